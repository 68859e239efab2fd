import Derived.Test.YtfcogogpioeggaaDoorKh
namespace Go.Proofs.YtfcogogpioeggaaDoor
open Go.RowKit
/- Regions that draw their order and end with a store into a cell that they load: S need not hold behind that last operation. -/
section
variable {P : Program} {ops : Array Oper} {Q : Exit → Act → World → Prop} {md : Region.Mode} {S : World → Prop} {L : Nat}
/-- Whatever order is picked from here on, and S holds behind every operation but the last. -/
def wpAnyT (P : Program) (md : Region.Mode) (ops : Array Oper) (Q : Exit → Act → World → Prop) (S : World → Prop) (L : Nat) : Nat → Array Bool → Act → World → Prop
  | 0, listed, a, w => Region.ready md ops listed = [] ∧ Q .normal a w
  | fuel + 1, listed, a, w =>
    (Region.ready md ops listed = [] → Q .normal a w) ∧
    ∀ i ∈ Region.ready md ops listed, wpOp P ops Q i (fun a' w' => (i ≠ L → S w') ∧ wpAnyT P md ops Q S L fuel (listed.setIfInBounds i true) a' w') a w
theorem wpAny_of_T : ∀ (fuel : Nat) (listed : Array Bool) (a : Act) (w : World), wpAnyT P md ops Q S L fuel listed a w → wpAny P md ops Q fuel listed a w
  | 0, _, _, _, h => h
  | fuel + 1, _, _, _, h => ⟨h.1, fun i hi => wpOp_mono (fun a' w' h' => wpAny_of_T fuel _ a' w' h'.2) (h.2 i hi)⟩
/-- Number L waits for number i. -/
def waitsOn (md : Region.Mode) (ops : Array Oper) (L i : Nat) : Bool := match ops[L]? with
  | some o => o.after.any fun e => Region.binds md e && e.on == i
  | none => false
theorem waitsOn_spec {i : Nat} (h : waitsOn md ops L i = true) : ∃ oL, ops[L]? = some oL ∧ ∃ e ∈ oL.after, Region.binds md e = true ∧ e.on = i := by
  unfold waitsOn at h
  split at h
  · rename_i o ho
    rw [Array.any_eq_true'] at h
    obtain ⟨e, he, h⟩ := h
    simp only [Bool.and_eq_true, beq_iff_eq] at h
    exact ⟨o, ho, e, he, h.1, h.2⟩
  · cases h
/-- Each waits for the one ahead of it. -/
def chainW (md : Region.Mode) (ops : Array Oper) : Nat → List Nat → Bool
  | _, [] => true
  | p, q :: r => waitsOn md ops q p && chainW md ops q r
theorem not_ready {listed : Array Bool} {j p : Nat} (hj : j ∈ Region.ready md ops listed) (hw : waitsOn md ops j p = true) (hp : listed.getD p true = false) : False := by
  obtain ⟨oj, hoj, e, he, hb, heq⟩ := waitsOn_spec hw
  obtain ⟨_, oj', hoj', hall⟩ := mem_ready.1 hj
  rw [hoj] at hoj'
  injection hoj' with e'
  subst e'
  have h1 := hall e he hb
  rw [heq] at h1
  rcases Nat.lt_or_ge p listed.size with h' | h'
  · simp [h'] at hp h1; rw [hp] at h1; cases h1
  · simp [Array.getElem?_eq_none h'] at h1
theorem not_in_chain {listed : Array Bool} {j : Nat} (hj : j ∈ Region.ready md ops listed) : ∀ (p : Nat) (r : List Nat), chainW md ops p r = true → listed.getD p true = false → (∀ q ∈ r, listed.getD q true = false) → j ∉ r
  | _, [], _, _, _ => by simp
  | p, q :: r, h, hp, hr => by
    unfold chainW at h
    rw [Bool.and_eq_true] at h
    intro hm
    rcases List.mem_cons.1 hm with rfl | hm
    · exact not_ready hj h.1 hp
    · exact not_in_chain hj q r h.2 (hr q (List.mem_cons_self ..)) (fun x hx => hr x (List.mem_cons_of_mem _ hx)) hm
theorem wpAnyT_first {i : Nat} {oi : Oper} {v : Value} {path : List Nat} (hi : ops[i]? = some oi) (hch : chainW md ops i path = true) (hLp : L ∈ path) (hsel : ∀ (j : Nat) (o : Oper) cs b, ops[j]? = some o → o.op ≠ .select cs b)
    (hQ : ∀ c a w, Q (.panic c) (a.put oi.dst v) w → Q (.panic c) a w) :
    ∀ (fuel : Nat) (listed : Array Bool) (a : Act) (w : World),
      (∀ j oj, ops[j]? = some oj → j ≠ i → listed.getD j true = false → (∀ e ∈ oj.after, Region.binds md e = true → e.on ≠ i) → oi.apart ops oj = true) →
      i ∈ Region.ready md ops listed → (∀ q ∈ path, listed.getD q true = false) → YieldsIf P ops S oi v a → S w →
      wpAnyT P md ops Q S L fuel (listed.setIfInBounds i true) (a.put oi.dst v) w → wpAnyT P md ops Q S L (fuel + 1) listed a w := by
  intro fuel
  induction fuel with
  | zero =>
    intro listed a w _ hr _ hy hS H
    refine ⟨fun h => (by rw [h] at hr; cases hr), fun j hj => ?_⟩
    by_cases hji : j = i
    · subst hji; exact hy.wpOp hi hS ⟨fun _ => hS, H⟩
    · have := ready_mono hj hji
      rw [H.1] at this
      cases this
  | succ fuel ih =>
    intro listed a w hfree hr hpa hy hS H
    refine ⟨fun h => (by rw [h] at hr; cases hr), fun j hj => ?_⟩
    by_cases hji : j = i
    · subst hji; exact hy.wpOp hi hS ⟨fun _ => hS, H⟩
    · have h1 := H.2 j (ready_mono hj hji)
      obtain ⟨hjun, oj, hoj, hall⟩ := mem_ready.1 hj
      have hnot : ∀ e ∈ oj.after, Region.binds md e = true → e.on ≠ i := fun e he hb heq => by
        have h1 := hall e he hb
        have h0 := (mem_ready.1 hr).1
        rw [heq] at h1
        rcases Nat.lt_or_ge i listed.size with h' | h'
        · simp [h'] at h0 h1; rw [h0] at h1; cases h1
        · simp [Array.getElem?_eq_none h'] at h1
      have hjp : j ∉ path := not_in_chain hj i path hch (mem_ready.1 hr).1 hpa
      have hjL : j ≠ L := fun e => hjp (e ▸ hLp)
      have hpa' : ∀ q ∈ path, (listed.setIfInBounds j true).getD q true = false := fun q hq => by
        have hne : j ≠ q := by rintro rfl; exact hjp hq
        rw [getD_set_ne true hne]; exact hpa q hq
      have h2 := wpOp_putIf hoj (hfree j oj hoj hji hjun hnot) (fun cs b => hsel i oi cs b hi) (fun cs b => hsel j oj cs b hoj) hQ hy h1
      have hfree' : ∀ k ok, ops[k]? = some ok → k ≠ i → (listed.setIfInBounds j true).getD k true = false →
          (∀ e ∈ ok.after, Region.binds md e = true → e.on ≠ i) → oi.apart ops ok = true := fun k ok hk hki hun hno => by
        refine hfree k ok hk hki ?_ hno
        by_cases hjk : j = k
        · subst hjk; exact hjun
        · rw [getD_set_ne true hjk] at hun; exact hun
      refine wpOp_mono (fun a' w' h3 => ⟨fun _ => h3.2.1 hjL, ih (listed.setIfInBounds j true) a' w' hfree' (ready_mono hr (Ne.symm hji)) hpa' h3.1 (h3.2.1 hjL) ?_⟩) h2
      rw [Array.setIfInBounds_comm _ _ hji]
      exact h3.2.2
theorem wpAnyT_take {i : Nat} {oi : Oper} {v : Value} {fuel : Nat} {listed : Array Bool} {a : Act} {w : World} (path : List Nat) (hi : ops[i]? = some oi)
    (hs : Region.noSelect ops = true) (hf : Region.free md ops listed i = true) (hr : (Region.ready md ops listed).contains i = true) (hch : chainW md ops i path = true) (hLp : path.contains L = true) (hpa : (path.all fun q => !listed.getD q true) = true)
    (hQ : ∀ c a w, Q (.panic c) (a.put oi.dst v) w → Q (.panic c) a w) (hy : YieldsIf P ops S oi v a) (hS : S w)
    (h : wpAnyT P md ops Q S L fuel (listed.setIfInBounds i true) (a.put oi.dst v) w) : wpAnyT P md ops Q S L (fuel + 1) listed a w :=
  wpAnyT_first (path := path) hi hch (by simpa using hLp) (Region.noSelect_spec hs) hQ fuel listed a w (Region.free_spec hi hf) (by simpa using hr) (fun q hq => by have := List.all_eq_true.1 hpa q hq; simpa using this) hy hS h
theorem wpAnyT_done {listed : Array Bool} {a : Act} {w : World} (hr : Region.ready md ops listed = []) (h : Q .normal a w) :
    ∀ fuel, wpAnyT P md ops Q S L fuel listed a w
  | 0 => ⟨hr, h⟩
  | _ + 1 => ⟨fun _ => h, by rw [hr]; simp⟩
/-- One operation alone may come up. -/
theorem wpAnyT_one {i : Nat} {o : Oper} {fuel : Nat} {listed : Array Bool} {a : Act} {w : World} (hr : Region.ready md ops listed = [i]) (ho : ops[i]? = some o)
    (h : ∀ K' : Act → World → Prop, Shut (∀ a w, (i ≠ L → S w) → wpAnyT P md ops Q S L fuel (listed.setIfInBounds i true) a w → K' a w) → if Region.wanted o (yielded ops a.tmps) = true then Oper.wp P o a w K' Q else K' (a.put o.dst undef) w) :
    wpAnyT P md ops Q S L (fuel + 1) listed a w := by
  refine And.intro (fun h0 => absurd (hr.symm.trans h0) (List.cons_ne_nil _ _)) ?_
  intro j hj
  rw [hr, List.mem_singleton] at hj
  subst hj
  exact wpOp_step ho (fun K' hK => h K' (fun a w h1 h2 => hK a w ⟨h1, h2⟩))
theorem wp_region_T {id : Nat} {a : Act} {w : World} (hm : P.follows .mixedOrders = true)
    (h : wpAnyT P .any ops Q S L ops.size (Array.replicate ops.size false) a w.drew) : (Code.region id ops true).wp P Q a w := wp_region_any hm (wpAny_of_T _ _ _ _ h)
end
end Go.Proofs.YtfcogogpioeggaaDoor
