import Derived.Test.YtgdmcmicfoamlaaGreatDoorMixDd
set_option linter.unusedVariables false
set_option linter.unusedSimpArgs false
set_option maxHeartbeats 400000
set_option maxRecDepth 100000
namespace Go.Proofs.YtgdmcmicfoamlaaGreatDoor
open Go.RowKit
section
variable {P : Program} {ops : Array Oper} {Q : Exit → Act → World → Prop} {md : Region.Mode}
theorem Qa {l : Array Bool} {j : Nat} (h : j < l.size) (a b : Bool) : l.getD j a = l.getD j b := by
 simp [Array.getD, h]
theorem Zlf (htop : ∀ (j : Nat) o, ops[j]? = some o → ∀ e ∈ o.after, e.on < j) {listed : Array Bool} (hsz : listed.size = ops.size) (h : Region.ready md ops listed = []) :
 ∀ j, j < ops.size → listed.getD j true = true := by
 intro j
 induction j using Nat.strongRecOn with
 | _ j ih =>
  intro hj
  cases hf : listed.getD j true with
  | true => rfl
  | false =>
   have : j ∈ Region.ready md ops listed := by
    refine mem_ready.2 ⟨hf, ops[j], Array.getElem?_eq_getElem hj, fun e he _ => ?_⟩
    have h1 := htop j _ (Array.getElem?_eq_getElem hj) e he
    rw [Qa (by omega) false true]
    exact ih e.on h1 (by omega)
   rw [h] at this
   cases this
def Zlz (l : Array Bool) : Nat := l.toList.count false
theorem Zmg {l : Array Bool} {i : Nat} (h : l.getD i true = false) : Zlz (l.setIfInBounds i true) + 1 = Zlz l := by
 have hi : i < l.size := by
  cases Nat.lt_or_ge i l.size with
  | inl h1 => exact h1
  | inr h1 => simp [Array.getD, Nat.not_lt.2 h1] at h
 have hv : l[i] = false := by simpa [Array.getD, hi] using h
 unfold Zlz
 rw [Array.toList_setIfInBounds, List.count_set (by simpa using hi)]
 have hpos : 0 < l.toList.count false := List.count_pos_iff.2 (by rw [← hv]; simp)
 rw [if_pos (by simp [hv]), if_neg (by decide)]
 omega
theorem Zo5 {l : Array Bool} (h : Zlz l = 0) (j : Nat) : l.getD j true = true := by
 cases hf : l.getD j true with
 | true => rfl
 | false => have := Zmg hf; omega
theorem Zrf (I : Array Bool → Act → World → Prop) (htop : ∀ (j : Nat) o, ops[j]? = some o → ∀ e ∈ o.after, e.on < j)
 (hstep : ∀ (listed : Array Bool) (a : Act) (w : World) (i : Nat) (o : Oper), ops[i]? = some o → listed.getD i true = false → (∀ e ∈ o.after, Region.binds md e = true → listed.getD e.on false = true) → listed.size = ops.size → I listed a w →
  ∀ K' : Act → World → Prop, Shut (∀ a w, I (listed.setIfInBounds i true) a w → K' a w) → if Region.wanted o (yielded ops a.tmps) = true then Oper.wp P o a w K' Q else K' (a.put o.dst undef) w)
 (hend : ∀ (listed : Array Bool) (a : Act) (w : World), (∀ j, j < ops.size → listed.getD j true = true) → I listed a w → Q .normal a w) :
 ∀ (fuel : Nat) (listed : Array Bool) (a : Act) (w : World), listed.size = ops.size → Zlz listed ≤ fuel → I listed a w → wpAny P md ops Q fuel listed a w := by
 intro fuel
 induction fuel with
 | zero =>
  intro listed a w hsz ho hI
  have hz := Zo5 (Nat.le_zero.1 ho)
  refine ⟨?_, hend listed a w (fun j _ => hz j) hI⟩
  cases hr : Region.ready md ops listed with
  | nil => rfl
  | cons i rs =>
   have hm : i ∈ Region.ready md ops listed := by rw [hr]; exact List.mem_cons_self
   have h1 := (mem_ready.1 hm).1
   rw [hz i] at h1
   cases h1
 | succ fuel ih =>
  intro listed a w hsz ho hI
  refine ⟨fun hr => hend listed a w (Zlf htop hsz hr) hI, fun i hi => ?_⟩
  obtain ⟨h1, o, h2, h3⟩ := mem_ready.1 hi
  refine wpOp_mono (fun a' w' h => ?_) (wpOp_step (K := fun a w => I (listed.setIfInBounds i true) a w) h2 (fun K' hK => hstep listed a w i o h2 h1 h3 hsz hI K' hK))
  exact ih _ a' w' (by simpa using hsz) (by have := Zmg h1; omega) h
theorem Qe {id : Nat} {a : Act} {w : World} (I : Array Bool → Act → World → Prop) (hm : P.follows .mixedOrders = true) (htop : ∀ (j : Nat) o, ops[j]? = some o → ∀ e ∈ o.after, e.on < j)
 (h0 : I (Array.replicate ops.size false) a w.drew)
 (hstep : ∀ (listed : Array Bool) (a : Act) (w : World) (i : Nat) (o : Oper), ops[i]? = some o → listed.getD i true = false → (∀ e ∈ o.after, Region.binds .any e = true → listed.getD e.on false = true) → listed.size = ops.size → I listed a w →
  ∀ K' : Act → World → Prop, Shut (∀ a w, I (listed.setIfInBounds i true) a w → K' a w) → if Region.wanted o (yielded ops a.tmps) = true then Oper.wp P o a w K' Q else K' (a.put o.dst undef) w)
 (hend : ∀ (listed : Array Bool) (a : Act) (w : World), (∀ j, j < ops.size → listed.getD j true = true) → I listed a w → Q .normal a w) :
 (Code.region id ops true).wp P Q a w :=
 wp_region_any hm (Zrf I htop hstep hend _ _ _ _ (by simp) (by simp [Zlz]) h0)
end
end Go.Proofs.YtgdmcmicfoamlaaGreatDoor
namespace Go.Proofs.YtgdmcmicfoamlaaGreatDoor
open Go.RowKit
def Zpm (w : World) (C : Nat) : Prop := w.cell? ⟨C, 0, none⟩ = some (.string ⟨#[]⟩) ∧ (∀ k : Nat, 1 ≤ k → k < 11 → w.cell? ⟨C, k, none⟩ = some (.int .i64 0)) ∧ ∀ i, w.frozen? ⟨C, i, none⟩ = false
def Zha (u : Int) (w : World) (X n : Nat) : Prop := ∀ j, j < n → ∃ z : Int, -1 ≤ z ∧ z ≤ u ∧ w.cell? ⟨X, j, none⟩ = some (.int .i64 z)
theorem Zha.grow {u : Int} {w w' : World} {X n R : Nat} (h : Zha u w X n) (hX : X ≠ R) (hl : X < w.heap.size) (hg : w.grownBy w' (some R)) : Zha u w' X n := by
 intro j hj
 obtain ⟨z, h1, h2, h3⟩ := h j hj
 exact ⟨z, h1, h2, (World.cell?_of_block (hg.block X hl (fun e => by injection e with e; omega))).trans h3⟩
def ub (j : Nat) : Int := if j ≤ 6 then 5 else 3
def CF (R B : Nat) (j : Nat) (v : Value) (W : World) : Prop :=
 if j = 0 ∨ j = 3 ∨ j = 8 then v = .pointer (some ⟨R, 0, none⟩)
 else if j = 1 then ∃ tx : ByteArray, v = .string tx ∧ tx.size ≤ 30
 else if j = 2 ∨ j = 7 then ∃ X, v = .slice (some ⟨X, 0, none⟩) 6 6 ∧ Zha (ub j) W X 6 ∧ X ≠ R ∧ X < W.heap.size
 else if j = 4 ∨ j = 9 then ∃ q : Nat, v = .int .i64 q ∧ q < 6
 else if j = 5 ∨ j = 10 then ∃ (X q : Nat) (z : Int), v = .pointer (some ⟨X, q, none⟩) ∧ W.cell? ⟨X, q, none⟩ = some (.int .i64 z) ∧ -1 ≤ z ∧ z ≤ ub j ∧ X ≠ R ∧ X < W.heap.size
 else if j = 6 ∨ j = 11 then ∃ z : Int, v = .int .i64 z ∧ -1 ≤ z ∧ z ≤ ub j
 else if j = 12 then ∃ (tx : ByteArray) (a b : Int), v = .agg #[.string tx, .int .i64 a, .int .i64 b, .int .i64 0, .int .i64 0, .int .i64 0, .int .i64 0, .int .i64 0, .int .i64 0, .int .i64 0, .int .i64 0] ∧ tx.size ≤ 30 ∧ -1 ≤ a ∧ a ≤ 5 ∧ -1 ≤ b ∧ b ≤ 3
 else if j = 13 then ∃ C, v = .pointer (some ⟨C, 0, none⟩) ∧ Zpm W C ∧ C ≠ R ∧ B ≤ C ∧ C < W.heap.size
 else True
theorem CF.grow {R B j : Nat} {v : Value} {W W' : World} (h : CF R B j v W) (hg : W.grownBy W' (some R)) : CF R B j v W' := by
 have hk : ∀ X, X ≠ R → X < W.heap.size → W'.heap[X]? = W.heap[X]? := fun X h1 h2 => hg.block X h2 (fun e => by injection e with e; omega)
 unfold CF at *
 by_cases c1 : j = 0 ∨ j = 3 ∨ j = 8
 · simpa only [if_pos c1] using h
 simp only [if_neg c1] at h ⊢
 by_cases c2 : j = 1
 · simpa only [if_pos c2] using h
 simp only [if_neg c2] at h ⊢
 by_cases c3 : j = 2 ∨ j = 7
 · simp only [if_pos c3] at h ⊢
   obtain ⟨X, h1, h2, h3, h4⟩ := h
   exact ⟨X, h1, h2.grow h3 h4 hg, h3, Nat.lt_of_lt_of_le h4 hg.size⟩
 simp only [if_neg c3] at h ⊢
 by_cases c4 : j = 4 ∨ j = 9
 · simpa only [if_pos c4] using h
 simp only [if_neg c4] at h ⊢
 by_cases c5 : j = 5 ∨ j = 10
 · simp only [if_pos c5] at h ⊢
   obtain ⟨X, q, z, h1, h2, h3, h4, h5, h6⟩ := h
   exact ⟨X, q, z, h1, (World.cell?_of_block (hk X h5 h6)).trans h2, h3, h4, h5, Nat.lt_of_lt_of_le h6 hg.size⟩
 simp only [if_neg c5] at h ⊢
 by_cases c6 : j = 6 ∨ j = 11
 · simpa only [if_pos c6] using h
 simp only [if_neg c6] at h ⊢
 by_cases c7 : j = 12
 · simpa only [if_pos c7] using h
 simp only [if_neg c7] at h ⊢
 by_cases c8 : j = 13
 · simp only [if_pos c8] at h ⊢
   obtain ⟨C, h1, ⟨h2, h3, h4⟩, h5, h6, h7⟩ := h
   exact ⟨C, h1, ⟨(World.cell?_of_block (hk C h5 h7)).trans h2, fun k k1 k2 => (World.cell?_of_block (hk C h5 h7)).trans (h3 k k1 k2), fun i => (World.frozen?_of_block (hk C h5 h7)).trans (h4 i)⟩, h5, h6, Nat.lt_of_lt_of_le h7 hg.size⟩
 simp only [if_neg c8]
def cnt (l : Array Bool) : Nat := (if l.getD 1 false then 7 else 0) + (if l.getD 4 false then 1 else 0) + (if l.getD 9 false then 1 else 0)
def Zcp (R H : Nat) (n : Int) (vs : Nat → Value) : Act :=
 ⟨#[.pointer (some ⟨R, 0, none⟩), .int .i64 n, undef, undef, .pointer (some ⟨H, 0, none⟩), vs 13, vs 0, vs 1, vs 2, vs 3, vs 4, vs 5, vs 6, vs 7, vs 8, vs 9, vs 10, vs 11, vs 12, undef, undef, undef, undef, undef, undef, undef, undef, undef, undef, undef, undef, undef, undef, undef, undef, undef, undef, undef, undef, undef, undef, undef, undef, undef, undef, undef, undef, undef, undef, undef, undef, undef, undef, undef, undef, undef, undef, undef, undef, undef, undef, undef, undef, undef, undef, undef, undef, undef, undef, undef], []⟩
structure Zue (V : World) (R N : Nat) (l : Array Bool) (vs : Nat → Value) (W : World) : Prop where
 size : l.size = 15
 last : l.getD 14 false = false
 rdr : ∃ p, Qh W R p ∧ p ≤ N + cnt l
 grown : V.grownBy W (some R)
 held : ∀ j, l.getD j false = true → CF R V.heap.size j (vs j) W
def Zd (vs : Nat → Value) (i : Nat) (v : Value) : Nat → Value := fun j => if j = i then v else vs j
theorem Za7 {l : Array Bool} {i : Nat} (hl : l.getD i true = false) (hi : i < l.size) : cnt (l.setIfInBounds i true) = cnt l + (if i = 1 then 7 else if i = 4 ∨ i = 9 then 1 else 0) := by
 have hf : l.getD i false = false := by rw [Qa hi false true]; exact hl
 have ht : (l.setIfInBounds i true).getD i false = true := by simp [Array.getD, hi]
 unfold cnt
 by_cases h1 : i = 1
 · subst h1
   rw [ht, hf, getD_set_ne false (by decide), getD_set_ne false (by decide)]; simp; omega
 by_cases h4 : i = 4
 · subst h4
   rw [ht, hf, getD_set_ne false (by decide), getD_set_ne false (by decide)]; simp; omega
 by_cases h9 : i = 9
 · subst h9
   rw [ht, hf, getD_set_ne false (by decide), getD_set_ne false (by decide)]; simp
 rw [getD_set_ne false h1, getD_set_ne false h4, getD_set_ne false h9]; simp [h1, h4, h9]
theorem Zue.next {V : World} {R N : Nat} {l : Array Bool} {vs : Nat → Value} {W W' : World} (h : Zue V R N l vs W) {i : Nat} (hl : l.getD i true = false) (hi : i < l.size) (h14 : i ≠ 14) (v : Value)
 (hg : W.grownBy W' (some R)) (hr : ∀ p, Qh W R p → p ≤ N + cnt l → ∃ p', Qh W' R p' ∧ p' ≤ N + cnt (l.setIfInBounds i true)) (hF : CF R V.heap.size i v W') : Zue V R N (l.setIfInBounds i true) (Zd vs i v) W' := by
 obtain ⟨p, hp1, hp2⟩ := h.rdr
 refine ⟨by simpa using h.size, by rw [getD_set_ne false h14]; exact h.last, hr p hp1 hp2, Zk h.grown hg, fun j hj => ?_⟩
 unfold Zd
 by_cases e : j = i
 · subst e; rw [if_pos rfl]; exact hF
 rw [if_neg e]
 rw [getD_set_ne false (Ne.symm e)] at hj
 exact (h.held j hj).grow hg
end Go.Proofs.YtgdmcmicfoamlaaGreatDoor
namespace Go.Proofs.YtgdmcmicfoamlaaGreatDoor
open Go.RowKit
def Zh (W : World) (C : Nat) (cs : List Value) : Prop := (∀ k u, cs[k]? = some u → W.cell? ⟨C, k, none⟩ = some u) ∧ ∀ i, W.frozen? ⟨C, i, none⟩ = false
theorem Zh.keep {W W' : World} {C : Nat} {cs : List Value} (h : Zh W C cs) (hk : W'.heap[C]? = W.heap[C]?) : Zh W' C cs :=
 ⟨fun k u hu => (World.cell?_of_block hk).trans (h.1 k u hu), fun i => (World.frozen?_of_block hk).trans (h.2 i)⟩
theorem Zh.set {W : World} {C : Nat} {cs : List Value} (h : Zh W C cs) {k : Nat} (hk : k < cs.length) (v : Value) : Zh (W.setCell ⟨C, k, none⟩ v) C (cs.set k v) := by
 refine ⟨fun j u hu => ?_, fun i => by simpa using h.2 i⟩
 by_cases e : k = j
 ·
  subst e
  rw [List.getElem?_set_self hk] at hu
  injection hu with hu
  subst hu
  exact Zdq (h.1 k _ (List.getElem?_eq_getElem hk))
 rw [List.getElem?_set_ne e] at hu
 exact Zs (h.1 j u hu) (fun e' => by injection e' with _ e'; exact e e')
theorem Zh.other {W : World} {C : Nat} {cs : List Value} (h : Zh W C cs) {a : Addr} (ha : a.block ≠ C) (v : Value) : Zh (W.setCell a v) C cs :=
 h.keep (Zak W a v C (Ne.symm ha))
theorem Zh.new (W : World) (cs : List Value) (T : TypeId) : Zh (W.alloc (.cells cs.toArray T)) W.heap.size cs :=
 ⟨fun k u hu => Zj _ _ _ _ _ _ (by simpa using hu), fun i => by simp⟩
def Zqy : List Value := [.string ⟨#[]⟩, .int .i64 0, .int .i64 0, .int .i64 0, .int .i64 0, .int .i64 0, .int .i64 0, .int .i64 0, .int .i64 0, .int .i64 0, .int .i64 0]
structure CSt (w W : World) (R N H C : Nat) (cs : List Value) : Prop where
 rdr : Qh W R N
 grown : w.grownBy W (some R)
 pos : w.heap.size ≤ H ∧ R < w.heap.size ∧ H < C ∧ C < W.heap.size
 res : Zh W H Zqy
 blk : Zh W C cs
 len : cs.length = 11
theorem CSt.pick {w W W' : World} {R N N' H C : Nat} {cs : List Value} (h : CSt w W R N H C cs) (hR : Qh W' R N') (hg : W.grownBy W' (some R)) : CSt w W' R N' H C cs := by
 obtain ⟨p1, p2, p3, p4⟩ := h.pos
 exact ⟨hR, Zk h.grown hg, ⟨p1, p2, p3, Nat.lt_of_lt_of_le p4 hg.size⟩, h.res.keep (hg.block H (by omega) (fun e => by injection e with e; omega)), h.blk.keep (hg.block C (by omega) (fun e => by injection e with e; omega)), h.len⟩
theorem CSt.alloc {w W : World} {R N H C : Nat} {cs : List Value} (h : CSt w W R N H C cs) (o : Obj) : CSt w (W.alloc o) R N H C cs :=
 h.pick (h.rdr.below (Zc (Zf W) o)) (World.grownBy_alloc W o (some R))
theorem CSt.set {w W : World} {R N H C : Nat} {cs : List Value} (h : CSt w W R N H C cs) (k : Nat) (hk : k < 11) (v : Value) : CSt w (W.setCell ⟨C, k, none⟩ v) R N H C (cs.set k v) := by
 obtain ⟨p1, p2, p3, p4⟩ := h.pos
 exact ⟨Js h.rdr (by show R < C; omega) _, Qs h.grown (by show _ ≤ C; omega) _, ⟨p1, p2, p3, by simpa using p4⟩, h.res.other (by show C ≠ H; omega) _, h.blk.set (by rw [h.len]; exact hk) _, by rw [List.length_set]; exact h.len⟩
theorem CSt.mono {w W : World} {R N N' H C : Nat} {cs : List Value} (h : CSt w W R N H C cs) (hN : N ≤ N') : CSt w W R N' H C cs :=
 ⟨h.rdr.mono hN, h.grown, h.pos, h.res, h.blk, h.len⟩
theorem CSt.put {w W : World} {R N H C : Nat} {cs : List Value} (h : CSt w W R N H C cs) (k : Nat) (v : Value) : Qh (W.setCell ⟨H, k, none⟩ v) R N ∧ w.grownBy (W.setCell ⟨H, k, none⟩ v) (some R) := by
 obtain ⟨p1, p2, p3, p4⟩ := h.pos
 exact ⟨Js h.rdr (by show R < H; omega) _, Qs h.grown (by show _ ≤ H; omega) _⟩
theorem Ze {w W : World} {R N H : Nat} (h : Qh W R N ∧ w.grownBy W (some R)) (hR : R < w.heap.size) (hH : w.heap.size ≤ H) (k : Nat) (v : Value) : Qh (W.setCell ⟨H, k, none⟩ v) R N ∧ w.grownBy (W.setCell ⟨H, k, none⟩ v) (some R) :=
 ⟨Js h.1 (by show R < H; omega) _, Qs h.2 hH _⟩
def Zf9 (b : Brd) : Prop := -1 ≤ b.s ∧ b.s ≤ 5 ∧ -1 ≤ b.w ∧ b.w ≤ 5
def Zbl (c : Qi) : Prop := c.t.size ≤ 100 ∧ -1 ≤ c.c ∧ c.c ≤ 5 ∧ -1 ≤ c.r ∧ c.r ≤ 5 ∧ c.r ≠ 4 ∧ Zf9 c.top ∧ Zf9 c.right ∧ Zf9 c.bot ∧ Zf9 c.left
def Ztq (R N : Nat) (w : World) (e : Ending) (w' : World) : Prop :=
 ∃ c : Qi, e = .returned (.agg (Qv c).toArray) ∧ Zbl c ∧ Qh w' R N ∧ w.grownBy w' (some R)
theorem CSt.cast {w W : World} {R N H C : Nat} {cs : List Value} (h : CSt w W R N H C cs) (cs' : List Value) (e : cs = cs') : CSt w W R N H C cs' := e ▸ h
theorem CSt.setAll {w W : World} {R N H C : Nat} {cs : List Value} (h : CSt w W R N H C cs) (v0 v1 v2 v3 v4 v5 v6 v7 v8 v9 v10 : Value) : CSt w (((((((((((W.setCell ⟨C, 0, none⟩ v0).setCell ⟨C, 1, none⟩ v1).setCell ⟨C, 2, none⟩ v2).setCell ⟨C, 3, none⟩ v3).setCell ⟨C, 4, none⟩ v4).setCell ⟨C, 5, none⟩ v5).setCell ⟨C, 6, none⟩ v6).setCell ⟨C, 7, none⟩ v7).setCell ⟨C, 8, none⟩ v8).setCell ⟨C, 9, none⟩ v9).setCell ⟨C, 10, none⟩ v10) R N H C [v0, v1, v2, v3, v4, v5, v6, v7, v8, v9, v10] := by
 refine ((((((((((((h.set 0 (by decide) v0).set 1 (by decide) v1).set 2 (by decide) v2).set 3 (by decide) v3).set 4 (by decide) v4).set 5 (by decide) v5).set 6 (by decide) v6).set 7 (by decide) v7).set 8 (by decide) v8).set 9 (by decide) v9).set 10 (by decide) v10)).cast _ ?_
 match cs, h.len with
 | [_, _, _, _, _, _, _, _, _, _, _], _ => rfl
theorem Ztz (w W : World) (R N C : Nat) (tx : ByteArray) (z1 z2 : Int) (T : TypeId) (hr : Qh W R N) (hRl : R < w.heap.size)
 (hg : (w.alloc (.cells #[.string ⟨#[]⟩, .int .i64 0, .int .i64 0, .int .i64 0, .int .i64 0, .int .i64 0, .int .i64 0, .int .i64 0, .int .i64 0, .int .i64 0, .int .i64 0] T)).grownBy W (some R))
 (hVC : (w.alloc (.cells #[.string ⟨#[]⟩, .int .i64 0, .int .i64 0, .int .i64 0, .int .i64 0, .int .i64 0, .int .i64 0, .int .i64 0, .int .i64 0, .int .i64 0, .int .i64 0] T)).heap.size ≤ C) (hCW : C < W.heap.size)
 (y0 : W.cell? ⟨C, 0, none⟩ = some (.string tx)) (y1 : W.cell? ⟨C, 1, none⟩ = some (.int .i64 z1)) (y2 : W.cell? ⟨C, 2, none⟩ = some (.int .i64 z2)) (yk : ∀ k : Nat, 3 ≤ k → k < 11 → W.cell? ⟨C, k, none⟩ = some (.int .i64 0)) (yf : ∀ i, W.frozen? ⟨C, i, none⟩ = false) :
 CSt w W R N w.heap.size C [.string tx, .int .i64 z1, .int .i64 z2, .int .i64 0, .int .i64 0, .int .i64 0, .int .i64 0, .int .i64 0, .int .i64 0, .int .i64 0, .int .i64 0] := by
 have hs : w.heap.size + 1 ≤ C := by simpa using hVC
 refine ⟨hr, Zk (World.grownBy_alloc w _ _) hg, ⟨Nat.le_refl _, hRl, by omega, hCW⟩, (Zh.new w Zqy T).keep (hg.block w.heap.size (by simp) (fun e => by injection e with e; omega)), ⟨fun k u hu => ?_, yf⟩, rfl⟩
 match k, hu with
 | 0, hu => injection hu with hu; subst hu; exact y0
 | 1, hu => injection hu with hu; subst hu; exact y1
 | 2, hu => injection hu with hu; subst hu; exact y2
 | 3, hu => injection hu with hu; subst hu; exact yk 3 (by decide) (by decide)
 | 4, hu => injection hu with hu; subst hu; exact yk 4 (by decide) (by decide)
 | 5, hu => injection hu with hu; subst hu; exact yk 5 (by decide) (by decide)
 | 6, hu => injection hu with hu; subst hu; exact yk 6 (by decide) (by decide)
 | 7, hu => injection hu with hu; subst hu; exact yk 7 (by decide) (by decide)
 | 8, hu => injection hu with hu; subst hu; exact yk 8 (by decide) (by decide)
 | 9, hu => injection hu with hu; subst hu; exact yk 9 (by decide) (by decide)
 | 10, hu => injection hu with hu; subst hu; exact yk 10 (by decide) (by decide)
 | k + 11, hu => cases hu
theorem Zt7 {z : Int} (h : -1 ≤ z) (h' : z ≤ 5) : -1 ≤ z ∧ z ≤ 5 := ⟨h, h'⟩
theorem Zuv {z : Int} (h : -1 ≤ z) (h' : z ≤ 3) : -1 ≤ z ∧ z ≤ 5 ∧ z ≠ 4 := by omega
theorem Zq1 : -1 ≤ (1 : Int) ∧ (1 : Int) ≤ 5 := by decide
theorem Zq8 : -1 ≤ (1 : Int) ∧ (1 : Int) ≤ 5 ∧ (1 : Int) ≠ 4 := by decide
theorem Ze0 : Zf9 ⟨0, 0⟩ := by unfold Zf9; decide
theorem Zu1 {s : ByteArray} (h : s.size ≤ 30) : s.size ≤ 100 := Nat.le_trans h (by decide)
theorem Zu6 {z : Int} (h : z = 0 ∨ z = 5 ∨ z = -1) : -1 ≤ z ∧ z ≤ 5 := by omega
theorem Zu7 {z : Int} (h : z = 0 ∨ z = 5 ∨ z = -1) : -1 ≤ z ∧ z ≤ 5 ∧ z ≠ 4 := by omega
theorem Zeh {c : Qi} (h : c.t.size ≤ 100) (h1 : -1 ≤ c.c ∧ c.c ≤ 5) (h2 : -1 ≤ c.r ∧ c.r ≤ 5 ∧ c.r ≠ 4) (h3 : Zf9 c.top) (h4 : Zf9 c.right) (h5 : Zf9 c.bot) (h6 : Zf9 c.left) : Zbl c :=
 ⟨h, h1.1, h1.2, h2.1, h2.2.1, h2.2.2, h3, h4, h5, h6⟩
def Zna (w : World) (X n : Nat) : Prop := ∀ j, j < n → ∃ z : Int, (z = 0 ∨ z = 5 ∨ z = -1) ∧ w.cell? ⟨X, j, none⟩ = some (.int .i64 z)
theorem Zna.grow {w w' : World} {X n R : Nat} (h : Zna w X n) (hX : X ≠ R) (hl : X < w.heap.size) (hg : w.grownBy w' (some R)) : Zna w' X n := by
 intro j hj
 obtain ⟨z, h1, h3⟩ := h j hj
 exact ⟨z, h1, (World.cell?_of_block (hg.block X hl (fun e => by injection e with e; omega))).trans h3⟩
theorem Zm3 (w : World) (T : TypeId) : Zna (w.alloc (.cells #[.int .i64 0, .int .i64 5, .int .i64 (-1)] T)) w.heap.size 3 := by
 intro j hj
 match j, hj with
 | 0, _ => exact ⟨0, by decide, Zj _ _ _ _ _ _ rfl⟩
 | 1, _ => exact ⟨5, by decide, Zj _ _ _ _ _ _ rfl⟩
 | 2, _ => exact ⟨-1, by decide, Zj _ _ _ _ _ _ rfl⟩
 | j + 3, hj => exact absurd hj (by omega)
theorem Zae {ops : Array Oper} (h : ((List.range ops.size).all fun j => match ops[j]? with | some o => o.after.all fun e => decide (e.on < j) | none => true) = true) : ∀ (j : Nat) o, ops[j]? = some o → ∀ e ∈ o.after, e.on < j := by
  intro j o ho e he
  have hj : j < ops.size := (Array.getElem?_eq_some_iff.1 ho).1
  have h1 := List.all_eq_true.1 h j (List.mem_range.2 hj)
  rw [ho] at h1
  simpa using Array.all_eq_true'.1 h1 e he
theorem ga {a b : Bool} (h : a = true) (h2 : b = true) : (a && b) = true := by rw [h, h2]; rfl
theorem Zce {l : Array Bool} {xs : Array Edge} (h : ∀ e ∈ xs, Region.binds .any e = true → l.getD e.on false = true) (n : Nat) (c : (xs.toList.any fun x => x.on == n && Region.binds .any x) = true) : l.getD n false = true := by
  obtain ⟨x, hx, h2⟩ := List.any_eq_true.1 c
  obtain ⟨h3, h4⟩ := Bool.and_eq_true_iff.1 h2
  have := h x (Array.mem_toList_iff.1 hx) h4
  rwa [eq_of_beq h3] at this
abbrev Zb : Value := undef
abbrev Ya (A : Option Addr) (t : Tbl) (c : Nat) (B : Option Addr) (d : Nat) : Value := .agg #[.slice A t.cols.length c, .int .i64 t.head, .int .i64 t.foot, .slice B t.rows.length d, .int .i64 t.gap]
theorem cs8 {i : Nat} (h : i < 8) : i = 0 ∨ i = 1 ∨ i = 2 ∨ i = 3 ∨ i = 4 ∨ i = 5 ∨ i = 6 ∨ i = 7 := by omega
theorem cs9 {i : Nat} (h : i < 9) : i = 0 ∨ i = 1 ∨ i = 2 ∨ i = 3 ∨ i = 4 ∨ i = 5 ∨ i = 6 ∨ i = 7 ∨ i = 8 := by omega
theorem Zve {i : Nat} (h : i < 10) : i = 0 ∨ i = 1 ∨ i = 2 ∨ i = 3 ∨ i = 4 ∨ i = 5 ∨ i = 6 ∨ i = 7 ∨ i = 8 ∨ i = 9 := by omega
theorem Zwj {i : Nat} (h : i < 12) : i = 0 ∨ i = 1 ∨ i = 2 ∨ i = 3 ∨ i = 4 ∨ i = 5 ∨ i = 6 ∨ i = 7 ∨ i = 8 ∨ i = 9 ∨ i = 10 ∨ i = 11 := by omega
theorem Zuu {i : Nat} (h : i < 13) : i = 0 ∨ i = 1 ∨ i = 2 ∨ i = 3 ∨ i = 4 ∨ i = 5 ∨ i = 6 ∨ i = 7 ∨ i = 8 ∨ i = 9 ∨ i = 10 ∨ i = 11 ∨ i = 12 := by omega
theorem Zwh {i : Nat} (h : i < 14) : i = 0 ∨ i = 1 ∨ i = 2 ∨ i = 3 ∨ i = 4 ∨ i = 5 ∨ i = 6 ∨ i = 7 ∨ i = 8 ∨ i = 9 ∨ i = 10 ∨ i = 11 ∨ i = 12 ∨ i = 13 := by omega
theorem Zwc {i : Nat} (h : i < 16) : i = 0 ∨ i = 1 ∨ i = 2 ∨ i = 3 ∨ i = 4 ∨ i = 5 ∨ i = 6 ∨ i = 7 ∨ i = 8 ∨ i = 9 ∨ i = 10 ∨ i = 11 ∨ i = 12 ∨ i = 13 ∨ i = 14 ∨ i = 15 := by omega
theorem Zv5 {i : Nat} (h : i < 21) : i = 0 ∨ i = 1 ∨ i = 2 ∨ i = 3 ∨ i = 4 ∨ i = 5 ∨ i = 6 ∨ i = 7 ∨ i = 8 ∨ i = 9 ∨ i = 10 ∨ i = 11 ∨ i = 12 ∨ i = 13 ∨ i = 14 ∨ i = 15 ∨ i = 16 ∨ i = 17 ∨ i = 18 ∨ i = 19 ∨ i = 20 := by omega
theorem Zwl {i : Nat} (h : i < 22) : i = 0 ∨ i = 1 ∨ i = 2 ∨ i = 3 ∨ i = 4 ∨ i = 5 ∨ i = 6 ∨ i = 7 ∨ i = 8 ∨ i = 9 ∨ i = 10 ∨ i = 11 ∨ i = 12 ∨ i = 13 ∨ i = 14 ∨ i = 15 ∨ i = 16 ∨ i = 17 ∨ i = 18 ∨ i = 19 ∨ i = 20 ∨ i = 21 := by omega
theorem Zvu {i : Nat} (h : i < 23) : i = 0 ∨ i = 1 ∨ i = 2 ∨ i = 3 ∨ i = 4 ∨ i = 5 ∨ i = 6 ∨ i = 7 ∨ i = 8 ∨ i = 9 ∨ i = 10 ∨ i = 11 ∨ i = 12 ∨ i = 13 ∨ i = 14 ∨ i = 15 ∨ i = 16 ∨ i = 17 ∨ i = 18 ∨ i = 19 ∨ i = 20 ∨ i = 21 ∨ i = 22 := by omega
theorem Zwd {i : Nat} (h : i < 24) : i = 0 ∨ i = 1 ∨ i = 2 ∨ i = 3 ∨ i = 4 ∨ i = 5 ∨ i = 6 ∨ i = 7 ∨ i = 8 ∨ i = 9 ∨ i = 10 ∨ i = 11 ∨ i = 12 ∨ i = 13 ∨ i = 14 ∨ i = 15 ∨ i = 16 ∨ i = 17 ∨ i = 18 ∨ i = 19 ∨ i = 20 ∨ i = 21 ∨ i = 22 ∨ i = 23 := by omega
theorem Zwa {i : Nat} (h : i < 25) : i = 0 ∨ i = 1 ∨ i = 2 ∨ i = 3 ∨ i = 4 ∨ i = 5 ∨ i = 6 ∨ i = 7 ∨ i = 8 ∨ i = 9 ∨ i = 10 ∨ i = 11 ∨ i = 12 ∨ i = 13 ∨ i = 14 ∨ i = 15 ∨ i = 16 ∨ i = 17 ∨ i = 18 ∨ i = 19 ∨ i = 20 ∨ i = 21 ∨ i = 22 ∨ i = 23 ∨ i = 24 := by omega
end Go.Proofs.YtgdmcmicfoamlaaGreatDoor
