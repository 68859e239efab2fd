import Derived.Test.YtfcogogpioeggaaDoorKm
import Derived.Lib.SliceRun
import Derived.Deep.RegionLaw
namespace Go.Proofs.YtfcogogpioeggaaDoor
open Go.RowKit
/- Edits that change how long rows are: plain laws on rows of one's own; edited, over whatever edit. -/
theorem own_setCells {base : Nat} {E : TypeId} {k g n cap : Nat} : ∀ (vs : List Value) (a : Nat) (w : World) (X : List Value), w.ownsRow base E k (.slice (some ⟨g, 0, none⟩) n cap) n X → (w.setCells g a vs).ownsRow base E k (.slice (some ⟨g, 0, none⟩) n cap) n (setL X a vs)
  | [], _, _, _, h => h
  | v :: vs, a, w, X, h => by
    rw [World.setCells, setL]
    exact own_setCells vs (a + 1) _ _ (h.stored a v).1
theorem grow_setCells {g : Nat} : ∀ (vs : List Value) (a : Nat) (w : World), w.grownBy (w.setCells g a vs) (some g)
  | [], _, w => grow_refl _ _
  | v :: vs, a, w => by
    rw [World.setCells]
    exact grow_trans (grow_set w rfl v) (grow_setCells vs (a + 1) _)
theorem setCells_size {g : Nat} (vs : List Value) (a : Nat) (w : World) : (w.setCells g a vs).heap.size = w.heap.size := by
  induction vs generalizing a w with
  | nil => rfl
  | cons v vs ih => rw [World.setCells, ih]; simp
theorem own_cut {w : World} {base : Nat} {E : TypeId} {k g n cap m : Nat} {X : List Value} (h : w.ownsRow base E k (.slice (some ⟨g, 0, none⟩) n cap) n X) (hm : m ≤ n) : w.ownsRow base E k (.slice (some ⟨g, 0, none⟩) m cap) m (X.take (m * k)) := by
  have hle : m * k ≤ n * k := Nat.mul_le_mul_right _ hm
  refine ⟨by rw [List.length_take, h.1]; omega, ?_⟩
  rcases h.2 with ⟨e, _⟩ | ⟨g', cap', cur, e, hb, hh, h1, h2, h3, h4⟩
  · cases e
  · injection e with e1 _ e2; injection e1 with e1; injection e1 with e1; subst e1; subst e2
    exact .inr ⟨g, cap, cur, rfl, hb, hh, by omega, h2, h3, by rw [← h4, List.take_take, Nat.min_eq_left hle]⟩
theorem setL_head (X vs : List Value) (a b : Nat) (hb : b ≤ a) (h : a + vs.length ≤ X.length) : (setL X a vs).take b = X.take b := by
  have h1 := congrArg (List.take b) (setL_take vs X a h)
  rw [List.take_take, Nat.min_eq_left (by omega), List.take_append_of_le_length (by rw [List.length_take]; omega), List.take_take, Nat.min_eq_left hb] at h1
  exact h1
theorem flat_take {α : Type} (enc : α → List Value) (k : Nat) (hk : ∀ x, (enc x).length = k) : ∀ (xs : List α) (i : Nat), (xs.flatMap enc).take (i * k) = (xs.take i).flatMap enc
  | [], i => by simp
  | x :: xs, 0 => by simp
  | x :: xs, i + 1 => by
    rw [List.flatMap_cons, List.take_succ_cons, List.flatMap_cons, List.take_append, hk, List.take_of_length_le (by rw [hk, Nat.succ_mul]; omega), show (i + 1) * k - k = i * k by rw [Nat.succ_mul]; omega, flat_take enc k hk xs i]
theorem flat_drop {α : Type} (enc : α → List Value) (k : Nat) (hk : ∀ x, (enc x).length = k) : ∀ (xs : List α) (i : Nat), (xs.flatMap enc).drop (i * k) = (xs.drop i).flatMap enc
  | [], i => by simp
  | x :: xs, 0 => by simp
  | x :: xs, i + 1 => by
    rw [List.flatMap_cons, List.drop_succ_cons, List.drop_append, hk, List.drop_of_length_le (by rw [hk, Nat.succ_mul]; omega), show (i + 1) * k - k = i * k by rw [Nat.succ_mul]; omega, flat_drop enc k hk xs i]
    rfl
/-- One element is gone: what lay behind it has moved ahead, and the last place holds noughts. -/
theorem own_delete {w : World} {base : Nat} {E : TypeId} {k g cap : Nat} {α : Type} (enc : α → List Value) (hk : ∀ x, (enc x).length = k) (cs : List α) (i : Nat) (hi : i < cs.length) (zs : List Value) (hz : zs.length = k)
    (h : w.ownsRow base E k (.slice (some ⟨g, 0, none⟩) cs.length cap) cs.length (cs.flatMap enc)) :
    ((w.setCells g (i * k) ((cs.drop (i + 1)).flatMap enc)).setCells g ((cs.length - 1) * k) zs).ownsRow base E k (.slice (some ⟨g, 0, none⟩) (cs.length - 1) cap) (cs.length - 1) ((cs.take i ++ cs.drop (i + 1)).flatMap enc) := by
  have hn := flatMap_length enc k hk
  have h1 := own_setCells ((cs.drop (i + 1)).flatMap enc) (i * k) w _ h
  have h2 := own_setCells zs ((cs.length - 1) * k) _ _ h1
  have h3 := own_cut h2 (m := cs.length - 1) (by omega)
  have hl1 : ((cs.drop (i + 1)).flatMap enc).length = (cs.length - 1 - i) * k := by rw [hn, List.length_drop]; congr 1; omega
  have hsum : i * k + (cs.length - 1 - i) * k = (cs.length - 1) * k := by rw [← Nat.add_mul]; congr 1; omega
  have hlast : (cs.length - 1) * k + k = cs.length * k := by rw [← Nat.succ_mul]; congr 1; omega
  have e : (setL (setL (cs.flatMap enc) (i * k) ((cs.drop (i + 1)).flatMap enc)) ((cs.length - 1) * k) zs).take ((cs.length - 1) * k) = (cs.take i ++ cs.drop (i + 1)).flatMap enc := by
    rw [setL_head _ _ _ _ (Nat.le_refl _) (by rw [setL_length, hn, hz]; omega)]
    have := setL_take ((cs.drop (i + 1)).flatMap enc) (cs.flatMap enc) (i * k) (by rw [hl1, hn, hsum]; omega)
    rw [hl1, hsum] at this
    rw [this, flat_take enc k hk, List.flatMap_append]
  rw [e] at h3
  exact h3
/-- 'clear(s)', s of one element. -/
theorem run_clear_one {P : Program} (w : World) (t e ty : TypeId) (z : Value) (ht : P.underlying t = some (.slice e)) (hv : ∀ w, (zeroValue e).run P w = .ok z w) (hz1 : Builtin.zeroCells z.cells 1 = z.cells) (b o c : Nat)
    (hc : ∀ j, j < z.cells.toList.length → (w.cell? ⟨b, o + j, none⟩).isSome = true) (hf : ∀ j, j < z.cells.toList.length → w.frozen? ⟨b, o + j, none⟩ = false) (h1 : ∀ v ∈ z.cells.toList, v.oneCell' = true) :
    (Builtin.clear_ #[t] ty #[.slice (some ⟨b, o, none⟩) 1 c]).run P w = .ok (.tuple #[]) (w.setCells b o z.cells.toList) := by
  have hst := run_storeCells_cells (P := P) b o z.cells.toList 0 w (by simpa using hc) (by simpa using hf) h1
  simp only [Nat.add_zero] at hst
  simp [Builtin.clear_, run_underlying ht, hv, hz1, hst]
/-- One row's slice, and its cells, are other ones. -/
theorem rowCells_set0 (vs : List Value) : ∀ (rows : List TRow) (j : Nat) (r : TRow) (v' : Value) (_ : j < vs.length) (h2 : j < rows.length), r.wh = rows[j].wh → rowCells (vs.set j v') (rows.set j r) = (rowCells vs rows).set (j * 2) v' := by
  induction vs with
  | nil => intro rows j r v' h; exact absurd h (Nat.not_lt_zero _)
  | cons v vs ih =>
    intro rows j r v' h1 h2 hw
    cases rows with
    | nil => exact absurd h2 (Nat.not_lt_zero _)
    | cons q rows =>
      have e : ∀ (v : Value) (vs : List Value) (x : TRow) (ys : List TRow), rowCells (v :: vs) (x :: ys) = v :: .bool x.wh :: rowCells vs ys := fun _ _ _ _ => rfl
      cases j with
      | zero =>
        have hw' : r.wh = q.wh := hw
        simp [e, hw']
      | succ j =>
        rw [List.set_cons_succ, List.set_cons_succ, e, e, ih rows j r v' (by simpa using h1) (by simpa using h2) (by simpa using hw), show (j + 1) * 2 = j * 2 + 1 + 1 by omega]
        rfl
theorem pair_set {vs : List Value} {j : Nat} {v' : Value} (h : vs.Pairwise Far) (hf : ∀ (i : Nat) (hi : i < vs.length), i ≠ j → Far vs[i] v') : (vs.set j v').Pairwise Far := by
  rw [List.pairwise_iff_getElem]
  intro a b ha hb hab
  have ha' : a < vs.length := by simpa using ha
  have hb' : b < vs.length := by simpa using hb
  by_cases h1 : j = a
  · subst h1
    rw [List.getElem_set_self, List.getElem_set_ne (by omega)]
    exact (hf b hb' (by omega)).symm
  · by_cases h2 : j = b
    · subst h2
      rw [List.getElem_set_self, List.getElem_set_ne (by omega)]
      exact hf a ha' (by omega)
    · rw [List.getElem_set_ne h1, List.getElem_set_ne h2]
      exact pair_far h ha' hb' (by omega)
/-- Row j has other cells, at v'; then its slice is stored. -/
theorem RowsAll.put {w w1 : World} {lo hi hi' : Nat} {gr cap n : Nat} {vs : List Value} {rows : List TRow} (h : RowsAll w lo hi (.slice (some ⟨gr, 0, none⟩) n cap) vs rows) (j : Nat) (hj : j < vs.length) (hj' : j < rows.length)
    (v' : Value) (cs' : List TCell) (hh : hi ≤ hi') (hrow : Spare 84 w w1)
    (hoth : ∀ (i : Nat) (hi1 : i < vs.length) (hi2 : i < rows.length), i ≠ j → Own w1 lo hi' 65 11 vs[i] rows[i].cs.length (rows[i].cs.flatMap cellE))
    (hfar : ∀ (i : Nat) (hi1 : i < vs.length), i ≠ j → Far vs[i] v') (hown : Own w1 lo hi' 65 11 v' cs'.length (cs'.flatMap cellE)) :
    RowsAll (w1.setCell ⟨gr, j * 2, none⟩ v') lo hi' (.slice (some ⟨gr, 0, none⟩) n cap) (vs.set j v') (rows.set j ⟨cs', rows[j].wh⟩) := by
  obtain ⟨h1, h2, h3, h4⟩ := h
  have h1' := (h1.spare hrow).mono (Nat.le_refl _) hh
  rcases h1' with ⟨h0, _⟩ | ⟨hn, gr', cr, e, b1, b2, b3⟩
  · omega
  · injection e with e e2 e3; injection e with e; injection e with e; subst e; subst e2; subst e3
    obtain ⟨cur, hcur⟩ := own_type b3
    have hkeep : ∀ {v : Value} {cs : List TCell}, Own w1 lo hi' 65 11 v cs.length (cs.flatMap cellE) → Own (w1.setCell ⟨gr, j * 2, none⟩ v') lo hi' 65 11 v cs.length (cs.flatMap cellE) := fun {v cs} ho =>
      ho.spare (Spare.grow (grow_set w1 (a := ⟨gr, j * 2, none⟩) rfl v') hcur (by decide))
    refine ⟨?_, by simpa using h2, fun i a b => ?_, pair_set h4 hfar⟩
    · rw [rowCells_set0 vs rows j ⟨cs', rows[j].wh⟩ v' hj hj' rfl, List.length_set]
      exact .inr ⟨hn, gr, _, rfl, b1, b2, (b3.stored (j * 2) v').1⟩
    · by_cases hij : j = i
      · subst hij
        rw [List.getElem_set_self, List.getElem_set_self]
        exact hkeep hown
      · have a' : i < vs.length := by simpa using a
        have b' : i < rows.length := by simpa using b
        rw [List.getElem_set_ne hij, List.getElem_set_ne hij]
        exact hkeep (hoth i a' b' (fun e => hij e.symm))
end Go.Proofs.YtfcogogpioeggaaDoor
