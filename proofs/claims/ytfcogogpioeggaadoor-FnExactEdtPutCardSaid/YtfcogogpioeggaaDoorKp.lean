import Derived.Test.YtfcogogpioeggaaDoorKo
import Derived.Test.YtfcogogpioeggaaDoorE
namespace Go.Proofs.YtfcogogpioeggaaDoor
open Go.RowKit
/- Copies of an argument as tables of one's own; what of an edited table is read. -/
theorem far_of_apart {a b : Value} (h : Apart a b) : Far a b := fun g n c g' n' c' e1 e2 _ _ e => by
  subst e1; subst e2; subst e
  exact h g rfl rfl
theorem own_of_table {t : Tbl} {w : World} {base : Nat} {vc vr : Value} (hc : w.ownsRow base 28 2 vc t.cols.length (t.cols.flatMap colE)) (hr : OwnRows w base 84 65 vr t.rows) : OwnTbl w base w.heap.size vc vr t := by
  obtain ⟨vs, h1, h2, _⟩ := hr
  exact ⟨Own.of hc (Nat.le_refl _), vs, Own.of h1 (Nat.le_refl _), h2.1, fun j a b => Own.of (h2.2.1 j a b) (Nat.le_refl _), h2.2.2.imp far_of_apart⟩
theorem rdO_of_rows {rows : List TRow} {w : World} {base g n c : Nat} (hr : OwnRows w base 84 65 (.slice (some ⟨g, 0, none⟩) n c) rows) (hs : ∀ r ∈ rows, r.cs.length ≤ 1048576) (hl : rows.length ≤ 1048576) : Rd rowO w (some ⟨g, 0, none⟩) rows := by
  obtain ⟨vs, h1, h2, _⟩ := hr
  refine ⟨by omega, fun hn => ?_⟩
  have hlt := (own_lt h1 (b := g) rfl).2
  refine ⟨g, 0, rfl, hlt, fun j hj => ?_⟩
  have hv : j < vs.length := by rw [h2.1]; exact hj
  obtain ⟨g0, g1⟩ := rowCells_get vs rows j hv hj
  have hn1 : n = rows.length := by
    rcases h1.2 with ⟨e, _⟩ | ⟨g', cap, cur, e, _⟩
    · cases e
    · injection e
  subst hn1
  refine ⟨[vs[j], .bool rows[j].wh], ⟨vs[j], rfl, Lies.of (h2.2.1 j hv hj), hs _ (List.getElem_mem hj)⟩, fun i u hu => ?_⟩
  have hl := h1.1
  have e0 := h1.cellAt (j * 2) (by omega)
  have e1 := h1.cellAt (j * 2 + 1) (by omega)
  rw [g0] at e0
  rw [g1] at e1
  match i, hu with
  | 0, hu => simp at hu; subst hu; simpa [rowO] using e0
  | 1, hu => simp at hu; subst hu; simpa [rowO] using e1
/-- A table of one's own reads as what it says. -/
theorem OwnTbl.rd {w : World} {lo hi : Nat} {A A' : Option Addr} {n c n' c' : Nat} {t : Tbl} (h : OwnTbl w lo hi (.slice A n c) (.slice A' n' c') t) (hs : SizedC t.rows) (hl : t.rows.length ≤ 1048576) : Rd colR w A t.cols ∧ Rd rowR w A' t.rows := by
  obtain ⟨h1, vs, h2⟩ := h
  obtain ⟨A1, c1, e1⟩ := h1.form
  injection e1 with _ e2 _
  subst e2
  exact ⟨h1.rd, h2.rd hs (by omega)⟩
theorem markL_sized (n k : Nat) : ∀ x ∈ markL n k, x.t.size ≤ 1048576 := by
  intro x hx
  unfold markL at hx
  obtain ⟨i, _, rfl⟩ := List.mem_map.1 hx
  exact mtext_size _
theorem markR_sized : ∀ (rows : List TRow) (k : Nat), SizedC (markR rows k)
  | [], _ => fun r h => by cases h
  | r :: rs, k => fun x hx y hy => by
    unfold markR at hx
    rcases List.mem_cons.1 hx with rfl | hx
    · exact markL_sized _ _ y hy
    · exact markR_sized rs _ x hx y hy
theorem span_sized {t : Tbl} (h : SizedC t.rows) (row at' c r : Int) : SizedC (edtSpan t row at' c r).1.rows := by
  unfold edtSpan
  split
  · split
    · rename_i h1
      split
      · split
        · rename_i h2
          intro x hx y hy
          rcases List.mem_or_eq_of_mem_set hx with hx | rfl
          · exact h x hx y hy
          · have hmem : t.rows[row.toNat] ∈ t.rows := List.getElem_mem h1.2
            rcases List.mem_or_eq_of_mem_set hy with hy | rfl
            · exact h _ hmem y hy
            · have h5 := h _ hmem (t.rows[row.toNat].cs[at'.toNat]) (List.getElem_mem h2)
              exact h5
        · exact h
      · exact h
    · exact h
  · intro x hx; cases hx
theorem span_small {t : Tbl} (h : SmallT t) (row at' c r : Int) : SmallT (edtSpan t row at' c r).1 := by
  obtain ⟨h1, h2, h3⟩ := h
  unfold edtSpan
  split
  · split
    · rename_i k1
      split
      · split
        · refine ⟨h1, by simpa using h2, fun x hx => ?_⟩
          rcases List.mem_or_eq_of_mem_set hx with hx | rfl
          · exact h3 x hx
          · have := h3 _ (List.getElem_mem k1.2)
            simpa using this
        · exact ⟨h1, h2, h3⟩
      · exact ⟨h1, h2, h3⟩
    · exact ⟨h1, h2, h3⟩
  · exact ⟨by simp, by simp, fun x hx => by cases hx⟩
end Go.Proofs.YtfcogogpioeggaaDoor
