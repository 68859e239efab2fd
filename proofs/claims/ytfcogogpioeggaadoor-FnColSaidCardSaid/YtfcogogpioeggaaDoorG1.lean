import Derived.Test.YtfcogogpioeggaaDoorJ
namespace Go.Proofs.YtfcogogpioeggaaDoor
/- Two bounds of columns: both grids are one, or both are wide. -/
theorem free_two (L : List GCell) (c : GCell) (n : Nat) : ∀ (m k : Nat), freeFrom L c m k = freeFrom L c (m + n) k ∨ (freeFrom L c m k = k + m ∧ k + m ≤ freeFrom L c (m + n) k)
  | 0, k => .inr ⟨rfl, by
      have : ∀ (j k : Nat), k ≤ freeFrom L c j k := fun j => by
        induction j with
        | zero => intro k; exact Nat.le_refl k
        | succ j ih => intro k; unfold freeFrom; split; exact Nat.le_trans (Nat.le_succ k) (ih (k + 1)); exact Nat.le_refl k
      exact this _ _⟩
  | m + 1, k => by
    rw [show m + 1 + n = (m + n) + 1 by omega]
    unfold freeFrom
    split
    · rcases free_two L c n m (k + 1) with h | ⟨h1, h2⟩
      · exact .inl h
      · exact .inr ⟨by omega, by omega⟩
    · exact .inl rfl
def Alike (S S' : List GCell × Int) : Prop := S = S' ∨ (90 ≤ S.2 ∧ 90 ≤ S'.2)
theorem Alike.step {S S' : List GCell × Int} (h : Alike S S') (t : Tbl) (r i : Nat) (x : TCell) (hx : 0 ≤ x.c) : Alike (step1 400 t r i x S) (step1 90 t r i x S') := by
  rcases h with rfl | ⟨h1, h2⟩
  · have hf := free_two S.1 (cell0 t r i x) 310 90 0
    rw [show 90 + 310 = 400 from rfl] at hf
    rcases hf with h | ⟨h1, h2⟩
    · left; unfold step1; rw [h]
    · right
      simp only [step1]
      rw [h1]
      constructor <;> omega
  · right; simp only [step1]; constructor <;> omega
theorem Alike.cells (t : Tbl) (r : Nat) : ∀ (xs : List TCell) (i : Nat) {S S' : List GCell × Int}, (∀ x ∈ xs, 0 ≤ x.c) → Alike S S' → Alike (cellsSt 400 t r xs i S) (cellsSt 90 t r xs i S')
  | [], _, _, _, _, h => h
  | x :: xs, i, _, _, hx, h => Alike.cells t r xs (i + 1) (fun y hy => hx y (List.mem_cons_of_mem _ hy)) (h.step t r i x (hx x (List.mem_cons_self ..)))
theorem Alike.rows (t : Tbl) : ∀ (ys : List TRow) (r : Nat) {S S' : List GCell × Int}, (∀ y ∈ ys, ∀ x ∈ y.cs, 0 ≤ x.c) → Alike S S' → Alike (rowsSt 400 t ys r S) (rowsSt 90 t ys r S')
  | [], _, _, _, _, h => h
  | y :: ys, r, _, _, hx, h => Alike.rows t ys (r + 1) (fun z hz => hx z (List.mem_cons_of_mem _ hz)) (Alike.cells t r y.cs 0 (hx y (List.mem_cons_self ..)) h)
theorem grid_alike {t : Tbl} (h : tblOk t = true) : Alike (gridL 400 t) (gridL 90 t) :=
  Alike.rows t t.rows 0 (fun y hy x hx => by have := (cellOk_parts (((tblOk_parts h).2.2.2.2.2.2 y hy).2 x hx)).1.1; omega) (.inl rfl)
/-- Whether a width is said of each of so many columns. -/
def fixedTo (t : Tbl) (n : Int) : Bool := (List.range n.toNat).all fun k => decide ((saidOf t k).k = 1)
def allFixed (m : Nat) (t : Tbl) : Bool := tblOk t && fixedTo t (gridL m t).2
theorem fixed_wide {t : Tbl} (h : tblOk t = true) {n : Int} (hn : 90 ≤ n) : fixedTo t n = false := by
  unfold fixedTo
  rw [Bool.eq_false_iff]
  intro ha
  have := List.all_eq_true.1 ha 8 (List.mem_range.2 (by omega))
  have hc := (tblOk_parts h).2.1
  have h8 : saidOf t ((8 : Nat) : Int) = ⟨0, 0⟩ := by unfold saidOf; rw [if_neg (by omega)]
  rw [h8] at this
  simp at this
theorem allFixed_two (t : Tbl) : allFixed 400 t = allFixed 90 t := by
  unfold allFixed
  cases h : tblOk t with
  | false => rfl
  | true =>
    rcases grid_alike h with e | ⟨h1, h2⟩
    · rw [e]
    · rw [fixed_wide h h1, fixed_wide h h2]
end Go.Proofs.YtfcogogpioeggaaDoor
