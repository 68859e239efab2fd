import Derived.Test.YtpfagdmmhgcmnaaGreatDoorMixZR9ac
import Derived.Test.YtpfagdmmhgcmnaaGreatDoorMixZR9aj
import Derived.Test.YtpfagdmmhgcmnaaGreatDoorMixZR9aq
import Derived.Test.YtpfagdmmhgcmnaaGreatDoorMixZR9aa
set_option linter.unusedVariables false
set_option linter.unusedSimpArgs false
namespace Go.Proofs.YtpfagdmmhgcmnaaGreatDoor
/- Two bounds of columns: both grids are one, or both are wide. -/
theorem free_two (L : List GCell) (c : GCell) (n : Nat) : ∀ (m k : Nat), freeFrom L c m k = freeFrom L c (m + n) k ∨ (freeFrom L c m k = k + m ∧ k + m ≤ freeFrom L c (m + n) k)
  | 0, k => .inr ⟨rfl, by
      have : ∀ (j k : Nat), k ≤ freeFrom L c j k := fun j => by
        induction j with
        | zero => intro k; exact Nat.le_refl k
        | succ j ih => intro k; unfold freeFrom; split; exact Nat.le_trans (Nat.le_succ k) (ih (k + 1)); exact Nat.le_refl k
      exact this _ _⟩
  | m + 1, k => by
    rw [show m + 1 + n = (m + n) + 1 by omega]
    unfold freeFrom
    split
    · rcases free_two L c n m (k + 1) with h | ⟨h1, h2⟩
      · exact .inl h
      · exact .inr ⟨by omega, by omega⟩
    · exact .inl rfl
def Alike (S S' : List GCell × Int) : Prop := S = S' ∨ (90 ≤ S.2 ∧ 90 ≤ S'.2)
theorem Alike.step {S S' : List GCell × Int} (h : Alike S S') (t : Tbl) (r i : Nat) (x : TCell) (hx : 0 ≤ x.c) : Alike (step1 400 t r i x S) (step1 90 t r i x S') := by
  rcases h with rfl | ⟨h1, h2⟩
  · have hf := free_two S.1 (cell0 t r i x) 310 90 0
    rw [show 90 + 310 = 400 from rfl] at hf
    rcases hf with h | ⟨h1, h2⟩
    · left; unfold step1; rw [h]
    · right
      simp only [step1]
      rw [h1]
      constructor <;> omega
  · right; simp only [step1]; constructor <;> omega
theorem Alike.cells (t : Tbl) (r : Nat) : ∀ (xs : List TCell) (i : Nat) {S S' : List GCell × Int}, (∀ x ∈ xs, 0 ≤ x.c) → Alike S S' → Alike (cellsSt 400 t r xs i S) (cellsSt 90 t r xs i S')
  | [], _, _, _, _, h => h
  | x :: xs, i, _, _, hx, h => Alike.cells t r xs (i + 1) (fun y hy => hx y (List.mem_cons_of_mem _ hy)) (h.step t r i x (hx x (List.mem_cons_self ..)))
theorem Alike.rows (t : Tbl) : ∀ (ys : List TRow) (r : Nat) {S S' : List GCell × Int}, (∀ y ∈ ys, ∀ x ∈ y.cs, 0 ≤ x.c) → Alike S S' → Alike (rowsSt 400 t ys r S) (rowsSt 90 t ys r S')
  | [], _, _, _, _, h => h
  | y :: ys, r, _, _, hx, h => Alike.rows t ys (r + 1) (fun z hz => hx z (List.mem_cons_of_mem _ hz)) (Alike.cells t r y.cs 0 (hx y (List.mem_cons_self ..)) h)
theorem grid_alike {t : Tbl} (h : tblOk t = true) : Alike (gridL 400 t) (gridL 90 t) :=
  Alike.rows t t.rows 0 (fun y hy x hx => by have := (cellOk_parts (((tblOk_parts h).2.2.2.2.2.2 y hy).2 x hx)).1.1; omega) (.inl rfl)
end Go.Proofs.YtpfagdmmhgcmnaaGreatDoor

namespace Go.Proofs.YtpfagdmmhgcmnaaGreatDoor
open Go.RowKit
/- Whether a width is said of all columns: the program's and the reference's. -/
theorem GIn.rows {m : Nat} {t : Tbl} (h : tblOk t = true) : GIn 40 (gridL m t) := by
  obtain ⟨⟨p1, p2⟩, p3, _⟩ := tblOk_parts h
  have hcells : ∀ (r : Nat) (hr : r < t.rows.length) (xs : List TCell) (i n : Nat) (S : List GCell × Int), (∀ x ∈ xs, cellOk x = true) → i + xs.length ≤ 5 → GIn n S → GIn (n + xs.length) (cellsSt m t r xs i S) := by
    intro r hr xs
    induction xs with
    | nil => intro i n S _ _ hS; exact hS
    | cons x xs ih =>
      intro i n S hx hi hS
      simp only [List.length_cons] at hi ⊢
      have hx0 := cellOk_parts (hx x (List.mem_cons_self ..))
      have hb := rows_bounds h hr i x hx0.2
      have := ih (i + 1) (n + 1) _ (fun y hy => hx y (List.mem_cons_of_mem _ hy)) (by omega) (hS.step m t r i x (by omega) (by omega) hx0.1 ⟨by omega, by omega⟩)
      rw [show n + (xs.length + 1) = n + 1 + xs.length by omega]
      exact this
  have hrows : ∀ (k : Nat) (S : List GCell × Int), k ≤ t.rows.length → GIn (5 * (t.rows.length - k)) S → GIn (5 * t.rows.length) (rowsSt m t (t.rows.drop (t.rows.length - k)) (t.rows.length - k) S) := by
    intro k
    induction k with
    | zero => intro S _ hS; rw [Nat.sub_zero, List.drop_length]; exact hS
    | succ k ih =>
      intro S hk hS
      have hlt : t.rows.length - (k + 1) < t.rows.length := by omega
      rw [List.drop_eq_getElem_cons hlt, rowsSt]
      have hy := (tblOk_parts h).2.2.2.2.2.2 _ (List.getElem_mem hlt)
      have h1 := hcells _ hlt t.rows[t.rows.length - (k + 1)].cs 0 _ S hy.2 (by have := hy.1; omega) hS
      have h2 := h1.le (n' := 5 * (t.rows.length - k)) (by have := hy.1; omega)
      have h3 := ih _ (by omega) h2
      rw [show t.rows.length - k = t.rows.length - (k + 1) + 1 by omega] at h3
      exact h3
  have h0 := hrows t.rows.length (grid0 t) (Nat.le_refl _) (by rw [Nat.sub_self]; exact GIn.zero t p3)
  rw [Nat.sub_self] at h0
  exact GIn.le h0 (by omega)
theorem fieldG (a b : Int) (A : Option Addr) (l c : Nat) (W : World) : (Instr.field 35 (.agg #[.int .i64 a, .int .i64 b, .slice A l c]) 1).run Tryz.prog W = .ok (.int .i64 b) W := by kernel_rfl
theorem fieldC (a b : Int) (W : World) : (Instr.field 43 (.agg #[.int .i64 a, .int .i64 b]) 0).run Tryz.prog W = .ok (.int .i64 a) W := by kernel_rfl
end Go.Proofs.YtpfagdmmhgcmnaaGreatDoor

namespace Go.Proofs.YtpfagdmmhgcmnaaGreatDoor
open Go.RowKit
/- The draws of the laws over bytes: the reference's grid; a table all whose columns are fixed. -/
/-- A table whose columns are made anew, in block B. -/
structure FS0 (w W : World) (R N b0 B : Nat) (vc vr : Value) (t : Tbl) : Prop where
  rdr : RdrOk W R N
  grown : w.grownBy W (some R)
  pos : b0 ≤ w.heap.size ∧ R < b0 ∧ w.heap.size ≤ B ∧ B + 1 < W.heap.size
  res : BlockAt W (B + 1) zeros5
  blk : BlockAt W B (tvals vc vr t)
  typ : Typed W B 26
  typ1 : Typed W (B + 1) 26
  rows : OwnRows W b0 48 52 vr t.rows
structure FSt (w W : World) (R N b0 B : Nat) (vc vr : Value) (t : Tbl) (xs : List TCol) : Prop extends FS0 w W R N b0 B vc vr t where
  cols : W.ownsRow (B + 1) 43 2 vc xs.length (xs.flatMap colE)
section
variable {w W W' : World} {R N N' b0 B : Nat} {vc vr v' : Value} {t : Tbl} {xs : List TCol}
theorem FSt.mono (h : FSt w W R N b0 B vc vr t xs) (hN : N ≤ N') : FSt w W R N' b0 B vc vr t xs := ⟨⟨h.rdr.mono hN, h.grown, h.pos, h.res, h.blk, h.typ, h.typ1, h.rows⟩, h.cols⟩
/-- The columns' row has been written, or is another one; it is stored. -/
theorem FS0.put {row : Option Nat} (h : FS0 w W R N b0 B vc vr t) (hN : N ≤ N') (hg : W.grownBy W' row) (hrow : ∀ b, row = some b → w.heap.size ≤ b ∧ b ≠ B ∧ b ≠ B + 1 ∧ Typed W b 43) :
    FS0 w (W'.setCell ⟨B, 0, none⟩ v') R N' b0 B v' vr t := by
  obtain ⟨p1, p2, p3, p4⟩ := h.pos
  have hlow : ∀ b, b < w.heap.size ∨ b = B ∨ b = B + 1 → W'.heap[b]? = W.heap[b]? := fun b hb' => hg.block b (by omega) (fun e => by have := hrow b e.symm; omega)
  have hgw : w.grownBy W' (some R) := ⟨hg.os.trans h.grown.os, hg.tape.trans h.grown.tape, hg.output.trans h.grown.output, Nat.le_trans h.grown.size hg.size, fun k hk hne => (hlow k (by omega)).trans (h.grown.block k hk hne)⟩
  have hR := h.rdr.grow hg (fun g e => by have := hrow g e; omega)
  refine ⟨(rdr_set hR (by show R < B; omega) _).mono hN, grow_setN hgw (by show _ ≤ B; omega) _, ⟨p1, p2, p3, by have := hg.size; simp; omega⟩, (h.res.keep (hlow _ (by omega))).other (by show B ≠ B + 1; omega) _, (h.blk.keep (hlow B (by omega))).set (k := 0) (by show 0 < 5; omega) v', (h.typ.keep (hlow B (by omega))).set _ _, (h.typ1.keep (hlow _ (by omega))).set _ _, ?_⟩
  have h1 : OwnRows W' b0 48 52 vr t.rows := by
    cases row with
    | none =>
      obtain ⟨us, r1, r2, r3⟩ := h.rows
      exact ⟨us, own_keep r1 fun b hb => hg.block b (own_lt r1 hb).2 (by simp), r2.keep fun b _ hb => hg.block b hb (by simp), r3⟩
    | some b => exact h.rows.past hg (hrow b rfl).2.2.2 (by decide) (by decide)
  exact h1.past (grow_set W' rfl v') (h.typ.keep (hlow B (by omega))) (by decide) (by decide)
end
def FColS1 (w : World) (R N b0 B : Nat) (vc vr : Value) (t : Tbl) (xs : List TCol) (x : TCol) (v' : Value) (W : World) : Prop :=
  ∃ W0, FSt w W0 R N b0 B vc vr t xs ∧ W0.grownBy W vc.ownBlock ∧ W.ownsRow (B + 1) 43 2 v' (xs.length + 1) (xs.flatMap colE ++ colE x)
section
variable {w W : World} {R N N' b0 B : Nat} {vc vr v' : Value} {t : Tbl} {xs : List TCol} {x : TCol}
theorem FColS1.form (h : FColS1 w R N b0 B vc vr t xs x v' W) : ∃ A m c, v' = .slice A m c := by
  obtain ⟨W0, h1, h2, h3⟩ := h
  obtain ⟨A, c, e⟩ := own_sl h3
  exact ⟨A, _, c, e⟩
theorem FColS1.done (h : FColS1 w R N b0 B vc vr t xs x v' W) (hN : N ≤ N') : FSt w (W.setCell ⟨B, 0, none⟩ v') R N' b0 B v' vr t (xs ++ [x]) := by
  obtain ⟨W0, h1, h2, h3⟩ := h
  have hp := h1.pos
  refine ⟨h1.toFS0.put hN h2 (fun b e => ⟨by have := (own_lt h1.cols e).1; omega, (own_block h1.cols e).ne h1.typ (by decide), (own_block h1.cols e).ne h1.typ1 (by decide), own_block h1.cols e⟩), own_setA ?_ (by show B < B + 1; omega) _⟩
  simp only [List.length_append, List.length_singleton, List.flatMap_append, List.flatMap_singleton]
  exact h3
end
--TRACE
end Go.Proofs.YtpfagdmmhgcmnaaGreatDoor

namespace Go.Proofs.YtpfagdmmhgcmnaaGreatDoor
open Go.RowKit
/- The draws of the laws over bytes: a table and a number; a table, one in two with all columns fixed. -/
theorem below_row {w W W' : World} {R : Nat} (hB : Below w.heap.size w W) (hg : W.grownBy W' (some R)) (hR : w.heap.size ≤ R) : Below w.heap.size w W' :=
  hB.trans ⟨hg.os, hg.tape, hg.output, hg.size, fun k hk => hg.block k (by have := hB.size; omega) (fun e => by injection e with e; omega)⟩
theorem any_sized {t : Tbl} (h : anyBd t) : ∀ r ∈ t.rows, ∀ c ∈ r.cs, c.t.size ≤ 1048576 := by
  obtain ⟨k, hk⟩ := h.cells
  intro r hr c hc
  obtain ⟨i, hi, rfl⟩ := List.getElem_of_mem hr
  exact Nat.le_trans ((hk i hi).2 c hc).1 (by decide)
/-- A table of one's own has been drawn, the memory that was is as it was. -/
def DrawT (w : World) (e : Ending) (w' : World) : Prop :=
  ∃ (t : Tbl) (vc vr : Value), e = .returned (.agg #[vc, .int .i64 t.head, .int .i64 t.foot, vr, .int .i64 t.gap]) ∧ anyBd t ∧ OwnT w' w.heap.size vc vr t ∧ Below w.heap.size w w'
/-- Five stores into the result's block, behind the draws. -/
theorem out5 {w W : World} {base : Nat} {vc vr : Value} {t : Tbl} (hB : Below w.heap.size w W) (ho : OwnT W base vc vr t) (hb : w.heap.size < base) (v0 v1 v2 v3 v4 : Value) :
    OwnT (((((W.setCell ⟨w.heap.size, 0, none⟩ v0).setCell ⟨w.heap.size, 1, none⟩ v1).setCell ⟨w.heap.size, 2, none⟩ v2).setCell ⟨w.heap.size, 3, none⟩ v3).setCell ⟨w.heap.size, 4, none⟩ v4) w.heap.size vc vr t ∧ Below w.heap.size w (((((W.setCell ⟨w.heap.size, 0, none⟩ v0).setCell ⟨w.heap.size, 1, none⟩ v1).setCell ⟨w.heap.size, 2, none⟩ v2).setCell ⟨w.heap.size, 3, none⟩ v3).setCell ⟨w.heap.size, 4, none⟩ v4) :=
  ⟨OwnT.base (OwnT.setA (OwnT.setA (OwnT.setA (OwnT.setA (OwnT.setA ho hb _) hb _) hb _) hb _) hb _) (by omega), bset (bset (bset (bset (bset hB (Nat.le_refl _) _) (Nat.le_refl _) _) (Nat.le_refl _) _) (Nat.le_refl _) _) (Nat.le_refl _) _⟩
theorem drawT {w W : World} {vc vr : Value} {t : Tbl} (h : OwnT W w.heap.size vc vr t ∧ Below w.heap.size w W) (hb : anyBd t) : DrawT w (.returned (.agg #[vc, .int .i64 t.head, .int .i64 t.foot, vr, .int .i64 t.gap])) W :=
  ⟨t, vc, vr, rfl, hb, h.1, h.2⟩
end Go.Proofs.YtpfagdmmhgcmnaaGreatDoor
namespace Go.Proofs.YtpfagdmmhgcmnaaGreatDoor
open Go.RowKit
/- A region that draws its order, of operations that read and calls that make memory: what each operation's slot holds is told ahead. -/
structure BMid (vals : Nat → Value) (n : Nat) (V : World) (l : Array Bool) (vs : Nat → Value) (W : World) : Prop where
  size : l.size = n
  below : Below V.heap.size V W
  held : ∀ j, l.getD j false = true → vs j = vals j
section
variable {vals : Nat → Value} {n : Nat} {V : World} {l : Array Bool} {vs : Nat → Value} {W W' : World}
theorem BMid.next (h : BMid vals n V l vs W) (i : Nat) (v : Value) (hv : v = vals i) (hb : Below W.heap.size W W') : BMid vals n V (l.setIfInBounds i true) (updV vs i v) W' := by
  refine ⟨by simpa using h.size, step h.below hb, fun j hj => ?_⟩
  unfold updV
  by_cases e : j = i
  · subst e; rw [if_pos rfl]; exact hv
  · rw [if_neg e]
    rw [getD_set_ne false (Ne.symm e)] at hj
    exact h.held j hj
theorem BMid.still (h : BMid vals n V l vs W) (i : Nat) (v : Value) (hv : v = vals i) : BMid vals n V (l.setIfInBounds i true) (updV vs i v) W := h.next i v hv (brefl W)
theorem BMid.start : BMid vals n V (Array.replicate n false) vs V := ⟨by simp, brefl V, fun j hj => by simp [Array.getD] at hj⟩
end
end Go.Proofs.YtpfagdmmhgcmnaaGreatDoor

namespace Go.Proofs.YtpfagdmmhgcmnaaGreatDoor
/- How wide columns are made by what cells need: plain. -/
/-- A cell that goes over so many columns makes them as wide as it needs. -/
def stepCol (gap : Int) (need : GCell → Int) (span : Nat) (cols : List Int) (c : GCell) : List Int :=
  if c.cols = (span : Int) then
    if 0 < need c - winS cols c.col.toNat span - gap * ((span : Int) - 1) then
      addAt cols c.col.toNat (share (need c - winS cols c.col.toNat span - gap * ((span : Int) - 1)) ((cols.drop c.col.toNat).take span))
    else cols
  else cols
def madeS (gap : Int) (need : GCell → Int) (span : Nat) (cells : List GCell) (cols : List Int) : List Int := cells.foldl (stepCol gap need span) cols
def made (gap : Int) (need : GCell → Int) (cells : List GCell) (n : Nat) : List Int :=
  madeS gap need 4 cells (madeS gap need 3 cells (madeS gap need 2 cells (madeS gap need 1 cells (List.replicate n 0))))
/-- So many columns, none wider than a text may be. -/
def ColsIn (n : Nat) (cols : List Int) : Prop := cols.length = n ∧ ∀ x ∈ cols, 0 ≤ x ∧ x ≤ 30
def CellIn (n : Nat) (need : GCell → Int) (c : GCell) : Prop := 0 ≤ c.col ∧ 1 ≤ c.cols ∧ c.cols ≤ 4 ∧ c.col + c.cols ≤ n ∧ need c ≤ 30
theorem getD_in {n : Nat} {cols : List Int} (h : ColsIn n cols) (j : Nat) : 0 ≤ cols.getD j 0 ∧ cols.getD j 0 ≤ 30 := by
  rw [List.getD_eq_getElem?_getD]
  cases e : cols[j]? with
  | none => exact ⟨by simp, by simp⟩
  | some v => exact h.2 v (List.mem_of_getElem? e)
theorem winS_nonneg {n : Nat} {cols : List Int} (h : ColsIn n cols) (a k : Nat) : 0 ≤ winS cols a k :=
  sumI_nonneg fun x hx => (h.2 x (List.mem_of_mem_drop (List.mem_of_mem_take hx))).1
theorem win_length {n : Nat} {cols : List Int} (h : cols.length = n) {a k : Nat} (hk : a + k ≤ n) : ((cols.drop a).take k).length = k := by simp; omega
/-- What one step does. -/
theorem step_spec {n : Nat} {gap : Int} {need : GCell → Int} {span : Nat} {cols : List Int} {c : GCell} (hg : 0 ≤ gap) (hs : 1 ≤ span) (h : ColsIn n cols) (hc : CellIn n need c) :
    ColsIn n (stepCol gap need span cols c) ∧ (∀ j, cols.getD j 0 ≤ (stepCol gap need span cols c).getD j 0) ∧ (c.cols = (span : Int) → need c ≤ winS (stepCol gap need span cols c) c.col.toNat span + gap * ((span : Int) - 1)) := by
  unfold stepCol
  by_cases e : c.cols = (span : Int)
  · rw [if_pos e]
    obtain ⟨c1, c2, c3, c4, c5⟩ := hc
    have hk : c.col.toNat + span ≤ n := by omega
    by_cases hl : 0 < need c - winS cols c.col.toNat span - gap * ((span : Int) - 1)
    · rw [if_pos hl]
      have hwl := win_length h.1 hk
      have hw0 : ∀ x ∈ (cols.drop c.col.toNat).take span, 0 ≤ x := fun x hx => (h.2 x (List.mem_of_mem_drop (List.mem_of_mem_take hx))).1
      have hne : (cols.drop c.col.toNat).take span ≠ [] := by intro e0; rw [e0] at hwl; simp at hwl; omega
      obtain ⟨s1, s2, s3⟩ := share_spec (total := need c - winS cols c.col.toNat span - gap * ((span : Int) - 1)) (by omega) hw0 hne
      generalize hsh : share (need c - winS cols c.col.toNat span - gap * ((span : Int) - 1)) ((cols.drop c.col.toNat).take span) = sh at s1 s2 s3 ⊢
      rw [hwl] at s1
      have hal : c.col.toNat + sh.length ≤ cols.length := by rw [h.1, s1]; exact hk
      have hwin := winS_add hal
      rw [s1, s2] at hwin
      have hgs : 0 ≤ gap * ((span : Int) - 1) := Int.mul_nonneg hg (by omega)
      have hge := addAt_ge s3 hal
      refine ⟨⟨by rw [addAt_length]; exact h.1, fun x hx => ?_⟩, hge, fun _ => by omega⟩
      obtain ⟨j, hj, rfl⟩ := List.getElem_of_mem hx
      have hjl : j < cols.length := by rw [addAt_length] at hj; exact hj
      have hgj : (addAt cols c.col.toNat sh)[j] = (addAt cols c.col.toNat sh).getD j 0 := by rw [List.getD_eq_getElem?_getD, List.getElem?_eq_getElem hj]; rfl
      rw [hgj]
      refine ⟨Int.le_trans (getD_in h j).1 (hge j), ?_⟩
      by_cases hin : c.col.toNat ≤ j ∧ j < c.col.toNat + sh.length
      · -- one of the cell's own: no more than all of them
        have h1 : ∀ x ∈ ((addAt cols c.col.toNat sh).drop c.col.toNat).take span, 0 ≤ x := by
          intro x hx
          obtain ⟨i, hi, rfl⟩ := List.getElem_of_mem (List.mem_of_mem_drop (List.mem_of_mem_take hx))
          have : (addAt cols c.col.toNat sh)[i] = (addAt cols c.col.toNat sh).getD i 0 := by rw [List.getD_eq_getElem?_getD, List.getElem?_eq_getElem hi]; rfl
          rw [this]
          exact Int.le_trans (getD_in h i).1 (hge i)
        have h2 : (addAt cols c.col.toNat sh).getD j 0 ∈ ((addAt cols c.col.toNat sh).drop c.col.toNat).take span := by
          rw [← hgj]
          have hd : j - c.col.toNat < (((addAt cols c.col.toNat sh).drop c.col.toNat).take span).length := by simp [addAt_length]; omega
          have : (((addAt cols c.col.toNat sh).drop c.col.toNat).take span)[j - c.col.toNat] = (addAt cols c.col.toNat sh)[j] := by
            simp only [List.getElem_take, List.getElem_drop]
            congr 1
            omega
          rw [← this]
          exact List.getElem_mem hd
        have h3 := sumI_ge h1 _ h2
        have h4 : sumI (((addAt cols c.col.toNat sh).drop c.col.toNat).take span) = winS (addAt cols c.col.toNat sh) c.col.toNat span := rfl
        have h5 := winS_nonneg h c.col.toNat span
        omega
      · rw [addAt_get sh cols _ j hal, if_neg hin]
        have := (getD_in h j).2
        omega
    · rw [if_neg hl]
      exact ⟨h, fun _ => Int.le_refl _, fun _ => by omega⟩
  · rw [if_neg e]
    exact ⟨h, fun _ => Int.le_refl _, fun h' => absurd h' e⟩
theorem madeS_spec {n : Nat} {gap : Int} {need : GCell → Int} {span : Nat} (hg : 0 ≤ gap) (hs : 1 ≤ span) : ∀ (cells : List GCell) (cols : List Int), ColsIn n cols → (∀ c ∈ cells, CellIn n need c) →
    ColsIn n (madeS gap need span cells cols) ∧ (∀ j, cols.getD j 0 ≤ (madeS gap need span cells cols).getD j 0) ∧ ∀ c ∈ cells, c.cols = (span : Int) → need c ≤ winS (madeS gap need span cells cols) c.col.toNat span + gap * ((span : Int) - 1)
  | [], cols, h, _ => ⟨h, fun _ => Int.le_refl _, fun c hc => by cases hc⟩
  | c :: cells, cols, h, hc => by
    obtain ⟨a1, a2, a3⟩ := step_spec (span := span) hg hs h (hc c (List.mem_cons_self ..))
    obtain ⟨b1, b2, b3⟩ := madeS_spec hg hs cells (stepCol gap need span cols c) a1 (fun d hd => hc d (List.mem_cons_of_mem _ hd))
    refine ⟨b1, fun j => Int.le_trans (a2 j) (b2 j), fun d hd he => ?_⟩
    rcases List.mem_cons.1 hd with rfl | hd
    · obtain ⟨c1, c2, c3, c4, c5⟩ := hc d (List.mem_cons_self ..)
      have := winS_le (a1.1.trans b1.1.symm) b2 d.col.toNat span (by rw [a1.1]; omega)
      have := a3 he
      show need d ≤ winS (madeS gap need span cells (stepCol gap need span cols d)) d.col.toNat span + _
      omega
    · exact b3 d hd he
theorem made_spec {n : Nat} {gap : Int} {need : GCell → Int} {cells : List GCell} (hg : 0 ≤ gap) (hc : ∀ c ∈ cells, CellIn n need c) :
    ColsIn n (made gap need cells n) ∧ ∀ c ∈ cells, need c ≤ winS (made gap need cells n) c.col.toNat c.cols.toNat + gap * (c.cols - 1) := by
  unfold made
  have h0 : ColsIn n (List.replicate n 0) := ⟨by simp, fun x hx => by rw [(List.mem_replicate.1 hx).2]; decide⟩
  obtain ⟨a1, a2, a3⟩ := madeS_spec (span := 1) hg (by decide) cells _ h0 hc
  obtain ⟨b1, b2, b3⟩ := madeS_spec (span := 2) hg (by decide) cells _ a1 hc
  obtain ⟨c1, c2, c3⟩ := madeS_spec (span := 3) hg (by decide) cells _ b1 hc
  obtain ⟨d1, d2, d3⟩ := madeS_spec (span := 4) hg (by decide) cells _ c1 hc
  refine ⟨d1, fun c hcm => ?_⟩
  obtain ⟨e1, e2, e3, e4, e5⟩ := hc c hcm
  have hk : ∀ k : Nat, c.cols = (k : Int) → c.col.toNat + k ≤ n := fun k hk => by omega
  obtain h | h | h | h : c.cols = 1 ∨ c.cols = 2 ∨ c.cols = 3 ∨ c.cols = 4 := by omega
  · have := a3 c hcm h
    have w := winS_le (a1.1.trans d1.1.symm) (fun j => Int.le_trans (b2 j) (Int.le_trans (c2 j) (d2 j))) c.col.toNat 1 (by rw [a1.1]; exact hk 1 h)
    rw [h]; simp only [Int.toNat_one] at *; omega
  · have := b3 c hcm h
    have w := winS_le (b1.1.trans d1.1.symm) (fun j => Int.le_trans (c2 j) (d2 j)) c.col.toNat 2 (by rw [b1.1]; exact hk 2 h)
    rw [h]; show _ ≤ winS _ _ 2 + _; omega
  · have := c3 c hcm h
    have w := winS_le (c1.1.trans d1.1.symm) (fun j => d2 j) c.col.toNat 3 (by rw [c1.1]; exact hk 3 h)
    rw [h]; show _ ≤ winS _ _ 3 + _; omega
  · have := d3 c hcm h
    rw [h]; show _ ≤ winS _ _ 4 + _; omega
end Go.Proofs.YtpfagdmmhgcmnaaGreatDoor
