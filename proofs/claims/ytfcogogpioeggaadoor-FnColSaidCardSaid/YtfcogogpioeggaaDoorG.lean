import Derived.Test.YtfcogogpioeggaaDoorC
import Derived.Test.YtfcogogpioeggaaDoorW
namespace Go.Proofs.YtfcogogpioeggaaDoor
open Go.RowKit
/- The grid: plain laws, and the small functions that place cells. -/

def gcE (c : GCell) : List Value := [.int .i64 c.row, .int .i64 c.col, .int .i64 c.rows, .int .i64 c.cols, .int .i64 c.inn]
/-- Numbers of which no two wrap. -/
def SmZ (n : Int) : Prop := -1000000 ≤ n ∧ n ≤ 1000000
def GSm (x : GCell) : Prop := SmZ x.row ∧ SmZ x.col ∧ SmZ x.rows ∧ SmZ x.cols ∧ SmZ x.inn
def gcR : Rep GCell where
  sz := 5
  K := fun _ x cs => cs = gcE x ∧ GSm x
  len := by rintro w x cs ⟨rfl, _⟩; rfl
  below := fun _ h => h
def meets (a b : GCell) : Bool := decide (a.row < b.row + b.rows) && decide (b.row < a.row + a.rows) && decide (a.col < b.col + b.cols) && decide (b.col < a.col + a.cols)
def partOf (t : Tbl) (r : Int) : Int := if r < t.head then 0 else if (t.rows.length : Int) - t.foot ≤ r then 2 else 1
def endOf (t : Tbl) (r : Int) : Int := if r < t.head then t.head else if (t.rows.length : Int) - t.foot ≤ r then t.rows.length else t.rows.length - t.foot
def atCol (c : GCell) (k : Int) : GCell := { c with col := k }
/-- The first free column from k on, of so many that are tried. -/
def freeFrom (L : List GCell) (c : GCell) : Nat → Nat → Nat
  | 0, k => k
  | n + 1, k => if L.any (meets (atCol c k)) then freeFrom L c n (k + 1) else k
def cell0 (t : Tbl) (r i : Nat) (x : TCell) : GCell := ⟨r, 0, min x.r (endOf t r - r), x.c, i⟩
def step1 (m : Nat) (t : Tbl) (r i : Nat) (x : TCell) (S : List GCell × Int) : List GCell × Int :=
  let k := freeFrom S.1 (cell0 t r i x) m 0
  (S.1 ++ [atCol (cell0 t r i x) k], max S.2 (k + x.c))
def cellsSt (m : Nat) (t : Tbl) (r : Nat) : List TCell → Nat → List GCell × Int → List GCell × Int
  | [], _, S => S
  | x :: xs, i, S => cellsSt m t r xs (i + 1) (step1 m t r i x S)
def rowsSt (m : Nat) (t : Tbl) : List TRow → Nat → List GCell × Int → List GCell × Int
  | [], _, S => S
  | y :: ys, r, S => rowsSt m t ys (r + 1) (cellsSt m t r y.cs 0 S)
def grid0 (t : Tbl) : List GCell × Int := ([], max (t.cols.length : Int) 1)
def gridL (m : Nat) (t : Tbl) : List GCell × Int := rowsSt m t t.rows 0 (grid0 t)

set_option maxHeartbeats 1000000 in
theorem impl_meets (a b : GCell) (w : World) (ha : GSm a) (hb : GSm b) :
    Calls Tryd.prog 54 #[.agg #[.int .i64 a.row, .int .i64 a.col, .int .i64 a.rows, .int .i64 a.cols, .int .i64 a.inn], .agg #[.int .i64 b.row, .int .i64 b.col, .int .i64 b.rows, .int .i64 b.cols, .int .i64 b.inn]] w fun e w' => e = .returned (.bool (meets a b)) ∧ Below w.heap.size w w' := by
  obtain ⟨⟨a1, a2⟩, ⟨a3, a4⟩, ⟨a5, a6⟩, ⟨a7, a8⟩, _⟩ := ha
  obtain ⟨⟨b1, b2⟩, ⟨b3, b4⟩, ⟨b5, b6⟩, ⟨b7, b8⟩, _⟩ := hb
  unfold meets
  go_enter Tryd.func54, Tryd.ntmps54
  by_cases h1 : a.row < b.row + b.rows
  · by_cases h2 : b.row < a.row + a.rows
    · by_cases h3 : a.col < b.col + b.cols
      · by_cases h4 : b.col < a.col + a.cols
        all_goals go_wp2_with fail
        all_goals go_ret
        all_goals exact ⟨by first | (simp [*]; done) | (simp [*]; omega), balloc (balloc (brefl _) _) _⟩
      · go_wp2_with fail
        go_ret
        exact ⟨by first | (simp [*]; done) | (simp [*]; omega), balloc (balloc (brefl _) _) _⟩
    · go_wp2_with fail
      go_ret
      exact ⟨by first | (simp [*]; done) | (simp [*]; omega), balloc (balloc (brefl _) _) _⟩
  · go_wp2_with fail
    go_ret
    exact ⟨by first | (simp [*]; done) | (simp [*]; omega), balloc (balloc (brefl _) _) _⟩
set_option maxHeartbeats 1000000 in
theorem spec_meets (a b : GCell) (w : World) (ha : GSm a) (hb : GSm b) :
    Calls Tryd.prog 115 #[.agg #[.int .i64 a.row, .int .i64 a.col, .int .i64 a.rows, .int .i64 a.cols, .int .i64 a.inn], .agg #[.int .i64 b.row, .int .i64 b.col, .int .i64 b.rows, .int .i64 b.cols, .int .i64 b.inn]] w fun e w' => e = .returned (.bool (meets a b)) ∧ Below w.heap.size w w' := by
  obtain ⟨⟨a1, a2⟩, ⟨a3, a4⟩, ⟨a5, a6⟩, ⟨a7, a8⟩, _⟩ := ha
  obtain ⟨⟨b1, b2⟩, ⟨b3, b4⟩, ⟨b5, b6⟩, ⟨b7, b8⟩, _⟩ := hb
  unfold meets
  go_enter Tryd.func115, Tryd.ntmps115
  by_cases h1 : a.row < b.row + b.rows
  · by_cases h2 : b.row < a.row + a.rows
    · by_cases h3 : a.col < b.col + b.cols
      · by_cases h4 : b.col < a.col + a.cols
        all_goals go_wp2_with fail
        all_goals go_ret
        all_goals exact ⟨by first | (simp [*]; done) | (simp [*]; omega), balloc (balloc (brefl _) _) _⟩
      · go_wp2_with fail
        go_ret
        exact ⟨by first | (simp [*]; done) | (simp [*]; omega), balloc (balloc (brefl _) _) _⟩
    · go_wp2_with fail
      go_ret
      exact ⟨by first | (simp [*]; done) | (simp [*]; omega), balloc (balloc (brefl _) _) _⟩
  · go_wp2_with fail
    go_ret
    exact ⟨by first | (simp [*]; done) | (simp [*]; omega), balloc (balloc (brefl _) _) _⟩
theorem meets_comm (a b : GCell) : meets a b = meets b a := by
  unfold meets; rw [Bool.eq_iff_iff]; simp only [Bool.and_eq_true, decide_eq_true_eq]
  constructor <;> rintro ⟨⟨⟨h1, h2⟩, h3⟩, h4⟩ <;> exact ⟨⟨⟨h2, h1⟩, h4⟩, h3⟩

set_option maxHeartbeats 1000000 in
theorem impl_part (t : Tbl) (A : Option Addr) (c : Nat) (A' : Option Addr) (c' : Nat) (r : Int) (w : World) (hl : t.rows.length ≤ 1000000) (hf : SmZ t.foot) :
    Calls Tryd.prog 52 #[.agg #[.slice A t.cols.length c, .int .i64 t.head, .int .i64 t.foot, .slice A' t.rows.length c', .int .i64 t.gap], .int .i64 r] w fun e w' => e = .returned (.int .i64 (partOf t r)) ∧ Below w.heap.size w w' := by
  obtain ⟨f1, f2⟩ := hf
  unfold partOf
  go_enter Tryd.func52, Tryd.ntmps52
  by_cases h1 : r < t.head
  · rw [if_pos h1]
    go_wp2_with fail
    go_ret
    exact ⟨rfl, balloc (brefl _) _⟩
  · rw [if_neg h1]
    by_cases h2 : (t.rows.length : Int) - t.foot ≤ r
    · rw [if_pos h2]
      go_wp2_with fail
      go_ret
      exact ⟨rfl, balloc (brefl _) _⟩
    · rw [if_neg h2]
      go_wp2_with fail
      go_ret
      exact ⟨rfl, balloc (brefl _) _⟩
set_option maxHeartbeats 1000000 in
theorem impl_partX (t : Tbl) (A : Option Addr) (c : Nat) (A' : Option Addr) (c' : Nat) (r : Int) (w : World) (hl : t.rows.length ≤ 1000000) (hf : SmZ t.foot) :
    Calls Tryd.prog 52 #[.agg #[.slice A t.cols.length c, .int .i64 t.head, .int .i64 t.foot, .slice A' t.rows.length c', .int .i64 t.gap], .int .i64 r] w fun e w' => e = .returned (.int .i64 (partOf t r)) ∧ w' = w.alloc (.cells #[.slice A t.cols.length c, .int .i64 t.head, .int .i64 t.foot, .slice A' t.rows.length c', .int .i64 t.gap] 33) := by
  obtain ⟨f1, f2⟩ := hf
  unfold partOf
  go_enter Tryd.func52, Tryd.ntmps52
  by_cases h1 : r < t.head
  · rw [if_pos h1]
    go_wp2_with fail
    go_ret
    exact ⟨rfl, rfl⟩
  · rw [if_neg h1]
    by_cases h2 : (t.rows.length : Int) - t.foot ≤ r
    · rw [if_pos h2]
      go_wp2_with fail
      go_ret
      exact ⟨rfl, rfl⟩
    · rw [if_neg h2]
      go_wp2_with fail
      go_ret
      exact ⟨rfl, rfl⟩
set_option maxHeartbeats 1000000 in
theorem spec_part (t : Tbl) (A : Option Addr) (c : Nat) (A' : Option Addr) (c' : Nat) (r : Int) (w : World) (hl : t.rows.length ≤ 1000000) (hf : SmZ t.foot) :
    Calls Tryd.prog 114 #[.agg #[.slice A t.cols.length c, .int .i64 t.head, .int .i64 t.foot, .slice A' t.rows.length c', .int .i64 t.gap], .int .i64 r] w fun e w' => e = .returned (.int .i64 (partOf t r)) ∧ Below w.heap.size w w' := by
  obtain ⟨f1, f2⟩ := hf
  unfold partOf
  go_enter Tryd.func114, Tryd.ntmps114
  by_cases h1 : r < t.head
  · rw [if_pos h1]
    go_wp2_with fail
    go_ret
    exact ⟨rfl, balloc (brefl _) _⟩
  · rw [if_neg h1]
    by_cases h2 : (t.rows.length : Int) - t.foot ≤ r
    · rw [if_pos h2]
      go_wp2_with fail
      go_ret
      exact ⟨rfl, balloc (brefl _) _⟩
    · rw [if_neg h2]
      go_wp2_with fail
      go_ret
      exact ⟨rfl, balloc (brefl _) _⟩
end Go.Proofs.YtfcogogpioeggaaDoor
