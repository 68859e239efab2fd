import Derived.Test.YtpfagdmmhgcmnaaGreatDoorMixV
import Derived.Test.YtpfagdmmhgcmnaaGreatDoorMixT
import Derived.Laws.IdiomStrings
import Derived.Deep.Slices
import Derived.ChangeSame
import Derived.Below
import Derived.Shelf.Vars
set_option linter.unusedVariables false
set_option linter.unusedSimpArgs false
namespace Go.Proofs.YtpfagdmmhgcmnaaGreatDoor
open Go.RowKit
variable {α : Type}
theorem flatMap_length (enc : α → List Value) (k : Nat) (hk : ∀ x, (enc x).length = k) (xs : List α) : (xs.flatMap enc).length = xs.length * k := by
 induction xs with
 | nil => simp
 | cons x xs ih => rw [List.flatMap_cons, List.length_append, ih, hk, List.length_cons, Nat.succ_mul]; omega
theorem flatMap_get (enc : α → List Value) (k : Nat) (hk : ∀ x, (enc x).length = k) : ∀ (xs : List α) (j i : Nat) (u : Value) (hj : j < xs.length), (enc xs[j])[i]? = some u → (xs.flatMap enc)[j * k + i]? = some u
 | x :: xs, 0, i, u, _, hu => by
  rw [List.flatMap_cons, Nat.zero_mul, Nat.zero_add]
  have hi : i < (enc x).length := (List.getElem?_eq_some_iff.1 hu).1
  rw [List.getElem?_append_left hi]; exact hu
 | x :: xs, j + 1, i, u, hj, hu => by
  rw [List.flatMap_cons, List.getElem?_append_right (by rw [hk, Nat.succ_mul]; omega), hk, show (j + 1) * k + i - k = j * k + i by rw [Nat.succ_mul]; omega]
  exact flatMap_get enc k hk xs j i u (by simpa using hj) hu
theorem own_rd {enc : α → List Value} {k : Nat} {hk : ∀ x, (enc x).length = k} {w : World} {base : Nat} {E : TypeId} {v : Value} {xs : List α} (h : w.ownsRow base E k v xs.length (xs.flatMap enc)) : IsSl (flat k enc hk) w v xs := by
 rcases h.2 with ⟨rfl, h0⟩ | ⟨g, cap, cur, rfl, hb, hh, h1, h2, h3, h4⟩
 ·
  have : xs = [] := List.eq_nil_of_length_eq_zero h0
  subst this
  exact ⟨none, 0, rfl, Nat.le_refl _, Rd.nil _ _ _⟩
 ·
  refine ⟨some ⟨g, 0, none⟩, cap, rfl, h1, by simp only [maxLen] at h2; omega, fun hn => ⟨g, 0, rfl, (Array.getElem?_eq_some_iff.1 hh).1, fun j hj => ⟨enc xs[j], rfl, fun i u hu => ?_⟩⟩⟩
  have hlt : i < k := by have := (List.getElem?_eq_some_iff.1 hu).1; rw [hk] at this; exact this
  have hjk : j * k + i < xs.length * k := Nat.lt_of_lt_of_le (show j * k + i < (j + 1) * k by rw [Nat.succ_mul]; omega) (Nat.mul_le_mul_right _ hj)
  have e := h.cellAt (j * k + i) hjk
  rw [flatMap_get enc k hk xs j i u hj hu] at e
  have e0 : (0 : Nat) + j * (flat k enc hk).sz + i = j * k + i := by show 0 + j * k + i = _; omega
  rw [e0]; exact e
theorem own_keep {w w' : World} {base : Nat} {E : TypeId} {k n : Nat} {v : Value} {xs : List Value} (h : w.ownsRow base E k v n xs) (hk : ∀ b, v.ownBlock = some b → w'.heap[b]? = w.heap[b]?) : w'.ownsRow base E k v n xs := by
 refine ⟨h.1, ?_⟩
 rcases h.2 with h0 | ⟨g, cap, cur, rfl, hb, hh, r⟩
 ·
  exact .inl h0
 ·
  exact .inr ⟨g, cap, cur, rfl, hb, (hk g rfl).trans hh, r⟩
theorem own_lt {w : World} {base : Nat} {E : TypeId} {k n : Nat} {v : Value} {xs : List Value} (h : w.ownsRow base E k v n xs) {b : Nat} (hb : v.ownBlock = some b) : base ≤ b ∧ b < w.heap.size := h.lt b hb
theorem own_below {w w' : World} {base : Nat} {E : TypeId} {k n : Nat} {v : Value} {xs : List Value} (h : w.ownsRow base E k v n xs) (hb : Below w.heap.size w w') : w'.ownsRow base E k v n xs :=
 own_keep h fun b e => hb.block b (own_lt h e).2
theorem own_base {w : World} {base base' : Nat} {E : TypeId} {k n : Nat} {v : Value} {xs : List Value} (h : w.ownsRow base E k v n xs) (hb : base' ≤ base) : w.ownsRow base' E k v n xs := by
 refine ⟨h.1, ?_⟩
 rcases h.2 with h0 | ⟨g, cap, cur, rfl, hg, r⟩
 ·
  exact .inl h0
 ·
  exact .inr ⟨g, cap, cur, rfl, by omega, r⟩
theorem heap_set (w : World) (a : Addr) (u : Value) (k : Nat) (h : k ≠ a.block) : (w.setCell a u).heap[k]? = w.heap[k]? := Below.heap_setCell w a u k h
def Apart (a b : Value) : Prop := ∀ k, a.ownBlock = some k → b.ownBlock ≠ some k
def rowCells (vs : List Value) (rows : List TRow) : List Value := (vs.zip rows).flatMap fun p => [p.1, .bool p.2.wh]
def RowsIn (w : World) (base : Nat) (E : TypeId) (vs : List Value) (rows : List TRow) : Prop :=
 vs.length = rows.length ∧ (∀ (j : Nat) (h : j < vs.length) (h' : j < rows.length), w.ownsRow base E 11 vs[j] rows[j].cs.length (rows[j].cs.flatMap cellE)) ∧ vs.Pairwise Apart
theorem RowsIn.nil (w : World) (base : Nat) (E : TypeId) : RowsIn w base E [] [] := ⟨rfl, fun _ h => absurd h (Nat.not_lt_zero _), List.Pairwise.nil⟩
theorem RowsIn.keep {w w' : World} {base : Nat} {E : TypeId} {vs : List Value} {rows : List TRow} (h : RowsIn w base E vs rows) (hk : ∀ b, base ≤ b → b < w.heap.size → w'.heap[b]? = w.heap[b]?) : RowsIn w' base E vs rows :=
 ⟨h.1, fun j h1 h2 => own_keep (h.2.1 j h1 h2) fun b hb => hk b (own_lt (h.2.1 j h1 h2) hb).1 (own_lt (h.2.1 j h1 h2) hb).2, h.2.2⟩
theorem RowsIn.snoc {w : World} {base : Nat} {E : TypeId} {vs : List Value} {rows : List TRow} {v : Value} {r : TRow} (h : RowsIn w base E vs rows) (hv : w.ownsRow base E 11 v r.cs.length (r.cs.flatMap cellE)) (ha : ∀ a ∈ vs, Apart a v) : RowsIn w base E (vs ++ [v]) (rows ++ [r]) := by
 refine ⟨by simp [h.1], fun j h1 h2 => ?_, ?_⟩
 ·
  rcases Nat.lt_or_ge j vs.length with hj | hj
  ·
   have hj' : j < rows.length := by rw [← h.1]; exact hj
   rw [List.getElem_append_left hj, List.getElem_append_left hj']
   exact h.2.1 j hj hj'
  ·
   have e : j = vs.length := by simp at h1; omega
   have e' : j = rows.length := by rw [← h.1]; exact e
   have g1 : (vs ++ [v])[j] = v := by rw [List.getElem_append_right (by omega)]; simp
   have g2 : (rows ++ [r])[j] = r := by rw [List.getElem_append_right (by omega)]; simp
   rw [g1, g2]; exact hv
 ·
  rw [List.pairwise_append]
  exact ⟨h.2.2, List.pairwise_singleton _ _, fun a ha' b hb => by rw [List.mem_singleton.1 hb]; exact ha a ha'⟩
theorem rowCells_snoc (vs : List Value) (rows : List TRow) (v : Value) (r : TRow) (h : vs.length = rows.length) : rowCells (vs ++ [v]) (rows ++ [r]) = rowCells vs rows ++ [v, .bool r.wh] := by
 unfold rowCells
 rw [List.zip_append h, List.flatMap_append]; rfl
def OwnRows (w : World) (base : Nat) (E F : TypeId) (v : Value) (rows : List TRow) : Prop :=
 ∃ vs, w.ownsRow base E 2 v rows.length (rowCells vs rows) ∧ RowsIn w base F vs rows ∧ ∀ a ∈ vs, Apart v a
theorem OwnRows.below {w w' : World} {base : Nat} {E F : TypeId} {v : Value} {rows : List TRow} (h : OwnRows w base E F v rows) (hb : Below w.heap.size w w') : OwnRows w' base E F v rows := by
 obtain ⟨vs, h1, h2, h3⟩ := h
 exact ⟨vs, own_below h1 hb, h2.keep fun b _ hlt => hb.block b hlt, h3⟩
theorem rowCells_get (vs : List Value) (rows : List TRow) : ∀ (j : Nat) (h1 : j < vs.length) (h2 : j < rows.length), (rowCells vs rows)[j * 2]? = some vs[j] ∧ (rowCells vs rows)[j * 2 + 1]? = some (.bool rows[j].wh) := by
 induction vs generalizing rows with
 | nil => intro j h; exact absurd h (Nat.not_lt_zero _)
 | cons v vs ih =>
  cases rows with
  | nil => intro j _ h; exact absurd h (Nat.not_lt_zero _)
  | cons r rows =>
   intro j h1 h2
   cases j with
   | zero => exact ⟨rfl, rfl⟩
   | succ j =>
    have := ih rows j (by simpa using h1) (by simpa using h2)
    have e : rowCells (v :: vs) (r :: rows) = v :: .bool r.wh :: rowCells vs rows := rfl
    rw [e, show (j + 1) * 2 = j * 2 + 1 + 1 by omega]
    exact this
theorem OwnRows.rd {w : World} {base : Nat} {E F : TypeId} {v : Value} {rows : List TRow} (h : OwnRows w base E F v rows) (hs : ∀ r ∈ rows, ∀ c ∈ r.cs, c.t.size ≤ 1048576) : IsSl rowR w v rows := by
 obtain ⟨vs, h1, h2, _⟩ := h
 rcases h1.2 with ⟨rfl, h0⟩ | ⟨g, cap, cur, rfl, hb, hh, k1, k2, k3, k4⟩
 ·
  have : rows = [] := List.eq_nil_of_length_eq_zero h0
  subst this
  exact ⟨none, 0, rfl, Nat.le_refl _, Rd.nil _ _ _⟩
 ·
  refine ⟨some ⟨g, 0, none⟩, cap, rfl, k1, by simp only [maxLen] at k2; omega, fun hn => ⟨g, 0, rfl, (Array.getElem?_eq_some_iff.1 hh).1, fun j hj => ?_⟩⟩
  have hv : j < vs.length := by rw [h2.1]; exact hj
  obtain ⟨g0, g1⟩ := rowCells_get vs rows j hv hj
  obtain ⟨A, c, e1, e2, e3⟩ := own_rd (enc := cellE) (k := 11) (hk := fun _ => rfl) (h2.2.1 j hv hj)
  refine ⟨[vs[j], .bool rows[j].wh], ⟨vs[j], rfl, A, c, e1, e2, e3.1, fun hn => ?_⟩, fun i u hu => ?_⟩
  ·
   obtain ⟨b, o, ha, hlt, hc⟩ := e3.2 hn
   refine ⟨b, o, ha, hlt, fun i hi => ?_⟩
   obtain ⟨cs, hk, hcell⟩ := hc i hi
   exact ⟨cs, ⟨hk, hs _ (List.getElem_mem hj) _ (List.getElem_mem hi)⟩, hcell⟩
  ·
   have e0 := h1.cellAt (j * 2) (by omega)
   have e1 := h1.cellAt (j * 2 + 1) (by omega)
   rw [g0] at e0
   rw [g1] at e1
   match i, hu with
   | 0, hu => simp at hu; subst hu; simpa [rowR] using e0
   | 1, hu => simp at hu; subst hu; simpa [rowR] using e1
theorem grow_refl (w : World) (r : Option Nat) : w.grownBy w r := World.grownBy.refl w r
theorem grow_trans {w w1 w2 : World} {r : Option Nat} (h : w.grownBy w1 r) (h' : w1.grownBy w2 r) : w.grownBy w2 r :=
 ⟨h'.os.trans h.os, h'.tape.trans h.tape, h'.output.trans h.output, Nat.le_trans h.size h'.size, fun k hk hne => (h'.block k (Nat.lt_of_lt_of_le hk h.size) hne).trans (h.block k hk hne)⟩
theorem grow_below {w w1 : World} {r : Option Nat} (h : Below w.heap.size w w1) : w.grownBy w1 r := ⟨h.os, h.tape, h.output, h.size, fun k hk _ => h.block k hk⟩
theorem grow_set (w : World) {g : Nat} {a : Addr} (ha : a.block = g) (u : Value) : w.grownBy (w.setCell a u) (some g) :=
 ⟨rfl, rfl, rfl, by simp, fun k _ hne => heap_set w a u k (fun e => hne (by rw [e, ha]))⟩
end Go.Proofs.YtpfagdmmhgcmnaaGreatDoor

namespace Go.Proofs.YtpfagdmmhgcmnaaGreatDoor
open Go.RowKit
def gcE (c : GCell) : List Value := [.int .i64 c.row, .int .i64 c.col, .int .i64 c.rows, .int .i64 c.cols, .int .i64 c.inn]
def SmZ (n : Int) : Prop := -1000000 ≤ n ∧ n ≤ 1000000
def GSm (x : GCell) : Prop := SmZ x.row ∧ SmZ x.col ∧ SmZ x.rows ∧ SmZ x.cols ∧ SmZ x.inn
def gcR : Rep GCell where
 sz := 5
 K := fun _ x cs => cs = gcE x ∧ GSm x
 len := by rintro w x cs ⟨rfl, _⟩; rfl
 below := fun _ h => h
def meets (a b : GCell) : Bool := decide (a.row < b.row + b.rows) && decide (b.row < a.row + a.rows) && decide (a.col < b.col + b.cols) && decide (b.col < a.col + a.cols)
def partOf (t : Tbl) (r : Int) : Int := if r < t.head then 0 else if (t.rows.length : Int) - t.foot ≤ r then 2 else 1
def endOf (t : Tbl) (r : Int) : Int := if r < t.head then t.head else if (t.rows.length : Int) - t.foot ≤ r then t.rows.length else t.rows.length - t.foot
def atCol (c : GCell) (k : Int) : GCell := { c with col := k }
def freeFrom (L : List GCell) (c : GCell) : Nat → Nat → Nat
 | 0, k => k
 | n + 1, k => if L.any (meets (atCol c k)) then freeFrom L c n (k + 1) else k
def cell0 (t : Tbl) (r i : Nat) (x : TCell) : GCell := ⟨r, 0, min x.r (endOf t r - r), x.c, i⟩
def step1 (m : Nat) (t : Tbl) (r i : Nat) (x : TCell) (S : List GCell × Int) : List GCell × Int :=
 let k := freeFrom S.1 (cell0 t r i x) m 0
 (S.1 ++ [atCol (cell0 t r i x) k], max S.2 (k + x.c))
def cellsSt (m : Nat) (t : Tbl) (r : Nat) : List TCell → Nat → List GCell × Int → List GCell × Int
 | [], _, S => S
 | x :: xs, i, S => cellsSt m t r xs (i + 1) (step1 m t r i x S)
def rowsSt (m : Nat) (t : Tbl) : List TRow → Nat → List GCell × Int → List GCell × Int
 | [], _, S => S
 | y :: ys, r, S => rowsSt m t ys (r + 1) (cellsSt m t r y.cs 0 S)
def grid0 (t : Tbl) : List GCell × Int := ([], max (t.cols.length : Int) 1)
def gridL (m : Nat) (t : Tbl) : List GCell × Int := rowsSt m t t.rows 0 (grid0 t)
set_option maxHeartbeats 1000000 in
theorem impl_meets (a b : GCell) (w : World) (ha : GSm a) (hb : GSm b) :
  Calls Tryz.prog 64 #[.agg #[.int .i64 a.row, .int .i64 a.col, .int .i64 a.rows, .int .i64 a.cols, .int .i64 a.inn], .agg #[.int .i64 b.row, .int .i64 b.col, .int .i64 b.rows, .int .i64 b.cols, .int .i64 b.inn]] w fun e w' => e = .returned (.bool (meets a b)) ∧ Below w.heap.size w w' := by
 obtain ⟨⟨a1, a2⟩, ⟨a3, a4⟩, ⟨a5, a6⟩, ⟨a7, a8⟩, _⟩ := ha
 obtain ⟨⟨b1, b2⟩, ⟨b3, b4⟩, ⟨b5, b6⟩, ⟨b7, b8⟩, _⟩ := hb
 unfold meets
 go_enter Tryz.func64, Tryz.ntmps64
 by_cases h1 : a.row < b.row + b.rows
 ·
  by_cases h2 : b.row < a.row + a.rows
  ·
   by_cases h3 : a.col < b.col + b.cols
   ·
    by_cases h4 : b.col < a.col + a.cols
    all_goals go_wp2_with fail
    all_goals go_ret
    all_goals exact ⟨by first | (simp [*]; done) | (simp [*]; omega), balloc (balloc (brefl _) _) _⟩
   ·
    go_wp2_with fail
    go_ret
    exact ⟨by first | (simp [*]; done) | (simp [*]; omega), balloc (balloc (brefl _) _) _⟩
  ·
   go_wp2_with fail
   go_ret
   exact ⟨by first | (simp [*]; done) | (simp [*]; omega), balloc (balloc (brefl _) _) _⟩
 ·
  go_wp2_with fail
  go_ret
  exact ⟨by first | (simp [*]; done) | (simp [*]; omega), balloc (balloc (brefl _) _) _⟩
set_option maxHeartbeats 1000000 in
theorem spec_meets (a b : GCell) (w : World) (ha : GSm a) (hb : GSm b) :
  Calls Tryz.prog 144 #[.agg #[.int .i64 a.row, .int .i64 a.col, .int .i64 a.rows, .int .i64 a.cols, .int .i64 a.inn], .agg #[.int .i64 b.row, .int .i64 b.col, .int .i64 b.rows, .int .i64 b.cols, .int .i64 b.inn]] w fun e w' => e = .returned (.bool (meets a b)) ∧ Below w.heap.size w w' := by
 obtain ⟨⟨a1, a2⟩, ⟨a3, a4⟩, ⟨a5, a6⟩, ⟨a7, a8⟩, _⟩ := ha
 obtain ⟨⟨b1, b2⟩, ⟨b3, b4⟩, ⟨b5, b6⟩, ⟨b7, b8⟩, _⟩ := hb
 unfold meets
 go_enter Tryz.func144, Tryz.ntmps144
 by_cases h1 : a.row < b.row + b.rows
 ·
  by_cases h2 : b.row < a.row + a.rows
  ·
   by_cases h3 : a.col < b.col + b.cols
   ·
    by_cases h4 : b.col < a.col + a.cols
    all_goals go_wp2_with fail
    all_goals go_ret
    all_goals exact ⟨by first | (simp [*]; done) | (simp [*]; omega), balloc (balloc (brefl _) _) _⟩
   ·
    go_wp2_with fail
    go_ret
    exact ⟨by first | (simp [*]; done) | (simp [*]; omega), balloc (balloc (brefl _) _) _⟩
  ·
   go_wp2_with fail
   go_ret
   exact ⟨by first | (simp [*]; done) | (simp [*]; omega), balloc (balloc (brefl _) _) _⟩
 ·
  go_wp2_with fail
  go_ret
  exact ⟨by first | (simp [*]; done) | (simp [*]; omega), balloc (balloc (brefl _) _) _⟩
theorem meets_comm (a b : GCell) : meets a b = meets b a := by
 unfold meets; rw [Bool.eq_iff_iff]; simp only [Bool.and_eq_true, decide_eq_true_eq]
 constructor <;> rintro ⟨⟨⟨h1, h2⟩, h3⟩, h4⟩ <;> exact ⟨⟨⟨h2, h1⟩, h4⟩, h3⟩
set_option maxHeartbeats 1000000 in
theorem impl_partX (t : Tbl) (A : Option Addr) (c : Nat) (A' : Option Addr) (c' : Nat) (r : Int) (w : World) (hl : t.rows.length ≤ 1000000) (hf : SmZ t.foot) :
  Calls Tryz.prog 62 #[.agg #[.slice A t.cols.length c, .int .i64 t.head, .int .i64 t.foot, .slice A' t.rows.length c', .int .i64 t.gap], .int .i64 r] w fun e w' => e = .returned (.int .i64 (partOf t r)) ∧ w' = w.alloc (.cells #[.slice A t.cols.length c, .int .i64 t.head, .int .i64 t.foot, .slice A' t.rows.length c', .int .i64 t.gap] 26) := by
 obtain ⟨f1, f2⟩ := hf
 unfold partOf
 go_enter Tryz.func62, Tryz.ntmps62
 by_cases h1 : r < t.head
 ·
  rw [if_pos h1]
  go_wp2_with fail
  go_ret
  exact ⟨rfl, rfl⟩
 ·
  rw [if_neg h1]
  by_cases h2 : (t.rows.length : Int) - t.foot ≤ r
  ·
   rw [if_pos h2]
   go_wp2_with fail
   go_ret
   exact ⟨rfl, rfl⟩
  ·
   rw [if_neg h2]
   go_wp2_with fail
   go_ret
   exact ⟨rfl, rfl⟩
end Go.Proofs.YtpfagdmmhgcmnaaGreatDoor

namespace Go.Proofs.YtpfagdmmhgcmnaaGreatDoor
open Go.RowKit
def Pred1 {α : Type} (P : Program) (g : Nat) (v : Value) (d : Rep α) (p : α → Bool) (w : World) : Prop :=
 ∀ (W : World) (x : α) (cs : List Value), Below w.heap.size w W → d.K W x cs → Calls P g #[v, agg cs] W fun e w' => e = .returned (.bool (p x)) ∧ Below W.heap.size W w'
variable {α : Type}
set_option maxHeartbeats 2000000 in
theorem idx1_GrdCell (d : Rep α) (hsz : d.sz = 5) (p : α → Bool) (g : Nat) (v : Value) (eg : ∀ args w, (callFunc g args).run Tryz.prog w = .ok (.enter g args) w) (A : Option Addr) (c : Nat) (xs : List α) (w : World)
  (hp : Pred1 Tryz.prog g v d p w) (hr : Rd d w A xs) :
  Calls Tryz.prog 111 #[.slice A xs.length c, .func (.func g) #[v] #[]] w fun e w' => e = .returned (.int .i64 (idxZ p xs)) ∧ Below w.heap.size w w' := by
 have hl := hr.1
 go_enter Tryz.func111, Tryz.ntmps111
 go_wp2
 go_loopg [5, 8] xs.length (fun gg _ s8 wr => ∃ kk : Nat, kk ≤ xs.length ∧ xs.length - kk ≤ gg ∧ s8 = .int .i64 kk ∧ Aside (Below w.heap.size w wr) ∧ Aside (∀ j (h : j < xs.length), j < kk → p xs[j] = false))
 case atStart => exact ⟨0, Nat.zero_le _, by omega, rfl, Below.refl _ w, fun j _ hj => absurd hj (Nat.not_lt_zero _)⟩
 case round =>
  obtain ⟨kk, hkk, hg, rfl, BW, AA⟩ := hrel
  by_cases hlt : kk < xs.length
  ·
   have hltz : (kk : Int) < (xs.length : Int) := by omega
   obtain ⟨b, o, c0, c1, c2, c3, c4, rfl, hblt, hK, h0, h1, h2, h3, h4⟩ := hr.at5 hsz BW.out kk hlt
   have hcall := hp wr _ _ BW.out hK
   clear hp hr
   cases hq : p xs[kk] with
   | true =>
    rw [hq] at hcall
    have Hq := hide hq; clear hq
    go_wp2_with (go_at_fn g; refine hcall.mono ?_; rintro e w' ⟨rfl, hb'⟩)
    go_ret
    exact ⟨by rw [idxZ_hit p xs kk hlt Hq.out AA.out]; rfl, step BW.out hb'⟩
   | false =>
    rw [hq] at hcall
    have Hq := hide hq; clear hq
    go_wp2_with (go_at_fn g; refine hcall.mono ?_; rintro e w' ⟨rfl, hb'⟩)
    go_roundg (xs.length - (kk + 1))
    case measure => omega
    case rel =>
     refine ⟨kk + 1, by omega, by omega, by go_num, step BW.out hb', (show Aside _ from fun j hj hjk => ?_)⟩
     by_cases e : j = kk
     ·
      subst e; exact Hq.out
     ·
      exact AA.out j hj (by omega)
  ·
   have hltz : ¬ (kk : Int) < (xs.length : Int) := by omega
   have hkl : kk = xs.length := by omega
   have HK := hide hkl; clear hkl
   go_wp2
   go_ret
   exact ⟨by rw [idxZ_miss p xs (fun j h _ => AA.out j h (by have := HK.out; omega))]; rfl, BW.out⟩
theorem any1_GrdCell (d : Rep α) (hsz : d.sz = 5) (p : α → Bool) (g : Nat) (v : Value) (eg : ∀ args w, (callFunc g args).run Tryz.prog w = .ok (.enter g args) w) (A : Option Addr) (c : Nat) (xs : List α) (w : World)
  (hp : Pred1 Tryz.prog g v d p w) (hr : Rd d w A xs) :
  Calls Tryz.prog 63 #[.slice A xs.length c, .func (.func g) #[v] #[]] w fun e w' => e = .returned (.bool (xs.any p)) ∧ Below w.heap.size w w' := by
 rw [← idxZ_any p xs]
 go_enter Tryz.func63, Tryz.ntmps63
 go_wp2_with (go_at_call 111; refine (idx1_GrdCell d hsz p g v eg A c xs w hp hr).mono ?_; rintro e w' ⟨rfl, hb'⟩)
 go_ret
 exact ⟨rfl, hb'⟩
theorem impl_meets1 (a : GCell) (w : World) (ha : GSm a) : Pred1 Tryz.prog 64 (.agg #[.int .i64 a.row, .int .i64 a.col, .int .i64 a.rows, .int .i64 a.cols, .int .i64 a.inn]) gcR (meets a) w := by
 rintro W x cs _ ⟨rfl, hx⟩
 exact impl_meets a x W ha hx
theorem any_take_hit {L : List GCell} {p : GCell → Bool} {k : Nat} (h : k < L.length) (hp : p L[k] = true) : L.any p = true := List.any_eq_true.2 ⟨_, List.getElem_mem h, hp⟩
theorem any_none {L : List GCell} {p : GCell → Bool} (h : ∀ j (hj : j < L.length), p L[j] = false) : L.any p = false := by
 rw [Bool.eq_false_iff]
 intro hn
 obtain ⟨x, hx, hp⟩ := List.any_eq_true.1 hn
 obtain ⟨j, hj, rfl⟩ := List.mem_iff_getElem.1 hx
 rw [h j hj] at hp; cases hp
set_option maxRecDepth 100000 in
set_option maxHeartbeats 2000000 in
theorem spec_free (L : List GCell) (A : Option Addr) (c : Nat) (a : GCell) (w : World) (hr : Rd gcR w A L) (ha : GSm a) :
  Calls Tryz.prog 107 #[.slice A L.length c, .agg #[.int .i64 a.row, .int .i64 a.col, .int .i64 a.rows, .int .i64 a.cols, .int .i64 a.inn]] w fun e w' => e = .returned (.bool (!L.any (meets a))) ∧ Below w.heap.size w w' := by
 have hl := hr.1
 go_enter Tryz.func107, Tryz.ntmps107
 go_wp2
 go_loopg [5] L.length (fun gg s5 wr => ∃ kk : Nat, kk ≤ L.length ∧ L.length - kk ≤ gg ∧ s5 = .int .i64 kk ∧ Aside (Below w.heap.size w wr) ∧ Aside (∀ j (h : j < L.length), j < kk → meets a L[j] = false) ∧
  wr.cell? ⟨w.heap.size, 0, none⟩ = some (.int .i64 a.row) ∧ wr.cell? ⟨w.heap.size, 1, none⟩ = some (.int .i64 a.col) ∧ wr.cell? ⟨w.heap.size, 2, none⟩ = some (.int .i64 a.rows) ∧ wr.cell? ⟨w.heap.size, 3, none⟩ = some (.int .i64 a.cols) ∧ wr.cell? ⟨w.heap.size, 4, none⟩ = some (.int .i64 a.inn) ∧ w.heap.size < wr.heap.size)
 case atStart => exact ⟨0, Nat.zero_le _, by omega, rfl, balloc (brefl w) _, fun j _ hj => absurd hj (Nat.not_lt_zero _), by simp, by simp, by simp, by simp, by simp, by simp⟩
 case round =>
  obtain ⟨kk, hkk, hg, rfl, BW, AA, g0, g1, g2, g3, g4, gl⟩ := hrel
  by_cases hlt : kk < L.length
  ·
   have hltz : (kk : Int) < (L.length : Int) := by omega
   obtain ⟨b, o, c0, c1, c2, c3, c4, rfl, hblt, hK, h0, h1, h2, h3, h4⟩ := hr.at5 rfl BW.out kk hlt
   obtain ⟨hK1, hK2⟩ := hK
   have hcall := fun (W : World) => spec_meets L[kk] a W hK2 ha
   simp only [gcE, List.cons.injEq, and_true] at hK1
   obtain ⟨rfl, rfl, rfl, rfl, rfl⟩ := hK1
   rw [meets_comm] at hcall
   clear hr
   cases hq : meets a L[kk] with
   | true =>
    rw [hq] at hcall
    have Hq := hide hq; clear hq
    go_wp2_with fail
    go_still_tail 5, (by kernel_rfl)
    go_wp2_with fail
    refine (hcall _).mono ?_
    rintro e w' ⟨rfl, hb'⟩
    go_wp2_with fail
    go_ret
    exact ⟨by rw [any_take_hit hlt Hq.out]; rfl, step (bdrew BW.out) hb'⟩
   | false =>
    rw [hq] at hcall
    have Hq := hide hq; clear hq
    go_wp2_with fail
    go_still_tail 5, (by kernel_rfl)
    go_wp2_with fail
    refine (hcall _).mono ?_
    rintro e w' ⟨rfl, hb'⟩
    obtain ⟨k0, l0, s0⟩ := seenBk w.heap.size (by simpa using gl) hb'
    go_wp2_with fail
    go_roundg (L.length - (kk + 1))
    case measure => omega
    case rel =>
     refine ⟨kk + 1, by omega, by omega, by go_num, step (bdrew BW.out) hb', (show Aside _ from fun j hj hjk => ?_), by simp [*], by simp [*], by simp [*], by simp [*], by simp [*], s0⟩
     by_cases e : j = kk
     ·
      subst e; exact Hq.out
     ·
      exact AA.out j hj (by omega)
  ·
   have hltz : ¬ (kk : Int) < (L.length : Int) := by omega
   have hkl : kk = L.length := by omega
   have HK := hide hkl; clear hkl
   go_wp2
   go_ret
   exact ⟨by rw [any_none (fun j h => AA.out j h (by have := HK.out; omega))]; rfl, BW.out⟩
end Go.Proofs.YtpfagdmmhgcmnaaGreatDoor

namespace Go.Proofs.YtpfagdmmhgcmnaaGreatDoor
open Go.RowKit
theorem free_le {L : List GCell} {c : GCell} {B : Nat} (hB : ∀ k : Nat, L.any (meets (atCol c k)) = true → k < B) : ∀ (m k : Nat), freeFrom L c m k ≤ max k B
 | 0, k => by simp [freeFrom]; omega
 | m + 1, k => by
  unfold freeFrom
  split
  ·
   rename_i h
   have := free_le hB m (k + 1)
   have := hB k h
   omega
  ·
   omega
theorem free_hit {L : List GCell} {c : GCell} {m k : Nat} (h : L.any (meets (atCol c k)) = true) : freeFrom L c (m + 1) k = freeFrom L c m (k + 1) := by rw [freeFrom, if_pos h]
theorem free_stop {L : List GCell} {c : GCell} {k : Nat} (h : L.any (meets (atCol c k)) = false) : ∀ m, freeFrom L c m k = k
 | 0 => rfl
 | m + 1 => by rw [freeFrom, if_neg (by simp [h])]
def GIn (n : Nat) (S : List GCell × Int) : Prop :=
 S.1.length ≤ n ∧ (∀ x ∈ S.1, (0 ≤ x.row ∧ x.row ≤ 8) ∧ (0 ≤ x.col ∧ x.col + x.cols ≤ 4 * n) ∧ (-8 ≤ x.rows ∧ x.rows ≤ 8) ∧ (1 ≤ x.cols ∧ x.cols ≤ 4) ∧ (0 ≤ x.inn ∧ x.inn ≤ 8)) ∧ 1 ≤ S.2 ∧ S.2 ≤ 8 + 4 * n
theorem GIn.sm {n : Nat} {S : List GCell × Int} (h : GIn n S) (hn : n ≤ 1000) : ∀ x ∈ S.1, GSm x := by
 intro x hx
 obtain ⟨⟨a1, a2⟩, ⟨a3, a4⟩, ⟨a5, a6⟩, ⟨a7, a8⟩, a9, a10⟩ := h.2.1 x hx
 refine ⟨?_, ?_, ?_, ?_, ?_⟩ <;> constructor <;> omega
theorem GIn.le {n n' : Nat} {S : List GCell × Int} (h : GIn n S) (hn : n ≤ n') : GIn n' S := by
 refine ⟨by have := h.1; omega, fun x hx => ?_, h.2.2.1, by have := h.2.2.2; omega⟩
 obtain ⟨b1, ⟨b2, b3⟩, b4⟩ := h.2.1 x hx
 exact ⟨b1, ⟨b2, by omega⟩, b4⟩
theorem GIn.blocked {n : Nat} {S : List GCell × Int} (h : GIn n S) (c : GCell) (k : Nat) (hb : S.1.any (meets (atCol c k)) = true) : k < 4 * n := by
 obtain ⟨x, hx, hm⟩ := List.any_eq_true.1 hb
 have := (h.2.1 x hx).2.1.2
 unfold meets at hm
 rw [Bool.and_eq_true, Bool.and_eq_true] at hm
 have h2 := of_decide_eq_true hm.1.2
 simp only [atCol] at h2
 omega
theorem GIn.free {n : Nat} {S : List GCell × Int} (h : GIn n S) (c : GCell) (m : Nat) : freeFrom S.1 c m 0 ≤ 4 * n := by
 have := free_le (fun k hk => h.blocked c k hk) m 0
 omega
theorem GIn.step {n : Nat} {S : List GCell × Int} (h : GIn n S) (m : Nat) (t : Tbl) (r i : Nat) (x : TCell) (hr : r ≤ 8) (hi : i ≤ 8) (hc : 1 ≤ x.c ∧ x.c ≤ 4) (hs : -8 ≤ (cell0 t r i x).rows ∧ (cell0 t r i x).rows ≤ 8) :
  GIn (n + 1) (step1 m t r i x S) := by
 have hk := h.free (cell0 t r i x) m
 unfold step1
 generalize freeFrom S.1 (cell0 t r i x) m 0 = K at hk ⊢
 dsimp only
 refine ⟨by simp only [List.length_append, List.length_singleton]; have := h.1; omega, ?_, ?_, ?_⟩
 ·
  intro y hy
  simp only [List.mem_append, List.mem_singleton] at hy
  rcases hy with hy | rfl
  ·
   obtain ⟨b1, ⟨b2, b3⟩, b4⟩ := h.2.1 y hy
   exact ⟨b1, ⟨b2, by omega⟩, b4⟩
  ·
   refine ⟨⟨?_, ?_⟩, ⟨?_, ?_⟩, hs, ?_, ?_, ?_⟩ <;> simp only [atCol, cell0] <;> omega
 ·
  have := h.2.2.1; omega
 ·
  have := h.2.2.2; omega
theorem GIn.zero (t : Tbl) (h : t.cols.length ≤ 8) : GIn 0 (grid0 t) := ⟨by simp [grid0], by simp [grid0], by simp only [grid0]; omega, by simp only [grid0]; omega⟩
theorem grown_seen {w w1 : World} {row : Option Nat} (hg : w.grownBy w1 row) (k : Nat) (hk : k < w.heap.size) (hne : row ≠ some k) :
  (∀ i, w1.cell? ⟨k, i, none⟩ = w.cell? ⟨k, i, none⟩) ∧ (∀ i, w1.frozen? ⟨k, i, none⟩ = w.frozen? ⟨k, i, none⟩) ∧ k < w1.heap.size := by
 have h := hg.block k hk (fun e => hne e.symm)
 exact ⟨fun i => World.cell?_of_block h, fun i => World.frozen?_of_block h, Nat.lt_of_lt_of_le hk hg.size⟩
theorem grown_below {w w1 : World} {row : Option Nat} {B : Nat} (hg : w.grownBy w1 row) (hB : B ≤ w.heap.size) (hne : ∀ k, row = some k → B ≤ k) : Below B w w1 :=
 ⟨hg.os, hg.tape, hg.output, hg.size, fun k hk => hg.block k (by omega) (fun e => by have := hne k e.symm; omega)⟩
theorem tblOk_parts {t : Tbl} (h : tblOk t = true) : (1 ≤ t.rows.length ∧ t.rows.length ≤ 8) ∧ t.cols.length ≤ 8 ∧ (0 ≤ t.gap ∧ t.gap ≤ 3) ∧ (0 ≤ t.head ∧ t.head ≤ t.rows.length) ∧ (0 ≤ t.foot ∧ t.foot ≤ t.rows.length - t.head) ∧
  (∀ x ∈ t.cols, colOk x = true) ∧ (∀ y ∈ t.rows, y.cs.length ≤ 5 ∧ ∀ x ∈ y.cs, cellOk x = true) := by
 simp only [tblOk, inB, Bool.and_eq_true, decide_eq_true_eq, List.all_eq_true] at h
 obtain ⟨⟨h1, h2⟩, h3, ⟨h4, h5⟩, ⟨h6, h7⟩, ⟨h8, h9⟩, h10, h11⟩ := h
 refine ⟨by omega, by omega, ⟨h4, h5⟩, ⟨h6, h7⟩, ⟨h8, h9⟩, h10, fun y hy => ?_⟩
 obtain ⟨k1, k2⟩ := h11 y hy
 exact ⟨by omega, k2⟩
theorem cellOk_parts {x : TCell} (h : cellOk x = true) : (1 ≤ x.c ∧ x.c ≤ 4) ∧ (1 ≤ x.r ∧ x.r ≤ 4) := by
 simp only [cellOk, inB, Bool.and_eq_true, decide_eq_true_eq] at h
 exact ⟨h.2.1, h.2.2.1⟩
theorem end_bounds {t : Tbl} (h : tblOk t = true) {r : Nat} (hr : r < t.rows.length) : (r : Int) < endOf t r ∧ endOf t r ≤ 8 := by
 obtain ⟨⟨_, h1⟩, _, _, ⟨h3, h4⟩, ⟨h5, h6⟩, _⟩ := tblOk_parts h
 unfold endOf
 split
 ·
  omega
 ·
  split <;> omega
theorem rows_bounds {t : Tbl} (h : tblOk t = true) {r : Nat} (hr : r < t.rows.length) (i : Nat) (x : TCell) (hx : 1 ≤ x.r ∧ x.r ≤ 4) : 1 ≤ (cell0 t r i x).rows ∧ (cell0 t r i x).rows ≤ 8 := by
 have := end_bounds h hr
 simp only [cell0]
 omega
theorem letter1 {f : World → Prop} {W : World} (h : ∀ wy, wy = W → f wy) : f W := h W rfl
theorem keepC {w w1 : World} (hb : Below w.heap.size w w1) {p : Addr} {v : Value} (h : w.cell? p = some v) : w1.cell? p = some v := (hb.cell (World.block_lt_of_cell? w _ h)).trans h
theorem keepF {w w1 : World} (hb : Below w.heap.size w w1) {k : Nat} (hk : k < w.heap.size) (h : ∀ i, w.frozen? ⟨k, i, none⟩ = false) : ∀ i, w1.frozen? ⟨k, i, none⟩ = false := fun i => ((seenBk k hk hb).2.1 i).trans (h i)
theorem max_int (ats : Array TypeId) (ty : TypeId) (k k' : IntKind) (x y : Int) : Builtin.max_ ats ty #[.int k x, .int k' y] = pure (.int k (max x y)) := by
 simp only [Builtin.max_, List.foldlM_cons, List.foldlM_nil, Builtin.max2, gt_iff_lt]
 have : (if x < y then y else x) = max x y := by split <;> omega
 rw [this]; rfl
theorem min_int (ats : Array TypeId) (ty : TypeId) (k k' : IntKind) (x y : Int) : Builtin.min_ ats ty #[.int k x, .int k' y] = pure (.int k (min x y)) := by
 simp only [Builtin.min_, List.foldlM_cons, List.foldlM_nil, Builtin.min2]
 have : (if y < x then y else x) = min x y := by split <;> omega
 rw [this]; rfl
theorem app_keep {w w2 : World} {o : Obj} {v : Value} (hg : (w.alloc o).grownBy w2 v.ownBlock) (b : Nat) (hb : b < w.heap.size) (hne : v.ownBlock ≠ some b) :
  (∀ i, w2.cell? ⟨b, i, none⟩ = w.cell? ⟨b, i, none⟩) ∧ (∀ i, w2.frozen? ⟨b, i, none⟩ = w.frozen? ⟨b, i, none⟩) ∧ b < w2.heap.size := by
 have hs : b < (w.alloc o).heap.size := by simp; omega
 obtain ⟨h1, h2, h3⟩ := grown_seen hg b hs hne
 obtain ⟨k1, k2, _⟩ := seenBk b hb (balloc (brefl w) o)
 exact ⟨fun i => (h1 i).trans (k1 i), fun i => (h2 i).trans (k2 i), h3⟩
theorem app_below {w0 w w2 : World} {o : Obj} {v : Value} {base E k n : Nat} {xs : List Value} (hB : Below w0.heap.size w0 w) (ho : w.ownsRow base E k v n xs) (hbase : w0.heap.size ≤ base) (hg : (w.alloc o).grownBy w2 v.ownBlock) : Below w0.heap.size w0 w2 :=
 (balloc hB o).trans (grown_below hg (by have := hB.size; simp; omega) (fun b hb => by have := (own_lt ho hb).1; omega))
theorem own_form {w : World} {base E k n : Nat} {v : Value} {xs : List Value} (h : w.ownsRow base E k v n xs) : ∃ A c, v = .slice A n c := by
 rcases h.2 with ⟨rfl, rfl⟩ | ⟨g, cap, cur, rfl, _⟩
 ·
  exact ⟨none, 0, rfl⟩
 ·
  exact ⟨_, _, rfl⟩
theorem own_set {w : World} {base E k n : Nat} {v : Value} {xs : List Value} (h : w.ownsRow base E k v n xs) {a : Addr} (ha : a.block < base) (u : Value) : (w.setCell a u).ownsRow base E k v n xs :=
 own_keep h fun b hb => heap_set w a u b (by have := (own_lt h hb).1; omega)
theorem setO {w : World} {a b : Addr} {u v : Value} (h : w.cell? b = some v) (hne : a ≠ b) : (w.setCell a u).cell? b = some v := by rw [World.cell?_setCell_other (h := hne)]; exact h
theorem setS {w : World} {a : Addr} {u v : Value} (h : w.cell? a = some u) : (w.setCell a v).cell? a = some v := by rw [World.cell?_setCell_same (h := h)]
theorem setF {w : World} {a : Addr} {u : Value} {b : Nat} (h : ∀ i, w.frozen? ⟨b, i, none⟩ = false) : ∀ i, (w.setCell a u).frozen? ⟨b, i, none⟩ = false := fun i => by rw [World.frozen?_setCell]; exact h i
theorem step_facts {m : Nat} {t : Tbl} {r i q : Nat} {x : TCell} {S : List GCell × Int} (hk : freeFrom S.1 (cell0 t r i x) m 0 = q) :
  (step1 m t r i x S).1 = S.1 ++ [⟨r, q, min x.r (endOf t r - r), x.c, i⟩] ∧ (step1 m t r i x S).2 = max S.2 (q + x.c) := by
 unfold step1; rw [hk]; exact ⟨rfl, rfl⟩
theorem step_own {m : Nat} {t : Tbl} {r i q : Nat} {x : TCell} {S : List GCell × Int} (hk : freeFrom S.1 (cell0 t r i x) m 0 = q) {w : World} {base E : Nat} {v : Value}
  (h : w.ownsRow base E 5 v (S.1.length + 1) (S.1.flatMap gcE ++ [.int .i64 r, .int .i64 q, .int .i64 (min x.r (endOf t r - r)), .int .i64 x.c, .int .i64 i])) :
  w.ownsRow base E 5 v (step1 m t r i x S).1.length ((step1 m t r i x S).1.flatMap gcE) := by
 rw [(step_facts hk).1]
 simpa [gcE, List.flatMap_append] using h
theorem news5 {w : World} {b : Nat} {u0 u1 u2 u3 u4 : Value} (h0 : w.cell? ⟨b, 0, none⟩ = some u0) (h1 : w.cell? ⟨b, 1, none⟩ = some u1) (h2 : w.cell? ⟨b, 2, none⟩ = some u2) (h3 : w.cell? ⟨b, 3, none⟩ = some u3) (h4 : w.cell? ⟨b, 4, none⟩ = some u4) :
  ∀ j u, [u0, u1, u2, u3, u4][j]? = some u → w.cell? ((⟨b, 0, none⟩ : Addr).add j) = some u := by
 intro j u hj
 have hadd : ∀ k, (⟨b, 0, none⟩ : Addr).add k = ⟨b, k, none⟩ := fun k => by rw [Addr.add_lit, Nat.zero_add]
 rw [hadd]
 match j, hj with
 | 0, hj => simp at hj; subst hj; exact h0
 | 1, hj => simp at hj; subst hj; exact h1
 | 2, hj => simp at hj; subst hj; exact h2
 | 3, hj => simp at hj; subst hj; exact h3
 | 4, hj => simp at hj; subst hj; exact h4
theorem ints5 (k : IntKind) (a b c d e : Int) : ∀ u ∈ [Value.int k a, .int k b, .int k c, .int k d, .int k e], u.oneCell' = true := by
 intro u hu
 simp only [List.mem_cons, List.not_mem_nil, or_false] at hu
 rcases hu with rfl | rfl | rfl | rfl | rfl <;> rfl
theorem infoG : (Tryz.prog.info? 39).map (fun i => (i.zero, i.size, i.bytes)) = some (some (.agg #[.int .i64 0, .int .i64 0, .int .i64 0, .int .i64 0, .int .i64 0]), 5, 40) := by kernel_rfl
theorem undG : Tryz.prog.underlying 33 = some (.slice 39) := by kernel_rfl
end Go.Proofs.YtpfagdmmhgcmnaaGreatDoor

namespace Go.Proofs.YtpfagdmmhgcmnaaGreatDoor
open Go.RowKit
theorem make_eq {P : Program} {t e : TypeId} {z : Value} {k bytes : Nat} (ht : P.underlying t = some (.slice e)) (hinfo : (P.info? e).map (fun i => (i.zero, i.size, i.bytes)) = some (some z, k, bytes)) (n : Nat) (hn : bytes * n ≤ 281474976710656) (hm : n ≤ 9223372036854775807) :
  ∀ W : World, (Instr.makeSlice t (.int .i64 (n : Int)) (.int .i64 (n : Int))).run P W = .ok (.slice (some ⟨W.heap.size, 0, none⟩) n n) (W.alloc (.cells (madeCells z.cells (n * k)) e)) := by
 obtain ⟨i0, hi, hzz⟩ := Option.map_eq_some_iff.1 hinfo
 simp only [Prod.mk.injEq] at hzz
 obtain ⟨hz, rfl, rfl⟩ := hzz
 intro W
 have hb : (i0.bytes : Int) * (n : Int) ≤ 281474976710656 := by
  have h : ((i0.bytes * n : Nat) : Int) ≤ 281474976710656 := by omega
  rwa [Int.natCast_mul] at h
 have := run_make (P := P) W t e i0 z ht hi hz .i64 .i64 n n (by omega) (Int.le_refl _) hb (by omega)
 simpa using this
theorem made_own (W : World) (base : Nat) (z : Array Value) (k n : Nat) (e : TypeId) (hb : base ≤ W.heap.size) (hm : n ≤ 9223372036854775807) :
  (W.alloc (.cells (madeCells z (n * k)) e)).ownsRow base e k (.slice (some ⟨W.heap.size, 0, none⟩) n n) n (madeCells z (n * k)).toList :=
 World.ownsRow_lit W _ n hb (by simpa [maxLen] using hm) (size_madeCells _ _)
end Go.Proofs.YtpfagdmmhgcmnaaGreatDoor

namespace Go.Proofs.YtpfagdmmhgcmnaaGreatDoor
open Go.RowKit
theorem own_setA {w : World} {base : Nat} {E : TypeId} {k n : Nat} {v : Value} {xs : List Value} (h : w.ownsRow base E k v n xs) {p : Addr} (hp : p.block < base) (u : Value) : (w.setCell p u).ownsRow base E k v n xs :=
 own_keep h fun b e => heap_set w p u b (by have := (own_lt h e).1; omega)
theorem own_alloc {w : World} {base : Nat} {E : TypeId} {k n : Nat} {v : Value} {xs : List Value} (h : w.ownsRow base E k v n xs) (o : Obj) : (w.alloc o).ownsRow base E k v n xs := own_below h (balloc (brefl _) o)
theorem OwnRows.mono {w : World} {base base' : Nat} {E F : TypeId} {v : Value} {rows : List TRow} (h : OwnRows w base E F v rows) (hb : base' ≤ base) : OwnRows w base' E F v rows := by
 obtain ⟨vs, h1, h2, h3⟩ := h
 exact ⟨vs, own_base h1 hb, ⟨h2.1, fun j a b => own_base (h2.2.1 j a b) hb, h2.2.2⟩, h3⟩
theorem OwnRows.set {w : World} {base : Nat} {E F : TypeId} {v : Value} {rows : List TRow} (h : OwnRows w base E F v rows) {p : Addr} (hp : p.block < base) (u : Value) : OwnRows (w.setCell p u) base E F v rows := by
 obtain ⟨vs, h1, h2, h3⟩ := h
 exact ⟨vs, own_setA h1 hp u, h2.keep fun b hb _ => heap_set w p u b (by omega), h3⟩
end Go.Proofs.YtpfagdmmhgcmnaaGreatDoor

namespace Go.Proofs.YtpfagdmmhgcmnaaGreatDoor
open Go.RowKit
theorem own_form0 {w : World} {base E k n : Nat} {v : Value} {xs : List Value} (h : w.ownsRow base E k v n xs) : ∃ A c, v = .slice A n c := by
 rcases h.2 with ⟨rfl, rfl⟩ | ⟨g, cap, cur, rfl, _⟩
 ·
  exact ⟨none, 0, rfl⟩
 ·
  exact ⟨_, _, rfl⟩
def Own (w : World) (lo hi : Nat) (E : TypeId) (k : Nat) (v : Value) (n : Nat) (xs : List Value) : Prop :=
 (n = 0 ∧ xs = [] ∧ ∃ A c, v = .slice A 0 c) ∨ (0 < n ∧ ∃ g c, v = .slice (some ⟨g, 0, none⟩) n c ∧ lo ≤ g ∧ g < hi ∧ w.ownsRow lo E k v n xs)
theorem Own.form {w : World} {lo hi : Nat} {E : TypeId} {k : Nat} {v : Value} {n : Nat} {xs : List Value} (h : Own w lo hi E k v n xs) : ∃ A c, v = .slice A n c := by
 rcases h with ⟨rfl, _, A, c, rfl⟩ | ⟨_, g, c, rfl, _⟩
 ·
  exact ⟨A, c, rfl⟩
 ·
  exact ⟨_, c, rfl⟩
theorem Own.keep {w w' : World} {lo hi : Nat} {E : TypeId} {k : Nat} {v : Value} {n : Nat} {xs : List Value} (h : Own w lo hi E k v n xs) (hk : ∀ b, lo ≤ b → b < hi → w'.heap[b]? = w.heap[b]?) : Own w' lo hi E k v n xs := by
 rcases h with h | ⟨hn, g, c, rfl, h1, h2, h3⟩
 ·
  exact .inl h
 ·
  exact .inr ⟨hn, g, c, rfl, h1, h2, own_keep h3 fun b e => by
   have : g = b := by simpa [Value.ownBlock] using e
   subst this; exact hk g h1 h2⟩
theorem Own.of {w : World} {lo hi : Nat} {E : TypeId} {k : Nat} {v : Value} {n : Nat} {xs : List Value} (h : w.ownsRow lo E k v n xs) (hh : w.heap.size ≤ hi) : Own w lo hi E k v n xs := by
 rcases Nat.eq_zero_or_pos n with rfl | hn
 ·
  left
  refine ⟨rfl, List.eq_nil_of_length_eq_zero (by rw [h.1]; simp), ?_⟩
  exact own_form0 h
 ·
  right
  rcases h.2 with ⟨_, h0⟩ | ⟨g, cap, cur, rfl, r⟩
  ·
   omega
  ·
   have := own_lt h (b := g) rfl
   exact ⟨hn, g, cap, rfl, this.1, by omega, h⟩
theorem Own.mono {w : World} {lo hi lo' hi' : Nat} {E : TypeId} {k : Nat} {v : Value} {n : Nat} {xs : List Value} (h : Own w lo hi E k v n xs) (hl : lo' ≤ lo) (hh : hi ≤ hi') : Own w lo' hi' E k v n xs := by
 rcases h with h | ⟨hn, g, c, rfl, h1, h2, h3⟩
 ·
  exact .inl h
 ·
  exact .inr ⟨hn, g, c, rfl, by omega, by omega, own_base h3 hl⟩
end Go.Proofs.YtpfagdmmhgcmnaaGreatDoor

namespace Go.Proofs.YtpfagdmmhgcmnaaGreatDoor
open Go.RowKit Go.WideShapes Go.ChangeShapes
section
variable {H : Type} {enc : TypeId × Value → H} {w : World} {base : Nat} {spare : Nat → Bool} {held : Bool} {fuel : Nat}
theorem at_plain {w : World} {a : Addr} {v : Value} (h : w.cell? a = some v) : a.spot = none := by
 simp only [World.cell?] at h
 split at h
 ·
  split at h
  ·
   cases h
  ·
   rename_i h1; simpa using h1
 ·
  cases h
theorem add_plain (b o i : Nat) : (⟨b, o, none⟩ : Addr).add i = ⟨b, o + i, none⟩ := by
 unfold Addr.add; split <;> simp_all
theorem rd_mono {α : Type} {d d' : Rep α} {w : World} {A : Option Addr} {xs : List α} (hz : d'.sz = d.sz) (hk : ∀ x ∈ xs, ∀ cs, d.K w x cs → d'.K w x cs) (h : Rd d w A xs) : Rd d' w A xs :=
 ⟨h.1, fun hn => by
  obtain ⟨b, o, e, hlt, hc⟩ := h.2 hn
  refine ⟨b, o, e, hlt, fun j hj => ?_⟩
  obtain ⟨cs, hK, hcell⟩ := hc j hj
  rw [hz]
  exact ⟨cs, hk _ (List.getElem_mem hj) cs hK, hcell⟩⟩
end
end Go.Proofs.YtpfagdmmhgcmnaaGreatDoor

namespace Go.Proofs.YtpfagdmmhgcmnaaGreatDoor
theorem free_two (L : List GCell) (c : GCell) (n : Nat) : ∀ (m k : Nat), freeFrom L c m k = freeFrom L c (m + n) k ∨ (freeFrom L c m k = k + m ∧ k + m ≤ freeFrom L c (m + n) k)
 | 0, k => .inr ⟨rfl, by
   have : ∀ (j k : Nat), k ≤ freeFrom L c j k := fun j => by
    induction j with
    | zero => intro k; exact Nat.le_refl k
    | succ j ih => intro k; unfold freeFrom; split; exact Nat.le_trans (Nat.le_succ k) (ih (k + 1)); exact Nat.le_refl k
   exact this _ _⟩
 | m + 1, k => by
  rw [show m + 1 + n = (m + n) + 1 by omega]
  unfold freeFrom
  split
  ·
   rcases free_two L c n m (k + 1) with h | ⟨h1, h2⟩
   ·
    exact .inl h
   ·
    exact .inr ⟨by omega, by omega⟩
  ·
   exact .inl rfl
def Alike (S S' : List GCell × Int) : Prop := S = S' ∨ (90 ≤ S.2 ∧ 90 ≤ S'.2)
theorem Alike.step {S S' : List GCell × Int} (h : Alike S S') (t : Tbl) (r i : Nat) (x : TCell) (hx : 0 ≤ x.c) : Alike (step1 400 t r i x S) (step1 90 t r i x S') := by
 rcases h with rfl | ⟨h1, h2⟩
 ·
  have hf := free_two S.1 (cell0 t r i x) 310 90 0
  rw [show 90 + 310 = 400 from rfl] at hf
  rcases hf with h | ⟨h1, h2⟩
  ·
   left; unfold step1; rw [h]
  ·
   right
   simp only [step1]
   rw [h1]
   constructor <;> omega
 ·
  right; simp only [step1]; constructor <;> omega
theorem Alike.cells (t : Tbl) (r : Nat) : ∀ (xs : List TCell) (i : Nat) {S S' : List GCell × Int}, (∀ x ∈ xs, 0 ≤ x.c) → Alike S S' → Alike (cellsSt 400 t r xs i S) (cellsSt 90 t r xs i S')
 | [], _, _, _, _, h => h
 | x :: xs, i, _, _, hx, h => Alike.cells t r xs (i + 1) (fun y hy => hx y (List.mem_cons_of_mem _ hy)) (h.step t r i x (hx x (List.mem_cons_self ..)))
theorem Alike.rows (t : Tbl) : ∀ (ys : List TRow) (r : Nat) {S S' : List GCell × Int}, (∀ y ∈ ys, ∀ x ∈ y.cs, 0 ≤ x.c) → Alike S S' → Alike (rowsSt 400 t ys r S) (rowsSt 90 t ys r S')
 | [], _, _, _, _, h => h
 | y :: ys, r, _, _, hx, h => Alike.rows t ys (r + 1) (fun z hz => hx z (List.mem_cons_of_mem _ hz)) (Alike.cells t r y.cs 0 (hx y (List.mem_cons_self ..)) h)
theorem grid_alike {t : Tbl} (h : tblOk t = true) : Alike (gridL 400 t) (gridL 90 t) :=
 Alike.rows t t.rows 0 (fun y hy x hx => by have := (cellOk_parts (((tblOk_parts h).2.2.2.2.2.2 y hy).2 x hx)).1.1; omega) (.inl rfl)
end Go.Proofs.YtpfagdmmhgcmnaaGreatDoor
