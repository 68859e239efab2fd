import Derived.Test.YtfcogogpioeggaaDoorB
namespace Go.Proofs.YtfcogogpioeggaaDoor
open Go.RowKit
/- The statements' own helpers: what is the same is told to be the same. -/
theorem eqCol (x : TCol) (w : World) :
    Calls Tryd.prog 14 #[.agg #[.int .i64 x.k, .int .i64 x.n], .agg #[.int .i64 x.k, .int .i64 x.n]] w fun e w' => e = .returned (.bool true) ∧ Below w.heap.size w w' := by
  go_enter Tryd.func14, Tryd.ntmps14
  go_wp2
  go_ret
  exact ⟨rfl, balloc (balloc (brefl _) _) _⟩
theorem eqBrd (s v : Int) (w : World) :
    Calls Tryd.prog 140 #[.agg #[.int .i64 s, .int .i64 v], .agg #[.int .i64 s, .int .i64 v]] w fun e w' => e = .returned (.bool true) ∧ Below w.heap.size w w' := by
  go_enter Tryd.func140, Tryd.ntmps140
  go_wp2
  go_ret
  exact ⟨rfl, balloc (balloc (brefl _) _) _⟩
set_option maxRecDepth 100000 in
set_option maxHeartbeats 1000000 in
theorem eqCell (x : TCell) (w : World) :
    Calls Tryd.prog 130 #[.agg #[.string x.t, .int .i64 x.c, .int .i64 x.r, .int .i64 x.top.s, .int .i64 x.top.w, .int .i64 x.right.s, .int .i64 x.right.w, .int .i64 x.bot.s, .int .i64 x.bot.w, .int .i64 x.left.s, .int .i64 x.left.w], .agg #[.string x.t, .int .i64 x.c, .int .i64 x.r, .int .i64 x.top.s, .int .i64 x.top.w, .int .i64 x.right.s, .int .i64 x.right.w, .int .i64 x.bot.s, .int .i64 x.bot.w, .int .i64 x.left.s, .int .i64 x.left.w]] w fun e w' => e = .returned (.bool true) ∧ Below w.heap.size w w' := by
  go_enter Tryd.func130, Tryd.ntmps130
  go_wp2_with (go_at_call 140; refine (eqBrd _ _ _).mono ?_; rintro e w' ⟨rfl, hb⟩; obtain ⟨c0, f0, s0⟩ := seenBk w.heap.size (by first | (simp; omega) | simp [*]) hb; obtain ⟨c1, f1, s1⟩ := seenBk (w.heap.size + 1) (by first | (simp; omega) | simp [*]) hb)
  go_ret
  refine ⟨rfl, ?_⟩
  (repeat' (with_reducible first | exact brefl _ | refine balloc ?_ _ | refine step ?_ (by with_reducible assumption)))

set_option maxRecDepth 100000 in
set_option maxHeartbeats 1000000 in
theorem eqCols (A A' : Option Addr) (c c' : Nat) (xs : List TCol) (w : World) (hr : Rd colR w A xs) (hr' : Rd colR w A' xs) :
    Calls Tryd.prog 42 #[.slice A xs.length c, .slice A' xs.length c'] w fun e w' => e = .returned (.bool true) ∧ Below w.heap.size w w' := by
  have hl := hr.1
  go_enter Tryd.func42, Tryd.ntmps42
  go_wp2_with fail
  go_loopg [5] xs.length (fun gg s5 wr => ∃ kk : Nat, kk ≤ xs.length ∧ xs.length - kk ≤ gg ∧ s5 = .int .i64 kk ∧ Aside (Below w.heap.size w wr))
  case atStart => exact ⟨0, Nat.zero_le _, by omega, rfl, brefl _⟩
  case round =>
    obtain ⟨kk, hkk, hg, rfl, BW⟩ := hrel
    by_cases hlt : kk < xs.length
    · have hltz : (kk : Int) < (xs.length : Int) := by omega
      obtain ⟨b, o, c0, c1, rfl, hblt, hK, e0, e1⟩ := hr.at2 rfl BW.out kk hlt
      obtain ⟨b', o', d0, d1, rfl, hblt', hK', f0, f1⟩ := hr'.at2 rfl BW.out kk hlt
      have q : [c0, c1] = [.int .i64 xs[kk].k, .int .i64 xs[kk].n] := hK
      have q' : [d0, d1] = [.int .i64 xs[kk].k, .int .i64 xs[kk].n] := hK'
      simp only [List.cons.injEq, and_true] at q q'
      obtain ⟨rfl, rfl⟩ := q
      obtain ⟨rfl, rfl⟩ := q'
      clear hK hK'
      clear hr hr'
      go_wp2_with fail
      go_still_tail 8, (by kernel_rfl)
      go_wp2_with fail
      refine (eqCol xs[kk] _).mono ?_
      rintro e w' ⟨rfl, hb⟩
      go_wp2_with fail
      go_roundg (xs.length - (kk + 1))
      case measure => omega
      case rel => exact ⟨kk + 1, by omega, by omega, by go_num, step (bdrew BW.out) hb⟩
    · have hltz : ¬ (kk : Int) < (xs.length : Int) := by omega
      clear hr hr'
      go_wp2_with fail
      go_ret
      exact ⟨rfl, BW.out⟩

set_option maxRecDepth 100000 in
set_option maxHeartbeats 1000000 in
theorem eqCells (A A' : Option Addr) (c c' : Nat) (xs : List TCell) (w : World) (hr : Rd cellR w A xs) (hr' : Rd cellR w A' xs) :
    Calls Tryd.prog 110 #[.slice A xs.length c, .slice A' xs.length c'] w fun e w' => e = .returned (.bool true) ∧ Below w.heap.size w w' := by
  have hl := hr.1
  go_enter Tryd.func110, Tryd.ntmps110
  go_wp2_with fail
  go_loopg [5] xs.length (fun gg s5 wr => ∃ kk : Nat, kk ≤ xs.length ∧ xs.length - kk ≤ gg ∧ s5 = .int .i64 kk ∧ Aside (Below w.heap.size w wr))
  case atStart => exact ⟨0, Nat.zero_le _, by omega, rfl, brefl _⟩
  case round =>
    obtain ⟨kk, hkk, hg, rfl, BW⟩ := hrel
    by_cases hlt : kk < xs.length
    · have hltz : (kk : Int) < (xs.length : Int) := by omega
      obtain ⟨b, o, c0, c1, c2, c3, c4, c5, c6, c7, c8, c9, c10, rfl, hblt, hK, e0, e1, e2, e3, e4, e5, e6, e7, e8, e9, e10⟩ := hr.at11 rfl BW.out kk hlt
      obtain ⟨b', o', d0, d1, d2, d3, d4, d5, d6, d7, d8, d9, d10, rfl, hblt', hK', f0, f1, f2, f3, f4, f5, f6, f7, f8, f9, f10⟩ := hr'.at11 rfl BW.out kk hlt
      have q : [c0, c1, c2, c3, c4, c5, c6, c7, c8, c9, c10] = [.string xs[kk].t, .int .i64 xs[kk].c, .int .i64 xs[kk].r, .int .i64 xs[kk].top.s, .int .i64 xs[kk].top.w, .int .i64 xs[kk].right.s, .int .i64 xs[kk].right.w, .int .i64 xs[kk].bot.s, .int .i64 xs[kk].bot.w, .int .i64 xs[kk].left.s, .int .i64 xs[kk].left.w] := hK.1
      have q' : [d0, d1, d2, d3, d4, d5, d6, d7, d8, d9, d10] = [.string xs[kk].t, .int .i64 xs[kk].c, .int .i64 xs[kk].r, .int .i64 xs[kk].top.s, .int .i64 xs[kk].top.w, .int .i64 xs[kk].right.s, .int .i64 xs[kk].right.w, .int .i64 xs[kk].bot.s, .int .i64 xs[kk].bot.w, .int .i64 xs[kk].left.s, .int .i64 xs[kk].left.w] := hK'.1
      simp only [List.cons.injEq, and_true] at q q'
      obtain ⟨rfl, rfl, rfl, rfl, rfl, rfl, rfl, rfl, rfl, rfl, rfl⟩ := q
      obtain ⟨rfl, rfl, rfl, rfl, rfl, rfl, rfl, rfl, rfl, rfl, rfl⟩ := q'
      clear hK hK'
      clear hr hr'
      go_wp2_with fail
      go_still_tail 8, (by kernel_rfl)
      go_wp2_with fail
      refine (eqCell xs[kk] _).mono ?_
      rintro e w' ⟨rfl, hb⟩
      go_wp2_with fail
      go_roundg (xs.length - (kk + 1))
      case measure => omega
      case rel => exact ⟨kk + 1, by omega, by omega, by go_num, step (bdrew BW.out) hb⟩
    · have hltz : ¬ (kk : Int) < (xs.length : Int) := by omega
      clear hr hr'
      go_wp2_with fail
      go_ret
      exact ⟨rfl, BW.out⟩

theorem eqRow (A A' : Option Addr) (c c' : Nat) (x : TRow) (w : World) (hr : Rd cellR w A x.cs) (hr' : Rd cellR w A' x.cs) :
    Calls Tryd.prog 84 #[.agg #[.slice A x.cs.length c, .bool x.wh], .agg #[.slice A' x.cs.length c', .bool x.wh]] w fun e w' => e = .returned (.bool true) ∧ Below w.heap.size w w' := by
  have hC := fun (W : World) (h : Below w.heap.size w W) => eqCells A A' c c' x.cs W (hr.below h) (hr'.below h)
  clear hr hr'
  cases hwh : x.wh
  all_goals
    go_enter Tryd.func84, Tryd.ntmps84
    go_wp2_with fail
    refine (hC _ (balloc (balloc (brefl _) _) _)).mono ?_
    rintro e w' ⟨rfl, hb⟩
    obtain ⟨c0, f0, s0⟩ := seenBk w.heap.size (by first | (simp; omega) | simp [*]) hb
    obtain ⟨c1, f1, s1⟩ := seenBk (w.heap.size + 1) (by first | (simp; omega) | simp [*]) hb
    go_wp2_with fail
    go_ret
    exact ⟨rfl, step (balloc (balloc (brefl _) _) _) hb⟩

set_option maxRecDepth 100000 in
set_option maxHeartbeats 1000000 in
theorem eqRows (A A' : Option Addr) (c c' : Nat) (xs : List TRow) (w : World) (hr : Rd rowR w A xs) (hr' : Rd rowR w A' xs) :
    Calls Tryd.prog 43 #[.slice A xs.length c, .slice A' xs.length c'] w fun e w' => e = .returned (.bool true) ∧ Below w.heap.size w w' := by
  have hl := hr.1
  go_enter Tryd.func43, Tryd.ntmps43
  go_wp2_with fail
  go_loopg [5] xs.length (fun gg s5 wr => ∃ kk : Nat, kk ≤ xs.length ∧ xs.length - kk ≤ gg ∧ s5 = .int .i64 kk ∧ Aside (Below w.heap.size w wr))
  case atStart => exact ⟨0, Nat.zero_le _, by omega, rfl, brefl _⟩
  case round =>
    obtain ⟨kk, hkk, hg, rfl, BW⟩ := hrel
    by_cases hlt : kk < xs.length
    · have hltz : (kk : Int) < (xs.length : Int) := by omega
      obtain ⟨b, o, c0, c1, rfl, hblt, hK, e0, e1⟩ := hr.at2 rfl BW.out kk hlt
      obtain ⟨b', o', d0, d1, rfl, hblt', hK', f0, f1⟩ := hr'.at2 rfl BW.out kk hlt
      obtain ⟨v, q, A1, m1, rfl, hl1, hr1⟩ := hK
      obtain ⟨v', q', A2, m2, rfl, hl2, hr2⟩ := hK'
      simp only [List.cons.injEq, and_true] at q q'
      obtain ⟨rfl, rfl⟩ := q
      obtain ⟨rfl, rfl⟩ := q'
      clear hr hr'
      go_wp2_with fail
      go_still_tail 8, (by kernel_rfl)
      go_wp2_with fail
      refine (eqRow A1 A2 m1 m2 xs[kk] _ (hr1.below (bdrew (brefl _))) (hr2.below (bdrew (brefl _)))).mono ?_
      rintro e w' ⟨rfl, hb⟩
      go_wp2_with fail
      go_roundg (xs.length - (kk + 1))
      case measure => omega
      case rel => exact ⟨kk + 1, by omega, by omega, by go_num, step (bdrew BW.out) hb⟩
    · have hltz : ¬ (kk : Int) < (xs.length : Int) := by omega
      clear hr hr'
      go_wp2_with fail
      go_ret
      exact ⟨rfl, BW.out⟩

set_option maxHeartbeats 1000000 in
theorem eqTable (t : Tbl) (A A' B B' : Option Addr) (c c' d d' : Nat) (w : World) (hc : Rd colR w A t.cols) (hr : Rd rowR w A' t.rows) (hc' : Rd colR w B t.cols) (hr' : Rd rowR w B' t.rows) :
    Calls Tryd.prog 15 #[.agg #[.slice A t.cols.length c, .int .i64 t.head, .int .i64 t.foot, .slice A' t.rows.length c', .int .i64 t.gap], .agg #[.slice B t.cols.length d, .int .i64 t.head, .int .i64 t.foot, .slice B' t.rows.length d', .int .i64 t.gap]] w fun e w' => e = .returned (.bool true) ∧ Below w.heap.size w w' := by
  have hC1 := fun (W : World) (h : Below w.heap.size w W) => eqCols A B c d t.cols W (hc.below h) (hc'.below h)
  have hC2 := fun (W : World) (h : Below w.heap.size w W) => eqRows A' B' c' d' t.rows W (hr.below h) (hr'.below h)
  clear hc hr hc' hr'
  go_enter Tryd.func15, Tryd.ntmps15
  go_wp2_with fail
  refine (hC1 _ (balloc (balloc (brefl _) _) _)).mono ?_
  rintro e w1 ⟨rfl, hb1⟩
  obtain ⟨c0, f0, s0⟩ := seenBk w.heap.size (by first | (simp; omega) | simp [*]) hb1
  obtain ⟨c1, f1, s1⟩ := seenBk (w.heap.size + 1) (by first | (simp; omega) | simp [*]) hb1
  have HB1 := step (balloc (balloc (brefl w) _) _) hb1
  go_wp2_with fail
  refine (hC2 _ HB1).mono ?_
  rintro e w2 ⟨rfl, hb2⟩
  obtain ⟨c0', f0', s0'⟩ := seenBk w.heap.size (by simp [*]) hb2
  obtain ⟨c1', f1', s1'⟩ := seenBk (w.heap.size + 1) (by simp [*]) hb2
  go_wp2_with fail
  go_ret
  exact ⟨rfl, step HB1 hb2⟩
end Go.Proofs.YtfcogogpioeggaaDoor
