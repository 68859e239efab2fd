import Derived.Test.YtfcogogpioeggaaDoorL
namespace Go.Proofs.YtfcogogpioeggaaDoor
open Go.RowKit
/- The statements' own helpers: a copy of an argument. -/
theorem toBrd (s v : Int) (w : World) :
    Calls Tryd.prog 70 #[.agg #[.int .i64 s, .int .i64 v]] w fun e w' => e = .returned (.agg #[.int .i64 s, .int .i64 v]) ∧ Below w.heap.size w w' := by
  go_enter Tryd.func70, Tryd.ntmps70
  go_wp2
  exact bodyPost_ret (v := .agg #[.int .i64 s, .int .i64 v]) (by simp [results, Tryd.results70, go_sem]) rfl ⟨rfl, balloc (balloc (balloc (brefl _) _) _) _⟩
theorem toCol (k n : Int) (w : World) :
    Calls Tryd.prog 75 #[.agg #[.int .i64 k, .int .i64 n]] w fun e w' => e = .returned (.agg #[.int .i64 k, .int .i64 n]) ∧ Below w.heap.size w w' := by
  go_enter Tryd.func75, Tryd.ntmps75
  go_wp2
  exact bodyPost_ret (v := .agg #[.int .i64 k, .int .i64 n]) (by simp [results, Tryd.results75, go_sem]) rfl ⟨rfl, balloc (balloc (balloc (brefl _) _) _) _⟩

set_option maxRecDepth 100000 in
set_option maxHeartbeats 1000000 in
theorem toCell (x : TCell) (w : World) :
    Calls Tryd.prog 33 #[.agg #[.string x.t, .int .i64 x.c, .int .i64 x.r, .int .i64 x.top.s, .int .i64 x.top.w, .int .i64 x.right.s, .int .i64 x.right.w, .int .i64 x.bot.s, .int .i64 x.bot.w, .int .i64 x.left.s, .int .i64 x.left.w]] w fun e w' => e = .returned (.agg #[.string x.t, .int .i64 x.c, .int .i64 x.r, .int .i64 x.top.s, .int .i64 x.top.w, .int .i64 x.right.s, .int .i64 x.right.w, .int .i64 x.bot.s, .int .i64 x.bot.w, .int .i64 x.left.s, .int .i64 x.left.w]) ∧ Below w.heap.size w w' := by
  go_enter Tryd.func33, Tryd.ntmps33
  go_wp2_with (go_at_call 70; refine (toBrd _ _ _).mono ?_; rintro e w' ⟨rfl, hb⟩; obtain ⟨c0, f0, s0⟩ := seenBk w.heap.size (by first | (simp; omega) | simp [*]) hb; obtain ⟨c1, f1, s1⟩ := seenBk (w.heap.size + 1) (by first | (simp; omega) | simp [*]) hb; obtain ⟨c2, f2, s2⟩ := seenBk (w.heap.size + 1 + 1) (by first | (simp; omega) | simp [*]) hb)
  exact bodyPost_ret (v := .agg #[.string x.t, .int .i64 x.c, .int .i64 x.r, .int .i64 x.top.s, .int .i64 x.top.w, .int .i64 x.right.s, .int .i64 x.right.w, .int .i64 x.bot.s, .int .i64 x.bot.w, .int .i64 x.left.s, .int .i64 x.left.w]) (by simp [results, Tryd.results33, go_sem, *]) rfl ⟨rfl, by (repeat' (with_reducible first | exact brefl _ | refine balloc ?_ _ | refine bset ?_ ?_ _ | refine step ?_ (by with_reducible assumption))) <;> first | (simp; done) | (simp; omega)⟩

theorem make_eq {P : Program} {t e : TypeId} {z : Value} {k bytes : Nat} (ht : P.underlying t = some (.slice e)) (hinfo : (P.info? e).map (fun i => (i.zero, i.size, i.bytes)) = some (some z, k, bytes)) (n : Nat) (hn : bytes * n ≤ 281474976710656) (hm : n ≤ 9223372036854775807) :
    ∀ W : World, (Instr.makeSlice t (.int .i64 (n : Int)) (.int .i64 (n : Int))).run P W = .ok (.slice (some ⟨W.heap.size, 0, none⟩) n n) (W.alloc (.cells (madeCells z.cells (n * k)) e)) := by
  obtain ⟨i0, hi, hzz⟩ := Option.map_eq_some_iff.1 hinfo
  simp only [Prod.mk.injEq] at hzz
  obtain ⟨hz, rfl, rfl⟩ := hzz
  intro W
  have hb : (i0.bytes : Int) * (n : Int) ≤ 281474976710656 := by
    have h : ((i0.bytes * n : Nat) : Int) ≤ 281474976710656 := by omega
    rwa [Int.natCast_mul] at h
  have := run_make (P := P) W t e i0 z ht hi hz .i64 .i64 n n (by omega) (Int.le_refl _) hb (by omega)
  simpa using this
theorem made_own (W : World) (base : Nat) (z : Array Value) (k n : Nat) (e : TypeId) (hb : base ≤ W.heap.size) (hm : n ≤ 9223372036854775807) :
    (W.alloc (.cells (madeCells z (n * k)) e)).ownsRow base e k (.slice (some ⟨W.heap.size, 0, none⟩) n n) n (madeCells z (n * k)).toList :=
  World.ownsRow_lit W _ n hb (by simpa [maxLen] using hm) (size_madeCells _ _)

def OwnPost (base : Nat) (E : TypeId) (k n : Nat) (cs : List Value) (w : World) (e : Ending) (w' : World) : Prop :=
  ∃ g, e = .returned (.slice (some ⟨g, 0, none⟩) n n) ∧ w'.ownsRow base E k (.slice (some ⟨g, 0, none⟩) n n) n cs ∧ Below w.heap.size w w'

set_option maxHeartbeats 1000000 in
theorem toCols (A : Option Addr) (c : Nat) (xs : List TCol) (w : World) (hr : Rd colR w A xs) (hb : xs.length ≤ 1048576) :
    Calls Tryd.prog 38 #[.slice A xs.length c] w (OwnPost w.heap.size 28 2 xs.length (xs.flatMap colE) w) := by
  have hl := hr.1
  have hmk := make_eq (P := Tryd.prog) (z := .agg #[.int .i64 0, .int .i64 0]) (k := 2) (bytes := 16) Tryd.underlying30 (by kernel_rfl) xs.length (by omega) hl
  have own0 := made_own w w.heap.size #[.int .i64 0, .int .i64 0] 2 xs.length 28 (Nat.le_refl _) hl
  go_enter Tryd.func38, Tryd.ntmps38
  go_wp2_with fail
  go_loopg [4] xs.length (fun gg s4 wr => ∃ kk : Nat, kk ≤ xs.length ∧ xs.length - kk ≤ gg ∧ s4 = .int .i64 kk ∧ Aside (Below w.heap.size w wr) ∧ Aside (∃ X, wr.ownsRow w.heap.size 28 2 (.slice (some ⟨w.heap.size, 0, none⟩) xs.length xs.length) xs.length X ∧ X.take (kk * 2) = (xs.take kk).flatMap colE))
  case atStart => exact ⟨0, Nat.zero_le _, by omega, rfl, balloc (brefl _) _, _, own0, by simp⟩
  case round =>
    obtain ⟨kk, hkk, hg, rfl, BW, X, HO, HX⟩ := hrel
    clear own0 hmk
    have hXl := HO.1
    by_cases hlt : kk < xs.length
    · have hltz : (kk : Int) < (xs.length : Int) := by omega
      obtain ⟨b, o, c0, c1, rfl, hblt, hK, e0, e1⟩ := hr.at2 rfl BW.out kk hlt
      have hK' : [c0, c1] = [.int .i64 xs[kk].k, .int .i64 xs[kk].n] := hK
      simp only [List.cons.injEq, and_true] at hK'
      obtain ⟨rfl, rfl⟩ := hK'
      have HT := hide (show (xs.take (kk + 1)).flatMap colE = (xs.take kk).flatMap colE ++ [.int .i64 xs[kk].k, .int .i64 xs[kk].n] by rw [List.take_succ_eq_append_getElem hlt, List.flatMap_append]; rfl)
      have HXH := hide HX
      have HXL := hide hXl
      have BWH := BW.out
      clear hK hr HX hXl
      go_wp2_with fail
      refine (toCol _ _ _).mono ?_
      rintro e w' ⟨rfl, hb⟩
      have HO' := own_below HO hb
      have x0 := HO'.cellAt (kk * 2) (by omega)
      have x1 := HO'.cellAt (kk * 2 + 1) (by omega)
      rw [List.getElem?_eq_getElem (by rw [HXL.out]; omega)] at x0 x1
      have y0 := HO'.frozenAt (kk * 2)
      have y1 := HO'.frozenAt (kk * 2 + 1)
      have HO2 := own_store2 HO' (kk * 2) (.int .i64 xs[kk].k) (.int .i64 xs[kk].n)
      clear HO
      go_wp2_with fail
      go_roundg (xs.length - (kk + 1))
      case measure => omega
      case rel =>
        refine ⟨kk + 1, by omega, by omega, by go_num, bset (bset (step BWH hb) (Nat.le_refl _) _) (Nat.le_refl _) _, (show Aside _ from ⟨_, HO2, ?_⟩)⟩
        have := setL_take [.int .i64 xs[kk].k, .int .i64 xs[kk].n] X (kk * 2) (by rw [HXL.out]; simp; omega)
        rw [show (kk + 1) * 2 = kk * 2 + [Value.int .i64 xs[kk].k, .int .i64 xs[kk].n].length by simp; omega, this, HXH.out, HT.out]
    · have hltz : ¬ (kk : Int) < (xs.length : Int) := by omega
      have HL := hide (show kk = xs.length by omega)
      have HXH := hide HX
      have HXL := hide hXl
      clear hr HX hXl
      go_wp2_with fail
      go_ret
      refine ⟨w.heap.size, rfl, ?_, BW.out⟩
      have h1 : X = xs.flatMap colE := by
        have := HXH.out
        rw [HL.out, List.take_length, ← HXL.out, List.take_length] at this
        exact this
      rw [← h1]; exact HO

set_option maxRecDepth 100000 in
set_option maxHeartbeats 4000000 in
theorem toCells (A : Option Addr) (c : Nat) (xs : List TCell) (w : World) (hr : Rd cellA w A xs) (hb : xs.length ≤ 1048576) :
    Calls Tryd.prog 106 #[.slice A xs.length c] w (OwnPost w.heap.size 65 11 xs.length (xs.flatMap cellE) w) := by
  have hl := hr.1
  have hmk := make_eq (P := Tryd.prog) (z := .agg #[.string ⟨#[]⟩, .int .i64 0, .int .i64 0, .int .i64 0, .int .i64 0, .int .i64 0, .int .i64 0, .int .i64 0, .int .i64 0, .int .i64 0, .int .i64 0]) (k := 11) (bytes := 96) Tryd.underlying82 (by kernel_rfl) xs.length (by omega) hl
  have own0 := made_own w w.heap.size #[.string ⟨#[]⟩, .int .i64 0, .int .i64 0, .int .i64 0, .int .i64 0, .int .i64 0, .int .i64 0, .int .i64 0, .int .i64 0, .int .i64 0, .int .i64 0] 11 xs.length 65 (Nat.le_refl _) hl
  go_enter Tryd.func106, Tryd.ntmps106
  go_wp2_with fail
  go_loopg [4] xs.length (fun gg s4 wr => ∃ kk : Nat, kk ≤ xs.length ∧ xs.length - kk ≤ gg ∧ s4 = .int .i64 kk ∧ Aside (Below w.heap.size w wr) ∧ Aside (∃ X, wr.ownsRow w.heap.size 65 11 (.slice (some ⟨w.heap.size, 0, none⟩) xs.length xs.length) xs.length X ∧ X.take (kk * 11) = (xs.take kk).flatMap cellE))
  case atStart => exact ⟨0, Nat.zero_le _, by omega, rfl, balloc (brefl _) _, _, own0, by simp⟩
  case round =>
    obtain ⟨kk, hkk, hg, rfl, BW, X, HO, HX⟩ := hrel
    clear own0 hmk
    have hXl := HO.1
    by_cases hlt : kk < xs.length
    · have hltz : (kk : Int) < (xs.length : Int) := by omega
      obtain ⟨b, o, d0, d1, d2, d3, d4, d5, d6, d7, d8, d9, d10, rfl, hblt, hK, e0, e1, e2, e3, e4, e5, e6, e7, e8, e9, e10⟩ := hr.at11 rfl BW.out kk hlt
      have hK' : [d0, d1, d2, d3, d4, d5, d6, d7, d8, d9, d10] = [.string xs[kk].t, .int .i64 xs[kk].c, .int .i64 xs[kk].r, .int .i64 xs[kk].top.s, .int .i64 xs[kk].top.w, .int .i64 xs[kk].right.s, .int .i64 xs[kk].right.w, .int .i64 xs[kk].bot.s, .int .i64 xs[kk].bot.w, .int .i64 xs[kk].left.s, .int .i64 xs[kk].left.w] := hK
      simp only [List.cons.injEq, and_true] at hK'
      obtain ⟨rfl, rfl, rfl, rfl, rfl, rfl, rfl, rfl, rfl, rfl, rfl⟩ := hK'
      have HT := hide (show (xs.take (kk + 1)).flatMap cellE = (xs.take kk).flatMap cellE ++ [.string xs[kk].t, .int .i64 xs[kk].c, .int .i64 xs[kk].r, .int .i64 xs[kk].top.s, .int .i64 xs[kk].top.w, .int .i64 xs[kk].right.s, .int .i64 xs[kk].right.w, .int .i64 xs[kk].bot.s, .int .i64 xs[kk].bot.w, .int .i64 xs[kk].left.s, .int .i64 xs[kk].left.w] by rw [List.take_succ_eq_append_getElem hlt, List.flatMap_append]; rfl)
      have HXH := hide HX
      have HXL := hide hXl
      have BWH := BW.out
      clear hK hr HX hXl
      go_wp2_with fail
      refine (toCell xs[kk] _).mono ?_
      rintro e w' ⟨rfl, hb⟩
      have HO' := own_below HO hb
      have x0 := HO'.cellAt (kk * 11) (by omega)
      have x1 := HO'.cellAt (kk * 11 + 1) (by omega)
      have x2 := HO'.cellAt (kk * 11 + 2) (by omega)
      have x3 := HO'.cellAt (kk * 11 + 3) (by omega)
      have x4 := HO'.cellAt (kk * 11 + 4) (by omega)
      have x5 := HO'.cellAt (kk * 11 + 5) (by omega)
      have x6 := HO'.cellAt (kk * 11 + 6) (by omega)
      have x7 := HO'.cellAt (kk * 11 + 7) (by omega)
      have x8 := HO'.cellAt (kk * 11 + 8) (by omega)
      have x9 := HO'.cellAt (kk * 11 + 9) (by omega)
      have x10 := HO'.cellAt (kk * 11 + 10) (by omega)
      rw [List.getElem?_eq_getElem (by rw [HXL.out]; omega)] at x0 x1 x2 x3 x4 x5 x6 x7 x8 x9 x10
      have y0 := HO'.frozenAt (kk * 11)
      have y1 := HO'.frozenAt (kk * 11 + 1)
      have y2 := HO'.frozenAt (kk * 11 + 2)
      have y3 := HO'.frozenAt (kk * 11 + 3)
      have y4 := HO'.frozenAt (kk * 11 + 4)
      have y5 := HO'.frozenAt (kk * 11 + 5)
      have y6 := HO'.frozenAt (kk * 11 + 6)
      have y7 := HO'.frozenAt (kk * 11 + 7)
      have y8 := HO'.frozenAt (kk * 11 + 8)
      have y9 := HO'.frozenAt (kk * 11 + 9)
      have y10 := HO'.frozenAt (kk * 11 + 10)
      have HO2 := own_store11 HO' (kk * 11) (.string xs[kk].t) (.int .i64 xs[kk].c) (.int .i64 xs[kk].r) (.int .i64 xs[kk].top.s) (.int .i64 xs[kk].top.w) (.int .i64 xs[kk].right.s) (.int .i64 xs[kk].right.w) (.int .i64 xs[kk].bot.s) (.int .i64 xs[kk].bot.w) (.int .i64 xs[kk].left.s) (.int .i64 xs[kk].left.w)
      clear HO
      go_wp2_with fail
      go_roundg (xs.length - (kk + 1))
      case measure => omega
      case rel =>
        refine ⟨kk + 1, by omega, by omega, by go_num, (show Below w.heap.size w _ by (with_reducible (repeat' refine bset ?_ (Nat.le_refl _) _)); exact step BWH hb), (show Aside _ from ⟨_, HO2, ?_⟩)⟩
        have := setL_take [.string xs[kk].t, .int .i64 xs[kk].c, .int .i64 xs[kk].r, .int .i64 xs[kk].top.s, .int .i64 xs[kk].top.w, .int .i64 xs[kk].right.s, .int .i64 xs[kk].right.w, .int .i64 xs[kk].bot.s, .int .i64 xs[kk].bot.w, .int .i64 xs[kk].left.s, .int .i64 xs[kk].left.w] X (kk * 11) (by rw [HXL.out]; simp; omega)
        rw [show (kk + 1) * 11 = kk * 11 + List.length ([.string xs[kk].t, .int .i64 xs[kk].c, .int .i64 xs[kk].r, .int .i64 xs[kk].top.s, .int .i64 xs[kk].top.w, .int .i64 xs[kk].right.s, .int .i64 xs[kk].right.w, .int .i64 xs[kk].bot.s, .int .i64 xs[kk].bot.w, .int .i64 xs[kk].left.s, .int .i64 xs[kk].left.w] : List Value) by simp; omega, this, HXH.out, HT.out]
    · have hltz : ¬ (kk : Int) < (xs.length : Int) := by omega
      have HL := hide (show kk = xs.length by omega)
      have HXH := hide HX
      have HXL := hide hXl
      clear hr HX hXl
      go_wp2_with fail
      go_ret
      refine ⟨w.heap.size, rfl, ?_, BW.out⟩
      have h1 : X = xs.flatMap cellE := by
        have := HXH.out
        rw [HL.out, List.take_length, ← HXL.out, List.take_length] at this
        exact this
      rw [← h1]; exact HO
end Go.Proofs.YtfcogogpioeggaaDoor
