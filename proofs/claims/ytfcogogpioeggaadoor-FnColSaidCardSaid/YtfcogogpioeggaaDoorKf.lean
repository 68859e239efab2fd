import Derived.Test.YtfcogogpioeggaaDoorKe
import Derived.Deep.RegionHeld3
namespace Go.Proofs.YtfcogogpioeggaaDoor
open Go.RowKit
/- The statements' own helpers: what was marked is found again. -/
structure SharedW (P : Prop) : Prop where
  out : P
/-- Ways that come to one and the same goal, in worlds that differ: it is shown once. -/
theorem shareW {B : Nat} {w : World} {F : World → Prop} {Q : Prop} (h : SharedW (∀ wy, Below B w wy → F wy) → Q) (p : ∀ wy, Below B w wy → F wy) : Q := h ⟨p⟩
theorem letterW {f : World → Prop} {W : World} (h : ∀ wy, wy = W → f wy) : f W := h W rfl
theorem keepW {w w1 : World} (hb : Below w.heap.size w w1) {p : Addr} {v : Value} (h : w.cell? p = some v) : w1.cell? p = some v := (hb.cell (World.block_lt_of_cell? w _ h)).trans h
set_option maxRecDepth 100000 in
set_option maxHeartbeats 2000000 in
theorem heldCols (A : Option Addr) (c n k : Nat) (w : World) (hr : Rd colR w A (markC n k)) (hn : n ≤ 1048576) (hk : k ≤ 1000000000000000) :
    Calls Tryd.prog 62 #[.slice A n c, .int .i64 k] w fun e w' => e = .returned (.int .i64 ((k + 2 * n : Nat) : Int)) ∧ Below w.heap.size w w' := by
  have hml := markC_length n k
  go_enter Tryd.func62, Tryd.ntmps62
  go_wp2_with fail
  go_loopg [1, 5] n (fun gg s1 s5 wr => ∃ kk m : Nat, kk ≤ n ∧ n - kk ≤ gg ∧ s5 = .int .i64 kk ∧ s1 = .int .i64 m ∧ Aside (m = k + 2 * kk) ∧ Aside (Below w.heap.size w wr))
  case atStart => exact ⟨0, k, Nat.zero_le _, by omega, rfl, rfl, (show k = k + 2 * 0 from by omega), brefl _⟩
  case round =>
    obtain ⟨kk, m, hkk, hg, rfl, rfl, HM, BW⟩ := hrel
    by_cases hlt : kk < n
    · have hltz : (kk : Int) < (n : Int) := by omega
      have hm : m ≤ 1000000010000000 := by have := HM.out; omega
      obtain ⟨b, o, c0, c1, rfl, hblt, hK, e0, e1⟩ := hr.at2 rfl BW.out kk (by omega)
      have hK' : [c0, c1] = [.int .i64 (m : Int), .int .i64 ((m : Int) + 1)] := by
        have h1 : [c0, c1] = colE (markC n k)[kk] := hK
        rw [h1, HM.out]
        simp [markC, colE]
      simp only [List.cons.injEq, and_true] at hK'
      obtain ⟨rfl, rfl⟩ := hK'
      clear hr hK
      go_wp2_with fail
      go_roundg (n - (kk + 1))
      case measure => omega
      case rel => exact ⟨kk + 1, m + 2, by omega, by omega, by go_num, by go_num, (show m + 2 = k + 2 * (kk + 1) from by have := HM.out; omega), BW.out⟩
    · have hltz : ¬ (kk : Int) < (n : Int) := by omega
      have HL := hide (show kk = n by omega)
      clear hr
      go_wp2_with fail
      go_ret
      exact ⟨by rw [HM.out, HL.out]; rfl, BW.out⟩
set_option maxRecDepth 100000 in
set_option maxHeartbeats 8000000 in
theorem heldCells (A : Option Addr) (c n k : Nat) (w : World) (hr : Rd cellR w A (markL n k)) (hn : n ≤ 1048576) (hk : k ≤ 1000000000000000) :
    Calls Tryd.prog 98 #[.slice A n c, .int .i64 k] w fun e w' => e = .returned (.int .i64 ((k + 11 * n : Nat) : Int)) ∧ Below w.heap.size w w' := by
  have hml := markL_length n k
  go_enter Tryd.func98, Tryd.ntmps98
  go_wp2_with fail
  go_loopg [1, 5] n (fun gg s1 s5 wr => ∃ kk m : Nat, kk ≤ n ∧ n - kk ≤ gg ∧ s5 = .int .i64 kk ∧ s1 = .int .i64 m ∧ Aside (m = k + 11 * kk) ∧ Aside (Below w.heap.size w wr))
  case atStart => exact ⟨0, k, Nat.zero_le _, by omega, rfl, rfl, (show k = k + 11 * 0 from by omega), brefl _⟩
  case round =>
    obtain ⟨kk, m, hkk, hg, rfl, rfl, HM, BW⟩ := hrel
    by_cases hlt : kk < n
    · have hltz : (kk : Int) < (n : Int) := by omega
      have hm : m ≤ 1000000100000000 := by have := HM.out; omega
      obtain ⟨b, o, d0, d1, d2, d3, d4, d5, d6, d7, d8, d9, d10, rfl, hblt, hK, e0, e1, e2, e3, e4, e5, e6, e7, e8, e9, e10⟩ := hr.at11 rfl BW.out kk (by omega)
      have hK' : [d0, d1, d2, d3, d4, d5, d6, d7, d8, d9, d10] = [.string (mtext m), .int .i64 ((m : Int) + 1), .int .i64 ((m : Int) + 1 + 1), .int .i64 ((m : Int) + 1 + 1 + 1), .int .i64 ((m : Int) + 1 + 1 + 1 + 1), .int .i64 ((m : Int) + 1 + 1 + 1 + 1 + 1), .int .i64 ((m : Int) + 1 + 1 + 1 + 1 + 1 + 1), .int .i64 ((m : Int) + 1 + 1 + 1 + 1 + 1 + 1 + 1), .int .i64 ((m : Int) + 1 + 1 + 1 + 1 + 1 + 1 + 1 + 1), .int .i64 ((m : Int) + 1 + 1 + 1 + 1 + 1 + 1 + 1 + 1 + 1), .int .i64 ((m : Int) + 1 + 1 + 1 + 1 + 1 + 1 + 1 + 1 + 1 + 1)] := by
        have h1 : [d0, d1, d2, d3, d4, d5, d6, d7, d8, d9, d10] = cellE (markL n k)[kk] := hK.1
        rw [h1, HM.out]
        simp [markL, markX, cellE]
        omega
      simp only [List.cons.injEq, and_true] at hK'
      obtain ⟨rfl, rfl, rfl, rfl, rfl, rfl, rfl, rfl, rfl, rfl, rfl⟩ := hK'
      have hT := fun (W : World) => markText m W (by omega)
      have HSS : Hid (∀ W : World, Below wr.heap.size wr W → Below wr.heap.size wr W ∧ W.cell? ⟨b, o + kk * 11, none⟩ = some (.string (mtext m))) := fun W hB => ⟨hB, keepW hB e0⟩
      have HEE := hide (And.intro e1 (And.intro e2 (And.intro e3 (And.intro e4 (And.intro e5 (And.intro e6 (And.intro e7 (And.intro e8 (And.intro e9 e10)))))))))
      clear hr hK e0 e1 e2 e3 e4 e5 e6 e7 e8 e9 e10
      go_wp2_with fail
      apply shareW (B := wr.heap.size) (w := wr)
      · intro HSH
        go_region_held3 (fun W => Below wr.heap.size wr W ∧ W.cell? ⟨b, o + kk * 11, none⟩ = some (.string (mtext m))) (first | assumption | (refine HSS.out _ ?_; (repeat' (with_reducible first | exact brefl _ | refine bdrew ?_ | refine balloc ?_ _ | refine bset ?_ ?_ _ | refine step ?_ (by with_reducible assumption))) <;> first | (simp; done) | (simp; omega))) (first | (go_at_call 124; refine (hT _).mono ?_; rintro e w7 ⟨rfl, hb7⟩))
        all_goals
          refine letterW ?_
          intro wy hwy
          refine HSH.out wy ?_
          rw [hwy]
          (repeat' (with_reducible first | exact brefl _ | refine bdrew ?_ | refine balloc ?_ _ | refine step ?_ (by with_reducible assumption)))
      · intro wy hB
        obtain ⟨e1, e2, e3, e4, e5, e6, e7, e8, e9, e10⟩ := HEE.out
        have e1 := keepW hB e1
        have e2 := keepW hB e2
        have e3 := keepW hB e3
        have e4 := keepW hB e4
        have e5 := keepW hB e5
        have e6 := keepW hB e6
        have e7 := keepW hB e7
        have e8 := keepW hB e8
        have e9 := keepW hB e9
        have e10 := keepW hB e10
        have BW2 := step BW.out hB
        clear HSS hT
        go_wp2_with fail
        go_roundg (n - (kk + 1))
        case measure => omega
        case rel => exact ⟨kk + 1, m + 11, by omega, by omega, by go_num, by go_num, (show m + 11 = k + 11 * (kk + 1) from by have := HM.out; omega), BW2⟩
    · have hltz : ¬ (kk : Int) < (n : Int) := by omega
      have HL := hide (show kk = n by omega)
      clear hr
      go_wp2_with fail
      go_ret
      exact ⟨by rw [HM.out, HL.out]; rfl, BW.out⟩
end Go.Proofs.YtfcogogpioeggaaDoor
