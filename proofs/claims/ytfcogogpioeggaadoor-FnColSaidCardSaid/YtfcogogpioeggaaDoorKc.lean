import Derived.Test.YtfcogogpioeggaaDoorKa
namespace Go.Proofs.YtfcogogpioeggaaDoor
open Go.RowKit
/- The statements' own helpers: marking what a call has handed out. -/
set_option maxRecDepth 100000 in
set_option maxHeartbeats 2000000 in
theorem markCols (g cap n k : Nat) (X0 : List Value) (base : Nat) (w : World) (ho : w.ownsRow base 28 2 (.slice (some ⟨g, 0, none⟩) n cap) n X0) (hn : n ≤ 1048576) (hk : k ≤ 1000000000000000) :
    Calls Tryd.prog 60 #[.slice (some ⟨g, 0, none⟩) n cap, .int .i64 k] w fun e w' => e = .returned (.int .i64 ((k + 2 * n : Nat) : Int)) ∧ w'.ownsRow base 28 2 (.slice (some ⟨g, 0, none⟩) n cap) n ((markC n k).flatMap colE) ∧ w.grownBy w' (some g) := by
  go_enter Tryd.func60, Tryd.ntmps60
  go_wp2_with fail
  go_loopg [1, 5] n (fun gg s1 s5 wr => ∃ kk m : Nat, kk ≤ n ∧ n - kk ≤ gg ∧ s5 = .int .i64 kk ∧ s1 = .int .i64 m ∧ Aside (m = k + 2 * kk) ∧ Aside (w.grownBy wr (some g)) ∧ Aside (∃ X, wr.ownsRow base 28 2 (.slice (some ⟨g, 0, none⟩) n cap) n X ∧ X.take (kk * 2) = ((markC n k).take kk).flatMap colE))
  case atStart => exact ⟨0, k, Nat.zero_le _, by omega, rfl, rfl, (show k = k + 2 * 0 from by omega), grow_refl _ _, X0, ho, by simp⟩
  case round =>
    obtain ⟨kk, m, hkk, hg, rfl, rfl, HM, BW, X, HO, HX⟩ := hrel
    clear ho
    have hXl := HO.1
    by_cases hlt : kk < n
    · have hltz : (kk : Int) < (n : Int) := by omega
      have hm : m ≤ 1000000010000000 := by have := HM.out; omega
      have HT := hide (show ((markC n k).take (kk + 1)).flatMap colE = ((markC n k).take kk).flatMap colE ++ [.int .i64 (m : Int), .int .i64 ((m : Int) + 1)] by
        rw [markC_take hlt, List.flatMap_append, HM.out]; simp [colE])
      have HXH := hide HX
      have HXL := hide hXl
      have x0 := HO.cellAt (kk * 2) (by omega)
      have x1 := HO.cellAt (kk * 2 + 1) (by omega)
      rw [List.getElem?_eq_getElem (by rw [HXL.out]; omega)] at x0 x1
      have y0 := HO.frozenAt (kk * 2)
      have y1 := HO.frozenAt (kk * 2 + 1)
      have HO2 := own_store2 HO (kk * 2) (.int .i64 (m : Int)) (.int .i64 ((m : Int) + 1))
      clear HO HX hXl
      go_wp2_with fail
      go_roundg (n - (kk + 1))
      case measure => omega
      case rel =>
        refine ⟨kk + 1, m + 2, by omega, by omega, by go_num, by go_num, (show m + 2 = k + 2 * (kk + 1) from by have := HM.out; omega), grow_trans (grow_trans BW.out (grow_set _ rfl _)) (grow_set _ rfl _), (show Aside _ from ⟨_, HO2, ?_⟩)⟩
        have := setL_take [.int .i64 (m : Int), .int .i64 ((m : Int) + 1)] X (kk * 2) (by rw [HXL.out]; simp; omega)
        rw [show (kk + 1) * 2 = kk * 2 + [Value.int .i64 (m : Int), .int .i64 ((m : Int) + 1)].length by simp; omega, this, HXH.out, HT.out]
    · have hltz : ¬ (kk : Int) < (n : Int) := by omega
      have HL := hide (show kk = n by omega)
      have HXH := hide HX
      have HXL := hide hXl
      clear HX hXl
      go_wp2_with fail
      go_ret
      have h1 : X = (markC n k).flatMap colE := by
        have := HXH.out
        rw [HL.out, ← HXL.out, List.take_length, List.take_of_length_le (by rw [markC_length]; omega)] at this
        exact this
      refine ⟨by rw [HM.out, HL.out]; rfl, by rw [← h1]; exact HO, BW.out⟩

set_option maxRecDepth 100000 in
set_option maxHeartbeats 8000000 in
theorem markCells (g cap n k : Nat) (X0 : List Value) (base : Nat) (w : World) (ho : w.ownsRow base 65 11 (.slice (some ⟨g, 0, none⟩) n cap) n X0) (hn : n ≤ 1048576) (hk : k ≤ 1000000000000000) :
    Calls Tryd.prog 97 #[.slice (some ⟨g, 0, none⟩) n cap, .int .i64 k] w fun e w' => e = .returned (.int .i64 ((k + 11 * n : Nat) : Int)) ∧ w'.ownsRow base 65 11 (.slice (some ⟨g, 0, none⟩) n cap) n ((markL n k).flatMap cellE) ∧ w.grownBy w' (some g) := by
  go_enter Tryd.func97, Tryd.ntmps97
  go_wp2_with fail
  go_loopg [1, 5] n (fun gg s1 s5 wr => ∃ kk m : Nat, kk ≤ n ∧ n - kk ≤ gg ∧ s5 = .int .i64 kk ∧ s1 = .int .i64 m ∧ Aside (m = k + 11 * kk) ∧ Aside (w.grownBy wr (some g)) ∧ Aside (∃ X, wr.ownsRow base 65 11 (.slice (some ⟨g, 0, none⟩) n cap) n X ∧ X.take (kk * 11) = ((markL n k).take kk).flatMap cellE))
  case atStart => exact ⟨0, k, Nat.zero_le _, by omega, rfl, rfl, (show k = k + 11 * 0 from by omega), grow_refl _ _, X0, ho, by simp⟩
  case round =>
    obtain ⟨kk, m, hkk, hg, rfl, rfl, HM, BW, X, HO, HX⟩ := hrel
    clear ho
    have hXl := HO.1
    by_cases hlt : kk < n
    · have hltz : (kk : Int) < (n : Int) := by omega
      have hm : m ≤ 1000000100000000 := by have := HM.out; omega
      have HT := hide (show ((markL n k).take (kk + 1)).flatMap cellE = ((markL n k).take kk).flatMap cellE ++ [.string (mtext m), .int .i64 ((m : Int) + 1), .int .i64 ((m : Int) + 1 + 1), .int .i64 ((m : Int) + 1 + 1 + 1), .int .i64 ((m : Int) + 1 + 1 + 1 + 1), .int .i64 ((m : Int) + 1 + 1 + 1 + 1 + 1), .int .i64 ((m : Int) + 1 + 1 + 1 + 1 + 1 + 1), .int .i64 ((m : Int) + 1 + 1 + 1 + 1 + 1 + 1 + 1), .int .i64 ((m : Int) + 1 + 1 + 1 + 1 + 1 + 1 + 1 + 1), .int .i64 ((m : Int) + 1 + 1 + 1 + 1 + 1 + 1 + 1 + 1 + 1), .int .i64 ((m : Int) + 1 + 1 + 1 + 1 + 1 + 1 + 1 + 1 + 1 + 1)] by
        rw [markL_take hlt, List.flatMap_append, HM.out]
        simp [cellE, markX]
        omega)
      have HXH := hide HX
      have HXL := hide hXl
      have hT := fun (W : World) => markText m W (by omega)
      clear HX hXl
      go_wp2_with fail
      refine (hT _).mono ?_
      rintro e w' ⟨rfl, hb⟩
      have HO' := own_below HO hb
      have x0 := HO'.cellAt (kk * 11) (by omega)
      have x1 := HO'.cellAt (kk * 11 + 1) (by omega)
      have x2 := HO'.cellAt (kk * 11 + 2) (by omega)
      have x3 := HO'.cellAt (kk * 11 + 3) (by omega)
      have x4 := HO'.cellAt (kk * 11 + 4) (by omega)
      have x5 := HO'.cellAt (kk * 11 + 5) (by omega)
      have x6 := HO'.cellAt (kk * 11 + 6) (by omega)
      have x7 := HO'.cellAt (kk * 11 + 7) (by omega)
      have x8 := HO'.cellAt (kk * 11 + 8) (by omega)
      have x9 := HO'.cellAt (kk * 11 + 9) (by omega)
      have x10 := HO'.cellAt (kk * 11 + 10) (by omega)
      rw [List.getElem?_eq_getElem (by rw [HXL.out]; omega)] at x0 x1 x2 x3 x4 x5 x6 x7 x8 x9 x10
      have y0 := HO'.frozenAt (kk * 11)
      have y1 := HO'.frozenAt (kk * 11 + 1)
      have y2 := HO'.frozenAt (kk * 11 + 2)
      have y3 := HO'.frozenAt (kk * 11 + 3)
      have y4 := HO'.frozenAt (kk * 11 + 4)
      have y5 := HO'.frozenAt (kk * 11 + 5)
      have y6 := HO'.frozenAt (kk * 11 + 6)
      have y7 := HO'.frozenAt (kk * 11 + 7)
      have y8 := HO'.frozenAt (kk * 11 + 8)
      have y9 := HO'.frozenAt (kk * 11 + 9)
      have y10 := HO'.frozenAt (kk * 11 + 10)
      have HO2 := own_store11 HO' (kk * 11) (.string (mtext m)) (.int .i64 ((m : Int) + 1)) (.int .i64 ((m : Int) + 1 + 1)) (.int .i64 ((m : Int) + 1 + 1 + 1)) (.int .i64 ((m : Int) + 1 + 1 + 1 + 1)) (.int .i64 ((m : Int) + 1 + 1 + 1 + 1 + 1)) (.int .i64 ((m : Int) + 1 + 1 + 1 + 1 + 1 + 1)) (.int .i64 ((m : Int) + 1 + 1 + 1 + 1 + 1 + 1 + 1)) (.int .i64 ((m : Int) + 1 + 1 + 1 + 1 + 1 + 1 + 1 + 1)) (.int .i64 ((m : Int) + 1 + 1 + 1 + 1 + 1 + 1 + 1 + 1 + 1)) (.int .i64 ((m : Int) + 1 + 1 + 1 + 1 + 1 + 1 + 1 + 1 + 1 + 1))
      clear HO hT HO'
      go_wp2_with fail
      go_roundg (n - (kk + 1))
      case measure => omega
      case rel =>
        refine ⟨kk + 1, m + 11, by omega, by omega, by go_num, by go_num, (show m + 11 = k + 11 * (kk + 1) from by have := HM.out; omega), (show World.grownBy w _ (some g) from ?_), (show Aside _ from ⟨_, HO2, ?_⟩)⟩
        · (with_reducible (repeat' refine grow_trans ?_ (grow_set _ rfl _)))
          exact grow_trans BW.out (grow_below hb)
        · have := setL_take [.string (mtext m), .int .i64 ((m : Int) + 1), .int .i64 ((m : Int) + 1 + 1), .int .i64 ((m : Int) + 1 + 1 + 1), .int .i64 ((m : Int) + 1 + 1 + 1 + 1), .int .i64 ((m : Int) + 1 + 1 + 1 + 1 + 1), .int .i64 ((m : Int) + 1 + 1 + 1 + 1 + 1 + 1), .int .i64 ((m : Int) + 1 + 1 + 1 + 1 + 1 + 1 + 1), .int .i64 ((m : Int) + 1 + 1 + 1 + 1 + 1 + 1 + 1 + 1), .int .i64 ((m : Int) + 1 + 1 + 1 + 1 + 1 + 1 + 1 + 1 + 1), .int .i64 ((m : Int) + 1 + 1 + 1 + 1 + 1 + 1 + 1 + 1 + 1 + 1)] X (kk * 11) (by rw [HXL.out]; simp; omega)
          rw [show (kk + 1) * 11 = kk * 11 + List.length ([.string (mtext m), .int .i64 ((m : Int) + 1), .int .i64 ((m : Int) + 1 + 1), .int .i64 ((m : Int) + 1 + 1 + 1), .int .i64 ((m : Int) + 1 + 1 + 1 + 1), .int .i64 ((m : Int) + 1 + 1 + 1 + 1 + 1), .int .i64 ((m : Int) + 1 + 1 + 1 + 1 + 1 + 1), .int .i64 ((m : Int) + 1 + 1 + 1 + 1 + 1 + 1 + 1), .int .i64 ((m : Int) + 1 + 1 + 1 + 1 + 1 + 1 + 1 + 1), .int .i64 ((m : Int) + 1 + 1 + 1 + 1 + 1 + 1 + 1 + 1 + 1), .int .i64 ((m : Int) + 1 + 1 + 1 + 1 + 1 + 1 + 1 + 1 + 1 + 1)] : List Value) by simp; omega, this, HXH.out, HT.out]
    · have hltz : ¬ (kk : Int) < (n : Int) := by omega
      have HL := hide (show kk = n by omega)
      have HXH := hide HX
      have HXL := hide hXl
      clear HX hXl
      go_wp2_with fail
      go_ret
      have h1 : X = (markL n k).flatMap cellE := by
        have := HXH.out
        rw [HL.out, ← HXL.out, List.take_length, List.take_of_length_le (by rw [markL_length]; omega)] at this
        exact this
      refine ⟨by rw [HM.out, HL.out]; rfl, by rw [← h1]; exact HO, BW.out⟩
end Go.Proofs.YtfcogogpioeggaaDoor
