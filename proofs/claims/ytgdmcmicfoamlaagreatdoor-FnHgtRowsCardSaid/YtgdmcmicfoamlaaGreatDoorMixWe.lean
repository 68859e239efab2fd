import Derived.Test.YtgdmcmicfoamlaaGreatDoorMixHe
set_option linter.unusedVariables false
set_option linter.unusedSimpArgs false
set_option maxHeartbeats 40000000
set_option maxRecDepth 100000
namespace Go.Proofs.YtgdmcmicfoamlaaGreatDoor
open Go.RowKit
theorem Zkv (t : Tbl) (A : Option Addr) (c : Nat) (A' : Option Addr) (c' : Nat) (n : Nat) (AX : Option Addr) (cX : Nat) (AY : Option Addr) (cY : Nat) (X Y : List Int) (width : Int) (w : World) (hok : Qn t = true) (hc : Rd Zbz w A t.cols) (hX : Rd Za4 w AX X) (hY : Rd Za4 w AY Y) (hl : X.length = n) (hl2 : Y.length = n)
 (hn : n ≤ 1000) (hx : ∀ x ∈ X, 0 ≤ x ∧ x ≤ 1000000) (hy : ∀ x ∈ Y, 0 ≤ x ∧ x ≤ 1000000) (hw : 0 ≤ width ∧ width ≤ 300) :
 Calls Tryz.prog 141 #[.agg #[.slice A t.cols.length c, .int .i64 t.head, .int .i64 t.foot, .slice A' t.rows.length c', .int .i64 t.gap], .int .i64 2, .slice AX n cX, .slice AY n cY, .int .i64 width] w fun e w' => ∃ v, e = .returned v ∧ Zn w' w.heap.size v (Jy t 2 (fun k => width * Zbd t k / 100) X) ∧ Below w.heap.size w w' := by
 have hS := fun (W : World) (h : Below w.heap.size w W) (k : Nat) => Zd5 t A c A' c' k W (hc.below h) (by omega)
 have hnum := fun (k : Nat) => Zhn hok (k : Int)
 have hZ : ∀ j, j < n → (Jy t 2 (fun k => width * Zbd t k / 100) X).getD j 0 = if Zw t j = 2 then max (width * Zbd t j / 100 - X.getD j 0) 0 else 0 := fun j hj => by
  unfold Jy
  rw [Zi3 _ _ _ (by omega)]
 have hZl : (Jy t 2 (fun k => width * Zbd t k / 100) X).length = n := by unfold Jy; rw [List.length_mapIdx, hl]
 generalize Jy t 2 (fun k => width * Zbd t k / 100) X = Z at hZ hZl ⊢
 obtain ⟨V, hV⟩ : ∃ V, V = (w.alloc (.cells #[.slice A t.cols.length c, .int .i64 t.head, .int .i64 t.foot, .slice A' t.rows.length c', .int .i64 t.gap] 26)).alloc (.cells #[] 3) := ⟨_, rfl⟩
 have m1 : Zn V (w.heap.size + 1) (.slice (some ⟨w.heap.size + 1, 0, none⟩) 0 0) [] := by
  have e1 : (w.alloc (.cells #[.slice A t.cols.length c, .int .i64 t.head, .int .i64 t.foot, .slice A' t.rows.length c', .int .i64 t.gap] 26)).heap.size = w.heap.size + 1 := by simp
  have m0 : Zn ((w.alloc (.cells #[.slice A t.cols.length c, .int .i64 t.head, .int .i64 t.foot, .slice A' t.rows.length c', .int .i64 t.gap] 26)).alloc (.cells #[] 3)) (w.heap.size + 1) (.slice (some ⟨(w.alloc (.cells #[.slice A t.cols.length c, .int .i64 t.head, .int .i64 t.foot, .slice A' t.rows.length c', .int .i64 t.gap] 26)).heap.size, 0, none⟩) 0 0) [] := World.ownsRow_made (w.alloc (.cells #[.slice A t.cols.length c, .int .i64 t.head, .int .i64 t.foot, .slice A' t.rows.length c', .int .i64 t.gap] 26)) #[] 0 (by simp) (Nat.zero_le _) (by simp)
  rw [e1] at m0
  rw [hV]; exact m0
 have hB : Below w.heap.size w V := by rw [hV]; exact Zc (Zc (Zf _) _) _
 have hK : Zh V w.heap.size [.slice A t.cols.length c, .int .i64 t.head, .int .i64 t.foot, .slice A' t.rows.length c', .int .i64 t.gap] := by
  rw [hV]; exact (Zh.new w [.slice A t.cols.length c, .int .i64 t.head, .int .i64 t.foot, .slice A' t.rows.length c', .int .i64 t.gap] 26).keep ((Zc (Zf _) _).block w.heap.size (by simp))
 have hzV : V.heap.size = w.heap.size + 2 := by rw [hV]; simp
 have HM1 := Za m1
 have HB := Za hB
 have HK := Za hK
 have HV := Za hV
 have HZV := Za hzV
 have HZ := Za hZ
 have HZL := Za hZl
 have HX := Za hX
 have HY := Za hY
 have HL := Za hl
 have HL2 := Za hl2
 have HBX := Za hx
 have HBY := Za hy
 have HNM := Za hnum
 clear m1 hB hK hV hc hzV hZ hZl hX hY hl hl2 hx hy hnum hok
 go_enter Tryz.func141, Tryz.ntmps141
 go_wp2_with fail
 rw [← HV.out]
 go_loopg [11, 12, 13, 14] n (fun gg s11 s12 s13 s14 wr => ∃ j : Nat, j ≤ n ∧ n - j ≤ gg ∧ s12 = .int .i64 j ∧ Aside (Zn wr (w.heap.size + 1) s11 (Z.take j)) ∧ Aside (Below w.heap.size w wr) ∧ Aside (Zh wr w.heap.size [.slice A t.cols.length c, .int .i64 t.head, .int .i64 t.foot, .slice A' t.rows.length c', .int .i64 t.gap]) ∧ w.heap.size + 2 ≤ wr.heap.size)
 case atStart => exact ⟨0, Nat.zero_le _, by omega, rfl, (show Aside _ from by rw [List.take_zero]; exact HM1.out), HB.out, HK.out, by rw [HZV.out]; exact Nat.le_refl _⟩
 obtain ⟨j, hj, hgg, rfl, HO, HBW, HKW, hsz⟩ := hrel
 by_cases hlt : j < n
 ·
  have hltz : (j : Int) < (n : Int) := by omega
  have y0 := HKW.out.1 0 _ rfl
  have y1 := HKW.out.1 1 _ rfl
  have y2 := HKW.out.1 2 _ rfl
  have y3 := HKW.out.1 3 _ rfl
  have y4 := HKW.out.1 4 _ rfl
  have hSj := hS wr HBW.out j
  have hz0 := HZ.out j hlt
  have hsn : Z.take j ++ [Z.getD j 0] = Z.take (j + 1) := Zb4 (by rw [HZL.out]; exact hlt)
  rw [hz0] at hsn
  have hnm := HNM.out j
  unfold Zw Zbd at hsn
  obtain ⟨sd, hsd⟩ : ∃ sd, Yc t (j : Int) = sd := ⟨_, rfl⟩
  rw [hsd] at hSj hsn hnm
  have hzl : (Z.take j).length ≤ 1000000 := by simp; omega
  have HZT := Za hzl
  clear hz0 hsd hzl
  go_wp2_with fail
  refine hSj.mono ?_
  rintro e w5 ⟨rfl, hb5⟩
  have HB5 := Za (step HBW.out hb5)
  have HO5 := Za (HO.out.below hb5)
  have HK5 := Za (HKW.out.keep (hb5.block w.heap.size (by omega)))
  have hsz5 : w.heap.size + 2 ≤ w5.heap.size := Nat.le_trans hsz hb5.size
  obtain ⟨b, o, eA, hlb, hc1⟩ := Za3 HX.out HB5.out j (by rw [HL.out]; exact hlt)
  subst eA
  have hx0 := Yn HBX.out j (by rw [HL.out]; exact hlt)
  obtain ⟨b2, o2, eB, hlb2, hc2⟩ := Za3 HY.out HB5.out j (by rw [HL2.out]; exact hlt)
  subst eB
  have hy0 := Yn HBY.out j (by rw [HL2.out]; exact hlt)
  generalize X.getD j 0 = x at hc1 hx0 hsn
  clear hy0 hc2
  have hbw : b < w5.heap.size := by have := HB5.out.size; omega
  have hbw2 : b2 < w5.heap.size := by have := HB5.out.size; omega
  have n1 : ¬ b = w5.heap.size := by omega
  have n2 : ¬ w5.heap.size = b := by omega
  have n3 : ¬ b2 = w5.heap.size := by omega
  have n4 : ¬ w5.heap.size = b2 := by omega
  clear y0 y1 y2 y3 y4 hSj hb5
  by_cases h1 : sd.k = 2
  ·
   have h1z : (sd.k == 2) = true := by simp [h1]
   rw [if_pos h1] at hsn
   obtain ⟨P, hP⟩ : ∃ P, width * sd.n = P := ⟨_, rfl⟩
   have hP0 : 0 ≤ P ∧ P ≤ 30000 := by
    rw [← hP]
    refine ⟨Int.mul_nonneg hw.1 hnm.1, ?_⟩
    have h1 : width * sd.n ≤ 300 * sd.n := Int.mul_le_mul_of_nonneg_right hw.2 hnm.1
    omega
   have t1 : IntKind.i64.wrap (width * sd.n) = P := by rw [hP, IntKind.wrap_i64]; omega
   have t2 : IntKind.i64.wrap (P.tdiv 100) = P / 100 := by rw [Int.tdiv_eq_ediv_of_nonneg hP0.1, IntKind.wrap_i64]; omega
   have t3 := IntWalk.i64_in (P / 100 - x) (by omega)
   rw [hP] at hsn
   clear hP
   obtain ⟨r, hr⟩ : ∃ r, max 0 (P / 100 - x) = r := ⟨_, rfl⟩
   rw [Int.max_comm, hr] at hsn
   have hmx := Zet 0 (P / 100 - x)
   rw [hr] at hmx
   have HMX := Za hmx
   have HSN := Za hsn
   clear hsn hr hmx h1
   go_upto_region 8 with fail
   go_quiet (first | (go_at_call 132; refine Calls.quiet_of_same (HMX.out _)))
   go_upto_region 11 with fail
   obtain ⟨W8, hW8⟩ : ∃ W8, W8 = (w5.alloc (.cells #[.int .i64 sd.k, .int .i64 sd.n] 100)).drewN nq := ⟨_, rfl⟩
   rw [← hW8]
   have EB : Below w5.heap.size w5 W8 := by rw [hW8]; exact Zam (Zc (Zf _) _) _
   have HO8 := Za (HO5.out.below EB)
   have HB8 := Za (step HB5.out EB)
   have HK8 := Za (HK5.out.keep (EB.block w.heap.size (by omega)))
   have hsz8 : w.heap.size + 2 ≤ W8.heap.size := Nat.le_trans hsz5 EB.size
   clear hW8 EB
   go_wp2_with (at_builtin; refine Ji rfl (.tmp 62) (.tmp 64) rfl (w.heap.size + 1) _ (Z.take j) rfl (HO8.out.below (Zc (Zf _) _)) ⟨W8.heap.size, 0, none⟩ 1 (r) rfl (Zj _ _ _ _ 0 _ rfl) HZT.out (by simp; omega) ?_)
   intro v' w6 H1 H2 H3
   have HB6 : Hid (Below w.heap.size w w6) := (Zc HB8.out (.cells #[.int .i64 (r)] 3)).trans (Qg H2.out (by simp; omega) (fun b hb => by have := (HO8.out.lt hb).1; omega))
   have HK6 := Za ((HK8.out.keep ((Zc (Zf W8) (.cells #[.int .i64 (r)] 3)).block w.heap.size (by omega))).keep (H2.out.block w.heap.size (by simp; omega) (fun e => by have := (HO8.out.lt e.symm).1; omega)))
   have hsz6 : w.heap.size + 2 ≤ w6.heap.size := by have := H2.out.size; simp at this; omega
   rw [HSN.out] at H1
   clear H2 H3 HB5 HO5 HK5 HO HBW HKW HSN HB8 HO8 HK8
   go_wp2_with fail
   go_roundg (n - (j + 1))
   case measure => omega
   case rel => exact ⟨j + 1, by omega, by omega, by go_num, H1.out, HB6.out, HK6.out, hsz6⟩
  have h1z : (sd.k == 2) = false := by simp [h1]
  rw [if_neg h1] at hsn
  have HSN := Za hsn
  clear hsn h1
  go_upto_region 11 with fail
  obtain ⟨W8, hW8⟩ : ∃ W8, W8 = w5.alloc (.cells #[.int .i64 sd.k, .int .i64 sd.n] 100) := ⟨_, rfl⟩
  rw [← hW8]
  have EB : Below w5.heap.size w5 W8 := by rw [hW8]; exact Zc (Zf _) _
  have HO8 := Za (HO5.out.below EB)
  have HB8 := Za (step HB5.out EB)
  have HK8 := Za (HK5.out.keep (EB.block w.heap.size (by omega)))
  have hsz8 : w.heap.size + 2 ≤ W8.heap.size := Nat.le_trans hsz5 EB.size
  clear hW8 EB
  go_wp2_with (at_builtin; refine Ji rfl (.tmp 62) (.tmp 64) rfl (w.heap.size + 1) _ (Z.take j) rfl (HO8.out.below (Zc (Zf _) _)) ⟨W8.heap.size, 0, none⟩ 1 (0) rfl (Zj _ _ _ _ 0 _ rfl) HZT.out (by simp; omega) ?_)
  intro v' w6 H1 H2 H3
  have HB6 : Hid (Below w.heap.size w w6) := (Zc HB8.out (.cells #[.int .i64 (0)] 3)).trans (Qg H2.out (by simp; omega) (fun b hb => by have := (HO8.out.lt hb).1; omega))
  have HK6 := Za ((HK8.out.keep ((Zc (Zf W8) (.cells #[.int .i64 (0)] 3)).block w.heap.size (by omega))).keep (H2.out.block w.heap.size (by simp; omega) (fun e => by have := (HO8.out.lt e.symm).1; omega)))
  have hsz6 : w.heap.size + 2 ≤ w6.heap.size := by have := H2.out.size; simp at this; omega
  rw [HSN.out] at H1
  clear H2 H3 HB5 HO5 HK5 HO HBW HKW HSN HB8 HO8 HK8
  go_wp2_with fail
  go_roundg (n - (j + 1))
  case measure => omega
  case rel => exact ⟨j + 1, by omega, by omega, by go_num, H1.out, HB6.out, HK6.out, hsz6⟩
 have hltz : ¬ (j : Int) < (n : Int) := by omega
 have HT := Za (show Z.take j = Z from List.take_of_length_le (by rw [HZL.out]; omega))
 go_wp2_with fail
 go_ret
 exact ⟨_, rfl, by have := HO.out; rw [HT.out] at this; exact this.base (by omega), HBW.out⟩
theorem Zk7 (t : Tbl) (A : Option Addr) (c : Nat) (A' : Option Addr) (c' : Nat) (n : Nat) (AX : Option Addr) (cX : Nat) (AY : Option Addr) (cY : Nat) (X Y : List Int) (width : Int) (w : World) (hok : Qn t = true) (hc : Rd Zbz w A t.cols) (hX : Rd Za4 w AX X) (hY : Rd Za4 w AY Y) (hl : X.length = n) (hl2 : Y.length = n)
 (hn : n ≤ 1000) (hx : ∀ x ∈ X, 0 ≤ x ∧ x ≤ 1000000) (hy : ∀ x ∈ Y, 0 ≤ x ∧ x ≤ 1000000) (hw : 0 ≤ width ∧ width ≤ 300) :
 Calls Tryz.prog 141 #[.agg #[.slice A t.cols.length c, .int .i64 t.head, .int .i64 t.foot, .slice A' t.rows.length c', .int .i64 t.gap], .int .i64 0, .slice AX n cX, .slice AY n cY, .int .i64 width] w fun e w' => ∃ v, e = .returned v ∧ Zn w' w.heap.size v (Jy t 0 (fun k => Y.getD k 0) X) ∧ Below w.heap.size w w' := by
 have hS := fun (W : World) (h : Below w.heap.size w W) (k : Nat) => Zd5 t A c A' c' k W (hc.below h) (by omega)
 have hnum := fun (k : Nat) => Zhn hok (k : Int)
 have hZ : ∀ j, j < n → (Jy t 0 (fun k => Y.getD k 0) X).getD j 0 = if Zw t j = 0 then max (Y.getD j 0 - X.getD j 0) 0 else 0 := fun j hj => by
  unfold Jy
  rw [Zi3 _ _ _ (by omega)]
 have hZl : (Jy t 0 (fun k => Y.getD k 0) X).length = n := by unfold Jy; rw [List.length_mapIdx, hl]
 generalize Jy t 0 (fun k => Y.getD k 0) X = Z at hZ hZl ⊢
 obtain ⟨V, hV⟩ : ∃ V, V = (w.alloc (.cells #[.slice A t.cols.length c, .int .i64 t.head, .int .i64 t.foot, .slice A' t.rows.length c', .int .i64 t.gap] 26)).alloc (.cells #[] 3) := ⟨_, rfl⟩
 have m1 : Zn V (w.heap.size + 1) (.slice (some ⟨w.heap.size + 1, 0, none⟩) 0 0) [] := by
  have e1 : (w.alloc (.cells #[.slice A t.cols.length c, .int .i64 t.head, .int .i64 t.foot, .slice A' t.rows.length c', .int .i64 t.gap] 26)).heap.size = w.heap.size + 1 := by simp
  have m0 : Zn ((w.alloc (.cells #[.slice A t.cols.length c, .int .i64 t.head, .int .i64 t.foot, .slice A' t.rows.length c', .int .i64 t.gap] 26)).alloc (.cells #[] 3)) (w.heap.size + 1) (.slice (some ⟨(w.alloc (.cells #[.slice A t.cols.length c, .int .i64 t.head, .int .i64 t.foot, .slice A' t.rows.length c', .int .i64 t.gap] 26)).heap.size, 0, none⟩) 0 0) [] := World.ownsRow_made (w.alloc (.cells #[.slice A t.cols.length c, .int .i64 t.head, .int .i64 t.foot, .slice A' t.rows.length c', .int .i64 t.gap] 26)) #[] 0 (by simp) (Nat.zero_le _) (by simp)
  rw [e1] at m0
  rw [hV]; exact m0
 have hB : Below w.heap.size w V := by rw [hV]; exact Zc (Zc (Zf _) _) _
 have hK : Zh V w.heap.size [.slice A t.cols.length c, .int .i64 t.head, .int .i64 t.foot, .slice A' t.rows.length c', .int .i64 t.gap] := by
  rw [hV]; exact (Zh.new w [.slice A t.cols.length c, .int .i64 t.head, .int .i64 t.foot, .slice A' t.rows.length c', .int .i64 t.gap] 26).keep ((Zc (Zf _) _).block w.heap.size (by simp))
 have hzV : V.heap.size = w.heap.size + 2 := by rw [hV]; simp
 have HM1 := Za m1
 have HB := Za hB
 have HK := Za hK
 have HV := Za hV
 have HZV := Za hzV
 have HZ := Za hZ
 have HZL := Za hZl
 have HX := Za hX
 have HY := Za hY
 have HL := Za hl
 have HL2 := Za hl2
 have HBX := Za hx
 have HBY := Za hy
 have HNM := Za hnum
 clear m1 hB hK hV hc hzV hZ hZl hX hY hl hl2 hx hy hnum hok
 go_enter Tryz.func141, Tryz.ntmps141
 go_wp2_with fail
 rw [← HV.out]
 go_loopg [11, 12, 13, 14] n (fun gg s11 s12 s13 s14 wr => ∃ j : Nat, j ≤ n ∧ n - j ≤ gg ∧ s12 = .int .i64 j ∧ Aside (Zn wr (w.heap.size + 1) s11 (Z.take j)) ∧ Aside (Below w.heap.size w wr) ∧ Aside (Zh wr w.heap.size [.slice A t.cols.length c, .int .i64 t.head, .int .i64 t.foot, .slice A' t.rows.length c', .int .i64 t.gap]) ∧ w.heap.size + 2 ≤ wr.heap.size)
 case atStart => exact ⟨0, Nat.zero_le _, by omega, rfl, (show Aside _ from by rw [List.take_zero]; exact HM1.out), HB.out, HK.out, by rw [HZV.out]; exact Nat.le_refl _⟩
 obtain ⟨j, hj, hgg, rfl, HO, HBW, HKW, hsz⟩ := hrel
 by_cases hlt : j < n
 ·
  have hltz : (j : Int) < (n : Int) := by omega
  have y0 := HKW.out.1 0 _ rfl
  have y1 := HKW.out.1 1 _ rfl
  have y2 := HKW.out.1 2 _ rfl
  have y3 := HKW.out.1 3 _ rfl
  have y4 := HKW.out.1 4 _ rfl
  have hSj := hS wr HBW.out j
  have hz0 := HZ.out j hlt
  have hsn : Z.take j ++ [Z.getD j 0] = Z.take (j + 1) := Zb4 (by rw [HZL.out]; exact hlt)
  rw [hz0] at hsn
  have hnm := HNM.out j
  unfold Zw at hsn
  obtain ⟨sd, hsd⟩ : ∃ sd, Yc t (j : Int) = sd := ⟨_, rfl⟩
  rw [hsd] at hSj hsn hnm
  have hzl : (Z.take j).length ≤ 1000000 := by simp; omega
  have HZT := Za hzl
  clear hz0 hsd hzl
  go_wp2_with fail
  refine hSj.mono ?_
  rintro e w5 ⟨rfl, hb5⟩
  have HB5 := Za (step HBW.out hb5)
  have HO5 := Za (HO.out.below hb5)
  have HK5 := Za (HKW.out.keep (hb5.block w.heap.size (by omega)))
  have hsz5 : w.heap.size + 2 ≤ w5.heap.size := Nat.le_trans hsz hb5.size
  obtain ⟨b, o, eA, hlb, hc1⟩ := Za3 HX.out HB5.out j (by rw [HL.out]; exact hlt)
  subst eA
  have hx0 := Yn HBX.out j (by rw [HL.out]; exact hlt)
  obtain ⟨b2, o2, eB, hlb2, hc2⟩ := Za3 HY.out HB5.out j (by rw [HL2.out]; exact hlt)
  subst eB
  have hy0 := Yn HBY.out j (by rw [HL2.out]; exact hlt)
  generalize X.getD j 0 = x at hc1 hx0 hsn
  generalize Y.getD j 0 = y at hc2 hy0 hsn
  have hbw : b < w5.heap.size := by have := HB5.out.size; omega
  have hbw2 : b2 < w5.heap.size := by have := HB5.out.size; omega
  have n1 : ¬ b = w5.heap.size := by omega
  have n2 : ¬ w5.heap.size = b := by omega
  have n3 : ¬ b2 = w5.heap.size := by omega
  have n4 : ¬ w5.heap.size = b2 := by omega
  clear y0 y1 y2 y3 y4 hSj hb5
  by_cases h1 : sd.k = 0
  ·
   have h1z : (sd.k == 0) = true := by simp [h1]
   rw [if_pos h1] at hsn
   have t3 := IntWalk.i64_in (y - x) (by omega)
   obtain ⟨r, hr⟩ : ∃ r, max 0 (y - x) = r := ⟨_, rfl⟩
   rw [Int.max_comm, hr] at hsn
   have hmx := Zet 0 (y - x)
   rw [hr] at hmx
   have HMX := Za hmx
   have HSN := Za hsn
   clear hsn hr hmx h1
   go_upto_region 10 with fail
   go_quiet (first | (go_at_call 132; refine Calls.quiet_of_same (HMX.out _)))
   go_upto_region 11 with fail
   obtain ⟨W8, hW8⟩ : ∃ W8, W8 = (w5.alloc (.cells #[.int .i64 sd.k, .int .i64 sd.n] 100)).drewN nq := ⟨_, rfl⟩
   rw [← hW8]
   have EB : Below w5.heap.size w5 W8 := by rw [hW8]; exact Zam (Zc (Zf _) _) _
   have HO8 := Za (HO5.out.below EB)
   have HB8 := Za (step HB5.out EB)
   have HK8 := Za (HK5.out.keep (EB.block w.heap.size (by omega)))
   have hsz8 : w.heap.size + 2 ≤ W8.heap.size := Nat.le_trans hsz5 EB.size
   clear hW8 EB
   go_wp2_with (at_builtin; refine Ji rfl (.tmp 62) (.tmp 64) rfl (w.heap.size + 1) _ (Z.take j) rfl (HO8.out.below (Zc (Zf _) _)) ⟨W8.heap.size, 0, none⟩ 1 (r) rfl (Zj _ _ _ _ 0 _ rfl) HZT.out (by simp; omega) ?_)
   intro v' w6 H1 H2 H3
   have HB6 : Hid (Below w.heap.size w w6) := (Zc HB8.out (.cells #[.int .i64 (r)] 3)).trans (Qg H2.out (by simp; omega) (fun b hb => by have := (HO8.out.lt hb).1; omega))
   have HK6 := Za ((HK8.out.keep ((Zc (Zf W8) (.cells #[.int .i64 (r)] 3)).block w.heap.size (by omega))).keep (H2.out.block w.heap.size (by simp; omega) (fun e => by have := (HO8.out.lt e.symm).1; omega)))
   have hsz6 : w.heap.size + 2 ≤ w6.heap.size := by have := H2.out.size; simp at this; omega
   rw [HSN.out] at H1
   clear H2 H3 HB5 HO5 HK5 HO HBW HKW HSN HB8 HO8 HK8
   go_wp2_with fail
   go_roundg (n - (j + 1))
   case measure => omega
   case rel => exact ⟨j + 1, by omega, by omega, by go_num, H1.out, HB6.out, HK6.out, hsz6⟩
  have h1z : (sd.k == 0) = false := by simp [h1]
  rw [if_neg h1] at hsn
  have HSN := Za hsn
  clear hsn h1
  go_upto_region 11 with fail
  obtain ⟨W8, hW8⟩ : ∃ W8, W8 = w5.alloc (.cells #[.int .i64 sd.k, .int .i64 sd.n] 100) := ⟨_, rfl⟩
  rw [← hW8]
  have EB : Below w5.heap.size w5 W8 := by rw [hW8]; exact Zc (Zf _) _
  have HO8 := Za (HO5.out.below EB)
  have HB8 := Za (step HB5.out EB)
  have HK8 := Za (HK5.out.keep (EB.block w.heap.size (by omega)))
  have hsz8 : w.heap.size + 2 ≤ W8.heap.size := Nat.le_trans hsz5 EB.size
  clear hW8 EB
  go_wp2_with (at_builtin; refine Ji rfl (.tmp 62) (.tmp 64) rfl (w.heap.size + 1) _ (Z.take j) rfl (HO8.out.below (Zc (Zf _) _)) ⟨W8.heap.size, 0, none⟩ 1 (0) rfl (Zj _ _ _ _ 0 _ rfl) HZT.out (by simp; omega) ?_)
  intro v' w6 H1 H2 H3
  have HB6 : Hid (Below w.heap.size w w6) := (Zc HB8.out (.cells #[.int .i64 (0)] 3)).trans (Qg H2.out (by simp; omega) (fun b hb => by have := (HO8.out.lt hb).1; omega))
  have HK6 := Za ((HK8.out.keep ((Zc (Zf W8) (.cells #[.int .i64 (0)] 3)).block w.heap.size (by omega))).keep (H2.out.block w.heap.size (by simp; omega) (fun e => by have := (HO8.out.lt e.symm).1; omega)))
  have hsz6 : w.heap.size + 2 ≤ w6.heap.size := by have := H2.out.size; simp at this; omega
  rw [HSN.out] at H1
  clear H2 H3 HB5 HO5 HK5 HO HBW HKW HSN HB8 HO8 HK8
  go_wp2_with fail
  go_roundg (n - (j + 1))
  case measure => omega
  case rel => exact ⟨j + 1, by omega, by omega, by go_num, H1.out, HB6.out, HK6.out, hsz6⟩
 have hltz : ¬ (j : Int) < (n : Int) := by omega
 have HT := Za (show Z.take j = Z from List.take_of_length_le (by rw [HZL.out]; omega))
 go_wp2_with fail
 go_ret
 exact ⟨_, rfl, by have := HO.out; rw [HT.out] at this; exact this.base (by omega), HBW.out⟩
theorem Ziu (t : Tbl) (A : Option Addr) (c : Nat) (A' : Option Addr) (c' : Nat) (gr : Int) (n : Nat) (cells : List Zl) (GA : Option Addr) (gc : Nat) (width : Int) (w : World) (hok : Qn t = true) (hc : Rd Zbz w A t.cols) (hr : Rd Zbp w A' t.rows) (hG : Rd gcR w GA cells)
 (hn : 1 ≤ n ∧ n ≤ 90) (hcell : ∀ x ∈ cells, Zas n (fun c => Jq (Qb t c)) x ∧ Zaq t x ∧ 0 ≤ Jq (Qb t x))
 (hcell2 : ∀ x ∈ cells, Zas n (fun c => Zac (Qb t c)) x ∧ Zaq t x ∧ 0 ≤ Zac (Qb t x)) (hcl : cells.length ≤ 1000) (hwd : 0 ≤ width ∧ width ≤ 300) :
 Calls Tryz.prog 82 #[.agg #[.slice A t.cols.length c, .int .i64 t.head, .int .i64 t.foot, .slice A' t.rows.length c', .int .i64 t.gap], .agg #[.int .i64 gr, .int .i64 n, .slice GA cells.length gc], .int .i64 width] w fun e w' => ∃ v, e = .returned v ∧ Zn w' w.heap.size v (Za6 (Zw t) (Zbd t) width t.gap (Yf t cells n) (Zcb t cells n)) ∧ Below w.heap.size w w' := by
 have hg := (Zx hok).2.2.1
 have hE := fun (W : World) (h : Below w.heap.size w W) => Zhi t A c A' c' gr n cells GA gc W (hc.below h) (hr.below h) (hG.below h) hg ⟨hn.1, by omega⟩ hcell hcl
 have hH := fun (W : World) (h : Below w.heap.size w W) => Znh t A c A' c' gr n cells GA gc W (hc.below h) (hr.below h) (hG.below h) hg ⟨hn.1, by omega⟩ hcell hcell2 hcl
 have hGP := fun (W : World) => Znq t A c A' c' gr n cells.length GA gc W ⟨hn.1, by omega⟩ hg
 obtain ⟨hlx, hbx⟩ := Zf3 hok hg.1 (fun x hx => (hcell x hx).1)
 obtain ⟨hly, hby⟩ := Zka hok hg.1 (fun x hx => (hcell x hx).1) (fun x hx => (hcell2 x hx).1)
 generalize Yf t cells n = X at hE hlx hbx hby ⊢
 generalize Zcb t cells n = Y at hH hly hby ⊢
 have HLX := Za hlx
 have HLY := Za hly
 have HBX := Za hbx
 have HBY := Za hby
 have HOK := Za hok
 have HC := Za hc
 clear hc hr hG hcell hcell2 hlx hly hbx hby hok
 obtain ⟨V, hV⟩ : ∃ V, V = (w.alloc (.cells #[.slice A t.cols.length c, .int .i64 t.head, .int .i64 t.foot, .slice A' t.rows.length c', .int .i64 t.gap] 26)).alloc (.cells #[.int .i64 gr, .int .i64 n, .slice GA cells.length gc] 39) := ⟨_, rfl⟩
 have hB0 : Below w.heap.size w V := by rw [hV]; exact Zc (Zc (Zf w) _) _
 have hzV : V.heap.size = w.heap.size + 2 := by rw [hV]; simp
 have hKT : Zh V w.heap.size [.slice A t.cols.length c, .int .i64 t.head, .int .i64 t.foot, .slice A' t.rows.length c', .int .i64 t.gap] := by
  rw [hV]; exact (Zh.new w [.slice A t.cols.length c, .int .i64 t.head, .int .i64 t.foot, .slice A' t.rows.length c', .int .i64 t.gap] 26).keep ((Zc (Zf _) _).block w.heap.size (by simp))
 have hKG : Zh V (w.heap.size + 1) [.int .i64 gr, .int .i64 n, .slice GA cells.length gc] := by
  have h1 := Zh.new (w.alloc (.cells #[.slice A t.cols.length c, .int .i64 t.head, .int .i64 t.foot, .slice A' t.rows.length c', .int .i64 t.gap] 26)) [.int .i64 gr, .int .i64 n, .slice GA cells.length gc] 39
  have e1 : (w.alloc (.cells #[.slice A t.cols.length c, .int .i64 t.head, .int .i64 t.foot, .slice A' t.rows.length c', .int .i64 t.gap] 26)).heap.size = w.heap.size + 1 := by simp
  rw [e1] at h1
  rw [hV]; exact h1
 have hq : (fun U : World => (U.cell? ⟨w.heap.size, 0, none⟩ = some (.slice A t.cols.length c) ∧ U.cell? ⟨w.heap.size, 1, none⟩ = some (.int .i64 t.head) ∧ U.cell? ⟨w.heap.size, 2, none⟩ = some (.int .i64 t.foot) ∧ U.cell? ⟨w.heap.size, 3, none⟩ = some (.slice A' t.rows.length c') ∧ U.cell? ⟨w.heap.size, 4, none⟩ = some (.int .i64 t.gap)) ∧ U.cell? ⟨w.heap.size + 1, 0, none⟩ = some (.int .i64 gr) ∧ U.cell? ⟨w.heap.size + 1, 1, none⟩ = some (.int .i64 n) ∧ U.cell? ⟨w.heap.size + 1, 2, none⟩ = some (.slice GA cells.length gc)) V := ⟨⟨hKT.1 0 _ rfl, hKT.1 1 _ rfl, hKT.1 2 _ rfl, hKT.1 3 _ rfl, hKT.1 4 _ rfl⟩, hKG.1 0 _ rfl, hKG.1 1 _ rfl, hKG.1 2 _ rfl⟩
 have HK : Hid (∀ U : World, Below V.heap.size V U → (fun U : World => (U.cell? ⟨w.heap.size, 0, none⟩ = some (.slice A t.cols.length c) ∧ U.cell? ⟨w.heap.size, 1, none⟩ = some (.int .i64 t.head) ∧ U.cell? ⟨w.heap.size, 2, none⟩ = some (.int .i64 t.foot) ∧ U.cell? ⟨w.heap.size, 3, none⟩ = some (.slice A' t.rows.length c') ∧ U.cell? ⟨w.heap.size, 4, none⟩ = some (.int .i64 t.gap)) ∧ U.cell? ⟨w.heap.size + 1, 0, none⟩ = some (.int .i64 gr) ∧ U.cell? ⟨w.heap.size + 1, 1, none⟩ = some (.int .i64 n) ∧ U.cell? ⟨w.heap.size + 1, 2, none⟩ = some (.slice GA cells.length gc)) U) := fun U h =>
  ⟨⟨Zg h hq.1.1, Zg h hq.1.2.1, Zg h hq.1.2.2.1, Zg h hq.1.2.2.2.1, Zg h hq.1.2.2.2.2⟩, Zg h hq.2.1, Zg h hq.2.2.1, Zg h hq.2.2.2⟩
 have HB0 := Za hB0
 have HV := Za hV
 have HZV := Za hzV
 have hE1 := hE V HB0.out
 clear hB0 hV hzV hKT hKG hq hE
 go_enter Tryz.func82, Tryz.ntmps82
 go_wp2_with fail
 rw [← HV.out]
 refine hE1.mono ?_
 rintro e U1 ⟨v1, rfl, hO1, hb1⟩
 obtain ⟨A1, d1, rfl⟩ := hO1.form
 rw [HLX.out]
 rw [HLX.out] at hO1
 have HO1 := Za hO1
 have HB1 := Za hb1
 have hE2 := hH U1 (step HB0.out HB1.out)
 obtain ⟨⟨a0, a1, a2, a3, a4⟩, a5, a6, a7⟩ := HK.out U1 HB1.out
 clear hE1 hO1 hb1 hH
 go_wp2_with fail
 refine hE2.mono ?_
 rintro e U2 ⟨v2, rfl, hO2, hb2⟩
 obtain ⟨A2, d2, rfl⟩ := hO2.form
 rw [HLY.out]
 rw [HLY.out] at hO2
 have HO2 := Za (hO2.base (base' := V.heap.size) HB1.out.size)
 have HX2 := Za (HO1.out.below hb2)
 have HB2 := Za (step HB1.out hb2)
 have hSM := fun (W : World) (h : Below U2.heap.size U2 W) => Zay A1 d1 X W (by have h9 := HX2.out; rw [← HLX.out] at h9; exact (Qq h9).below h) (fun x hx => by have := HBX.out x hx; omega) (by have := HLX.out; omega)
 rw [HLX.out] at hSM
 obtain ⟨s1, s2⟩ := Zey 60 X HBX.out
 obtain ⟨sx, hsx⟩ : ∃ sx, Zq X = sx := ⟨_, rfl⟩
 obtain ⟨gp, hgp⟩ : ∃ gp, t.gap * ((n : Int) - 1) = gp := ⟨_, rfl⟩
 have hgp1 : 0 ≤ gp ∧ gp ≤ 300 := by
  have hm := Int.mul_nonneg hg.1 (show 0 ≤ (n : Int) - 1 by omega)
  have hm2 : t.gap * ((n : Int) - 1) ≤ 3 * ((n : Int) - 1) := Int.mul_le_mul_of_nonneg_right hg.2 (by omega)
  omega
 have hsx1 : 0 ≤ sx ∧ sx ≤ 6000 := by have := HLX.out; omega
 rw [hsx] at hSM
 rw [hgp] at hGP
 obtain ⟨lf, hlf⟩ : ∃ lf, width - sx - gp = lf := ⟨_, rfl⟩
 have t1 := IntWalk.i64_in (width - sx) (by omega)
 have t2 : IntKind.i64.wrap (width - sx - gp) = lf := by rw [hlf, IntKind.wrap_i64]; omega
 have HRES : Hid (Za6 (Zw t) (Zbd t) width t.gap X Y = if lf ≤ 0 then X else Zc8 (Zw t) (Zfa (Zw t) Y (Qk X 0 (Jr lf (Jy t 2 (fun k => width * Zbd t k / 100) X)).1, (Jr lf (Jy t 2 (fun k => width * Zbd t k / 100) X)).2))) := by
  have hwl : width - Zc7 X t.gap = lf := by
   unfold Zc7
   rw [HLX.out, hsx, show max ((n : Int) - 1) 0 = (n : Int) - 1 by omega, hgp]
   omega
  show _ = _
  rw [← hwl]
  rfl
 have hlf1 : lf ≤ 300 := by omega
 obtain ⟨⟨b0, b1, b2, b3, b4⟩, b5, b6, b7⟩ := HK.out U2 HB2.out
 clear s1 s2 hsx hgp hgp1 hsx1 hlf hE2 hO2 hb2 a0 a1 a2 a3 a4 a5 a6 a7
 go_upto_region 3 with fail
 go_cut [9] from 9 to 27 (fun s9 wx => s9 = .int .i64 lf ∧ Aside (Below U2.heap.size U2 wx))
 case first =>
  go_region_with (first
   | (go_at_call 96; refine (hSM _ ?_).mono ?_; (first | exact Zf _ | exact Zt (Zf _)); rintro e w9 ⟨rfl, hw9⟩; obtain rfl := hw9.symm)
   | (go_at_call 97; refine (hGP _).mono ?_; rintro e w3 ⟨rfl, hb3⟩))
  all_goals
   go_wp2_with fail
   go_meet
   refine ⟨rfl, (show Aside _ from ?_)⟩
   show Below _ _ _
   (repeat' (with_reducible first | exact Zf _ | refine Zt ?_ | refine step ?_ (by with_reducible assumption)))
 case rest =>
 obtain ⟨rfl, HB3⟩ := hcut
 obtain ⟨U3, rfl⟩ : ∃ U3 : World, U3 = wc := ⟨_, rfl⟩
 have HBV3 := Za (step HB2.out HB3.out)
 have HX3 := Za (HX2.out.below HB3.out)
 have HY3 := Za (HO2.out.below HB3.out)
 clear b0 b1 b2 b3 b4 b5 b6 b7 hSM hGP t1 t2 HO1 HX2 HO2
 by_cases hle : lf ≤ 0
 ·
  have hres := HRES.out
  rw [if_pos hle] at hres
  have HR1 := Za hres
  clear hres
  go_wp2_with fail
  go_ret
  exact ⟨_, rfl, by rw [HR1.out]; exact HX3.out.base HB0.out.size, step HB0.out HBV3.out⟩
 have hres := HRES.out
 rw [if_neg hle] at hres
 have HR1 := Za hres
 clear hres HRES
 obtain ⟨⟨b0, b1, b2, b3, b4⟩, _⟩ := HK.out U3 HBV3.out
 have HW3 := Za (step HB0.out HBV3.out)
 have hw1 := Zkv t A c A' c' n A1 d1 A2 d2 X Y width U3 HOK.out (HC.out.below HW3.out) (Qq HX3.out) (Qq HY3.out) HLX.out HLY.out (by omega) (fun x hx => by have := HBX.out x hx; omega) (fun x hx => by have := HBY.out x hx; omega) hwd
 obtain ⟨pl, pb⟩ := Zf4 (t := t) (q := 2) (f := fun k => width * Zbd t k / 100) HLX.out (fun x hx => (HBX.out x hx).1) (fun k _ => (Zm4 HOK.out hwd k).2)
 have hr1 := HR1.out
 generalize Jy t 2 (fun k => width * Zbd t k / 100) X = P1 at hw1 pl pb hr1
 obtain ⟨ql, qb, qs, qt⟩ := Zja (total := lf) (ws := P1) ⟨by omega, hlf1⟩ pl pb
 obtain ⟨p1, hp1⟩ : ∃ p, Jr lf P1 = p := ⟨_, rfl⟩
 rw [hp1] at hr1 ql qb qs qt
 obtain ⟨G1, l1⟩ := p1
 dsimp only at hr1 ql qb qs qt
 have HP1 := Za hp1
 have HPL := Za pl
 have HPB := Za pb
 have HQB := Za qb
 have HQL := Za ql
 have HR2 := Za hr1
 clear hr1 HR1 hp1 pb qb pl ql
 go_wp2_with fail
 refine hw1.mono ?_
 rintro e U4 ⟨v4, rfl, hI4, hb4⟩
 obtain ⟨A4, d4, rfl⟩ := hI4.form
 have hup := Ziy lf U3.heap.size A4 d4 P1 U4 hI4 ⟨⟨by omega, by omega⟩, fun x hx => by have := HPB.out x hx; omega, by rw [HPL.out]; omega⟩ (by rw [HPL.out]; omega)
 rw [HP1.out] at hup
 have HBV4 := Za (step HBV3.out hb4)
 have HX4 := Za (HX3.out.below hb4)
 have HY4 := Za (HY3.out.below hb4)
 clear hw1 hI4 hb4 b0 b1 b2 b3 b4
 go_wp2_with fail
 refine hup.mono ?_
 rintro e U5 ⟨v5, rfl, hI5, hb5⟩
 obtain ⟨A5, d5, rfl⟩ := hI5.form
 rw [show (G1, l1).1.length = n from HQL.out] at hI5 ⊢
 have HBV5 := Za (step HBV4.out hb5)
 have HY5 := Za (HY4.out.below hb5)
 have had := Ze7 A1 d1 A5 d5 n X G1 U5 (Qq (HX4.out.below hb5)) (Qq hI5) HLX.out HQL.out (by omega) (fun x hx => by have := HBX.out x hx; omega) (fun x hx => by have := HQB.out x hx; omega)
 clear hup hI5 hb5 HP1 HPL HPB
 go_wp2_with fail
 refine had.mono ?_
 rintro e U6 ⟨v6, rfl, hI6, hb6⟩
 obtain ⟨xl, xb⟩ := Zhb HLX.out HQL.out HBX.out HQB.out
 obtain ⟨X1, hX1⟩ : ∃ X1, Qk X 0 G1 = X1 := ⟨_, rfl⟩
 rw [hX1] at xl xb hI6
 have hr2 := HR2.out
 rw [hX1] at hr2
 have hau : Zfa (Zw t) Y (X1, l1) = (Qk X1 0 (Jr l1 (Jy t 0 (fun k => Y.getD k 0) X1)).1, (Jr l1 (Jy t 0 (fun k => Y.getD k 0) X1)).2) := rfl
 rw [hau] at hr2
 obtain ⟨A6, d6, rfl⟩ := hI6.form
 rw [xl] at hI6 ⊢
 have HBV6 := Za (step HBV5.out hb6)
 have HY6 := Za (HY5.out.below hb6)
 have HW6 := Za (step HB0.out HBV6.out)
 have HI6 := Za hI6
 obtain ⟨⟨b0, b1, b2, b3, b4⟩, _⟩ := HK.out U6 HBV6.out
 have hw2 := Zk7 t A c A' c' n A6 d6 A2 d2 X1 Y width U6 HOK.out (HC.out.below HW6.out) (Qq HI6.out) (Qq HY6.out) xl HLY.out (by omega) (fun x hx => by have := xb x hx; omega) (fun x hx => by have := HBY.out x hx; omega) hwd
 obtain ⟨pl, pb⟩ := Zf4 (t := t) (q := 0) (f := fun k => Y.getD k 0) xl (fun x hx => (xb x hx).1) (fun k hk => by have := Yn HBY.out k (by rw [HLY.out]; exact hk); show Y.getD k 0 ≤ 300; omega)
 generalize Jy t 0 (fun k => Y.getD k 0) X1 = P2 at hw2 pl pb hr2
 obtain ⟨ql, qb, qs2, qt2⟩ := Zja (total := l1) (ws := P2) ⟨qs, qt⟩ pl pb
 obtain ⟨p2, hp2⟩ : ∃ p, Jr l1 P2 = p := ⟨_, rfl⟩
 rw [hp2] at hr2 ql qb qs2 qt2
 obtain ⟨G2, l2⟩ := p2
 dsimp only at hr2 ql qb qs2 qt2
 have HP2 := Za hp2
 have HPL := Za pl
 have HPB := Za pb
 have HQB2 := Za qb
 have HQL2 := Za ql
 have HXL := Za xl
 have HXB := Za xb
 have HR3 := Za hr2
 clear hr2 hp2 pb qb pl ql xl xb hau hX1 had hb6 hI6 HR2
 go_wp2_with fail
 refine hw2.mono ?_
 rintro e U7 ⟨v7, rfl, hI7, hb7⟩
 obtain ⟨A7, d7, rfl⟩ := hI7.form
 have hup := Ziy l1 U6.heap.size A7 d7 P2 U7 hI7 ⟨⟨qs, by omega⟩, fun x hx => by have := HPB.out x hx; omega, by rw [HPL.out]; omega⟩ (by rw [HPL.out]; omega)
 rw [HP2.out] at hup
 have HBV7 := Za (step HBV6.out hb7)
 have HI7 := Za (HI6.out.below hb7)
 clear hw2 hI7 hb7 b0 b1 b2 b3 b4
 go_wp2_with fail
 refine hup.mono ?_
 rintro e U8 ⟨v8, rfl, hI8, hb8⟩
 obtain ⟨A8, d8, rfl⟩ := hI8.form
 rw [show (G2, l2).1.length = n from HQL2.out] at hI8 ⊢
 have HBV8 := Za (step HBV7.out hb8)
 have had := Ze7 A6 d6 A8 d8 n X1 G2 U8 (Qq (HI7.out.below hb8)) (Qq hI8) HXL.out HQL2.out (by omega) (fun x hx => by have := HXB.out x hx; omega) (fun x hx => by have := HQB2.out x hx; omega)
 clear hup hI8 hb8 HP2 HPL HPB
 go_wp2_with fail
 refine had.mono ?_
 rintro e U9 ⟨v9, rfl, hI9, hb9⟩
 obtain ⟨xl, xb⟩ := Zhb HXL.out HQL2.out HXB.out HQB2.out
 obtain ⟨X2, hX2⟩ : ∃ X2, Qk X1 0 G2 = X2 := ⟨_, rfl⟩
 rw [hX2] at xl xb hI9
 have hr3 := HR3.out
 rw [hX2] at hr3
 obtain ⟨A9, d9, rfl⟩ := hI9.form
 rw [xl] at hI9 ⊢
 have HR4 := Za hr3
 have HXL2 := Za xl
 have HXB2 := Za xb
 have HBV9 := Za (step HBV8.out hb9)
 have HI9 := Za hI9
 have HS89 : Hid (V.heap.size ≤ U8.heap.size) := HBV8.out.size
 obtain ⟨⟨b0, b1, b2, b3, b4⟩, _⟩ := HK.out U9 HBV9.out
 have hof := Zl9 t A c A' c' n 0 U9 (HC.out.below (step HB0.out HBV9.out)) (by omega)
 obtain ⟨kl, kb⟩ := Zfw (Zw t) 0 n
 clear hr3 HR3 hX2 had xl xb hI9 hb9
 go_wp2_with fail
 refine hof.mono ?_
 rintro e Z1 ⟨v10, rfl, hO10, hb10⟩
 obtain ⟨A10, d10, rfl⟩ := hO10.form
 have hsm := Zay A10 d10 (Zu (Zw t) 0 n) Z1 (Qq hO10) (fun x hx => by have := kb x hx; omega) (by rw [kl]; omega)
 rw [kl] at hsm ⊢
 have HBZ1 := Za (step HBV9.out hb10)
 have HIZ1 := Za (HI9.out.below hb10)
 have hsn0 := Zaj (fun x hx => (kb x hx).1)
 clear hof hb10 b0 b1 b2 b3 b4
 by_cases h0 : 0 < Zq (Zu (Zw t) 0 n)
 ·
  have HBZ := HBZ1
  have HIZ := HIZ1
  have hrw : Zc8 (Zw t) (X2, l2) = Qk X2 0 (Ye l2 (Zu (Zw t) 0 n)) := by
   unfold Zc8; dsimp only; rw [HXL2.out, if_pos h0]
  obtain ⟨sl, ss, sn⟩ := Zaz (total := l2) (ws := Zu (Zw t) 0 n) qs2 (fun x hx => (kb x hx).1) (by intro e; rw [e] at kl; simp at kl; omega)
  have sb : ∀ x ∈ Ye l2 (Zu (Zw t) 0 n), 0 ≤ x ∧ x ≤ 300 := fun x hx => ⟨sn x hx, by have := Zby sn x hx; omega⟩
  have HRW := Za (HR4.out.trans hrw)
  have hz0 : (Zq (Zu (Zw t) 0 n) == 0) = false := by simp; omega
  rw [kl] at sl
  generalize Zu (Zw t) 0 n = ws at hO10 hsm kl kb sl sb HRW hz0
  generalize Zq ws = sw at hsm hz0
  have hsh := Zdh l2 A10 d10 ws Z1 (Qq hO10) ⟨⟨qs2, by omega⟩, fun x hx => by have := kb x hx; omega, by rw [kl]; omega⟩ (by rw [kl]; omega)
  rw [kl] at hsh
  generalize Ye l2 ws = SH at hsh sl sb HRW
  have HSB := Za sb
  have HSL := Za sl
  have HSM := Za hsm
  clear hrw ss sn h0 kb kl sb sl hO10 hsn0 hsm
  have hsm := HSM.out
  go_wp2_with fail
  refine hsm.mono ?_
  rintro e w9 ⟨rfl, hw9⟩
  obtain rfl := hw9.symm
  clear hsm hw9
  have hsm := HSM.out
  go_wp2_with fail
  refine hsm.mono ?_
  rintro e w9 ⟨rfl, hw9⟩
  obtain rfl := hw9.symm
  clear hsm hw9
  go_wp2_with fail
  refine hsh.mono ?_
  rintro e Z5 ⟨v15, rfl, hO15, hb15⟩
  obtain ⟨A15, d15, rfl⟩ := hO15.form
  rw [HSL.out]
  rw [HSL.out] at hO15
  have HBZ5 := Za (step HBZ.out hb15)
  have had := Ze7 A9 d9 A15 d15 n X2 SH Z5 (Qq (HIZ.out.below hb15)) (Qq hO15) HXL2.out HSL.out (by omega) (fun x hx => by have := HXB2.out x hx; omega) (fun x hx => by have := HSB.out x hx; omega)
  clear hsh hO15 hb15
  go_wp2_with fail
  refine had.mono ?_
  rintro e Z6 ⟨v16, rfl, hO16, hb16⟩
  have HBZ6 := Za (step HBZ5.out hb16)
  have HO16 := Za (hO16.base (base' := w.heap.size) (by have := HBZ5.out.size; have := HB0.out.size; omega))
  clear had hO16 hb16
  go_wp2_with fail
  go_ret
  exact ⟨_, rfl, by rw [HRW.out]; exact HO16.out, step HB0.out HBZ6.out⟩
 have hz0 : (Zq (Zu (Zw t) 0 n) == 0) = true := by simp; omega
 have hn0 : ¬ 0 < Zq (Zu (Zw t) 0 n) := h0
 have HN0 := Za hn0
 generalize Zu (Zw t) 0 n = ws0 at hsm hz0 hO10
 generalize Zq ws0 = sw0 at hsm hz0
 clear kb kl hsn0 h0 hn0 hO10
 go_wp2_with fail
 refine hsm.mono ?_
 rintro e w9 ⟨rfl, hw9⟩
 obtain rfl := hw9.symm
 obtain ⟨⟨b0, b1, b2, b3, b4⟩, _⟩ := HK.out Z1 HBZ1.out
 have hof := Zl9 t A c A' c' n 2 Z1 (HC.out.below (step HB0.out HBZ1.out)) (by omega)
 obtain ⟨kl, kb⟩ := Zfw (Zw t) 2 n
 clear hsm hw9
 go_wp2_with fail
 refine hof.mono ?_
 rintro e Z2 ⟨v11, rfl, hO11, hb11⟩
 obtain ⟨A11, d11, rfl⟩ := hO11.form
 have hsm := Zay A11 d11 (Zu (Zw t) 2 n) Z2 (Qq hO11) (fun x hx => by have := kb x hx; omega) (by rw [kl]; omega)
 rw [kl] at hsm ⊢
 have HBZ := Za (step HBZ1.out hb11)
 have HIZ := Za (HIZ1.out.below hb11)
 have hsn0 := Zaj (fun x hx => (kb x hx).1)
 clear hof hb11 b0 b1 b2 b3 b4
 by_cases h0 : 0 < Zq (Zu (Zw t) 2 n)
 ·
  have hn0 := HN0.out
  have hrw : Zc8 (Zw t) (X2, l2) = Qk X2 0 (Ye l2 (Zu (Zw t) 2 n)) := by
   unfold Zc8; dsimp only; rw [HXL2.out, if_neg (show ¬ 0 < Zq (Zu (Zw t) 0 n) by omega), if_pos h0]
  obtain ⟨sl, ss, sn⟩ := Zaz (total := l2) (ws := Zu (Zw t) 2 n) qs2 (fun x hx => (kb x hx).1) (by intro e; rw [e] at kl; simp at kl; omega)
  have sb : ∀ x ∈ Ye l2 (Zu (Zw t) 2 n), 0 ≤ x ∧ x ≤ 300 := fun x hx => ⟨sn x hx, by have := Zby sn x hx; omega⟩
  have HRW := Za (HR4.out.trans hrw)
  have hz0 : (Zq (Zu (Zw t) 2 n) == 0) = false := by simp; omega
  rw [kl] at sl
  generalize Zu (Zw t) 2 n = ws at hO11 hsm kl kb sl sb HRW hz0
  generalize Zq ws = sw at hsm hz0
  have hsh := Zdh l2 A11 d11 ws Z2 (Qq hO11) ⟨⟨qs2, by omega⟩, fun x hx => by have := kb x hx; omega, by rw [kl]; omega⟩ (by rw [kl]; omega)
  rw [kl] at hsh
  generalize Ye l2 ws = SH at hsh sl sb HRW
  have HSB := Za sb
  have HSL := Za sl
  have HSM := Za hsm
  clear hrw ss sn hn0 h0 kb kl sb sl hO11 hsn0 hsm
  have hsm := HSM.out
  go_wp2_with fail
  refine hsm.mono ?_
  rintro e w9 ⟨rfl, hw9⟩
  obtain rfl := hw9.symm
  clear hsm hw9
  go_wp2_with fail
  refine hsh.mono ?_
  rintro e Z5 ⟨v15, rfl, hO15, hb15⟩
  obtain ⟨A15, d15, rfl⟩ := hO15.form
  rw [HSL.out]
  rw [HSL.out] at hO15
  have HBZ5 := Za (step HBZ.out hb15)
  have had := Ze7 A9 d9 A15 d15 n X2 SH Z5 (Qq (HIZ.out.below hb15)) (Qq hO15) HXL2.out HSL.out (by omega) (fun x hx => by have := HXB2.out x hx; omega) (fun x hx => by have := HSB.out x hx; omega)
  clear hsh hO15 hb15
  go_wp2_with fail
  refine had.mono ?_
  rintro e Z6 ⟨v16, rfl, hO16, hb16⟩
  have HBZ6 := Za (step HBZ5.out hb16)
  have HO16 := Za (hO16.base (base' := w.heap.size) (by have := HBZ5.out.size; have := HB0.out.size; omega))
  clear had hO16 hb16
  go_wp2_with fail
  go_ret
  exact ⟨_, rfl, by rw [HRW.out]; exact HO16.out, step HB0.out HBZ6.out⟩
 have hrw : Zc8 (Zw t) (X2, l2) = X2 := by
  have hn0 := HN0.out
  unfold Zc8; dsimp only; rw [HXL2.out, if_neg (show ¬ 0 < Zq (Zu (Zw t) 0 n) by omega), if_neg (show ¬ 0 < Zq (Zu (Zw t) 2 n) by omega)]
 have HRW := Za (HR4.out.trans hrw)
 have hz2 : (Zq (Zu (Zw t) 2 n) == 0) = true := by simp; omega
 generalize Zu (Zw t) 2 n = ws2 at hsm hz2 hO11
 generalize Zq ws2 = sw2 at hsm hz2
 clear kb kl hsn0 h0 hO11 hrw
 go_wp2_with fail
 refine hsm.mono ?_
 rintro e w9 ⟨rfl, hw9⟩
 obtain rfl := hw9.symm
 clear hsm hw9
 go_wp2_with fail
 go_ret
 exact ⟨_, rfl, by rw [HRW.out]; exact HIZ.out.base (by have := HS89.out; have := HB0.out.size; omega), step HB0.out HBZ.out⟩
end Go.Proofs.YtgdmcmicfoamlaaGreatDoor
