import Derived.Test.YtpfagdmmhgcmnaaGreatDoorMixWh
import Derived.Test.YtpfagdmmhgcmnaaGreatDoorMixUc
set_option linter.unusedVariables false
set_option linter.unusedSimpArgs false
namespace Go.Proofs.YtpfagdmmhgcmnaaGreatDoor
open Go.RowKit
theorem widLeast_ok {t : Tbl} (h : tblOk t = true) {k : Nat} (hy : GoodRows t k) {width : Int} (hw : 0 ≤ width ∧ width ≤ 300) : ∃ n : Nat, (gridL 400 t).2 = n ∧ (1 ≤ n ∧ n ≤ 90) ∧ (colLeastL 400 t).length = n ∧ (widColsL 400 t width).length = n ∧ (∀ x ∈ widColsL 400 t width, 0 ≤ x ∧ x ≤ 300) ∧
  (∀ j, j < n → (colLeastL 400 t).getD j 0 ≤ (widColsL 400 t width).getD j 0 ∧ (kindT t j = 1 → (widColsL 400 t width).getD j 0 = (colLeastL 400 t).getD j 0)) ∧
  ∀ c ∈ (gridL 400 t).1, CellAt t c ∧ (0 ≤ c.col ∧ 1 ≤ c.cols ∧ c.cols ≤ 4 ∧ c.col + c.cols ≤ n) ∧ leastT (textOf t c) ≤ wideG t.gap (someL (widColsL 400 t width) c.col c.cols) := by
 obtain ⟨n, hn, hn1, hl, _, he, hlw, hb, _⟩ := widCols_ok h hy hw
 obtain ⟨n', hn', _, _, _, hc, _⟩ := colLeast_ok h hy
 have hnn : n' = n := by omega
 subst hnn
 obtain ⟨_, w2, w3, _, _⟩ := widths_spec (kind := kindT t) (nn := numT t) (width := width) (gap := t.gap) (least := colLeastL 400 t) (wish := colWishL 400 t) (said_kind h)
 rw [← he] at w2 w3
 refine ⟨n', hn, hn1, hl, hlw, hb, fun j _ => ⟨w2 j, w3 j⟩, fun c hcm => ?_⟩
 obtain ⟨h1, h2, h3⟩ := hc c hcm
 refine ⟨h1, h2, ?_⟩
 rw [wide_some hl h2.1 h2.2.1 h2.2.2.2] at h3
 rw [wide_some hlw h2.1 h2.2.1 h2.2.2.2]
 have := winS_le (hl.trans hlw.symm) w2 c.col.toNat c.cols.toNat (by rw [hl]; omega)
 omega
set_option linter.unusedSimpArgs false in
set_option maxRecDepth 100000 in
set_option maxHeartbeats 40000000 in
theorem law_FnWidLeast (A : Option Addr) (n c : Nat) (w : World) (hw : Base w) (h : BytesAt w A n c) :
  Calls Tryz.prog 10 #[.slice A n c] w fun e w' => e = .returned (.bool true) ∧ Below w.heap.size w w' := by
 have hD := spec_DrawWidCols A n c w h
 have HW := hide hw
 have hn1 := h.1
 clear h hw
 by_cases hb1 : (1048576 : Int) < n
 ·
  clear hD
  go_enter Tryz.func10, Tryz.ntmps10
  go_wp2_with fail
  go_ret
  exact ⟨rfl, brefl w⟩
 go_enter Tryz.func10, Tryz.ntmps10
 go_wp2_with fail
 refine hD.mono ?_
 rintro e W1 ⟨t, vc, vr, wd, rfl, htb, hwd, hO1, hB1⟩
 obtain ⟨⟨Ac, kc, rfl⟩, Ar, kr, rfl⟩ := hO1.form
 obtain ⟨k, hy⟩ := htb.good
 have hs1 : w.heap.size ≤ W1.heap.size := hB1.size
 have HY := hide hy
 obtain ⟨V1, hV1⟩ : ∃ V, V = W1.alloc (.cells #[.slice Ac t.cols.length kc, .int .i64 t.head, .int .i64 t.foot, .slice Ar t.rows.length kr, .int .i64 t.gap] 26) := ⟨_, rfl⟩
 have hK1 : BlockAt V1 W1.heap.size [.slice Ac t.cols.length kc, .int .i64 t.head, .int .i64 t.foot, .slice Ar t.rows.length kr, .int .i64 t.gap] := by rw [hV1]; exact BlockAt.new W1 _ _
 have hz1 : V1.heap.size = W1.heap.size + 1 := by rw [hV1]; simp
 have HB1 : Hid (Below w.heap.size w V1) := by rw [hV1]; exact balloc hB1 _
 have HC1 : Hid (Rd colR V1 Ac t.cols) := by rw [hV1]; exact hO1.rdc.below (balloc (brefl _) _)
 have HR1 : Hid (Rd rowR V1 Ar t.rows) := by rw [hV1]; exact (hO1.rdr (any_sized htb)).below (balloc (brefl _) _)
 have HCB : Hid (∀ W, Below V1.heap.size V1 W → Base W ∧ Rd colR W Ac t.cols ∧ Rd rowR W Ar t.rows ∧ BlockAt W W1.heap.size [.slice Ac t.cols.length kc, .int .i64 t.head, .int .i64 t.foot, .slice Ar t.rows.length kr, .int .i64 t.gap]) := fun W h => ⟨HW.out.below (step HB1.out h), HC1.out.below h, HR1.out.below h, hK1.keep (h.block _ (by omega))⟩
 have hE1 := impl_WidCols t Ac kc Ar kr wd V1 (HW.out.below HB1.out) HC1.out HR1.out hy
 have HT := hide htb
 have HV := hide hV1
 clear hD htb hO1 hB1 hy hV1 hK1
 obtain ⟨L, hL⟩ : ∃ L, widColsL 400 t wd = L := ⟨_, rfl⟩
 rw [hL] at hE1
 have HL := hide hL
 have hlen : L.length ≤ 90 := by
  rw [← hL]
  by_cases hq : tblOk t = true ∧ 0 ≤ wd ∧ wd ≤ 300
  ·
   obtain ⟨n, _, h2, _, _, _, h3, _⟩ := widCols_ok hq.1 HY.out hq.2
   omega
  ·
   unfold widColsL; rw [if_neg hq]; exact Nat.zero_le _
 have HLN := hide hlen
 obtain ⟨_, _, _, hK1⟩ := HCB.out V1 (brefl V1)
 have f0 := hK1.1 0 _ rfl
 have f1 := hK1.1 1 _ rfl
 have f2 := hK1.1 2 _ rfl
 have f3 := hK1.1 3 _ rfl
 have f4 := hK1.1 4 _ rfl
 clear hL hK1 hlen
 go_wp2_with fail
 rw [← HV.out]
 refine hE1.mono ?_
 rintro e W2 ⟨v, rfl, hI2, hb2⟩
 obtain ⟨AL, cL, rfl⟩ := hI2.form
 have HI2 := hide (irow_rd hI2)
 have HB2 := hide hb2
 obtain ⟨q1, q2, q3, hK2⟩ := HCB.out W2 hb2
 have hE3 := spec_WidCols t Ac kc Ar kr wd W2 q2 q3 HY.out
 rw [widCols_two HY.out, HL.out] at hE3
 have g0 := hK2.1 0 _ rfl
 have g1 := hK2.1 1 _ rfl
 have g2 := hK2.1 2 _ rfl
 have g3 := hK2.1 3 _ rfl
 have g4 := hK2.1 4 _ rfl
 clear f0 f1 f2 f3 f4 hI2 hb2 hE1 hK2 HV q1 q2 q3
 go_wp2_with fail
 refine hE3.mono ?_
 rintro e W4 ⟨v, rfl, hI4, hb4⟩
 obtain ⟨AM, cM, rfl⟩ := hI4.form
 have hP := laws_pwInts AL cL AM cM L W4 (HI2.out.below hb4) (irow_rd hI4) (by have := HLN.out; omega)
 have HI4 := hide (HI2.out.below hb4)
 have HB4 := hide (step HB2.out hb4)
 clear hI4 hb4 hE3 g0 g1 g2 g3 g4
 go_wp2_with fail
 refine hP.mono ?_
 rintro e W5 ⟨rfl, nq, hq⟩
 have hb5 : Below W4.heap.size W4 W5 := by rw [hq]; exact bdrewN (brefl _) _
 have HI5 := hide (HI4.out.below hb5)
 have HB5 := hide (step HB4.out hb5)
 obtain ⟨q1, q2, q3, hK5⟩ := HCB.out W5 HB5.out
 have hE5 := impl_ColLeast t Ac kc Ar kr W5 q1 q2 q3 HY.out
 obtain ⟨X, hX⟩ : ∃ X, colLeastL 400 t = X := ⟨_, rfl⟩
 rw [hX] at hE5
 have HX := hide hX
 have g0 := hK5.1 0 _ rfl
 have g1 := hK5.1 1 _ rfl
 have g2 := hK5.1 2 _ rfl
 have g3 := hK5.1 3 _ rfl
 have g4 := hK5.1 4 _ rfl
 clear hb5 hP hK5 q1 q2 q3 hq hX
 go_wp2_with fail
 refine hE5.mono ?_
 rintro e W6 ⟨v, rfl, hI6, hb6⟩
 obtain ⟨AX, cX, rfl⟩ := hI6.form
 have HX6 := hide (irow_rd hI6)
 have HI6 := hide (HI5.out.below hb6)
 have HB6 := hide (step HB5.out hb6)
 obtain ⟨q1, q2, q3, hK6⟩ := HCB.out W6 HB6.out
 have hG := impl_GrdOf t Ac kc Ar kr W6 q1 q2 q3
 obtain ⟨GG, hGG⟩ : ∃ GG, gridOf 400 t = GG := ⟨_, rfl⟩
 rw [hGG] at hG
 have HGG := hide hGG
 have g0 := hK6.1 0 _ rfl
 have g1 := hK6.1 1 _ rfl
 have g2 := hK6.1 2 _ rfl
 have g3 := hK6.1 3 _ rfl
 have g4 := hK6.1 4 _ rfl
 clear hb6 hE5 hK6 q1 q2 q3 hI6 hGG
 go_wp2_with fail
 refine hG.mono ?_
 rintro e W7 ⟨GA, gc, rfl, hown, hb7⟩
 obtain ⟨V, hV⟩ : ∃ V, V = W7.alloc (.cells #[.int .i64 GG.rows, .int .i64 GG.cols, .slice GA GG.cells.length gc] 35) := ⟨_, rfl⟩
 have eV : Below W7.heap.size W7 V := by rw [hV]; exact balloc (brefl _) _
 have hzV : V.heap.size = W7.heap.size + 1 := by rw [hV]; simp
 have hKG : BlockAt V W7.heap.size [.int .i64 GG.rows, .int .i64 GG.cols, .slice GA GG.cells.length gc] := by rw [hV]; exact BlockAt.new W7 _ _
 have HKG := hide hKG
 have HBV := hide (step (step HB6.out hb7) eV)
 have HIV := hide ((HI6.out.below hb7).below eV)
 have HXV := hide ((HX6.out.below hb7).below eV)
 have HOWN := hide hown
 have HEV := hide eV
 have HV := hide hV
 clear hb7 hG hown eV hV hKG g0 g1 g2 g3 g4
 go_wp2_with fail
 rw [← HV.out]
 clear HV
 have hfc := fieldC
 by_cases hq : tblOk t = true ∧ 0 ≤ wd ∧ wd ≤ 300
 ·
  obtain ⟨m, hm, hm1, hlx, hlm, hlb, hge, hcells⟩ := widLeast_ok hq.1 HY.out hq.2
  rw [HX.out] at hlx hge
  rw [HL.out] at hlm hlb hge hcells
  have hgr : GG = ⟨t.rows.length, (gridL 400 t).2, (gridL 400 t).1⟩ := by rw [← HGG.out]; unfold gridOf; rw [if_pos hq.1]
  have hsm : ∀ x ∈ (gridL 400 t).1, GSm x := (GIn.rows (m := 400) hq.1).sm (by omega)
  obtain ⟨_, _, _, _, hgl⟩ := grid_need hq.1 HY.out 400 leastT_in
  have hcl : GG.cells = (gridL 400 t).1 := by rw [hgr]
  rw [← hcl] at hcells hsm hgl
  have HHD := hide hgl
  have HCS := hide hcells
  have HG := hide ((grd_rd HOWN.out hsm).below HEV.out)
  have HGE := hide hge
  have HLB := hide hlb
  have hgap := (tblOk_parts hq.1).2.2.1
  have HOK := hide hq.1
  have HLX := hide hlx
  have HLM := hide hlm
  clear hcells hsm hgl hge hlb hgr hcl hm hq hlx hlm
  go_loopg [8] L.length (fun gg s8 wr => ∃ jx : Nat, jx ≤ L.length ∧ L.length - jx ≤ gg ∧ s8 = .int .i64 jx ∧ Aside (Below V.heap.size V wr))
  case atStart => exact ⟨0, Nat.zero_le _, by omega, rfl, brefl _⟩
  case round =>
   obtain ⟨jx, hj, hgg, rfl, HBR⟩ := hrel
   by_cases hlt : jx < L.length
   ·
    have hltz : (jx : Int) < (L.length : Int) := by omega
    have hltz2 : (jx : Int) < (X.length : Int) := by have := HLX.out; have := HLM.out; omega
    obtain ⟨q1, q2, q3, hKr⟩ := HCB.out wr (step HBV.out HBR.out)
    obtain ⟨b, o, eA, hlb1, hc1⟩ := rd_int HIV.out HBR.out jx hlt
    subst eA
    obtain ⟨b2, o2, eB, hlb2, hc2⟩ := rd_int HXV.out HBR.out jx (by omega)
    subst eB
    have hge := HGE.out jx (by have := HLM.out; omega)
    have hSD := fun (W : World) (h : Below V.heap.size V W) => impl_ColSaid t Ac kc Ar kr jx W (HCB.out W (step HBV.out h)).1 (HCB.out W (step HBV.out h)).2.1 (HCB.out W (step HBV.out h)).2.2.1 (by have := HLN.out; omega) (by have := HLN.out; omega)
    have hsd : colSaid t (jx : Int) = saidOf t jx := by unfold colSaid; rw [if_pos HOK.out]
    rw [hsd] at hSD
    obtain ⟨sd, hsd2⟩ : ∃ sd, saidOf t (jx : Int) = sd := ⟨_, rfl⟩
    unfold kindT at hge
    rw [hsd2] at hSD hge
    have HSD := hide hSD
    have y0 := hKr.1 0 _ rfl
    have y1 := hKr.1 1 _ rfl
    have y2 := hKr.1 2 _ rfl
    have y3 := hKr.1 3 _ rfl
    have y4 := hKr.1 4 _ rfl
    generalize L.getD jx 0 = y at hc1 hge
    generalize X.getD jx 0 = x at hc2 hge
    have hd0 : decide (y < x) = false := by simp; omega
    have HBD := hide (bdrew HBR.out)
    have hjl : jx + 1 ≤ 90 := by have := HLN.out; omega
    clear q1 q2 q3 hKr hsd hsd2 hSD
    by_cases h1 : sd.k = 1
    ·
     have h1z : (sd.k == 1) = true := by simp [h1]
     have hxy := hge.2 h1
     subst hxy
     clear hge h1
     go_upto_region 12 with fail
     have ed := bdrew (brefl wr)
     have z0 := keepW ed y0
     have z1 := keepW ed y1
     have z2 := keepW ed y2
     have z3 := keepW ed y3
     have z4 := keepW ed y4
     have qc1 := keepW ed hc1
     have qc2 := keepW ed hc2
     have HSE := hide (fun (W : World) (h : Below wr.drew.heap.size wr.drew W) => HSD.out W (step HBD.out h))
     clear ed y0 y1 y2 y3 y4 hc1 hc2
     obtain ⟨KF, hKF⟩ : ∃ f : Nat → Value → World → Prop, f = (fun j v W => match j with | 0 => v = .slice (some ⟨b, o, none⟩) L.length cL | 1 => v = .int .i64 ↑jx | 2 => v = .pointer (some ⟨b, o + jx, none⟩) | 3 => v = .int .i64 y | 4 => v = .slice (some ⟨b2, o2, none⟩) X.length cX | 5 => v = .int .i64 ↑jx | 6 => v = .pointer (some ⟨b2, o2 + jx, none⟩) | 7 => v = .int .i64 y | 8 => v = .bool false | 9 => v = .bool false | 10 => v = .agg #[.slice Ac t.cols.length kc, .int .i64 t.head, .int .i64 t.foot, .slice Ar t.rows.length kr, .int .i64 t.gap] | 11 => v = .int .i64 ↑jx | 12 => v = .agg #[.int .i64 sd.k, .int .i64 sd.n] | 13 => v = .int .i64 sd.k | 14 => v = .bool true | 15 => v = .bool true | 16 => v = .slice (some ⟨b, o, none⟩) L.length cL | 17 => v = .int .i64 ↑jx | 18 => v = .pointer (some ⟨b, o + jx, none⟩) | 19 => v = .int .i64 y | 20 => v = .slice (some ⟨b2, o2, none⟩) X.length cX | 21 => v = .int .i64 ↑jx | 22 => v = .pointer (some ⟨b2, o2 + jx, none⟩) | 23 => v = .int .i64 y | 24 => v = .bool false | 25 => v = .bool false | 26 => v = .bool false | _ => True) := ⟨_, rfl⟩
     have k0 : ∀ v W, KF 0 v W ↔ (v = .slice (some ⟨b, o, none⟩) L.length cL) := fun v W => by rw [hKF]; first | done | exact Iff.rfl
     have k1 : ∀ v W, KF 1 v W ↔ (v = .int .i64 ↑jx) := fun v W => by rw [hKF]; first | done | exact Iff.rfl
     have k2 : ∀ v W, KF 2 v W ↔ (v = .pointer (some ⟨b, o + jx, none⟩)) := fun v W => by rw [hKF]; first | done | exact Iff.rfl
     have k3 : ∀ v W, KF 3 v W ↔ (v = .int .i64 y) := fun v W => by rw [hKF]; first | done | exact Iff.rfl
     have k4 : ∀ v W, KF 4 v W ↔ (v = .slice (some ⟨b2, o2, none⟩) X.length cX) := fun v W => by rw [hKF]; first | done | exact Iff.rfl
     have k5 : ∀ v W, KF 5 v W ↔ (v = .int .i64 ↑jx) := fun v W => by rw [hKF]; first | done | exact Iff.rfl
     have k6 : ∀ v W, KF 6 v W ↔ (v = .pointer (some ⟨b2, o2 + jx, none⟩)) := fun v W => by rw [hKF]; first | done | exact Iff.rfl
     have k7 : ∀ v W, KF 7 v W ↔ (v = .int .i64 y) := fun v W => by rw [hKF]; first | done | exact Iff.rfl
     have k8 : ∀ v W, KF 8 v W ↔ (v = .bool false) := fun v W => by rw [hKF]; first | done | exact Iff.rfl
     have k9 : ∀ v W, KF 9 v W ↔ (v = .bool false) := fun v W => by rw [hKF]; first | done | exact Iff.rfl
     have k10 : ∀ v W, KF 10 v W ↔ (v = .agg #[.slice Ac t.cols.length kc, .int .i64 t.head, .int .i64 t.foot, .slice Ar t.rows.length kr, .int .i64 t.gap]) := fun v W => by rw [hKF]; first | done | exact Iff.rfl
     have k11 : ∀ v W, KF 11 v W ↔ (v = .int .i64 ↑jx) := fun v W => by rw [hKF]; first | done | exact Iff.rfl
     have k12 : ∀ v W, KF 12 v W ↔ (v = .agg #[.int .i64 sd.k, .int .i64 sd.n]) := fun v W => by rw [hKF]; first | done | exact Iff.rfl
     have k13 : ∀ v W, KF 13 v W ↔ (v = .int .i64 sd.k) := fun v W => by rw [hKF]; first | done | exact Iff.rfl
     have k14 : ∀ v W, KF 14 v W ↔ (v = .bool true) := fun v W => by rw [hKF]; first | done | exact Iff.rfl
     have k15 : ∀ v W, KF 15 v W ↔ (v = .bool true) := fun v W => by rw [hKF]; first | done | exact Iff.rfl
     have k16 : ∀ v W, KF 16 v W ↔ (v = .slice (some ⟨b, o, none⟩) L.length cL) := fun v W => by rw [hKF]; first | done | exact Iff.rfl
     have k17 : ∀ v W, KF 17 v W ↔ (v = .int .i64 ↑jx) := fun v W => by rw [hKF]; first | done | exact Iff.rfl
     have k18 : ∀ v W, KF 18 v W ↔ (v = .pointer (some ⟨b, o + jx, none⟩)) := fun v W => by rw [hKF]; first | done | exact Iff.rfl
     have k19 : ∀ v W, KF 19 v W ↔ (v = .int .i64 y) := fun v W => by rw [hKF]; first | done | exact Iff.rfl
     have k20 : ∀ v W, KF 20 v W ↔ (v = .slice (some ⟨b2, o2, none⟩) X.length cX) := fun v W => by rw [hKF]; first | done | exact Iff.rfl
     have k21 : ∀ v W, KF 21 v W ↔ (v = .int .i64 ↑jx) := fun v W => by rw [hKF]; first | done | exact Iff.rfl
     have k22 : ∀ v W, KF 22 v W ↔ (v = .pointer (some ⟨b2, o2 + jx, none⟩)) := fun v W => by rw [hKF]; first | done | exact Iff.rfl
     have k23 : ∀ v W, KF 23 v W ↔ (v = .int .i64 y) := fun v W => by rw [hKF]; first | done | exact Iff.rfl
     have k24 : ∀ v W, KF 24 v W ↔ (v = .bool false) := fun v W => by rw [hKF]; first | done | exact Iff.rfl
     have k25 : ∀ v W, KF 25 v W ↔ (v = .bool false) := fun v W => by rw [hKF]; first | done | exact Iff.rfl
     have k26 : ∀ v W, KF 26 v W ↔ (v = .bool false) := fun v W => by rw [hKF]; first | done | exact Iff.rfl
     have HST : StableP KF := by
      rw [hKF]
      intro j v W W9 h hb
      by_cases hjn : j < 27
      ·
       obtain rfl | rfl | rfl | rfl | rfl | rfl | rfl | rfl | rfl | rfl | rfl | rfl | rfl | rfl | rfl | rfl | rfl | rfl | rfl | rfl | rfl | rfl | rfl | rfl | rfl | rfl | rfl : j = 0 ∨ j = 1 ∨ j = 2 ∨ j = 3 ∨ j = 4 ∨ j = 5 ∨ j = 6 ∨ j = 7 ∨ j = 8 ∨ j = 9 ∨ j = 10 ∨ j = 11 ∨ j = 12 ∨ j = 13 ∨ j = 14 ∨ j = 15 ∨ j = 16 ∨ j = 17 ∨ j = 18 ∨ j = 19 ∨ j = 20 ∨ j = 21 ∨ j = 22 ∨ j = 23 ∨ j = 24 ∨ j = 25 ∨ j = 26 := by omega
       ·
        exact h
       ·
        exact h
       ·
        exact h
       ·
        exact h
       ·
        exact h
       ·
        exact h
       ·
        exact h
       ·
        exact h
       ·
        exact h
       ·
        exact h
       ·
        exact h
       ·
        exact h
       ·
        exact h
       ·
        exact h
       ·
        exact h
       ·
        exact h
       ·
        exact h
       ·
        exact h
       ·
        exact h
       ·
        exact h
       ·
        exact h
       ·
        exact h
       ·
        exact h
       ·
        exact h
       ·
        exact h
       ·
        exact h
       ·
        exact h
      ·
       match j, h with
       | 0, h => exact absurd (by decide) hjn
       | 1, h => exact absurd (by decide) hjn
       | 2, h => exact absurd (by decide) hjn
       | 3, h => exact absurd (by decide) hjn
       | 4, h => exact absurd (by decide) hjn
       | 5, h => exact absurd (by decide) hjn
       | 6, h => exact absurd (by decide) hjn
       | 7, h => exact absurd (by decide) hjn
       | 8, h => exact absurd (by decide) hjn
       | 9, h => exact absurd (by decide) hjn
       | 10, h => exact absurd (by decide) hjn
       | 11, h => exact absurd (by decide) hjn
       | 12, h => exact absurd (by decide) hjn
       | 13, h => exact absurd (by decide) hjn
       | 14, h => exact absurd (by decide) hjn
       | 15, h => exact absurd (by decide) hjn
       | 16, h => exact absurd (by decide) hjn
       | 17, h => exact absurd (by decide) hjn
       | 18, h => exact absurd (by decide) hjn
       | 19, h => exact absurd (by decide) hjn
       | 20, h => exact absurd (by decide) hjn
       | 21, h => exact absurd (by decide) hjn
       | 22, h => exact absurd (by decide) hjn
       | 23, h => exact absurd (by decide) hjn
       | 24, h => exact absurd (by decide) hjn
       | 25, h => exact absurd (by decide) hjn
       | 26, h => exact absurd (by decide) hjn
       | _ + 27, h => exact h
     clear hKF
     obtain ⟨dep, hdep⟩ : ∃ f : Nat → List Nat, f = (fun j => match j with | 2 => [0, 1] | 3 => [2] | 6 => [4, 5] | 7 => [6] | 8 => [3, 7] | 9 => [8] | 10 => [9] | 11 => [9] | 12 => [10, 11, 9] | 13 => [12, 9] | 14 => [13, 9] | 15 => [14, 12, 9] | 16 => [15] | 17 => [15] | 18 => [16, 17, 15] | 19 => [18, 15] | 20 => [15] | 21 => [15] | 22 => [20, 21, 15] | 23 => [22, 15] | 24 => [19, 23, 15] | 25 => [15, 24, 9] | 26 => [9, 25] | _ => []) := ⟨_, rfl⟩
     have d0 : dep 0 = [] := congrFun hdep 0
     have d1 : dep 1 = [] := congrFun hdep 1
     have d2 : dep 2 = [0, 1] := congrFun hdep 2
     have d3 : dep 3 = [2] := congrFun hdep 3
     have d4 : dep 4 = [] := congrFun hdep 4
     have d5 : dep 5 = [] := congrFun hdep 5
     have d6 : dep 6 = [4, 5] := congrFun hdep 6
     have d7 : dep 7 = [6] := congrFun hdep 7
     have d8 : dep 8 = [3, 7] := congrFun hdep 8
     have d9 : dep 9 = [8] := congrFun hdep 9
     have d10 : dep 10 = [9] := congrFun hdep 10
     have d11 : dep 11 = [9] := congrFun hdep 11
     have d12 : dep 12 = [10, 11, 9] := congrFun hdep 12
     have d13 : dep 13 = [12, 9] := congrFun hdep 13
     have d14 : dep 14 = [13, 9] := congrFun hdep 14
     have d15 : dep 15 = [14, 12, 9] := congrFun hdep 15
     have d16 : dep 16 = [15] := congrFun hdep 16
     have d17 : dep 17 = [15] := congrFun hdep 17
     have d18 : dep 18 = [16, 17, 15] := congrFun hdep 18
     have d19 : dep 19 = [18, 15] := congrFun hdep 19
     have d20 : dep 20 = [15] := congrFun hdep 20
     have d21 : dep 21 = [15] := congrFun hdep 21
     have d22 : dep 22 = [20, 21, 15] := congrFun hdep 22
     have d23 : dep 23 = [22, 15] := congrFun hdep 23
     have d24 : dep 24 = [19, 23, 15] := congrFun hdep 24
     have d25 : dep 25 = [15, 24, 9] := congrFun hdep 25
     have d26 : dep 26 = [9, 25] := congrFun hdep 26
     clear hdep
     have HLD : LastP 27 27 dep := lastP_none (by decide)
     obtain ⟨st, hst⟩ : ∃ f : Nat → Value, f = (fun j => match j with | 0 => u37 | 1 => u38 | 2 => u39 | 3 => u40 | 4 => u41 | 5 => u42 | 6 => u43 | 7 => u44 | 8 => u45 | 9 => u46 | 10 => u47 | 11 => u48 | 12 => u49 | 13 => u50 | 14 => u51 | 15 => u52 | 16 => u53 | 17 => u54 | 18 => u55 | 19 => u56 | 20 => u57 | 21 => u58 | 22 => u59 | 23 => u60 | 24 => u61 | 25 => u62 | 26 => u63 | _ => undef) := ⟨_, rfl⟩
     have st0 : st 0 = u37 := congrFun hst 0
     have st1 : st 1 = u38 := congrFun hst 1
     have st2 : st 2 = u39 := congrFun hst 2
     have st3 : st 3 = u40 := congrFun hst 3
     have st4 : st 4 = u41 := congrFun hst 4
     have st5 : st 5 = u42 := congrFun hst 5
     have st6 : st 6 = u43 := congrFun hst 6
     have st7 : st 7 = u44 := congrFun hst 7
     have st8 : st 8 = u45 := congrFun hst 8
     have st9 : st 9 = u46 := congrFun hst 9
     have st10 : st 10 = u47 := congrFun hst 10
     have st11 : st 11 = u48 := congrFun hst 11
     have st12 : st 12 = u49 := congrFun hst 12
     have st13 : st 13 = u50 := congrFun hst 13
     have st14 : st 14 = u51 := congrFun hst 14
     have st15 : st 15 = u52 := congrFun hst 15
     have st16 : st 16 = u53 := congrFun hst 16
     have st17 : st 17 = u54 := congrFun hst 17
     have st18 : st 18 = u55 := congrFun hst 18
     have st19 : st 19 = u56 := congrFun hst 19
     have st20 : st 20 = u57 := congrFun hst 20
     have st21 : st 21 = u58 := congrFun hst 21
     have st22 : st 22 = u59 := congrFun hst 22
     have st23 : st 23 = u60 := congrFun hst 23
     have st24 : st 24 = u61 := congrFun hst 24
     have st25 : st 25 = u62 := congrFun hst 25
     have st26 : st 26 = u63 := congrFun hst 26
     refine wp_region_inv (fun l a W => ∃ vs : Nat → Value, a = ⟨List.toArray (.slice A n c :: undef :: u2 :: .pointer (some ⟨W1.heap.size, 0, none⟩) :: .int .i64 wd :: .slice (some ⟨b, o, none⟩) L.length cL :: .slice (some ⟨b2, o2, none⟩) X.length cX :: .pointer (some ⟨W7.heap.size, 0, none⟩) :: .int .i64 ↑jx :: undef :: .slice A n c :: .int .i64 ↑n :: .bool false :: .tuple #[.agg #[.slice Ac t.cols.length kc, .int .i64 t.head, .int .i64 t.foot, .slice Ar t.rows.length kr, .int .i64 t.gap], .int .i64 wd] :: .slice A n c :: .tuple #[.agg #[.slice Ac t.cols.length kc, .int .i64 t.head, .int .i64 t.foot, .slice Ar t.rows.length kr, .int .i64 t.gap], .int .i64 wd] :: .agg #[.slice Ac t.cols.length kc, .int .i64 t.head, .int .i64 t.foot, .slice Ar t.rows.length kr, .int .i64 t.gap] :: .int .i64 wd :: .agg #[.slice Ac t.cols.length kc, .int .i64 t.head, .int .i64 t.foot, .slice Ar t.rows.length kr, .int .i64 t.gap] :: .int .i64 wd :: .slice (some ⟨b, o, none⟩) L.length cL :: .slice (some ⟨b, o, none⟩) L.length cL :: .agg #[.slice Ac t.cols.length kc, .int .i64 t.head, .int .i64 t.foot, .slice Ar t.rows.length kr, .int .i64 t.gap] :: .int .i64 wd :: .slice AM L.length cM :: .bool true :: .bool false :: .agg #[.slice Ac t.cols.length kc, .int .i64 t.head, .int .i64 t.foot, .slice Ar t.rows.length kr, .int .i64 t.gap] :: .slice (some ⟨b2, o2, none⟩) X.length cX :: .agg #[.slice Ac t.cols.length kc, .int .i64 t.head, .int .i64 t.foot, .slice Ar t.rows.length kr, .int .i64 t.gap] :: .agg #[.int .i64 GG.rows, .int .i64 GG.cols, .slice GA GG.cells.length gc] :: .int .i64 ↑jx :: .slice (some ⟨b, o, none⟩) L.length cL :: .int .i64 ↑L.length :: .bool true :: u35 :: u36 :: vs 0 :: vs 1 :: vs 2 :: vs 3 :: vs 4 :: vs 5 :: vs 6 :: vs 7 :: vs 8 :: vs 9 :: vs 10 :: vs 11 :: vs 12 :: vs 13 :: vs 14 :: vs 15 :: vs 16 :: vs 17 :: vs 18 :: vs 19 :: vs 20 :: vs 21 :: vs 22 :: vs 23 :: vs 24 :: vs 25 :: vs 26 :: undef :: undef :: undef :: undef :: undef :: undef :: undef :: undef :: undef :: undef :: undef :: undef :: undef :: undef :: undef :: undef :: undef :: undef :: undef :: undef :: undef :: undef :: undef :: undef :: undef :: undef :: undef :: undef :: undef :: undef :: undef :: []), []⟩ ∧ PMid KF 27 27 dep (wr.drew) (fun _ _ _ => True) st l vs W) (by kernel_rfl) ?top ?start ?step ?fin
     case top =>
      clear k0 k1 k2 k3 k4 k5 k6 k7 k8 k9 k10 k11 k12 k13 k14 k15 k16 k17 k18 k19 k20 k21 k22 k23 k24 k25 k26 d0 d1 d2 d3 d4 d5 d6 d7 d8 d9 d10 d11 d12 d13 d14 d15 d16 d17 d18 d19 d20 d21 d22 d23 d24 d25 d26 hst st0 st1 st2 st3 st4 st5 st6 st7 st8 st9 st10 st11 st12 st13 st14 st15 st16 st17 st18 st19 st20 st21 st22 st23 st24 st25 st26
      intro j o ho e he
      have hj : j < 27 := (Array.getElem?_eq_some_iff.1 ho).1
      have hA : (o.after.all fun e => decide (e.on < j)) = true := by
       obtain rfl | rfl | rfl | rfl | rfl | rfl | rfl | rfl | rfl | rfl | rfl | rfl | rfl | rfl | rfl | rfl | rfl | rfl | rfl | rfl | rfl | rfl | rfl | rfl | rfl | rfl | rfl : j = 0 ∨ j = 1 ∨ j = 2 ∨ j = 3 ∨ j = 4 ∨ j = 5 ∨ j = 6 ∨ j = 7 ∨ j = 8 ∨ j = 9 ∨ j = 10 ∨ j = 11 ∨ j = 12 ∨ j = 13 ∨ j = 14 ∨ j = 15 ∨ j = 16 ∨ j = 17 ∨ j = 18 ∨ j = 19 ∨ j = 20 ∨ j = 21 ∨ j = 22 ∨ j = 23 ∨ j = 24 ∨ j = 25 ∨ j = 26 := by omega
       all_goals
        simp only [List.getElem?_toArray, List.getElem?_cons_zero, List.getElem?_cons_succ, Option.some.injEq] at ho
        subst ho
        first | decide | kernel_rfl | simp
      simpa using Array.all_eq_true'.1 hA e he
     case start => exact ⟨st, by rw [hst]; first | done | rfl, PMid.start⟩
     case step =>
      rintro l a W i o ho hl hpre hsz ⟨vs, rfl, hM0⟩ K hK
      have hi : i < 27 := (Array.getElem?_eq_some_iff.1 ho).1
      obtain rfl | rfl | rfl | rfl | rfl | rfl | rfl | rfl | rfl | rfl | rfl | rfl | rfl | rfl | rfl | rfl | rfl | rfl | rfl | rfl | rfl | rfl | rfl | rfl | rfl | rfl | rfl : i = 0 ∨ i = 1 ∨ i = 2 ∨ i = 3 ∨ i = 4 ∨ i = 5 ∨ i = 6 ∨ i = 7 ∨ i = 8 ∨ i = 9 ∨ i = 10 ∨ i = 11 ∨ i = 12 ∨ i = 13 ∨ i = 14 ∨ i = 15 ∨ i = 16 ∨ i = 17 ∨ i = 18 ∨ i = 19 ∨ i = 20 ∨ i = 21 ∨ i = 22 ∨ i = 23 ∨ i = 24 ∨ i = 25 ∨ i = 26 := by omega
      ·
       simp only [List.getElem?_toArray, List.getElem?_cons_zero, List.getElem?_cons_succ, Option.some.injEq] at ho
       subst ho
       have hMB := hM0.below HLD hi (by decide) hl
       have hMG := hM0.get HLD hi (by decide) hl
       have hdp : ∀ e ∈ dep 0, l.getD e false = true := by rw [d0]; exact dep_nil
       have e := k0
       clear k0 k1 k2 k3 k4 k5 k6 k7 k8 k9 k10 k11 k12 k13 k14 k15 k16 k17 k18 k19 k20 k21 k22 k23 k24 k25 k26 d0 d1 d2 d3 d4 d5 d6 d7 d8 d9 d10 d11 d12 d13 d14 d15 d16 d17 d18 d19 d20 d21 d22 d23 d24 d25 d26 hst st0 st1 st2 st3 st4 st5 st6 st7 st8 st9 st10 st11 st12 st13 st14 st15 st16 st17 st18 st19 st20 st21 st22 st23 st24 st25 st26
       go_simp
       exact hK.out _ _ ⟨updV vs 0 (.slice (some ⟨b, o, none⟩) L.length cL), rfl, hM0.still HLD HST 0 (by decide) (by decide) hl _ hdp ((e _ _).2 rfl)⟩
      ·
       simp only [List.getElem?_toArray, List.getElem?_cons_zero, List.getElem?_cons_succ, Option.some.injEq] at ho
       subst ho
       have hMB := hM0.below HLD hi (by decide) hl
       have hMG := hM0.get HLD hi (by decide) hl
       have hdp : ∀ e ∈ dep 1, l.getD e false = true := by rw [d1]; exact dep_nil
       have e := k1
       clear k0 k1 k2 k3 k4 k5 k6 k7 k8 k9 k10 k11 k12 k13 k14 k15 k16 k17 k18 k19 k20 k21 k22 k23 k24 k25 k26 d0 d1 d2 d3 d4 d5 d6 d7 d8 d9 d10 d11 d12 d13 d14 d15 d16 d17 d18 d19 d20 d21 d22 d23 d24 d25 d26 hst st0 st1 st2 st3 st4 st5 st6 st7 st8 st9 st10 st11 st12 st13 st14 st15 st16 st17 st18 st19 st20 st21 st22 st23 st24 st25 st26
       go_simp
       exact hK.out _ _ ⟨updV vs 1 (.int .i64 ↑jx), rfl, hM0.still HLD HST 1 (by decide) (by decide) hl _ hdp ((e _ _).2 rfl)⟩
      ·
       simp only [List.getElem?_toArray, List.getElem?_cons_zero, List.getElem?_cons_succ, Option.some.injEq] at ho
       subst ho
       have hMB := hM0.below HLD hi (by decide) hl
       have hMG := hM0.get HLD hi (by decide) hl
       have v0 : vs 0 = .slice (some ⟨b, o, none⟩) L.length cL := (k0 _ _).1 (hMG 0 (by decide) (hpre ⟨0, .data⟩ (by simp) rfl))
       have v1 : vs 1 = .int .i64 ↑jx := (k1 _ _).1 (hMG 1 (by decide) (hpre ⟨1, .data⟩ (by simp) rfl))
       have hdp : ∀ e ∈ dep 2, l.getD e false = true := by rw [d2]; exact (dep_cons (hpre ⟨0, .data⟩ (by simp) rfl) (dep_cons (hpre ⟨1, .data⟩ (by simp) rfl) dep_nil))
       have e := k2
       clear k0 k1 k2 k3 k4 k5 k6 k7 k8 k9 k10 k11 k12 k13 k14 k15 k16 k17 k18 k19 k20 k21 k22 k23 k24 k25 k26 d0 d1 d2 d3 d4 d5 d6 d7 d8 d9 d10 d11 d12 d13 d14 d15 d16 d17 d18 d19 d20 d21 d22 d23 d24 d25 d26 hst st0 st1 st2 st3 st4 st5 st6 st7 st8 st9 st10 st11 st12 st13 st14 st15 st16 st17 st18 st19 st20 st21 st22 st23 st24 st25 st26
       rw [v0, v1]
       go_simp
       exact hK.out _ _ ⟨updV vs 2 (.pointer (some ⟨b, o + jx, none⟩)), (by simp [updV, v0, v1]), hM0.still HLD HST 2 (by decide) (by decide) hl _ hdp ((e _ _).2 rfl)⟩
      ·
       simp only [List.getElem?_toArray, List.getElem?_cons_zero, List.getElem?_cons_succ, Option.some.injEq] at ho
       subst ho
       have hMB := hM0.below HLD hi (by decide) hl
       have hMG := hM0.get HLD hi (by decide) hl
       have v2 : vs 2 = .pointer (some ⟨b, o + jx, none⟩) := (k2 _ _).1 (hMG 2 (by decide) (hpre ⟨2, .data⟩ (by simp) rfl))
       have hdp : ∀ e ∈ dep 3, l.getD e false = true := by rw [d3]; exact (dep_cons (hpre ⟨2, .data⟩ (by simp) rfl) dep_nil)
       have e := k3
       clear k0 k1 k2 k3 k4 k5 k6 k7 k8 k9 k10 k11 k12 k13 k14 k15 k16 k17 k18 k19 k20 k21 k22 k23 k24 k25 k26 d0 d1 d2 d3 d4 d5 d6 d7 d8 d9 d10 d11 d12 d13 d14 d15 d16 d17 d18 d19 d20 d21 d22 d23 d24 d25 d26 hst st0 st1 st2 st3 st4 st5 st6 st7 st8 st9 st10 st11 st12 st13 st14 st15 st16 st17 st18 st19 st20 st21 st22 st23 st24 st25 st26
       have x0 := keepW hMB qc1
       rw [v2]
       go_simp
       exact hK.out _ _ ⟨updV vs 3 (.int .i64 y), (by simp [updV, v2]), hM0.still HLD HST 3 (by decide) (by decide) hl _ hdp ((e _ _).2 rfl)⟩
      ·
       simp only [List.getElem?_toArray, List.getElem?_cons_zero, List.getElem?_cons_succ, Option.some.injEq] at ho
       subst ho
       have hMB := hM0.below HLD hi (by decide) hl
       have hMG := hM0.get HLD hi (by decide) hl
       have hdp : ∀ e ∈ dep 4, l.getD e false = true := by rw [d4]; exact dep_nil
       have e := k4
       clear k0 k1 k2 k3 k4 k5 k6 k7 k8 k9 k10 k11 k12 k13 k14 k15 k16 k17 k18 k19 k20 k21 k22 k23 k24 k25 k26 d0 d1 d2 d3 d4 d5 d6 d7 d8 d9 d10 d11 d12 d13 d14 d15 d16 d17 d18 d19 d20 d21 d22 d23 d24 d25 d26 hst st0 st1 st2 st3 st4 st5 st6 st7 st8 st9 st10 st11 st12 st13 st14 st15 st16 st17 st18 st19 st20 st21 st22 st23 st24 st25 st26
       go_simp
       exact hK.out _ _ ⟨updV vs 4 (.slice (some ⟨b2, o2, none⟩) X.length cX), rfl, hM0.still HLD HST 4 (by decide) (by decide) hl _ hdp ((e _ _).2 rfl)⟩
      ·
       simp only [List.getElem?_toArray, List.getElem?_cons_zero, List.getElem?_cons_succ, Option.some.injEq] at ho
       subst ho
       have hMB := hM0.below HLD hi (by decide) hl
       have hMG := hM0.get HLD hi (by decide) hl
       have hdp : ∀ e ∈ dep 5, l.getD e false = true := by rw [d5]; exact dep_nil
       have e := k5
       clear k0 k1 k2 k3 k4 k5 k6 k7 k8 k9 k10 k11 k12 k13 k14 k15 k16 k17 k18 k19 k20 k21 k22 k23 k24 k25 k26 d0 d1 d2 d3 d4 d5 d6 d7 d8 d9 d10 d11 d12 d13 d14 d15 d16 d17 d18 d19 d20 d21 d22 d23 d24 d25 d26 hst st0 st1 st2 st3 st4 st5 st6 st7 st8 st9 st10 st11 st12 st13 st14 st15 st16 st17 st18 st19 st20 st21 st22 st23 st24 st25 st26
       go_simp
       exact hK.out _ _ ⟨updV vs 5 (.int .i64 ↑jx), rfl, hM0.still HLD HST 5 (by decide) (by decide) hl _ hdp ((e _ _).2 rfl)⟩
      ·
       simp only [List.getElem?_toArray, List.getElem?_cons_zero, List.getElem?_cons_succ, Option.some.injEq] at ho
       subst ho
       have hMB := hM0.below HLD hi (by decide) hl
       have hMG := hM0.get HLD hi (by decide) hl
       have v4 : vs 4 = .slice (some ⟨b2, o2, none⟩) X.length cX := (k4 _ _).1 (hMG 4 (by decide) (hpre ⟨4, .data⟩ (by simp) rfl))
       have v5 : vs 5 = .int .i64 ↑jx := (k5 _ _).1 (hMG 5 (by decide) (hpre ⟨5, .data⟩ (by simp) rfl))
       have hdp : ∀ e ∈ dep 6, l.getD e false = true := by rw [d6]; exact (dep_cons (hpre ⟨4, .data⟩ (by simp) rfl) (dep_cons (hpre ⟨5, .data⟩ (by simp) rfl) dep_nil))
       have e := k6
       clear k0 k1 k2 k3 k4 k5 k6 k7 k8 k9 k10 k11 k12 k13 k14 k15 k16 k17 k18 k19 k20 k21 k22 k23 k24 k25 k26 d0 d1 d2 d3 d4 d5 d6 d7 d8 d9 d10 d11 d12 d13 d14 d15 d16 d17 d18 d19 d20 d21 d22 d23 d24 d25 d26 hst st0 st1 st2 st3 st4 st5 st6 st7 st8 st9 st10 st11 st12 st13 st14 st15 st16 st17 st18 st19 st20 st21 st22 st23 st24 st25 st26
       rw [v4, v5]
       go_simp
       exact hK.out _ _ ⟨updV vs 6 (.pointer (some ⟨b2, o2 + jx, none⟩)), (by simp [updV, v4, v5]), hM0.still HLD HST 6 (by decide) (by decide) hl _ hdp ((e _ _).2 rfl)⟩
      ·
       simp only [List.getElem?_toArray, List.getElem?_cons_zero, List.getElem?_cons_succ, Option.some.injEq] at ho
       subst ho
       have hMB := hM0.below HLD hi (by decide) hl
       have hMG := hM0.get HLD hi (by decide) hl
       have v6 : vs 6 = .pointer (some ⟨b2, o2 + jx, none⟩) := (k6 _ _).1 (hMG 6 (by decide) (hpre ⟨6, .data⟩ (by simp) rfl))
       have hdp : ∀ e ∈ dep 7, l.getD e false = true := by rw [d7]; exact (dep_cons (hpre ⟨6, .data⟩ (by simp) rfl) dep_nil)
       have e := k7
       clear k0 k1 k2 k3 k4 k5 k6 k7 k8 k9 k10 k11 k12 k13 k14 k15 k16 k17 k18 k19 k20 k21 k22 k23 k24 k25 k26 d0 d1 d2 d3 d4 d5 d6 d7 d8 d9 d10 d11 d12 d13 d14 d15 d16 d17 d18 d19 d20 d21 d22 d23 d24 d25 d26 hst st0 st1 st2 st3 st4 st5 st6 st7 st8 st9 st10 st11 st12 st13 st14 st15 st16 st17 st18 st19 st20 st21 st22 st23 st24 st25 st26
       have x0 := keepW hMB qc2
       rw [v6]
       go_simp
       exact hK.out _ _ ⟨updV vs 7 (.int .i64 y), (by simp [updV, v6]), hM0.still HLD HST 7 (by decide) (by decide) hl _ hdp ((e _ _).2 rfl)⟩
      ·
       simp only [List.getElem?_toArray, List.getElem?_cons_zero, List.getElem?_cons_succ, Option.some.injEq] at ho
       subst ho
       have hMB := hM0.below HLD hi (by decide) hl
       have hMG := hM0.get HLD hi (by decide) hl
       have v3 : vs 3 = .int .i64 y := (k3 _ _).1 (hMG 3 (by decide) (hpre ⟨3, .data⟩ (by simp) rfl))
       have v7 : vs 7 = .int .i64 y := (k7 _ _).1 (hMG 7 (by decide) (hpre ⟨7, .data⟩ (by simp) rfl))
       have hdp : ∀ e ∈ dep 8, l.getD e false = true := by rw [d8]; exact (dep_cons (hpre ⟨3, .data⟩ (by simp) rfl) (dep_cons (hpre ⟨7, .data⟩ (by simp) rfl) dep_nil))
       have e := k8
       clear k0 k1 k2 k3 k4 k5 k6 k7 k8 k9 k10 k11 k12 k13 k14 k15 k16 k17 k18 k19 k20 k21 k22 k23 k24 k25 k26 d0 d1 d2 d3 d4 d5 d6 d7 d8 d9 d10 d11 d12 d13 d14 d15 d16 d17 d18 d19 d20 d21 d22 d23 d24 d25 d26 hst st0 st1 st2 st3 st4 st5 st6 st7 st8 st9 st10 st11 st12 st13 st14 st15 st16 st17 st18 st19 st20 st21 st22 st23 st24 st25 st26
       rw [v3, v7]
       go_simp
       exact hK.out _ _ ⟨updV vs 8 (.bool false), (by simp [updV, v3, v7]), hM0.still HLD HST 8 (by decide) (by decide) hl _ hdp ((e _ _).2 rfl)⟩
      ·
       simp only [List.getElem?_toArray, List.getElem?_cons_zero, List.getElem?_cons_succ, Option.some.injEq] at ho
       subst ho
       have hMB := hM0.below HLD hi (by decide) hl
       have hMG := hM0.get HLD hi (by decide) hl
       have v8 : vs 8 = .bool false := (k8 _ _).1 (hMG 8 (by decide) (hpre ⟨8, .data⟩ (by simp) rfl))
       have hdp : ∀ e ∈ dep 9, l.getD e false = true := by rw [d9]; exact (dep_cons (hpre ⟨8, .data⟩ (by simp) rfl) dep_nil)
       have e := k9
       clear k0 k1 k2 k3 k4 k5 k6 k7 k8 k9 k10 k11 k12 k13 k14 k15 k16 k17 k18 k19 k20 k21 k22 k23 k24 k25 k26 d0 d1 d2 d3 d4 d5 d6 d7 d8 d9 d10 d11 d12 d13 d14 d15 d16 d17 d18 d19 d20 d21 d22 d23 d24 d25 d26 hst st0 st1 st2 st3 st4 st5 st6 st7 st8 st9 st10 st11 st12 st13 st14 st15 st16 st17 st18 st19 st20 st21 st22 st23 st24 st25 st26
       rw [v8]
       go_simp
       exact hK.out _ _ ⟨updV vs 9 (.bool false), (by simp [updV, v8]), hM0.still HLD HST 9 (by decide) (by decide) hl _ hdp ((e _ _).2 rfl)⟩
      ·
       simp only [List.getElem?_toArray, List.getElem?_cons_zero, List.getElem?_cons_succ, Option.some.injEq] at ho
       subst ho
       have hMB := hM0.below HLD hi (by decide) hl
       have hMG := hM0.get HLD hi (by decide) hl
       have v9 : vs 9 = .bool false := (k9 _ _).1 (hMG 9 (by decide) (hpre ⟨9, .guard⟩ (by simp) rfl))
       have hdp : ∀ e ∈ dep 10, l.getD e false = true := by rw [d10]; exact (dep_cons (hpre ⟨9, .guard⟩ (by simp) rfl) dep_nil)
       have e := k10
       clear k0 k1 k2 k3 k4 k5 k6 k7 k8 k9 k10 k11 k12 k13 k14 k15 k16 k17 k18 k19 k20 k21 k22 k23 k24 k25 k26 d0 d1 d2 d3 d4 d5 d6 d7 d8 d9 d10 d11 d12 d13 d14 d15 d16 d17 d18 d19 d20 d21 d22 d23 d24 d25 d26 hst st0 st1 st2 st3 st4 st5 st6 st7 st8 st9 st10 st11 st12 st13 st14 st15 st16 st17 st18 st19 st20 st21 st22 st23 st24 st25 st26
       have x0 := keepW hMB z0
       have x1 := keepW hMB z1
       have x2 := keepW hMB z2
       have x3 := keepW hMB z3
       have x4 := keepW hMB z4
       rw [v9]
       go_simp
       exact hK.out _ _ ⟨updV vs 10 (.agg #[.slice Ac t.cols.length kc, .int .i64 t.head, .int .i64 t.foot, .slice Ar t.rows.length kr, .int .i64 t.gap]), (by simp [updV, v9]), hM0.still HLD HST 10 (by decide) (by decide) hl _ hdp ((e _ _).2 rfl)⟩
      ·
       simp only [List.getElem?_toArray, List.getElem?_cons_zero, List.getElem?_cons_succ, Option.some.injEq] at ho
       subst ho
       have hMB := hM0.below HLD hi (by decide) hl
       have hMG := hM0.get HLD hi (by decide) hl
       have v9 : vs 9 = .bool false := (k9 _ _).1 (hMG 9 (by decide) (hpre ⟨9, .guard⟩ (by simp) rfl))
       have hdp : ∀ e ∈ dep 11, l.getD e false = true := by rw [d11]; exact (dep_cons (hpre ⟨9, .guard⟩ (by simp) rfl) dep_nil)
       have e := k11
       clear k0 k1 k2 k3 k4 k5 k6 k7 k8 k9 k10 k11 k12 k13 k14 k15 k16 k17 k18 k19 k20 k21 k22 k23 k24 k25 k26 d0 d1 d2 d3 d4 d5 d6 d7 d8 d9 d10 d11 d12 d13 d14 d15 d16 d17 d18 d19 d20 d21 d22 d23 d24 d25 d26 hst st0 st1 st2 st3 st4 st5 st6 st7 st8 st9 st10 st11 st12 st13 st14 st15 st16 st17 st18 st19 st20 st21 st22 st23 st24 st25 st26
       rw [v9]
       go_simp
       exact hK.out _ _ ⟨updV vs 11 (.int .i64 ↑jx), (by simp [updV, v9]), hM0.still HLD HST 11 (by decide) (by decide) hl _ hdp ((e _ _).2 rfl)⟩
      ·
       simp only [List.getElem?_toArray, List.getElem?_cons_zero, List.getElem?_cons_succ, Option.some.injEq] at ho
       subst ho
       have hMB := hM0.below HLD hi (by decide) hl
       have hMG := hM0.get HLD hi (by decide) hl
       have v10 : vs 10 = .agg #[.slice Ac t.cols.length kc, .int .i64 t.head, .int .i64 t.foot, .slice Ar t.rows.length kr, .int .i64 t.gap] := (k10 _ _).1 (hMG 10 (by decide) (hpre ⟨10, .data⟩ (by simp) rfl))
       have v11 : vs 11 = .int .i64 ↑jx := (k11 _ _).1 (hMG 11 (by decide) (hpre ⟨11, .data⟩ (by simp) rfl))
       have v9 : vs 9 = .bool false := (k9 _ _).1 (hMG 9 (by decide) (hpre ⟨9, .chain⟩ (by simp) rfl))
       have hdp : ∀ e ∈ dep 12, l.getD e false = true := by rw [d12]; exact (dep_cons (hpre ⟨10, .data⟩ (by simp) rfl) (dep_cons (hpre ⟨11, .data⟩ (by simp) rfl) (dep_cons (hpre ⟨9, .chain⟩ (by simp) rfl) dep_nil)))
       have e := k12
       clear k0 k1 k2 k3 k4 k5 k6 k7 k8 k9 k10 k11 k12 k13 k14 k15 k16 k17 k18 k19 k20 k21 k22 k23 k24 k25 k26 d0 d1 d2 d3 d4 d5 d6 d7 d8 d9 d10 d11 d12 d13 d14 d15 d16 d17 d18 d19 d20 d21 d22 d23 d24 d25 d26 hst st0 st1 st2 st3 st4 st5 st6 st7 st8 st9 st10 st11 st12 st13 st14 st15 st16 st17 st18 st19 st20 st21 st22 st23 st24 st25 st26
       rw [v10, v11, v9]
       go_simp
       refine (HSE.out _ hMB).mono ?_
       rintro e5 W5 ⟨rfl, hb5⟩
       exact hK.out _ _ ⟨updV vs 12 (.agg #[.int .i64 sd.k, .int .i64 sd.n]), (by simp [updV, v10, v11, v9]), hM0.next HLD HST 12 (by decide) (by decide) hl _ hdp hb5 ((e _ _).2 rfl)⟩
      ·
       simp only [List.getElem?_toArray, List.getElem?_cons_zero, List.getElem?_cons_succ, Option.some.injEq] at ho
       subst ho
       have hMB := hM0.below HLD hi (by decide) hl
       have hMG := hM0.get HLD hi (by decide) hl
       have v12 : vs 12 = .agg #[.int .i64 sd.k, .int .i64 sd.n] := (k12 _ _).1 (hMG 12 (by decide) (hpre ⟨12, .data⟩ (by simp) rfl))
       have v9 : vs 9 = .bool false := (k9 _ _).1 (hMG 9 (by decide) (hpre ⟨9, .guard⟩ (by simp) rfl))
       have hdp : ∀ e ∈ dep 13, l.getD e false = true := by rw [d13]; exact (dep_cons (hpre ⟨12, .data⟩ (by simp) rfl) (dep_cons (hpre ⟨9, .guard⟩ (by simp) rfl) dep_nil))
       have e := k13
       clear k0 k1 k2 k3 k4 k5 k6 k7 k8 k9 k10 k11 k12 k13 k14 k15 k16 k17 k18 k19 k20 k21 k22 k23 k24 k25 k26 d0 d1 d2 d3 d4 d5 d6 d7 d8 d9 d10 d11 d12 d13 d14 d15 d16 d17 d18 d19 d20 d21 d22 d23 d24 d25 d26 hst st0 st1 st2 st3 st4 st5 st6 st7 st8 st9 st10 st11 st12 st13 st14 st15 st16 st17 st18 st19 st20 st21 st22 st23 st24 st25 st26
       have hfc9 := fieldC
       rw [v12, v9]
       go_simp
       exact hK.out _ _ ⟨updV vs 13 (.int .i64 sd.k), (by simp [updV, v12, v9]), hM0.still HLD HST 13 (by decide) (by decide) hl _ hdp ((e _ _).2 rfl)⟩
      ·
       simp only [List.getElem?_toArray, List.getElem?_cons_zero, List.getElem?_cons_succ, Option.some.injEq] at ho
       subst ho
       have hMB := hM0.below HLD hi (by decide) hl
       have hMG := hM0.get HLD hi (by decide) hl
       have v13 : vs 13 = .int .i64 sd.k := (k13 _ _).1 (hMG 13 (by decide) (hpre ⟨13, .data⟩ (by simp) rfl))
       have v9 : vs 9 = .bool false := (k9 _ _).1 (hMG 9 (by decide) (hpre ⟨9, .guard⟩ (by simp) rfl))
       have hdp : ∀ e ∈ dep 14, l.getD e false = true := by rw [d14]; exact (dep_cons (hpre ⟨13, .data⟩ (by simp) rfl) (dep_cons (hpre ⟨9, .guard⟩ (by simp) rfl) dep_nil))
       have e := k14
       clear k0 k1 k2 k3 k4 k5 k6 k7 k8 k9 k10 k11 k12 k13 k14 k15 k16 k17 k18 k19 k20 k21 k22 k23 k24 k25 k26 d0 d1 d2 d3 d4 d5 d6 d7 d8 d9 d10 d11 d12 d13 d14 d15 d16 d17 d18 d19 d20 d21 d22 d23 d24 d25 d26 hst st0 st1 st2 st3 st4 st5 st6 st7 st8 st9 st10 st11 st12 st13 st14 st15 st16 st17 st18 st19 st20 st21 st22 st23 st24 st25 st26
       rw [v13, v9]
       go_simp
       exact hK.out _ _ ⟨updV vs 14 (.bool true), (by simp [updV, v13, v9]), hM0.still HLD HST 14 (by decide) (by decide) hl _ hdp ((e _ _).2 rfl)⟩
      ·
       simp only [List.getElem?_toArray, List.getElem?_cons_zero, List.getElem?_cons_succ, Option.some.injEq] at ho
       subst ho
       have hMB := hM0.below HLD hi (by decide) hl
       have hMG := hM0.get HLD hi (by decide) hl
       have v14 : vs 14 = .bool true := (k14 _ _).1 (hMG 14 (by decide) (hpre ⟨14, .data⟩ (by simp) rfl))
       have v12 : vs 12 = .agg #[.int .i64 sd.k, .int .i64 sd.n] := (k12 _ _).1 (hMG 12 (by decide) (hpre ⟨12, .chain⟩ (by simp) rfl))
       have v9 : vs 9 = .bool false := (k9 _ _).1 (hMG 9 (by decide) (hpre ⟨9, .guard⟩ (by simp) rfl))
       have hdp : ∀ e ∈ dep 15, l.getD e false = true := by rw [d15]; exact (dep_cons (hpre ⟨14, .data⟩ (by simp) rfl) (dep_cons (hpre ⟨12, .chain⟩ (by simp) rfl) (dep_cons (hpre ⟨9, .guard⟩ (by simp) rfl) dep_nil)))
       have e := k15
       clear k0 k1 k2 k3 k4 k5 k6 k7 k8 k9 k10 k11 k12 k13 k14 k15 k16 k17 k18 k19 k20 k21 k22 k23 k24 k25 k26 d0 d1 d2 d3 d4 d5 d6 d7 d8 d9 d10 d11 d12 d13 d14 d15 d16 d17 d18 d19 d20 d21 d22 d23 d24 d25 d26 hst st0 st1 st2 st3 st4 st5 st6 st7 st8 st9 st10 st11 st12 st13 st14 st15 st16 st17 st18 st19 st20 st21 st22 st23 st24 st25 st26
       rw [v14, v12, v9]
       go_simp
       exact hK.out _ _ ⟨updV vs 15 (.bool true), (by simp [updV, v14, v12, v9]), hM0.still HLD HST 15 (by decide) (by decide) hl _ hdp ((e _ _).2 rfl)⟩
      ·
       simp only [List.getElem?_toArray, List.getElem?_cons_zero, List.getElem?_cons_succ, Option.some.injEq] at ho
       subst ho
       have hMB := hM0.below HLD hi (by decide) hl
       have hMG := hM0.get HLD hi (by decide) hl
       have v15 : vs 15 = .bool true := (k15 _ _).1 (hMG 15 (by decide) (hpre ⟨15, .guard⟩ (by simp) rfl))
       have hdp : ∀ e ∈ dep 16, l.getD e false = true := by rw [d16]; exact (dep_cons (hpre ⟨15, .guard⟩ (by simp) rfl) dep_nil)
       have e := k16
       clear k0 k1 k2 k3 k4 k5 k6 k7 k8 k9 k10 k11 k12 k13 k14 k15 k16 k17 k18 k19 k20 k21 k22 k23 k24 k25 k26 d0 d1 d2 d3 d4 d5 d6 d7 d8 d9 d10 d11 d12 d13 d14 d15 d16 d17 d18 d19 d20 d21 d22 d23 d24 d25 d26 hst st0 st1 st2 st3 st4 st5 st6 st7 st8 st9 st10 st11 st12 st13 st14 st15 st16 st17 st18 st19 st20 st21 st22 st23 st24 st25 st26
       rw [v15]
       go_simp
       exact hK.out _ _ ⟨updV vs 16 (.slice (some ⟨b, o, none⟩) L.length cL), (by simp [updV, v15]), hM0.still HLD HST 16 (by decide) (by decide) hl _ hdp ((e _ _).2 rfl)⟩
      ·
       simp only [List.getElem?_toArray, List.getElem?_cons_zero, List.getElem?_cons_succ, Option.some.injEq] at ho
       subst ho
       have hMB := hM0.below HLD hi (by decide) hl
       have hMG := hM0.get HLD hi (by decide) hl
       have v15 : vs 15 = .bool true := (k15 _ _).1 (hMG 15 (by decide) (hpre ⟨15, .guard⟩ (by simp) rfl))
       have hdp : ∀ e ∈ dep 17, l.getD e false = true := by rw [d17]; exact (dep_cons (hpre ⟨15, .guard⟩ (by simp) rfl) dep_nil)
       have e := k17
       clear k0 k1 k2 k3 k4 k5 k6 k7 k8 k9 k10 k11 k12 k13 k14 k15 k16 k17 k18 k19 k20 k21 k22 k23 k24 k25 k26 d0 d1 d2 d3 d4 d5 d6 d7 d8 d9 d10 d11 d12 d13 d14 d15 d16 d17 d18 d19 d20 d21 d22 d23 d24 d25 d26 hst st0 st1 st2 st3 st4 st5 st6 st7 st8 st9 st10 st11 st12 st13 st14 st15 st16 st17 st18 st19 st20 st21 st22 st23 st24 st25 st26
       rw [v15]
       go_simp
       exact hK.out _ _ ⟨updV vs 17 (.int .i64 ↑jx), (by simp [updV, v15]), hM0.still HLD HST 17 (by decide) (by decide) hl _ hdp ((e _ _).2 rfl)⟩
      ·
       simp only [List.getElem?_toArray, List.getElem?_cons_zero, List.getElem?_cons_succ, Option.some.injEq] at ho
       subst ho
       have hMB := hM0.below HLD hi (by decide) hl
       have hMG := hM0.get HLD hi (by decide) hl
       have v16 : vs 16 = .slice (some ⟨b, o, none⟩) L.length cL := (k16 _ _).1 (hMG 16 (by decide) (hpre ⟨16, .data⟩ (by simp) rfl))
       have v17 : vs 17 = .int .i64 ↑jx := (k17 _ _).1 (hMG 17 (by decide) (hpre ⟨17, .data⟩ (by simp) rfl))
       have v15 : vs 15 = .bool true := (k15 _ _).1 (hMG 15 (by decide) (hpre ⟨15, .guard⟩ (by simp) rfl))
       have hdp : ∀ e ∈ dep 18, l.getD e false = true := by rw [d18]; exact (dep_cons (hpre ⟨16, .data⟩ (by simp) rfl) (dep_cons (hpre ⟨17, .data⟩ (by simp) rfl) (dep_cons (hpre ⟨15, .guard⟩ (by simp) rfl) dep_nil)))
       have e := k18
       clear k0 k1 k2 k3 k4 k5 k6 k7 k8 k9 k10 k11 k12 k13 k14 k15 k16 k17 k18 k19 k20 k21 k22 k23 k24 k25 k26 d0 d1 d2 d3 d4 d5 d6 d7 d8 d9 d10 d11 d12 d13 d14 d15 d16 d17 d18 d19 d20 d21 d22 d23 d24 d25 d26 hst st0 st1 st2 st3 st4 st5 st6 st7 st8 st9 st10 st11 st12 st13 st14 st15 st16 st17 st18 st19 st20 st21 st22 st23 st24 st25 st26
       rw [v16, v17, v15]
       go_simp
       exact hK.out _ _ ⟨updV vs 18 (.pointer (some ⟨b, o + jx, none⟩)), (by simp [updV, v16, v17, v15]), hM0.still HLD HST 18 (by decide) (by decide) hl _ hdp ((e _ _).2 rfl)⟩
      ·
       simp only [List.getElem?_toArray, List.getElem?_cons_zero, List.getElem?_cons_succ, Option.some.injEq] at ho
       subst ho
       have hMB := hM0.below HLD hi (by decide) hl
       have hMG := hM0.get HLD hi (by decide) hl
       have v18 : vs 18 = .pointer (some ⟨b, o + jx, none⟩) := (k18 _ _).1 (hMG 18 (by decide) (hpre ⟨18, .data⟩ (by simp) rfl))
       have v15 : vs 15 = .bool true := (k15 _ _).1 (hMG 15 (by decide) (hpre ⟨15, .guard⟩ (by simp) rfl))
       have hdp : ∀ e ∈ dep 19, l.getD e false = true := by rw [d19]; exact (dep_cons (hpre ⟨18, .data⟩ (by simp) rfl) (dep_cons (hpre ⟨15, .guard⟩ (by simp) rfl) dep_nil))
       have e := k19
       clear k0 k1 k2 k3 k4 k5 k6 k7 k8 k9 k10 k11 k12 k13 k14 k15 k16 k17 k18 k19 k20 k21 k22 k23 k24 k25 k26 d0 d1 d2 d3 d4 d5 d6 d7 d8 d9 d10 d11 d12 d13 d14 d15 d16 d17 d18 d19 d20 d21 d22 d23 d24 d25 d26 hst st0 st1 st2 st3 st4 st5 st6 st7 st8 st9 st10 st11 st12 st13 st14 st15 st16 st17 st18 st19 st20 st21 st22 st23 st24 st25 st26
       have x0 := keepW hMB qc1
       rw [v18, v15]
       go_simp
       exact hK.out _ _ ⟨updV vs 19 (.int .i64 y), (by simp [updV, v18, v15]), hM0.still HLD HST 19 (by decide) (by decide) hl _ hdp ((e _ _).2 rfl)⟩
      ·
       simp only [List.getElem?_toArray, List.getElem?_cons_zero, List.getElem?_cons_succ, Option.some.injEq] at ho
       subst ho
       have hMB := hM0.below HLD hi (by decide) hl
       have hMG := hM0.get HLD hi (by decide) hl
       have v15 : vs 15 = .bool true := (k15 _ _).1 (hMG 15 (by decide) (hpre ⟨15, .guard⟩ (by simp) rfl))
       have hdp : ∀ e ∈ dep 20, l.getD e false = true := by rw [d20]; exact (dep_cons (hpre ⟨15, .guard⟩ (by simp) rfl) dep_nil)
       have e := k20
       clear k0 k1 k2 k3 k4 k5 k6 k7 k8 k9 k10 k11 k12 k13 k14 k15 k16 k17 k18 k19 k20 k21 k22 k23 k24 k25 k26 d0 d1 d2 d3 d4 d5 d6 d7 d8 d9 d10 d11 d12 d13 d14 d15 d16 d17 d18 d19 d20 d21 d22 d23 d24 d25 d26 hst st0 st1 st2 st3 st4 st5 st6 st7 st8 st9 st10 st11 st12 st13 st14 st15 st16 st17 st18 st19 st20 st21 st22 st23 st24 st25 st26
       rw [v15]
       go_simp
       exact hK.out _ _ ⟨updV vs 20 (.slice (some ⟨b2, o2, none⟩) X.length cX), (by simp [updV, v15]), hM0.still HLD HST 20 (by decide) (by decide) hl _ hdp ((e _ _).2 rfl)⟩
      ·
       simp only [List.getElem?_toArray, List.getElem?_cons_zero, List.getElem?_cons_succ, Option.some.injEq] at ho
       subst ho
       have hMB := hM0.below HLD hi (by decide) hl
       have hMG := hM0.get HLD hi (by decide) hl
       have v15 : vs 15 = .bool true := (k15 _ _).1 (hMG 15 (by decide) (hpre ⟨15, .guard⟩ (by simp) rfl))
       have hdp : ∀ e ∈ dep 21, l.getD e false = true := by rw [d21]; exact (dep_cons (hpre ⟨15, .guard⟩ (by simp) rfl) dep_nil)
       have e := k21
       clear k0 k1 k2 k3 k4 k5 k6 k7 k8 k9 k10 k11 k12 k13 k14 k15 k16 k17 k18 k19 k20 k21 k22 k23 k24 k25 k26 d0 d1 d2 d3 d4 d5 d6 d7 d8 d9 d10 d11 d12 d13 d14 d15 d16 d17 d18 d19 d20 d21 d22 d23 d24 d25 d26 hst st0 st1 st2 st3 st4 st5 st6 st7 st8 st9 st10 st11 st12 st13 st14 st15 st16 st17 st18 st19 st20 st21 st22 st23 st24 st25 st26
       rw [v15]
       go_simp
       exact hK.out _ _ ⟨updV vs 21 (.int .i64 ↑jx), (by simp [updV, v15]), hM0.still HLD HST 21 (by decide) (by decide) hl _ hdp ((e _ _).2 rfl)⟩
      ·
       simp only [List.getElem?_toArray, List.getElem?_cons_zero, List.getElem?_cons_succ, Option.some.injEq] at ho
       subst ho
       have hMB := hM0.below HLD hi (by decide) hl
       have hMG := hM0.get HLD hi (by decide) hl
       have v20 : vs 20 = .slice (some ⟨b2, o2, none⟩) X.length cX := (k20 _ _).1 (hMG 20 (by decide) (hpre ⟨20, .data⟩ (by simp) rfl))
       have v21 : vs 21 = .int .i64 ↑jx := (k21 _ _).1 (hMG 21 (by decide) (hpre ⟨21, .data⟩ (by simp) rfl))
       have v15 : vs 15 = .bool true := (k15 _ _).1 (hMG 15 (by decide) (hpre ⟨15, .guard⟩ (by simp) rfl))
       have hdp : ∀ e ∈ dep 22, l.getD e false = true := by rw [d22]; exact (dep_cons (hpre ⟨20, .data⟩ (by simp) rfl) (dep_cons (hpre ⟨21, .data⟩ (by simp) rfl) (dep_cons (hpre ⟨15, .guard⟩ (by simp) rfl) dep_nil)))
       have e := k22
       clear k0 k1 k2 k3 k4 k5 k6 k7 k8 k9 k10 k11 k12 k13 k14 k15 k16 k17 k18 k19 k20 k21 k22 k23 k24 k25 k26 d0 d1 d2 d3 d4 d5 d6 d7 d8 d9 d10 d11 d12 d13 d14 d15 d16 d17 d18 d19 d20 d21 d22 d23 d24 d25 d26 hst st0 st1 st2 st3 st4 st5 st6 st7 st8 st9 st10 st11 st12 st13 st14 st15 st16 st17 st18 st19 st20 st21 st22 st23 st24 st25 st26
       rw [v20, v21, v15]
       go_simp
       exact hK.out _ _ ⟨updV vs 22 (.pointer (some ⟨b2, o2 + jx, none⟩)), (by simp [updV, v20, v21, v15]), hM0.still HLD HST 22 (by decide) (by decide) hl _ hdp ((e _ _).2 rfl)⟩
      ·
       simp only [List.getElem?_toArray, List.getElem?_cons_zero, List.getElem?_cons_succ, Option.some.injEq] at ho
       subst ho
       have hMB := hM0.below HLD hi (by decide) hl
       have hMG := hM0.get HLD hi (by decide) hl
       have v22 : vs 22 = .pointer (some ⟨b2, o2 + jx, none⟩) := (k22 _ _).1 (hMG 22 (by decide) (hpre ⟨22, .data⟩ (by simp) rfl))
       have v15 : vs 15 = .bool true := (k15 _ _).1 (hMG 15 (by decide) (hpre ⟨15, .guard⟩ (by simp) rfl))
       have hdp : ∀ e ∈ dep 23, l.getD e false = true := by rw [d23]; exact (dep_cons (hpre ⟨22, .data⟩ (by simp) rfl) (dep_cons (hpre ⟨15, .guard⟩ (by simp) rfl) dep_nil))
       have e := k23
       clear k0 k1 k2 k3 k4 k5 k6 k7 k8 k9 k10 k11 k12 k13 k14 k15 k16 k17 k18 k19 k20 k21 k22 k23 k24 k25 k26 d0 d1 d2 d3 d4 d5 d6 d7 d8 d9 d10 d11 d12 d13 d14 d15 d16 d17 d18 d19 d20 d21 d22 d23 d24 d25 d26 hst st0 st1 st2 st3 st4 st5 st6 st7 st8 st9 st10 st11 st12 st13 st14 st15 st16 st17 st18 st19 st20 st21 st22 st23 st24 st25 st26
       have x0 := keepW hMB qc2
       rw [v22, v15]
       go_simp
       exact hK.out _ _ ⟨updV vs 23 (.int .i64 y), (by simp [updV, v22, v15]), hM0.still HLD HST 23 (by decide) (by decide) hl _ hdp ((e _ _).2 rfl)⟩
      ·
       simp only [List.getElem?_toArray, List.getElem?_cons_zero, List.getElem?_cons_succ, Option.some.injEq] at ho
       subst ho
       have hMB := hM0.below HLD hi (by decide) hl
       have hMG := hM0.get HLD hi (by decide) hl
       have v19 : vs 19 = .int .i64 y := (k19 _ _).1 (hMG 19 (by decide) (hpre ⟨19, .data⟩ (by simp) rfl))
       have v23 : vs 23 = .int .i64 y := (k23 _ _).1 (hMG 23 (by decide) (hpre ⟨23, .data⟩ (by simp) rfl))
       have v15 : vs 15 = .bool true := (k15 _ _).1 (hMG 15 (by decide) (hpre ⟨15, .guard⟩ (by simp) rfl))
       have hdp : ∀ e ∈ dep 24, l.getD e false = true := by rw [d24]; exact (dep_cons (hpre ⟨19, .data⟩ (by simp) rfl) (dep_cons (hpre ⟨23, .data⟩ (by simp) rfl) (dep_cons (hpre ⟨15, .guard⟩ (by simp) rfl) dep_nil)))
       have e := k24
       clear k0 k1 k2 k3 k4 k5 k6 k7 k8 k9 k10 k11 k12 k13 k14 k15 k16 k17 k18 k19 k20 k21 k22 k23 k24 k25 k26 d0 d1 d2 d3 d4 d5 d6 d7 d8 d9 d10 d11 d12 d13 d14 d15 d16 d17 d18 d19 d20 d21 d22 d23 d24 d25 d26 hst st0 st1 st2 st3 st4 st5 st6 st7 st8 st9 st10 st11 st12 st13 st14 st15 st16 st17 st18 st19 st20 st21 st22 st23 st24 st25 st26
       rw [v19, v23, v15]
       go_simp
       exact hK.out _ _ ⟨updV vs 24 (.bool false), (by simp [updV, v19, v23, v15]), hM0.still HLD HST 24 (by decide) (by decide) hl _ hdp ((e _ _).2 rfl)⟩
      ·
       simp only [List.getElem?_toArray, List.getElem?_cons_zero, List.getElem?_cons_succ, Option.some.injEq] at ho
       subst ho
       have hMB := hM0.below HLD hi (by decide) hl
       have hMG := hM0.get HLD hi (by decide) hl
       have v15 : vs 15 = .bool true := (k15 _ _).1 (hMG 15 (by decide) (hpre ⟨15, .data⟩ (by simp) rfl))
       have v24 : vs 24 = .bool false := (k24 _ _).1 (hMG 24 (by decide) (hpre ⟨24, .data⟩ (by simp) rfl))
       have v9 : vs 9 = .bool false := (k9 _ _).1 (hMG 9 (by decide) (hpre ⟨9, .guard⟩ (by simp) rfl))
       have hdp : ∀ e ∈ dep 25, l.getD e false = true := by rw [d25]; exact (dep_cons (hpre ⟨15, .data⟩ (by simp) rfl) (dep_cons (hpre ⟨24, .data⟩ (by simp) rfl) (dep_cons (hpre ⟨9, .guard⟩ (by simp) rfl) dep_nil)))
       have e := k25
       clear k0 k1 k2 k3 k4 k5 k6 k7 k8 k9 k10 k11 k12 k13 k14 k15 k16 k17 k18 k19 k20 k21 k22 k23 k24 k25 k26 d0 d1 d2 d3 d4 d5 d6 d7 d8 d9 d10 d11 d12 d13 d14 d15 d16 d17 d18 d19 d20 d21 d22 d23 d24 d25 d26 hst st0 st1 st2 st3 st4 st5 st6 st7 st8 st9 st10 st11 st12 st13 st14 st15 st16 st17 st18 st19 st20 st21 st22 st23 st24 st25 st26
       rw [v15, v24, v9]
       go_simp
       exact hK.out _ _ ⟨updV vs 25 (.bool false), (by simp [updV, v15, v24, v9]), hM0.still HLD HST 25 (by decide) (by decide) hl _ hdp ((e _ _).2 rfl)⟩
      ·
       simp only [List.getElem?_toArray, List.getElem?_cons_zero, List.getElem?_cons_succ, Option.some.injEq] at ho
       subst ho
       have hMB := hM0.below HLD hi (by decide) hl
       have hMG := hM0.get HLD hi (by decide) hl
       have v9 : vs 9 = .bool false := (k9 _ _).1 (hMG 9 (by decide) (hpre ⟨9, .data⟩ (by simp) rfl))
       have v25 : vs 25 = .bool false := (k25 _ _).1 (hMG 25 (by decide) (hpre ⟨25, .data⟩ (by simp) rfl))
       have hdp : ∀ e ∈ dep 26, l.getD e false = true := by rw [d26]; exact (dep_cons (hpre ⟨9, .data⟩ (by simp) rfl) (dep_cons (hpre ⟨25, .data⟩ (by simp) rfl) dep_nil))
       have e := k26
       clear k0 k1 k2 k3 k4 k5 k6 k7 k8 k9 k10 k11 k12 k13 k14 k15 k16 k17 k18 k19 k20 k21 k22 k23 k24 k25 k26 d0 d1 d2 d3 d4 d5 d6 d7 d8 d9 d10 d11 d12 d13 d14 d15 d16 d17 d18 d19 d20 d21 d22 d23 d24 d25 d26 hst st0 st1 st2 st3 st4 st5 st6 st7 st8 st9 st10 st11 st12 st13 st14 st15 st16 st17 st18 st19 st20 st21 st22 st23 st24 st25 st26
       rw [v9, v25]
       go_simp
       exact hK.out _ _ ⟨updV vs 26 (.bool false), (by simp [updV, v9, v25]), hM0.still HLD HST 26 (by decide) (by decide) hl _ hdp ((e _ _).2 rfl)⟩
     case fin =>
      rintro l a W12 hall ⟨vs12, rfl, hM0⟩
      obtain ⟨hMB, hMG⟩ := hM0.fin0 (by decide) hall
      have HBW := hide hMB
      have v26 : vs12 26 = .bool false := (k26 _ _).1 (hMG 26 (by decide))
      rw [v26]
      clear k0 k1 k2 k3 k4 k5 k6 k7 k8 k9 k10 k11 k12 k13 k14 k15 k16 k17 k18 k19 k20 k21 k22 k23 k24 k25 k26 d0 d1 d2 d3 d4 d5 d6 d7 d8 d9 d10 d11 d12 d13 d14 d15 d16 d17 d18 d19 d20 d21 d22 d23 d24 d25 d26 hst st0 st1 st2 st3 st4 st5 st6 st7 st8 st9 st10 st11 st12 st13 st14 st15 st16 st17 st18 st19 st20 st21 st22 st23 st24 st25 st26 HLD HST hMG v26 hMB hall hM0 st
      go_wp2_with fail
      go_roundg (L.length - (jx + 1))
      case measure => omega
      case rel => exact ⟨jx + 1, by omega, by omega, by go_num, (show Aside _ from step HBD.out HBW.out)⟩
    ·
     have h1z : (sd.k == 1) = false := by simp [h1]
     clear hge h1
     go_upto_region 12 with fail
     have ed := bdrew (brefl wr)
     have z0 := keepW ed y0
     have z1 := keepW ed y1
     have z2 := keepW ed y2
     have z3 := keepW ed y3
     have z4 := keepW ed y4
     have qc1 := keepW ed hc1
     have qc2 := keepW ed hc2
     have HSE := hide (fun (W : World) (h : Below wr.drew.heap.size wr.drew W) => HSD.out W (step HBD.out h))
     clear ed y0 y1 y2 y3 y4 hc1 hc2
     obtain ⟨KF, hKF⟩ : ∃ f : Nat → Value → World → Prop, f = (fun j v W => match j with | 0 => v = .slice (some ⟨b, o, none⟩) L.length cL | 1 => v = .int .i64 ↑jx | 2 => v = .pointer (some ⟨b, o + jx, none⟩) | 3 => v = .int .i64 y | 4 => v = .slice (some ⟨b2, o2, none⟩) X.length cX | 5 => v = .int .i64 ↑jx | 6 => v = .pointer (some ⟨b2, o2 + jx, none⟩) | 7 => v = .int .i64 x | 8 => v = .bool false | 9 => v = .bool false | 10 => v = .agg #[.slice Ac t.cols.length kc, .int .i64 t.head, .int .i64 t.foot, .slice Ar t.rows.length kr, .int .i64 t.gap] | 11 => v = .int .i64 ↑jx | 12 => v = .agg #[.int .i64 sd.k, .int .i64 sd.n] | 13 => v = .int .i64 sd.k | 14 => v = .bool false | 15 => v = .bool false | 16 => v = undef | 17 => v = undef | 18 => v = undef | 19 => v = undef | 20 => v = undef | 21 => v = undef | 22 => v = undef | 23 => v = undef | 24 => v = undef | 25 => v = .bool false | 26 => v = .bool false | _ => True) := ⟨_, rfl⟩
     have k0 : ∀ v W, KF 0 v W ↔ (v = .slice (some ⟨b, o, none⟩) L.length cL) := fun v W => by rw [hKF]; first | done | exact Iff.rfl
     have k1 : ∀ v W, KF 1 v W ↔ (v = .int .i64 ↑jx) := fun v W => by rw [hKF]; first | done | exact Iff.rfl
     have k2 : ∀ v W, KF 2 v W ↔ (v = .pointer (some ⟨b, o + jx, none⟩)) := fun v W => by rw [hKF]; first | done | exact Iff.rfl
     have k3 : ∀ v W, KF 3 v W ↔ (v = .int .i64 y) := fun v W => by rw [hKF]; first | done | exact Iff.rfl
     have k4 : ∀ v W, KF 4 v W ↔ (v = .slice (some ⟨b2, o2, none⟩) X.length cX) := fun v W => by rw [hKF]; first | done | exact Iff.rfl
     have k5 : ∀ v W, KF 5 v W ↔ (v = .int .i64 ↑jx) := fun v W => by rw [hKF]; first | done | exact Iff.rfl
     have k6 : ∀ v W, KF 6 v W ↔ (v = .pointer (some ⟨b2, o2 + jx, none⟩)) := fun v W => by rw [hKF]; first | done | exact Iff.rfl
     have k7 : ∀ v W, KF 7 v W ↔ (v = .int .i64 x) := fun v W => by rw [hKF]; first | done | exact Iff.rfl
     have k8 : ∀ v W, KF 8 v W ↔ (v = .bool false) := fun v W => by rw [hKF]; first | done | exact Iff.rfl
     have k9 : ∀ v W, KF 9 v W ↔ (v = .bool false) := fun v W => by rw [hKF]; first | done | exact Iff.rfl
     have k10 : ∀ v W, KF 10 v W ↔ (v = .agg #[.slice Ac t.cols.length kc, .int .i64 t.head, .int .i64 t.foot, .slice Ar t.rows.length kr, .int .i64 t.gap]) := fun v W => by rw [hKF]; first | done | exact Iff.rfl
     have k11 : ∀ v W, KF 11 v W ↔ (v = .int .i64 ↑jx) := fun v W => by rw [hKF]; first | done | exact Iff.rfl
     have k12 : ∀ v W, KF 12 v W ↔ (v = .agg #[.int .i64 sd.k, .int .i64 sd.n]) := fun v W => by rw [hKF]; first | done | exact Iff.rfl
     have k13 : ∀ v W, KF 13 v W ↔ (v = .int .i64 sd.k) := fun v W => by rw [hKF]; first | done | exact Iff.rfl
     have k14 : ∀ v W, KF 14 v W ↔ (v = .bool false) := fun v W => by rw [hKF]; first | done | exact Iff.rfl
     have k15 : ∀ v W, KF 15 v W ↔ (v = .bool false) := fun v W => by rw [hKF]; first | done | exact Iff.rfl
     have k16 : ∀ v W, KF 16 v W ↔ (v = undef) := fun v W => by rw [hKF]; first | done | exact Iff.rfl
     have k17 : ∀ v W, KF 17 v W ↔ (v = undef) := fun v W => by rw [hKF]; first | done | exact Iff.rfl
     have k18 : ∀ v W, KF 18 v W ↔ (v = undef) := fun v W => by rw [hKF]; first | done | exact Iff.rfl
     have k19 : ∀ v W, KF 19 v W ↔ (v = undef) := fun v W => by rw [hKF]; first | done | exact Iff.rfl
     have k20 : ∀ v W, KF 20 v W ↔ (v = undef) := fun v W => by rw [hKF]; first | done | exact Iff.rfl
     have k21 : ∀ v W, KF 21 v W ↔ (v = undef) := fun v W => by rw [hKF]; first | done | exact Iff.rfl
     have k22 : ∀ v W, KF 22 v W ↔ (v = undef) := fun v W => by rw [hKF]; first | done | exact Iff.rfl
     have k23 : ∀ v W, KF 23 v W ↔ (v = undef) := fun v W => by rw [hKF]; first | done | exact Iff.rfl
     have k24 : ∀ v W, KF 24 v W ↔ (v = undef) := fun v W => by rw [hKF]; first | done | exact Iff.rfl
     have k25 : ∀ v W, KF 25 v W ↔ (v = .bool false) := fun v W => by rw [hKF]; first | done | exact Iff.rfl
     have k26 : ∀ v W, KF 26 v W ↔ (v = .bool false) := fun v W => by rw [hKF]; first | done | exact Iff.rfl
     have HST : StableP KF := by
      rw [hKF]
      intro j v W W9 h hb
      by_cases hjn : j < 27
      ·
       obtain rfl | rfl | rfl | rfl | rfl | rfl | rfl | rfl | rfl | rfl | rfl | rfl | rfl | rfl | rfl | rfl | rfl | rfl | rfl | rfl | rfl | rfl | rfl | rfl | rfl | rfl | rfl : j = 0 ∨ j = 1 ∨ j = 2 ∨ j = 3 ∨ j = 4 ∨ j = 5 ∨ j = 6 ∨ j = 7 ∨ j = 8 ∨ j = 9 ∨ j = 10 ∨ j = 11 ∨ j = 12 ∨ j = 13 ∨ j = 14 ∨ j = 15 ∨ j = 16 ∨ j = 17 ∨ j = 18 ∨ j = 19 ∨ j = 20 ∨ j = 21 ∨ j = 22 ∨ j = 23 ∨ j = 24 ∨ j = 25 ∨ j = 26 := by omega
       ·
        exact h
       ·
        exact h
       ·
        exact h
       ·
        exact h
       ·
        exact h
       ·
        exact h
       ·
        exact h
       ·
        exact h
       ·
        exact h
       ·
        exact h
       ·
        exact h
       ·
        exact h
       ·
        exact h
       ·
        exact h
       ·
        exact h
       ·
        exact h
       ·
        exact h
       ·
        exact h
       ·
        exact h
       ·
        exact h
       ·
        exact h
       ·
        exact h
       ·
        exact h
       ·
        exact h
       ·
        exact h
       ·
        exact h
       ·
        exact h
      ·
       match j, h with
       | 0, h => exact absurd (by decide) hjn
       | 1, h => exact absurd (by decide) hjn
       | 2, h => exact absurd (by decide) hjn
       | 3, h => exact absurd (by decide) hjn
       | 4, h => exact absurd (by decide) hjn
       | 5, h => exact absurd (by decide) hjn
       | 6, h => exact absurd (by decide) hjn
       | 7, h => exact absurd (by decide) hjn
       | 8, h => exact absurd (by decide) hjn
       | 9, h => exact absurd (by decide) hjn
       | 10, h => exact absurd (by decide) hjn
       | 11, h => exact absurd (by decide) hjn
       | 12, h => exact absurd (by decide) hjn
       | 13, h => exact absurd (by decide) hjn
       | 14, h => exact absurd (by decide) hjn
       | 15, h => exact absurd (by decide) hjn
       | 16, h => exact absurd (by decide) hjn
       | 17, h => exact absurd (by decide) hjn
       | 18, h => exact absurd (by decide) hjn
       | 19, h => exact absurd (by decide) hjn
       | 20, h => exact absurd (by decide) hjn
       | 21, h => exact absurd (by decide) hjn
       | 22, h => exact absurd (by decide) hjn
       | 23, h => exact absurd (by decide) hjn
       | 24, h => exact absurd (by decide) hjn
       | 25, h => exact absurd (by decide) hjn
       | 26, h => exact absurd (by decide) hjn
       | _ + 27, h => exact h
     clear hKF
     obtain ⟨dep, hdep⟩ : ∃ f : Nat → List Nat, f = (fun j => match j with | 2 => [0, 1] | 3 => [2] | 6 => [4, 5] | 7 => [6] | 8 => [3, 7] | 9 => [8] | 10 => [9] | 11 => [9] | 12 => [10, 11, 9] | 13 => [12, 9] | 14 => [13, 9] | 15 => [14, 12, 9] | 16 => [15] | 17 => [15] | 18 => [16, 17, 15] | 19 => [18, 15] | 20 => [15] | 21 => [15] | 22 => [20, 21, 15] | 23 => [22, 15] | 24 => [19, 23, 15] | 25 => [15, 24, 9] | 26 => [9, 25] | _ => []) := ⟨_, rfl⟩
     have d0 : dep 0 = [] := congrFun hdep 0
     have d1 : dep 1 = [] := congrFun hdep 1
     have d2 : dep 2 = [0, 1] := congrFun hdep 2
     have d3 : dep 3 = [2] := congrFun hdep 3
     have d4 : dep 4 = [] := congrFun hdep 4
     have d5 : dep 5 = [] := congrFun hdep 5
     have d6 : dep 6 = [4, 5] := congrFun hdep 6
     have d7 : dep 7 = [6] := congrFun hdep 7
     have d8 : dep 8 = [3, 7] := congrFun hdep 8
     have d9 : dep 9 = [8] := congrFun hdep 9
     have d10 : dep 10 = [9] := congrFun hdep 10
     have d11 : dep 11 = [9] := congrFun hdep 11
     have d12 : dep 12 = [10, 11, 9] := congrFun hdep 12
     have d13 : dep 13 = [12, 9] := congrFun hdep 13
     have d14 : dep 14 = [13, 9] := congrFun hdep 14
     have d15 : dep 15 = [14, 12, 9] := congrFun hdep 15
     have d16 : dep 16 = [15] := congrFun hdep 16
     have d17 : dep 17 = [15] := congrFun hdep 17
     have d18 : dep 18 = [16, 17, 15] := congrFun hdep 18
     have d19 : dep 19 = [18, 15] := congrFun hdep 19
     have d20 : dep 20 = [15] := congrFun hdep 20
     have d21 : dep 21 = [15] := congrFun hdep 21
     have d22 : dep 22 = [20, 21, 15] := congrFun hdep 22
     have d23 : dep 23 = [22, 15] := congrFun hdep 23
     have d24 : dep 24 = [19, 23, 15] := congrFun hdep 24
     have d25 : dep 25 = [15, 24, 9] := congrFun hdep 25
     have d26 : dep 26 = [9, 25] := congrFun hdep 26
     clear hdep
     have HLD : LastP 27 27 dep := lastP_none (by decide)
     obtain ⟨st, hst⟩ : ∃ f : Nat → Value, f = (fun j => match j with | 0 => u37 | 1 => u38 | 2 => u39 | 3 => u40 | 4 => u41 | 5 => u42 | 6 => u43 | 7 => u44 | 8 => u45 | 9 => u46 | 10 => u47 | 11 => u48 | 12 => u49 | 13 => u50 | 14 => u51 | 15 => u52 | 16 => u53 | 17 => u54 | 18 => u55 | 19 => u56 | 20 => u57 | 21 => u58 | 22 => u59 | 23 => u60 | 24 => u61 | 25 => u62 | 26 => u63 | _ => undef) := ⟨_, rfl⟩
     have st0 : st 0 = u37 := congrFun hst 0
     have st1 : st 1 = u38 := congrFun hst 1
     have st2 : st 2 = u39 := congrFun hst 2
     have st3 : st 3 = u40 := congrFun hst 3
     have st4 : st 4 = u41 := congrFun hst 4
     have st5 : st 5 = u42 := congrFun hst 5
     have st6 : st 6 = u43 := congrFun hst 6
     have st7 : st 7 = u44 := congrFun hst 7
     have st8 : st 8 = u45 := congrFun hst 8
     have st9 : st 9 = u46 := congrFun hst 9
     have st10 : st 10 = u47 := congrFun hst 10
     have st11 : st 11 = u48 := congrFun hst 11
     have st12 : st 12 = u49 := congrFun hst 12
     have st13 : st 13 = u50 := congrFun hst 13
     have st14 : st 14 = u51 := congrFun hst 14
     have st15 : st 15 = u52 := congrFun hst 15
     have st16 : st 16 = u53 := congrFun hst 16
     have st17 : st 17 = u54 := congrFun hst 17
     have st18 : st 18 = u55 := congrFun hst 18
     have st19 : st 19 = u56 := congrFun hst 19
     have st20 : st 20 = u57 := congrFun hst 20
     have st21 : st 21 = u58 := congrFun hst 21
     have st22 : st 22 = u59 := congrFun hst 22
     have st23 : st 23 = u60 := congrFun hst 23
     have st24 : st 24 = u61 := congrFun hst 24
     have st25 : st 25 = u62 := congrFun hst 25
     have st26 : st 26 = u63 := congrFun hst 26
     refine wp_region_inv (fun l a W => ∃ vs : Nat → Value, a = ⟨List.toArray (.slice A n c :: undef :: u2 :: .pointer (some ⟨W1.heap.size, 0, none⟩) :: .int .i64 wd :: .slice (some ⟨b, o, none⟩) L.length cL :: .slice (some ⟨b2, o2, none⟩) X.length cX :: .pointer (some ⟨W7.heap.size, 0, none⟩) :: .int .i64 ↑jx :: undef :: .slice A n c :: .int .i64 ↑n :: .bool false :: .tuple #[.agg #[.slice Ac t.cols.length kc, .int .i64 t.head, .int .i64 t.foot, .slice Ar t.rows.length kr, .int .i64 t.gap], .int .i64 wd] :: .slice A n c :: .tuple #[.agg #[.slice Ac t.cols.length kc, .int .i64 t.head, .int .i64 t.foot, .slice Ar t.rows.length kr, .int .i64 t.gap], .int .i64 wd] :: .agg #[.slice Ac t.cols.length kc, .int .i64 t.head, .int .i64 t.foot, .slice Ar t.rows.length kr, .int .i64 t.gap] :: .int .i64 wd :: .agg #[.slice Ac t.cols.length kc, .int .i64 t.head, .int .i64 t.foot, .slice Ar t.rows.length kr, .int .i64 t.gap] :: .int .i64 wd :: .slice (some ⟨b, o, none⟩) L.length cL :: .slice (some ⟨b, o, none⟩) L.length cL :: .agg #[.slice Ac t.cols.length kc, .int .i64 t.head, .int .i64 t.foot, .slice Ar t.rows.length kr, .int .i64 t.gap] :: .int .i64 wd :: .slice AM L.length cM :: .bool true :: .bool false :: .agg #[.slice Ac t.cols.length kc, .int .i64 t.head, .int .i64 t.foot, .slice Ar t.rows.length kr, .int .i64 t.gap] :: .slice (some ⟨b2, o2, none⟩) X.length cX :: .agg #[.slice Ac t.cols.length kc, .int .i64 t.head, .int .i64 t.foot, .slice Ar t.rows.length kr, .int .i64 t.gap] :: .agg #[.int .i64 GG.rows, .int .i64 GG.cols, .slice GA GG.cells.length gc] :: .int .i64 ↑jx :: .slice (some ⟨b, o, none⟩) L.length cL :: .int .i64 ↑L.length :: .bool true :: u35 :: u36 :: vs 0 :: vs 1 :: vs 2 :: vs 3 :: vs 4 :: vs 5 :: vs 6 :: vs 7 :: vs 8 :: vs 9 :: vs 10 :: vs 11 :: vs 12 :: vs 13 :: vs 14 :: vs 15 :: vs 16 :: vs 17 :: vs 18 :: vs 19 :: vs 20 :: vs 21 :: vs 22 :: vs 23 :: vs 24 :: vs 25 :: vs 26 :: undef :: undef :: undef :: undef :: undef :: undef :: undef :: undef :: undef :: undef :: undef :: undef :: undef :: undef :: undef :: undef :: undef :: undef :: undef :: undef :: undef :: undef :: undef :: undef :: undef :: undef :: undef :: undef :: undef :: undef :: undef :: []), []⟩ ∧ PMid KF 27 27 dep (wr.drew) (fun _ _ _ => True) st l vs W) (by kernel_rfl) ?top ?start ?step ?fin
     case top =>
      clear k0 k1 k2 k3 k4 k5 k6 k7 k8 k9 k10 k11 k12 k13 k14 k15 k16 k17 k18 k19 k20 k21 k22 k23 k24 k25 k26 d0 d1 d2 d3 d4 d5 d6 d7 d8 d9 d10 d11 d12 d13 d14 d15 d16 d17 d18 d19 d20 d21 d22 d23 d24 d25 d26 hst st0 st1 st2 st3 st4 st5 st6 st7 st8 st9 st10 st11 st12 st13 st14 st15 st16 st17 st18 st19 st20 st21 st22 st23 st24 st25 st26
      intro j o ho e he
      have hj : j < 27 := (Array.getElem?_eq_some_iff.1 ho).1
      have hA : (o.after.all fun e => decide (e.on < j)) = true := by
       obtain rfl | rfl | rfl | rfl | rfl | rfl | rfl | rfl | rfl | rfl | rfl | rfl | rfl | rfl | rfl | rfl | rfl | rfl | rfl | rfl | rfl | rfl | rfl | rfl | rfl | rfl | rfl : j = 0 ∨ j = 1 ∨ j = 2 ∨ j = 3 ∨ j = 4 ∨ j = 5 ∨ j = 6 ∨ j = 7 ∨ j = 8 ∨ j = 9 ∨ j = 10 ∨ j = 11 ∨ j = 12 ∨ j = 13 ∨ j = 14 ∨ j = 15 ∨ j = 16 ∨ j = 17 ∨ j = 18 ∨ j = 19 ∨ j = 20 ∨ j = 21 ∨ j = 22 ∨ j = 23 ∨ j = 24 ∨ j = 25 ∨ j = 26 := by omega
       all_goals
        simp only [List.getElem?_toArray, List.getElem?_cons_zero, List.getElem?_cons_succ, Option.some.injEq] at ho
        subst ho
        first | decide | kernel_rfl | simp
      simpa using Array.all_eq_true'.1 hA e he
     case start => exact ⟨st, by rw [hst]; first | done | rfl, PMid.start⟩
     case step =>
      rintro l a W i o ho hl hpre hsz ⟨vs, rfl, hM0⟩ K hK
      have hi : i < 27 := (Array.getElem?_eq_some_iff.1 ho).1
      obtain rfl | rfl | rfl | rfl | rfl | rfl | rfl | rfl | rfl | rfl | rfl | rfl | rfl | rfl | rfl | rfl | rfl | rfl | rfl | rfl | rfl | rfl | rfl | rfl | rfl | rfl | rfl : i = 0 ∨ i = 1 ∨ i = 2 ∨ i = 3 ∨ i = 4 ∨ i = 5 ∨ i = 6 ∨ i = 7 ∨ i = 8 ∨ i = 9 ∨ i = 10 ∨ i = 11 ∨ i = 12 ∨ i = 13 ∨ i = 14 ∨ i = 15 ∨ i = 16 ∨ i = 17 ∨ i = 18 ∨ i = 19 ∨ i = 20 ∨ i = 21 ∨ i = 22 ∨ i = 23 ∨ i = 24 ∨ i = 25 ∨ i = 26 := by omega
      ·
       simp only [List.getElem?_toArray, List.getElem?_cons_zero, List.getElem?_cons_succ, Option.some.injEq] at ho
       subst ho
       have hMB := hM0.below HLD hi (by decide) hl
       have hMG := hM0.get HLD hi (by decide) hl
       have hdp : ∀ e ∈ dep 0, l.getD e false = true := by rw [d0]; exact dep_nil
       have e := k0
       clear k0 k1 k2 k3 k4 k5 k6 k7 k8 k9 k10 k11 k12 k13 k14 k15 k16 k17 k18 k19 k20 k21 k22 k23 k24 k25 k26 d0 d1 d2 d3 d4 d5 d6 d7 d8 d9 d10 d11 d12 d13 d14 d15 d16 d17 d18 d19 d20 d21 d22 d23 d24 d25 d26 hst st0 st1 st2 st3 st4 st5 st6 st7 st8 st9 st10 st11 st12 st13 st14 st15 st16 st17 st18 st19 st20 st21 st22 st23 st24 st25 st26
       go_simp
       exact hK.out _ _ ⟨updV vs 0 (.slice (some ⟨b, o, none⟩) L.length cL), rfl, hM0.still HLD HST 0 (by decide) (by decide) hl _ hdp ((e _ _).2 rfl)⟩
      ·
       simp only [List.getElem?_toArray, List.getElem?_cons_zero, List.getElem?_cons_succ, Option.some.injEq] at ho
       subst ho
       have hMB := hM0.below HLD hi (by decide) hl
       have hMG := hM0.get HLD hi (by decide) hl
       have hdp : ∀ e ∈ dep 1, l.getD e false = true := by rw [d1]; exact dep_nil
       have e := k1
       clear k0 k1 k2 k3 k4 k5 k6 k7 k8 k9 k10 k11 k12 k13 k14 k15 k16 k17 k18 k19 k20 k21 k22 k23 k24 k25 k26 d0 d1 d2 d3 d4 d5 d6 d7 d8 d9 d10 d11 d12 d13 d14 d15 d16 d17 d18 d19 d20 d21 d22 d23 d24 d25 d26 hst st0 st1 st2 st3 st4 st5 st6 st7 st8 st9 st10 st11 st12 st13 st14 st15 st16 st17 st18 st19 st20 st21 st22 st23 st24 st25 st26
       go_simp
       exact hK.out _ _ ⟨updV vs 1 (.int .i64 ↑jx), rfl, hM0.still HLD HST 1 (by decide) (by decide) hl _ hdp ((e _ _).2 rfl)⟩
      ·
       simp only [List.getElem?_toArray, List.getElem?_cons_zero, List.getElem?_cons_succ, Option.some.injEq] at ho
       subst ho
       have hMB := hM0.below HLD hi (by decide) hl
       have hMG := hM0.get HLD hi (by decide) hl
       have v0 : vs 0 = .slice (some ⟨b, o, none⟩) L.length cL := (k0 _ _).1 (hMG 0 (by decide) (hpre ⟨0, .data⟩ (by simp) rfl))
       have v1 : vs 1 = .int .i64 ↑jx := (k1 _ _).1 (hMG 1 (by decide) (hpre ⟨1, .data⟩ (by simp) rfl))
       have hdp : ∀ e ∈ dep 2, l.getD e false = true := by rw [d2]; exact (dep_cons (hpre ⟨0, .data⟩ (by simp) rfl) (dep_cons (hpre ⟨1, .data⟩ (by simp) rfl) dep_nil))
       have e := k2
       clear k0 k1 k2 k3 k4 k5 k6 k7 k8 k9 k10 k11 k12 k13 k14 k15 k16 k17 k18 k19 k20 k21 k22 k23 k24 k25 k26 d0 d1 d2 d3 d4 d5 d6 d7 d8 d9 d10 d11 d12 d13 d14 d15 d16 d17 d18 d19 d20 d21 d22 d23 d24 d25 d26 hst st0 st1 st2 st3 st4 st5 st6 st7 st8 st9 st10 st11 st12 st13 st14 st15 st16 st17 st18 st19 st20 st21 st22 st23 st24 st25 st26
       rw [v0, v1]
       go_simp
       exact hK.out _ _ ⟨updV vs 2 (.pointer (some ⟨b, o + jx, none⟩)), (by simp [updV, v0, v1]), hM0.still HLD HST 2 (by decide) (by decide) hl _ hdp ((e _ _).2 rfl)⟩
      ·
       simp only [List.getElem?_toArray, List.getElem?_cons_zero, List.getElem?_cons_succ, Option.some.injEq] at ho
       subst ho
       have hMB := hM0.below HLD hi (by decide) hl
       have hMG := hM0.get HLD hi (by decide) hl
       have v2 : vs 2 = .pointer (some ⟨b, o + jx, none⟩) := (k2 _ _).1 (hMG 2 (by decide) (hpre ⟨2, .data⟩ (by simp) rfl))
       have hdp : ∀ e ∈ dep 3, l.getD e false = true := by rw [d3]; exact (dep_cons (hpre ⟨2, .data⟩ (by simp) rfl) dep_nil)
       have e := k3
       clear k0 k1 k2 k3 k4 k5 k6 k7 k8 k9 k10 k11 k12 k13 k14 k15 k16 k17 k18 k19 k20 k21 k22 k23 k24 k25 k26 d0 d1 d2 d3 d4 d5 d6 d7 d8 d9 d10 d11 d12 d13 d14 d15 d16 d17 d18 d19 d20 d21 d22 d23 d24 d25 d26 hst st0 st1 st2 st3 st4 st5 st6 st7 st8 st9 st10 st11 st12 st13 st14 st15 st16 st17 st18 st19 st20 st21 st22 st23 st24 st25 st26
       have x0 := keepW hMB qc1
       rw [v2]
       go_simp
       exact hK.out _ _ ⟨updV vs 3 (.int .i64 y), (by simp [updV, v2]), hM0.still HLD HST 3 (by decide) (by decide) hl _ hdp ((e _ _).2 rfl)⟩
      ·
       simp only [List.getElem?_toArray, List.getElem?_cons_zero, List.getElem?_cons_succ, Option.some.injEq] at ho
       subst ho
       have hMB := hM0.below HLD hi (by decide) hl
       have hMG := hM0.get HLD hi (by decide) hl
       have hdp : ∀ e ∈ dep 4, l.getD e false = true := by rw [d4]; exact dep_nil
       have e := k4
       clear k0 k1 k2 k3 k4 k5 k6 k7 k8 k9 k10 k11 k12 k13 k14 k15 k16 k17 k18 k19 k20 k21 k22 k23 k24 k25 k26 d0 d1 d2 d3 d4 d5 d6 d7 d8 d9 d10 d11 d12 d13 d14 d15 d16 d17 d18 d19 d20 d21 d22 d23 d24 d25 d26 hst st0 st1 st2 st3 st4 st5 st6 st7 st8 st9 st10 st11 st12 st13 st14 st15 st16 st17 st18 st19 st20 st21 st22 st23 st24 st25 st26
       go_simp
       exact hK.out _ _ ⟨updV vs 4 (.slice (some ⟨b2, o2, none⟩) X.length cX), rfl, hM0.still HLD HST 4 (by decide) (by decide) hl _ hdp ((e _ _).2 rfl)⟩
      ·
       simp only [List.getElem?_toArray, List.getElem?_cons_zero, List.getElem?_cons_succ, Option.some.injEq] at ho
       subst ho
       have hMB := hM0.below HLD hi (by decide) hl
       have hMG := hM0.get HLD hi (by decide) hl
       have hdp : ∀ e ∈ dep 5, l.getD e false = true := by rw [d5]; exact dep_nil
       have e := k5
       clear k0 k1 k2 k3 k4 k5 k6 k7 k8 k9 k10 k11 k12 k13 k14 k15 k16 k17 k18 k19 k20 k21 k22 k23 k24 k25 k26 d0 d1 d2 d3 d4 d5 d6 d7 d8 d9 d10 d11 d12 d13 d14 d15 d16 d17 d18 d19 d20 d21 d22 d23 d24 d25 d26 hst st0 st1 st2 st3 st4 st5 st6 st7 st8 st9 st10 st11 st12 st13 st14 st15 st16 st17 st18 st19 st20 st21 st22 st23 st24 st25 st26
       go_simp
       exact hK.out _ _ ⟨updV vs 5 (.int .i64 ↑jx), rfl, hM0.still HLD HST 5 (by decide) (by decide) hl _ hdp ((e _ _).2 rfl)⟩
      ·
       simp only [List.getElem?_toArray, List.getElem?_cons_zero, List.getElem?_cons_succ, Option.some.injEq] at ho
       subst ho
       have hMB := hM0.below HLD hi (by decide) hl
       have hMG := hM0.get HLD hi (by decide) hl
       have v4 : vs 4 = .slice (some ⟨b2, o2, none⟩) X.length cX := (k4 _ _).1 (hMG 4 (by decide) (hpre ⟨4, .data⟩ (by simp) rfl))
       have v5 : vs 5 = .int .i64 ↑jx := (k5 _ _).1 (hMG 5 (by decide) (hpre ⟨5, .data⟩ (by simp) rfl))
       have hdp : ∀ e ∈ dep 6, l.getD e false = true := by rw [d6]; exact (dep_cons (hpre ⟨4, .data⟩ (by simp) rfl) (dep_cons (hpre ⟨5, .data⟩ (by simp) rfl) dep_nil))
       have e := k6
       clear k0 k1 k2 k3 k4 k5 k6 k7 k8 k9 k10 k11 k12 k13 k14 k15 k16 k17 k18 k19 k20 k21 k22 k23 k24 k25 k26 d0 d1 d2 d3 d4 d5 d6 d7 d8 d9 d10 d11 d12 d13 d14 d15 d16 d17 d18 d19 d20 d21 d22 d23 d24 d25 d26 hst st0 st1 st2 st3 st4 st5 st6 st7 st8 st9 st10 st11 st12 st13 st14 st15 st16 st17 st18 st19 st20 st21 st22 st23 st24 st25 st26
       rw [v4, v5]
       go_simp
       exact hK.out _ _ ⟨updV vs 6 (.pointer (some ⟨b2, o2 + jx, none⟩)), (by simp [updV, v4, v5]), hM0.still HLD HST 6 (by decide) (by decide) hl _ hdp ((e _ _).2 rfl)⟩
      ·
       simp only [List.getElem?_toArray, List.getElem?_cons_zero, List.getElem?_cons_succ, Option.some.injEq] at ho
       subst ho
       have hMB := hM0.below HLD hi (by decide) hl
       have hMG := hM0.get HLD hi (by decide) hl
       have v6 : vs 6 = .pointer (some ⟨b2, o2 + jx, none⟩) := (k6 _ _).1 (hMG 6 (by decide) (hpre ⟨6, .data⟩ (by simp) rfl))
       have hdp : ∀ e ∈ dep 7, l.getD e false = true := by rw [d7]; exact (dep_cons (hpre ⟨6, .data⟩ (by simp) rfl) dep_nil)
       have e := k7
       clear k0 k1 k2 k3 k4 k5 k6 k7 k8 k9 k10 k11 k12 k13 k14 k15 k16 k17 k18 k19 k20 k21 k22 k23 k24 k25 k26 d0 d1 d2 d3 d4 d5 d6 d7 d8 d9 d10 d11 d12 d13 d14 d15 d16 d17 d18 d19 d20 d21 d22 d23 d24 d25 d26 hst st0 st1 st2 st3 st4 st5 st6 st7 st8 st9 st10 st11 st12 st13 st14 st15 st16 st17 st18 st19 st20 st21 st22 st23 st24 st25 st26
       have x0 := keepW hMB qc2
       rw [v6]
       go_simp
       exact hK.out _ _ ⟨updV vs 7 (.int .i64 x), (by simp [updV, v6]), hM0.still HLD HST 7 (by decide) (by decide) hl _ hdp ((e _ _).2 rfl)⟩
      ·
       simp only [List.getElem?_toArray, List.getElem?_cons_zero, List.getElem?_cons_succ, Option.some.injEq] at ho
       subst ho
       have hMB := hM0.below HLD hi (by decide) hl
       have hMG := hM0.get HLD hi (by decide) hl
       have v3 : vs 3 = .int .i64 y := (k3 _ _).1 (hMG 3 (by decide) (hpre ⟨3, .data⟩ (by simp) rfl))
       have v7 : vs 7 = .int .i64 x := (k7 _ _).1 (hMG 7 (by decide) (hpre ⟨7, .data⟩ (by simp) rfl))
       have hdp : ∀ e ∈ dep 8, l.getD e false = true := by rw [d8]; exact (dep_cons (hpre ⟨3, .data⟩ (by simp) rfl) (dep_cons (hpre ⟨7, .data⟩ (by simp) rfl) dep_nil))
       have e := k8
       clear k0 k1 k2 k3 k4 k5 k6 k7 k8 k9 k10 k11 k12 k13 k14 k15 k16 k17 k18 k19 k20 k21 k22 k23 k24 k25 k26 d0 d1 d2 d3 d4 d5 d6 d7 d8 d9 d10 d11 d12 d13 d14 d15 d16 d17 d18 d19 d20 d21 d22 d23 d24 d25 d26 hst st0 st1 st2 st3 st4 st5 st6 st7 st8 st9 st10 st11 st12 st13 st14 st15 st16 st17 st18 st19 st20 st21 st22 st23 st24 st25 st26
       rw [v3, v7]
       go_simp
       exact hK.out _ _ ⟨updV vs 8 (.bool false), (by simp [updV, v3, v7]), hM0.still HLD HST 8 (by decide) (by decide) hl _ hdp ((e _ _).2 rfl)⟩
      ·
       simp only [List.getElem?_toArray, List.getElem?_cons_zero, List.getElem?_cons_succ, Option.some.injEq] at ho
       subst ho
       have hMB := hM0.below HLD hi (by decide) hl
       have hMG := hM0.get HLD hi (by decide) hl
       have v8 : vs 8 = .bool false := (k8 _ _).1 (hMG 8 (by decide) (hpre ⟨8, .data⟩ (by simp) rfl))
       have hdp : ∀ e ∈ dep 9, l.getD e false = true := by rw [d9]; exact (dep_cons (hpre ⟨8, .data⟩ (by simp) rfl) dep_nil)
       have e := k9
       clear k0 k1 k2 k3 k4 k5 k6 k7 k8 k9 k10 k11 k12 k13 k14 k15 k16 k17 k18 k19 k20 k21 k22 k23 k24 k25 k26 d0 d1 d2 d3 d4 d5 d6 d7 d8 d9 d10 d11 d12 d13 d14 d15 d16 d17 d18 d19 d20 d21 d22 d23 d24 d25 d26 hst st0 st1 st2 st3 st4 st5 st6 st7 st8 st9 st10 st11 st12 st13 st14 st15 st16 st17 st18 st19 st20 st21 st22 st23 st24 st25 st26
       rw [v8]
       go_simp
       exact hK.out _ _ ⟨updV vs 9 (.bool false), (by simp [updV, v8]), hM0.still HLD HST 9 (by decide) (by decide) hl _ hdp ((e _ _).2 rfl)⟩
      ·
       simp only [List.getElem?_toArray, List.getElem?_cons_zero, List.getElem?_cons_succ, Option.some.injEq] at ho
       subst ho
       have hMB := hM0.below HLD hi (by decide) hl
       have hMG := hM0.get HLD hi (by decide) hl
       have v9 : vs 9 = .bool false := (k9 _ _).1 (hMG 9 (by decide) (hpre ⟨9, .guard⟩ (by simp) rfl))
       have hdp : ∀ e ∈ dep 10, l.getD e false = true := by rw [d10]; exact (dep_cons (hpre ⟨9, .guard⟩ (by simp) rfl) dep_nil)
       have e := k10
       clear k0 k1 k2 k3 k4 k5 k6 k7 k8 k9 k10 k11 k12 k13 k14 k15 k16 k17 k18 k19 k20 k21 k22 k23 k24 k25 k26 d0 d1 d2 d3 d4 d5 d6 d7 d8 d9 d10 d11 d12 d13 d14 d15 d16 d17 d18 d19 d20 d21 d22 d23 d24 d25 d26 hst st0 st1 st2 st3 st4 st5 st6 st7 st8 st9 st10 st11 st12 st13 st14 st15 st16 st17 st18 st19 st20 st21 st22 st23 st24 st25 st26
       have x0 := keepW hMB z0
       have x1 := keepW hMB z1
       have x2 := keepW hMB z2
       have x3 := keepW hMB z3
       have x4 := keepW hMB z4
       rw [v9]
       go_simp
       exact hK.out _ _ ⟨updV vs 10 (.agg #[.slice Ac t.cols.length kc, .int .i64 t.head, .int .i64 t.foot, .slice Ar t.rows.length kr, .int .i64 t.gap]), (by simp [updV, v9]), hM0.still HLD HST 10 (by decide) (by decide) hl _ hdp ((e _ _).2 rfl)⟩
      ·
       simp only [List.getElem?_toArray, List.getElem?_cons_zero, List.getElem?_cons_succ, Option.some.injEq] at ho
       subst ho
       have hMB := hM0.below HLD hi (by decide) hl
       have hMG := hM0.get HLD hi (by decide) hl
       have v9 : vs 9 = .bool false := (k9 _ _).1 (hMG 9 (by decide) (hpre ⟨9, .guard⟩ (by simp) rfl))
       have hdp : ∀ e ∈ dep 11, l.getD e false = true := by rw [d11]; exact (dep_cons (hpre ⟨9, .guard⟩ (by simp) rfl) dep_nil)
       have e := k11
       clear k0 k1 k2 k3 k4 k5 k6 k7 k8 k9 k10 k11 k12 k13 k14 k15 k16 k17 k18 k19 k20 k21 k22 k23 k24 k25 k26 d0 d1 d2 d3 d4 d5 d6 d7 d8 d9 d10 d11 d12 d13 d14 d15 d16 d17 d18 d19 d20 d21 d22 d23 d24 d25 d26 hst st0 st1 st2 st3 st4 st5 st6 st7 st8 st9 st10 st11 st12 st13 st14 st15 st16 st17 st18 st19 st20 st21 st22 st23 st24 st25 st26
       rw [v9]
       go_simp
       exact hK.out _ _ ⟨updV vs 11 (.int .i64 ↑jx), (by simp [updV, v9]), hM0.still HLD HST 11 (by decide) (by decide) hl _ hdp ((e _ _).2 rfl)⟩
      ·
       simp only [List.getElem?_toArray, List.getElem?_cons_zero, List.getElem?_cons_succ, Option.some.injEq] at ho
       subst ho
       have hMB := hM0.below HLD hi (by decide) hl
       have hMG := hM0.get HLD hi (by decide) hl
       have v10 : vs 10 = .agg #[.slice Ac t.cols.length kc, .int .i64 t.head, .int .i64 t.foot, .slice Ar t.rows.length kr, .int .i64 t.gap] := (k10 _ _).1 (hMG 10 (by decide) (hpre ⟨10, .data⟩ (by simp) rfl))
       have v11 : vs 11 = .int .i64 ↑jx := (k11 _ _).1 (hMG 11 (by decide) (hpre ⟨11, .data⟩ (by simp) rfl))
       have v9 : vs 9 = .bool false := (k9 _ _).1 (hMG 9 (by decide) (hpre ⟨9, .chain⟩ (by simp) rfl))
       have hdp : ∀ e ∈ dep 12, l.getD e false = true := by rw [d12]; exact (dep_cons (hpre ⟨10, .data⟩ (by simp) rfl) (dep_cons (hpre ⟨11, .data⟩ (by simp) rfl) (dep_cons (hpre ⟨9, .chain⟩ (by simp) rfl) dep_nil)))
       have e := k12
       clear k0 k1 k2 k3 k4 k5 k6 k7 k8 k9 k10 k11 k12 k13 k14 k15 k16 k17 k18 k19 k20 k21 k22 k23 k24 k25 k26 d0 d1 d2 d3 d4 d5 d6 d7 d8 d9 d10 d11 d12 d13 d14 d15 d16 d17 d18 d19 d20 d21 d22 d23 d24 d25 d26 hst st0 st1 st2 st3 st4 st5 st6 st7 st8 st9 st10 st11 st12 st13 st14 st15 st16 st17 st18 st19 st20 st21 st22 st23 st24 st25 st26
       rw [v10, v11, v9]
       go_simp
       refine (HSE.out _ hMB).mono ?_
       rintro e5 W5 ⟨rfl, hb5⟩
       exact hK.out _ _ ⟨updV vs 12 (.agg #[.int .i64 sd.k, .int .i64 sd.n]), (by simp [updV, v10, v11, v9]), hM0.next HLD HST 12 (by decide) (by decide) hl _ hdp hb5 ((e _ _).2 rfl)⟩
      ·
       simp only [List.getElem?_toArray, List.getElem?_cons_zero, List.getElem?_cons_succ, Option.some.injEq] at ho
       subst ho
       have hMB := hM0.below HLD hi (by decide) hl
       have hMG := hM0.get HLD hi (by decide) hl
       have v12 : vs 12 = .agg #[.int .i64 sd.k, .int .i64 sd.n] := (k12 _ _).1 (hMG 12 (by decide) (hpre ⟨12, .data⟩ (by simp) rfl))
       have v9 : vs 9 = .bool false := (k9 _ _).1 (hMG 9 (by decide) (hpre ⟨9, .guard⟩ (by simp) rfl))
       have hdp : ∀ e ∈ dep 13, l.getD e false = true := by rw [d13]; exact (dep_cons (hpre ⟨12, .data⟩ (by simp) rfl) (dep_cons (hpre ⟨9, .guard⟩ (by simp) rfl) dep_nil))
       have e := k13
       clear k0 k1 k2 k3 k4 k5 k6 k7 k8 k9 k10 k11 k12 k13 k14 k15 k16 k17 k18 k19 k20 k21 k22 k23 k24 k25 k26 d0 d1 d2 d3 d4 d5 d6 d7 d8 d9 d10 d11 d12 d13 d14 d15 d16 d17 d18 d19 d20 d21 d22 d23 d24 d25 d26 hst st0 st1 st2 st3 st4 st5 st6 st7 st8 st9 st10 st11 st12 st13 st14 st15 st16 st17 st18 st19 st20 st21 st22 st23 st24 st25 st26
       have hfc9 := fieldC
       rw [v12, v9]
       go_simp
       exact hK.out _ _ ⟨updV vs 13 (.int .i64 sd.k), (by simp [updV, v12, v9]), hM0.still HLD HST 13 (by decide) (by decide) hl _ hdp ((e _ _).2 rfl)⟩
      ·
       simp only [List.getElem?_toArray, List.getElem?_cons_zero, List.getElem?_cons_succ, Option.some.injEq] at ho
       subst ho
       have hMB := hM0.below HLD hi (by decide) hl
       have hMG := hM0.get HLD hi (by decide) hl
       have v13 : vs 13 = .int .i64 sd.k := (k13 _ _).1 (hMG 13 (by decide) (hpre ⟨13, .data⟩ (by simp) rfl))
       have v9 : vs 9 = .bool false := (k9 _ _).1 (hMG 9 (by decide) (hpre ⟨9, .guard⟩ (by simp) rfl))
       have hdp : ∀ e ∈ dep 14, l.getD e false = true := by rw [d14]; exact (dep_cons (hpre ⟨13, .data⟩ (by simp) rfl) (dep_cons (hpre ⟨9, .guard⟩ (by simp) rfl) dep_nil))
       have e := k14
       clear k0 k1 k2 k3 k4 k5 k6 k7 k8 k9 k10 k11 k12 k13 k14 k15 k16 k17 k18 k19 k20 k21 k22 k23 k24 k25 k26 d0 d1 d2 d3 d4 d5 d6 d7 d8 d9 d10 d11 d12 d13 d14 d15 d16 d17 d18 d19 d20 d21 d22 d23 d24 d25 d26 hst st0 st1 st2 st3 st4 st5 st6 st7 st8 st9 st10 st11 st12 st13 st14 st15 st16 st17 st18 st19 st20 st21 st22 st23 st24 st25 st26
       rw [v13, v9]
       go_simp
       exact hK.out _ _ ⟨updV vs 14 (.bool false), (by simp [updV, v13, v9]), hM0.still HLD HST 14 (by decide) (by decide) hl _ hdp ((e _ _).2 rfl)⟩
      ·
       simp only [List.getElem?_toArray, List.getElem?_cons_zero, List.getElem?_cons_succ, Option.some.injEq] at ho
       subst ho
       have hMB := hM0.below HLD hi (by decide) hl
       have hMG := hM0.get HLD hi (by decide) hl
       have v14 : vs 14 = .bool false := (k14 _ _).1 (hMG 14 (by decide) (hpre ⟨14, .data⟩ (by simp) rfl))
       have v12 : vs 12 = .agg #[.int .i64 sd.k, .int .i64 sd.n] := (k12 _ _).1 (hMG 12 (by decide) (hpre ⟨12, .chain⟩ (by simp) rfl))
       have v9 : vs 9 = .bool false := (k9 _ _).1 (hMG 9 (by decide) (hpre ⟨9, .guard⟩ (by simp) rfl))
       have hdp : ∀ e ∈ dep 15, l.getD e false = true := by rw [d15]; exact (dep_cons (hpre ⟨14, .data⟩ (by simp) rfl) (dep_cons (hpre ⟨12, .chain⟩ (by simp) rfl) (dep_cons (hpre ⟨9, .guard⟩ (by simp) rfl) dep_nil)))
       have e := k15
       clear k0 k1 k2 k3 k4 k5 k6 k7 k8 k9 k10 k11 k12 k13 k14 k15 k16 k17 k18 k19 k20 k21 k22 k23 k24 k25 k26 d0 d1 d2 d3 d4 d5 d6 d7 d8 d9 d10 d11 d12 d13 d14 d15 d16 d17 d18 d19 d20 d21 d22 d23 d24 d25 d26 hst st0 st1 st2 st3 st4 st5 st6 st7 st8 st9 st10 st11 st12 st13 st14 st15 st16 st17 st18 st19 st20 st21 st22 st23 st24 st25 st26
       rw [v14, v12, v9]
       go_simp
       exact hK.out _ _ ⟨updV vs 15 (.bool false), (by simp [updV, v14, v12, v9]), hM0.still HLD HST 15 (by decide) (by decide) hl _ hdp ((e _ _).2 rfl)⟩
      ·
       simp only [List.getElem?_toArray, List.getElem?_cons_zero, List.getElem?_cons_succ, Option.some.injEq] at ho
       subst ho
       have hMB := hM0.below HLD hi (by decide) hl
       have hMG := hM0.get HLD hi (by decide) hl
       have v15 : vs 15 = .bool false := (k15 _ _).1 (hMG 15 (by decide) (hpre ⟨15, .guard⟩ (by simp) rfl))
       have hdp : ∀ e ∈ dep 16, l.getD e false = true := by rw [d16]; exact (dep_cons (hpre ⟨15, .guard⟩ (by simp) rfl) dep_nil)
       have e := k16
       clear k0 k1 k2 k3 k4 k5 k6 k7 k8 k9 k10 k11 k12 k13 k14 k15 k16 k17 k18 k19 k20 k21 k22 k23 k24 k25 k26 d0 d1 d2 d3 d4 d5 d6 d7 d8 d9 d10 d11 d12 d13 d14 d15 d16 d17 d18 d19 d20 d21 d22 d23 d24 d25 d26 hst st0 st1 st2 st3 st4 st5 st6 st7 st8 st9 st10 st11 st12 st13 st14 st15 st16 st17 st18 st19 st20 st21 st22 st23 st24 st25 st26
       rw [v15]
       go_simp
       exact hK.out _ _ ⟨updV vs 16 (undef), (by simp [updV, v15]), hM0.still HLD HST 16 (by decide) (by decide) hl _ hdp ((e _ _).2 rfl)⟩
      ·
       simp only [List.getElem?_toArray, List.getElem?_cons_zero, List.getElem?_cons_succ, Option.some.injEq] at ho
       subst ho
       have hMB := hM0.below HLD hi (by decide) hl
       have hMG := hM0.get HLD hi (by decide) hl
       have v15 : vs 15 = .bool false := (k15 _ _).1 (hMG 15 (by decide) (hpre ⟨15, .guard⟩ (by simp) rfl))
       have hdp : ∀ e ∈ dep 17, l.getD e false = true := by rw [d17]; exact (dep_cons (hpre ⟨15, .guard⟩ (by simp) rfl) dep_nil)
       have e := k17
       clear k0 k1 k2 k3 k4 k5 k6 k7 k8 k9 k10 k11 k12 k13 k14 k15 k16 k17 k18 k19 k20 k21 k22 k23 k24 k25 k26 d0 d1 d2 d3 d4 d5 d6 d7 d8 d9 d10 d11 d12 d13 d14 d15 d16 d17 d18 d19 d20 d21 d22 d23 d24 d25 d26 hst st0 st1 st2 st3 st4 st5 st6 st7 st8 st9 st10 st11 st12 st13 st14 st15 st16 st17 st18 st19 st20 st21 st22 st23 st24 st25 st26
       rw [v15]
       go_simp
       exact hK.out _ _ ⟨updV vs 17 (undef), (by simp [updV, v15]), hM0.still HLD HST 17 (by decide) (by decide) hl _ hdp ((e _ _).2 rfl)⟩
      ·
       simp only [List.getElem?_toArray, List.getElem?_cons_zero, List.getElem?_cons_succ, Option.some.injEq] at ho
       subst ho
       have hMB := hM0.below HLD hi (by decide) hl
       have hMG := hM0.get HLD hi (by decide) hl
       have v15 : vs 15 = .bool false := (k15 _ _).1 (hMG 15 (by decide) (hpre ⟨15, .guard⟩ (by simp) rfl))
       have hdp : ∀ e ∈ dep 18, l.getD e false = true := by rw [d18]; exact (dep_cons (hpre ⟨16, .data⟩ (by simp) rfl) (dep_cons (hpre ⟨17, .data⟩ (by simp) rfl) (dep_cons (hpre ⟨15, .guard⟩ (by simp) rfl) dep_nil)))
       have e := k18
       clear k0 k1 k2 k3 k4 k5 k6 k7 k8 k9 k10 k11 k12 k13 k14 k15 k16 k17 k18 k19 k20 k21 k22 k23 k24 k25 k26 d0 d1 d2 d3 d4 d5 d6 d7 d8 d9 d10 d11 d12 d13 d14 d15 d16 d17 d18 d19 d20 d21 d22 d23 d24 d25 d26 hst st0 st1 st2 st3 st4 st5 st6 st7 st8 st9 st10 st11 st12 st13 st14 st15 st16 st17 st18 st19 st20 st21 st22 st23 st24 st25 st26
       rw [v15]
       go_simp
       exact hK.out _ _ ⟨updV vs 18 (undef), (by simp [updV, v15]), hM0.still HLD HST 18 (by decide) (by decide) hl _ hdp ((e _ _).2 rfl)⟩
      ·
       simp only [List.getElem?_toArray, List.getElem?_cons_zero, List.getElem?_cons_succ, Option.some.injEq] at ho
       subst ho
       have hMB := hM0.below HLD hi (by decide) hl
       have hMG := hM0.get HLD hi (by decide) hl
       have v15 : vs 15 = .bool false := (k15 _ _).1 (hMG 15 (by decide) (hpre ⟨15, .guard⟩ (by simp) rfl))
       have hdp : ∀ e ∈ dep 19, l.getD e false = true := by rw [d19]; exact (dep_cons (hpre ⟨18, .data⟩ (by simp) rfl) (dep_cons (hpre ⟨15, .guard⟩ (by simp) rfl) dep_nil))
       have e := k19
       clear k0 k1 k2 k3 k4 k5 k6 k7 k8 k9 k10 k11 k12 k13 k14 k15 k16 k17 k18 k19 k20 k21 k22 k23 k24 k25 k26 d0 d1 d2 d3 d4 d5 d6 d7 d8 d9 d10 d11 d12 d13 d14 d15 d16 d17 d18 d19 d20 d21 d22 d23 d24 d25 d26 hst st0 st1 st2 st3 st4 st5 st6 st7 st8 st9 st10 st11 st12 st13 st14 st15 st16 st17 st18 st19 st20 st21 st22 st23 st24 st25 st26
       rw [v15]
       go_simp
       exact hK.out _ _ ⟨updV vs 19 (undef), (by simp [updV, v15]), hM0.still HLD HST 19 (by decide) (by decide) hl _ hdp ((e _ _).2 rfl)⟩
      ·
       simp only [List.getElem?_toArray, List.getElem?_cons_zero, List.getElem?_cons_succ, Option.some.injEq] at ho
       subst ho
       have hMB := hM0.below HLD hi (by decide) hl
       have hMG := hM0.get HLD hi (by decide) hl
       have v15 : vs 15 = .bool false := (k15 _ _).1 (hMG 15 (by decide) (hpre ⟨15, .guard⟩ (by simp) rfl))
       have hdp : ∀ e ∈ dep 20, l.getD e false = true := by rw [d20]; exact (dep_cons (hpre ⟨15, .guard⟩ (by simp) rfl) dep_nil)
       have e := k20
       clear k0 k1 k2 k3 k4 k5 k6 k7 k8 k9 k10 k11 k12 k13 k14 k15 k16 k17 k18 k19 k20 k21 k22 k23 k24 k25 k26 d0 d1 d2 d3 d4 d5 d6 d7 d8 d9 d10 d11 d12 d13 d14 d15 d16 d17 d18 d19 d20 d21 d22 d23 d24 d25 d26 hst st0 st1 st2 st3 st4 st5 st6 st7 st8 st9 st10 st11 st12 st13 st14 st15 st16 st17 st18 st19 st20 st21 st22 st23 st24 st25 st26
       rw [v15]
       go_simp
       exact hK.out _ _ ⟨updV vs 20 (undef), (by simp [updV, v15]), hM0.still HLD HST 20 (by decide) (by decide) hl _ hdp ((e _ _).2 rfl)⟩
      ·
       simp only [List.getElem?_toArray, List.getElem?_cons_zero, List.getElem?_cons_succ, Option.some.injEq] at ho
       subst ho
       have hMB := hM0.below HLD hi (by decide) hl
       have hMG := hM0.get HLD hi (by decide) hl
       have v15 : vs 15 = .bool false := (k15 _ _).1 (hMG 15 (by decide) (hpre ⟨15, .guard⟩ (by simp) rfl))
       have hdp : ∀ e ∈ dep 21, l.getD e false = true := by rw [d21]; exact (dep_cons (hpre ⟨15, .guard⟩ (by simp) rfl) dep_nil)
       have e := k21
       clear k0 k1 k2 k3 k4 k5 k6 k7 k8 k9 k10 k11 k12 k13 k14 k15 k16 k17 k18 k19 k20 k21 k22 k23 k24 k25 k26 d0 d1 d2 d3 d4 d5 d6 d7 d8 d9 d10 d11 d12 d13 d14 d15 d16 d17 d18 d19 d20 d21 d22 d23 d24 d25 d26 hst st0 st1 st2 st3 st4 st5 st6 st7 st8 st9 st10 st11 st12 st13 st14 st15 st16 st17 st18 st19 st20 st21 st22 st23 st24 st25 st26
       rw [v15]
       go_simp
       exact hK.out _ _ ⟨updV vs 21 (undef), (by simp [updV, v15]), hM0.still HLD HST 21 (by decide) (by decide) hl _ hdp ((e _ _).2 rfl)⟩
      ·
       simp only [List.getElem?_toArray, List.getElem?_cons_zero, List.getElem?_cons_succ, Option.some.injEq] at ho
       subst ho
       have hMB := hM0.below HLD hi (by decide) hl
       have hMG := hM0.get HLD hi (by decide) hl
       have v15 : vs 15 = .bool false := (k15 _ _).1 (hMG 15 (by decide) (hpre ⟨15, .guard⟩ (by simp) rfl))
       have hdp : ∀ e ∈ dep 22, l.getD e false = true := by rw [d22]; exact (dep_cons (hpre ⟨20, .data⟩ (by simp) rfl) (dep_cons (hpre ⟨21, .data⟩ (by simp) rfl) (dep_cons (hpre ⟨15, .guard⟩ (by simp) rfl) dep_nil)))
       have e := k22
       clear k0 k1 k2 k3 k4 k5 k6 k7 k8 k9 k10 k11 k12 k13 k14 k15 k16 k17 k18 k19 k20 k21 k22 k23 k24 k25 k26 d0 d1 d2 d3 d4 d5 d6 d7 d8 d9 d10 d11 d12 d13 d14 d15 d16 d17 d18 d19 d20 d21 d22 d23 d24 d25 d26 hst st0 st1 st2 st3 st4 st5 st6 st7 st8 st9 st10 st11 st12 st13 st14 st15 st16 st17 st18 st19 st20 st21 st22 st23 st24 st25 st26
       rw [v15]
       go_simp
       exact hK.out _ _ ⟨updV vs 22 (undef), (by simp [updV, v15]), hM0.still HLD HST 22 (by decide) (by decide) hl _ hdp ((e _ _).2 rfl)⟩
      ·
       simp only [List.getElem?_toArray, List.getElem?_cons_zero, List.getElem?_cons_succ, Option.some.injEq] at ho
       subst ho
       have hMB := hM0.below HLD hi (by decide) hl
       have hMG := hM0.get HLD hi (by decide) hl
       have v15 : vs 15 = .bool false := (k15 _ _).1 (hMG 15 (by decide) (hpre ⟨15, .guard⟩ (by simp) rfl))
       have hdp : ∀ e ∈ dep 23, l.getD e false = true := by rw [d23]; exact (dep_cons (hpre ⟨22, .data⟩ (by simp) rfl) (dep_cons (hpre ⟨15, .guard⟩ (by simp) rfl) dep_nil))
       have e := k23
       clear k0 k1 k2 k3 k4 k5 k6 k7 k8 k9 k10 k11 k12 k13 k14 k15 k16 k17 k18 k19 k20 k21 k22 k23 k24 k25 k26 d0 d1 d2 d3 d4 d5 d6 d7 d8 d9 d10 d11 d12 d13 d14 d15 d16 d17 d18 d19 d20 d21 d22 d23 d24 d25 d26 hst st0 st1 st2 st3 st4 st5 st6 st7 st8 st9 st10 st11 st12 st13 st14 st15 st16 st17 st18 st19 st20 st21 st22 st23 st24 st25 st26
       rw [v15]
       go_simp
       exact hK.out _ _ ⟨updV vs 23 (undef), (by simp [updV, v15]), hM0.still HLD HST 23 (by decide) (by decide) hl _ hdp ((e _ _).2 rfl)⟩
      ·
       simp only [List.getElem?_toArray, List.getElem?_cons_zero, List.getElem?_cons_succ, Option.some.injEq] at ho
       subst ho
       have hMB := hM0.below HLD hi (by decide) hl
       have hMG := hM0.get HLD hi (by decide) hl
       have v15 : vs 15 = .bool false := (k15 _ _).1 (hMG 15 (by decide) (hpre ⟨15, .guard⟩ (by simp) rfl))
       have hdp : ∀ e ∈ dep 24, l.getD e false = true := by rw [d24]; exact (dep_cons (hpre ⟨19, .data⟩ (by simp) rfl) (dep_cons (hpre ⟨23, .data⟩ (by simp) rfl) (dep_cons (hpre ⟨15, .guard⟩ (by simp) rfl) dep_nil)))
       have e := k24
       clear k0 k1 k2 k3 k4 k5 k6 k7 k8 k9 k10 k11 k12 k13 k14 k15 k16 k17 k18 k19 k20 k21 k22 k23 k24 k25 k26 d0 d1 d2 d3 d4 d5 d6 d7 d8 d9 d10 d11 d12 d13 d14 d15 d16 d17 d18 d19 d20 d21 d22 d23 d24 d25 d26 hst st0 st1 st2 st3 st4 st5 st6 st7 st8 st9 st10 st11 st12 st13 st14 st15 st16 st17 st18 st19 st20 st21 st22 st23 st24 st25 st26
       rw [v15]
       go_simp
       exact hK.out _ _ ⟨updV vs 24 (undef), (by simp [updV, v15]), hM0.still HLD HST 24 (by decide) (by decide) hl _ hdp ((e _ _).2 rfl)⟩
      ·
       simp only [List.getElem?_toArray, List.getElem?_cons_zero, List.getElem?_cons_succ, Option.some.injEq] at ho
       subst ho
       have hMB := hM0.below HLD hi (by decide) hl
       have hMG := hM0.get HLD hi (by decide) hl
       have v15 : vs 15 = .bool false := (k15 _ _).1 (hMG 15 (by decide) (hpre ⟨15, .data⟩ (by simp) rfl))
       have v24 : vs 24 = undef := (k24 _ _).1 (hMG 24 (by decide) (hpre ⟨24, .data⟩ (by simp) rfl))
       have v9 : vs 9 = .bool false := (k9 _ _).1 (hMG 9 (by decide) (hpre ⟨9, .guard⟩ (by simp) rfl))
       have hdp : ∀ e ∈ dep 25, l.getD e false = true := by rw [d25]; exact (dep_cons (hpre ⟨15, .data⟩ (by simp) rfl) (dep_cons (hpre ⟨24, .data⟩ (by simp) rfl) (dep_cons (hpre ⟨9, .guard⟩ (by simp) rfl) dep_nil)))
       have e := k25
       clear k0 k1 k2 k3 k4 k5 k6 k7 k8 k9 k10 k11 k12 k13 k14 k15 k16 k17 k18 k19 k20 k21 k22 k23 k24 k25 k26 d0 d1 d2 d3 d4 d5 d6 d7 d8 d9 d10 d11 d12 d13 d14 d15 d16 d17 d18 d19 d20 d21 d22 d23 d24 d25 d26 hst st0 st1 st2 st3 st4 st5 st6 st7 st8 st9 st10 st11 st12 st13 st14 st15 st16 st17 st18 st19 st20 st21 st22 st23 st24 st25 st26
       rw [v15, v9]
       go_simp
       exact hK.out _ _ ⟨updV vs 25 (.bool false), (by simp [updV, v15, v24, v9]), hM0.still HLD HST 25 (by decide) (by decide) hl _ hdp ((e _ _).2 rfl)⟩
      ·
       simp only [List.getElem?_toArray, List.getElem?_cons_zero, List.getElem?_cons_succ, Option.some.injEq] at ho
       subst ho
       have hMB := hM0.below HLD hi (by decide) hl
       have hMG := hM0.get HLD hi (by decide) hl
       have v9 : vs 9 = .bool false := (k9 _ _).1 (hMG 9 (by decide) (hpre ⟨9, .data⟩ (by simp) rfl))
       have v25 : vs 25 = .bool false := (k25 _ _).1 (hMG 25 (by decide) (hpre ⟨25, .data⟩ (by simp) rfl))
       have hdp : ∀ e ∈ dep 26, l.getD e false = true := by rw [d26]; exact (dep_cons (hpre ⟨9, .data⟩ (by simp) rfl) (dep_cons (hpre ⟨25, .data⟩ (by simp) rfl) dep_nil))
       have e := k26
       clear k0 k1 k2 k3 k4 k5 k6 k7 k8 k9 k10 k11 k12 k13 k14 k15 k16 k17 k18 k19 k20 k21 k22 k23 k24 k25 k26 d0 d1 d2 d3 d4 d5 d6 d7 d8 d9 d10 d11 d12 d13 d14 d15 d16 d17 d18 d19 d20 d21 d22 d23 d24 d25 d26 hst st0 st1 st2 st3 st4 st5 st6 st7 st8 st9 st10 st11 st12 st13 st14 st15 st16 st17 st18 st19 st20 st21 st22 st23 st24 st25 st26
       rw [v9, v25]
       go_simp
       exact hK.out _ _ ⟨updV vs 26 (.bool false), (by simp [updV, v9, v25]), hM0.still HLD HST 26 (by decide) (by decide) hl _ hdp ((e _ _).2 rfl)⟩
     case fin =>
      rintro l a W12 hall ⟨vs12, rfl, hM0⟩
      obtain ⟨hMB, hMG⟩ := hM0.fin0 (by decide) hall
      have HBW := hide hMB
      have v26 : vs12 26 = .bool false := (k26 _ _).1 (hMG 26 (by decide))
      rw [v26]
      clear k0 k1 k2 k3 k4 k5 k6 k7 k8 k9 k10 k11 k12 k13 k14 k15 k16 k17 k18 k19 k20 k21 k22 k23 k24 k25 k26 d0 d1 d2 d3 d4 d5 d6 d7 d8 d9 d10 d11 d12 d13 d14 d15 d16 d17 d18 d19 d20 d21 d22 d23 d24 d25 d26 hst st0 st1 st2 st3 st4 st5 st6 st7 st8 st9 st10 st11 st12 st13 st14 st15 st16 st17 st18 st19 st20 st21 st22 st23 st24 st25 st26 HLD HST hMG v26 hMB hall hM0 st
      go_wp2_with fail
      go_roundg (L.length - (jx + 1))
      case measure => omega
      case rel => exact ⟨jx + 1, by omega, by omega, by go_num, (show Aside _ from step HBD.out HBW.out)⟩
   ·
    have hltz : ¬ (jx : Int) < (L.length : Int) := by omega
    have hLp : (0 : Int) < (L.length : Int) := by have := HLM.out; omega
    have hLp2 : (L.length : Int) > 0 := hLp
    go_wp2_with fail
    go_loopg [9] GG.cells.length (fun gg s9 wr => ∃ jy : Nat, jy ≤ GG.cells.length ∧ GG.cells.length - jy ≤ gg ∧ s9 = .int .i64 jy ∧ Aside (Below V.heap.size V wr))
    case atStart => exact ⟨0, Nat.zero_le _, by omega, rfl, HBR.out⟩
    case round =>
     obtain ⟨jy, hjy, hgy, rfl, HBS⟩ := hrel
     have hKGr := HKG.out.keep (HBS.out.block W7.heap.size (by omega))
     have g2 := hKGr.1 2 _ rfl
     by_cases hlt2 : jy < GG.cells.length
     ·
      have hltz2 : (jy : Int) < (GG.cells.length : Int) := by omega
      obtain ⟨gb, go, x0, x1, x2, x3, x4, eA, hgbl, ⟨ex, hsmx⟩, k0, k1, k2, k3, k4⟩ := HG.out.at5 rfl HBS.out jy hlt2
      subst eA
      have hcx := HCS.out _ (List.getElem_mem hlt2)
      obtain ⟨x, hx⟩ : ∃ x, GG.cells[jy] = x := ⟨_, rfl⟩
      rw [hx] at ex hcx
      have q : [x0, x1, x2, x3, x4] = [.int .i64 x.row, .int .i64 x.col, .int .i64 x.rows, .int .i64 x.cols, .int .i64 x.inn] := ex
      simp only [List.cons.injEq, and_true] at q
      obtain ⟨rfl, rfl, rfl, rfl, rfl⟩ := q
      have HCX := hide hcx
      obtain ⟨q1, q2, q3, hKTr⟩ := HCB.out wr (step HBV.out HBS.out)
      have HKTr := hide hKTr
      have HKGr := hide hKGr
      clear ex hx hcx hsmx hKTr hKGr q1 q2 q3
      go_wp2_with fail
      obtain ⟨bq, hbq⟩ : ∃ bq, decide (0 < L.length) = bq := ⟨_, rfl⟩
      rw [hbq]
      clear hbq
      have ed := bdrew (brefl wr)
      have HBD := hide (bdrew HBS.out)
      have z0 : wr.drew.cell? ⟨W1.heap.size, 0, none⟩ = some (.slice Ac t.cols.length kc) := keepW ed (HKTr.out.1 0 _ rfl)
      have z1 : wr.drew.cell? ⟨W1.heap.size, 1, none⟩ = some (.int .i64 t.head) := keepW ed (HKTr.out.1 1 _ rfl)
      have z2 : wr.drew.cell? ⟨W1.heap.size, 2, none⟩ = some (.int .i64 t.foot) := keepW ed (HKTr.out.1 2 _ rfl)
      have z3 : wr.drew.cell? ⟨W1.heap.size, 3, none⟩ = some (.slice Ar t.rows.length kr) := keepW ed (HKTr.out.1 3 _ rfl)
      have z4 : wr.drew.cell? ⟨W1.heap.size, 4, none⟩ = some (.int .i64 t.gap) := keepW ed (HKTr.out.1 4 _ rfl)
      have y2 := keepW ed g2
      have q0 := keepW ed k0
      have q1 := keepW ed k1
      have q2 := keepW ed k2
      have q3 := keepW ed k3
      have q4 := keepW ed k4
      have HWC : Hid (∀ W, Below wr.drew.heap.size wr.drew W → Calls Tryz.prog 22 #[.slice AL L.length cL, .int .i64 t.gap, .agg #[.int .i64 x.row, .int .i64 x.col, .int .i64 x.rows, .int .i64 x.cols, .int .i64 x.inn]] W fun e w' => e = .returned (.int .i64 (wideG t.gap (someL L x.col x.cols))) ∧ Below W.heap.size W w') := fun W h =>
       impl_WidCell AL cL L t.gap x W (HIV.out.below (step HBD.out h)) (fun y hy => by have := HLB.out y hy; omega) (by have := HLN.out; omega) hgap (by have := HCX.out.2.1; omega) (by have := HCX.out.2.1; omega)
      have HPT : Hid (∀ W, Below wr.drew.heap.size wr.drew W → Calls Tryz.prog 24 #[.agg #[.slice Ac t.cols.length kc, .int .i64 t.head, .int .i64 t.foot, .slice Ar t.rows.length kr, .int .i64 t.gap], .agg #[.int .i64 x.row, .int .i64 x.col, .int .i64 x.rows, .int .i64 x.cols, .int .i64 x.inn]] W fun e w' => e = .returned (.string (textOf t x)) ∧ Below W.heap.size W w') := fun W h =>
       laws_pwText t Ac kc Ar kr x W (HCB.out W (step HBV.out (step HBD.out h))).2.2.1 HCX.out.1
      have hsz : (textOf t x).size ≤ 1048576 := text_size (any_sized HT.out) HCX.out.1
      have HTL : Hid (∀ W, Below wr.drew.heap.size wr.drew W → Calls Tryz.prog 23 #[.string (textOf t x)] W fun e w' => e = .returned (.int .i64 (leastT (textOf t x))) ∧ Below W.heap.size W w') := fun W h =>
       impl_TxtLeast (textOf t x) W hsz (HCB.out W (step HBV.out (step HBD.out h))).1
      have hle := HCX.out.2.2
      obtain ⟨wq, hwq⟩ : ∃ wq, wideG t.gap (someL L x.col x.cols) = wq := ⟨_, rfl⟩
      obtain ⟨tx, htx⟩ : ∃ tx, textOf t x = tx := ⟨_, rfl⟩
      obtain ⟨lt, hlt9⟩ : ∃ lt, leastT tx = lt := ⟨_, rfl⟩
      rw [hwq] at HWC hle
      rw [htx] at HPT HTL hle
      rw [hlt9] at HTL hle
      have hd : decide (wq < lt) = false := by simp; omega
      clear hwq htx hlt9 hsz hle ed k0 k1 k2 k3 k4 g2 hLp hLp2
      obtain ⟨vals, hvals⟩ : ∃ f : Nat → Value, f = (fun j => match j with | 0 => .slice AL L.length cL | 1 => .pointer (some ⟨W1.heap.size, 4, none⟩) | 2 => .int .i64 t.gap | 3 => .pointer (some ⟨W7.heap.size, 2, none⟩) | 4 => .slice (some ⟨gb, go, none⟩) GG.cells.length gc | 5 => .int .i64 ↑jy | 6 => .pointer (some ⟨gb, go + jy * 5, none⟩) | 7 => .agg #[.int .i64 x.row, .int .i64 x.col, .int .i64 x.rows, .int .i64 x.cols, .int .i64 x.inn] | 8 => .int .i64 wq | 9 => .agg #[.slice Ac t.cols.length kc, .int .i64 t.head, .int .i64 t.foot, .slice Ar t.rows.length kr, .int .i64 t.gap] | 10 => .pointer (some ⟨W7.heap.size, 2, none⟩) | 11 => .slice (some ⟨gb, go, none⟩) GG.cells.length gc | 12 => .int .i64 ↑jy | 13 => .pointer (some ⟨gb, go + jy * 5, none⟩) | 14 => .agg #[.int .i64 x.row, .int .i64 x.col, .int .i64 x.rows, .int .i64 x.cols, .int .i64 x.inn] | 15 => .string tx | 16 => .int .i64 lt | 17 => .bool false | _ => undef) := ⟨_, rfl⟩
      have e0 : vals 0 = .slice AL L.length cL := congrFun hvals 0
      have e1 : vals 1 = .pointer (some ⟨W1.heap.size, 4, none⟩) := congrFun hvals 1
      have e2 : vals 2 = .int .i64 t.gap := congrFun hvals 2
      have e3 : vals 3 = .pointer (some ⟨W7.heap.size, 2, none⟩) := congrFun hvals 3
      have e4 : vals 4 = .slice (some ⟨gb, go, none⟩) GG.cells.length gc := congrFun hvals 4
      have e5 : vals 5 = .int .i64 ↑jy := congrFun hvals 5
      have e6 : vals 6 = .pointer (some ⟨gb, go + jy * 5, none⟩) := congrFun hvals 6
      have e7 : vals 7 = .agg #[.int .i64 x.row, .int .i64 x.col, .int .i64 x.rows, .int .i64 x.cols, .int .i64 x.inn] := congrFun hvals 7
      have e8 : vals 8 = .int .i64 wq := congrFun hvals 8
      have e9 : vals 9 = .agg #[.slice Ac t.cols.length kc, .int .i64 t.head, .int .i64 t.foot, .slice Ar t.rows.length kr, .int .i64 t.gap] := congrFun hvals 9
      have e10 : vals 10 = .pointer (some ⟨W7.heap.size, 2, none⟩) := congrFun hvals 10
      have e11 : vals 11 = .slice (some ⟨gb, go, none⟩) GG.cells.length gc := congrFun hvals 11
      have e12 : vals 12 = .int .i64 ↑jy := congrFun hvals 12
      have e13 : vals 13 = .pointer (some ⟨gb, go + jy * 5, none⟩) := congrFun hvals 13
      have e14 : vals 14 = .agg #[.int .i64 x.row, .int .i64 x.col, .int .i64 x.rows, .int .i64 x.cols, .int .i64 x.inn] := congrFun hvals 14
      have e15 : vals 15 = .string tx := congrFun hvals 15
      have e16 : vals 16 = .int .i64 lt := congrFun hvals 16
      have e17 : vals 17 = .bool false := congrFun hvals 17
      clear hvals
      refine wp_region_inv (fun l a W => ∃ vs : Nat → Value, a = ⟨List.toArray (.slice A n c :: undef :: u2 :: .pointer (some ⟨W1.heap.size, 0, none⟩) :: .int .i64 wd :: .slice AL L.length cL :: .slice AX X.length cX :: .pointer (some ⟨W7.heap.size, 0, none⟩) :: .int .i64 ↑jx :: .int .i64 ↑jy :: .slice A n c :: .int .i64 ↑n :: .bool false :: .tuple #[.agg #[.slice Ac t.cols.length kc, .int .i64 t.head, .int .i64 t.foot, .slice Ar t.rows.length kr, .int .i64 t.gap], .int .i64 wd] :: .slice A n c :: .tuple #[.agg #[.slice Ac t.cols.length kc, .int .i64 t.head, .int .i64 t.foot, .slice Ar t.rows.length kr, .int .i64 t.gap], .int .i64 wd] :: .agg #[.slice Ac t.cols.length kc, .int .i64 t.head, .int .i64 t.foot, .slice Ar t.rows.length kr, .int .i64 t.gap] :: .int .i64 wd :: .agg #[.slice Ac t.cols.length kc, .int .i64 t.head, .int .i64 t.foot, .slice Ar t.rows.length kr, .int .i64 t.gap] :: .int .i64 wd :: .slice AL L.length cL :: .slice AL L.length cL :: .agg #[.slice Ac t.cols.length kc, .int .i64 t.head, .int .i64 t.foot, .slice Ar t.rows.length kr, .int .i64 t.gap] :: .int .i64 wd :: .slice AM L.length cM :: .bool true :: .bool false :: .agg #[.slice Ac t.cols.length kc, .int .i64 t.head, .int .i64 t.foot, .slice Ar t.rows.length kr, .int .i64 t.gap] :: .slice AX X.length cX :: .agg #[.slice Ac t.cols.length kc, .int .i64 t.head, .int .i64 t.foot, .slice Ar t.rows.length kr, .int .i64 t.gap] :: .agg #[.int .i64 GG.rows, .int .i64 GG.cols, .slice (some ⟨gb, go, none⟩) GG.cells.length gc] :: .int .i64 ↑jx :: .slice AL L.length cL :: .int .i64 ↑L.length :: .bool false :: u35 :: u36 :: u37 :: u38 :: u39 :: u40 :: u41 :: u42 :: u43 :: u44 :: u45 :: u46 :: u47 :: u48 :: u49 :: u50 :: u51 :: u52 :: u53 :: u54 :: u55 :: u56 :: u57 :: u58 :: u59 :: u60 :: u61 :: u62 :: u63 :: .int .i64 ↑jy :: .pointer (some ⟨W7.heap.size, 2, none⟩) :: .slice (some ⟨gb, go, none⟩) GG.cells.length gc :: .int .i64 ↑GG.cells.length :: .bool true :: .bool true :: .slice AL L.length cL :: .int .i64 ↑L.length :: .bool bq :: .bool bq :: u74 :: u75 :: vs 0 :: vs 1 :: vs 2 :: vs 3 :: vs 4 :: vs 5 :: vs 6 :: vs 7 :: vs 8 :: vs 9 :: vs 10 :: vs 11 :: vs 12 :: vs 13 :: vs 14 :: vs 15 :: vs 16 :: vs 17 :: undef :: []), []⟩ ∧ BMid vals 18 (wr.drew) l vs W) (by kernel_rfl) ?top ?start ?step ?fin
      case top =>
       clear e0 e1 e2 e3 e4 e5 e6 e7 e8 e9 e10 e11 e12 e13 e14 e15 e16 e17
       intro j o ho e he
       have hj : j < 18 := (Array.getElem?_eq_some_iff.1 ho).1
       have hA : (o.after.all fun e => decide (e.on < j)) = true := by
        obtain rfl | rfl | rfl | rfl | rfl | rfl | rfl | rfl | rfl | rfl | rfl | rfl | rfl | rfl | rfl | rfl | rfl | rfl : j = 0 ∨ j = 1 ∨ j = 2 ∨ j = 3 ∨ j = 4 ∨ j = 5 ∨ j = 6 ∨ j = 7 ∨ j = 8 ∨ j = 9 ∨ j = 10 ∨ j = 11 ∨ j = 12 ∨ j = 13 ∨ j = 14 ∨ j = 15 ∨ j = 16 ∨ j = 17 := by omega
        all_goals
         simp only [List.getElem?_toArray, List.getElem?_cons_zero, List.getElem?_cons_succ, Option.some.injEq] at ho
         subst ho
         first | decide | kernel_rfl | simp
       simpa using Array.all_eq_true'.1 hA e he
      case start => exact ⟨(fun j => match j with | 0 => u76 | 1 => u77 | 2 => u78 | 3 => u79 | 4 => u80 | 5 => u81 | 6 => u82 | 7 => u83 | 8 => u84 | 9 => u85 | 10 => u86 | 11 => u87 | 12 => u88 | 13 => u89 | 14 => u90 | 15 => u91 | 16 => u92 | 17 => u93 | _ => undef), rfl, BMid.start⟩
      case step =>
       rintro l a W i o ho hl hpre hsz ⟨vs, rfl, hM⟩ K hK
       have hi : i < 18 := (Array.getElem?_eq_some_iff.1 ho).1
       obtain rfl | rfl | rfl | rfl | rfl | rfl | rfl | rfl | rfl | rfl | rfl | rfl | rfl | rfl | rfl | rfl | rfl | rfl : i = 0 ∨ i = 1 ∨ i = 2 ∨ i = 3 ∨ i = 4 ∨ i = 5 ∨ i = 6 ∨ i = 7 ∨ i = 8 ∨ i = 9 ∨ i = 10 ∨ i = 11 ∨ i = 12 ∨ i = 13 ∨ i = 14 ∨ i = 15 ∨ i = 16 ∨ i = 17 := by omega
       ·
        simp only [List.getElem?_toArray, List.getElem?_cons_zero, List.getElem?_cons_succ, Option.some.injEq] at ho
        subst ho
        have e := e0
        clear e0 e1 e2 e3 e4 e5 e6 e7 e8 e9 e10 e11 e12 e13 e14 e15 e16 e17
        go_simp
        exact hK.out _ _ ⟨updV vs 0 (.slice AL L.length cL), rfl, hM.still 0 _ e.symm⟩
       ·
        simp only [List.getElem?_toArray, List.getElem?_cons_zero, List.getElem?_cons_succ, Option.some.injEq] at ho
        subst ho
        have e := e1
        clear e0 e1 e2 e3 e4 e5 e6 e7 e8 e9 e10 e11 e12 e13 e14 e15 e16 e17
        go_simp
        exact hK.out _ _ ⟨updV vs 1 (.pointer (some ⟨W1.heap.size, 4, none⟩)), rfl, hM.still 1 _ e.symm⟩
       ·
        simp only [List.getElem?_toArray, List.getElem?_cons_zero, List.getElem?_cons_succ, Option.some.injEq] at ho
        subst ho
        have v1 : vs 1 = .pointer (some ⟨W1.heap.size, 4, none⟩) := (hM.held 1 (hpre ⟨1, .data⟩ (by simp) rfl)).trans e1
        have e := e2
        clear e0 e1 e2 e3 e4 e5 e6 e7 e8 e9 e10 e11 e12 e13 e14 e15 e16 e17
        have x0 := keepW hM.below z4
        rw [v1]
        go_simp
        exact hK.out _ _ ⟨updV vs 2 (.int .i64 t.gap), by simp [updV, v1], hM.still 2 _ e.symm⟩
       ·
        simp only [List.getElem?_toArray, List.getElem?_cons_zero, List.getElem?_cons_succ, Option.some.injEq] at ho
        subst ho
        have e := e3
        clear e0 e1 e2 e3 e4 e5 e6 e7 e8 e9 e10 e11 e12 e13 e14 e15 e16 e17
        go_simp
        exact hK.out _ _ ⟨updV vs 3 (.pointer (some ⟨W7.heap.size, 2, none⟩)), rfl, hM.still 3 _ e.symm⟩
       ·
        simp only [List.getElem?_toArray, List.getElem?_cons_zero, List.getElem?_cons_succ, Option.some.injEq] at ho
        subst ho
        have v3 : vs 3 = .pointer (some ⟨W7.heap.size, 2, none⟩) := (hM.held 3 (hpre ⟨3, .data⟩ (by simp) rfl)).trans e3
        have e := e4
        clear e0 e1 e2 e3 e4 e5 e6 e7 e8 e9 e10 e11 e12 e13 e14 e15 e16 e17
        have x0 := keepW hM.below y2
        rw [v3]
        go_simp
        exact hK.out _ _ ⟨updV vs 4 (.slice (some ⟨gb, go, none⟩) GG.cells.length gc), by simp [updV, v3], hM.still 4 _ e.symm⟩
       ·
        simp only [List.getElem?_toArray, List.getElem?_cons_zero, List.getElem?_cons_succ, Option.some.injEq] at ho
        subst ho
        have e := e5
        clear e0 e1 e2 e3 e4 e5 e6 e7 e8 e9 e10 e11 e12 e13 e14 e15 e16 e17
        go_simp
        exact hK.out _ _ ⟨updV vs 5 (.int .i64 ↑jy), rfl, hM.still 5 _ e.symm⟩
       ·
        simp only [List.getElem?_toArray, List.getElem?_cons_zero, List.getElem?_cons_succ, Option.some.injEq] at ho
        subst ho
        have v4 : vs 4 = .slice (some ⟨gb, go, none⟩) GG.cells.length gc := (hM.held 4 (hpre ⟨4, .data⟩ (by simp) rfl)).trans e4
        have v5 : vs 5 = .int .i64 ↑jy := (hM.held 5 (hpre ⟨5, .data⟩ (by simp) rfl)).trans e5
        have e := e6
        clear e0 e1 e2 e3 e4 e5 e6 e7 e8 e9 e10 e11 e12 e13 e14 e15 e16 e17
        rw [v4, v5]
        go_simp
        exact hK.out _ _ ⟨updV vs 6 (.pointer (some ⟨gb, go + jy * 5, none⟩)), by simp [updV, v4, v5], hM.still 6 _ e.symm⟩
       ·
        simp only [List.getElem?_toArray, List.getElem?_cons_zero, List.getElem?_cons_succ, Option.some.injEq] at ho
        subst ho
        have v6 : vs 6 = .pointer (some ⟨gb, go + jy * 5, none⟩) := (hM.held 6 (hpre ⟨6, .data⟩ (by simp) rfl)).trans e6
        have e := e7
        clear e0 e1 e2 e3 e4 e5 e6 e7 e8 e9 e10 e11 e12 e13 e14 e15 e16 e17
        have x0 := keepW hM.below q0
        have x1 := keepW hM.below q1
        have x2 := keepW hM.below q2
        have x3 := keepW hM.below q3
        have x4 := keepW hM.below q4
        rw [v6]
        go_simp
        exact hK.out _ _ ⟨updV vs 7 (.agg #[.int .i64 x.row, .int .i64 x.col, .int .i64 x.rows, .int .i64 x.cols, .int .i64 x.inn]), by simp [updV, v6], hM.still 7 _ e.symm⟩
       ·
        simp only [List.getElem?_toArray, List.getElem?_cons_zero, List.getElem?_cons_succ, Option.some.injEq] at ho
        subst ho
        have v0 : vs 0 = .slice AL L.length cL := (hM.held 0 (hpre ⟨0, .data⟩ (by simp) rfl)).trans e0
        have v2 : vs 2 = .int .i64 t.gap := (hM.held 2 (hpre ⟨2, .data⟩ (by simp) rfl)).trans e2
        have v7 : vs 7 = .agg #[.int .i64 x.row, .int .i64 x.col, .int .i64 x.rows, .int .i64 x.cols, .int .i64 x.inn] := (hM.held 7 (hpre ⟨7, .data⟩ (by simp) rfl)).trans e7
        have e := e8
        clear e0 e1 e2 e3 e4 e5 e6 e7 e8 e9 e10 e11 e12 e13 e14 e15 e16 e17
        rw [v0, v2, v7]
        go_simp
        refine (HWC.out _ hM.below).mono ?_
        rintro e5 W5 ⟨rfl, hb5⟩
        exact hK.out _ _ ⟨updV vs 8 (.int .i64 wq), by simp [updV, v0, v2, v7], hM.next 8 _ e.symm hb5⟩
       ·
        simp only [List.getElem?_toArray, List.getElem?_cons_zero, List.getElem?_cons_succ, Option.some.injEq] at ho
        subst ho
        have e := e9
        clear e0 e1 e2 e3 e4 e5 e6 e7 e8 e9 e10 e11 e12 e13 e14 e15 e16 e17
        have x0 := keepW hM.below z0
        have x1 := keepW hM.below z1
        have x2 := keepW hM.below z2
        have x3 := keepW hM.below z3
        have x4 := keepW hM.below z4
        go_simp
        exact hK.out _ _ ⟨updV vs 9 (.agg #[.slice Ac t.cols.length kc, .int .i64 t.head, .int .i64 t.foot, .slice Ar t.rows.length kr, .int .i64 t.gap]), rfl, hM.still 9 _ e.symm⟩
       ·
        simp only [List.getElem?_toArray, List.getElem?_cons_zero, List.getElem?_cons_succ, Option.some.injEq] at ho
        subst ho
        have e := e10
        clear e0 e1 e2 e3 e4 e5 e6 e7 e8 e9 e10 e11 e12 e13 e14 e15 e16 e17
        go_simp
        exact hK.out _ _ ⟨updV vs 10 (.pointer (some ⟨W7.heap.size, 2, none⟩)), rfl, hM.still 10 _ e.symm⟩
       ·
        simp only [List.getElem?_toArray, List.getElem?_cons_zero, List.getElem?_cons_succ, Option.some.injEq] at ho
        subst ho
        have v10 : vs 10 = .pointer (some ⟨W7.heap.size, 2, none⟩) := (hM.held 10 (hpre ⟨10, .data⟩ (by simp) rfl)).trans e10
        have e := e11
        clear e0 e1 e2 e3 e4 e5 e6 e7 e8 e9 e10 e11 e12 e13 e14 e15 e16 e17
        have x0 := keepW hM.below y2
        rw [v10]
        go_simp
        exact hK.out _ _ ⟨updV vs 11 (.slice (some ⟨gb, go, none⟩) GG.cells.length gc), by simp [updV, v10], hM.still 11 _ e.symm⟩
       ·
        simp only [List.getElem?_toArray, List.getElem?_cons_zero, List.getElem?_cons_succ, Option.some.injEq] at ho
        subst ho
        have e := e12
        clear e0 e1 e2 e3 e4 e5 e6 e7 e8 e9 e10 e11 e12 e13 e14 e15 e16 e17
        go_simp
        exact hK.out _ _ ⟨updV vs 12 (.int .i64 ↑jy), rfl, hM.still 12 _ e.symm⟩
       ·
        simp only [List.getElem?_toArray, List.getElem?_cons_zero, List.getElem?_cons_succ, Option.some.injEq] at ho
        subst ho
        have v11 : vs 11 = .slice (some ⟨gb, go, none⟩) GG.cells.length gc := (hM.held 11 (hpre ⟨11, .data⟩ (by simp) rfl)).trans e11
        have v12 : vs 12 = .int .i64 ↑jy := (hM.held 12 (hpre ⟨12, .data⟩ (by simp) rfl)).trans e12
        have e := e13
        clear e0 e1 e2 e3 e4 e5 e6 e7 e8 e9 e10 e11 e12 e13 e14 e15 e16 e17
        rw [v11, v12]
        go_simp
        exact hK.out _ _ ⟨updV vs 13 (.pointer (some ⟨gb, go + jy * 5, none⟩)), by simp [updV, v11, v12], hM.still 13 _ e.symm⟩
       ·
        simp only [List.getElem?_toArray, List.getElem?_cons_zero, List.getElem?_cons_succ, Option.some.injEq] at ho
        subst ho
        have v13 : vs 13 = .pointer (some ⟨gb, go + jy * 5, none⟩) := (hM.held 13 (hpre ⟨13, .data⟩ (by simp) rfl)).trans e13
        have e := e14
        clear e0 e1 e2 e3 e4 e5 e6 e7 e8 e9 e10 e11 e12 e13 e14 e15 e16 e17
        have x0 := keepW hM.below q0
        have x1 := keepW hM.below q1
        have x2 := keepW hM.below q2
        have x3 := keepW hM.below q3
        have x4 := keepW hM.below q4
        rw [v13]
        go_simp
        exact hK.out _ _ ⟨updV vs 14 (.agg #[.int .i64 x.row, .int .i64 x.col, .int .i64 x.rows, .int .i64 x.cols, .int .i64 x.inn]), by simp [updV, v13], hM.still 14 _ e.symm⟩
       ·
        simp only [List.getElem?_toArray, List.getElem?_cons_zero, List.getElem?_cons_succ, Option.some.injEq] at ho
        subst ho
        have v9 : vs 9 = .agg #[.slice Ac t.cols.length kc, .int .i64 t.head, .int .i64 t.foot, .slice Ar t.rows.length kr, .int .i64 t.gap] := (hM.held 9 (hpre ⟨9, .data⟩ (by simp) rfl)).trans e9
        have v14 : vs 14 = .agg #[.int .i64 x.row, .int .i64 x.col, .int .i64 x.rows, .int .i64 x.cols, .int .i64 x.inn] := (hM.held 14 (hpre ⟨14, .data⟩ (by simp) rfl)).trans e14
        have v8 : vs 8 = .int .i64 wq := (hM.held 8 (hpre ⟨8, .chain⟩ (by simp) rfl)).trans e8
        have e := e15
        clear e0 e1 e2 e3 e4 e5 e6 e7 e8 e9 e10 e11 e12 e13 e14 e15 e16 e17
        rw [v9, v14, v8]
        go_simp
        refine (HPT.out _ hM.below).mono ?_
        rintro e5 W5 ⟨rfl, hb5⟩
        exact hK.out _ _ ⟨updV vs 15 (.string tx), by simp [updV, v9, v14, v8], hM.next 15 _ e.symm hb5⟩
       ·
        simp only [List.getElem?_toArray, List.getElem?_cons_zero, List.getElem?_cons_succ, Option.some.injEq] at ho
        subst ho
        have v15 : vs 15 = .string tx := (hM.held 15 (hpre ⟨15, .data⟩ (by simp) rfl)).trans e15
        have e := e16
        clear e0 e1 e2 e3 e4 e5 e6 e7 e8 e9 e10 e11 e12 e13 e14 e15 e16 e17
        rw [v15]
        go_simp
        refine (HTL.out _ hM.below).mono ?_
        rintro e5 W5 ⟨rfl, hb5⟩
        exact hK.out _ _ ⟨updV vs 16 (.int .i64 lt), by simp [updV, v15], hM.next 16 _ e.symm hb5⟩
       ·
        simp only [List.getElem?_toArray, List.getElem?_cons_zero, List.getElem?_cons_succ, Option.some.injEq] at ho
        subst ho
        have v8 : vs 8 = .int .i64 wq := (hM.held 8 (hpre ⟨8, .data⟩ (by simp) rfl)).trans e8
        have v16 : vs 16 = .int .i64 lt := (hM.held 16 (hpre ⟨16, .data⟩ (by simp) rfl)).trans e16
        have e := e17
        clear e0 e1 e2 e3 e4 e5 e6 e7 e8 e9 e10 e11 e12 e13 e14 e15 e16 e17
        rw [v8, v16]
        go_simp
        exact hK.out _ _ ⟨updV vs 17 (.bool false), by simp [updV, v8, v16], hM.still 17 _ e.symm⟩
      case fin =>
       rintro l a W17 hall ⟨vs17, rfl, hM⟩
       have HBW := hide hM.below
       have v17 : vs17 17 = .bool false := (hM.held 17 (by rw [getD_any (by rw [hM.size]; decide) false true]; exact hall 17 (by decide))).trans e17
       rw [v17]
       have hgl := HHD.out
       clear v17 hall hM e0 e1 e2 e3 e4 e5 e6 e7 e8 e9 e10 e11 e12 e13 e14 e15 e16 e17
       go_wp2_with fail
       go_roundg (GG.cells.length - (jy + 1))
       case measure => omega
       case rel => exact ⟨jy + 1, by omega, by omega, by go_num, (show Aside _ from step HBD.out HBW.out)⟩
     ·
      have hltz2 : ¬ (jy : Int) < (GG.cells.length : Int) := by omega
      have hPW := laws_pwOk wr (HCB.out wr (step HBV.out HBS.out)).1
      clear hKGr
      go_wp2_with fail
      refine hPW.mono ?_
      rintro e W9 ⟨rfl, hb9⟩
      have HB9 := hide (step HBS.out hb9)
      clear hPW hb9 g2
      go_wp2_with fail
      go_ret
      exact ⟨rfl, step HB1.out (step HBV.out HB9.out)⟩
 ·
  have hnil : L = [] := by rw [← HL.out]; unfold widColsL; rw [if_neg hq]
  have hl0 : L.length = 0 := by rw [hnil]; rfl
  rw [hl0]
  clear hnil hq
  have hPW := laws_pwOk V (HCB.out V HBV.out).1
  have g2 := HKG.out.1 2 _ rfl
  go_loopg [8] 0 (fun gg s8 wr => s8 = .int .i64 0 ∧ wr = V)
  case atStart => exact ⟨rfl, rfl⟩
  case round =>
   obtain ⟨rfl, rfl⟩ := hrel
   go_wp2_with fail
   go_loopg [9] 0 (fun gg s9 wz => s9 = .int .i64 0 ∧ wz = wr)
   case atStart => exact ⟨rfl, rfl⟩
   case round =>
    obtain ⟨rfl, rfl⟩ := hrel
    by_cases hz : 0 < GG.cells.length
    ·
     have hzz : (0 : Int) < (GG.cells.length : Int) := by omega
     go_wp2_with fail
     refine hPW.mono ?_
     rintro e W9 ⟨rfl, hb9⟩
     go_wp2_with fail
     go_ret
     exact ⟨rfl, step HB1.out (step HBV.out hb9)⟩
    ·
     have hzz : ¬ (0 : Int) < (GG.cells.length : Int) := by omega
     go_wp2_with fail
     refine hPW.mono ?_
     rintro e W9 ⟨rfl, hb9⟩
     go_wp2_with fail
     go_ret
     exact ⟨rfl, step HB1.out (step HBV.out hb9)⟩
end Go.Proofs.YtpfagdmmhgcmnaaGreatDoor
