import Derived.Test.YtpfagdmmhgcmnaaGreatDoorMixWh
import Derived.Test.YtpfagdmmhgcmnaaGreatDoorMixWj
import Derived.Test.YtpfagdmmhgcmnaaGreatDoorMixUc
set_option linter.unusedVariables false
set_option linter.unusedSimpArgs false
namespace Go.Proofs.YtpfagdmmhgcmnaaGreatDoor
open Go.RowKit
theorem wantsF_get {t : Tbl} {q : Int} {f : Nat → Int} {X : List Int} {n : Nat} (hl : X.length = n) (j : Nat) (hj : j < n) : (wantsF t q f X).getD j 0 = if kindT t j = q then max (f j - X.getD j 0) 0 else 0 := by
 unfold wantsF
 rw [mapIdx_getD _ _ _ (by omega)]
theorem widParts_ok {t : Tbl} (h : tblOk t = true) {k : Nat} (hy : GoodRows t k) {width : Int} (hw : 0 ≤ width ∧ width ≤ 300) : ∃ n : Nat, (1 ≤ n ∧ n ≤ 90) ∧ (colLeastL 400 t).length = n ∧ (widColsL 400 t width).length = n ∧ (∀ x ∈ colLeastL 400 t, 0 ≤ x ∧ x ≤ 60) ∧
  ∀ j, j < n → kindT t j = 2 → sumI (wantsF t 2 (fun k => width * numT t k / 100) (colLeastL 400 t)) ≤ width - wideG t.gap (colLeastL 400 t) → width * numT t j / 100 ≤ (widColsL 400 t width).getD j 0 := by
 obtain ⟨n, _, hn1, hl, _, he, hlw, _, hb⟩ := widCols_ok h hy hw
 refine ⟨n, hn1, hl, hlw, hb, fun j hj hk hs => ?_⟩
 rw [he]
 exact widths_parts (kind := kindT t) (nn := numT t) (gap := t.gap) (wish := colWishL 400 t) hs (by omega) hk
set_option linter.unusedSimpArgs false in
set_option maxRecDepth 100000 in
set_option maxHeartbeats 40000000 in
theorem law_FnWidParts (A : Option Addr) (n c : Nat) (w : World) (hw : Base w) (h : BytesAt w A n c) :
  Calls Tryz.prog 9 #[.slice A n c] w fun e w' => e = .returned (.bool true) ∧ Below w.heap.size w w' := by
 have hD := spec_DrawWidCols A n c w h
 have HW := hide hw
 have hn1 := h.1
 clear h hw
 by_cases hb1 : (1048576 : Int) < n
 ·
  clear hD
  go_enter Tryz.func9, Tryz.ntmps9
  go_wp2_with fail
  go_ret
  exact ⟨rfl, brefl w⟩
 go_enter Tryz.func9, Tryz.ntmps9
 go_wp2_with fail
 refine hD.mono ?_
 rintro e W1 ⟨t, vc, vr, wd, rfl, htb, hwd, hO1, hB1⟩
 obtain ⟨⟨Ac, kc, rfl⟩, Ar, kr, rfl⟩ := hO1.form
 obtain ⟨k, hy⟩ := htb.good
 have hs1 : w.heap.size ≤ W1.heap.size := hB1.size
 have HY := hide hy
 obtain ⟨V1, hV1⟩ : ∃ V, V = W1.alloc (.cells #[.slice Ac t.cols.length kc, .int .i64 t.head, .int .i64 t.foot, .slice Ar t.rows.length kr, .int .i64 t.gap] 26) := ⟨_, rfl⟩
 have hK1 : BlockAt V1 W1.heap.size [.slice Ac t.cols.length kc, .int .i64 t.head, .int .i64 t.foot, .slice Ar t.rows.length kr, .int .i64 t.gap] := by rw [hV1]; exact BlockAt.new W1 _ _
 have hz1 : V1.heap.size = W1.heap.size + 1 := by rw [hV1]; simp
 have HB1 : Hid (Below w.heap.size w V1) := by rw [hV1]; exact balloc hB1 _
 have HC1 : Hid (Rd colR V1 Ac t.cols) := by rw [hV1]; exact hO1.rdc.below (balloc (brefl _) _)
 have HR1 : Hid (Rd rowR V1 Ar t.rows) := by rw [hV1]; exact (hO1.rdr (any_sized htb)).below (balloc (brefl _) _)
 have HCB : Hid (∀ W, Below V1.heap.size V1 W → Base W ∧ Rd colR W Ac t.cols ∧ Rd rowR W Ar t.rows ∧ BlockAt W W1.heap.size [.slice Ac t.cols.length kc, .int .i64 t.head, .int .i64 t.foot, .slice Ar t.rows.length kr, .int .i64 t.gap]) := fun W h => ⟨HW.out.below (step HB1.out h), HC1.out.below h, HR1.out.below h, hK1.keep (h.block _ (by omega))⟩
 have hE1 := impl_WidCols t Ac kc Ar kr wd V1 (HW.out.below HB1.out) HC1.out HR1.out hy
 have HT := hide htb
 have HV := hide hV1
 clear hD htb hO1 hB1 hy hV1 hK1
 obtain ⟨L, hL⟩ : ∃ L, widColsL 400 t wd = L := ⟨_, rfl⟩
 rw [hL] at hE1
 have HL := hide hL
 have hlen : L.length ≤ 90 := by
  rw [← hL]
  by_cases hq : tblOk t = true ∧ 0 ≤ wd ∧ wd ≤ 300
  ·
   obtain ⟨n, _, h2, _, _, _, h3, _⟩ := widCols_ok hq.1 HY.out hq.2
   omega
  ·
   unfold widColsL; rw [if_neg hq]; exact Nat.zero_le _
 have HLN := hide hlen
 obtain ⟨_, _, _, hK1⟩ := HCB.out V1 (brefl V1)
 have f0 := hK1.1 0 _ rfl
 have f1 := hK1.1 1 _ rfl
 have f2 := hK1.1 2 _ rfl
 have f3 := hK1.1 3 _ rfl
 have f4 := hK1.1 4 _ rfl
 clear hL hK1 hlen
 go_wp2_with fail
 rw [← HV.out]
 refine hE1.mono ?_
 rintro e W2 ⟨v, rfl, hI2, hb2⟩
 obtain ⟨AL, cL, rfl⟩ := hI2.form
 have HI2 := hide (irow_rd hI2)
 have HB2 := hide hb2
 obtain ⟨q1, q2, q3, hK2⟩ := HCB.out W2 hb2
 have hE3 := spec_WidCols t Ac kc Ar kr wd W2 q2 q3 HY.out
 rw [widCols_two HY.out, HL.out] at hE3
 have g0 := hK2.1 0 _ rfl
 have g1 := hK2.1 1 _ rfl
 have g2 := hK2.1 2 _ rfl
 have g3 := hK2.1 3 _ rfl
 have g4 := hK2.1 4 _ rfl
 clear f0 f1 f2 f3 f4 hI2 hb2 hE1 hK2 HV q1 q2 q3
 go_wp2_with fail
 refine hE3.mono ?_
 rintro e W4 ⟨v, rfl, hI4, hb4⟩
 obtain ⟨AM, cM, rfl⟩ := hI4.form
 have hP := laws_pwInts AL cL AM cM L W4 (HI2.out.below hb4) (irow_rd hI4) (by have := HLN.out; omega)
 have HI4 := hide (HI2.out.below hb4)
 have HB4 := hide (step HB2.out hb4)
 clear hI4 hb4 hE3 g0 g1 g2 g3 g4
 go_wp2_with fail
 refine hP.mono ?_
 rintro e W5 ⟨rfl, nq, hq⟩
 have hb5 : Below W4.heap.size W4 W5 := by rw [hq]; exact bdrewN (brefl _) _
 have HI5 := hide (HI4.out.below hb5)
 have HB5 := hide (step HB4.out hb5)
 obtain ⟨q1, q2, q3, hK5⟩ := HCB.out W5 HB5.out
 by_cases hqq : tblOk t = true ∧ 0 ≤ wd ∧ wd ≤ 300
 ·
  obtain ⟨m, hm1, hlx, hlm, hxb, hpart⟩ := widParts_ok hqq.1 HY.out hqq.2
  have hE5 := impl_ColLeast t Ac kc Ar kr W5 q1 q2 q3 HY.out
  obtain ⟨fl, hfl⟩ : ∃ fl, wideG t.gap (colLeastL 400 t) = fl := ⟨_, rfl⟩
  have hCF : Hid (∀ W, Below V1.heap.size V1 W → Calls Tryz.prog 37 #[.agg #[.slice Ac t.cols.length kc, .int .i64 t.head, .int .i64 t.foot, .slice Ar t.rows.length kr, .int .i64 t.gap]] W fun e w' => e = .returned (.int .i64 fl) ∧ Below W.heap.size W w') := fun W h => by
   obtain ⟨q1, q2, q3, _⟩ := HCB.out W h
   have h9 := impl_ColFloor2 t Ac kc Ar kr W q1 q2 q3 HY.out
   rw [hfl] at h9
   exact h9
  have hfl1 : 0 ≤ fl ∧ fl ≤ 100000 := by
   have hg := (tblOk_parts hqq.1).2.2.1
   obtain ⟨s1, s2⟩ := sum_le 60 _ hxb
   have hm := Int.mul_nonneg hg.1 (show 0 ≤ max (((colLeastL 400 t).length : Int) - 1) 0 by omega)
   have hm2 : t.gap * max (((colLeastL 400 t).length : Int) - 1) 0 ≤ 3 * max (((colLeastL 400 t).length : Int) - 1) 0 := Int.mul_le_mul_of_nonneg_right hg.2 (by omega)
   have : fl = sumI (colLeastL 400 t) + t.gap * max (((colLeastL 400 t).length : Int) - 1) 0 := hfl.symm
   omega
  rw [hfl] at hpart
  have hPP : ∀ j, j < m → (wantsF t 2 (fun k => wd * numT t k / 100) (colLeastL 400 t)).getD j 0 = if kindT t j = 2 then max (wd * numT t j / 100 - (colLeastL 400 t).getD j 0) 0 else 0 := fun j hj => wantsF_get hlx j hj
  obtain ⟨pl, pb⟩ := wantsF_in (t := t) (q := 2) (f := fun k => wd * numT t k / 100) hlx (fun x hx => (hxb x hx).1) (fun k _ => (part_in hqq.1 hqq.2 k).2)
  generalize wantsF t 2 (fun k => wd * numT t k / 100) (colLeastL 400 t) = P at hPP pl pb hpart
  obtain ⟨X, hX⟩ : ∃ X, colLeastL 400 t = X := ⟨_, rfl⟩
  rw [hX] at hE5 hlx hxb hPP
  rw [HL.out] at hlm hpart
  have hSD := fun (W : World) (h : Below V1.heap.size V1 W) (j : Nat) (hj : j < m) => impl_ColSaid t Ac kc Ar kr j W (HCB.out W h).1 (HCB.out W h).2.1 (HCB.out W h).2.2.1 (by omega) (by omega)
  have hsd : ∀ j : Nat, colSaid t (j : Int) = saidOf t j := fun j => by unfold colSaid; rw [if_pos hqq.1]
  simp only [hsd] at hSD
  have HSD := hide hSD
  have HNM := hide (fun (j : Nat) => said_num hqq.1 (j : Int))
  have HPP := hide hPP
  have HPL := hide pl
  have HPB := hide pb
  have HPT := hide hpart
  have HXB := hide hxb
  have HLX := hide hlx
  have HLM := hide hlm
  have hwd3 := hqq.2
  have hne0 : ((L.length : Int) == 0) = false := by rw [beq_eq_false_iff_ne]; omega
  have g0 := hK5.1 0 _ rfl
  have g1 := hK5.1 1 _ rfl
  have g2 := hK5.1 2 _ rfl
  have g3 := hK5.1 3 _ rfl
  have g4 := hK5.1 4 _ rfl
  clear hb5 hP hK5 q1 q2 q3 hq hX hqq hfl hPP pl pb hpart hxb hlx hlm hSD hsd
  go_wp2_with fail
  refine hE5.mono ?_
  rintro e V ⟨v, rfl, hI6, hb6⟩
  obtain ⟨AX, cX, rfl⟩ := hI6.form
  have HXV := hide (irow_rd hI6)
  have HIV := hide (HI5.out.below hb6)
  have HBV := hide (step HB5.out hb6)
  clear hb6 hE5 hI6 g0 g1 g2 g3 g4 hne0
  have hfc := fieldC
  go_wp2_with fail
  go_loopg [7, 8] L.length (fun gg s7 s8 wr => ∃ jx : Nat, jx ≤ L.length ∧ L.length - jx ≤ gg ∧ s8 = .int .i64 jx ∧ s7 = .int .i64 (sumI (P.take jx)) ∧ Aside (Below V.heap.size V wr))
  case atStart => exact ⟨0, Nat.zero_le _, by omega, rfl, by simp [sumI_nil], brefl _⟩
  case round =>
   obtain ⟨jx, hj, hgg, rfl, rfl, HBR⟩ := hrel
   by_cases hlt : jx < L.length
   ·
    have hltz : (jx : Int) < (L.length : Int) := by omega
    have hltz2 : (jx : Int) < (X.length : Int) := by have := HLX.out; have := HLM.out; omega
    obtain ⟨_, _, _, hKr⟩ := HCB.out wr (step HBV.out HBR.out)
    obtain ⟨b2, o2, eB, hlb2, hc2⟩ := rd_int HXV.out HBR.out jx (by omega)
    subst eB
    have hx0 := int_at HXB.out jx (by omega)
    have hcall := HSD.out wr (step HBV.out HBR.out) jx (by have := HLM.out; omega)
    have HSDj := hide (fun (W : World) (h : Below V.heap.size V W) => HSD.out W (step HBV.out h) jx (by have := HLM.out; omega))
    have hnm := HNM.out jx
    have hpj := HPP.out jx (by have := HLM.out; omega)
    have hst := sum_take P jx (by rw [HPL.out, ← HLM.out]; exact hlt)
    have hsb := sum_bound (B := 300) HPB.out jx
    rw [HPL.out] at hsb
    rw [hpj] at hst
    unfold kindT numT at hst
    obtain ⟨sd, hsd2⟩ : ∃ sd, saidOf t (jx : Int) = sd := ⟨_, rfl⟩
    rw [hsd2] at hcall HSDj hnm hst
    generalize X.getD jx 0 = x at hc2 hx0 hst
    have HST := hide hst
    have hjl : jx + 1 ≤ 90 := by have := HLN.out; omega
    obtain ⟨sp, hsp⟩ : ∃ sp, sumI (P.take jx) = sp := ⟨_, rfl⟩
    rw [hsp] at hsb ⊢
    have HSP := hide hsp
    have y0 := hKr.1 0 _ rfl
    have y1 := hKr.1 1 _ rfl
    have y2 := hKr.1 2 _ rfl
    have y3 := hKr.1 3 _ rfl
    have y4 := hKr.1 4 _ rfl
    clear hKr hpj hst hsd2 hsp
    go_wp2_with fail
    refine hcall.mono ?_
    rintro e U ⟨rfl, hbU⟩
    have HBU := hide (step HBR.out hbU)
    have hcU := keepW hbU hc2
    obtain ⟨_, _, _, hKU⟩ := HCB.out U (step HBV.out HBU.out)
    have HKU := hide hKU
    clear y0 y1 y2 y3 y4 hcall hbU hc2 hKU
    by_cases h1 : sd.k = 2
    ·
     have h1z : (sd.k == 2) = true := by simp [h1]
     have hst := HST.out
     rw [if_pos h1] at hst
     obtain ⟨PP, hP9⟩ : ∃ PP, wd * sd.n = PP := ⟨_, rfl⟩
     have hP0 : 0 ≤ PP ∧ PP ≤ 30000 := by
      rw [← hP9]
      refine ⟨Int.mul_nonneg hwd3.1 hnm.1, ?_⟩
      have h1 : wd * sd.n ≤ 300 * sd.n := Int.mul_le_mul_of_nonneg_right hwd3.2 hnm.1
      omega
     have t1 : IntKind.i64.wrap (wd * sd.n) = PP := by rw [hP9, IntKind.wrap_i64]; omega
     have t2 : IntKind.i64.wrap (PP.tdiv 100) = PP / 100 := by rw [Int.tdiv_eq_ediv_of_nonneg hP0.1, IntKind.wrap_i64]; omega
     have t3 : IntKind.i64.wrap (PP / 100 - x) = PP / 100 - x := by rw [IntKind.wrap_i64]; omega
     rw [hP9, HSP.out] at hst
     obtain ⟨mx, hmx⟩ : ∃ mx, max 0 (PP / 100 - x) = mx := ⟨_, rfl⟩
     rw [Int.max_comm, hmx] at hst
     have hmx1 : 0 ≤ mx ∧ mx ≤ 300 := by omega
     have t4 : IntKind.i64.wrap (sp + mx) = sp + mx := by rw [IntKind.wrap_i64]; omega
     have HS2 := hide hst
     have hmax := max_int
     clear hP9 hst h1 HST
     go_upto_region 15 with fail
     have ed := bdrew (brefl U)
     have z0 : U.drew.cell? ⟨W1.heap.size, 0, none⟩ = some (.slice Ac t.cols.length kc) := keepW ed (HKU.out.1 0 _ rfl)
     have z1 : U.drew.cell? ⟨W1.heap.size, 1, none⟩ = some (.int .i64 t.head) := keepW ed (HKU.out.1 1 _ rfl)
     have z2 : U.drew.cell? ⟨W1.heap.size, 2, none⟩ = some (.int .i64 t.foot) := keepW ed (HKU.out.1 2 _ rfl)
     have z3 : U.drew.cell? ⟨W1.heap.size, 3, none⟩ = some (.slice Ar t.rows.length kr) := keepW ed (HKU.out.1 3 _ rfl)
     have z4 : U.drew.cell? ⟨W1.heap.size, 4, none⟩ = some (.int .i64 t.gap) := keepW ed (HKU.out.1 4 _ rfl)
     have HBD := hide (bdrew HBU.out)
     have qc := keepW ed hcU
     have HSE := hide (fun (W : World) (h : Below U.drew.heap.size U.drew W) => HSDj.out W (step HBD.out h))
     clear ed hcU
     obtain ⟨KF, hKF⟩ : ∃ f : Nat → Value → World → Prop, f = (fun j v W => match j with | 0 => v = .int .i64 sp | 1 => v = .int .i64 wd | 2 => v = .agg #[.slice Ac t.cols.length kc, .int .i64 t.head, .int .i64 t.foot, .slice Ar t.rows.length kr, .int .i64 t.gap] | 3 => v = .int .i64 ↑jx | 4 => v = .agg #[.int .i64 sd.k, .int .i64 sd.n] | 5 => v = .int .i64 sd.n | 6 => v = .int .i64 PP | 7 => v = .int .i64 (PP / 100) | 8 => v = .slice (some ⟨b2, o2, none⟩) X.length cX | 9 => v = .int .i64 ↑jx | 10 => v = .pointer (some ⟨b2, o2 + jx, none⟩) | 11 => v = .int .i64 x | 12 => v = .int .i64 (PP / 100 - x) | 13 => v = .int .i64 mx | _ => True) := ⟨_, rfl⟩
     have k0 : ∀ v W, KF 0 v W ↔ (v = .int .i64 sp) := fun v W => by rw [hKF]; first | done | exact Iff.rfl
     have k1 : ∀ v W, KF 1 v W ↔ (v = .int .i64 wd) := fun v W => by rw [hKF]; first | done | exact Iff.rfl
     have k2 : ∀ v W, KF 2 v W ↔ (v = .agg #[.slice Ac t.cols.length kc, .int .i64 t.head, .int .i64 t.foot, .slice Ar t.rows.length kr, .int .i64 t.gap]) := fun v W => by rw [hKF]; first | done | exact Iff.rfl
     have k3 : ∀ v W, KF 3 v W ↔ (v = .int .i64 ↑jx) := fun v W => by rw [hKF]; first | done | exact Iff.rfl
     have k4 : ∀ v W, KF 4 v W ↔ (v = .agg #[.int .i64 sd.k, .int .i64 sd.n]) := fun v W => by rw [hKF]; first | done | exact Iff.rfl
     have k5 : ∀ v W, KF 5 v W ↔ (v = .int .i64 sd.n) := fun v W => by rw [hKF]; first | done | exact Iff.rfl
     have k6 : ∀ v W, KF 6 v W ↔ (v = .int .i64 PP) := fun v W => by rw [hKF]; first | done | exact Iff.rfl
     have k7 : ∀ v W, KF 7 v W ↔ (v = .int .i64 (PP / 100)) := fun v W => by rw [hKF]; first | done | exact Iff.rfl
     have k8 : ∀ v W, KF 8 v W ↔ (v = .slice (some ⟨b2, o2, none⟩) X.length cX) := fun v W => by rw [hKF]; first | done | exact Iff.rfl
     have k9 : ∀ v W, KF 9 v W ↔ (v = .int .i64 ↑jx) := fun v W => by rw [hKF]; first | done | exact Iff.rfl
     have k10 : ∀ v W, KF 10 v W ↔ (v = .pointer (some ⟨b2, o2 + jx, none⟩)) := fun v W => by rw [hKF]; first | done | exact Iff.rfl
     have k11 : ∀ v W, KF 11 v W ↔ (v = .int .i64 x) := fun v W => by rw [hKF]; first | done | exact Iff.rfl
     have k12 : ∀ v W, KF 12 v W ↔ (v = .int .i64 (PP / 100 - x)) := fun v W => by rw [hKF]; first | done | exact Iff.rfl
     have k13 : ∀ v W, KF 13 v W ↔ (v = .int .i64 mx) := fun v W => by rw [hKF]; first | done | exact Iff.rfl
     have HST : StableP KF := by
      rw [hKF]
      intro j v W W9 h hb
      by_cases hjn : j < 16
      ·
       obtain rfl | rfl | rfl | rfl | rfl | rfl | rfl | rfl | rfl | rfl | rfl | rfl | rfl | rfl | rfl | rfl : j = 0 ∨ j = 1 ∨ j = 2 ∨ j = 3 ∨ j = 4 ∨ j = 5 ∨ j = 6 ∨ j = 7 ∨ j = 8 ∨ j = 9 ∨ j = 10 ∨ j = 11 ∨ j = 12 ∨ j = 13 ∨ j = 14 ∨ j = 15 := by omega
       ·
        exact h
       ·
        exact h
       ·
        exact h
       ·
        exact h
       ·
        exact h
       ·
        exact h
       ·
        exact h
       ·
        exact h
       ·
        exact h
       ·
        exact h
       ·
        exact h
       ·
        exact h
       ·
        exact h
       ·
        exact h
       ·
        exact trivial
       ·
        exact trivial
      ·
       match j, h with
       | 0, h => exact absurd (by decide) hjn
       | 1, h => exact absurd (by decide) hjn
       | 2, h => exact absurd (by decide) hjn
       | 3, h => exact absurd (by decide) hjn
       | 4, h => exact absurd (by decide) hjn
       | 5, h => exact absurd (by decide) hjn
       | 6, h => exact absurd (by decide) hjn
       | 7, h => exact absurd (by decide) hjn
       | 8, h => exact absurd (by decide) hjn
       | 9, h => exact absurd (by decide) hjn
       | 10, h => exact absurd (by decide) hjn
       | 11, h => exact absurd (by decide) hjn
       | 12, h => exact absurd (by decide) hjn
       | 13, h => exact absurd (by decide) hjn
       | 14, h => exact absurd (by decide) hjn
       | 15, h => exact absurd (by decide) hjn
       | _ + 16, h => exact h
     clear hKF
     obtain ⟨dep, hdep⟩ : ∃ f : Nat → List Nat, f = (fun j => match j with | 4 => [2, 3] | 5 => [4] | 6 => [1, 5] | 7 => [6] | 10 => [8, 9] | 11 => [10] | 12 => [7, 11] | 13 => [12] | 14 => [0, 13] | 15 => [14, 4] | _ => []) := ⟨_, rfl⟩
     have d0 : dep 0 = [] := congrFun hdep 0
     have d1 : dep 1 = [] := congrFun hdep 1
     have d2 : dep 2 = [] := congrFun hdep 2
     have d3 : dep 3 = [] := congrFun hdep 3
     have d4 : dep 4 = [2, 3] := congrFun hdep 4
     have d5 : dep 5 = [4] := congrFun hdep 5
     have d6 : dep 6 = [1, 5] := congrFun hdep 6
     have d7 : dep 7 = [6] := congrFun hdep 7
     have d8 : dep 8 = [] := congrFun hdep 8
     have d9 : dep 9 = [] := congrFun hdep 9
     have d10 : dep 10 = [8, 9] := congrFun hdep 10
     have d11 : dep 11 = [10] := congrFun hdep 11
     have d12 : dep 12 = [7, 11] := congrFun hdep 12
     have d13 : dep 13 = [12] := congrFun hdep 13
     have d14 : dep 14 = [0, 13] := congrFun hdep 14
     have d15 : dep 15 = [14, 4] := congrFun hdep 15
     clear hdep
     have HLD : LastP 16 14 dep := by
      intro L hc _ k14
      have k13 : L 13 := hc 14 k14 13 (by rw [d14]; simp)
      have k12 : L 12 := hc 13 k13 12 (by rw [d13]; simp)
      have k11 : L 11 := hc 12 k12 11 (by rw [d12]; simp)
      have k10 : L 10 := hc 11 k11 10 (by rw [d11]; simp)
      have k9 : L 9 := hc 10 k10 9 (by rw [d10]; simp)
      have k8 : L 8 := hc 10 k10 8 (by rw [d10]; simp)
      have k7 : L 7 := hc 12 k12 7 (by rw [d12]; simp)
      have k6 : L 6 := hc 7 k7 6 (by rw [d7]; simp)
      have k5 : L 5 := hc 6 k6 5 (by rw [d6]; simp)
      have k4 : L 4 := hc 5 k5 4 (by rw [d5]; simp)
      have k3 : L 3 := hc 4 k4 3 (by rw [d4]; simp)
      have k2 : L 2 := hc 4 k4 2 (by rw [d4]; simp)
      have k1 : L 1 := hc 6 k6 1 (by rw [d6]; simp)
      have k0 : L 0 := hc 14 k14 0 (by rw [d14]; simp)
      intro j hj
      obtain rfl | rfl | rfl | rfl | rfl | rfl | rfl | rfl | rfl | rfl | rfl | rfl | rfl | rfl : j = 0 ∨ j = 1 ∨ j = 2 ∨ j = 3 ∨ j = 4 ∨ j = 5 ∨ j = 6 ∨ j = 7 ∨ j = 8 ∨ j = 9 ∨ j = 10 ∨ j = 11 ∨ j = 12 ∨ j = 13 := by omega
      all_goals assumption
     obtain ⟨st, hst⟩ : ∃ f : Nat → Value, f = (fun j => match j with | 0 => u58 | 1 => u59 | 2 => u60 | 3 => u61 | 4 => u62 | 5 => u63 | 6 => u64 | 7 => u65 | 8 => u66 | 9 => u67 | 10 => u68 | 11 => u69 | 12 => u70 | 13 => u71 | 14 => u72 | 15 => .int .i64 sp | _ => undef) := ⟨_, rfl⟩
     have st0 : st 0 = u58 := congrFun hst 0
     have st1 : st 1 = u59 := congrFun hst 1
     have st2 : st 2 = u60 := congrFun hst 2
     have st3 : st 3 = u61 := congrFun hst 3
     have st4 : st 4 = u62 := congrFun hst 4
     have st5 : st 5 = u63 := congrFun hst 5
     have st6 : st 6 = u64 := congrFun hst 6
     have st7 : st 7 = u65 := congrFun hst 7
     have st8 : st 8 = u66 := congrFun hst 8
     have st9 : st 9 = u67 := congrFun hst 9
     have st10 : st 10 = u68 := congrFun hst 10
     have st11 : st 11 = u69 := congrFun hst 11
     have st12 : st 12 = u70 := congrFun hst 12
     have st13 : st 13 = u71 := congrFun hst 13
     have st14 : st 14 = u72 := congrFun hst 14
     have st15 : st 15 = .int .i64 sp := congrFun hst 15
     refine wp_region_inv (fun l a W => ∃ vs : Nat → Value, a = ⟨List.toArray (.slice A n c :: undef :: .bool false :: .pointer (some ⟨W1.heap.size, 0, none⟩) :: .int .i64 wd :: .slice AL L.length cL :: .slice (some ⟨b2, o2, none⟩) X.length cX :: vs 15 :: .int .i64 ↑jx :: undef :: undef :: .slice A n c :: .int .i64 ↑n :: .bool false :: .tuple #[.agg #[.slice Ac t.cols.length kc, .int .i64 t.head, .int .i64 t.foot, .slice Ar t.rows.length kr, .int .i64 t.gap], .int .i64 wd] :: .slice A n c :: .tuple #[.agg #[.slice Ac t.cols.length kc, .int .i64 t.head, .int .i64 t.foot, .slice Ar t.rows.length kr, .int .i64 t.gap], .int .i64 wd] :: .agg #[.slice Ac t.cols.length kc, .int .i64 t.head, .int .i64 t.foot, .slice Ar t.rows.length kr, .int .i64 t.gap] :: .int .i64 wd :: .agg #[.slice Ac t.cols.length kc, .int .i64 t.head, .int .i64 t.foot, .slice Ar t.rows.length kr, .int .i64 t.gap] :: .int .i64 wd :: .slice AL L.length cL :: .slice AL L.length cL :: .agg #[.slice Ac t.cols.length kc, .int .i64 t.head, .int .i64 t.foot, .slice Ar t.rows.length kr, .int .i64 t.gap] :: .int .i64 wd :: .slice AM L.length cM :: .bool true :: .bool false :: .slice AL L.length cL :: .int .i64 ↑L.length :: .bool false :: undef :: undef :: undef :: undef :: undef :: undef :: undef :: undef :: undef :: undef :: undef :: undef :: undef :: undef :: .agg #[.slice Ac t.cols.length kc, .int .i64 t.head, .int .i64 t.foot, .slice Ar t.rows.length kr, .int .i64 t.gap] :: .slice (some ⟨b2, o2, none⟩) X.length cX :: .int .i64 ↑jx :: .slice AL L.length cL :: .int .i64 ↑L.length :: .bool true :: u51 :: u52 :: .agg #[.slice Ac t.cols.length kc, .int .i64 t.head, .int .i64 t.foot, .slice Ar t.rows.length kr, .int .i64 t.gap] :: .int .i64 ↑jx :: .agg #[.int .i64 sd.k, .int .i64 sd.n] :: .int .i64 sd.k :: .bool true :: vs 0 :: vs 1 :: vs 2 :: vs 3 :: vs 4 :: vs 5 :: vs 6 :: vs 7 :: vs 8 :: vs 9 :: vs 10 :: vs 11 :: vs 12 :: vs 13 :: vs 14 :: undef :: undef :: undef :: undef :: undef :: undef :: undef :: undef :: undef :: undef :: undef :: undef :: undef :: undef :: undef :: undef :: undef :: undef :: undef :: undef :: undef :: undef :: undef :: undef :: undef :: undef :: undef :: undef :: undef :: undef :: undef :: undef :: []), []⟩ ∧ PMid KF 16 14 dep (U.drew) (fun W v W2 => v = .int .i64 (sp + mx) ∧ W2 = W) st l vs W) (by kernel_rfl) ?top ?start ?step ?fin
     case top =>
      clear k0 k1 k2 k3 k4 k5 k6 k7 k8 k9 k10 k11 k12 k13 d0 d1 d2 d3 d4 d5 d6 d7 d8 d9 d10 d11 d12 d13 d14 d15 hst st0 st1 st2 st3 st4 st5 st6 st7 st8 st9 st10 st11 st12 st13 st14 st15
      intro j o ho e he
      have hj : j < 16 := (Array.getElem?_eq_some_iff.1 ho).1
      have hA : (o.after.all fun e => decide (e.on < j)) = true := by
       obtain rfl | rfl | rfl | rfl | rfl | rfl | rfl | rfl | rfl | rfl | rfl | rfl | rfl | rfl | rfl | rfl : j = 0 ∨ j = 1 ∨ j = 2 ∨ j = 3 ∨ j = 4 ∨ j = 5 ∨ j = 6 ∨ j = 7 ∨ j = 8 ∨ j = 9 ∨ j = 10 ∨ j = 11 ∨ j = 12 ∨ j = 13 ∨ j = 14 ∨ j = 15 := by omega
       all_goals
        simp only [List.getElem?_toArray, List.getElem?_cons_zero, List.getElem?_cons_succ, Option.some.injEq] at ho
        subst ho
        first | decide | kernel_rfl | simp
      simpa using Array.all_eq_true'.1 hA e he
     case start => exact ⟨st, by rw [hst]; first | done | rfl, PMid.start⟩
     case step =>
      rintro l a W i o ho hl hpre hsz ⟨vs, rfl, hM0⟩ K hK
      have hi : i < 16 := (Array.getElem?_eq_some_iff.1 ho).1
      obtain rfl | rfl | rfl | rfl | rfl | rfl | rfl | rfl | rfl | rfl | rfl | rfl | rfl | rfl | rfl | rfl : i = 0 ∨ i = 1 ∨ i = 2 ∨ i = 3 ∨ i = 4 ∨ i = 5 ∨ i = 6 ∨ i = 7 ∨ i = 8 ∨ i = 9 ∨ i = 10 ∨ i = 11 ∨ i = 12 ∨ i = 13 ∨ i = 14 ∨ i = 15 := by omega
      ·
       simp only [List.getElem?_toArray, List.getElem?_cons_zero, List.getElem?_cons_succ, Option.some.injEq] at ho
       subst ho
       have hMB := hM0.below HLD hi (by decide) hl
       have hMG := hM0.get HLD hi (by decide) hl
       have v15 : vs 15 = .int .i64 sp := (hM0.getStale HLD hi (by decide) hl 15 (by decide)).trans st15
       have hdp : ∀ e ∈ dep 0, l.getD e false = true := by rw [d0]; exact dep_nil
       have e := k0
       clear k0 k1 k2 k3 k4 k5 k6 k7 k8 k9 k10 k11 k12 k13 d0 d1 d2 d3 d4 d5 d6 d7 d8 d9 d10 d11 d12 d13 d14 d15 hst st0 st1 st2 st3 st4 st5 st6 st7 st8 st9 st10 st11 st12 st13 st14 st15
       rw [v15]
       go_simp
       exact hK.out _ _ ⟨updV vs 0 (.int .i64 sp), (by simp [updV, v15]), hM0.still HLD HST 0 (by decide) (by decide) hl _ hdp ((e _ _).2 rfl)⟩
      ·
       simp only [List.getElem?_toArray, List.getElem?_cons_zero, List.getElem?_cons_succ, Option.some.injEq] at ho
       subst ho
       have hMB := hM0.below HLD hi (by decide) hl
       have hMG := hM0.get HLD hi (by decide) hl
       have hdp : ∀ e ∈ dep 1, l.getD e false = true := by rw [d1]; exact dep_nil
       have e := k1
       clear k0 k1 k2 k3 k4 k5 k6 k7 k8 k9 k10 k11 k12 k13 d0 d1 d2 d3 d4 d5 d6 d7 d8 d9 d10 d11 d12 d13 d14 d15 hst st0 st1 st2 st3 st4 st5 st6 st7 st8 st9 st10 st11 st12 st13 st14 st15
       go_simp
       exact hK.out _ _ ⟨updV vs 1 (.int .i64 wd), rfl, hM0.still HLD HST 1 (by decide) (by decide) hl _ hdp ((e _ _).2 rfl)⟩
      ·
       simp only [List.getElem?_toArray, List.getElem?_cons_zero, List.getElem?_cons_succ, Option.some.injEq] at ho
       subst ho
       have hMB := hM0.below HLD hi (by decide) hl
       have hMG := hM0.get HLD hi (by decide) hl
       have hdp : ∀ e ∈ dep 2, l.getD e false = true := by rw [d2]; exact dep_nil
       have e := k2
       clear k0 k1 k2 k3 k4 k5 k6 k7 k8 k9 k10 k11 k12 k13 d0 d1 d2 d3 d4 d5 d6 d7 d8 d9 d10 d11 d12 d13 d14 d15 hst st0 st1 st2 st3 st4 st5 st6 st7 st8 st9 st10 st11 st12 st13 st14 st15
       have x0 := keepW hMB z0
       have x1 := keepW hMB z1
       have x2 := keepW hMB z2
       have x3 := keepW hMB z3
       have x4 := keepW hMB z4
       go_simp
       exact hK.out _ _ ⟨updV vs 2 (.agg #[.slice Ac t.cols.length kc, .int .i64 t.head, .int .i64 t.foot, .slice Ar t.rows.length kr, .int .i64 t.gap]), rfl, hM0.still HLD HST 2 (by decide) (by decide) hl _ hdp ((e _ _).2 rfl)⟩
      ·
       simp only [List.getElem?_toArray, List.getElem?_cons_zero, List.getElem?_cons_succ, Option.some.injEq] at ho
       subst ho
       have hMB := hM0.below HLD hi (by decide) hl
       have hMG := hM0.get HLD hi (by decide) hl
       have hdp : ∀ e ∈ dep 3, l.getD e false = true := by rw [d3]; exact dep_nil
       have e := k3
       clear k0 k1 k2 k3 k4 k5 k6 k7 k8 k9 k10 k11 k12 k13 d0 d1 d2 d3 d4 d5 d6 d7 d8 d9 d10 d11 d12 d13 d14 d15 hst st0 st1 st2 st3 st4 st5 st6 st7 st8 st9 st10 st11 st12 st13 st14 st15
       go_simp
       exact hK.out _ _ ⟨updV vs 3 (.int .i64 ↑jx), rfl, hM0.still HLD HST 3 (by decide) (by decide) hl _ hdp ((e _ _).2 rfl)⟩
      ·
       simp only [List.getElem?_toArray, List.getElem?_cons_zero, List.getElem?_cons_succ, Option.some.injEq] at ho
       subst ho
       have hMB := hM0.below HLD hi (by decide) hl
       have hMG := hM0.get HLD hi (by decide) hl
       have v2 : vs 2 = .agg #[.slice Ac t.cols.length kc, .int .i64 t.head, .int .i64 t.foot, .slice Ar t.rows.length kr, .int .i64 t.gap] := (k2 _ _).1 (hMG 2 (by decide) (hpre ⟨2, .data⟩ (by simp) rfl))
       have v3 : vs 3 = .int .i64 ↑jx := (k3 _ _).1 (hMG 3 (by decide) (hpre ⟨3, .data⟩ (by simp) rfl))
       have hdp : ∀ e ∈ dep 4, l.getD e false = true := by rw [d4]; exact (dep_cons (hpre ⟨2, .data⟩ (by simp) rfl) (dep_cons (hpre ⟨3, .data⟩ (by simp) rfl) dep_nil))
       have e := k4
       clear k0 k1 k2 k3 k4 k5 k6 k7 k8 k9 k10 k11 k12 k13 d0 d1 d2 d3 d4 d5 d6 d7 d8 d9 d10 d11 d12 d13 d14 d15 hst st0 st1 st2 st3 st4 st5 st6 st7 st8 st9 st10 st11 st12 st13 st14 st15
       rw [v2, v3]
       go_simp
       refine (HSE.out _ hMB).mono ?_
       rintro e5 W5 ⟨rfl, hb5⟩
       exact hK.out _ _ ⟨updV vs 4 (.agg #[.int .i64 sd.k, .int .i64 sd.n]), (by simp [updV, v2, v3]), hM0.next HLD HST 4 (by decide) (by decide) hl _ hdp hb5 ((e _ _).2 rfl)⟩
      ·
       simp only [List.getElem?_toArray, List.getElem?_cons_zero, List.getElem?_cons_succ, Option.some.injEq] at ho
       subst ho
       have hMB := hM0.below HLD hi (by decide) hl
       have hMG := hM0.get HLD hi (by decide) hl
       have v4 : vs 4 = .agg #[.int .i64 sd.k, .int .i64 sd.n] := (k4 _ _).1 (hMG 4 (by decide) (hpre ⟨4, .data⟩ (by simp) rfl))
       have hdp : ∀ e ∈ dep 5, l.getD e false = true := by rw [d5]; exact (dep_cons (hpre ⟨4, .data⟩ (by simp) rfl) dep_nil)
       have e := k5
       clear k0 k1 k2 k3 k4 k5 k6 k7 k8 k9 k10 k11 k12 k13 d0 d1 d2 d3 d4 d5 d6 d7 d8 d9 d10 d11 d12 d13 d14 d15 hst st0 st1 st2 st3 st4 st5 st6 st7 st8 st9 st10 st11 st12 st13 st14 st15
       have hfc9 := fieldC1
       rw [v4]
       go_simp
       exact hK.out _ _ ⟨updV vs 5 (.int .i64 sd.n), (by simp [updV, v4]), hM0.still HLD HST 5 (by decide) (by decide) hl _ hdp ((e _ _).2 rfl)⟩
      ·
       simp only [List.getElem?_toArray, List.getElem?_cons_zero, List.getElem?_cons_succ, Option.some.injEq] at ho
       subst ho
       have hMB := hM0.below HLD hi (by decide) hl
       have hMG := hM0.get HLD hi (by decide) hl
       have v1 : vs 1 = .int .i64 wd := (k1 _ _).1 (hMG 1 (by decide) (hpre ⟨1, .data⟩ (by simp) rfl))
       have v5 : vs 5 = .int .i64 sd.n := (k5 _ _).1 (hMG 5 (by decide) (hpre ⟨5, .data⟩ (by simp) rfl))
       have hdp : ∀ e ∈ dep 6, l.getD e false = true := by rw [d6]; exact (dep_cons (hpre ⟨1, .data⟩ (by simp) rfl) (dep_cons (hpre ⟨5, .data⟩ (by simp) rfl) dep_nil))
       have e := k6
       clear k0 k1 k2 k3 k4 k5 k6 k7 k8 k9 k10 k11 k12 k13 d0 d1 d2 d3 d4 d5 d6 d7 d8 d9 d10 d11 d12 d13 d14 d15 hst st0 st1 st2 st3 st4 st5 st6 st7 st8 st9 st10 st11 st12 st13 st14 st15
       rw [v1, v5]
       go_simp
       exact hK.out _ _ ⟨updV vs 6 (.int .i64 PP), (by simp [updV, v1, v5]), hM0.still HLD HST 6 (by decide) (by decide) hl _ hdp ((e _ _).2 rfl)⟩
      ·
       simp only [List.getElem?_toArray, List.getElem?_cons_zero, List.getElem?_cons_succ, Option.some.injEq] at ho
       subst ho
       have hMB := hM0.below HLD hi (by decide) hl
       have hMG := hM0.get HLD hi (by decide) hl
       have v6 : vs 6 = .int .i64 PP := (k6 _ _).1 (hMG 6 (by decide) (hpre ⟨6, .data⟩ (by simp) rfl))
       have hdp : ∀ e ∈ dep 7, l.getD e false = true := by rw [d7]; exact (dep_cons (hpre ⟨6, .data⟩ (by simp) rfl) dep_nil)
       have e := k7
       clear k0 k1 k2 k3 k4 k5 k6 k7 k8 k9 k10 k11 k12 k13 d0 d1 d2 d3 d4 d5 d6 d7 d8 d9 d10 d11 d12 d13 d14 d15 hst st0 st1 st2 st3 st4 st5 st6 st7 st8 st9 st10 st11 st12 st13 st14 st15
       rw [v6]
       go_simp
       exact hK.out _ _ ⟨updV vs 7 (.int .i64 (PP / 100)), (by simp [updV, v6]), hM0.still HLD HST 7 (by decide) (by decide) hl _ hdp ((e _ _).2 rfl)⟩
      ·
       simp only [List.getElem?_toArray, List.getElem?_cons_zero, List.getElem?_cons_succ, Option.some.injEq] at ho
       subst ho
       have hMB := hM0.below HLD hi (by decide) hl
       have hMG := hM0.get HLD hi (by decide) hl
       have hdp : ∀ e ∈ dep 8, l.getD e false = true := by rw [d8]; exact dep_nil
       have e := k8
       clear k0 k1 k2 k3 k4 k5 k6 k7 k8 k9 k10 k11 k12 k13 d0 d1 d2 d3 d4 d5 d6 d7 d8 d9 d10 d11 d12 d13 d14 d15 hst st0 st1 st2 st3 st4 st5 st6 st7 st8 st9 st10 st11 st12 st13 st14 st15
       go_simp
       exact hK.out _ _ ⟨updV vs 8 (.slice (some ⟨b2, o2, none⟩) X.length cX), rfl, hM0.still HLD HST 8 (by decide) (by decide) hl _ hdp ((e _ _).2 rfl)⟩
      ·
       simp only [List.getElem?_toArray, List.getElem?_cons_zero, List.getElem?_cons_succ, Option.some.injEq] at ho
       subst ho
       have hMB := hM0.below HLD hi (by decide) hl
       have hMG := hM0.get HLD hi (by decide) hl
       have hdp : ∀ e ∈ dep 9, l.getD e false = true := by rw [d9]; exact dep_nil
       have e := k9
       clear k0 k1 k2 k3 k4 k5 k6 k7 k8 k9 k10 k11 k12 k13 d0 d1 d2 d3 d4 d5 d6 d7 d8 d9 d10 d11 d12 d13 d14 d15 hst st0 st1 st2 st3 st4 st5 st6 st7 st8 st9 st10 st11 st12 st13 st14 st15
       go_simp
       exact hK.out _ _ ⟨updV vs 9 (.int .i64 ↑jx), rfl, hM0.still HLD HST 9 (by decide) (by decide) hl _ hdp ((e _ _).2 rfl)⟩
      ·
       simp only [List.getElem?_toArray, List.getElem?_cons_zero, List.getElem?_cons_succ, Option.some.injEq] at ho
       subst ho
       have hMB := hM0.below HLD hi (by decide) hl
       have hMG := hM0.get HLD hi (by decide) hl
       have v8 : vs 8 = .slice (some ⟨b2, o2, none⟩) X.length cX := (k8 _ _).1 (hMG 8 (by decide) (hpre ⟨8, .data⟩ (by simp) rfl))
       have v9 : vs 9 = .int .i64 ↑jx := (k9 _ _).1 (hMG 9 (by decide) (hpre ⟨9, .data⟩ (by simp) rfl))
       have hdp : ∀ e ∈ dep 10, l.getD e false = true := by rw [d10]; exact (dep_cons (hpre ⟨8, .data⟩ (by simp) rfl) (dep_cons (hpre ⟨9, .data⟩ (by simp) rfl) dep_nil))
       have e := k10
       clear k0 k1 k2 k3 k4 k5 k6 k7 k8 k9 k10 k11 k12 k13 d0 d1 d2 d3 d4 d5 d6 d7 d8 d9 d10 d11 d12 d13 d14 d15 hst st0 st1 st2 st3 st4 st5 st6 st7 st8 st9 st10 st11 st12 st13 st14 st15
       rw [v8, v9]
       go_simp
       exact hK.out _ _ ⟨updV vs 10 (.pointer (some ⟨b2, o2 + jx, none⟩)), (by simp [updV, v8, v9]), hM0.still HLD HST 10 (by decide) (by decide) hl _ hdp ((e _ _).2 rfl)⟩
      ·
       simp only [List.getElem?_toArray, List.getElem?_cons_zero, List.getElem?_cons_succ, Option.some.injEq] at ho
       subst ho
       have hMB := hM0.below HLD hi (by decide) hl
       have hMG := hM0.get HLD hi (by decide) hl
       have v10 : vs 10 = .pointer (some ⟨b2, o2 + jx, none⟩) := (k10 _ _).1 (hMG 10 (by decide) (hpre ⟨10, .data⟩ (by simp) rfl))
       have hdp : ∀ e ∈ dep 11, l.getD e false = true := by rw [d11]; exact (dep_cons (hpre ⟨10, .data⟩ (by simp) rfl) dep_nil)
       have e := k11
       clear k0 k1 k2 k3 k4 k5 k6 k7 k8 k9 k10 k11 k12 k13 d0 d1 d2 d3 d4 d5 d6 d7 d8 d9 d10 d11 d12 d13 d14 d15 hst st0 st1 st2 st3 st4 st5 st6 st7 st8 st9 st10 st11 st12 st13 st14 st15
       have x0 := keepW hMB qc
       rw [v10]
       go_simp
       exact hK.out _ _ ⟨updV vs 11 (.int .i64 x), (by simp [updV, v10]), hM0.still HLD HST 11 (by decide) (by decide) hl _ hdp ((e _ _).2 rfl)⟩
      ·
       simp only [List.getElem?_toArray, List.getElem?_cons_zero, List.getElem?_cons_succ, Option.some.injEq] at ho
       subst ho
       have hMB := hM0.below HLD hi (by decide) hl
       have hMG := hM0.get HLD hi (by decide) hl
       have v7 : vs 7 = .int .i64 (PP / 100) := (k7 _ _).1 (hMG 7 (by decide) (hpre ⟨7, .data⟩ (by simp) rfl))
       have v11 : vs 11 = .int .i64 x := (k11 _ _).1 (hMG 11 (by decide) (hpre ⟨11, .data⟩ (by simp) rfl))
       have hdp : ∀ e ∈ dep 12, l.getD e false = true := by rw [d12]; exact (dep_cons (hpre ⟨7, .data⟩ (by simp) rfl) (dep_cons (hpre ⟨11, .data⟩ (by simp) rfl) dep_nil))
       have e := k12
       clear k0 k1 k2 k3 k4 k5 k6 k7 k8 k9 k10 k11 k12 k13 d0 d1 d2 d3 d4 d5 d6 d7 d8 d9 d10 d11 d12 d13 d14 d15 hst st0 st1 st2 st3 st4 st5 st6 st7 st8 st9 st10 st11 st12 st13 st14 st15
       rw [v7, v11]
       go_simp
       exact hK.out _ _ ⟨updV vs 12 (.int .i64 (PP / 100 - x)), (by simp [updV, v7, v11]), hM0.still HLD HST 12 (by decide) (by decide) hl _ hdp ((e _ _).2 rfl)⟩
      ·
       simp only [List.getElem?_toArray, List.getElem?_cons_zero, List.getElem?_cons_succ, Option.some.injEq] at ho
       subst ho
       have hMB := hM0.below HLD hi (by decide) hl
       have hMG := hM0.get HLD hi (by decide) hl
       have v12 : vs 12 = .int .i64 (PP / 100 - x) := (k12 _ _).1 (hMG 12 (by decide) (hpre ⟨12, .data⟩ (by simp) rfl))
       have hdp : ∀ e ∈ dep 13, l.getD e false = true := by rw [d13]; exact (dep_cons (hpre ⟨12, .data⟩ (by simp) rfl) dep_nil)
       have e := k13
       clear k0 k1 k2 k3 k4 k5 k6 k7 k8 k9 k10 k11 k12 k13 d0 d1 d2 d3 d4 d5 d6 d7 d8 d9 d10 d11 d12 d13 d14 d15 hst st0 st1 st2 st3 st4 st5 st6 st7 st8 st9 st10 st11 st12 st13 st14 st15
       rw [v12]
       go_simp
       exact hK.out _ _ ⟨updV vs 13 (.int .i64 mx), (by simp [updV, v12]), hM0.still HLD HST 13 (by decide) (by decide) hl _ hdp ((e _ _).2 rfl)⟩
      ·
       simp only [List.getElem?_toArray, List.getElem?_cons_zero, List.getElem?_cons_succ, Option.some.injEq] at ho
       subst ho
       have hMB := hM0.below HLD hi (by decide) hl
       have hMG := hM0.get HLD hi (by decide) hl
       have v0 : vs 0 = .int .i64 sp := (k0 _ _).1 (hMG 0 (by decide) (hpre ⟨0, .data⟩ (by simp) rfl))
       have v13 : vs 13 = .int .i64 mx := (k13 _ _).1 (hMG 13 (by decide) (hpre ⟨13, .data⟩ (by simp) rfl))
       have hdp : ∀ e ∈ dep 14, l.getD e false = true := by rw [d14]; exact (dep_cons (hpre ⟨0, .data⟩ (by simp) rfl) (dep_cons (hpre ⟨13, .data⟩ (by simp) rfl) dep_nil))
       have hno : ∀ j, 14 < j → l.getD j false = true → 14 ∈ dep j := by
        intro j hj hj2
        have hjn : j < 16 := by have := getD_over hj2; rw [hM0.size] at this; exact this
        obtain rfl : j = 15 := by omega
        ·
         rw [d15]; simp
       clear k0 k1 k2 k3 k4 k5 k6 k7 k8 k9 k10 k11 k12 k13 d0 d1 d2 d3 d4 d5 d6 d7 d8 d9 d10 d11 d12 d13 d14 d15 hst st0 st1 st2 st3 st4 st5 st6 st7 st8 st9 st10 st11 st12 st13 st14 st15
       rw [v0, v13]
       go_simp
       exact hK.out _ _ ⟨updV vs 14 (.int .i64 (sp + mx)), by simp [updV, v0, v13], hM0.last HLD (by decide) hl hno _ hdp ⟨rfl, rfl⟩⟩
      ·
       simp only [List.getElem?_toArray, List.getElem?_cons_zero, List.getElem?_cons_succ, Option.some.injEq] at ho
       subst ho
       have hdp : ∀ e ∈ dep 15, l.getD e false = true := by rw [d15]; exact (dep_cons (hpre ⟨14, .data⟩ (by simp) rfl) (dep_cons (hpre ⟨4, .chain⟩ (by simp) rfl) dep_nil))
       clear k0 k1 k2 k3 k4 k5 k6 k7 k8 k9 k10 k11 k12 k13 d0 d1 d2 d3 d4 d5 d6 d7 d8 d9 d10 d11 d12 d13 d14 d15 hst st0 st1 st2 st3 st4 st5 st6 st7 st8 st9 st10 st11 st12 st13 st14 st15
       go_simp
       exact hK.out _ _ ⟨updV vs 15 (vs 14), by simp [updV], hM0.post 15 (by decide) (by decide) (hpre ⟨14, .data⟩ (by simp) rfl) hdp⟩
     case fin =>
      rintro l a W15 hall ⟨vs15, rfl, hM0⟩
      obtain ⟨W151, hMB, hMG, hMR, hMA⟩ := hM0.fin (by decide) hall
      have HBW := hide hMB
      have hv15 := (hMA 15 (by decide) (by decide)).trans hMR.1
      rw [hv15]
      have HB15 : Hid (Below V.heap.size V W15) := by rw [hMR.2]; exact step HBD.out HBW.out
      clear k0 k1 k2 k3 k4 k5 k6 k7 k8 k9 k10 k11 k12 k13 d0 d1 d2 d3 d4 d5 d6 d7 d8 d9 d10 d11 d12 d13 d14 d15 hst st0 st1 st2 st3 st4 st5 st6 st7 st8 st9 st10 st11 st12 st13 st14 st15 HLD HST hMG hMA hMR hv15 hMB hall hM0 st
      go_wp2_with fail
      go_roundg (L.length - (jx + 1))
      case measure => omega
      case rel => exact ⟨jx + 1, by omega, by omega, by go_num, by rw [HS2.out], HB15.out⟩
    ·
     have h1z : (sd.k == 2) = false := by simp [h1]
     have hst := HST.out
     rw [if_neg h1, HSP.out] at hst
     have HS2 := hide hst
     clear hst h1 HST
     go_wp2_with fail
     go_roundg (L.length - (jx + 1))
     case measure => omega
     case rel => exact ⟨jx + 1, by omega, by omega, by go_num, by rw [HS2.out]; simp, HBU.out⟩
   ·
    have hltz : ¬ (jx : Int) < (L.length : Int) := by omega
    have hjL : jx = L.length := by omega
    obtain ⟨S, hS⟩ : ∃ S, sumI P = S := ⟨_, rfl⟩
    have hst : sumI (P.take jx) = S := by rw [List.take_of_length_le (by rw [HPL.out, ← HLM.out]; omega), hS]
    have hsb := sum_bound (B := 300) HPB.out jx
    rw [hst, HPL.out] at hsb
    rw [hst]
    have HPT2 := hide (fun (j : Nat) (hj : j < m) (hk : kindT t j = 2) (h : S ≤ wd - fl) => HPT.out j hj hk (by rw [hS]; exact h))
    clear hst hS hjL
    go_wp2_with fail
    go_loopg [9, 10] L.length (fun gg s9 s10 wr => ∃ jy : Nat, jy ≤ L.length ∧ L.length - jy ≤ gg ∧ s9 = .int .i64 jy ∧ Aside (Below V.heap.size V wr))
    case atStart => exact ⟨0, Nat.zero_le _, by omega, rfl, HBR.out⟩
    case round =>
     obtain ⟨jy, hjy, hgy, rfl, HBS⟩ := hrel
     by_cases hlt2 : jy < L.length
     ·
      have hltz2 : (jy : Int) < (L.length : Int) := by omega
      obtain ⟨_, _, _, hKr⟩ := HCB.out wr (step HBV.out HBS.out)
      obtain ⟨b, o, eA, hlb1, hc1⟩ := rd_int HIV.out HBS.out jy hlt2
      subst eA
      have hcall := HSD.out wr (step HBV.out HBS.out) jy (by have := HLM.out; omega)
      have hnm := HNM.out jy
      have hpt := HPT2.out jy (by have := HLM.out; omega)
      unfold kindT numT at hpt
      obtain ⟨sd, hsd2⟩ : ∃ sd, saidOf t (jy : Int) = sd := ⟨_, rfl⟩
      rw [hsd2] at hcall hnm hpt
      generalize L.getD jy 0 = y at hc1 hpt
      have hjl : jy + 1 ≤ 90 := by have := HLN.out; omega
      have y0 := hKr.1 0 _ rfl
      have y1 := hKr.1 1 _ rfl
      have y2 := hKr.1 2 _ rfl
      have y3 := hKr.1 3 _ rfl
      have y4 := hKr.1 4 _ rfl
      have HPY := hide hpt
      clear hKr hsd2 hpt
      go_wp2_with fail
      refine hcall.mono ?_
      rintro e U0 ⟨rfl, hbU⟩
      obtain ⟨U, hU⟩ : ∃ U, U = U0.alloc (.cells #[.int .i64 sd.k, .int .i64 sd.n] 43) := ⟨_, rfl⟩
      have eU : Below U0.heap.size U0 U := by rw [hU]; exact balloc (brefl _) _
      have hKS : BlockAt U U0.heap.size [.int .i64 sd.k, .int .i64 sd.n] := by rw [hU]; exact BlockAt.new U0 _ _
      have HBU := hide (step (step HBS.out hbU) eU)
      have hcU := keepW eU (keepW hbU hc1)
      obtain ⟨_, _, _, hKU⟩ := HCB.out U (step HBV.out HBU.out)
      have HKU := hide hKU
      have HKS := hide hKS
      have HU := hide hU
      clear y0 y1 y2 y3 y4 hcall hbU hc1 hKU eU hKS hU
      go_upto_region 20 with fail
      rw [← HU.out]
      clear HU
      by_cases h1 : sd.k = 2
      ·
       have h1z : (sd.k == 2) = true := by simp [h1]
       obtain ⟨PP, hP9⟩ : ∃ PP, wd * sd.n = PP := ⟨_, rfl⟩
       have hP0 : 0 ≤ PP ∧ PP ≤ 30000 := by
        rw [← hP9]
        refine ⟨Int.mul_nonneg hwd3.1 hnm.1, ?_⟩
        have h1 : wd * sd.n ≤ 300 * sd.n := Int.mul_le_mul_of_nonneg_right hwd3.2 hnm.1
        omega
       have t1 : IntKind.i64.wrap (wd * sd.n) = PP := by rw [hP9, IntKind.wrap_i64]; omega
       have t2 : IntKind.i64.wrap (PP.tdiv 100) = PP / 100 := by rw [Int.tdiv_eq_ediv_of_nonneg hP0.1, IntKind.wrap_i64]; omega
       have t3 : IntKind.i64.wrap (wd - fl) = wd - fl := by rw [IntKind.wrap_i64]; omega
       by_cases h2 : S ≤ wd - fl
       ·
        have hd2 : decide (S ≤ wd - fl) = true := by simp [h2]
        have hle := HPY.out h1 h2
        rw [hP9] at hle
        have hd3 : decide (y < PP / 100) = false := by simp; omega
        clear hP9 hle h1 h2 HPY
        have ed := bdrew (brefl U)
        have z0 : U.drew.cell? ⟨W1.heap.size, 0, none⟩ = some (.slice Ac t.cols.length kc) := keepW ed (HKU.out.1 0 _ rfl)
        have z1 : U.drew.cell? ⟨W1.heap.size, 1, none⟩ = some (.int .i64 t.head) := keepW ed (HKU.out.1 1 _ rfl)
        have z2 : U.drew.cell? ⟨W1.heap.size, 2, none⟩ = some (.int .i64 t.foot) := keepW ed (HKU.out.1 2 _ rfl)
        have z3 : U.drew.cell? ⟨W1.heap.size, 3, none⟩ = some (.slice Ar t.rows.length kr) := keepW ed (HKU.out.1 3 _ rfl)
        have z4 : U.drew.cell? ⟨W1.heap.size, 4, none⟩ = some (.int .i64 t.gap) := keepW ed (HKU.out.1 4 _ rfl)
        have HBD := hide (bdrew HBU.out)
        have qc := keepW ed hcU
        have s0 := keepW ed (HKS.out.1 0 _ rfl)
        have s1 := keepW ed (HKS.out.1 1 _ rfl)
        have HCE := hide (fun (W : World) (h : Below U.drew.heap.size U.drew W) => hCF.out W (step HBV.out (step HBD.out h)))
        clear ed hcU
        obtain ⟨KF, hKF⟩ : ∃ f : Nat → Value → World → Prop, f = (fun j v W => match j with | 0 => v = .pointer (some ⟨U0.heap.size, 0, none⟩) | 1 => v = .int .i64 sd.k | 2 => v = .bool true | 3 => v = .bool true | 4 => v = .int .i64 S | 5 => v = .int .i64 wd | 6 => v = .agg #[.slice Ac t.cols.length kc, .int .i64 t.head, .int .i64 t.foot, .slice Ar t.rows.length kr, .int .i64 t.gap] | 7 => v = .int .i64 fl | 8 => v = .int .i64 (wd - fl) | 9 => v = .bool true | 10 => v = .bool true | 11 => v = .bool true | 12 => v = .slice (some ⟨b, o, none⟩) L.length cL | 13 => v = .int .i64 ↑jy | 14 => v = .pointer (some ⟨b, o + jy, none⟩) | 15 => v = .int .i64 y | 16 => v = .int .i64 wd | 17 => v = .pointer (some ⟨U0.heap.size, 1, none⟩) | 18 => v = .int .i64 sd.n | 19 => v = .int .i64 PP | 20 => v = .int .i64 (PP / 100) | 21 => v = .bool false | 22 => v = .bool false | _ => True) := ⟨_, rfl⟩
        have k0 : ∀ v W, KF 0 v W ↔ (v = .pointer (some ⟨U0.heap.size, 0, none⟩)) := fun v W => by rw [hKF]; first | done | exact Iff.rfl
        have k1 : ∀ v W, KF 1 v W ↔ (v = .int .i64 sd.k) := fun v W => by rw [hKF]; first | done | exact Iff.rfl
        have k2 : ∀ v W, KF 2 v W ↔ (v = .bool true) := fun v W => by rw [hKF]; first | done | exact Iff.rfl
        have k3 : ∀ v W, KF 3 v W ↔ (v = .bool true) := fun v W => by rw [hKF]; first | done | exact Iff.rfl
        have k4 : ∀ v W, KF 4 v W ↔ (v = .int .i64 S) := fun v W => by rw [hKF]; first | done | exact Iff.rfl
        have k5 : ∀ v W, KF 5 v W ↔ (v = .int .i64 wd) := fun v W => by rw [hKF]; first | done | exact Iff.rfl
        have k6 : ∀ v W, KF 6 v W ↔ (v = .agg #[.slice Ac t.cols.length kc, .int .i64 t.head, .int .i64 t.foot, .slice Ar t.rows.length kr, .int .i64 t.gap]) := fun v W => by rw [hKF]; first | done | exact Iff.rfl
        have k7 : ∀ v W, KF 7 v W ↔ (v = .int .i64 fl) := fun v W => by rw [hKF]; first | done | exact Iff.rfl
        have k8 : ∀ v W, KF 8 v W ↔ (v = .int .i64 (wd - fl)) := fun v W => by rw [hKF]; first | done | exact Iff.rfl
        have k9 : ∀ v W, KF 9 v W ↔ (v = .bool true) := fun v W => by rw [hKF]; first | done | exact Iff.rfl
        have k10 : ∀ v W, KF 10 v W ↔ (v = .bool true) := fun v W => by rw [hKF]; first | done | exact Iff.rfl
        have k11 : ∀ v W, KF 11 v W ↔ (v = .bool true) := fun v W => by rw [hKF]; first | done | exact Iff.rfl
        have k12 : ∀ v W, KF 12 v W ↔ (v = .slice (some ⟨b, o, none⟩) L.length cL) := fun v W => by rw [hKF]; first | done | exact Iff.rfl
        have k13 : ∀ v W, KF 13 v W ↔ (v = .int .i64 ↑jy) := fun v W => by rw [hKF]; first | done | exact Iff.rfl
        have k14 : ∀ v W, KF 14 v W ↔ (v = .pointer (some ⟨b, o + jy, none⟩)) := fun v W => by rw [hKF]; first | done | exact Iff.rfl
        have k15 : ∀ v W, KF 15 v W ↔ (v = .int .i64 y) := fun v W => by rw [hKF]; first | done | exact Iff.rfl
        have k16 : ∀ v W, KF 16 v W ↔ (v = .int .i64 wd) := fun v W => by rw [hKF]; first | done | exact Iff.rfl
        have k17 : ∀ v W, KF 17 v W ↔ (v = .pointer (some ⟨U0.heap.size, 1, none⟩)) := fun v W => by rw [hKF]; first | done | exact Iff.rfl
        have k18 : ∀ v W, KF 18 v W ↔ (v = .int .i64 sd.n) := fun v W => by rw [hKF]; first | done | exact Iff.rfl
        have k19 : ∀ v W, KF 19 v W ↔ (v = .int .i64 PP) := fun v W => by rw [hKF]; first | done | exact Iff.rfl
        have k20 : ∀ v W, KF 20 v W ↔ (v = .int .i64 (PP / 100)) := fun v W => by rw [hKF]; first | done | exact Iff.rfl
        have k21 : ∀ v W, KF 21 v W ↔ (v = .bool false) := fun v W => by rw [hKF]; first | done | exact Iff.rfl
        have k22 : ∀ v W, KF 22 v W ↔ (v = .bool false) := fun v W => by rw [hKF]; first | done | exact Iff.rfl
        have HST : StableP KF := by
         rw [hKF]
         intro j v W W9 h hb
         by_cases hjn : j < 23
         ·
          obtain rfl | rfl | rfl | rfl | rfl | rfl | rfl | rfl | rfl | rfl | rfl | rfl | rfl | rfl | rfl | rfl | rfl | rfl | rfl | rfl | rfl | rfl | rfl : j = 0 ∨ j = 1 ∨ j = 2 ∨ j = 3 ∨ j = 4 ∨ j = 5 ∨ j = 6 ∨ j = 7 ∨ j = 8 ∨ j = 9 ∨ j = 10 ∨ j = 11 ∨ j = 12 ∨ j = 13 ∨ j = 14 ∨ j = 15 ∨ j = 16 ∨ j = 17 ∨ j = 18 ∨ j = 19 ∨ j = 20 ∨ j = 21 ∨ j = 22 := by omega
          ·
           exact h
          ·
           exact h
          ·
           exact h
          ·
           exact h
          ·
           exact h
          ·
           exact h
          ·
           exact h
          ·
           exact h
          ·
           exact h
          ·
           exact h
          ·
           exact h
          ·
           exact h
          ·
           exact h
          ·
           exact h
          ·
           exact h
          ·
           exact h
          ·
           exact h
          ·
           exact h
          ·
           exact h
          ·
           exact h
          ·
           exact h
          ·
           exact h
          ·
           exact h
         ·
          match j, h with
          | 0, h => exact absurd (by decide) hjn
          | 1, h => exact absurd (by decide) hjn
          | 2, h => exact absurd (by decide) hjn
          | 3, h => exact absurd (by decide) hjn
          | 4, h => exact absurd (by decide) hjn
          | 5, h => exact absurd (by decide) hjn
          | 6, h => exact absurd (by decide) hjn
          | 7, h => exact absurd (by decide) hjn
          | 8, h => exact absurd (by decide) hjn
          | 9, h => exact absurd (by decide) hjn
          | 10, h => exact absurd (by decide) hjn
          | 11, h => exact absurd (by decide) hjn
          | 12, h => exact absurd (by decide) hjn
          | 13, h => exact absurd (by decide) hjn
          | 14, h => exact absurd (by decide) hjn
          | 15, h => exact absurd (by decide) hjn
          | 16, h => exact absurd (by decide) hjn
          | 17, h => exact absurd (by decide) hjn
          | 18, h => exact absurd (by decide) hjn
          | 19, h => exact absurd (by decide) hjn
          | 20, h => exact absurd (by decide) hjn
          | 21, h => exact absurd (by decide) hjn
          | 22, h => exact absurd (by decide) hjn
          | _ + 23, h => exact h
        clear hKF
        obtain ⟨dep, hdep⟩ : ∃ f : Nat → List Nat, f = (fun j => match j with | 1 => [0] | 2 => [1] | 3 => [2] | 4 => [3] | 5 => [3] | 6 => [3] | 7 => [6, 3] | 8 => [5, 7, 3] | 9 => [4, 8, 3] | 10 => [3, 9] | 11 => [10, 7] | 12 => [11] | 13 => [11] | 14 => [12, 13, 11] | 15 => [14, 11] | 16 => [11] | 17 => [11] | 18 => [17, 11] | 19 => [16, 18, 11] | 20 => [19, 11] | 21 => [15, 20, 11] | 22 => [11, 21] | _ => []) := ⟨_, rfl⟩
        have d0 : dep 0 = [] := congrFun hdep 0
        have d1 : dep 1 = [0] := congrFun hdep 1
        have d2 : dep 2 = [1] := congrFun hdep 2
        have d3 : dep 3 = [2] := congrFun hdep 3
        have d4 : dep 4 = [3] := congrFun hdep 4
        have d5 : dep 5 = [3] := congrFun hdep 5
        have d6 : dep 6 = [3] := congrFun hdep 6
        have d7 : dep 7 = [6, 3] := congrFun hdep 7
        have d8 : dep 8 = [5, 7, 3] := congrFun hdep 8
        have d9 : dep 9 = [4, 8, 3] := congrFun hdep 9
        have d10 : dep 10 = [3, 9] := congrFun hdep 10
        have d11 : dep 11 = [10, 7] := congrFun hdep 11
        have d12 : dep 12 = [11] := congrFun hdep 12
        have d13 : dep 13 = [11] := congrFun hdep 13
        have d14 : dep 14 = [12, 13, 11] := congrFun hdep 14
        have d15 : dep 15 = [14, 11] := congrFun hdep 15
        have d16 : dep 16 = [11] := congrFun hdep 16
        have d17 : dep 17 = [11] := congrFun hdep 17
        have d18 : dep 18 = [17, 11] := congrFun hdep 18
        have d19 : dep 19 = [16, 18, 11] := congrFun hdep 19
        have d20 : dep 20 = [19, 11] := congrFun hdep 20
        have d21 : dep 21 = [15, 20, 11] := congrFun hdep 21
        have d22 : dep 22 = [11, 21] := congrFun hdep 22
        clear hdep
        have HLD : LastP 23 23 dep := lastP_none (by decide)
        obtain ⟨st, hst⟩ : ∃ f : Nat → Value, f = (fun j => match j with | 0 => u82 | 1 => u83 | 2 => u84 | 3 => u85 | 4 => u86 | 5 => u87 | 6 => u88 | 7 => u89 | 8 => u90 | 9 => u91 | 10 => u92 | 11 => u93 | 12 => u94 | 13 => u95 | 14 => u96 | 15 => u97 | 16 => u98 | 17 => u99 | 18 => u100 | 19 => u101 | 20 => u102 | 21 => u103 | 22 => u104 | _ => undef) := ⟨_, rfl⟩
        have st0 : st 0 = u82 := congrFun hst 0
        have st1 : st 1 = u83 := congrFun hst 1
        have st2 : st 2 = u84 := congrFun hst 2
        have st3 : st 3 = u85 := congrFun hst 3
        have st4 : st 4 = u86 := congrFun hst 4
        have st5 : st 5 = u87 := congrFun hst 5
        have st6 : st 6 = u88 := congrFun hst 6
        have st7 : st 7 = u89 := congrFun hst 7
        have st8 : st 8 = u90 := congrFun hst 8
        have st9 : st 9 = u91 := congrFun hst 9
        have st10 : st 10 = u92 := congrFun hst 10
        have st11 : st 11 = u93 := congrFun hst 11
        have st12 : st 12 = u94 := congrFun hst 12
        have st13 : st 13 = u95 := congrFun hst 13
        have st14 : st 14 = u96 := congrFun hst 14
        have st15 : st 15 = u97 := congrFun hst 15
        have st16 : st 16 = u98 := congrFun hst 16
        have st17 : st 17 = u99 := congrFun hst 17
        have st18 : st 18 = u100 := congrFun hst 18
        have st19 : st 19 = u101 := congrFun hst 19
        have st20 : st 20 = u102 := congrFun hst 20
        have st21 : st 21 = u103 := congrFun hst 21
        have st22 : st 22 = u104 := congrFun hst 22
        refine wp_region_inv (fun l a W => ∃ vs : Nat → Value, a = ⟨List.toArray (.slice A n c :: undef :: u2 :: .pointer (some ⟨W1.heap.size, 0, none⟩) :: .int .i64 wd :: .slice (some ⟨b, o, none⟩) L.length cL :: .slice AX X.length cX :: .int .i64 S :: .int .i64 ↑jx :: .int .i64 ↑jy :: .pointer (some ⟨U0.heap.size, 0, none⟩) :: .slice A n c :: .int .i64 ↑n :: .bool false :: .tuple #[.agg #[.slice Ac t.cols.length kc, .int .i64 t.head, .int .i64 t.foot, .slice Ar t.rows.length kr, .int .i64 t.gap], .int .i64 wd] :: .slice A n c :: .tuple #[.agg #[.slice Ac t.cols.length kc, .int .i64 t.head, .int .i64 t.foot, .slice Ar t.rows.length kr, .int .i64 t.gap], .int .i64 wd] :: .agg #[.slice Ac t.cols.length kc, .int .i64 t.head, .int .i64 t.foot, .slice Ar t.rows.length kr, .int .i64 t.gap] :: .int .i64 wd :: .agg #[.slice Ac t.cols.length kc, .int .i64 t.head, .int .i64 t.foot, .slice Ar t.rows.length kr, .int .i64 t.gap] :: .int .i64 wd :: .slice (some ⟨b, o, none⟩) L.length cL :: .slice (some ⟨b, o, none⟩) L.length cL :: .agg #[.slice Ac t.cols.length kc, .int .i64 t.head, .int .i64 t.foot, .slice Ar t.rows.length kr, .int .i64 t.gap] :: .int .i64 wd :: .slice AM L.length cM :: .bool true :: .bool false :: .slice (some ⟨b, o, none⟩) L.length cL :: .int .i64 ↑L.length :: .bool false :: undef :: undef :: undef :: undef :: undef :: undef :: undef :: undef :: undef :: undef :: undef :: undef :: undef :: undef :: .agg #[.slice Ac t.cols.length kc, .int .i64 t.head, .int .i64 t.foot, .slice Ar t.rows.length kr, .int .i64 t.gap] :: .slice AX X.length cX :: .int .i64 ↑jx :: .slice (some ⟨b, o, none⟩) L.length cL :: .int .i64 ↑L.length :: .bool false :: u51 :: u52 :: u53 :: u54 :: u55 :: u56 :: u57 :: u58 :: u59 :: u60 :: u61 :: u62 :: u63 :: u64 :: u65 :: u66 :: u67 :: u68 :: u69 :: u70 :: u71 :: u72 :: .int .i64 ↑jy :: .slice (some ⟨b, o, none⟩) L.length cL :: .int .i64 ↑L.length :: .bool true :: u77 :: u78 :: .agg #[.slice Ac t.cols.length kc, .int .i64 t.head, .int .i64 t.foot, .slice Ar t.rows.length kr, .int .i64 t.gap] :: .int .i64 ↑jy :: .agg #[.int .i64 sd.k, .int .i64 sd.n] :: vs 0 :: vs 1 :: vs 2 :: vs 3 :: vs 4 :: vs 5 :: vs 6 :: vs 7 :: vs 8 :: vs 9 :: vs 10 :: vs 11 :: vs 12 :: vs 13 :: vs 14 :: vs 15 :: vs 16 :: vs 17 :: vs 18 :: vs 19 :: vs 20 :: vs 21 :: vs 22 :: []), []⟩ ∧ PMid KF 23 23 dep (U.drew) (fun _ _ _ => True) st l vs W) (by kernel_rfl) ?top ?start ?step ?fin
        case top =>
         clear k0 k1 k2 k3 k4 k5 k6 k7 k8 k9 k10 k11 k12 k13 k14 k15 k16 k17 k18 k19 k20 k21 k22 d0 d1 d2 d3 d4 d5 d6 d7 d8 d9 d10 d11 d12 d13 d14 d15 d16 d17 d18 d19 d20 d21 d22 hst st0 st1 st2 st3 st4 st5 st6 st7 st8 st9 st10 st11 st12 st13 st14 st15 st16 st17 st18 st19 st20 st21 st22
         intro j o ho e he
         have hj : j < 23 := (Array.getElem?_eq_some_iff.1 ho).1
         have hA : (o.after.all fun e => decide (e.on < j)) = true := by
          obtain rfl | rfl | rfl | rfl | rfl | rfl | rfl | rfl | rfl | rfl | rfl | rfl | rfl | rfl | rfl | rfl | rfl | rfl | rfl | rfl | rfl | rfl | rfl : j = 0 ∨ j = 1 ∨ j = 2 ∨ j = 3 ∨ j = 4 ∨ j = 5 ∨ j = 6 ∨ j = 7 ∨ j = 8 ∨ j = 9 ∨ j = 10 ∨ j = 11 ∨ j = 12 ∨ j = 13 ∨ j = 14 ∨ j = 15 ∨ j = 16 ∨ j = 17 ∨ j = 18 ∨ j = 19 ∨ j = 20 ∨ j = 21 ∨ j = 22 := by omega
          all_goals
           simp only [List.getElem?_toArray, List.getElem?_cons_zero, List.getElem?_cons_succ, Option.some.injEq] at ho
           subst ho
           first | decide | kernel_rfl | simp
         simpa using Array.all_eq_true'.1 hA e he
        case start => exact ⟨st, by rw [hst]; first | done | rfl, PMid.start⟩
        case step =>
         rintro l a W i o ho hl hpre hsz ⟨vs, rfl, hM0⟩ K hK
         have hi : i < 23 := (Array.getElem?_eq_some_iff.1 ho).1
         obtain rfl | rfl | rfl | rfl | rfl | rfl | rfl | rfl | rfl | rfl | rfl | rfl | rfl | rfl | rfl | rfl | rfl | rfl | rfl | rfl | rfl | rfl | rfl : i = 0 ∨ i = 1 ∨ i = 2 ∨ i = 3 ∨ i = 4 ∨ i = 5 ∨ i = 6 ∨ i = 7 ∨ i = 8 ∨ i = 9 ∨ i = 10 ∨ i = 11 ∨ i = 12 ∨ i = 13 ∨ i = 14 ∨ i = 15 ∨ i = 16 ∨ i = 17 ∨ i = 18 ∨ i = 19 ∨ i = 20 ∨ i = 21 ∨ i = 22 := by omega
         ·
          simp only [List.getElem?_toArray, List.getElem?_cons_zero, List.getElem?_cons_succ, Option.some.injEq] at ho
          subst ho
          have hMB := hM0.below HLD hi (by decide) hl
          have hMG := hM0.get HLD hi (by decide) hl
          have hdp : ∀ e ∈ dep 0, l.getD e false = true := by rw [d0]; exact dep_nil
          have e := k0
          clear k0 k1 k2 k3 k4 k5 k6 k7 k8 k9 k10 k11 k12 k13 k14 k15 k16 k17 k18 k19 k20 k21 k22 d0 d1 d2 d3 d4 d5 d6 d7 d8 d9 d10 d11 d12 d13 d14 d15 d16 d17 d18 d19 d20 d21 d22 hst st0 st1 st2 st3 st4 st5 st6 st7 st8 st9 st10 st11 st12 st13 st14 st15 st16 st17 st18 st19 st20 st21 st22
          go_simp
          exact hK.out _ _ ⟨updV vs 0 (.pointer (some ⟨U0.heap.size, 0, none⟩)), rfl, hM0.still HLD HST 0 (by decide) (by decide) hl _ hdp ((e _ _).2 rfl)⟩
         ·
          simp only [List.getElem?_toArray, List.getElem?_cons_zero, List.getElem?_cons_succ, Option.some.injEq] at ho
          subst ho
          have hMB := hM0.below HLD hi (by decide) hl
          have hMG := hM0.get HLD hi (by decide) hl
          have v0 : vs 0 = .pointer (some ⟨U0.heap.size, 0, none⟩) := (k0 _ _).1 (hMG 0 (by decide) (hpre ⟨0, .data⟩ (by simp) rfl))
          have hdp : ∀ e ∈ dep 1, l.getD e false = true := by rw [d1]; exact (dep_cons (hpre ⟨0, .data⟩ (by simp) rfl) dep_nil)
          have e := k1
          clear k0 k1 k2 k3 k4 k5 k6 k7 k8 k9 k10 k11 k12 k13 k14 k15 k16 k17 k18 k19 k20 k21 k22 d0 d1 d2 d3 d4 d5 d6 d7 d8 d9 d10 d11 d12 d13 d14 d15 d16 d17 d18 d19 d20 d21 d22 hst st0 st1 st2 st3 st4 st5 st6 st7 st8 st9 st10 st11 st12 st13 st14 st15 st16 st17 st18 st19 st20 st21 st22
          have x0 := keepW hMB s0
          rw [v0]
          go_simp
          exact hK.out _ _ ⟨updV vs 1 (.int .i64 sd.k), (by simp [updV, v0]), hM0.still HLD HST 1 (by decide) (by decide) hl _ hdp ((e _ _).2 rfl)⟩
         ·
          simp only [List.getElem?_toArray, List.getElem?_cons_zero, List.getElem?_cons_succ, Option.some.injEq] at ho
          subst ho
          have hMB := hM0.below HLD hi (by decide) hl
          have hMG := hM0.get HLD hi (by decide) hl
          have v1 : vs 1 = .int .i64 sd.k := (k1 _ _).1 (hMG 1 (by decide) (hpre ⟨1, .data⟩ (by simp) rfl))
          have hdp : ∀ e ∈ dep 2, l.getD e false = true := by rw [d2]; exact (dep_cons (hpre ⟨1, .data⟩ (by simp) rfl) dep_nil)
          have e := k2
          clear k0 k1 k2 k3 k4 k5 k6 k7 k8 k9 k10 k11 k12 k13 k14 k15 k16 k17 k18 k19 k20 k21 k22 d0 d1 d2 d3 d4 d5 d6 d7 d8 d9 d10 d11 d12 d13 d14 d15 d16 d17 d18 d19 d20 d21 d22 hst st0 st1 st2 st3 st4 st5 st6 st7 st8 st9 st10 st11 st12 st13 st14 st15 st16 st17 st18 st19 st20 st21 st22
          rw [v1]
          go_simp
          exact hK.out _ _ ⟨updV vs 2 (.bool true), (by simp [updV, v1]), hM0.still HLD HST 2 (by decide) (by decide) hl _ hdp ((e _ _).2 rfl)⟩
         ·
          simp only [List.getElem?_toArray, List.getElem?_cons_zero, List.getElem?_cons_succ, Option.some.injEq] at ho
          subst ho
          have hMB := hM0.below HLD hi (by decide) hl
          have hMG := hM0.get HLD hi (by decide) hl
          have v2 : vs 2 = .bool true := (k2 _ _).1 (hMG 2 (by decide) (hpre ⟨2, .data⟩ (by simp) rfl))
          have hdp : ∀ e ∈ dep 3, l.getD e false = true := by rw [d3]; exact (dep_cons (hpre ⟨2, .data⟩ (by simp) rfl) dep_nil)
          have e := k3
          clear k0 k1 k2 k3 k4 k5 k6 k7 k8 k9 k10 k11 k12 k13 k14 k15 k16 k17 k18 k19 k20 k21 k22 d0 d1 d2 d3 d4 d5 d6 d7 d8 d9 d10 d11 d12 d13 d14 d15 d16 d17 d18 d19 d20 d21 d22 hst st0 st1 st2 st3 st4 st5 st6 st7 st8 st9 st10 st11 st12 st13 st14 st15 st16 st17 st18 st19 st20 st21 st22
          rw [v2]
          go_simp
          exact hK.out _ _ ⟨updV vs 3 (.bool true), (by simp [updV, v2]), hM0.still HLD HST 3 (by decide) (by decide) hl _ hdp ((e _ _).2 rfl)⟩
         ·
          simp only [List.getElem?_toArray, List.getElem?_cons_zero, List.getElem?_cons_succ, Option.some.injEq] at ho
          subst ho
          have hMB := hM0.below HLD hi (by decide) hl
          have hMG := hM0.get HLD hi (by decide) hl
          have v3 : vs 3 = .bool true := (k3 _ _).1 (hMG 3 (by decide) (hpre ⟨3, .guard⟩ (by simp) rfl))
          have hdp : ∀ e ∈ dep 4, l.getD e false = true := by rw [d4]; exact (dep_cons (hpre ⟨3, .guard⟩ (by simp) rfl) dep_nil)
          have e := k4
          clear k0 k1 k2 k3 k4 k5 k6 k7 k8 k9 k10 k11 k12 k13 k14 k15 k16 k17 k18 k19 k20 k21 k22 d0 d1 d2 d3 d4 d5 d6 d7 d8 d9 d10 d11 d12 d13 d14 d15 d16 d17 d18 d19 d20 d21 d22 hst st0 st1 st2 st3 st4 st5 st6 st7 st8 st9 st10 st11 st12 st13 st14 st15 st16 st17 st18 st19 st20 st21 st22
          rw [v3]
          go_simp
          exact hK.out _ _ ⟨updV vs 4 (.int .i64 S), (by simp [updV, v3]), hM0.still HLD HST 4 (by decide) (by decide) hl _ hdp ((e _ _).2 rfl)⟩
         ·
          simp only [List.getElem?_toArray, List.getElem?_cons_zero, List.getElem?_cons_succ, Option.some.injEq] at ho
          subst ho
          have hMB := hM0.below HLD hi (by decide) hl
          have hMG := hM0.get HLD hi (by decide) hl
          have v3 : vs 3 = .bool true := (k3 _ _).1 (hMG 3 (by decide) (hpre ⟨3, .guard⟩ (by simp) rfl))
          have hdp : ∀ e ∈ dep 5, l.getD e false = true := by rw [d5]; exact (dep_cons (hpre ⟨3, .guard⟩ (by simp) rfl) dep_nil)
          have e := k5
          clear k0 k1 k2 k3 k4 k5 k6 k7 k8 k9 k10 k11 k12 k13 k14 k15 k16 k17 k18 k19 k20 k21 k22 d0 d1 d2 d3 d4 d5 d6 d7 d8 d9 d10 d11 d12 d13 d14 d15 d16 d17 d18 d19 d20 d21 d22 hst st0 st1 st2 st3 st4 st5 st6 st7 st8 st9 st10 st11 st12 st13 st14 st15 st16 st17 st18 st19 st20 st21 st22
          rw [v3]
          go_simp
          exact hK.out _ _ ⟨updV vs 5 (.int .i64 wd), (by simp [updV, v3]), hM0.still HLD HST 5 (by decide) (by decide) hl _ hdp ((e _ _).2 rfl)⟩
         ·
          simp only [List.getElem?_toArray, List.getElem?_cons_zero, List.getElem?_cons_succ, Option.some.injEq] at ho
          subst ho
          have hMB := hM0.below HLD hi (by decide) hl
          have hMG := hM0.get HLD hi (by decide) hl
          have v3 : vs 3 = .bool true := (k3 _ _).1 (hMG 3 (by decide) (hpre ⟨3, .guard⟩ (by simp) rfl))
          have hdp : ∀ e ∈ dep 6, l.getD e false = true := by rw [d6]; exact (dep_cons (hpre ⟨3, .guard⟩ (by simp) rfl) dep_nil)
          have e := k6
          clear k0 k1 k2 k3 k4 k5 k6 k7 k8 k9 k10 k11 k12 k13 k14 k15 k16 k17 k18 k19 k20 k21 k22 d0 d1 d2 d3 d4 d5 d6 d7 d8 d9 d10 d11 d12 d13 d14 d15 d16 d17 d18 d19 d20 d21 d22 hst st0 st1 st2 st3 st4 st5 st6 st7 st8 st9 st10 st11 st12 st13 st14 st15 st16 st17 st18 st19 st20 st21 st22
          have x0 := keepW hMB z0
          have x1 := keepW hMB z1
          have x2 := keepW hMB z2
          have x3 := keepW hMB z3
          have x4 := keepW hMB z4
          rw [v3]
          go_simp
          exact hK.out _ _ ⟨updV vs 6 (.agg #[.slice Ac t.cols.length kc, .int .i64 t.head, .int .i64 t.foot, .slice Ar t.rows.length kr, .int .i64 t.gap]), (by simp [updV, v3]), hM0.still HLD HST 6 (by decide) (by decide) hl _ hdp ((e _ _).2 rfl)⟩
         ·
          simp only [List.getElem?_toArray, List.getElem?_cons_zero, List.getElem?_cons_succ, Option.some.injEq] at ho
          subst ho
          have hMB := hM0.below HLD hi (by decide) hl
          have hMG := hM0.get HLD hi (by decide) hl
          have v6 : vs 6 = .agg #[.slice Ac t.cols.length kc, .int .i64 t.head, .int .i64 t.foot, .slice Ar t.rows.length kr, .int .i64 t.gap] := (k6 _ _).1 (hMG 6 (by decide) (hpre ⟨6, .data⟩ (by simp) rfl))
          have v3 : vs 3 = .bool true := (k3 _ _).1 (hMG 3 (by decide) (hpre ⟨3, .chain⟩ (by simp) rfl))
          have hdp : ∀ e ∈ dep 7, l.getD e false = true := by rw [d7]; exact (dep_cons (hpre ⟨6, .data⟩ (by simp) rfl) (dep_cons (hpre ⟨3, .chain⟩ (by simp) rfl) dep_nil))
          have e := k7
          clear k0 k1 k2 k3 k4 k5 k6 k7 k8 k9 k10 k11 k12 k13 k14 k15 k16 k17 k18 k19 k20 k21 k22 d0 d1 d2 d3 d4 d5 d6 d7 d8 d9 d10 d11 d12 d13 d14 d15 d16 d17 d18 d19 d20 d21 d22 hst st0 st1 st2 st3 st4 st5 st6 st7 st8 st9 st10 st11 st12 st13 st14 st15 st16 st17 st18 st19 st20 st21 st22
          rw [v6, v3]
          go_simp
          refine (HCE.out _ hMB).mono ?_
          rintro e5 W5 ⟨rfl, hb5⟩
          exact hK.out _ _ ⟨updV vs 7 (.int .i64 fl), (by simp [updV, v6, v3]), hM0.next HLD HST 7 (by decide) (by decide) hl _ hdp hb5 ((e _ _).2 rfl)⟩
         ·
          simp only [List.getElem?_toArray, List.getElem?_cons_zero, List.getElem?_cons_succ, Option.some.injEq] at ho
          subst ho
          have hMB := hM0.below HLD hi (by decide) hl
          have hMG := hM0.get HLD hi (by decide) hl
          have v5 : vs 5 = .int .i64 wd := (k5 _ _).1 (hMG 5 (by decide) (hpre ⟨5, .data⟩ (by simp) rfl))
          have v7 : vs 7 = .int .i64 fl := (k7 _ _).1 (hMG 7 (by decide) (hpre ⟨7, .data⟩ (by simp) rfl))
          have v3 : vs 3 = .bool true := (k3 _ _).1 (hMG 3 (by decide) (hpre ⟨3, .guard⟩ (by simp) rfl))
          have hdp : ∀ e ∈ dep 8, l.getD e false = true := by rw [d8]; exact (dep_cons (hpre ⟨5, .data⟩ (by simp) rfl) (dep_cons (hpre ⟨7, .data⟩ (by simp) rfl) (dep_cons (hpre ⟨3, .guard⟩ (by simp) rfl) dep_nil)))
          have e := k8
          clear k0 k1 k2 k3 k4 k5 k6 k7 k8 k9 k10 k11 k12 k13 k14 k15 k16 k17 k18 k19 k20 k21 k22 d0 d1 d2 d3 d4 d5 d6 d7 d8 d9 d10 d11 d12 d13 d14 d15 d16 d17 d18 d19 d20 d21 d22 hst st0 st1 st2 st3 st4 st5 st6 st7 st8 st9 st10 st11 st12 st13 st14 st15 st16 st17 st18 st19 st20 st21 st22
          rw [v5, v7, v3]
          go_simp
          exact hK.out _ _ ⟨updV vs 8 (.int .i64 (wd - fl)), (by simp [updV, v5, v7, v3]), hM0.still HLD HST 8 (by decide) (by decide) hl _ hdp ((e _ _).2 rfl)⟩
         ·
          simp only [List.getElem?_toArray, List.getElem?_cons_zero, List.getElem?_cons_succ, Option.some.injEq] at ho
          subst ho
          have hMB := hM0.below HLD hi (by decide) hl
          have hMG := hM0.get HLD hi (by decide) hl
          have v4 : vs 4 = .int .i64 S := (k4 _ _).1 (hMG 4 (by decide) (hpre ⟨4, .data⟩ (by simp) rfl))
          have v8 : vs 8 = .int .i64 (wd - fl) := (k8 _ _).1 (hMG 8 (by decide) (hpre ⟨8, .data⟩ (by simp) rfl))
          have v3 : vs 3 = .bool true := (k3 _ _).1 (hMG 3 (by decide) (hpre ⟨3, .guard⟩ (by simp) rfl))
          have hdp : ∀ e ∈ dep 9, l.getD e false = true := by rw [d9]; exact (dep_cons (hpre ⟨4, .data⟩ (by simp) rfl) (dep_cons (hpre ⟨8, .data⟩ (by simp) rfl) (dep_cons (hpre ⟨3, .guard⟩ (by simp) rfl) dep_nil)))
          have e := k9
          clear k0 k1 k2 k3 k4 k5 k6 k7 k8 k9 k10 k11 k12 k13 k14 k15 k16 k17 k18 k19 k20 k21 k22 d0 d1 d2 d3 d4 d5 d6 d7 d8 d9 d10 d11 d12 d13 d14 d15 d16 d17 d18 d19 d20 d21 d22 hst st0 st1 st2 st3 st4 st5 st6 st7 st8 st9 st10 st11 st12 st13 st14 st15 st16 st17 st18 st19 st20 st21 st22
          rw [v4, v8, v3]
          go_simp
          exact hK.out _ _ ⟨updV vs 9 (.bool true), (by simp [updV, v4, v8, v3]), hM0.still HLD HST 9 (by decide) (by decide) hl _ hdp ((e _ _).2 rfl)⟩
         ·
          simp only [List.getElem?_toArray, List.getElem?_cons_zero, List.getElem?_cons_succ, Option.some.injEq] at ho
          subst ho
          have hMB := hM0.below HLD hi (by decide) hl
          have hMG := hM0.get HLD hi (by decide) hl
          have v3 : vs 3 = .bool true := (k3 _ _).1 (hMG 3 (by decide) (hpre ⟨3, .data⟩ (by simp) rfl))
          have v9 : vs 9 = .bool true := (k9 _ _).1 (hMG 9 (by decide) (hpre ⟨9, .data⟩ (by simp) rfl))
          have hdp : ∀ e ∈ dep 10, l.getD e false = true := by rw [d10]; exact (dep_cons (hpre ⟨3, .data⟩ (by simp) rfl) (dep_cons (hpre ⟨9, .data⟩ (by simp) rfl) dep_nil))
          have e := k10
          clear k0 k1 k2 k3 k4 k5 k6 k7 k8 k9 k10 k11 k12 k13 k14 k15 k16 k17 k18 k19 k20 k21 k22 d0 d1 d2 d3 d4 d5 d6 d7 d8 d9 d10 d11 d12 d13 d14 d15 d16 d17 d18 d19 d20 d21 d22 hst st0 st1 st2 st3 st4 st5 st6 st7 st8 st9 st10 st11 st12 st13 st14 st15 st16 st17 st18 st19 st20 st21 st22
          rw [v3, v9]
          go_simp
          exact hK.out _ _ ⟨updV vs 10 (.bool true), (by simp [updV, v3, v9]), hM0.still HLD HST 10 (by decide) (by decide) hl _ hdp ((e _ _).2 rfl)⟩
         ·
          simp only [List.getElem?_toArray, List.getElem?_cons_zero, List.getElem?_cons_succ, Option.some.injEq] at ho
          subst ho
          have hMB := hM0.below HLD hi (by decide) hl
          have hMG := hM0.get HLD hi (by decide) hl
          have v10 : vs 10 = .bool true := (k10 _ _).1 (hMG 10 (by decide) (hpre ⟨10, .data⟩ (by simp) rfl))
          have v7 : vs 7 = .int .i64 fl := (k7 _ _).1 (hMG 7 (by decide) (hpre ⟨7, .chain⟩ (by simp) rfl))
          have hdp : ∀ e ∈ dep 11, l.getD e false = true := by rw [d11]; exact (dep_cons (hpre ⟨10, .data⟩ (by simp) rfl) (dep_cons (hpre ⟨7, .chain⟩ (by simp) rfl) dep_nil))
          have e := k11
          clear k0 k1 k2 k3 k4 k5 k6 k7 k8 k9 k10 k11 k12 k13 k14 k15 k16 k17 k18 k19 k20 k21 k22 d0 d1 d2 d3 d4 d5 d6 d7 d8 d9 d10 d11 d12 d13 d14 d15 d16 d17 d18 d19 d20 d21 d22 hst st0 st1 st2 st3 st4 st5 st6 st7 st8 st9 st10 st11 st12 st13 st14 st15 st16 st17 st18 st19 st20 st21 st22
          rw [v10, v7]
          go_simp
          exact hK.out _ _ ⟨updV vs 11 (.bool true), (by simp [updV, v10, v7]), hM0.still HLD HST 11 (by decide) (by decide) hl _ hdp ((e _ _).2 rfl)⟩
         ·
          simp only [List.getElem?_toArray, List.getElem?_cons_zero, List.getElem?_cons_succ, Option.some.injEq] at ho
          subst ho
          have hMB := hM0.below HLD hi (by decide) hl
          have hMG := hM0.get HLD hi (by decide) hl
          have v11 : vs 11 = .bool true := (k11 _ _).1 (hMG 11 (by decide) (hpre ⟨11, .guard⟩ (by simp) rfl))
          have hdp : ∀ e ∈ dep 12, l.getD e false = true := by rw [d12]; exact (dep_cons (hpre ⟨11, .guard⟩ (by simp) rfl) dep_nil)
          have e := k12
          clear k0 k1 k2 k3 k4 k5 k6 k7 k8 k9 k10 k11 k12 k13 k14 k15 k16 k17 k18 k19 k20 k21 k22 d0 d1 d2 d3 d4 d5 d6 d7 d8 d9 d10 d11 d12 d13 d14 d15 d16 d17 d18 d19 d20 d21 d22 hst st0 st1 st2 st3 st4 st5 st6 st7 st8 st9 st10 st11 st12 st13 st14 st15 st16 st17 st18 st19 st20 st21 st22
          rw [v11]
          go_simp
          exact hK.out _ _ ⟨updV vs 12 (.slice (some ⟨b, o, none⟩) L.length cL), (by simp [updV, v11]), hM0.still HLD HST 12 (by decide) (by decide) hl _ hdp ((e _ _).2 rfl)⟩
         ·
          simp only [List.getElem?_toArray, List.getElem?_cons_zero, List.getElem?_cons_succ, Option.some.injEq] at ho
          subst ho
          have hMB := hM0.below HLD hi (by decide) hl
          have hMG := hM0.get HLD hi (by decide) hl
          have v11 : vs 11 = .bool true := (k11 _ _).1 (hMG 11 (by decide) (hpre ⟨11, .guard⟩ (by simp) rfl))
          have hdp : ∀ e ∈ dep 13, l.getD e false = true := by rw [d13]; exact (dep_cons (hpre ⟨11, .guard⟩ (by simp) rfl) dep_nil)
          have e := k13
          clear k0 k1 k2 k3 k4 k5 k6 k7 k8 k9 k10 k11 k12 k13 k14 k15 k16 k17 k18 k19 k20 k21 k22 d0 d1 d2 d3 d4 d5 d6 d7 d8 d9 d10 d11 d12 d13 d14 d15 d16 d17 d18 d19 d20 d21 d22 hst st0 st1 st2 st3 st4 st5 st6 st7 st8 st9 st10 st11 st12 st13 st14 st15 st16 st17 st18 st19 st20 st21 st22
          rw [v11]
          go_simp
          exact hK.out _ _ ⟨updV vs 13 (.int .i64 ↑jy), (by simp [updV, v11]), hM0.still HLD HST 13 (by decide) (by decide) hl _ hdp ((e _ _).2 rfl)⟩
         ·
          simp only [List.getElem?_toArray, List.getElem?_cons_zero, List.getElem?_cons_succ, Option.some.injEq] at ho
          subst ho
          have hMB := hM0.below HLD hi (by decide) hl
          have hMG := hM0.get HLD hi (by decide) hl
          have v12 : vs 12 = .slice (some ⟨b, o, none⟩) L.length cL := (k12 _ _).1 (hMG 12 (by decide) (hpre ⟨12, .data⟩ (by simp) rfl))
          have v13 : vs 13 = .int .i64 ↑jy := (k13 _ _).1 (hMG 13 (by decide) (hpre ⟨13, .data⟩ (by simp) rfl))
          have v11 : vs 11 = .bool true := (k11 _ _).1 (hMG 11 (by decide) (hpre ⟨11, .guard⟩ (by simp) rfl))
          have hdp : ∀ e ∈ dep 14, l.getD e false = true := by rw [d14]; exact (dep_cons (hpre ⟨12, .data⟩ (by simp) rfl) (dep_cons (hpre ⟨13, .data⟩ (by simp) rfl) (dep_cons (hpre ⟨11, .guard⟩ (by simp) rfl) dep_nil)))
          have e := k14
          clear k0 k1 k2 k3 k4 k5 k6 k7 k8 k9 k10 k11 k12 k13 k14 k15 k16 k17 k18 k19 k20 k21 k22 d0 d1 d2 d3 d4 d5 d6 d7 d8 d9 d10 d11 d12 d13 d14 d15 d16 d17 d18 d19 d20 d21 d22 hst st0 st1 st2 st3 st4 st5 st6 st7 st8 st9 st10 st11 st12 st13 st14 st15 st16 st17 st18 st19 st20 st21 st22
          rw [v12, v13, v11]
          go_simp
          exact hK.out _ _ ⟨updV vs 14 (.pointer (some ⟨b, o + jy, none⟩)), (by simp [updV, v12, v13, v11]), hM0.still HLD HST 14 (by decide) (by decide) hl _ hdp ((e _ _).2 rfl)⟩
         ·
          simp only [List.getElem?_toArray, List.getElem?_cons_zero, List.getElem?_cons_succ, Option.some.injEq] at ho
          subst ho
          have hMB := hM0.below HLD hi (by decide) hl
          have hMG := hM0.get HLD hi (by decide) hl
          have v14 : vs 14 = .pointer (some ⟨b, o + jy, none⟩) := (k14 _ _).1 (hMG 14 (by decide) (hpre ⟨14, .data⟩ (by simp) rfl))
          have v11 : vs 11 = .bool true := (k11 _ _).1 (hMG 11 (by decide) (hpre ⟨11, .guard⟩ (by simp) rfl))
          have hdp : ∀ e ∈ dep 15, l.getD e false = true := by rw [d15]; exact (dep_cons (hpre ⟨14, .data⟩ (by simp) rfl) (dep_cons (hpre ⟨11, .guard⟩ (by simp) rfl) dep_nil))
          have e := k15
          clear k0 k1 k2 k3 k4 k5 k6 k7 k8 k9 k10 k11 k12 k13 k14 k15 k16 k17 k18 k19 k20 k21 k22 d0 d1 d2 d3 d4 d5 d6 d7 d8 d9 d10 d11 d12 d13 d14 d15 d16 d17 d18 d19 d20 d21 d22 hst st0 st1 st2 st3 st4 st5 st6 st7 st8 st9 st10 st11 st12 st13 st14 st15 st16 st17 st18 st19 st20 st21 st22
          have x0 := keepW hMB qc
          rw [v14, v11]
          go_simp
          exact hK.out _ _ ⟨updV vs 15 (.int .i64 y), (by simp [updV, v14, v11]), hM0.still HLD HST 15 (by decide) (by decide) hl _ hdp ((e _ _).2 rfl)⟩
         ·
          simp only [List.getElem?_toArray, List.getElem?_cons_zero, List.getElem?_cons_succ, Option.some.injEq] at ho
          subst ho
          have hMB := hM0.below HLD hi (by decide) hl
          have hMG := hM0.get HLD hi (by decide) hl
          have v11 : vs 11 = .bool true := (k11 _ _).1 (hMG 11 (by decide) (hpre ⟨11, .guard⟩ (by simp) rfl))
          have hdp : ∀ e ∈ dep 16, l.getD e false = true := by rw [d16]; exact (dep_cons (hpre ⟨11, .guard⟩ (by simp) rfl) dep_nil)
          have e := k16
          clear k0 k1 k2 k3 k4 k5 k6 k7 k8 k9 k10 k11 k12 k13 k14 k15 k16 k17 k18 k19 k20 k21 k22 d0 d1 d2 d3 d4 d5 d6 d7 d8 d9 d10 d11 d12 d13 d14 d15 d16 d17 d18 d19 d20 d21 d22 hst st0 st1 st2 st3 st4 st5 st6 st7 st8 st9 st10 st11 st12 st13 st14 st15 st16 st17 st18 st19 st20 st21 st22
          rw [v11]
          go_simp
          exact hK.out _ _ ⟨updV vs 16 (.int .i64 wd), (by simp [updV, v11]), hM0.still HLD HST 16 (by decide) (by decide) hl _ hdp ((e _ _).2 rfl)⟩
         ·
          simp only [List.getElem?_toArray, List.getElem?_cons_zero, List.getElem?_cons_succ, Option.some.injEq] at ho
          subst ho
          have hMB := hM0.below HLD hi (by decide) hl
          have hMG := hM0.get HLD hi (by decide) hl
          have v11 : vs 11 = .bool true := (k11 _ _).1 (hMG 11 (by decide) (hpre ⟨11, .guard⟩ (by simp) rfl))
          have hdp : ∀ e ∈ dep 17, l.getD e false = true := by rw [d17]; exact (dep_cons (hpre ⟨11, .guard⟩ (by simp) rfl) dep_nil)
          have e := k17
          clear k0 k1 k2 k3 k4 k5 k6 k7 k8 k9 k10 k11 k12 k13 k14 k15 k16 k17 k18 k19 k20 k21 k22 d0 d1 d2 d3 d4 d5 d6 d7 d8 d9 d10 d11 d12 d13 d14 d15 d16 d17 d18 d19 d20 d21 d22 hst st0 st1 st2 st3 st4 st5 st6 st7 st8 st9 st10 st11 st12 st13 st14 st15 st16 st17 st18 st19 st20 st21 st22
          rw [v11]
          go_simp
          exact hK.out _ _ ⟨updV vs 17 (.pointer (some ⟨U0.heap.size, 1, none⟩)), (by simp [updV, v11]), hM0.still HLD HST 17 (by decide) (by decide) hl _ hdp ((e _ _).2 rfl)⟩
         ·
          simp only [List.getElem?_toArray, List.getElem?_cons_zero, List.getElem?_cons_succ, Option.some.injEq] at ho
          subst ho
          have hMB := hM0.below HLD hi (by decide) hl
          have hMG := hM0.get HLD hi (by decide) hl
          have v17 : vs 17 = .pointer (some ⟨U0.heap.size, 1, none⟩) := (k17 _ _).1 (hMG 17 (by decide) (hpre ⟨17, .data⟩ (by simp) rfl))
          have v11 : vs 11 = .bool true := (k11 _ _).1 (hMG 11 (by decide) (hpre ⟨11, .guard⟩ (by simp) rfl))
          have hdp : ∀ e ∈ dep 18, l.getD e false = true := by rw [d18]; exact (dep_cons (hpre ⟨17, .data⟩ (by simp) rfl) (dep_cons (hpre ⟨11, .guard⟩ (by simp) rfl) dep_nil))
          have e := k18
          clear k0 k1 k2 k3 k4 k5 k6 k7 k8 k9 k10 k11 k12 k13 k14 k15 k16 k17 k18 k19 k20 k21 k22 d0 d1 d2 d3 d4 d5 d6 d7 d8 d9 d10 d11 d12 d13 d14 d15 d16 d17 d18 d19 d20 d21 d22 hst st0 st1 st2 st3 st4 st5 st6 st7 st8 st9 st10 st11 st12 st13 st14 st15 st16 st17 st18 st19 st20 st21 st22
          have x0 := keepW hMB s1
          rw [v17, v11]
          go_simp
          exact hK.out _ _ ⟨updV vs 18 (.int .i64 sd.n), (by simp [updV, v17, v11]), hM0.still HLD HST 18 (by decide) (by decide) hl _ hdp ((e _ _).2 rfl)⟩
         ·
          simp only [List.getElem?_toArray, List.getElem?_cons_zero, List.getElem?_cons_succ, Option.some.injEq] at ho
          subst ho
          have hMB := hM0.below HLD hi (by decide) hl
          have hMG := hM0.get HLD hi (by decide) hl
          have v16 : vs 16 = .int .i64 wd := (k16 _ _).1 (hMG 16 (by decide) (hpre ⟨16, .data⟩ (by simp) rfl))
          have v18 : vs 18 = .int .i64 sd.n := (k18 _ _).1 (hMG 18 (by decide) (hpre ⟨18, .data⟩ (by simp) rfl))
          have v11 : vs 11 = .bool true := (k11 _ _).1 (hMG 11 (by decide) (hpre ⟨11, .guard⟩ (by simp) rfl))
          have hdp : ∀ e ∈ dep 19, l.getD e false = true := by rw [d19]; exact (dep_cons (hpre ⟨16, .data⟩ (by simp) rfl) (dep_cons (hpre ⟨18, .data⟩ (by simp) rfl) (dep_cons (hpre ⟨11, .guard⟩ (by simp) rfl) dep_nil)))
          have e := k19
          clear k0 k1 k2 k3 k4 k5 k6 k7 k8 k9 k10 k11 k12 k13 k14 k15 k16 k17 k18 k19 k20 k21 k22 d0 d1 d2 d3 d4 d5 d6 d7 d8 d9 d10 d11 d12 d13 d14 d15 d16 d17 d18 d19 d20 d21 d22 hst st0 st1 st2 st3 st4 st5 st6 st7 st8 st9 st10 st11 st12 st13 st14 st15 st16 st17 st18 st19 st20 st21 st22
          rw [v16, v18, v11]
          go_simp
          exact hK.out _ _ ⟨updV vs 19 (.int .i64 PP), (by simp [updV, v16, v18, v11]), hM0.still HLD HST 19 (by decide) (by decide) hl _ hdp ((e _ _).2 rfl)⟩
         ·
          simp only [List.getElem?_toArray, List.getElem?_cons_zero, List.getElem?_cons_succ, Option.some.injEq] at ho
          subst ho
          have hMB := hM0.below HLD hi (by decide) hl
          have hMG := hM0.get HLD hi (by decide) hl
          have v19 : vs 19 = .int .i64 PP := (k19 _ _).1 (hMG 19 (by decide) (hpre ⟨19, .data⟩ (by simp) rfl))
          have v11 : vs 11 = .bool true := (k11 _ _).1 (hMG 11 (by decide) (hpre ⟨11, .guard⟩ (by simp) rfl))
          have hdp : ∀ e ∈ dep 20, l.getD e false = true := by rw [d20]; exact (dep_cons (hpre ⟨19, .data⟩ (by simp) rfl) (dep_cons (hpre ⟨11, .guard⟩ (by simp) rfl) dep_nil))
          have e := k20
          clear k0 k1 k2 k3 k4 k5 k6 k7 k8 k9 k10 k11 k12 k13 k14 k15 k16 k17 k18 k19 k20 k21 k22 d0 d1 d2 d3 d4 d5 d6 d7 d8 d9 d10 d11 d12 d13 d14 d15 d16 d17 d18 d19 d20 d21 d22 hst st0 st1 st2 st3 st4 st5 st6 st7 st8 st9 st10 st11 st12 st13 st14 st15 st16 st17 st18 st19 st20 st21 st22
          rw [v19, v11]
          go_simp
          exact hK.out _ _ ⟨updV vs 20 (.int .i64 (PP / 100)), (by simp [updV, v19, v11]), hM0.still HLD HST 20 (by decide) (by decide) hl _ hdp ((e _ _).2 rfl)⟩
         ·
          simp only [List.getElem?_toArray, List.getElem?_cons_zero, List.getElem?_cons_succ, Option.some.injEq] at ho
          subst ho
          have hMB := hM0.below HLD hi (by decide) hl
          have hMG := hM0.get HLD hi (by decide) hl
          have v15 : vs 15 = .int .i64 y := (k15 _ _).1 (hMG 15 (by decide) (hpre ⟨15, .data⟩ (by simp) rfl))
          have v20 : vs 20 = .int .i64 (PP / 100) := (k20 _ _).1 (hMG 20 (by decide) (hpre ⟨20, .data⟩ (by simp) rfl))
          have v11 : vs 11 = .bool true := (k11 _ _).1 (hMG 11 (by decide) (hpre ⟨11, .guard⟩ (by simp) rfl))
          have hdp : ∀ e ∈ dep 21, l.getD e false = true := by rw [d21]; exact (dep_cons (hpre ⟨15, .data⟩ (by simp) rfl) (dep_cons (hpre ⟨20, .data⟩ (by simp) rfl) (dep_cons (hpre ⟨11, .guard⟩ (by simp) rfl) dep_nil)))
          have e := k21
          clear k0 k1 k2 k3 k4 k5 k6 k7 k8 k9 k10 k11 k12 k13 k14 k15 k16 k17 k18 k19 k20 k21 k22 d0 d1 d2 d3 d4 d5 d6 d7 d8 d9 d10 d11 d12 d13 d14 d15 d16 d17 d18 d19 d20 d21 d22 hst st0 st1 st2 st3 st4 st5 st6 st7 st8 st9 st10 st11 st12 st13 st14 st15 st16 st17 st18 st19 st20 st21 st22
          rw [v15, v20, v11]
          go_simp
          exact hK.out _ _ ⟨updV vs 21 (.bool false), (by simp [updV, v15, v20, v11]), hM0.still HLD HST 21 (by decide) (by decide) hl _ hdp ((e _ _).2 rfl)⟩
         ·
          simp only [List.getElem?_toArray, List.getElem?_cons_zero, List.getElem?_cons_succ, Option.some.injEq] at ho
          subst ho
          have hMB := hM0.below HLD hi (by decide) hl
          have hMG := hM0.get HLD hi (by decide) hl
          have v11 : vs 11 = .bool true := (k11 _ _).1 (hMG 11 (by decide) (hpre ⟨11, .data⟩ (by simp) rfl))
          have v21 : vs 21 = .bool false := (k21 _ _).1 (hMG 21 (by decide) (hpre ⟨21, .data⟩ (by simp) rfl))
          have hdp : ∀ e ∈ dep 22, l.getD e false = true := by rw [d22]; exact (dep_cons (hpre ⟨11, .data⟩ (by simp) rfl) (dep_cons (hpre ⟨21, .data⟩ (by simp) rfl) dep_nil))
          have e := k22
          clear k0 k1 k2 k3 k4 k5 k6 k7 k8 k9 k10 k11 k12 k13 k14 k15 k16 k17 k18 k19 k20 k21 k22 d0 d1 d2 d3 d4 d5 d6 d7 d8 d9 d10 d11 d12 d13 d14 d15 d16 d17 d18 d19 d20 d21 d22 hst st0 st1 st2 st3 st4 st5 st6 st7 st8 st9 st10 st11 st12 st13 st14 st15 st16 st17 st18 st19 st20 st21 st22
          rw [v11, v21]
          go_simp
          exact hK.out _ _ ⟨updV vs 22 (.bool false), (by simp [updV, v11, v21]), hM0.still HLD HST 22 (by decide) (by decide) hl _ hdp ((e _ _).2 rfl)⟩
        case fin =>
         rintro l a W20 hall ⟨vs20, rfl, hM0⟩
         obtain ⟨hMB, hMG⟩ := hM0.fin0 (by decide) hall
         have HBW := hide hMB
         have v22 : vs20 22 = .bool false := (k22 _ _).1 (hMG 22 (by decide))
         rw [v22]
         clear k0 k1 k2 k3 k4 k5 k6 k7 k8 k9 k10 k11 k12 k13 k14 k15 k16 k17 k18 k19 k20 k21 k22 d0 d1 d2 d3 d4 d5 d6 d7 d8 d9 d10 d11 d12 d13 d14 d15 d16 d17 d18 d19 d20 d21 d22 hst st0 st1 st2 st3 st4 st5 st6 st7 st8 st9 st10 st11 st12 st13 st14 st15 st16 st17 st18 st19 st20 st21 st22 HLD HST hMG v22 hMB hall hM0 st
         go_wp2_with fail
         go_roundg (L.length - (jy + 1))
         case measure => omega
         case rel => exact ⟨jy + 1, by omega, by omega, by go_num, (show Aside _ from step HBD.out HBW.out)⟩
       ·
        have hd2 : decide (S ≤ wd - fl) = false := by simp; omega
        clear hP9 h1 h2 HPY
        have ed := bdrew (brefl U)
        have z0 : U.drew.cell? ⟨W1.heap.size, 0, none⟩ = some (.slice Ac t.cols.length kc) := keepW ed (HKU.out.1 0 _ rfl)
        have z1 : U.drew.cell? ⟨W1.heap.size, 1, none⟩ = some (.int .i64 t.head) := keepW ed (HKU.out.1 1 _ rfl)
        have z2 : U.drew.cell? ⟨W1.heap.size, 2, none⟩ = some (.int .i64 t.foot) := keepW ed (HKU.out.1 2 _ rfl)
        have z3 : U.drew.cell? ⟨W1.heap.size, 3, none⟩ = some (.slice Ar t.rows.length kr) := keepW ed (HKU.out.1 3 _ rfl)
        have z4 : U.drew.cell? ⟨W1.heap.size, 4, none⟩ = some (.int .i64 t.gap) := keepW ed (HKU.out.1 4 _ rfl)
        have HBD := hide (bdrew HBU.out)
        have qc := keepW ed hcU
        have s0 := keepW ed (HKS.out.1 0 _ rfl)
        have s1 := keepW ed (HKS.out.1 1 _ rfl)
        have HCE := hide (fun (W : World) (h : Below U.drew.heap.size U.drew W) => hCF.out W (step HBV.out (step HBD.out h)))
        clear ed hcU
        obtain ⟨KF, hKF⟩ : ∃ f : Nat → Value → World → Prop, f = (fun j v W => match j with | 0 => v = .pointer (some ⟨U0.heap.size, 0, none⟩) | 1 => v = .int .i64 sd.k | 2 => v = .bool true | 3 => v = .bool true | 4 => v = .int .i64 S | 5 => v = .int .i64 wd | 6 => v = .agg #[.slice Ac t.cols.length kc, .int .i64 t.head, .int .i64 t.foot, .slice Ar t.rows.length kr, .int .i64 t.gap] | 7 => v = .int .i64 fl | 8 => v = .int .i64 (wd - fl) | 9 => v = .bool false | 10 => v = .bool false | 11 => v = .bool false | 12 => v = undef | 13 => v = undef | 14 => v = undef | 15 => v = undef | 16 => v = undef | 17 => v = undef | 18 => v = undef | 19 => v = undef | 20 => v = undef | 21 => v = undef | 22 => v = .bool false | _ => True) := ⟨_, rfl⟩
        have k0 : ∀ v W, KF 0 v W ↔ (v = .pointer (some ⟨U0.heap.size, 0, none⟩)) := fun v W => by rw [hKF]; first | done | exact Iff.rfl
        have k1 : ∀ v W, KF 1 v W ↔ (v = .int .i64 sd.k) := fun v W => by rw [hKF]; first | done | exact Iff.rfl
        have k2 : ∀ v W, KF 2 v W ↔ (v = .bool true) := fun v W => by rw [hKF]; first | done | exact Iff.rfl
        have k3 : ∀ v W, KF 3 v W ↔ (v = .bool true) := fun v W => by rw [hKF]; first | done | exact Iff.rfl
        have k4 : ∀ v W, KF 4 v W ↔ (v = .int .i64 S) := fun v W => by rw [hKF]; first | done | exact Iff.rfl
        have k5 : ∀ v W, KF 5 v W ↔ (v = .int .i64 wd) := fun v W => by rw [hKF]; first | done | exact Iff.rfl
        have k6 : ∀ v W, KF 6 v W ↔ (v = .agg #[.slice Ac t.cols.length kc, .int .i64 t.head, .int .i64 t.foot, .slice Ar t.rows.length kr, .int .i64 t.gap]) := fun v W => by rw [hKF]; first | done | exact Iff.rfl
        have k7 : ∀ v W, KF 7 v W ↔ (v = .int .i64 fl) := fun v W => by rw [hKF]; first | done | exact Iff.rfl
        have k8 : ∀ v W, KF 8 v W ↔ (v = .int .i64 (wd - fl)) := fun v W => by rw [hKF]; first | done | exact Iff.rfl
        have k9 : ∀ v W, KF 9 v W ↔ (v = .bool false) := fun v W => by rw [hKF]; first | done | exact Iff.rfl
        have k10 : ∀ v W, KF 10 v W ↔ (v = .bool false) := fun v W => by rw [hKF]; first | done | exact Iff.rfl
        have k11 : ∀ v W, KF 11 v W ↔ (v = .bool false) := fun v W => by rw [hKF]; first | done | exact Iff.rfl
        have k12 : ∀ v W, KF 12 v W ↔ (v = undef) := fun v W => by rw [hKF]; first | done | exact Iff.rfl
        have k13 : ∀ v W, KF 13 v W ↔ (v = undef) := fun v W => by rw [hKF]; first | done | exact Iff.rfl
        have k14 : ∀ v W, KF 14 v W ↔ (v = undef) := fun v W => by rw [hKF]; first | done | exact Iff.rfl
        have k15 : ∀ v W, KF 15 v W ↔ (v = undef) := fun v W => by rw [hKF]; first | done | exact Iff.rfl
        have k16 : ∀ v W, KF 16 v W ↔ (v = undef) := fun v W => by rw [hKF]; first | done | exact Iff.rfl
        have k17 : ∀ v W, KF 17 v W ↔ (v = undef) := fun v W => by rw [hKF]; first | done | exact Iff.rfl
        have k18 : ∀ v W, KF 18 v W ↔ (v = undef) := fun v W => by rw [hKF]; first | done | exact Iff.rfl
        have k19 : ∀ v W, KF 19 v W ↔ (v = undef) := fun v W => by rw [hKF]; first | done | exact Iff.rfl
        have k20 : ∀ v W, KF 20 v W ↔ (v = undef) := fun v W => by rw [hKF]; first | done | exact Iff.rfl
        have k21 : ∀ v W, KF 21 v W ↔ (v = undef) := fun v W => by rw [hKF]; first | done | exact Iff.rfl
        have k22 : ∀ v W, KF 22 v W ↔ (v = .bool false) := fun v W => by rw [hKF]; first | done | exact Iff.rfl
        have HST : StableP KF := by
         rw [hKF]
         intro j v W W9 h hb
         by_cases hjn : j < 23
         ·
          obtain rfl | rfl | rfl | rfl | rfl | rfl | rfl | rfl | rfl | rfl | rfl | rfl | rfl | rfl | rfl | rfl | rfl | rfl | rfl | rfl | rfl | rfl | rfl : j = 0 ∨ j = 1 ∨ j = 2 ∨ j = 3 ∨ j = 4 ∨ j = 5 ∨ j = 6 ∨ j = 7 ∨ j = 8 ∨ j = 9 ∨ j = 10 ∨ j = 11 ∨ j = 12 ∨ j = 13 ∨ j = 14 ∨ j = 15 ∨ j = 16 ∨ j = 17 ∨ j = 18 ∨ j = 19 ∨ j = 20 ∨ j = 21 ∨ j = 22 := by omega
          ·
           exact h
          ·
           exact h
          ·
           exact h
          ·
           exact h
          ·
           exact h
          ·
           exact h
          ·
           exact h
          ·
           exact h
          ·
           exact h
          ·
           exact h
          ·
           exact h
          ·
           exact h
          ·
           exact h
          ·
           exact h
          ·
           exact h
          ·
           exact h
          ·
           exact h
          ·
           exact h
          ·
           exact h
          ·
           exact h
          ·
           exact h
          ·
           exact h
          ·
           exact h
         ·
          match j, h with
          | 0, h => exact absurd (by decide) hjn
          | 1, h => exact absurd (by decide) hjn
          | 2, h => exact absurd (by decide) hjn
          | 3, h => exact absurd (by decide) hjn
          | 4, h => exact absurd (by decide) hjn
          | 5, h => exact absurd (by decide) hjn
          | 6, h => exact absurd (by decide) hjn
          | 7, h => exact absurd (by decide) hjn
          | 8, h => exact absurd (by decide) hjn
          | 9, h => exact absurd (by decide) hjn
          | 10, h => exact absurd (by decide) hjn
          | 11, h => exact absurd (by decide) hjn
          | 12, h => exact absurd (by decide) hjn
          | 13, h => exact absurd (by decide) hjn
          | 14, h => exact absurd (by decide) hjn
          | 15, h => exact absurd (by decide) hjn
          | 16, h => exact absurd (by decide) hjn
          | 17, h => exact absurd (by decide) hjn
          | 18, h => exact absurd (by decide) hjn
          | 19, h => exact absurd (by decide) hjn
          | 20, h => exact absurd (by decide) hjn
          | 21, h => exact absurd (by decide) hjn
          | 22, h => exact absurd (by decide) hjn
          | _ + 23, h => exact h
        clear hKF
        obtain ⟨dep, hdep⟩ : ∃ f : Nat → List Nat, f = (fun j => match j with | 1 => [0] | 2 => [1] | 3 => [2] | 4 => [3] | 5 => [3] | 6 => [3] | 7 => [6, 3] | 8 => [5, 7, 3] | 9 => [4, 8, 3] | 10 => [3, 9] | 11 => [10, 7] | 12 => [11] | 13 => [11] | 14 => [12, 13, 11] | 15 => [14, 11] | 16 => [11] | 17 => [11] | 18 => [17, 11] | 19 => [16, 18, 11] | 20 => [19, 11] | 21 => [15, 20, 11] | 22 => [11, 21] | _ => []) := ⟨_, rfl⟩
        have d0 : dep 0 = [] := congrFun hdep 0
        have d1 : dep 1 = [0] := congrFun hdep 1
        have d2 : dep 2 = [1] := congrFun hdep 2
        have d3 : dep 3 = [2] := congrFun hdep 3
        have d4 : dep 4 = [3] := congrFun hdep 4
        have d5 : dep 5 = [3] := congrFun hdep 5
        have d6 : dep 6 = [3] := congrFun hdep 6
        have d7 : dep 7 = [6, 3] := congrFun hdep 7
        have d8 : dep 8 = [5, 7, 3] := congrFun hdep 8
        have d9 : dep 9 = [4, 8, 3] := congrFun hdep 9
        have d10 : dep 10 = [3, 9] := congrFun hdep 10
        have d11 : dep 11 = [10, 7] := congrFun hdep 11
        have d12 : dep 12 = [11] := congrFun hdep 12
        have d13 : dep 13 = [11] := congrFun hdep 13
        have d14 : dep 14 = [12, 13, 11] := congrFun hdep 14
        have d15 : dep 15 = [14, 11] := congrFun hdep 15
        have d16 : dep 16 = [11] := congrFun hdep 16
        have d17 : dep 17 = [11] := congrFun hdep 17
        have d18 : dep 18 = [17, 11] := congrFun hdep 18
        have d19 : dep 19 = [16, 18, 11] := congrFun hdep 19
        have d20 : dep 20 = [19, 11] := congrFun hdep 20
        have d21 : dep 21 = [15, 20, 11] := congrFun hdep 21
        have d22 : dep 22 = [11, 21] := congrFun hdep 22
        clear hdep
        have HLD : LastP 23 23 dep := lastP_none (by decide)
        obtain ⟨st, hst⟩ : ∃ f : Nat → Value, f = (fun j => match j with | 0 => u82 | 1 => u83 | 2 => u84 | 3 => u85 | 4 => u86 | 5 => u87 | 6 => u88 | 7 => u89 | 8 => u90 | 9 => u91 | 10 => u92 | 11 => u93 | 12 => u94 | 13 => u95 | 14 => u96 | 15 => u97 | 16 => u98 | 17 => u99 | 18 => u100 | 19 => u101 | 20 => u102 | 21 => u103 | 22 => u104 | _ => undef) := ⟨_, rfl⟩
        have st0 : st 0 = u82 := congrFun hst 0
        have st1 : st 1 = u83 := congrFun hst 1
        have st2 : st 2 = u84 := congrFun hst 2
        have st3 : st 3 = u85 := congrFun hst 3
        have st4 : st 4 = u86 := congrFun hst 4
        have st5 : st 5 = u87 := congrFun hst 5
        have st6 : st 6 = u88 := congrFun hst 6
        have st7 : st 7 = u89 := congrFun hst 7
        have st8 : st 8 = u90 := congrFun hst 8
        have st9 : st 9 = u91 := congrFun hst 9
        have st10 : st 10 = u92 := congrFun hst 10
        have st11 : st 11 = u93 := congrFun hst 11
        have st12 : st 12 = u94 := congrFun hst 12
        have st13 : st 13 = u95 := congrFun hst 13
        have st14 : st 14 = u96 := congrFun hst 14
        have st15 : st 15 = u97 := congrFun hst 15
        have st16 : st 16 = u98 := congrFun hst 16
        have st17 : st 17 = u99 := congrFun hst 17
        have st18 : st 18 = u100 := congrFun hst 18
        have st19 : st 19 = u101 := congrFun hst 19
        have st20 : st 20 = u102 := congrFun hst 20
        have st21 : st 21 = u103 := congrFun hst 21
        have st22 : st 22 = u104 := congrFun hst 22
        refine wp_region_inv (fun l a W => ∃ vs : Nat → Value, a = ⟨List.toArray (.slice A n c :: undef :: u2 :: .pointer (some ⟨W1.heap.size, 0, none⟩) :: .int .i64 wd :: .slice (some ⟨b, o, none⟩) L.length cL :: .slice AX X.length cX :: .int .i64 S :: .int .i64 ↑jx :: .int .i64 ↑jy :: .pointer (some ⟨U0.heap.size, 0, none⟩) :: .slice A n c :: .int .i64 ↑n :: .bool false :: .tuple #[.agg #[.slice Ac t.cols.length kc, .int .i64 t.head, .int .i64 t.foot, .slice Ar t.rows.length kr, .int .i64 t.gap], .int .i64 wd] :: .slice A n c :: .tuple #[.agg #[.slice Ac t.cols.length kc, .int .i64 t.head, .int .i64 t.foot, .slice Ar t.rows.length kr, .int .i64 t.gap], .int .i64 wd] :: .agg #[.slice Ac t.cols.length kc, .int .i64 t.head, .int .i64 t.foot, .slice Ar t.rows.length kr, .int .i64 t.gap] :: .int .i64 wd :: .agg #[.slice Ac t.cols.length kc, .int .i64 t.head, .int .i64 t.foot, .slice Ar t.rows.length kr, .int .i64 t.gap] :: .int .i64 wd :: .slice (some ⟨b, o, none⟩) L.length cL :: .slice (some ⟨b, o, none⟩) L.length cL :: .agg #[.slice Ac t.cols.length kc, .int .i64 t.head, .int .i64 t.foot, .slice Ar t.rows.length kr, .int .i64 t.gap] :: .int .i64 wd :: .slice AM L.length cM :: .bool true :: .bool false :: .slice (some ⟨b, o, none⟩) L.length cL :: .int .i64 ↑L.length :: .bool false :: undef :: undef :: undef :: undef :: undef :: undef :: undef :: undef :: undef :: undef :: undef :: undef :: undef :: undef :: .agg #[.slice Ac t.cols.length kc, .int .i64 t.head, .int .i64 t.foot, .slice Ar t.rows.length kr, .int .i64 t.gap] :: .slice AX X.length cX :: .int .i64 ↑jx :: .slice (some ⟨b, o, none⟩) L.length cL :: .int .i64 ↑L.length :: .bool false :: u51 :: u52 :: u53 :: u54 :: u55 :: u56 :: u57 :: u58 :: u59 :: u60 :: u61 :: u62 :: u63 :: u64 :: u65 :: u66 :: u67 :: u68 :: u69 :: u70 :: u71 :: u72 :: .int .i64 ↑jy :: .slice (some ⟨b, o, none⟩) L.length cL :: .int .i64 ↑L.length :: .bool true :: u77 :: u78 :: .agg #[.slice Ac t.cols.length kc, .int .i64 t.head, .int .i64 t.foot, .slice Ar t.rows.length kr, .int .i64 t.gap] :: .int .i64 ↑jy :: .agg #[.int .i64 sd.k, .int .i64 sd.n] :: vs 0 :: vs 1 :: vs 2 :: vs 3 :: vs 4 :: vs 5 :: vs 6 :: vs 7 :: vs 8 :: vs 9 :: vs 10 :: vs 11 :: vs 12 :: vs 13 :: vs 14 :: vs 15 :: vs 16 :: vs 17 :: vs 18 :: vs 19 :: vs 20 :: vs 21 :: vs 22 :: []), []⟩ ∧ PMid KF 23 23 dep (U.drew) (fun _ _ _ => True) st l vs W) (by kernel_rfl) ?top ?start ?step ?fin
        case top =>
         clear k0 k1 k2 k3 k4 k5 k6 k7 k8 k9 k10 k11 k12 k13 k14 k15 k16 k17 k18 k19 k20 k21 k22 d0 d1 d2 d3 d4 d5 d6 d7 d8 d9 d10 d11 d12 d13 d14 d15 d16 d17 d18 d19 d20 d21 d22 hst st0 st1 st2 st3 st4 st5 st6 st7 st8 st9 st10 st11 st12 st13 st14 st15 st16 st17 st18 st19 st20 st21 st22
         intro j o ho e he
         have hj : j < 23 := (Array.getElem?_eq_some_iff.1 ho).1
         have hA : (o.after.all fun e => decide (e.on < j)) = true := by
          obtain rfl | rfl | rfl | rfl | rfl | rfl | rfl | rfl | rfl | rfl | rfl | rfl | rfl | rfl | rfl | rfl | rfl | rfl | rfl | rfl | rfl | rfl | rfl : j = 0 ∨ j = 1 ∨ j = 2 ∨ j = 3 ∨ j = 4 ∨ j = 5 ∨ j = 6 ∨ j = 7 ∨ j = 8 ∨ j = 9 ∨ j = 10 ∨ j = 11 ∨ j = 12 ∨ j = 13 ∨ j = 14 ∨ j = 15 ∨ j = 16 ∨ j = 17 ∨ j = 18 ∨ j = 19 ∨ j = 20 ∨ j = 21 ∨ j = 22 := by omega
          all_goals
           simp only [List.getElem?_toArray, List.getElem?_cons_zero, List.getElem?_cons_succ, Option.some.injEq] at ho
           subst ho
           first | decide | kernel_rfl | simp
         simpa using Array.all_eq_true'.1 hA e he
        case start => exact ⟨st, by rw [hst]; first | done | rfl, PMid.start⟩
        case step =>
         rintro l a W i o ho hl hpre hsz ⟨vs, rfl, hM0⟩ K hK
         have hi : i < 23 := (Array.getElem?_eq_some_iff.1 ho).1
         obtain rfl | rfl | rfl | rfl | rfl | rfl | rfl | rfl | rfl | rfl | rfl | rfl | rfl | rfl | rfl | rfl | rfl | rfl | rfl | rfl | rfl | rfl | rfl : i = 0 ∨ i = 1 ∨ i = 2 ∨ i = 3 ∨ i = 4 ∨ i = 5 ∨ i = 6 ∨ i = 7 ∨ i = 8 ∨ i = 9 ∨ i = 10 ∨ i = 11 ∨ i = 12 ∨ i = 13 ∨ i = 14 ∨ i = 15 ∨ i = 16 ∨ i = 17 ∨ i = 18 ∨ i = 19 ∨ i = 20 ∨ i = 21 ∨ i = 22 := by omega
         ·
          simp only [List.getElem?_toArray, List.getElem?_cons_zero, List.getElem?_cons_succ, Option.some.injEq] at ho
          subst ho
          have hMB := hM0.below HLD hi (by decide) hl
          have hMG := hM0.get HLD hi (by decide) hl
          have hdp : ∀ e ∈ dep 0, l.getD e false = true := by rw [d0]; exact dep_nil
          have e := k0
          clear k0 k1 k2 k3 k4 k5 k6 k7 k8 k9 k10 k11 k12 k13 k14 k15 k16 k17 k18 k19 k20 k21 k22 d0 d1 d2 d3 d4 d5 d6 d7 d8 d9 d10 d11 d12 d13 d14 d15 d16 d17 d18 d19 d20 d21 d22 hst st0 st1 st2 st3 st4 st5 st6 st7 st8 st9 st10 st11 st12 st13 st14 st15 st16 st17 st18 st19 st20 st21 st22
          go_simp
          exact hK.out _ _ ⟨updV vs 0 (.pointer (some ⟨U0.heap.size, 0, none⟩)), rfl, hM0.still HLD HST 0 (by decide) (by decide) hl _ hdp ((e _ _).2 rfl)⟩
         ·
          simp only [List.getElem?_toArray, List.getElem?_cons_zero, List.getElem?_cons_succ, Option.some.injEq] at ho
          subst ho
          have hMB := hM0.below HLD hi (by decide) hl
          have hMG := hM0.get HLD hi (by decide) hl
          have v0 : vs 0 = .pointer (some ⟨U0.heap.size, 0, none⟩) := (k0 _ _).1 (hMG 0 (by decide) (hpre ⟨0, .data⟩ (by simp) rfl))
          have hdp : ∀ e ∈ dep 1, l.getD e false = true := by rw [d1]; exact (dep_cons (hpre ⟨0, .data⟩ (by simp) rfl) dep_nil)
          have e := k1
          clear k0 k1 k2 k3 k4 k5 k6 k7 k8 k9 k10 k11 k12 k13 k14 k15 k16 k17 k18 k19 k20 k21 k22 d0 d1 d2 d3 d4 d5 d6 d7 d8 d9 d10 d11 d12 d13 d14 d15 d16 d17 d18 d19 d20 d21 d22 hst st0 st1 st2 st3 st4 st5 st6 st7 st8 st9 st10 st11 st12 st13 st14 st15 st16 st17 st18 st19 st20 st21 st22
          have x0 := keepW hMB s0
          rw [v0]
          go_simp
          exact hK.out _ _ ⟨updV vs 1 (.int .i64 sd.k), (by simp [updV, v0]), hM0.still HLD HST 1 (by decide) (by decide) hl _ hdp ((e _ _).2 rfl)⟩
         ·
          simp only [List.getElem?_toArray, List.getElem?_cons_zero, List.getElem?_cons_succ, Option.some.injEq] at ho
          subst ho
          have hMB := hM0.below HLD hi (by decide) hl
          have hMG := hM0.get HLD hi (by decide) hl
          have v1 : vs 1 = .int .i64 sd.k := (k1 _ _).1 (hMG 1 (by decide) (hpre ⟨1, .data⟩ (by simp) rfl))
          have hdp : ∀ e ∈ dep 2, l.getD e false = true := by rw [d2]; exact (dep_cons (hpre ⟨1, .data⟩ (by simp) rfl) dep_nil)
          have e := k2
          clear k0 k1 k2 k3 k4 k5 k6 k7 k8 k9 k10 k11 k12 k13 k14 k15 k16 k17 k18 k19 k20 k21 k22 d0 d1 d2 d3 d4 d5 d6 d7 d8 d9 d10 d11 d12 d13 d14 d15 d16 d17 d18 d19 d20 d21 d22 hst st0 st1 st2 st3 st4 st5 st6 st7 st8 st9 st10 st11 st12 st13 st14 st15 st16 st17 st18 st19 st20 st21 st22
          rw [v1]
          go_simp
          exact hK.out _ _ ⟨updV vs 2 (.bool true), (by simp [updV, v1]), hM0.still HLD HST 2 (by decide) (by decide) hl _ hdp ((e _ _).2 rfl)⟩
         ·
          simp only [List.getElem?_toArray, List.getElem?_cons_zero, List.getElem?_cons_succ, Option.some.injEq] at ho
          subst ho
          have hMB := hM0.below HLD hi (by decide) hl
          have hMG := hM0.get HLD hi (by decide) hl
          have v2 : vs 2 = .bool true := (k2 _ _).1 (hMG 2 (by decide) (hpre ⟨2, .data⟩ (by simp) rfl))
          have hdp : ∀ e ∈ dep 3, l.getD e false = true := by rw [d3]; exact (dep_cons (hpre ⟨2, .data⟩ (by simp) rfl) dep_nil)
          have e := k3
          clear k0 k1 k2 k3 k4 k5 k6 k7 k8 k9 k10 k11 k12 k13 k14 k15 k16 k17 k18 k19 k20 k21 k22 d0 d1 d2 d3 d4 d5 d6 d7 d8 d9 d10 d11 d12 d13 d14 d15 d16 d17 d18 d19 d20 d21 d22 hst st0 st1 st2 st3 st4 st5 st6 st7 st8 st9 st10 st11 st12 st13 st14 st15 st16 st17 st18 st19 st20 st21 st22
          rw [v2]
          go_simp
          exact hK.out _ _ ⟨updV vs 3 (.bool true), (by simp [updV, v2]), hM0.still HLD HST 3 (by decide) (by decide) hl _ hdp ((e _ _).2 rfl)⟩
         ·
          simp only [List.getElem?_toArray, List.getElem?_cons_zero, List.getElem?_cons_succ, Option.some.injEq] at ho
          subst ho
          have hMB := hM0.below HLD hi (by decide) hl
          have hMG := hM0.get HLD hi (by decide) hl
          have v3 : vs 3 = .bool true := (k3 _ _).1 (hMG 3 (by decide) (hpre ⟨3, .guard⟩ (by simp) rfl))
          have hdp : ∀ e ∈ dep 4, l.getD e false = true := by rw [d4]; exact (dep_cons (hpre ⟨3, .guard⟩ (by simp) rfl) dep_nil)
          have e := k4
          clear k0 k1 k2 k3 k4 k5 k6 k7 k8 k9 k10 k11 k12 k13 k14 k15 k16 k17 k18 k19 k20 k21 k22 d0 d1 d2 d3 d4 d5 d6 d7 d8 d9 d10 d11 d12 d13 d14 d15 d16 d17 d18 d19 d20 d21 d22 hst st0 st1 st2 st3 st4 st5 st6 st7 st8 st9 st10 st11 st12 st13 st14 st15 st16 st17 st18 st19 st20 st21 st22
          rw [v3]
          go_simp
          exact hK.out _ _ ⟨updV vs 4 (.int .i64 S), (by simp [updV, v3]), hM0.still HLD HST 4 (by decide) (by decide) hl _ hdp ((e _ _).2 rfl)⟩
         ·
          simp only [List.getElem?_toArray, List.getElem?_cons_zero, List.getElem?_cons_succ, Option.some.injEq] at ho
          subst ho
          have hMB := hM0.below HLD hi (by decide) hl
          have hMG := hM0.get HLD hi (by decide) hl
          have v3 : vs 3 = .bool true := (k3 _ _).1 (hMG 3 (by decide) (hpre ⟨3, .guard⟩ (by simp) rfl))
          have hdp : ∀ e ∈ dep 5, l.getD e false = true := by rw [d5]; exact (dep_cons (hpre ⟨3, .guard⟩ (by simp) rfl) dep_nil)
          have e := k5
          clear k0 k1 k2 k3 k4 k5 k6 k7 k8 k9 k10 k11 k12 k13 k14 k15 k16 k17 k18 k19 k20 k21 k22 d0 d1 d2 d3 d4 d5 d6 d7 d8 d9 d10 d11 d12 d13 d14 d15 d16 d17 d18 d19 d20 d21 d22 hst st0 st1 st2 st3 st4 st5 st6 st7 st8 st9 st10 st11 st12 st13 st14 st15 st16 st17 st18 st19 st20 st21 st22
          rw [v3]
          go_simp
          exact hK.out _ _ ⟨updV vs 5 (.int .i64 wd), (by simp [updV, v3]), hM0.still HLD HST 5 (by decide) (by decide) hl _ hdp ((e _ _).2 rfl)⟩
         ·
          simp only [List.getElem?_toArray, List.getElem?_cons_zero, List.getElem?_cons_succ, Option.some.injEq] at ho
          subst ho
          have hMB := hM0.below HLD hi (by decide) hl
          have hMG := hM0.get HLD hi (by decide) hl
          have v3 : vs 3 = .bool true := (k3 _ _).1 (hMG 3 (by decide) (hpre ⟨3, .guard⟩ (by simp) rfl))
          have hdp : ∀ e ∈ dep 6, l.getD e false = true := by rw [d6]; exact (dep_cons (hpre ⟨3, .guard⟩ (by simp) rfl) dep_nil)
          have e := k6
          clear k0 k1 k2 k3 k4 k5 k6 k7 k8 k9 k10 k11 k12 k13 k14 k15 k16 k17 k18 k19 k20 k21 k22 d0 d1 d2 d3 d4 d5 d6 d7 d8 d9 d10 d11 d12 d13 d14 d15 d16 d17 d18 d19 d20 d21 d22 hst st0 st1 st2 st3 st4 st5 st6 st7 st8 st9 st10 st11 st12 st13 st14 st15 st16 st17 st18 st19 st20 st21 st22
          have x0 := keepW hMB z0
          have x1 := keepW hMB z1
          have x2 := keepW hMB z2
          have x3 := keepW hMB z3
          have x4 := keepW hMB z4
          rw [v3]
          go_simp
          exact hK.out _ _ ⟨updV vs 6 (.agg #[.slice Ac t.cols.length kc, .int .i64 t.head, .int .i64 t.foot, .slice Ar t.rows.length kr, .int .i64 t.gap]), (by simp [updV, v3]), hM0.still HLD HST 6 (by decide) (by decide) hl _ hdp ((e _ _).2 rfl)⟩
         ·
          simp only [List.getElem?_toArray, List.getElem?_cons_zero, List.getElem?_cons_succ, Option.some.injEq] at ho
          subst ho
          have hMB := hM0.below HLD hi (by decide) hl
          have hMG := hM0.get HLD hi (by decide) hl
          have v6 : vs 6 = .agg #[.slice Ac t.cols.length kc, .int .i64 t.head, .int .i64 t.foot, .slice Ar t.rows.length kr, .int .i64 t.gap] := (k6 _ _).1 (hMG 6 (by decide) (hpre ⟨6, .data⟩ (by simp) rfl))
          have v3 : vs 3 = .bool true := (k3 _ _).1 (hMG 3 (by decide) (hpre ⟨3, .chain⟩ (by simp) rfl))
          have hdp : ∀ e ∈ dep 7, l.getD e false = true := by rw [d7]; exact (dep_cons (hpre ⟨6, .data⟩ (by simp) rfl) (dep_cons (hpre ⟨3, .chain⟩ (by simp) rfl) dep_nil))
          have e := k7
          clear k0 k1 k2 k3 k4 k5 k6 k7 k8 k9 k10 k11 k12 k13 k14 k15 k16 k17 k18 k19 k20 k21 k22 d0 d1 d2 d3 d4 d5 d6 d7 d8 d9 d10 d11 d12 d13 d14 d15 d16 d17 d18 d19 d20 d21 d22 hst st0 st1 st2 st3 st4 st5 st6 st7 st8 st9 st10 st11 st12 st13 st14 st15 st16 st17 st18 st19 st20 st21 st22
          rw [v6, v3]
          go_simp
          refine (HCE.out _ hMB).mono ?_
          rintro e5 W5 ⟨rfl, hb5⟩
          exact hK.out _ _ ⟨updV vs 7 (.int .i64 fl), (by simp [updV, v6, v3]), hM0.next HLD HST 7 (by decide) (by decide) hl _ hdp hb5 ((e _ _).2 rfl)⟩
         ·
          simp only [List.getElem?_toArray, List.getElem?_cons_zero, List.getElem?_cons_succ, Option.some.injEq] at ho
          subst ho
          have hMB := hM0.below HLD hi (by decide) hl
          have hMG := hM0.get HLD hi (by decide) hl
          have v5 : vs 5 = .int .i64 wd := (k5 _ _).1 (hMG 5 (by decide) (hpre ⟨5, .data⟩ (by simp) rfl))
          have v7 : vs 7 = .int .i64 fl := (k7 _ _).1 (hMG 7 (by decide) (hpre ⟨7, .data⟩ (by simp) rfl))
          have v3 : vs 3 = .bool true := (k3 _ _).1 (hMG 3 (by decide) (hpre ⟨3, .guard⟩ (by simp) rfl))
          have hdp : ∀ e ∈ dep 8, l.getD e false = true := by rw [d8]; exact (dep_cons (hpre ⟨5, .data⟩ (by simp) rfl) (dep_cons (hpre ⟨7, .data⟩ (by simp) rfl) (dep_cons (hpre ⟨3, .guard⟩ (by simp) rfl) dep_nil)))
          have e := k8
          clear k0 k1 k2 k3 k4 k5 k6 k7 k8 k9 k10 k11 k12 k13 k14 k15 k16 k17 k18 k19 k20 k21 k22 d0 d1 d2 d3 d4 d5 d6 d7 d8 d9 d10 d11 d12 d13 d14 d15 d16 d17 d18 d19 d20 d21 d22 hst st0 st1 st2 st3 st4 st5 st6 st7 st8 st9 st10 st11 st12 st13 st14 st15 st16 st17 st18 st19 st20 st21 st22
          rw [v5, v7, v3]
          go_simp
          exact hK.out _ _ ⟨updV vs 8 (.int .i64 (wd - fl)), (by simp [updV, v5, v7, v3]), hM0.still HLD HST 8 (by decide) (by decide) hl _ hdp ((e _ _).2 rfl)⟩
         ·
          simp only [List.getElem?_toArray, List.getElem?_cons_zero, List.getElem?_cons_succ, Option.some.injEq] at ho
          subst ho
          have hMB := hM0.below HLD hi (by decide) hl
          have hMG := hM0.get HLD hi (by decide) hl
          have v4 : vs 4 = .int .i64 S := (k4 _ _).1 (hMG 4 (by decide) (hpre ⟨4, .data⟩ (by simp) rfl))
          have v8 : vs 8 = .int .i64 (wd - fl) := (k8 _ _).1 (hMG 8 (by decide) (hpre ⟨8, .data⟩ (by simp) rfl))
          have v3 : vs 3 = .bool true := (k3 _ _).1 (hMG 3 (by decide) (hpre ⟨3, .guard⟩ (by simp) rfl))
          have hdp : ∀ e ∈ dep 9, l.getD e false = true := by rw [d9]; exact (dep_cons (hpre ⟨4, .data⟩ (by simp) rfl) (dep_cons (hpre ⟨8, .data⟩ (by simp) rfl) (dep_cons (hpre ⟨3, .guard⟩ (by simp) rfl) dep_nil)))
          have e := k9
          clear k0 k1 k2 k3 k4 k5 k6 k7 k8 k9 k10 k11 k12 k13 k14 k15 k16 k17 k18 k19 k20 k21 k22 d0 d1 d2 d3 d4 d5 d6 d7 d8 d9 d10 d11 d12 d13 d14 d15 d16 d17 d18 d19 d20 d21 d22 hst st0 st1 st2 st3 st4 st5 st6 st7 st8 st9 st10 st11 st12 st13 st14 st15 st16 st17 st18 st19 st20 st21 st22
          rw [v4, v8, v3]
          go_simp
          exact hK.out _ _ ⟨updV vs 9 (.bool false), (by simp [updV, v4, v8, v3]), hM0.still HLD HST 9 (by decide) (by decide) hl _ hdp ((e _ _).2 rfl)⟩
         ·
          simp only [List.getElem?_toArray, List.getElem?_cons_zero, List.getElem?_cons_succ, Option.some.injEq] at ho
          subst ho
          have hMB := hM0.below HLD hi (by decide) hl
          have hMG := hM0.get HLD hi (by decide) hl
          have v3 : vs 3 = .bool true := (k3 _ _).1 (hMG 3 (by decide) (hpre ⟨3, .data⟩ (by simp) rfl))
          have v9 : vs 9 = .bool false := (k9 _ _).1 (hMG 9 (by decide) (hpre ⟨9, .data⟩ (by simp) rfl))
          have hdp : ∀ e ∈ dep 10, l.getD e false = true := by rw [d10]; exact (dep_cons (hpre ⟨3, .data⟩ (by simp) rfl) (dep_cons (hpre ⟨9, .data⟩ (by simp) rfl) dep_nil))
          have e := k10
          clear k0 k1 k2 k3 k4 k5 k6 k7 k8 k9 k10 k11 k12 k13 k14 k15 k16 k17 k18 k19 k20 k21 k22 d0 d1 d2 d3 d4 d5 d6 d7 d8 d9 d10 d11 d12 d13 d14 d15 d16 d17 d18 d19 d20 d21 d22 hst st0 st1 st2 st3 st4 st5 st6 st7 st8 st9 st10 st11 st12 st13 st14 st15 st16 st17 st18 st19 st20 st21 st22
          rw [v3, v9]
          go_simp
          exact hK.out _ _ ⟨updV vs 10 (.bool false), (by simp [updV, v3, v9]), hM0.still HLD HST 10 (by decide) (by decide) hl _ hdp ((e _ _).2 rfl)⟩
         ·
          simp only [List.getElem?_toArray, List.getElem?_cons_zero, List.getElem?_cons_succ, Option.some.injEq] at ho
          subst ho
          have hMB := hM0.below HLD hi (by decide) hl
          have hMG := hM0.get HLD hi (by decide) hl
          have v10 : vs 10 = .bool false := (k10 _ _).1 (hMG 10 (by decide) (hpre ⟨10, .data⟩ (by simp) rfl))
          have v7 : vs 7 = .int .i64 fl := (k7 _ _).1 (hMG 7 (by decide) (hpre ⟨7, .chain⟩ (by simp) rfl))
          have hdp : ∀ e ∈ dep 11, l.getD e false = true := by rw [d11]; exact (dep_cons (hpre ⟨10, .data⟩ (by simp) rfl) (dep_cons (hpre ⟨7, .chain⟩ (by simp) rfl) dep_nil))
          have e := k11
          clear k0 k1 k2 k3 k4 k5 k6 k7 k8 k9 k10 k11 k12 k13 k14 k15 k16 k17 k18 k19 k20 k21 k22 d0 d1 d2 d3 d4 d5 d6 d7 d8 d9 d10 d11 d12 d13 d14 d15 d16 d17 d18 d19 d20 d21 d22 hst st0 st1 st2 st3 st4 st5 st6 st7 st8 st9 st10 st11 st12 st13 st14 st15 st16 st17 st18 st19 st20 st21 st22
          rw [v10, v7]
          go_simp
          exact hK.out _ _ ⟨updV vs 11 (.bool false), (by simp [updV, v10, v7]), hM0.still HLD HST 11 (by decide) (by decide) hl _ hdp ((e _ _).2 rfl)⟩
         ·
          simp only [List.getElem?_toArray, List.getElem?_cons_zero, List.getElem?_cons_succ, Option.some.injEq] at ho
          subst ho
          have hMB := hM0.below HLD hi (by decide) hl
          have hMG := hM0.get HLD hi (by decide) hl
          have v11 : vs 11 = .bool false := (k11 _ _).1 (hMG 11 (by decide) (hpre ⟨11, .guard⟩ (by simp) rfl))
          have hdp : ∀ e ∈ dep 12, l.getD e false = true := by rw [d12]; exact (dep_cons (hpre ⟨11, .guard⟩ (by simp) rfl) dep_nil)
          have e := k12
          clear k0 k1 k2 k3 k4 k5 k6 k7 k8 k9 k10 k11 k12 k13 k14 k15 k16 k17 k18 k19 k20 k21 k22 d0 d1 d2 d3 d4 d5 d6 d7 d8 d9 d10 d11 d12 d13 d14 d15 d16 d17 d18 d19 d20 d21 d22 hst st0 st1 st2 st3 st4 st5 st6 st7 st8 st9 st10 st11 st12 st13 st14 st15 st16 st17 st18 st19 st20 st21 st22
          rw [v11]
          go_simp
          exact hK.out _ _ ⟨updV vs 12 (undef), (by simp [updV, v11]), hM0.still HLD HST 12 (by decide) (by decide) hl _ hdp ((e _ _).2 rfl)⟩
         ·
          simp only [List.getElem?_toArray, List.getElem?_cons_zero, List.getElem?_cons_succ, Option.some.injEq] at ho
          subst ho
          have hMB := hM0.below HLD hi (by decide) hl
          have hMG := hM0.get HLD hi (by decide) hl
          have v11 : vs 11 = .bool false := (k11 _ _).1 (hMG 11 (by decide) (hpre ⟨11, .guard⟩ (by simp) rfl))
          have hdp : ∀ e ∈ dep 13, l.getD e false = true := by rw [d13]; exact (dep_cons (hpre ⟨11, .guard⟩ (by simp) rfl) dep_nil)
          have e := k13
          clear k0 k1 k2 k3 k4 k5 k6 k7 k8 k9 k10 k11 k12 k13 k14 k15 k16 k17 k18 k19 k20 k21 k22 d0 d1 d2 d3 d4 d5 d6 d7 d8 d9 d10 d11 d12 d13 d14 d15 d16 d17 d18 d19 d20 d21 d22 hst st0 st1 st2 st3 st4 st5 st6 st7 st8 st9 st10 st11 st12 st13 st14 st15 st16 st17 st18 st19 st20 st21 st22
          rw [v11]
          go_simp
          exact hK.out _ _ ⟨updV vs 13 (undef), (by simp [updV, v11]), hM0.still HLD HST 13 (by decide) (by decide) hl _ hdp ((e _ _).2 rfl)⟩
         ·
          simp only [List.getElem?_toArray, List.getElem?_cons_zero, List.getElem?_cons_succ, Option.some.injEq] at ho
          subst ho
          have hMB := hM0.below HLD hi (by decide) hl
          have hMG := hM0.get HLD hi (by decide) hl
          have v11 : vs 11 = .bool false := (k11 _ _).1 (hMG 11 (by decide) (hpre ⟨11, .guard⟩ (by simp) rfl))
          have hdp : ∀ e ∈ dep 14, l.getD e false = true := by rw [d14]; exact (dep_cons (hpre ⟨12, .data⟩ (by simp) rfl) (dep_cons (hpre ⟨13, .data⟩ (by simp) rfl) (dep_cons (hpre ⟨11, .guard⟩ (by simp) rfl) dep_nil)))
          have e := k14
          clear k0 k1 k2 k3 k4 k5 k6 k7 k8 k9 k10 k11 k12 k13 k14 k15 k16 k17 k18 k19 k20 k21 k22 d0 d1 d2 d3 d4 d5 d6 d7 d8 d9 d10 d11 d12 d13 d14 d15 d16 d17 d18 d19 d20 d21 d22 hst st0 st1 st2 st3 st4 st5 st6 st7 st8 st9 st10 st11 st12 st13 st14 st15 st16 st17 st18 st19 st20 st21 st22
          rw [v11]
          go_simp
          exact hK.out _ _ ⟨updV vs 14 (undef), (by simp [updV, v11]), hM0.still HLD HST 14 (by decide) (by decide) hl _ hdp ((e _ _).2 rfl)⟩
         ·
          simp only [List.getElem?_toArray, List.getElem?_cons_zero, List.getElem?_cons_succ, Option.some.injEq] at ho
          subst ho
          have hMB := hM0.below HLD hi (by decide) hl
          have hMG := hM0.get HLD hi (by decide) hl
          have v11 : vs 11 = .bool false := (k11 _ _).1 (hMG 11 (by decide) (hpre ⟨11, .guard⟩ (by simp) rfl))
          have hdp : ∀ e ∈ dep 15, l.getD e false = true := by rw [d15]; exact (dep_cons (hpre ⟨14, .data⟩ (by simp) rfl) (dep_cons (hpre ⟨11, .guard⟩ (by simp) rfl) dep_nil))
          have e := k15
          clear k0 k1 k2 k3 k4 k5 k6 k7 k8 k9 k10 k11 k12 k13 k14 k15 k16 k17 k18 k19 k20 k21 k22 d0 d1 d2 d3 d4 d5 d6 d7 d8 d9 d10 d11 d12 d13 d14 d15 d16 d17 d18 d19 d20 d21 d22 hst st0 st1 st2 st3 st4 st5 st6 st7 st8 st9 st10 st11 st12 st13 st14 st15 st16 st17 st18 st19 st20 st21 st22
          rw [v11]
          go_simp
          exact hK.out _ _ ⟨updV vs 15 (undef), (by simp [updV, v11]), hM0.still HLD HST 15 (by decide) (by decide) hl _ hdp ((e _ _).2 rfl)⟩
         ·
          simp only [List.getElem?_toArray, List.getElem?_cons_zero, List.getElem?_cons_succ, Option.some.injEq] at ho
          subst ho
          have hMB := hM0.below HLD hi (by decide) hl
          have hMG := hM0.get HLD hi (by decide) hl
          have v11 : vs 11 = .bool false := (k11 _ _).1 (hMG 11 (by decide) (hpre ⟨11, .guard⟩ (by simp) rfl))
          have hdp : ∀ e ∈ dep 16, l.getD e false = true := by rw [d16]; exact (dep_cons (hpre ⟨11, .guard⟩ (by simp) rfl) dep_nil)
          have e := k16
          clear k0 k1 k2 k3 k4 k5 k6 k7 k8 k9 k10 k11 k12 k13 k14 k15 k16 k17 k18 k19 k20 k21 k22 d0 d1 d2 d3 d4 d5 d6 d7 d8 d9 d10 d11 d12 d13 d14 d15 d16 d17 d18 d19 d20 d21 d22 hst st0 st1 st2 st3 st4 st5 st6 st7 st8 st9 st10 st11 st12 st13 st14 st15 st16 st17 st18 st19 st20 st21 st22
          rw [v11]
          go_simp
          exact hK.out _ _ ⟨updV vs 16 (undef), (by simp [updV, v11]), hM0.still HLD HST 16 (by decide) (by decide) hl _ hdp ((e _ _).2 rfl)⟩
         ·
          simp only [List.getElem?_toArray, List.getElem?_cons_zero, List.getElem?_cons_succ, Option.some.injEq] at ho
          subst ho
          have hMB := hM0.below HLD hi (by decide) hl
          have hMG := hM0.get HLD hi (by decide) hl
          have v11 : vs 11 = .bool false := (k11 _ _).1 (hMG 11 (by decide) (hpre ⟨11, .guard⟩ (by simp) rfl))
          have hdp : ∀ e ∈ dep 17, l.getD e false = true := by rw [d17]; exact (dep_cons (hpre ⟨11, .guard⟩ (by simp) rfl) dep_nil)
          have e := k17
          clear k0 k1 k2 k3 k4 k5 k6 k7 k8 k9 k10 k11 k12 k13 k14 k15 k16 k17 k18 k19 k20 k21 k22 d0 d1 d2 d3 d4 d5 d6 d7 d8 d9 d10 d11 d12 d13 d14 d15 d16 d17 d18 d19 d20 d21 d22 hst st0 st1 st2 st3 st4 st5 st6 st7 st8 st9 st10 st11 st12 st13 st14 st15 st16 st17 st18 st19 st20 st21 st22
          rw [v11]
          go_simp
          exact hK.out _ _ ⟨updV vs 17 (undef), (by simp [updV, v11]), hM0.still HLD HST 17 (by decide) (by decide) hl _ hdp ((e _ _).2 rfl)⟩
         ·
          simp only [List.getElem?_toArray, List.getElem?_cons_zero, List.getElem?_cons_succ, Option.some.injEq] at ho
          subst ho
          have hMB := hM0.below HLD hi (by decide) hl
          have hMG := hM0.get HLD hi (by decide) hl
          have v11 : vs 11 = .bool false := (k11 _ _).1 (hMG 11 (by decide) (hpre ⟨11, .guard⟩ (by simp) rfl))
          have hdp : ∀ e ∈ dep 18, l.getD e false = true := by rw [d18]; exact (dep_cons (hpre ⟨17, .data⟩ (by simp) rfl) (dep_cons (hpre ⟨11, .guard⟩ (by simp) rfl) dep_nil))
          have e := k18
          clear k0 k1 k2 k3 k4 k5 k6 k7 k8 k9 k10 k11 k12 k13 k14 k15 k16 k17 k18 k19 k20 k21 k22 d0 d1 d2 d3 d4 d5 d6 d7 d8 d9 d10 d11 d12 d13 d14 d15 d16 d17 d18 d19 d20 d21 d22 hst st0 st1 st2 st3 st4 st5 st6 st7 st8 st9 st10 st11 st12 st13 st14 st15 st16 st17 st18 st19 st20 st21 st22
          rw [v11]
          go_simp
          exact hK.out _ _ ⟨updV vs 18 (undef), (by simp [updV, v11]), hM0.still HLD HST 18 (by decide) (by decide) hl _ hdp ((e _ _).2 rfl)⟩
         ·
          simp only [List.getElem?_toArray, List.getElem?_cons_zero, List.getElem?_cons_succ, Option.some.injEq] at ho
          subst ho
          have hMB := hM0.below HLD hi (by decide) hl
          have hMG := hM0.get HLD hi (by decide) hl
          have v11 : vs 11 = .bool false := (k11 _ _).1 (hMG 11 (by decide) (hpre ⟨11, .guard⟩ (by simp) rfl))
          have hdp : ∀ e ∈ dep 19, l.getD e false = true := by rw [d19]; exact (dep_cons (hpre ⟨16, .data⟩ (by simp) rfl) (dep_cons (hpre ⟨18, .data⟩ (by simp) rfl) (dep_cons (hpre ⟨11, .guard⟩ (by simp) rfl) dep_nil)))
          have e := k19
          clear k0 k1 k2 k3 k4 k5 k6 k7 k8 k9 k10 k11 k12 k13 k14 k15 k16 k17 k18 k19 k20 k21 k22 d0 d1 d2 d3 d4 d5 d6 d7 d8 d9 d10 d11 d12 d13 d14 d15 d16 d17 d18 d19 d20 d21 d22 hst st0 st1 st2 st3 st4 st5 st6 st7 st8 st9 st10 st11 st12 st13 st14 st15 st16 st17 st18 st19 st20 st21 st22
          rw [v11]
          go_simp
          exact hK.out _ _ ⟨updV vs 19 (undef), (by simp [updV, v11]), hM0.still HLD HST 19 (by decide) (by decide) hl _ hdp ((e _ _).2 rfl)⟩
         ·
          simp only [List.getElem?_toArray, List.getElem?_cons_zero, List.getElem?_cons_succ, Option.some.injEq] at ho
          subst ho
          have hMB := hM0.below HLD hi (by decide) hl
          have hMG := hM0.get HLD hi (by decide) hl
          have v11 : vs 11 = .bool false := (k11 _ _).1 (hMG 11 (by decide) (hpre ⟨11, .guard⟩ (by simp) rfl))
          have hdp : ∀ e ∈ dep 20, l.getD e false = true := by rw [d20]; exact (dep_cons (hpre ⟨19, .data⟩ (by simp) rfl) (dep_cons (hpre ⟨11, .guard⟩ (by simp) rfl) dep_nil))
          have e := k20
          clear k0 k1 k2 k3 k4 k5 k6 k7 k8 k9 k10 k11 k12 k13 k14 k15 k16 k17 k18 k19 k20 k21 k22 d0 d1 d2 d3 d4 d5 d6 d7 d8 d9 d10 d11 d12 d13 d14 d15 d16 d17 d18 d19 d20 d21 d22 hst st0 st1 st2 st3 st4 st5 st6 st7 st8 st9 st10 st11 st12 st13 st14 st15 st16 st17 st18 st19 st20 st21 st22
          rw [v11]
          go_simp
          exact hK.out _ _ ⟨updV vs 20 (undef), (by simp [updV, v11]), hM0.still HLD HST 20 (by decide) (by decide) hl _ hdp ((e _ _).2 rfl)⟩
         ·
          simp only [List.getElem?_toArray, List.getElem?_cons_zero, List.getElem?_cons_succ, Option.some.injEq] at ho
          subst ho
          have hMB := hM0.below HLD hi (by decide) hl
          have hMG := hM0.get HLD hi (by decide) hl
          have v11 : vs 11 = .bool false := (k11 _ _).1 (hMG 11 (by decide) (hpre ⟨11, .guard⟩ (by simp) rfl))
          have hdp : ∀ e ∈ dep 21, l.getD e false = true := by rw [d21]; exact (dep_cons (hpre ⟨15, .data⟩ (by simp) rfl) (dep_cons (hpre ⟨20, .data⟩ (by simp) rfl) (dep_cons (hpre ⟨11, .guard⟩ (by simp) rfl) dep_nil)))
          have e := k21
          clear k0 k1 k2 k3 k4 k5 k6 k7 k8 k9 k10 k11 k12 k13 k14 k15 k16 k17 k18 k19 k20 k21 k22 d0 d1 d2 d3 d4 d5 d6 d7 d8 d9 d10 d11 d12 d13 d14 d15 d16 d17 d18 d19 d20 d21 d22 hst st0 st1 st2 st3 st4 st5 st6 st7 st8 st9 st10 st11 st12 st13 st14 st15 st16 st17 st18 st19 st20 st21 st22
          rw [v11]
          go_simp
          exact hK.out _ _ ⟨updV vs 21 (undef), (by simp [updV, v11]), hM0.still HLD HST 21 (by decide) (by decide) hl _ hdp ((e _ _).2 rfl)⟩
         ·
          simp only [List.getElem?_toArray, List.getElem?_cons_zero, List.getElem?_cons_succ, Option.some.injEq] at ho
          subst ho
          have hMB := hM0.below HLD hi (by decide) hl
          have hMG := hM0.get HLD hi (by decide) hl
          have v11 : vs 11 = .bool false := (k11 _ _).1 (hMG 11 (by decide) (hpre ⟨11, .data⟩ (by simp) rfl))
          have v21 : vs 21 = undef := (k21 _ _).1 (hMG 21 (by decide) (hpre ⟨21, .data⟩ (by simp) rfl))
          have hdp : ∀ e ∈ dep 22, l.getD e false = true := by rw [d22]; exact (dep_cons (hpre ⟨11, .data⟩ (by simp) rfl) (dep_cons (hpre ⟨21, .data⟩ (by simp) rfl) dep_nil))
          have e := k22
          clear k0 k1 k2 k3 k4 k5 k6 k7 k8 k9 k10 k11 k12 k13 k14 k15 k16 k17 k18 k19 k20 k21 k22 d0 d1 d2 d3 d4 d5 d6 d7 d8 d9 d10 d11 d12 d13 d14 d15 d16 d17 d18 d19 d20 d21 d22 hst st0 st1 st2 st3 st4 st5 st6 st7 st8 st9 st10 st11 st12 st13 st14 st15 st16 st17 st18 st19 st20 st21 st22
          rw [v11]
          go_simp
          exact hK.out _ _ ⟨updV vs 22 (.bool false), (by simp [updV, v11, v21]), hM0.still HLD HST 22 (by decide) (by decide) hl _ hdp ((e _ _).2 rfl)⟩
        case fin =>
         rintro l a W20 hall ⟨vs20, rfl, hM0⟩
         obtain ⟨hMB, hMG⟩ := hM0.fin0 (by decide) hall
         have HBW := hide hMB
         have v22 : vs20 22 = .bool false := (k22 _ _).1 (hMG 22 (by decide))
         rw [v22]
         clear k0 k1 k2 k3 k4 k5 k6 k7 k8 k9 k10 k11 k12 k13 k14 k15 k16 k17 k18 k19 k20 k21 k22 d0 d1 d2 d3 d4 d5 d6 d7 d8 d9 d10 d11 d12 d13 d14 d15 d16 d17 d18 d19 d20 d21 d22 hst st0 st1 st2 st3 st4 st5 st6 st7 st8 st9 st10 st11 st12 st13 st14 st15 st16 st17 st18 st19 st20 st21 st22 HLD HST hMG v22 hMB hall hM0 st
         go_wp2_with fail
         go_roundg (L.length - (jy + 1))
         case measure => omega
         case rel => exact ⟨jy + 1, by omega, by omega, by go_num, (show Aside _ from step HBD.out HBW.out)⟩
      ·
       have h1z : (sd.k == 2) = false := by simp [h1]
       clear h1 HPY
       have s0 := HKS.out.1 0 _ rfl
       have s1 := HKS.out.1 1 _ rfl
       go_quiet (fail)
       go_wp2_with fail
       go_roundg (L.length - (jy + 1))
       case measure => omega
       case rel => exact ⟨jy + 1, by omega, by omega, by go_num, (show Aside _ from bdrewN HBU.out _)⟩
     ·
      have hltz2 : ¬ (jy : Int) < (L.length : Int) := by omega
      go_wp2_with fail
      go_ret
      exact ⟨rfl, step HB1.out (step HBV.out HBS.out)⟩
 ·
  have hnil : L = [] := by rw [← HL.out]; unfold widColsL; rw [if_neg hqq]
  have hl0 : L.length = 0 := by rw [hnil]; rfl
  rw [hl0]
  have hO6 := spec_TblOk t Ac kc Ar kr W5 q2 q3
  have g0 := hK5.1 0 _ rfl
  have g1 := hK5.1 1 _ rfl
  have g2 := hK5.1 2 _ rfl
  have g3 := hK5.1 3 _ rfl
  have g4 := hK5.1 4 _ rfl
  have hdef : tblOk t = false ∨ (tblOk t = true ∧ (wd < 0 ∨ (¬ wd < 0 ∧ 300 < wd))) := by
   cases hok : tblOk t with
   | false => exact .inl rfl
   | true =>
    refine .inr ⟨rfl, ?_⟩
    by_cases h1 : wd < 0
    ·
     exact .inl h1
    ·
     refine .inr ⟨h1, ?_⟩
     refine Classical.byContradiction fun h2 => hqq ⟨hok, by omega, by omega⟩
  clear hnil hqq q1 q2 q3 hK5 hb5 hP hq
  rcases hdef with hok | ⟨hok, h1 | ⟨h1, h2⟩⟩
  ·
   rw [hok] at hO6
   clear hok
   go_wp2_with fail
   refine hO6.mono ?_
   rintro e W7 ⟨rfl, hb7⟩
   have HB7 := hide (step HB5.out hb7)
   have hPW := laws_pwOk W7 (HCB.out W7 HB7.out).1
   clear hb7 hO6 g0 g1 g2 g3 g4
   go_wp2_with fail
   refine hPW.mono ?_
   rintro e W8 ⟨rfl, hb8⟩
   go_wp2_with fail
   go_ret
   exact ⟨rfl, step HB1.out (step HB7.out hb8)⟩
  ·
   rw [hok] at hO6
   clear hok
   go_wp2_with fail
   refine hO6.mono ?_
   rintro e W7 ⟨rfl, hb7⟩
   have HB7 := hide (step HB5.out hb7)
   have hPW := laws_pwOk W7 (HCB.out W7 HB7.out).1
   clear hb7 hO6 g0 g1 g2 g3 g4
   go_wp2_with fail
   refine hPW.mono ?_
   rintro e W8 ⟨rfl, hb8⟩
   go_wp2_with fail
   go_ret
   exact ⟨rfl, step HB1.out (step HB7.out hb8)⟩
  ·
   rw [hok] at hO6
   clear hok
   have h3 : wd > 300 := h2
   go_wp2_with fail
   refine hO6.mono ?_
   rintro e W7 ⟨rfl, hb7⟩
   have HB7 := hide (step HB5.out hb7)
   have hPW := laws_pwOk W7 (HCB.out W7 HB7.out).1
   clear hb7 hO6 g0 g1 g2 g3 g4
   go_wp2_with fail
   refine hPW.mono ?_
   rintro e W8 ⟨rfl, hb8⟩
   go_wp2_with fail
   go_ret
   exact ⟨rfl, step HB1.out (step HB7.out hb8)⟩
end Go.Proofs.YtpfagdmmhgcmnaaGreatDoor
