import Derived.Test.YtpfagdmmhgcmnaaGreatDoorMixYR11ax
import Derived.Test.YtpfagdmmhgcmnaaGreatDoorMixYR11az
import Derived.Test.YtpfagdmmhgcmnaaGreatDoorMixYR11ba
set_option linter.unusedVariables false
set_option linter.unusedSimpArgs false
namespace Go.Proofs.YtpfagdmmhgcmnaaGreatDoor
open Go.RowKit
/- All of the width is used, and no more: the statement's own walk. -/
theorem allFixed_kind {t : Tbl} (h : tblOk t = true) {n : Nat} (hn : (gridL 400 t).2 = n) : allFixed 400 t = true ↔ ∀ j, j < n → kindT t j = 1 := by
  unfold allFixed
  rw [h, hn]
  simp only [Bool.true_and]
  unfold fixedTo kindT
  simp [List.all_eq_true]
/-- How wide a table is. -/
theorem widSum {t : Tbl} (h : tblOk t = true) {k : Nat} (hy : GoodRows t k) {width : Int} (hw : 0 ≤ width ∧ width ≤ 300) :
    wideG t.gap (widColsL 400 t width) = if width < wideG t.gap (colLeastL 400 t) ∨ allFixed 400 t = true then wideG t.gap (colLeastL 400 t) else width := by
  obtain ⟨n, hn, hn1, hl, _, he, hlw, _, _⟩ := widCols_ok h hy hw
  have hA := allFixed_kind h hn
  obtain ⟨w1, _, _, w4, w5⟩ := widths_spec (kind := kindT t) (nn := numT t) (width := width) (gap := t.gap) (least := colLeastL 400 t) (wish := colWishL 400 t) (said_kind h)
  rw [← he] at w1 w4 w5
  have e1 : wideL (colLeastL 400 t) t.gap = wideG t.gap (colLeastL 400 t) := rfl
  rw [e1] at w4 w5
  by_cases hle : width - wideG t.gap (colLeastL 400 t) ≤ 0
  · rw [w4 hle]
    split
    · rfl
    · rename_i hno
      have : ¬ width < wideG t.gap (colLeastL 400 t) := fun h9 => hno (.inl h9)
      omega
  · obtain ⟨b1, b2⟩ := w5 (by omega)
    by_cases ha : ∀ j, j < n → kindT t j = 1
    · rw [b1 (fun j hj => ha j (by omega)), if_pos (.inr (hA.2 ha))]
    · have hno : ¬ (width < wideG t.gap (colLeastL 400 t) ∨ allFixed 400 t = true) := by
        rintro (h9 | h9)
        · omega
        · exact ha (hA.1 h9)
      rw [if_neg hno]
      have : ∃ j, j < (colLeastL 400 t).length ∧ kindT t j ≠ 1 := Classical.byContradiction fun hx => ha fun j hj => Classical.byContradiction fun hq => hx ⟨j, by omega, hq⟩
      have hs := b2 this
      unfold wideG
      rw [hs, hlw, hl]
      omega
set_option linter.unusedSimpArgs false in
set_option maxRecDepth 100000 in
set_option maxHeartbeats 40000000 in
theorem law_FnWidSum (A : Option Addr) (n c : Nat) (w : World) (hw : Base w) (h : BytesAt w A n c) :
    Calls Tryz.prog 11 #[.slice A n c] w fun e w' => e = .returned (.bool true) ∧ Below w.heap.size w w' := by
  have hD := spec_DrawWidCols A n c w h
  have HW := hide hw
  have hn1 := h.1
  clear h hw
  by_cases hb1 : (1048576 : Int) < n
  · clear hD
    go_enter Tryz.func11, Tryz.ntmps11
    go_wp2_with fail
    go_ret
    exact ⟨rfl, brefl w⟩
  go_enter Tryz.func11, Tryz.ntmps11
  go_wp2_with fail
  refine hD.mono ?_
  rintro e W1 ⟨t, vc, vr, wd, rfl, htb, hwd, hO1, hB1⟩
  obtain ⟨⟨Ac, kc, rfl⟩, Ar, kr, rfl⟩ := hO1.form
  obtain ⟨k, hy⟩ := htb.good
  have hs1 : w.heap.size ≤ W1.heap.size := hB1.size
  have HY := hide hy
  obtain ⟨V1, hV1⟩ : ∃ V, V = W1.alloc (.cells #[.slice Ac t.cols.length kc, .int .i64 t.head, .int .i64 t.foot, .slice Ar t.rows.length kr, .int .i64 t.gap] 26) := ⟨_, rfl⟩
  have hK1 : BlockAt V1 W1.heap.size [.slice Ac t.cols.length kc, .int .i64 t.head, .int .i64 t.foot, .slice Ar t.rows.length kr, .int .i64 t.gap] := by rw [hV1]; exact BlockAt.new W1 _ _
  have hz1 : V1.heap.size = W1.heap.size + 1 := by rw [hV1]; simp
  have HB1 : Hid (Below w.heap.size w V1) := by rw [hV1]; exact balloc hB1 _
  have HC1 : Hid (Rd colR V1 Ac t.cols) := by rw [hV1]; exact hO1.rdc.below (balloc (brefl _) _)
  have HR1 : Hid (Rd rowR V1 Ar t.rows) := by rw [hV1]; exact (hO1.rdr (any_sized htb)).below (balloc (brefl _) _)
  have HCB : Hid (∀ W, Below V1.heap.size V1 W → Base W ∧ Rd colR W Ac t.cols ∧ Rd rowR W Ar t.rows ∧ BlockAt W W1.heap.size [.slice Ac t.cols.length kc, .int .i64 t.head, .int .i64 t.foot, .slice Ar t.rows.length kr, .int .i64 t.gap]) := fun W h => ⟨HW.out.below (step HB1.out h), HC1.out.below h, HR1.out.below h, hK1.keep (h.block _ (by omega))⟩
  have hE1 := impl_WidCols t Ac kc Ar kr wd V1 (HW.out.below HB1.out) HC1.out HR1.out hy
  have HT := hide htb
  have HV := hide hV1
  clear hD htb hO1 hB1 hy hV1 hK1
  obtain ⟨L, hL⟩ : ∃ L, widColsL 400 t wd = L := ⟨_, rfl⟩
  obtain ⟨wz, hwz⟩ : ∃ wz, wideG t.gap (widColsL 400 t wd) = wz := ⟨_, rfl⟩
  rw [hL] at hE1
  have HL := hide hL
  have HWZ := hide hwz
  have hlen : L.length ≤ 90 := by
    rw [← hL]
    by_cases hq : tblOk t = true ∧ 0 ≤ wd ∧ wd ≤ 300
    · obtain ⟨n, _, h2, _, _, _, h3, _⟩ := widCols_ok hq.1 HY.out hq.2
      omega
    · unfold widColsL; rw [if_neg hq]; exact Nat.zero_le _
  have HLN := hide hlen
  obtain ⟨_, _, _, hK1⟩ := HCB.out V1 (brefl V1)
  have f0 := hK1.1 0 _ rfl
  have f1 := hK1.1 1 _ rfl
  have f2 := hK1.1 2 _ rfl
  have f3 := hK1.1 3 _ rfl
  have f4 := hK1.1 4 _ rfl
  clear hL hK1 hwz hlen
  go_wp2_with fail
  rw [← HV.out]
  refine hE1.mono ?_
  rintro e W2 ⟨v, rfl, hI2, hb2⟩
  obtain ⟨AL, cL, rfl⟩ := hI2.form
  have HI2 := hide (irow_rd hI2)
  have HB2 := hide hb2
  obtain ⟨q1, q2, q3, hK2⟩ := HCB.out W2 hb2
  have hE2 := impl_WidTable t Ac kc Ar kr wd W2 q1 q2 q3 HY.out
  rw [HWZ.out] at hE2
  have g0 := hK2.1 0 _ rfl
  have g1 := hK2.1 1 _ rfl
  have g2 := hK2.1 2 _ rfl
  have g3 := hK2.1 3 _ rfl
  have g4 := hK2.1 4 _ rfl
  clear f0 f1 f2 f3 f4 hI2 hb2 hE1 hK2 HV q1 q2 q3
  go_wp2_with fail
  refine hE2.mono ?_
  rintro e W3 ⟨rfl, hb3⟩
  have HI3 := hide (HI2.out.below hb3)
  have HB3 := hide (step HB2.out hb3)
  obtain ⟨q1, q2, q3, hK3⟩ := HCB.out W3 HB3.out
  have hE3 := spec_WidCols t Ac kc Ar kr wd W3 q2 q3 HY.out
  rw [widCols_two HY.out, HL.out] at hE3
  have g0 := hK3.1 0 _ rfl
  have g1 := hK3.1 1 _ rfl
  have g2 := hK3.1 2 _ rfl
  have g3 := hK3.1 3 _ rfl
  have g4 := hK3.1 4 _ rfl
  clear hb3 hE2 hK3 q1 q2 q3
  go_wp2_with fail
  refine hE3.mono ?_
  rintro e W4 ⟨v, rfl, hI4, hb4⟩
  obtain ⟨AM, cM, rfl⟩ := hI4.form
  have hP := laws_pwInts AL cL AM cM L W4 (HI3.out.below hb4) (irow_rd hI4) (by have := HLN.out; omega)
  have HI4 := hide (HI3.out.below hb4)
  have HB4 := hide (step HB3.out hb4)
  clear hI4 hb4 hE3 g0 g1 g2 g3 g4
  go_wp2_with fail
  refine hP.mono ?_
  rintro e W5 ⟨rfl, nq, hq⟩
  have hb5 : Below W4.heap.size W4 W5 := by rw [hq]; exact bdrewN (brefl _) _
  have HI5 := hide (HI4.out.below hb5)
  have HB5 := hide (step HB4.out hb5)
  obtain ⟨q1, q2, q3, hK5⟩ := HCB.out W5 HB5.out
  have hE5 := spec_WidTable t Ac kc Ar kr wd W5 q2 q3 HY.out
  rw [HWZ.out] at hE5
  have g0 := hK5.1 0 _ rfl
  have g1 := hK5.1 1 _ rfl
  have g2 := hK5.1 2 _ rfl
  have g3 := hK5.1 3 _ rfl
  have g4 := hK5.1 4 _ rfl
  clear hb5 hP hK5 q1 q2 q3 hq
  go_wp2_with fail
  refine hE5.mono ?_
  rintro e W6 ⟨rfl, hb6⟩
  have HI6 := hide (HI5.out.below hb6)
  have HB6 := hide (step HB5.out hb6)
  obtain ⟨q1, q2, q3, hK6⟩ := HCB.out W6 HB6.out
  have hO6 := spec_TblOk t Ac kc Ar kr W6 q2 q3
  have g0 := hK6.1 0 _ rfl
  have g1 := hK6.1 1 _ rfl
  have g2 := hK6.1 2 _ rfl
  have g3 := hK6.1 3 _ rfl
  have g4 := hK6.1 4 _ rfl
  clear hb6 hE5 hK6 q1 q2 q3
  by_cases hq : tblOk t = true ∧ 0 ≤ wd ∧ wd ≤ 300
  · rw [hq.1] at hO6
    have i1 : ¬ wd < 0 := by omega
    have i2 : ¬ wd > 300 := by omega
    have i3 : ¬ 300 < wd := by omega
    have HQ := hide hq
    clear hq
    go_wp2_with fail
    refine hO6.mono ?_
    rintro e W7 ⟨rfl, hb7⟩
    have HI7 := hide (HI6.out.below hb7)
    have HB7 := hide (step HB6.out hb7)
    obtain ⟨q1, q2, q3, hK7⟩ := HCB.out W7 HB7.out
    have hE7 := impl_ColFloor2 t Ac kc Ar kr W7 q1 q2 q3 HY.out
    have hws := widSum HQ.out.1 HY.out HQ.out.2
    rw [HWZ.out] at hws
    obtain ⟨fl, hfl⟩ : ∃ fl, wideG t.gap (colLeastL 400 t) = fl := ⟨_, rfl⟩
    rw [hfl] at hE7 hws
    have g0 := hK7.1 0 _ rfl
    have g1 := hK7.1 1 _ rfl
    have g2 := hK7.1 2 _ rfl
    have g3 := hK7.1 3 _ rfl
    have g4 := hK7.1 4 _ rfl
    have HWS := hide hws
    clear hb7 hO6 hK7 q1 q2 q3 hfl hws
    go_wp2_with fail
    refine hE7.mono ?_
    rintro e W8 ⟨rfl, hb8⟩
    have HI8 := hide (HI7.out.below hb8)
    have HB8 := hide (step HB7.out hb8)
    obtain ⟨q1, q2, q3, hK8⟩ := HCB.out W8 HB8.out
    have hE8 := impl_ColAllFixed t Ac kc Ar kr W8 q1 q2 q3
    have g0 := hK8.1 0 _ rfl
    have g1 := hK8.1 1 _ rfl
    have g2 := hK8.1 2 _ rfl
    have g3 := hK8.1 3 _ rfl
    have g4 := hK8.1 4 _ rfl
    clear hb8 hE7 hK8 q1 q2 q3
    go_upto_region 12 with fail
    go_cut [66] from 60 to 67 (fun s66 wx => s66 = .bool (decide (wd < fl) || allFixed 400 t) ∧ Aside (Below W8.heap.size W8 wx))
    case first =>
      by_cases h1 : wd < fl
      · have hz := hide (show (decide (wd < fl) || allFixed 400 t) = true by simp [h1])
        clear hE8
        go_wp2_with fail
        go_meet
        case rel => exact ⟨by rw [hz.out], brefl _⟩
      · obtain ⟨af, haf⟩ : ∃ af, allFixed 400 t = af := ⟨_, rfl⟩
        have hz := hide (show (decide (wd < fl) || allFixed 400 t) = af by rw [haf]; simp [h1])
        rw [haf] at hE8
        clear haf
        go_wp2_with fail
        refine hE8.mono ?_
        rintro e w9 ⟨rfl, hb9⟩
        have HB9 := hide hb9
        clear hb9 hE8
        go_wp2_with fail
        go_meet
        case rel => exact ⟨by rw [hz.out], HB9.out⟩
    case rest =>
    obtain ⟨rfl, HBc⟩ := hcut
    obtain ⟨U, rfl⟩ : ∃ U : World, U = wc := ⟨_, rfl⟩
    go_upto_if 66 with fail
    go_cut [8] from 66 to 67 (fun s8 wx => s8 = .int .i64 wz ∧ wx = U)
    case first =>
      by_cases h1 : wd < fl ∨ allFixed 400 t = true
      · have hz := hide (show wz = fl by rw [HWS.out, if_pos h1])
        have hb : (decide (wd < fl) || allFixed 400 t) = true := by rcases h1 with h1 | h1 <;> simp [h1]
        rw [hb]
        clear h1 hb
        go_wp2_with fail
        go_meet
        case rel => exact ⟨by rw [hz.out], rfl⟩
      · have hz := hide (show wz = wd by rw [HWS.out, if_neg h1])
        have hb : (decide (wd < fl) || allFixed 400 t) = false := by
          rw [Bool.or_eq_false_iff]
          exact ⟨decide_eq_false fun h9 => h1 (.inl h9), Bool.eq_false_iff.2 fun h9 => h1 (.inr h9)⟩
        rw [hb]
        clear h1 hb
        go_wp2_with fail
        go_meet
        case rel => exact ⟨by rw [hz.out], rfl⟩
    case rest =>
    obtain ⟨rfl, hwU⟩ := hcut
    obtain rfl := hwU.symm
    obtain ⟨m, hm, hm1, _, _, _, hlm, hlb, _⟩ := widCols_ok HQ.out.1 HY.out HQ.out.2
    rw [HL.out] at hlm hlb
    have HLM := hide hlm
    have HLB := hide hlb
    have HM := hide hm
    clear hlm hlb hm
    have HBU := hide (step HB8.out HBc.out)
    have HIU := hide (HI8.out.below HBc.out)
    clear g0 g1 g2 g3 g4 hE8 i1 i2 i3
    go_upto_region 14 with fail
    obtain ⟨q1, q2, q3, hKU⟩ := HCB.out U HBU.out
    have ed := bdrew (brefl U)
    have HBD := hide (bdrew HBU.out)
    have z0 : U.drew.cell? ⟨W1.heap.size, 0, none⟩ = some (.slice Ac t.cols.length kc) := keepW ed (hKU.1 0 _ rfl)
    have z1 : U.drew.cell? ⟨W1.heap.size, 1, none⟩ = some (.int .i64 t.head) := keepW ed (hKU.1 1 _ rfl)
    have z2 : U.drew.cell? ⟨W1.heap.size, 2, none⟩ = some (.int .i64 t.foot) := keepW ed (hKU.1 2 _ rfl)
    have z3 : U.drew.cell? ⟨W1.heap.size, 3, none⟩ = some (.slice Ar t.rows.length kr) := keepW ed (hKU.1 3 _ rfl)
    have z4 : U.drew.cell? ⟨W1.heap.size, 4, none⟩ = some (.int .i64 t.gap) := keepW ed (hKU.1 4 _ rfl)
    have hgap := (tblOk_parts HQ.out.1).2.2.1
    have hlm := HLM.out
    obtain ⟨s1, s2⟩ := sum_le 300 L HLB.out
    obtain ⟨sx, hsx⟩ : ∃ sx, sumI L = sx := ⟨_, rfl⟩
    obtain ⟨gp, hgp⟩ : ∃ gp, t.gap * ((L.length : Int) - 1) = gp := ⟨_, rfl⟩
    have hgp1 : 0 ≤ gp ∧ gp ≤ 300 := by
      have hx := Int.mul_nonneg hgap.1 (show 0 ≤ (L.length : Int) - 1 by omega)
      have hx2 : t.gap * ((L.length : Int) - 1) ≤ 3 * ((L.length : Int) - 1) := Int.mul_le_mul_of_nonneg_right hgap.2 (by omega)
      omega
    have hwz2 : sx + gp = wz := by
      rw [← HWZ.out, HL.out, ← hsx, ← hgp]
      unfold wideG
      rw [show max ((L.length : Int) - 1) 0 = (L.length : Int) - 1 by omega]
    have t1 : IntKind.i64.wrap (sx + gp) = wz := by rw [hwz2, IntKind.wrap_i64]; omega
    have t2 : IntKind.i64.wrap ((L.length : Int) - 1) = (L.length : Int) - 1 := by rw [IntKind.wrap_i64]; omega
    have t3 : IntKind.i64.wrap (t.gap * ((L.length : Int) - 1)) = gp := by rw [hgp, IntKind.wrap_i64]; omega
    have t4 : ((L.length : Int) == (m : Int)) = true := by simp; omega
    have HGO : Hid (∀ W, Below U.drew.heap.size U.drew W → Calls Tryz.prog 21 #[.agg #[.slice Ac t.cols.length kc, .int .i64 t.head, .int .i64 t.foot, .slice Ar t.rows.length kr, .int .i64 t.gap]] W fun e w' => ∃ A l d, e = .returned (.agg #[.int .i64 t.rows.length, .int .i64 m, .slice A l d]) ∧ Below W.heap.size W w') := fun W h => by
      obtain ⟨q1, q2, q3, _⟩ := HCB.out W (step HBD.out h)
      have h9 := impl_GrdOf t Ac kc Ar kr W q1 q2 q3
      have hgr : gridOf 400 t = ⟨t.rows.length, (gridL 400 t).2, (gridL 400 t).1⟩ := by unfold gridOf; rw [if_pos HQ.out.1]
      rw [hgr, HM.out] at h9
      refine h9.mono ?_
      rintro e w9 ⟨A9, d9, rfl, _, hb⟩
      exact ⟨A9, _, d9, rfl, hb⟩
    have HPS : Hid (∀ W, Below U.drew.heap.size U.drew W → Calls Tryz.prog 39 #[.slice AL L.length cL] W fun e w' => e = .returned (.int .i64 sx) ∧ w' = W) := fun W h => by
      have h9 := laws_pwSum AL cL L W ((HIU.out.below ed).below h) (fun x hx => by have := HLB.out x hx; omega) (by omega)
      rw [hsx] at h9
      exact h9
    clear hlm ed hKU q1 q2 q3 s1 s2 hsx hgp hgp1 hwz2
    obtain ⟨KF, hKF⟩ : ∃ f : Nat → Value → World → Prop, f = (fun j v W => match j with | 0 => v = .int .i64 wz | 1 => v = .int .i64 wz | 2 => v = .bool true | 3 => v = .bool true | 4 => v = .int .i64 wz | 5 => v = .slice AL L.length cL | 6 => v = .int .i64 sx | 7 => v = .pointer (some ⟨W1.heap.size, 4, none⟩) | 8 => v = .int .i64 t.gap | 9 => v = .slice AL L.length cL | 10 => v = .int .i64 (L.length : Int) | 11 => v = .int .i64 ((L.length : Int) - 1) | 12 => v = .int .i64 gp | 13 => v = .int .i64 wz | 14 => v = .bool true | 15 => v = .bool true | 16 => v = .bool true | 17 => v = .slice AL L.length cL | 18 => v = .int .i64 (L.length : Int) | 19 => v = .agg #[.slice Ac t.cols.length kc, .int .i64 t.head, .int .i64 t.foot, .slice Ar t.rows.length kr, .int .i64 t.gap] | 20 => ∃ Ag lg dg, v = .agg #[.int .i64 ↑t.rows.length, .int .i64 ↑m, .slice Ag lg dg] ∧ True | 21 => v = .int .i64 ↑m | 22 => v = .bool true | 23 => v = .bool true | 24 => v = .bool true | _ => True) := ⟨_, rfl⟩
    have k0 : ∀ v W, KF 0 v W ↔ (v = .int .i64 wz) := fun v W => by rw [hKF]; first | done | exact Iff.rfl
    have k1 : ∀ v W, KF 1 v W ↔ (v = .int .i64 wz) := fun v W => by rw [hKF]; first | done | exact Iff.rfl
    have k2 : ∀ v W, KF 2 v W ↔ (v = .bool true) := fun v W => by rw [hKF]; first | done | exact Iff.rfl
    have k3 : ∀ v W, KF 3 v W ↔ (v = .bool true) := fun v W => by rw [hKF]; first | done | exact Iff.rfl
    have k4 : ∀ v W, KF 4 v W ↔ (v = .int .i64 wz) := fun v W => by rw [hKF]; first | done | exact Iff.rfl
    have k5 : ∀ v W, KF 5 v W ↔ (v = .slice AL L.length cL) := fun v W => by rw [hKF]; first | done | exact Iff.rfl
    have k6 : ∀ v W, KF 6 v W ↔ (v = .int .i64 sx) := fun v W => by rw [hKF]; first | done | exact Iff.rfl
    have k7 : ∀ v W, KF 7 v W ↔ (v = .pointer (some ⟨W1.heap.size, 4, none⟩)) := fun v W => by rw [hKF]; first | done | exact Iff.rfl
    have k8 : ∀ v W, KF 8 v W ↔ (v = .int .i64 t.gap) := fun v W => by rw [hKF]; first | done | exact Iff.rfl
    have k9 : ∀ v W, KF 9 v W ↔ (v = .slice AL L.length cL) := fun v W => by rw [hKF]; first | done | exact Iff.rfl
    have k10 : ∀ v W, KF 10 v W ↔ (v = .int .i64 (L.length : Int)) := fun v W => by rw [hKF]; first | done | exact Iff.rfl
    have k11 : ∀ v W, KF 11 v W ↔ (v = .int .i64 ((L.length : Int) - 1)) := fun v W => by rw [hKF]; first | done | exact Iff.rfl
    have k12 : ∀ v W, KF 12 v W ↔ (v = .int .i64 gp) := fun v W => by rw [hKF]; first | done | exact Iff.rfl
    have k13 : ∀ v W, KF 13 v W ↔ (v = .int .i64 wz) := fun v W => by rw [hKF]; first | done | exact Iff.rfl
    have k14 : ∀ v W, KF 14 v W ↔ (v = .bool true) := fun v W => by rw [hKF]; first | done | exact Iff.rfl
    have k15 : ∀ v W, KF 15 v W ↔ (v = .bool true) := fun v W => by rw [hKF]; first | done | exact Iff.rfl
    have k16 : ∀ v W, KF 16 v W ↔ (v = .bool true) := fun v W => by rw [hKF]; first | done | exact Iff.rfl
    have k17 : ∀ v W, KF 17 v W ↔ (v = .slice AL L.length cL) := fun v W => by rw [hKF]; first | done | exact Iff.rfl
    have k18 : ∀ v W, KF 18 v W ↔ (v = .int .i64 (L.length : Int)) := fun v W => by rw [hKF]; first | done | exact Iff.rfl
    have k19 : ∀ v W, KF 19 v W ↔ (v = .agg #[.slice Ac t.cols.length kc, .int .i64 t.head, .int .i64 t.foot, .slice Ar t.rows.length kr, .int .i64 t.gap]) := fun v W => by rw [hKF]; first | done | exact Iff.rfl
    have k20 : ∀ v W, KF 20 v W ↔ (∃ Ag lg dg, v = .agg #[.int .i64 ↑t.rows.length, .int .i64 ↑m, .slice Ag lg dg] ∧ True) := fun v W => by rw [hKF]; first | done | exact Iff.rfl
    have k21 : ∀ v W, KF 21 v W ↔ (v = .int .i64 ↑m) := fun v W => by rw [hKF]; first | done | exact Iff.rfl
    have k22 : ∀ v W, KF 22 v W ↔ (v = .bool true) := fun v W => by rw [hKF]; first | done | exact Iff.rfl
    have k23 : ∀ v W, KF 23 v W ↔ (v = .bool true) := fun v W => by rw [hKF]; first | done | exact Iff.rfl
    have k24 : ∀ v W, KF 24 v W ↔ (v = .bool true) := fun v W => by rw [hKF]; first | done | exact Iff.rfl
    have HST : StableP KF := by
      rw [hKF]
      intro j v W W9 h hb
      by_cases hjn : j < 25
      · obtain rfl | rfl | rfl | rfl | rfl | rfl | rfl | rfl | rfl | rfl | rfl | rfl | rfl | rfl | rfl | rfl | rfl | rfl | rfl | rfl | rfl | rfl | rfl | rfl | rfl : j = 0 ∨ j = 1 ∨ j = 2 ∨ j = 3 ∨ j = 4 ∨ j = 5 ∨ j = 6 ∨ j = 7 ∨ j = 8 ∨ j = 9 ∨ j = 10 ∨ j = 11 ∨ j = 12 ∨ j = 13 ∨ j = 14 ∨ j = 15 ∨ j = 16 ∨ j = 17 ∨ j = 18 ∨ j = 19 ∨ j = 20 ∨ j = 21 ∨ j = 22 ∨ j = 23 ∨ j = 24 := by omega
        · exact h
        · exact h
        · exact h
        · exact h
        · exact h
        · exact h
        · exact h
        · exact h
        · exact h
        · exact h
        · exact h
        · exact h
        · exact h
        · exact h
        · exact h
        · exact h
        · exact h
        · exact h
        · exact h
        · exact h
        · obtain ⟨Ag, lg, dg, hv, h⟩ := h
          exact ⟨Ag, lg, dg, hv, trivial⟩
        · exact h
        · exact h
        · exact h
        · exact h
      · match j, h with
        | 0, h => exact absurd (by decide) hjn
        | 1, h => exact absurd (by decide) hjn
        | 2, h => exact absurd (by decide) hjn
        | 3, h => exact absurd (by decide) hjn
        | 4, h => exact absurd (by decide) hjn
        | 5, h => exact absurd (by decide) hjn
        | 6, h => exact absurd (by decide) hjn
        | 7, h => exact absurd (by decide) hjn
        | 8, h => exact absurd (by decide) hjn
        | 9, h => exact absurd (by decide) hjn
        | 10, h => exact absurd (by decide) hjn
        | 11, h => exact absurd (by decide) hjn
        | 12, h => exact absurd (by decide) hjn
        | 13, h => exact absurd (by decide) hjn
        | 14, h => exact absurd (by decide) hjn
        | 15, h => exact absurd (by decide) hjn
        | 16, h => exact absurd (by decide) hjn
        | 17, h => exact absurd (by decide) hjn
        | 18, h => exact absurd (by decide) hjn
        | 19, h => exact absurd (by decide) hjn
        | 20, h => exact absurd (by decide) hjn
        | 21, h => exact absurd (by decide) hjn
        | 22, h => exact absurd (by decide) hjn
        | 23, h => exact absurd (by decide) hjn
        | 24, h => exact absurd (by decide) hjn
        | _ + 25, h => exact h
    clear hKF
    obtain ⟨dep, hdep⟩ : ∃ f : Nat → List Nat, f = (fun j => match j with | 2 => [0, 1] | 3 => [2] | 4 => [3] | 5 => [3] | 6 => [5, 3] | 7 => [3] | 8 => [7, 3] | 9 => [3] | 10 => [9, 3] | 11 => [10, 3] | 12 => [8, 11, 3] | 13 => [6, 12, 3] | 14 => [4, 13, 3] | 15 => [3, 14] | 16 => [15, 6] | 17 => [16] | 18 => [17, 16] | 19 => [16] | 20 => [19, 16] | 21 => [20, 16] | 22 => [18, 21, 16] | 23 => [16, 22] | 24 => [23, 20] | _ => []) := ⟨_, rfl⟩
    have d0 : dep 0 = [] := congrFun hdep 0
    have d1 : dep 1 = [] := congrFun hdep 1
    have d2 : dep 2 = [0, 1] := congrFun hdep 2
    have d3 : dep 3 = [2] := congrFun hdep 3
    have d4 : dep 4 = [3] := congrFun hdep 4
    have d5 : dep 5 = [3] := congrFun hdep 5
    have d6 : dep 6 = [5, 3] := congrFun hdep 6
    have d7 : dep 7 = [3] := congrFun hdep 7
    have d8 : dep 8 = [7, 3] := congrFun hdep 8
    have d9 : dep 9 = [3] := congrFun hdep 9
    have d10 : dep 10 = [9, 3] := congrFun hdep 10
    have d11 : dep 11 = [10, 3] := congrFun hdep 11
    have d12 : dep 12 = [8, 11, 3] := congrFun hdep 12
    have d13 : dep 13 = [6, 12, 3] := congrFun hdep 13
    have d14 : dep 14 = [4, 13, 3] := congrFun hdep 14
    have d15 : dep 15 = [3, 14] := congrFun hdep 15
    have d16 : dep 16 = [15, 6] := congrFun hdep 16
    have d17 : dep 17 = [16] := congrFun hdep 17
    have d18 : dep 18 = [17, 16] := congrFun hdep 18
    have d19 : dep 19 = [16] := congrFun hdep 19
    have d20 : dep 20 = [19, 16] := congrFun hdep 20
    have d21 : dep 21 = [20, 16] := congrFun hdep 21
    have d22 : dep 22 = [18, 21, 16] := congrFun hdep 22
    have d23 : dep 23 = [16, 22] := congrFun hdep 23
    have d24 : dep 24 = [23, 20] := congrFun hdep 24
    clear hdep
    have HLD : LastP 25 25 dep := lastP_none (by decide)
    obtain ⟨st, hst⟩ : ∃ f : Nat → Value, f = (fun j => match j with | 0 => undef | 1 => undef | 2 => undef | 3 => undef | 4 => undef | 5 => undef | 6 => undef | 7 => undef | 8 => undef | 9 => undef | 10 => undef | 11 => undef | 12 => undef | 13 => undef | 14 => undef | 15 => undef | 16 => undef | 17 => undef | 18 => undef | 19 => undef | 20 => undef | 21 => undef | 22 => undef | 23 => undef | 24 => .bool false | _ => undef) := ⟨_, rfl⟩
    have st0 : st 0 = undef := congrFun hst 0
    have st1 : st 1 = undef := congrFun hst 1
    have st2 : st 2 = undef := congrFun hst 2
    have st3 : st 3 = undef := congrFun hst 3
    have st4 : st 4 = undef := congrFun hst 4
    have st5 : st 5 = undef := congrFun hst 5
    have st6 : st 6 = undef := congrFun hst 6
    have st7 : st 7 = undef := congrFun hst 7
    have st8 : st 8 = undef := congrFun hst 8
    have st9 : st 9 = undef := congrFun hst 9
    have st10 : st 10 = undef := congrFun hst 10
    have st11 : st 11 = undef := congrFun hst 11
    have st12 : st 12 = undef := congrFun hst 12
    have st13 : st 13 = undef := congrFun hst 13
    have st14 : st 14 = undef := congrFun hst 14
    have st15 : st 15 = undef := congrFun hst 15
    have st16 : st 16 = undef := congrFun hst 16
    have st17 : st 17 = undef := congrFun hst 17
    have st18 : st 18 = undef := congrFun hst 18
    have st19 : st 19 = undef := congrFun hst 19
    have st20 : st 20 = undef := congrFun hst 20
    have st21 : st 21 = undef := congrFun hst 21
    have st22 : st 22 = undef := congrFun hst 22
    have st23 : st 23 = undef := congrFun hst 23
    have st24 : st 24 = .bool false := congrFun hst 24
    refine wp_region_inv (fun l a W => ∃ vs : Nat → Value, a = ⟨List.toArray (.slice A n c :: undef :: vs 24 :: .pointer (some ⟨W1.heap.size, 0, none⟩) :: .int .i64 wd :: .slice AL L.length cL :: .int .i64 wz :: .int .i64 fl :: .int .i64 wz :: .slice A n c :: .int .i64 ↑n :: .bool false :: .tuple #[.agg #[.slice Ac t.cols.length kc, .int .i64 t.head, .int .i64 t.foot, .slice Ar t.rows.length kr, .int .i64 t.gap], .int .i64 wd] :: .slice A n c :: .tuple #[.agg #[.slice Ac t.cols.length kc, .int .i64 t.head, .int .i64 t.foot, .slice Ar t.rows.length kr, .int .i64 t.gap], .int .i64 wd] :: .agg #[.slice Ac t.cols.length kc, .int .i64 t.head, .int .i64 t.foot, .slice Ar t.rows.length kr, .int .i64 t.gap] :: .int .i64 wd :: .agg #[.slice Ac t.cols.length kc, .int .i64 t.head, .int .i64 t.foot, .slice Ar t.rows.length kr, .int .i64 t.gap] :: .int .i64 wd :: .slice AL L.length cL :: .agg #[.slice Ac t.cols.length kc, .int .i64 t.head, .int .i64 t.foot, .slice Ar t.rows.length kr, .int .i64 t.gap] :: .int .i64 wd :: .int .i64 wz :: .slice AL L.length cL :: .agg #[.slice Ac t.cols.length kc, .int .i64 t.head, .int .i64 t.foot, .slice Ar t.rows.length kr, .int .i64 t.gap] :: .int .i64 wd :: .slice AM L.length cM :: .bool true :: .bool false :: .bool false :: .int .i64 wz :: .agg #[.slice Ac t.cols.length kc, .int .i64 t.head, .int .i64 t.foot, .slice Ar t.rows.length kr, .int .i64 t.gap] :: .int .i64 wd :: .int .i64 wz :: .bool false :: .bool false :: .agg #[.slice Ac t.cols.length kc, .int .i64 t.head, .int .i64 t.foot, .slice Ar t.rows.length kr, .int .i64 t.gap] :: .bool true :: .bool false :: .bool false :: .int .i64 wd :: .bool (decide (wd < 0)) :: .bool (decide (wd < 0)) :: .bool (decide (wd < 0)) :: .int .i64 wd :: .bool (decide (300 < wd)) :: .bool (decide (wd < 0) || decide (300 < wd)) :: undef :: undef :: undef :: undef :: undef :: undef :: undef :: undef :: undef :: undef :: .agg #[.slice Ac t.cols.length kc, .int .i64 t.head, .int .i64 t.foot, .slice Ar t.rows.length kr, .int .i64 t.gap] :: .int .i64 fl :: .int .i64 wd :: u60 :: u61 :: u62 :: u63 :: u64 :: u65 :: u66 :: u67 :: vs 0 :: vs 1 :: vs 2 :: vs 3 :: vs 4 :: vs 5 :: vs 6 :: vs 7 :: vs 8 :: vs 9 :: vs 10 :: vs 11 :: vs 12 :: vs 13 :: vs 14 :: vs 15 :: vs 16 :: vs 17 :: vs 18 :: vs 19 :: vs 20 :: vs 21 :: vs 22 :: vs 23 :: []), []⟩ ∧ PMid KF 25 25 dep (U.drew) (fun _ _ _ => True) st l vs W) (by kernel_rfl) ?top ?start ?step ?fin
    case top =>
      clear k0 k1 k2 k3 k4 k5 k6 k7 k8 k9 k10 k11 k12 k13 k14 k15 k16 k17 k18 k19 k20 k21 k22 k23 k24 d0 d1 d2 d3 d4 d5 d6 d7 d8 d9 d10 d11 d12 d13 d14 d15 d16 d17 d18 d19 d20 d21 d22 d23 d24 hst st0 st1 st2 st3 st4 st5 st6 st7 st8 st9 st10 st11 st12 st13 st14 st15 st16 st17 st18 st19 st20 st21 st22 st23 st24
      intro j o ho e he
      have hj : j < 25 := (Array.getElem?_eq_some_iff.1 ho).1
      have hA : (o.after.all fun e => decide (e.on < j)) = true := by
        obtain rfl | rfl | rfl | rfl | rfl | rfl | rfl | rfl | rfl | rfl | rfl | rfl | rfl | rfl | rfl | rfl | rfl | rfl | rfl | rfl | rfl | rfl | rfl | rfl | rfl : j = 0 ∨ j = 1 ∨ j = 2 ∨ j = 3 ∨ j = 4 ∨ j = 5 ∨ j = 6 ∨ j = 7 ∨ j = 8 ∨ j = 9 ∨ j = 10 ∨ j = 11 ∨ j = 12 ∨ j = 13 ∨ j = 14 ∨ j = 15 ∨ j = 16 ∨ j = 17 ∨ j = 18 ∨ j = 19 ∨ j = 20 ∨ j = 21 ∨ j = 22 ∨ j = 23 ∨ j = 24 := by omega
        all_goals
          simp only [List.getElem?_toArray, List.getElem?_cons_zero, List.getElem?_cons_succ, Option.some.injEq] at ho
          subst ho
          first | decide | kernel_rfl | simp
      simpa using Array.all_eq_true'.1 hA e he
    case start => exact ⟨st, by rw [hst]; first | done | rfl, PMid.start⟩
    case step =>
      rintro l a W i o ho hl hpre hsz ⟨vs, rfl, hM0⟩ K hK
      have hi : i < 25 := (Array.getElem?_eq_some_iff.1 ho).1
      obtain rfl | rfl | rfl | rfl | rfl | rfl | rfl | rfl | rfl | rfl | rfl | rfl | rfl | rfl | rfl | rfl | rfl | rfl | rfl | rfl | rfl | rfl | rfl | rfl | rfl : i = 0 ∨ i = 1 ∨ i = 2 ∨ i = 3 ∨ i = 4 ∨ i = 5 ∨ i = 6 ∨ i = 7 ∨ i = 8 ∨ i = 9 ∨ i = 10 ∨ i = 11 ∨ i = 12 ∨ i = 13 ∨ i = 14 ∨ i = 15 ∨ i = 16 ∨ i = 17 ∨ i = 18 ∨ i = 19 ∨ i = 20 ∨ i = 21 ∨ i = 22 ∨ i = 23 ∨ i = 24 := by omega
      · simp only [List.getElem?_toArray, List.getElem?_cons_zero, List.getElem?_cons_succ, Option.some.injEq] at ho
        subst ho
        have hMB := hM0.below HLD hi (by decide) hl
        have hMG := hM0.get HLD hi (by decide) hl
        have hdp : ∀ e ∈ dep 0, l.getD e false = true := by rw [d0]; exact dep_nil
        have e := k0
        clear k0 k1 k2 k3 k4 k5 k6 k7 k8 k9 k10 k11 k12 k13 k14 k15 k16 k17 k18 k19 k20 k21 k22 k23 k24 d0 d1 d2 d3 d4 d5 d6 d7 d8 d9 d10 d11 d12 d13 d14 d15 d16 d17 d18 d19 d20 d21 d22 d23 d24 hst st0 st1 st2 st3 st4 st5 st6 st7 st8 st9 st10 st11 st12 st13 st14 st15 st16 st17 st18 st19 st20 st21 st22 st23 st24
        go_simp
        exact hK.out _ _ ⟨updV vs 0 (.int .i64 wz), rfl, hM0.still HLD HST 0 (by decide) (by decide) hl _ hdp ((e _ _).2 rfl)⟩
      · simp only [List.getElem?_toArray, List.getElem?_cons_zero, List.getElem?_cons_succ, Option.some.injEq] at ho
        subst ho
        have hMB := hM0.below HLD hi (by decide) hl
        have hMG := hM0.get HLD hi (by decide) hl
        have hdp : ∀ e ∈ dep 1, l.getD e false = true := by rw [d1]; exact dep_nil
        have e := k1
        clear k0 k1 k2 k3 k4 k5 k6 k7 k8 k9 k10 k11 k12 k13 k14 k15 k16 k17 k18 k19 k20 k21 k22 k23 k24 d0 d1 d2 d3 d4 d5 d6 d7 d8 d9 d10 d11 d12 d13 d14 d15 d16 d17 d18 d19 d20 d21 d22 d23 d24 hst st0 st1 st2 st3 st4 st5 st6 st7 st8 st9 st10 st11 st12 st13 st14 st15 st16 st17 st18 st19 st20 st21 st22 st23 st24
        go_simp
        exact hK.out _ _ ⟨updV vs 1 (.int .i64 wz), rfl, hM0.still HLD HST 1 (by decide) (by decide) hl _ hdp ((e _ _).2 rfl)⟩
      · simp only [List.getElem?_toArray, List.getElem?_cons_zero, List.getElem?_cons_succ, Option.some.injEq] at ho
        subst ho
        have hMB := hM0.below HLD hi (by decide) hl
        have hMG := hM0.get HLD hi (by decide) hl
        have v0 : vs 0 = .int .i64 wz := (k0 _ _).1 (hMG 0 (by decide) (hpre ⟨0, .data⟩ (by simp) rfl))
        have v1 : vs 1 = .int .i64 wz := (k1 _ _).1 (hMG 1 (by decide) (hpre ⟨1, .data⟩ (by simp) rfl))
        have hdp : ∀ e ∈ dep 2, l.getD e false = true := by rw [d2]; exact (dep_cons (hpre ⟨0, .data⟩ (by simp) rfl) (dep_cons (hpre ⟨1, .data⟩ (by simp) rfl) dep_nil))
        have e := k2
        clear k0 k1 k2 k3 k4 k5 k6 k7 k8 k9 k10 k11 k12 k13 k14 k15 k16 k17 k18 k19 k20 k21 k22 k23 k24 d0 d1 d2 d3 d4 d5 d6 d7 d8 d9 d10 d11 d12 d13 d14 d15 d16 d17 d18 d19 d20 d21 d22 d23 d24 hst st0 st1 st2 st3 st4 st5 st6 st7 st8 st9 st10 st11 st12 st13 st14 st15 st16 st17 st18 st19 st20 st21 st22 st23 st24
        rw [v0, v1]
        go_simp
        exact hK.out _ _ ⟨updV vs 2 (.bool true), (by simp [updV, v0, v1]), hM0.still HLD HST 2 (by decide) (by decide) hl _ hdp ((e _ _).2 rfl)⟩
      · simp only [List.getElem?_toArray, List.getElem?_cons_zero, List.getElem?_cons_succ, Option.some.injEq] at ho
        subst ho
        have hMB := hM0.below HLD hi (by decide) hl
        have hMG := hM0.get HLD hi (by decide) hl
        have v2 : vs 2 = .bool true := (k2 _ _).1 (hMG 2 (by decide) (hpre ⟨2, .data⟩ (by simp) rfl))
        have hdp : ∀ e ∈ dep 3, l.getD e false = true := by rw [d3]; exact (dep_cons (hpre ⟨2, .data⟩ (by simp) rfl) dep_nil)
        have e := k3
        clear k0 k1 k2 k3 k4 k5 k6 k7 k8 k9 k10 k11 k12 k13 k14 k15 k16 k17 k18 k19 k20 k21 k22 k23 k24 d0 d1 d2 d3 d4 d5 d6 d7 d8 d9 d10 d11 d12 d13 d14 d15 d16 d17 d18 d19 d20 d21 d22 d23 d24 hst st0 st1 st2 st3 st4 st5 st6 st7 st8 st9 st10 st11 st12 st13 st14 st15 st16 st17 st18 st19 st20 st21 st22 st23 st24
        rw [v2]
        go_simp
        exact hK.out _ _ ⟨updV vs 3 (.bool true), (by simp [updV, v2]), hM0.still HLD HST 3 (by decide) (by decide) hl _ hdp ((e _ _).2 rfl)⟩
      · simp only [List.getElem?_toArray, List.getElem?_cons_zero, List.getElem?_cons_succ, Option.some.injEq] at ho
        subst ho
        have hMB := hM0.below HLD hi (by decide) hl
        have hMG := hM0.get HLD hi (by decide) hl
        have v3 : vs 3 = .bool true := (k3 _ _).1 (hMG 3 (by decide) (hpre ⟨3, .guard⟩ (by simp) rfl))
        have hdp : ∀ e ∈ dep 4, l.getD e false = true := by rw [d4]; exact (dep_cons (hpre ⟨3, .guard⟩ (by simp) rfl) dep_nil)
        have e := k4
        clear k0 k1 k2 k3 k4 k5 k6 k7 k8 k9 k10 k11 k12 k13 k14 k15 k16 k17 k18 k19 k20 k21 k22 k23 k24 d0 d1 d2 d3 d4 d5 d6 d7 d8 d9 d10 d11 d12 d13 d14 d15 d16 d17 d18 d19 d20 d21 d22 d23 d24 hst st0 st1 st2 st3 st4 st5 st6 st7 st8 st9 st10 st11 st12 st13 st14 st15 st16 st17 st18 st19 st20 st21 st22 st23 st24
        rw [v3]
        go_simp
        exact hK.out _ _ ⟨updV vs 4 (.int .i64 wz), (by simp [updV, v3]), hM0.still HLD HST 4 (by decide) (by decide) hl _ hdp ((e _ _).2 rfl)⟩
      · simp only [List.getElem?_toArray, List.getElem?_cons_zero, List.getElem?_cons_succ, Option.some.injEq] at ho
        subst ho
        have hMB := hM0.below HLD hi (by decide) hl
        have hMG := hM0.get HLD hi (by decide) hl
        have v3 : vs 3 = .bool true := (k3 _ _).1 (hMG 3 (by decide) (hpre ⟨3, .guard⟩ (by simp) rfl))
        have hdp : ∀ e ∈ dep 5, l.getD e false = true := by rw [d5]; exact (dep_cons (hpre ⟨3, .guard⟩ (by simp) rfl) dep_nil)
        have e := k5
        clear k0 k1 k2 k3 k4 k5 k6 k7 k8 k9 k10 k11 k12 k13 k14 k15 k16 k17 k18 k19 k20 k21 k22 k23 k24 d0 d1 d2 d3 d4 d5 d6 d7 d8 d9 d10 d11 d12 d13 d14 d15 d16 d17 d18 d19 d20 d21 d22 d23 d24 hst st0 st1 st2 st3 st4 st5 st6 st7 st8 st9 st10 st11 st12 st13 st14 st15 st16 st17 st18 st19 st20 st21 st22 st23 st24
        rw [v3]
        go_simp
        exact hK.out _ _ ⟨updV vs 5 (.slice AL L.length cL), (by simp [updV, v3]), hM0.still HLD HST 5 (by decide) (by decide) hl _ hdp ((e _ _).2 rfl)⟩
      · simp only [List.getElem?_toArray, List.getElem?_cons_zero, List.getElem?_cons_succ, Option.some.injEq] at ho
        subst ho
        have hMB := hM0.below HLD hi (by decide) hl
        have hMG := hM0.get HLD hi (by decide) hl
        have v5 : vs 5 = .slice AL L.length cL := (k5 _ _).1 (hMG 5 (by decide) (hpre ⟨5, .data⟩ (by simp) rfl))
        have v3 : vs 3 = .bool true := (k3 _ _).1 (hMG 3 (by decide) (hpre ⟨3, .chain⟩ (by simp) rfl))
        have hdp : ∀ e ∈ dep 6, l.getD e false = true := by rw [d6]; exact (dep_cons (hpre ⟨5, .data⟩ (by simp) rfl) (dep_cons (hpre ⟨3, .chain⟩ (by simp) rfl) dep_nil))
        have e := k6
        clear k0 k1 k2 k3 k4 k5 k6 k7 k8 k9 k10 k11 k12 k13 k14 k15 k16 k17 k18 k19 k20 k21 k22 k23 k24 d0 d1 d2 d3 d4 d5 d6 d7 d8 d9 d10 d11 d12 d13 d14 d15 d16 d17 d18 d19 d20 d21 d22 d23 d24 hst st0 st1 st2 st3 st4 st5 st6 st7 st8 st9 st10 st11 st12 st13 st14 st15 st16 st17 st18 st19 st20 st21 st22 st23 st24
        rw [v5, v3]
        go_simp
        refine (HPS.out _ hMB).mono ?_
        rintro e5 W5 ⟨rfl, hq⟩
        exact hK.out _ _ ⟨updV vs 6 (.int .i64 sx), (by simp [updV, v5, v3]), hM0.next HLD HST 6 (by decide) (by decide) hl _ hdp (by rw [hq]; exact brefl _) ((e _ _).2 rfl)⟩
      · simp only [List.getElem?_toArray, List.getElem?_cons_zero, List.getElem?_cons_succ, Option.some.injEq] at ho
        subst ho
        have hMB := hM0.below HLD hi (by decide) hl
        have hMG := hM0.get HLD hi (by decide) hl
        have v3 : vs 3 = .bool true := (k3 _ _).1 (hMG 3 (by decide) (hpre ⟨3, .guard⟩ (by simp) rfl))
        have hdp : ∀ e ∈ dep 7, l.getD e false = true := by rw [d7]; exact (dep_cons (hpre ⟨3, .guard⟩ (by simp) rfl) dep_nil)
        have e := k7
        clear k0 k1 k2 k3 k4 k5 k6 k7 k8 k9 k10 k11 k12 k13 k14 k15 k16 k17 k18 k19 k20 k21 k22 k23 k24 d0 d1 d2 d3 d4 d5 d6 d7 d8 d9 d10 d11 d12 d13 d14 d15 d16 d17 d18 d19 d20 d21 d22 d23 d24 hst st0 st1 st2 st3 st4 st5 st6 st7 st8 st9 st10 st11 st12 st13 st14 st15 st16 st17 st18 st19 st20 st21 st22 st23 st24
        rw [v3]
        go_simp
        exact hK.out _ _ ⟨updV vs 7 (.pointer (some ⟨W1.heap.size, 4, none⟩)), (by simp [updV, v3]), hM0.still HLD HST 7 (by decide) (by decide) hl _ hdp ((e _ _).2 rfl)⟩
      · simp only [List.getElem?_toArray, List.getElem?_cons_zero, List.getElem?_cons_succ, Option.some.injEq] at ho
        subst ho
        have hMB := hM0.below HLD hi (by decide) hl
        have hMG := hM0.get HLD hi (by decide) hl
        have v7 : vs 7 = .pointer (some ⟨W1.heap.size, 4, none⟩) := (k7 _ _).1 (hMG 7 (by decide) (hpre ⟨7, .data⟩ (by simp) rfl))
        have v3 : vs 3 = .bool true := (k3 _ _).1 (hMG 3 (by decide) (hpre ⟨3, .guard⟩ (by simp) rfl))
        have hdp : ∀ e ∈ dep 8, l.getD e false = true := by rw [d8]; exact (dep_cons (hpre ⟨7, .data⟩ (by simp) rfl) (dep_cons (hpre ⟨3, .guard⟩ (by simp) rfl) dep_nil))
        have e := k8
        clear k0 k1 k2 k3 k4 k5 k6 k7 k8 k9 k10 k11 k12 k13 k14 k15 k16 k17 k18 k19 k20 k21 k22 k23 k24 d0 d1 d2 d3 d4 d5 d6 d7 d8 d9 d10 d11 d12 d13 d14 d15 d16 d17 d18 d19 d20 d21 d22 d23 d24 hst st0 st1 st2 st3 st4 st5 st6 st7 st8 st9 st10 st11 st12 st13 st14 st15 st16 st17 st18 st19 st20 st21 st22 st23 st24
        have x0 := keepW hMB z4
        rw [v7, v3]
        go_simp
        exact hK.out _ _ ⟨updV vs 8 (.int .i64 t.gap), (by simp [updV, v7, v3]), hM0.still HLD HST 8 (by decide) (by decide) hl _ hdp ((e _ _).2 rfl)⟩
      · simp only [List.getElem?_toArray, List.getElem?_cons_zero, List.getElem?_cons_succ, Option.some.injEq] at ho
        subst ho
        have hMB := hM0.below HLD hi (by decide) hl
        have hMG := hM0.get HLD hi (by decide) hl
        have v3 : vs 3 = .bool true := (k3 _ _).1 (hMG 3 (by decide) (hpre ⟨3, .guard⟩ (by simp) rfl))
        have hdp : ∀ e ∈ dep 9, l.getD e false = true := by rw [d9]; exact (dep_cons (hpre ⟨3, .guard⟩ (by simp) rfl) dep_nil)
        have e := k9
        clear k0 k1 k2 k3 k4 k5 k6 k7 k8 k9 k10 k11 k12 k13 k14 k15 k16 k17 k18 k19 k20 k21 k22 k23 k24 d0 d1 d2 d3 d4 d5 d6 d7 d8 d9 d10 d11 d12 d13 d14 d15 d16 d17 d18 d19 d20 d21 d22 d23 d24 hst st0 st1 st2 st3 st4 st5 st6 st7 st8 st9 st10 st11 st12 st13 st14 st15 st16 st17 st18 st19 st20 st21 st22 st23 st24
        rw [v3]
        go_simp
        exact hK.out _ _ ⟨updV vs 9 (.slice AL L.length cL), (by simp [updV, v3]), hM0.still HLD HST 9 (by decide) (by decide) hl _ hdp ((e _ _).2 rfl)⟩
      · simp only [List.getElem?_toArray, List.getElem?_cons_zero, List.getElem?_cons_succ, Option.some.injEq] at ho
        subst ho
        have hMB := hM0.below HLD hi (by decide) hl
        have hMG := hM0.get HLD hi (by decide) hl
        have v9 : vs 9 = .slice AL L.length cL := (k9 _ _).1 (hMG 9 (by decide) (hpre ⟨9, .data⟩ (by simp) rfl))
        have v3 : vs 3 = .bool true := (k3 _ _).1 (hMG 3 (by decide) (hpre ⟨3, .guard⟩ (by simp) rfl))
        have hdp : ∀ e ∈ dep 10, l.getD e false = true := by rw [d10]; exact (dep_cons (hpre ⟨9, .data⟩ (by simp) rfl) (dep_cons (hpre ⟨3, .guard⟩ (by simp) rfl) dep_nil))
        have e := k10
        clear k0 k1 k2 k3 k4 k5 k6 k7 k8 k9 k10 k11 k12 k13 k14 k15 k16 k17 k18 k19 k20 k21 k22 k23 k24 d0 d1 d2 d3 d4 d5 d6 d7 d8 d9 d10 d11 d12 d13 d14 d15 d16 d17 d18 d19 d20 d21 d22 d23 d24 hst st0 st1 st2 st3 st4 st5 st6 st7 st8 st9 st10 st11 st12 st13 st14 st15 st16 st17 st18 st19 st20 st21 st22 st23 st24
        rw [v9, v3]
        go_simp
        exact hK.out _ _ ⟨updV vs 10 (.int .i64 (L.length : Int)), (by simp [updV, v9, v3]), hM0.still HLD HST 10 (by decide) (by decide) hl _ hdp ((e _ _).2 rfl)⟩
      · simp only [List.getElem?_toArray, List.getElem?_cons_zero, List.getElem?_cons_succ, Option.some.injEq] at ho
        subst ho
        have hMB := hM0.below HLD hi (by decide) hl
        have hMG := hM0.get HLD hi (by decide) hl
        have v10 : vs 10 = .int .i64 (L.length : Int) := (k10 _ _).1 (hMG 10 (by decide) (hpre ⟨10, .data⟩ (by simp) rfl))
        have v3 : vs 3 = .bool true := (k3 _ _).1 (hMG 3 (by decide) (hpre ⟨3, .guard⟩ (by simp) rfl))
        have hdp : ∀ e ∈ dep 11, l.getD e false = true := by rw [d11]; exact (dep_cons (hpre ⟨10, .data⟩ (by simp) rfl) (dep_cons (hpre ⟨3, .guard⟩ (by simp) rfl) dep_nil))
        have e := k11
        clear k0 k1 k2 k3 k4 k5 k6 k7 k8 k9 k10 k11 k12 k13 k14 k15 k16 k17 k18 k19 k20 k21 k22 k23 k24 d0 d1 d2 d3 d4 d5 d6 d7 d8 d9 d10 d11 d12 d13 d14 d15 d16 d17 d18 d19 d20 d21 d22 d23 d24 hst st0 st1 st2 st3 st4 st5 st6 st7 st8 st9 st10 st11 st12 st13 st14 st15 st16 st17 st18 st19 st20 st21 st22 st23 st24
        rw [v10, v3]
        go_simp
        exact hK.out _ _ ⟨updV vs 11 (.int .i64 ((L.length : Int) - 1)), (by simp [updV, v10, v3]), hM0.still HLD HST 11 (by decide) (by decide) hl _ hdp ((e _ _).2 rfl)⟩
      · simp only [List.getElem?_toArray, List.getElem?_cons_zero, List.getElem?_cons_succ, Option.some.injEq] at ho
        subst ho
        have hMB := hM0.below HLD hi (by decide) hl
        have hMG := hM0.get HLD hi (by decide) hl
        have v8 : vs 8 = .int .i64 t.gap := (k8 _ _).1 (hMG 8 (by decide) (hpre ⟨8, .data⟩ (by simp) rfl))
        have v11 : vs 11 = .int .i64 ((L.length : Int) - 1) := (k11 _ _).1 (hMG 11 (by decide) (hpre ⟨11, .data⟩ (by simp) rfl))
        have v3 : vs 3 = .bool true := (k3 _ _).1 (hMG 3 (by decide) (hpre ⟨3, .guard⟩ (by simp) rfl))
        have hdp : ∀ e ∈ dep 12, l.getD e false = true := by rw [d12]; exact (dep_cons (hpre ⟨8, .data⟩ (by simp) rfl) (dep_cons (hpre ⟨11, .data⟩ (by simp) rfl) (dep_cons (hpre ⟨3, .guard⟩ (by simp) rfl) dep_nil)))
        have e := k12
        clear k0 k1 k2 k3 k4 k5 k6 k7 k8 k9 k10 k11 k12 k13 k14 k15 k16 k17 k18 k19 k20 k21 k22 k23 k24 d0 d1 d2 d3 d4 d5 d6 d7 d8 d9 d10 d11 d12 d13 d14 d15 d16 d17 d18 d19 d20 d21 d22 d23 d24 hst st0 st1 st2 st3 st4 st5 st6 st7 st8 st9 st10 st11 st12 st13 st14 st15 st16 st17 st18 st19 st20 st21 st22 st23 st24
        rw [v8, v11, v3]
        go_simp
        exact hK.out _ _ ⟨updV vs 12 (.int .i64 gp), (by simp [updV, v8, v11, v3]), hM0.still HLD HST 12 (by decide) (by decide) hl _ hdp ((e _ _).2 rfl)⟩
      · simp only [List.getElem?_toArray, List.getElem?_cons_zero, List.getElem?_cons_succ, Option.some.injEq] at ho
        subst ho
        have hMB := hM0.below HLD hi (by decide) hl
        have hMG := hM0.get HLD hi (by decide) hl
        have v6 : vs 6 = .int .i64 sx := (k6 _ _).1 (hMG 6 (by decide) (hpre ⟨6, .data⟩ (by simp) rfl))
        have v12 : vs 12 = .int .i64 gp := (k12 _ _).1 (hMG 12 (by decide) (hpre ⟨12, .data⟩ (by simp) rfl))
        have v3 : vs 3 = .bool true := (k3 _ _).1 (hMG 3 (by decide) (hpre ⟨3, .guard⟩ (by simp) rfl))
        have hdp : ∀ e ∈ dep 13, l.getD e false = true := by rw [d13]; exact (dep_cons (hpre ⟨6, .data⟩ (by simp) rfl) (dep_cons (hpre ⟨12, .data⟩ (by simp) rfl) (dep_cons (hpre ⟨3, .guard⟩ (by simp) rfl) dep_nil)))
        have e := k13
        clear k0 k1 k2 k3 k4 k5 k6 k7 k8 k9 k10 k11 k12 k13 k14 k15 k16 k17 k18 k19 k20 k21 k22 k23 k24 d0 d1 d2 d3 d4 d5 d6 d7 d8 d9 d10 d11 d12 d13 d14 d15 d16 d17 d18 d19 d20 d21 d22 d23 d24 hst st0 st1 st2 st3 st4 st5 st6 st7 st8 st9 st10 st11 st12 st13 st14 st15 st16 st17 st18 st19 st20 st21 st22 st23 st24
        rw [v6, v12, v3]
        go_simp
        exact hK.out _ _ ⟨updV vs 13 (.int .i64 wz), (by simp [updV, v6, v12, v3]), hM0.still HLD HST 13 (by decide) (by decide) hl _ hdp ((e _ _).2 rfl)⟩
      · simp only [List.getElem?_toArray, List.getElem?_cons_zero, List.getElem?_cons_succ, Option.some.injEq] at ho
        subst ho
        have hMB := hM0.below HLD hi (by decide) hl
        have hMG := hM0.get HLD hi (by decide) hl
        have v4 : vs 4 = .int .i64 wz := (k4 _ _).1 (hMG 4 (by decide) (hpre ⟨4, .data⟩ (by simp) rfl))
        have v13 : vs 13 = .int .i64 wz := (k13 _ _).1 (hMG 13 (by decide) (hpre ⟨13, .data⟩ (by simp) rfl))
        have v3 : vs 3 = .bool true := (k3 _ _).1 (hMG 3 (by decide) (hpre ⟨3, .guard⟩ (by simp) rfl))
        have hdp : ∀ e ∈ dep 14, l.getD e false = true := by rw [d14]; exact (dep_cons (hpre ⟨4, .data⟩ (by simp) rfl) (dep_cons (hpre ⟨13, .data⟩ (by simp) rfl) (dep_cons (hpre ⟨3, .guard⟩ (by simp) rfl) dep_nil)))
        have e := k14
        clear k0 k1 k2 k3 k4 k5 k6 k7 k8 k9 k10 k11 k12 k13 k14 k15 k16 k17 k18 k19 k20 k21 k22 k23 k24 d0 d1 d2 d3 d4 d5 d6 d7 d8 d9 d10 d11 d12 d13 d14 d15 d16 d17 d18 d19 d20 d21 d22 d23 d24 hst st0 st1 st2 st3 st4 st5 st6 st7 st8 st9 st10 st11 st12 st13 st14 st15 st16 st17 st18 st19 st20 st21 st22 st23 st24
        rw [v4, v13, v3]
        go_simp
        exact hK.out _ _ ⟨updV vs 14 (.bool true), (by simp [updV, v4, v13, v3]), hM0.still HLD HST 14 (by decide) (by decide) hl _ hdp ((e _ _).2 rfl)⟩
      · simp only [List.getElem?_toArray, List.getElem?_cons_zero, List.getElem?_cons_succ, Option.some.injEq] at ho
        subst ho
        have hMB := hM0.below HLD hi (by decide) hl
        have hMG := hM0.get HLD hi (by decide) hl
        have v3 : vs 3 = .bool true := (k3 _ _).1 (hMG 3 (by decide) (hpre ⟨3, .data⟩ (by simp) rfl))
        have v14 : vs 14 = .bool true := (k14 _ _).1 (hMG 14 (by decide) (hpre ⟨14, .data⟩ (by simp) rfl))
        have hdp : ∀ e ∈ dep 15, l.getD e false = true := by rw [d15]; exact (dep_cons (hpre ⟨3, .data⟩ (by simp) rfl) (dep_cons (hpre ⟨14, .data⟩ (by simp) rfl) dep_nil))
        have e := k15
        clear k0 k1 k2 k3 k4 k5 k6 k7 k8 k9 k10 k11 k12 k13 k14 k15 k16 k17 k18 k19 k20 k21 k22 k23 k24 d0 d1 d2 d3 d4 d5 d6 d7 d8 d9 d10 d11 d12 d13 d14 d15 d16 d17 d18 d19 d20 d21 d22 d23 d24 hst st0 st1 st2 st3 st4 st5 st6 st7 st8 st9 st10 st11 st12 st13 st14 st15 st16 st17 st18 st19 st20 st21 st22 st23 st24
        rw [v3, v14]
        go_simp
        exact hK.out _ _ ⟨updV vs 15 (.bool true), (by simp [updV, v3, v14]), hM0.still HLD HST 15 (by decide) (by decide) hl _ hdp ((e _ _).2 rfl)⟩
      · simp only [List.getElem?_toArray, List.getElem?_cons_zero, List.getElem?_cons_succ, Option.some.injEq] at ho
        subst ho
        have hMB := hM0.below HLD hi (by decide) hl
        have hMG := hM0.get HLD hi (by decide) hl
        have v15 : vs 15 = .bool true := (k15 _ _).1 (hMG 15 (by decide) (hpre ⟨15, .data⟩ (by simp) rfl))
        have v6 : vs 6 = .int .i64 sx := (k6 _ _).1 (hMG 6 (by decide) (hpre ⟨6, .chain⟩ (by simp) rfl))
        have hdp : ∀ e ∈ dep 16, l.getD e false = true := by rw [d16]; exact (dep_cons (hpre ⟨15, .data⟩ (by simp) rfl) (dep_cons (hpre ⟨6, .chain⟩ (by simp) rfl) dep_nil))
        have e := k16
        clear k0 k1 k2 k3 k4 k5 k6 k7 k8 k9 k10 k11 k12 k13 k14 k15 k16 k17 k18 k19 k20 k21 k22 k23 k24 d0 d1 d2 d3 d4 d5 d6 d7 d8 d9 d10 d11 d12 d13 d14 d15 d16 d17 d18 d19 d20 d21 d22 d23 d24 hst st0 st1 st2 st3 st4 st5 st6 st7 st8 st9 st10 st11 st12 st13 st14 st15 st16 st17 st18 st19 st20 st21 st22 st23 st24
        rw [v15, v6]
        go_simp
        exact hK.out _ _ ⟨updV vs 16 (.bool true), (by simp [updV, v15, v6]), hM0.still HLD HST 16 (by decide) (by decide) hl _ hdp ((e _ _).2 rfl)⟩
      · simp only [List.getElem?_toArray, List.getElem?_cons_zero, List.getElem?_cons_succ, Option.some.injEq] at ho
        subst ho
        have hMB := hM0.below HLD hi (by decide) hl
        have hMG := hM0.get HLD hi (by decide) hl
        have v16 : vs 16 = .bool true := (k16 _ _).1 (hMG 16 (by decide) (hpre ⟨16, .guard⟩ (by simp) rfl))
        have hdp : ∀ e ∈ dep 17, l.getD e false = true := by rw [d17]; exact (dep_cons (hpre ⟨16, .guard⟩ (by simp) rfl) dep_nil)
        have e := k17
        clear k0 k1 k2 k3 k4 k5 k6 k7 k8 k9 k10 k11 k12 k13 k14 k15 k16 k17 k18 k19 k20 k21 k22 k23 k24 d0 d1 d2 d3 d4 d5 d6 d7 d8 d9 d10 d11 d12 d13 d14 d15 d16 d17 d18 d19 d20 d21 d22 d23 d24 hst st0 st1 st2 st3 st4 st5 st6 st7 st8 st9 st10 st11 st12 st13 st14 st15 st16 st17 st18 st19 st20 st21 st22 st23 st24
        rw [v16]
        go_simp
        exact hK.out _ _ ⟨updV vs 17 (.slice AL L.length cL), (by simp [updV, v16]), hM0.still HLD HST 17 (by decide) (by decide) hl _ hdp ((e _ _).2 rfl)⟩
      · simp only [List.getElem?_toArray, List.getElem?_cons_zero, List.getElem?_cons_succ, Option.some.injEq] at ho
        subst ho
        have hMB := hM0.below HLD hi (by decide) hl
        have hMG := hM0.get HLD hi (by decide) hl
        have v17 : vs 17 = .slice AL L.length cL := (k17 _ _).1 (hMG 17 (by decide) (hpre ⟨17, .data⟩ (by simp) rfl))
        have v16 : vs 16 = .bool true := (k16 _ _).1 (hMG 16 (by decide) (hpre ⟨16, .guard⟩ (by simp) rfl))
        have hdp : ∀ e ∈ dep 18, l.getD e false = true := by rw [d18]; exact (dep_cons (hpre ⟨17, .data⟩ (by simp) rfl) (dep_cons (hpre ⟨16, .guard⟩ (by simp) rfl) dep_nil))
        have e := k18
        clear k0 k1 k2 k3 k4 k5 k6 k7 k8 k9 k10 k11 k12 k13 k14 k15 k16 k17 k18 k19 k20 k21 k22 k23 k24 d0 d1 d2 d3 d4 d5 d6 d7 d8 d9 d10 d11 d12 d13 d14 d15 d16 d17 d18 d19 d20 d21 d22 d23 d24 hst st0 st1 st2 st3 st4 st5 st6 st7 st8 st9 st10 st11 st12 st13 st14 st15 st16 st17 st18 st19 st20 st21 st22 st23 st24
        rw [v17, v16]
        go_simp
        exact hK.out _ _ ⟨updV vs 18 (.int .i64 (L.length : Int)), (by simp [updV, v17, v16]), hM0.still HLD HST 18 (by decide) (by decide) hl _ hdp ((e _ _).2 rfl)⟩
      · simp only [List.getElem?_toArray, List.getElem?_cons_zero, List.getElem?_cons_succ, Option.some.injEq] at ho
        subst ho
        have hMB := hM0.below HLD hi (by decide) hl
        have hMG := hM0.get HLD hi (by decide) hl
        have v16 : vs 16 = .bool true := (k16 _ _).1 (hMG 16 (by decide) (hpre ⟨16, .guard⟩ (by simp) rfl))
        have hdp : ∀ e ∈ dep 19, l.getD e false = true := by rw [d19]; exact (dep_cons (hpre ⟨16, .guard⟩ (by simp) rfl) dep_nil)
        have e := k19
        clear k0 k1 k2 k3 k4 k5 k6 k7 k8 k9 k10 k11 k12 k13 k14 k15 k16 k17 k18 k19 k20 k21 k22 k23 k24 d0 d1 d2 d3 d4 d5 d6 d7 d8 d9 d10 d11 d12 d13 d14 d15 d16 d17 d18 d19 d20 d21 d22 d23 d24 hst st0 st1 st2 st3 st4 st5 st6 st7 st8 st9 st10 st11 st12 st13 st14 st15 st16 st17 st18 st19 st20 st21 st22 st23 st24
        have x0 := keepW hMB z0
        have x1 := keepW hMB z1
        have x2 := keepW hMB z2
        have x3 := keepW hMB z3
        have x4 := keepW hMB z4
        rw [v16]
        go_simp
        exact hK.out _ _ ⟨updV vs 19 (.agg #[.slice Ac t.cols.length kc, .int .i64 t.head, .int .i64 t.foot, .slice Ar t.rows.length kr, .int .i64 t.gap]), (by simp [updV, v16]), hM0.still HLD HST 19 (by decide) (by decide) hl _ hdp ((e _ _).2 rfl)⟩
      · simp only [List.getElem?_toArray, List.getElem?_cons_zero, List.getElem?_cons_succ, Option.some.injEq] at ho
        subst ho
        have hMB := hM0.below HLD hi (by decide) hl
        have hMG := hM0.get HLD hi (by decide) hl
        have v19 : vs 19 = .agg #[.slice Ac t.cols.length kc, .int .i64 t.head, .int .i64 t.foot, .slice Ar t.rows.length kr, .int .i64 t.gap] := (k19 _ _).1 (hMG 19 (by decide) (hpre ⟨19, .data⟩ (by simp) rfl))
        have v16 : vs 16 = .bool true := (k16 _ _).1 (hMG 16 (by decide) (hpre ⟨16, .chain⟩ (by simp) rfl))
        have hdp : ∀ e ∈ dep 20, l.getD e false = true := by rw [d20]; exact (dep_cons (hpre ⟨19, .data⟩ (by simp) rfl) (dep_cons (hpre ⟨16, .chain⟩ (by simp) rfl) dep_nil))
        have e := k20
        clear k0 k1 k2 k3 k4 k5 k6 k7 k8 k9 k10 k11 k12 k13 k14 k15 k16 k17 k18 k19 k20 k21 k22 k23 k24 d0 d1 d2 d3 d4 d5 d6 d7 d8 d9 d10 d11 d12 d13 d14 d15 d16 d17 d18 d19 d20 d21 d22 d23 d24 hst st0 st1 st2 st3 st4 st5 st6 st7 st8 st9 st10 st11 st12 st13 st14 st15 st16 st17 st18 st19 st20 st21 st22 st23 st24
        rw [v19, v16]
        go_simp
        refine (HGO.out _ hMB).mono ?_
        rintro e5 W5 ⟨A5, l5, d5, rfl, hb5⟩
        exact hK.out _ _ ⟨updV vs 20 (.agg #[.int .i64 ↑t.rows.length, .int .i64 ↑m, .slice A5 l5 d5]), (by simp [updV, v19, v16]), hM0.next HLD HST 20 (by decide) (by decide) hl _ hdp hb5 ((e _ _).2 ⟨A5, l5, d5, rfl, trivial⟩)⟩
      · simp only [List.getElem?_toArray, List.getElem?_cons_zero, List.getElem?_cons_succ, Option.some.injEq] at ho
        subst ho
        have hMB := hM0.below HLD hi (by decide) hl
        have hMG := hM0.get HLD hi (by decide) hl
        obtain ⟨Ag, lg, dg, v20, q20⟩ := (k20 _ _).1 (hMG 20 (by decide) (hpre ⟨20, .data⟩ (by simp) rfl))
        have v16 : vs 16 = .bool true := (k16 _ _).1 (hMG 16 (by decide) (hpre ⟨16, .guard⟩ (by simp) rfl))
        have hdp : ∀ e ∈ dep 21, l.getD e false = true := by rw [d21]; exact (dep_cons (hpre ⟨20, .data⟩ (by simp) rfl) (dep_cons (hpre ⟨16, .guard⟩ (by simp) rfl) dep_nil))
        have e := k21
        clear k0 k1 k2 k3 k4 k5 k6 k7 k8 k9 k10 k11 k12 k13 k14 k15 k16 k17 k18 k19 k20 k21 k22 k23 k24 d0 d1 d2 d3 d4 d5 d6 d7 d8 d9 d10 d11 d12 d13 d14 d15 d16 d17 d18 d19 d20 d21 d22 d23 d24 hst st0 st1 st2 st3 st4 st5 st6 st7 st8 st9 st10 st11 st12 st13 st14 st15 st16 st17 st18 st19 st20 st21 st22 st23 st24
        have hfg := fieldG
        rw [v20, v16]
        go_simp
        exact hK.out _ _ ⟨updV vs 21 (.int .i64 ↑m), (by simp [updV, v20, v16]), hM0.still HLD HST 21 (by decide) (by decide) hl _ hdp ((e _ _).2 rfl)⟩
      · simp only [List.getElem?_toArray, List.getElem?_cons_zero, List.getElem?_cons_succ, Option.some.injEq] at ho
        subst ho
        have hMB := hM0.below HLD hi (by decide) hl
        have hMG := hM0.get HLD hi (by decide) hl
        have v18 : vs 18 = .int .i64 (L.length : Int) := (k18 _ _).1 (hMG 18 (by decide) (hpre ⟨18, .data⟩ (by simp) rfl))
        have v21 : vs 21 = .int .i64 ↑m := (k21 _ _).1 (hMG 21 (by decide) (hpre ⟨21, .data⟩ (by simp) rfl))
        have v16 : vs 16 = .bool true := (k16 _ _).1 (hMG 16 (by decide) (hpre ⟨16, .guard⟩ (by simp) rfl))
        have hdp : ∀ e ∈ dep 22, l.getD e false = true := by rw [d22]; exact (dep_cons (hpre ⟨18, .data⟩ (by simp) rfl) (dep_cons (hpre ⟨21, .data⟩ (by simp) rfl) (dep_cons (hpre ⟨16, .guard⟩ (by simp) rfl) dep_nil)))
        have e := k22
        clear k0 k1 k2 k3 k4 k5 k6 k7 k8 k9 k10 k11 k12 k13 k14 k15 k16 k17 k18 k19 k20 k21 k22 k23 k24 d0 d1 d2 d3 d4 d5 d6 d7 d8 d9 d10 d11 d12 d13 d14 d15 d16 d17 d18 d19 d20 d21 d22 d23 d24 hst st0 st1 st2 st3 st4 st5 st6 st7 st8 st9 st10 st11 st12 st13 st14 st15 st16 st17 st18 st19 st20 st21 st22 st23 st24
        rw [v18, v21, v16]
        go_simp
        exact hK.out _ _ ⟨updV vs 22 (.bool true), (by simp [updV, v18, v21, v16]), hM0.still HLD HST 22 (by decide) (by decide) hl _ hdp ((e _ _).2 rfl)⟩
      · simp only [List.getElem?_toArray, List.getElem?_cons_zero, List.getElem?_cons_succ, Option.some.injEq] at ho
        subst ho
        have hMB := hM0.below HLD hi (by decide) hl
        have hMG := hM0.get HLD hi (by decide) hl
        have v16 : vs 16 = .bool true := (k16 _ _).1 (hMG 16 (by decide) (hpre ⟨16, .data⟩ (by simp) rfl))
        have v22 : vs 22 = .bool true := (k22 _ _).1 (hMG 22 (by decide) (hpre ⟨22, .data⟩ (by simp) rfl))
        have hdp : ∀ e ∈ dep 23, l.getD e false = true := by rw [d23]; exact (dep_cons (hpre ⟨16, .data⟩ (by simp) rfl) (dep_cons (hpre ⟨22, .data⟩ (by simp) rfl) dep_nil))
        have e := k23
        clear k0 k1 k2 k3 k4 k5 k6 k7 k8 k9 k10 k11 k12 k13 k14 k15 k16 k17 k18 k19 k20 k21 k22 k23 k24 d0 d1 d2 d3 d4 d5 d6 d7 d8 d9 d10 d11 d12 d13 d14 d15 d16 d17 d18 d19 d20 d21 d22 d23 d24 hst st0 st1 st2 st3 st4 st5 st6 st7 st8 st9 st10 st11 st12 st13 st14 st15 st16 st17 st18 st19 st20 st21 st22 st23 st24
        rw [v16, v22]
        go_simp
        exact hK.out _ _ ⟨updV vs 23 (.bool true), (by simp [updV, v16, v22]), hM0.still HLD HST 23 (by decide) (by decide) hl _ hdp ((e _ _).2 rfl)⟩
      · simp only [List.getElem?_toArray, List.getElem?_cons_zero, List.getElem?_cons_succ, Option.some.injEq] at ho
        subst ho
        have hMB := hM0.below HLD hi (by decide) hl
        have hMG := hM0.get HLD hi (by decide) hl
        have v23 : vs 23 = .bool true := (k23 _ _).1 (hMG 23 (by decide) (hpre ⟨23, .data⟩ (by simp) rfl))
        obtain ⟨Ag, lg, dg, v20, q20⟩ := (k20 _ _).1 (hMG 20 (by decide) (hpre ⟨20, .chain⟩ (by simp) rfl))
        have hdp : ∀ e ∈ dep 24, l.getD e false = true := by rw [d24]; exact (dep_cons (hpre ⟨23, .data⟩ (by simp) rfl) (dep_cons (hpre ⟨20, .chain⟩ (by simp) rfl) dep_nil))
        have e := k24
        clear k0 k1 k2 k3 k4 k5 k6 k7 k8 k9 k10 k11 k12 k13 k14 k15 k16 k17 k18 k19 k20 k21 k22 k23 k24 d0 d1 d2 d3 d4 d5 d6 d7 d8 d9 d10 d11 d12 d13 d14 d15 d16 d17 d18 d19 d20 d21 d22 d23 d24 hst st0 st1 st2 st3 st4 st5 st6 st7 st8 st9 st10 st11 st12 st13 st14 st15 st16 st17 st18 st19 st20 st21 st22 st23 st24
        rw [v23, v20]
        go_simp
        exact hK.out _ _ ⟨updV vs 24 (.bool true), (by simp [updV, v23, v20]), hM0.still HLD HST 24 (by decide) (by decide) hl _ hdp ((e _ _).2 rfl)⟩
    case fin =>
      rintro l a W14 hall ⟨vs14, rfl, hM0⟩
      obtain ⟨hMB, hMG⟩ := hM0.fin0 (by decide) hall
      have HBW := hide hMB
      have v24 : vs14 24 = .bool true := (k24 _ _).1 (hMG 24 (by decide))
      rw [v24]
      clear k0 k1 k2 k3 k4 k5 k6 k7 k8 k9 k10 k11 k12 k13 k14 k15 k16 k17 k18 k19 k20 k21 k22 k23 k24 d0 d1 d2 d3 d4 d5 d6 d7 d8 d9 d10 d11 d12 d13 d14 d15 d16 d17 d18 d19 d20 d21 d22 d23 d24 hst st0 st1 st2 st3 st4 st5 st6 st7 st8 st9 st10 st11 st12 st13 st14 st15 st16 st17 st18 st19 st20 st21 st22 st23 st24 HLD HST hMG v24 hMB hall hM0 st
      go_wp2_with fail
      go_ret
      exact ⟨rfl, step HB1.out (step HBD.out HBW.out)⟩
  · have hnil : L = [] := by rw [← HL.out]; unfold widColsL; rw [if_neg hq]
    have hl0 : L.length = 0 := by rw [hnil]; rfl
    have hw0 : wz = 0 := by rw [← HWZ.out, HL.out, hnil]; exact wideG_nil _
    subst hw0
    rw [hl0]
    clear hnil
    cases hok : tblOk t with
    | false =>
      rw [hok] at hO6
      clear hok hq
      go_wp2_with fail
      refine hO6.mono ?_
      rintro e W7 ⟨rfl, hb7⟩
      have HB7 := hide (step HB6.out hb7)
      have hPW := laws_pwOk W7 (HCB.out W7 HB7.out).1
      clear hb7 hO6 g0 g1 g2 g3 g4
      go_wp2_with fail
      refine hPW.mono ?_
      rintro e W8 ⟨rfl, hb8⟩
      go_wp2_with fail
      go_ret
      exact ⟨rfl, step HB1.out (step HB7.out hb8)⟩
    | true =>
      rw [hok] at hO6
      have hdef : wd < 0 ∨ (¬ wd < 0 ∧ 300 < wd) := by
        by_cases h1 : wd < 0
        · exact .inl h1
        · refine .inr ⟨h1, ?_⟩
          refine Classical.byContradiction fun h2 => hq ⟨hok, by omega, by omega⟩
      clear hok hq
      rcases hdef with h1 | ⟨h1, h2⟩
      · go_wp2_with fail
        refine hO6.mono ?_
        rintro e W7 ⟨rfl, hb7⟩
        have HB7 := hide (step HB6.out hb7)
        have hPW := laws_pwOk W7 (HCB.out W7 HB7.out).1
        clear hb7 hO6 g0 g1 g2 g3 g4
        go_wp2_with fail
        refine hPW.mono ?_
        rintro e W8 ⟨rfl, hb8⟩
        go_wp2_with fail
        go_ret
        exact ⟨rfl, step HB1.out (step HB7.out hb8)⟩
      · have h3 : wd > 300 := h2
        go_wp2_with fail
        refine hO6.mono ?_
        rintro e W7 ⟨rfl, hb7⟩
        have HB7 := hide (step HB6.out hb7)
        have hPW := laws_pwOk W7 (HCB.out W7 HB7.out).1
        clear hb7 hO6 g0 g1 g2 g3 g4
        go_wp2_with fail
        refine hPW.mono ?_
        rintro e W8 ⟨rfl, hb8⟩
        go_wp2_with fail
        go_ret
        exact ⟨rfl, step HB1.out (step HB7.out hb8)⟩
end Go.Proofs.YtpfagdmmhgcmnaaGreatDoor
