import Derived.Test.YtpfagdmmhgcmnaaGreatDoorMixWe
import Derived.Test.YtpfagdmmhgcmnaaGreatDoorMixWg
import Derived.Test.YtpfagdmmhgcmnaaGreatDoorMixG1
import Derived.Deep.CutRange
import Derived.Test.YtpfagdmmhgcmnaaGreatDoorMixKt
import Derived.Test.YtpfagdmmhgcmnaaGreatDoorMixTj
import Derived.OpenShut
import Derived.ChangeSlices
set_option linter.unusedVariables false
set_option linter.unusedSimpArgs false
namespace Go.Proofs.YtpfagdmmhgcmnaaGreatDoor
open Go.RowKit
set_option maxRecDepth 100000 in
set_option maxHeartbeats 8000000 in
theorem spec_WidCols (t : Tbl) (A : Option Addr) (c : Nat) (A' : Option Addr) (c' : Nat) (width : Int) (w : World) (hc : Rd colR w A t.cols) (hr : Rd rowR w A' t.rows) {k : Nat} (hy : GoodRows t k) :
  Calls Tryz.prog 43 #[.agg #[.slice A t.cols.length c, .int .i64 t.head, .int .i64 t.foot, .slice A' t.rows.length c', .int .i64 t.gap], .int .i64 width] w fun e w' => ∃ v, e = .returned v ∧ IOwn w' w.heap.size v (widColsL 90 t width) ∧ Below w.heap.size w w' := by
 have hT := fun (W : World) (h : Below w.heap.size w W) => spec_TblOk t A c A' c' W (hc.below h) (hr.below h)
 have hI := fun (W : World) => spec_l1In width 0 300 W
 by_cases hq : tblOk t = true ∧ 0 ≤ width ∧ width ≤ 300
 ·
  obtain ⟨hok, hwd⟩ := hq
  have hb1 : inB width 0 300 = true := by simp [inB]; omega
  rw [hb1] at hI
  have hG := fun (W : World) (h : Below w.heap.size w W) => spec_l3Of t A c A' c' W hok (hc.below h) (hr.below h)
  rw [hok] at hT
  obtain ⟨n, hn, hn1, hcell, hcl⟩ := grid_need hok hy 90 leastT_in
  obtain ⟨n', hn', _, hcell2, _⟩ := grid_need hok hy 90 wishT_in
  have hnn : n = n' := by omega
  subst hnn
  have hle := grid_cols_le 90 t
  have hsm : Hid (∀ x ∈ (gridL 90 t).1, GSm x) := (GIn.rows (m := 90) hok).sm (by omega)
  have hres : Hid (widColsL 90 t width = widths (kindT t) (numT t) width t.gap (leastL t (gridL 90 t).1 n) (wishL t (gridL 90 t).1 n)) := by show widColsL 90 t width = _; unfold widColsL; rw [if_pos ⟨hok, hwd⟩, hn]; rfl
  rw [hres.out]
  rw [hn] at hG hle
  have hL := fun (W : World) (h : Below w.heap.size w W) GA gc hg => spec_l6Cols t A c A' c' t.rows.length n (gridL 90 t).1 GA gc width W hok (hc.below h) (hr.below h) hg hn1 hcell hcell2 (by omega) hwd
  clear hok hc hr hres hy hn hcell hcell2 hcl hn' hle hb1
  generalize gridL 90 t = GG at hG hL hsm ⊢
  obtain ⟨GL, GN⟩ := GG
  dsimp only at hG hL hsm ⊢
  generalize widths (kindT t) (numT t) width t.gap (leastL t GL n) (wishL t GL n) = ZZ at hL ⊢
  go_enter Tryz.func43, Tryz.ntmps43
  go_wp2_with fail
  refine (hT _ (balloc (brefl _) _)).mono ?_
  rintro e w1 ⟨rfl, hb⟩
  obtain ⟨c0, f0, s0⟩ := seenBk w.heap.size (by first | (simp; omega) | simp [*]) hb
  have HB := hide (step (balloc (brefl w) _) hb)
  clear hT
  go_upto_region 3 with (go_at_call 58; refine (hI _).mono ?_; rintro e w' ⟨rfl, rfl⟩)
  go_region_with (first
   | (go_at_call 57; refine (hG _ ?_).mono ?_; (first | exact HB.out | exact bdrew HB.out | exact bdrew (bdrew HB.out)); rintro e w2 ⟨GA, gc, rfl, hown, hb2⟩; obtain ⟨c2, f2, s2⟩ := seenBk w.heap.size (by first | (simp; omega) | simp [*]) hb2; have hrd := grd_rd hown hsm.out)
   | (go_at_call 95; refine (hL _ ?_ GA gc ?_).mono ?_; (first | exact step HB.out hb2 | exact step (bdrew HB.out) hb2 | exact bdrew (step HB.out hb2) | exact bdrew (step (bdrew HB.out) hb2)); (first | exact hrd | exact hrd.below (bdrew (brefl _))); rintro e w3 ⟨v, rfl, hI3, hb3⟩))
  all_goals
   have hsz : w.heap.size ≤ w2.heap.size := Nat.le_trans HB.out.size hb2.size
   go_wp2_with fail
   go_ret
   refine ⟨_, rfl, ?_, ?_⟩
   ·
    first
     | exact hI3.base hsz
     | exact (hI3.base hsz).below (bdrew (brefl _))
   ·
    (repeat' (with_reducible first | exact HB.out | refine bdrew ?_ | refine step ?_ (by with_reducible assumption)))
 ·
  have hres : widColsL 90 t width = [] := by unfold widColsL; rw [if_neg hq]
  rw [hres]
  have hdef : tblOk t = false ∨ (tblOk t = true ∧ inB width 0 300 = false) := by
   cases hok : tblOk t with
   | false => exact .inl rfl
   | true =>
    refine .inr ⟨rfl, ?_⟩
    rw [Bool.eq_false_iff]
    intro h8
    simp [inB] at h8
    exact hq ⟨hok, by omega, by omega⟩
  clear hres hc hr hy hq
  rcases hdef with hok | ⟨hok, hb1⟩
  ·
   rw [hok] at hT
   clear hok
   go_enter Tryz.func43, Tryz.ntmps43
   go_wp2_with fail
   refine (hT _ (balloc (brefl _) _)).mono ?_
   rintro e w1 ⟨rfl, hb⟩
   have hm1 : IOwn (w1.alloc (.cells #[] 3)) w1.heap.size (.slice (some ⟨w1.heap.size, 0, none⟩) 0 0) [] := World.ownsRow_made w1 #[] 0 (Nat.le_refl _) (Nat.zero_le _) (by simp)
   have HM := hide (hm1.base (base' := w.heap.size) (by have := hb.size; simp at this; omega))
   have HB := hide (step (balloc (brefl w) _) hb)
   clear hm1 hb hT
   go_wp2_with fail
   go_ret
   exact ⟨_, rfl, HM.out, balloc HB.out _⟩
  ·
   rw [hok] at hT
   rw [hb1] at hI
   clear hok hb1
   go_enter Tryz.func43, Tryz.ntmps43
   go_wp2_with fail
   refine (hT _ (balloc (brefl _) _)).mono ?_
   rintro e w1 ⟨rfl, hb⟩
   have hm1 : IOwn (w1.alloc (.cells #[] 3)) w1.heap.size (.slice (some ⟨w1.heap.size, 0, none⟩) 0 0) [] := World.ownsRow_made w1 #[] 0 (Nat.le_refl _) (Nat.zero_le _) (by simp)
   have HM := hide (hm1.base (base' := w.heap.size) (by have := hb.size; simp at this; omega))
   have HB := hide (step (balloc (brefl w) _) hb)
   clear hm1 hb hT
   go_wp2_with (go_at_call 58; refine (hI _).mono ?_; rintro e w' ⟨rfl, rfl⟩)
   go_ret
   exact ⟨_, rfl, HM.out, balloc HB.out _⟩
set_option maxRecDepth 100000 in
set_option maxHeartbeats 40000000 in
theorem spec_WidTable (t : Tbl) (A : Option Addr) (c : Nat) (A' : Option Addr) (c' : Nat) (width : Int) (w : World) (hc : Rd colR w A t.cols) (hr : Rd rowR w A' t.rows) {k : Nat} (hy : GoodRows t k) :
  Calls Tryz.prog 45 #[.agg #[.slice A t.cols.length c, .int .i64 t.head, .int .i64 t.foot, .slice A' t.rows.length c', .int .i64 t.gap], .int .i64 width] w fun e w' => e = .returned (.int .i64 (wideG t.gap (widColsL 400 t width))) ∧ Below w.heap.size w w' := by
 have hT := fun (W : World) (h : Below w.heap.size w W) => spec_TblOk t A c A' c' W (hc.below h) (hr.below h)
 have hI := fun (W : World) => spec_l1In width 0 300 W
 by_cases hq : tblOk t = true ∧ 0 ≤ width ∧ width ≤ 300
 ·
  obtain ⟨hok, hwd⟩ := hq
  have hb1 : inB width 0 300 = true := by simp [inB]; omega
  rw [hb1] at hI
  have hG := fun (W : World) (h : Below w.heap.size w W) => spec_l3Of t A c A' c' W hok (hc.below h) (hr.below h)
  rw [hok] at hT
  obtain ⟨n, hn, hn1, hcell, hcl⟩ := grid_need hok hy 90 leastT_in
  obtain ⟨n', hn', _, hcell2, _⟩ := grid_need hok hy 90 wishT_in
  have hnn : n = n' := by omega
  subst hnn
  have hsm : Hid (∀ x ∈ (gridL 90 t).1, GSm x) := (GIn.rows (m := 90) hok).sm (by omega)
  have hres : widths (kindT t) (numT t) width t.gap (leastL t (gridL 90 t).1 n) (wishL t (gridL 90 t).1 n) = widColsL 400 t width := by rw [← widCols_two hy]; unfold widColsL; rw [if_pos ⟨hok, hwd⟩, hn]; rfl
  obtain ⟨n9, e9, _, _, _, _, hzl, hzb, _⟩ := widCols_ok hok hy hwd
  have hn9 : n9 = n := by rw [grid_one hok hy] at e9; omega
  subst hn9
  rw [hn] at hG
  have hL := fun (W : World) (h : Below w.heap.size w W) GA gc hg => spec_l6Cols t A c A' c' t.rows.length n9 (gridL 90 t).1 GA gc width W hok (hc.below h) (hr.below h) hg hn1 hcell hcell2 (by omega) hwd
  have hg := (tblOk_parts hok).2.2.1
  rw [hres] at hL
  clear hok hc hr hres hy hn hcell hcell2 hcl hn' hb1 e9
  generalize gridL 90 t = GG at hG hL hsm
  obtain ⟨GL, GN⟩ := GG
  dsimp only at hG hL hsm
  generalize widColsL 400 t width = ZZ at hL hzl hzb ⊢
  have hGP := fun (W : World) GA gc => spec_l5Gaps t A c A' c' t.rows.length n9 GL.length GA gc W ⟨hn1.1, by omega⟩ hg
  have hwz : wideG t.gap ZZ = sumI ZZ + t.gap * ((n9 : Int) - 1) := by unfold wideG; rw [hzl, show max ((n9 : Int) - 1) 0 = (n9 : Int) - 1 by omega]
  obtain ⟨s1, s2⟩ := sum_le 300 ZZ hzb
  obtain ⟨sx, hsx⟩ : ∃ sx, sumI ZZ = sx := ⟨_, rfl⟩
  obtain ⟨gp, hgp⟩ : ∃ gp, t.gap * ((n9 : Int) - 1) = gp := ⟨_, rfl⟩
  have hgp1 : 0 ≤ gp ∧ gp ≤ 300 := by
   have hm := Int.mul_nonneg hg.1 (show 0 ≤ (n9 : Int) - 1 by omega)
   have hm2 : t.gap * ((n9 : Int) - 1) ≤ 3 * ((n9 : Int) - 1) := Int.mul_le_mul_of_nonneg_right hg.2 (by omega)
   omega
  rw [hsx, hgp] at hwz
  rw [hgp] at hGP
  rw [hsx] at s1 s2
  have t1 : IntKind.i64.wrap (sx + gp) = sx + gp := by rw [IntKind.wrap_i64]; omega
  have hSM := fun (W : World) A2 d2 (h9 : Rd intR W A2 ZZ) => spec_l1Sum A2 d2 ZZ W h9 (fun x hx => by have := hzb x hx; omega) (by omega)
  rw [hsx, hzl] at hSM
  rw [hwz]
  have HZL := hide hzl
  clear hzb hzl s1 s2 hsx hgp hgp1 hwz
  go_enter Tryz.func45, Tryz.ntmps45
  go_wp2_with fail
  refine (hT _ (balloc (brefl _) _)).mono ?_
  rintro e w1 ⟨rfl, hb⟩
  obtain ⟨c0, f0, s0⟩ := seenBk w.heap.size (by first | (simp; omega) | simp [*]) hb
  have HB := hide (step (balloc (brefl w) (.cells #[.slice A t.cols.length c, .int .i64 t.head, .int .i64 t.foot, .slice A' t.rows.length c', .int .i64 t.gap] 26)) hb)
  have hG1 := hG w1 HB.out
  have HK1 := hide ((BlockAt.new w [.slice A t.cols.length c, .int .i64 t.head, .int .i64 t.foot, .slice A' t.rows.length c', .int .i64 t.gap] 26).keep (hb.block w.heap.size (by simp)))
  clear hT hb hG
  go_wp2_with (go_at_call 58; refine (hI _).mono ?_; rintro e w' ⟨rfl, rfl⟩)
  refine hG1.mono ?_
  rintro e w2 ⟨GA, gc, rfl, hown, hb2⟩
  dsimp only at hown ⊢
  have hrd2 := grd_rd hown hsm.out
  obtain ⟨V, hV⟩ : ∃ V, V = w2.alloc (.cells #[.int .i64 t.rows.length, .int .i64 n9, .slice GA GL.length gc] 35) := ⟨_, rfl⟩
  have eV : Below w2.heap.size w2 V := by rw [hV]; exact balloc (brefl _) _
  have HG2 := hide (hrd2.below eV)
  have HBV := hide (step (step HB.out hb2) eV)
  have hKT := (HK1.out.keep (hb2.block w.heap.size (by omega))).keep (eV.block w.heap.size (by have := hb2.size; omega))
  have hKG : BlockAt V w2.heap.size [.int .i64 t.rows.length, .int .i64 n9, .slice GA GL.length gc] := by rw [hV]; exact BlockAt.new w2 _ _
  have HKT := hide hKT
  have HKG := hide hKG
  have HV := hide hV
  clear hown hrd2 hV eV hKT hKG hb2 hG1 c0 f0
  go_upto_region 4 with fail
  rw [← HV.out]
  clear HV
  have ed := bdrew (brefl V)
  have HBD := hide (bdrew HBV.out)
  have z0 : V.drew.cell? ⟨w.heap.size, 0, none⟩ = some (.slice A t.cols.length c) := keepW ed (HKT.out.1 0 _ rfl)
  have z1 : V.drew.cell? ⟨w.heap.size, 1, none⟩ = some (.int .i64 t.head) := keepW ed (HKT.out.1 1 _ rfl)
  have z2 : V.drew.cell? ⟨w.heap.size, 2, none⟩ = some (.int .i64 t.foot) := keepW ed (HKT.out.1 2 _ rfl)
  have z3 : V.drew.cell? ⟨w.heap.size, 3, none⟩ = some (.slice A' t.rows.length c') := keepW ed (HKT.out.1 3 _ rfl)
  have z4 : V.drew.cell? ⟨w.heap.size, 4, none⟩ = some (.int .i64 t.gap) := keepW ed (HKT.out.1 4 _ rfl)
  have y0 : V.drew.cell? ⟨w2.heap.size, 0, none⟩ = some (.int .i64 t.rows.length) := keepW ed (HKG.out.1 0 _ rfl)
  have y1 : V.drew.cell? ⟨w2.heap.size, 1, none⟩ = some (.int .i64 n9) := keepW ed (HKG.out.1 1 _ rfl)
  have y2 : V.drew.cell? ⟨w2.heap.size, 2, none⟩ = some (.slice GA GL.length gc) := keepW ed (HKG.out.1 2 _ rfl)
  have HLL := hide (fun (W : World) (h : Below V.drew.heap.size V.drew W) => hL W (step HBD.out h) GA gc ((HG2.out.below ed).below h))
  have HGP := hide hGP
  have HSM := hide hSM
  clear hL hGP hSM ed
  obtain ⟨KF, hKF⟩ : ∃ f : Nat → Value → World → Prop, f = (fun j v W => match j with | 0 => v = .agg #[.slice A t.cols.length c, .int .i64 t.head, .int .i64 t.foot, .slice A' t.rows.length c', .int .i64 t.gap] | 1 => v = .agg #[.int .i64 ↑t.rows.length, .int .i64 ↑n9, .slice GA GL.length gc] | 2 => v = .int .i64 width | 3 => ∃ Aq dq, v = .slice Aq n9 dq ∧ Rd intR W Aq ZZ | 4 => v = .int .i64 sx | 5 => v = .agg #[.slice A t.cols.length c, .int .i64 t.head, .int .i64 t.foot, .slice A' t.rows.length c', .int .i64 t.gap] | 6 => v = .agg #[.int .i64 ↑t.rows.length, .int .i64 ↑n9, .slice GA GL.length gc] | 7 => v = .int .i64 gp | 8 => v = .int .i64 (sx + gp) | 9 => v = .int .i64 (sx + gp) | _ => True) := ⟨_, rfl⟩
  have k0 : ∀ v W, KF 0 v W ↔ (v = .agg #[.slice A t.cols.length c, .int .i64 t.head, .int .i64 t.foot, .slice A' t.rows.length c', .int .i64 t.gap]) := fun v W => by rw [hKF]; first | done | exact Iff.rfl
  have k1 : ∀ v W, KF 1 v W ↔ (v = .agg #[.int .i64 ↑t.rows.length, .int .i64 ↑n9, .slice GA GL.length gc]) := fun v W => by rw [hKF]; first | done | exact Iff.rfl
  have k2 : ∀ v W, KF 2 v W ↔ (v = .int .i64 width) := fun v W => by rw [hKF]; first | done | exact Iff.rfl
  have k3 : ∀ v W, KF 3 v W ↔ (∃ Aq dq, v = .slice Aq n9 dq ∧ Rd intR W Aq ZZ) := fun v W => by rw [hKF]; first | done | exact Iff.rfl
  have k4 : ∀ v W, KF 4 v W ↔ (v = .int .i64 sx) := fun v W => by rw [hKF]; first | done | exact Iff.rfl
  have k5 : ∀ v W, KF 5 v W ↔ (v = .agg #[.slice A t.cols.length c, .int .i64 t.head, .int .i64 t.foot, .slice A' t.rows.length c', .int .i64 t.gap]) := fun v W => by rw [hKF]; first | done | exact Iff.rfl
  have k6 : ∀ v W, KF 6 v W ↔ (v = .agg #[.int .i64 ↑t.rows.length, .int .i64 ↑n9, .slice GA GL.length gc]) := fun v W => by rw [hKF]; first | done | exact Iff.rfl
  have k7 : ∀ v W, KF 7 v W ↔ (v = .int .i64 gp) := fun v W => by rw [hKF]; first | done | exact Iff.rfl
  have k8 : ∀ v W, KF 8 v W ↔ (v = .int .i64 (sx + gp)) := fun v W => by rw [hKF]; first | done | exact Iff.rfl
  have k9 : ∀ v W, KF 9 v W ↔ (v = .int .i64 (sx + gp)) := fun v W => by rw [hKF]; first | done | exact Iff.rfl
  have HST : StableP KF := by
   rw [hKF]
   intro j v W W9 h hb
   by_cases hjn : j < 10
   ·
    obtain rfl | rfl | rfl | rfl | rfl | rfl | rfl | rfl | rfl | rfl : j = 0 ∨ j = 1 ∨ j = 2 ∨ j = 3 ∨ j = 4 ∨ j = 5 ∨ j = 6 ∨ j = 7 ∨ j = 8 ∨ j = 9 := by omega
    ·
     exact h
    ·
     exact h
    ·
     exact h
    ·
     obtain ⟨Aq, dq, hv, h⟩ := h
     exact ⟨Aq, dq, hv, h.below hb⟩
    ·
     exact h
    ·
     exact h
    ·
     exact h
    ·
     exact h
    ·
     exact h
    ·
     exact h
   ·
    match j, h with
    | 0, h => exact absurd (by decide) hjn
    | 1, h => exact absurd (by decide) hjn
    | 2, h => exact absurd (by decide) hjn
    | 3, h => exact absurd (by decide) hjn
    | 4, h => exact absurd (by decide) hjn
    | 5, h => exact absurd (by decide) hjn
    | 6, h => exact absurd (by decide) hjn
    | 7, h => exact absurd (by decide) hjn
    | 8, h => exact absurd (by decide) hjn
    | 9, h => exact absurd (by decide) hjn
    | _ + 10, h => exact h
  clear hKF
  obtain ⟨dep, hdep⟩ : ∃ f : Nat → List Nat, f = (fun j => match j with | 3 => [0, 1, 2] | 4 => [3] | 7 => [5, 6, 4] | 8 => [4, 7] | 9 => [8, 7] | _ => []) := ⟨_, rfl⟩
  have d0 : dep 0 = [] := congrFun hdep 0
  have d1 : dep 1 = [] := congrFun hdep 1
  have d2 : dep 2 = [] := congrFun hdep 2
  have d3 : dep 3 = [0, 1, 2] := congrFun hdep 3
  have d4 : dep 4 = [3] := congrFun hdep 4
  have d5 : dep 5 = [] := congrFun hdep 5
  have d6 : dep 6 = [] := congrFun hdep 6
  have d7 : dep 7 = [5, 6, 4] := congrFun hdep 7
  have d8 : dep 8 = [4, 7] := congrFun hdep 8
  have d9 : dep 9 = [8, 7] := congrFun hdep 9
  clear hdep
  have HLD : LastP 10 10 dep := lastP_none (by decide)
  obtain ⟨st, hst⟩ : ∃ f : Nat → Value, f = (fun j => match j with | 0 => undef | 1 => undef | 2 => undef | 3 => undef | 4 => undef | 5 => undef | 6 => undef | 7 => undef | 8 => undef | 9 => .int .i64 0 | _ => undef) := ⟨_, rfl⟩
  have st0 : st 0 = undef := congrFun hst 0
  have st1 : st 1 = undef := congrFun hst 1
  have st2 : st 2 = undef := congrFun hst 2
  have st3 : st 3 = undef := congrFun hst 3
  have st4 : st 4 = undef := congrFun hst 4
  have st5 : st 5 = undef := congrFun hst 5
  have st6 : st 6 = undef := congrFun hst 6
  have st7 : st 7 = undef := congrFun hst 7
  have st8 : st 8 = undef := congrFun hst 8
  have st9 : st 9 = .int .i64 0 := congrFun hst 9
  refine wp_region_inv (fun l a W => ∃ vs : Nat → Value, a = ⟨List.toArray (.agg #[.slice A t.cols.length c, .int .i64 t.head, .int .i64 t.foot, .slice A' t.rows.length c', .int .i64 t.gap] :: .int .i64 width :: .pointer (some ⟨w.heap.size, 0, none⟩) :: undef :: vs 9 :: .pointer (some ⟨w2.heap.size, 0, none⟩) :: .agg #[.slice A t.cols.length c, .int .i64 t.head, .int .i64 t.foot, .slice A' t.rows.length c', .int .i64 t.gap] :: .bool true :: .bool false :: .bool false :: .int .i64 width :: .bool true :: .bool false :: .bool false :: .agg #[.slice A t.cols.length c, .int .i64 t.head, .int .i64 t.foot, .slice A' t.rows.length c', .int .i64 t.gap] :: .agg #[.int .i64 ↑t.rows.length, .int .i64 ↑n9, .slice GA GL.length gc] :: vs 0 :: vs 1 :: vs 2 :: vs 3 :: vs 4 :: vs 5 :: vs 6 :: vs 7 :: vs 8 :: []), []⟩ ∧ PMid KF 10 10 dep (V.drew) (fun _ _ _ => True) st l vs W) (by kernel_rfl) ?top ?start ?step ?fin
  case top =>
   clear k0 k1 k2 k3 k4 k5 k6 k7 k8 k9 d0 d1 d2 d3 d4 d5 d6 d7 d8 d9 hst st0 st1 st2 st3 st4 st5 st6 st7 st8 st9
   intro j o ho e he
   have hj : j < 10 := (Array.getElem?_eq_some_iff.1 ho).1
   have hA : (o.after.all fun e => decide (e.on < j)) = true := by
    obtain rfl | rfl | rfl | rfl | rfl | rfl | rfl | rfl | rfl | rfl : j = 0 ∨ j = 1 ∨ j = 2 ∨ j = 3 ∨ j = 4 ∨ j = 5 ∨ j = 6 ∨ j = 7 ∨ j = 8 ∨ j = 9 := by omega
    all_goals
     simp only [List.getElem?_toArray, List.getElem?_cons_zero, List.getElem?_cons_succ, Option.some.injEq] at ho
     subst ho
     first | decide | kernel_rfl | simp
   simpa using Array.all_eq_true'.1 hA e he
  case start => exact ⟨st, by rw [hst]; first | done | rfl, PMid.start⟩
  case step =>
   rintro l a W i o ho hl hpre hsz ⟨vs, rfl, hM0⟩ K hK
   have hi : i < 10 := (Array.getElem?_eq_some_iff.1 ho).1
   obtain rfl | rfl | rfl | rfl | rfl | rfl | rfl | rfl | rfl | rfl : i = 0 ∨ i = 1 ∨ i = 2 ∨ i = 3 ∨ i = 4 ∨ i = 5 ∨ i = 6 ∨ i = 7 ∨ i = 8 ∨ i = 9 := by omega
   ·
    simp only [List.getElem?_toArray, List.getElem?_cons_zero, List.getElem?_cons_succ, Option.some.injEq] at ho
    subst ho
    have hMB := hM0.below HLD hi (by decide) hl
    have hMG := hM0.get HLD hi (by decide) hl
    have hdp : ∀ e ∈ dep 0, l.getD e false = true := by rw [d0]; exact dep_nil
    have e := k0
    clear k0 k1 k2 k3 k4 k5 k6 k7 k8 k9 d0 d1 d2 d3 d4 d5 d6 d7 d8 d9 hst st0 st1 st2 st3 st4 st5 st6 st7 st8 st9
    have x0 := keepW hMB z0
    have x1 := keepW hMB z1
    have x2 := keepW hMB z2
    have x3 := keepW hMB z3
    have x4 := keepW hMB z4
    go_simp
    exact hK.out _ _ ⟨updV vs 0 (.agg #[.slice A t.cols.length c, .int .i64 t.head, .int .i64 t.foot, .slice A' t.rows.length c', .int .i64 t.gap]), rfl, hM0.still HLD HST 0 (by decide) (by decide) hl _ hdp ((e _ _).2 rfl)⟩
   ·
    simp only [List.getElem?_toArray, List.getElem?_cons_zero, List.getElem?_cons_succ, Option.some.injEq] at ho
    subst ho
    have hMB := hM0.below HLD hi (by decide) hl
    have hMG := hM0.get HLD hi (by decide) hl
    have hdp : ∀ e ∈ dep 1, l.getD e false = true := by rw [d1]; exact dep_nil
    have e := k1
    clear k0 k1 k2 k3 k4 k5 k6 k7 k8 k9 d0 d1 d2 d3 d4 d5 d6 d7 d8 d9 hst st0 st1 st2 st3 st4 st5 st6 st7 st8 st9
    have x0 := keepW hMB y0
    have x1 := keepW hMB y1
    have x2 := keepW hMB y2
    go_simp
    exact hK.out _ _ ⟨updV vs 1 (.agg #[.int .i64 ↑t.rows.length, .int .i64 ↑n9, .slice GA GL.length gc]), rfl, hM0.still HLD HST 1 (by decide) (by decide) hl _ hdp ((e _ _).2 rfl)⟩
   ·
    simp only [List.getElem?_toArray, List.getElem?_cons_zero, List.getElem?_cons_succ, Option.some.injEq] at ho
    subst ho
    have hMB := hM0.below HLD hi (by decide) hl
    have hMG := hM0.get HLD hi (by decide) hl
    have hdp : ∀ e ∈ dep 2, l.getD e false = true := by rw [d2]; exact dep_nil
    have e := k2
    clear k0 k1 k2 k3 k4 k5 k6 k7 k8 k9 d0 d1 d2 d3 d4 d5 d6 d7 d8 d9 hst st0 st1 st2 st3 st4 st5 st6 st7 st8 st9
    go_simp
    exact hK.out _ _ ⟨updV vs 2 (.int .i64 width), rfl, hM0.still HLD HST 2 (by decide) (by decide) hl _ hdp ((e _ _).2 rfl)⟩
   ·
    simp only [List.getElem?_toArray, List.getElem?_cons_zero, List.getElem?_cons_succ, Option.some.injEq] at ho
    subst ho
    have hMB := hM0.below HLD hi (by decide) hl
    have hMG := hM0.get HLD hi (by decide) hl
    have v0 : vs 0 = .agg #[.slice A t.cols.length c, .int .i64 t.head, .int .i64 t.foot, .slice A' t.rows.length c', .int .i64 t.gap] := (k0 _ _).1 (hMG 0 (by decide) (hpre ⟨0, .data⟩ (by simp) rfl))
    have v1 : vs 1 = .agg #[.int .i64 ↑t.rows.length, .int .i64 ↑n9, .slice GA GL.length gc] := (k1 _ _).1 (hMG 1 (by decide) (hpre ⟨1, .data⟩ (by simp) rfl))
    have v2 : vs 2 = .int .i64 width := (k2 _ _).1 (hMG 2 (by decide) (hpre ⟨2, .data⟩ (by simp) rfl))
    have hdp : ∀ e ∈ dep 3, l.getD e false = true := by rw [d3]; exact (dep_cons (hpre ⟨0, .data⟩ (by simp) rfl) (dep_cons (hpre ⟨1, .data⟩ (by simp) rfl) (dep_cons (hpre ⟨2, .data⟩ (by simp) rfl) dep_nil)))
    have e := k3
    clear k0 k1 k2 k3 k4 k5 k6 k7 k8 k9 d0 d1 d2 d3 d4 d5 d6 d7 d8 d9 hst st0 st1 st2 st3 st4 st5 st6 st7 st8 st9
    rw [v0, v1, v2]
    go_simp
    refine (HLL.out _ hMB).mono ?_
    rintro e5 W5 ⟨v5, rfl, hI5, hb5⟩
    obtain ⟨A5, d5, rfl⟩ := hI5.form
    rw [HZL.out]
    exact hK.out _ _ ⟨updV vs 3 (.slice A5 n9 d5), (by simp [updV, v0, v1, v2]), hM0.next HLD HST 3 (by decide) (by decide) hl _ hdp hb5 ((e _ _).2 ⟨A5, d5, rfl, irow_rd hI5⟩)⟩
   ·
    simp only [List.getElem?_toArray, List.getElem?_cons_zero, List.getElem?_cons_succ, Option.some.injEq] at ho
    subst ho
    have hMB := hM0.below HLD hi (by decide) hl
    have hMG := hM0.get HLD hi (by decide) hl
    obtain ⟨Aq, dq, v3, q3⟩ := (k3 _ _).1 (hMG 3 (by decide) (hpre ⟨3, .data⟩ (by simp) rfl))
    have hdp : ∀ e ∈ dep 4, l.getD e false = true := by rw [d4]; exact (dep_cons (hpre ⟨3, .data⟩ (by simp) rfl) dep_nil)
    have e := k4
    clear k0 k1 k2 k3 k4 k5 k6 k7 k8 k9 d0 d1 d2 d3 d4 d5 d6 d7 d8 d9 hst st0 st1 st2 st3 st4 st5 st6 st7 st8 st9
    rw [v3]
    go_simp
    refine (HSM.out _ Aq dq q3).mono ?_
    rintro e5 W5 ⟨rfl, hq⟩
    exact hK.out _ _ ⟨updV vs 4 (.int .i64 sx), (by simp [updV, v3]), hM0.next HLD HST 4 (by decide) (by decide) hl _ hdp (by rw [hq]; exact brefl _) ((e _ _).2 rfl)⟩
   ·
    simp only [List.getElem?_toArray, List.getElem?_cons_zero, List.getElem?_cons_succ, Option.some.injEq] at ho
    subst ho
    have hMB := hM0.below HLD hi (by decide) hl
    have hMG := hM0.get HLD hi (by decide) hl
    have hdp : ∀ e ∈ dep 5, l.getD e false = true := by rw [d5]; exact dep_nil
    have e := k5
    clear k0 k1 k2 k3 k4 k5 k6 k7 k8 k9 d0 d1 d2 d3 d4 d5 d6 d7 d8 d9 hst st0 st1 st2 st3 st4 st5 st6 st7 st8 st9
    have x0 := keepW hMB z0
    have x1 := keepW hMB z1
    have x2 := keepW hMB z2
    have x3 := keepW hMB z3
    have x4 := keepW hMB z4
    go_simp
    exact hK.out _ _ ⟨updV vs 5 (.agg #[.slice A t.cols.length c, .int .i64 t.head, .int .i64 t.foot, .slice A' t.rows.length c', .int .i64 t.gap]), rfl, hM0.still HLD HST 5 (by decide) (by decide) hl _ hdp ((e _ _).2 rfl)⟩
   ·
    simp only [List.getElem?_toArray, List.getElem?_cons_zero, List.getElem?_cons_succ, Option.some.injEq] at ho
    subst ho
    have hMB := hM0.below HLD hi (by decide) hl
    have hMG := hM0.get HLD hi (by decide) hl
    have hdp : ∀ e ∈ dep 6, l.getD e false = true := by rw [d6]; exact dep_nil
    have e := k6
    clear k0 k1 k2 k3 k4 k5 k6 k7 k8 k9 d0 d1 d2 d3 d4 d5 d6 d7 d8 d9 hst st0 st1 st2 st3 st4 st5 st6 st7 st8 st9
    have x0 := keepW hMB y0
    have x1 := keepW hMB y1
    have x2 := keepW hMB y2
    go_simp
    exact hK.out _ _ ⟨updV vs 6 (.agg #[.int .i64 ↑t.rows.length, .int .i64 ↑n9, .slice GA GL.length gc]), rfl, hM0.still HLD HST 6 (by decide) (by decide) hl _ hdp ((e _ _).2 rfl)⟩
   ·
    simp only [List.getElem?_toArray, List.getElem?_cons_zero, List.getElem?_cons_succ, Option.some.injEq] at ho
    subst ho
    have hMB := hM0.below HLD hi (by decide) hl
    have hMG := hM0.get HLD hi (by decide) hl
    have v5 : vs 5 = .agg #[.slice A t.cols.length c, .int .i64 t.head, .int .i64 t.foot, .slice A' t.rows.length c', .int .i64 t.gap] := (k5 _ _).1 (hMG 5 (by decide) (hpre ⟨5, .data⟩ (by simp) rfl))
    have v6 : vs 6 = .agg #[.int .i64 ↑t.rows.length, .int .i64 ↑n9, .slice GA GL.length gc] := (k6 _ _).1 (hMG 6 (by decide) (hpre ⟨6, .data⟩ (by simp) rfl))
    have v4 : vs 4 = .int .i64 sx := (k4 _ _).1 (hMG 4 (by decide) (hpre ⟨4, .chain⟩ (by simp) rfl))
    have hdp : ∀ e ∈ dep 7, l.getD e false = true := by rw [d7]; exact (dep_cons (hpre ⟨5, .data⟩ (by simp) rfl) (dep_cons (hpre ⟨6, .data⟩ (by simp) rfl) (dep_cons (hpre ⟨4, .chain⟩ (by simp) rfl) dep_nil)))
    have e := k7
    clear k0 k1 k2 k3 k4 k5 k6 k7 k8 k9 d0 d1 d2 d3 d4 d5 d6 d7 d8 d9 hst st0 st1 st2 st3 st4 st5 st6 st7 st8 st9
    rw [v5, v6, v4]
    go_simp
    refine (HGP.out _ GA gc).mono ?_
    rintro e5 W5 ⟨rfl, hb5⟩
    exact hK.out _ _ ⟨updV vs 7 (.int .i64 gp), (by simp [updV, v5, v6, v4]), hM0.next HLD HST 7 (by decide) (by decide) hl _ hdp hb5 ((e _ _).2 rfl)⟩
   ·
    simp only [List.getElem?_toArray, List.getElem?_cons_zero, List.getElem?_cons_succ, Option.some.injEq] at ho
    subst ho
    have hMB := hM0.below HLD hi (by decide) hl
    have hMG := hM0.get HLD hi (by decide) hl
    have v4 : vs 4 = .int .i64 sx := (k4 _ _).1 (hMG 4 (by decide) (hpre ⟨4, .data⟩ (by simp) rfl))
    have v7 : vs 7 = .int .i64 gp := (k7 _ _).1 (hMG 7 (by decide) (hpre ⟨7, .data⟩ (by simp) rfl))
    have hdp : ∀ e ∈ dep 8, l.getD e false = true := by rw [d8]; exact (dep_cons (hpre ⟨4, .data⟩ (by simp) rfl) (dep_cons (hpre ⟨7, .data⟩ (by simp) rfl) dep_nil))
    have e := k8
    clear k0 k1 k2 k3 k4 k5 k6 k7 k8 k9 d0 d1 d2 d3 d4 d5 d6 d7 d8 d9 hst st0 st1 st2 st3 st4 st5 st6 st7 st8 st9
    rw [v4, v7]
    go_simp
    exact hK.out _ _ ⟨updV vs 8 (.int .i64 (sx + gp)), (by simp [updV, v4, v7]), hM0.still HLD HST 8 (by decide) (by decide) hl _ hdp ((e _ _).2 rfl)⟩
   ·
    simp only [List.getElem?_toArray, List.getElem?_cons_zero, List.getElem?_cons_succ, Option.some.injEq] at ho
    subst ho
    have hMB := hM0.below HLD hi (by decide) hl
    have hMG := hM0.get HLD hi (by decide) hl
    have v8 : vs 8 = .int .i64 (sx + gp) := (k8 _ _).1 (hMG 8 (by decide) (hpre ⟨8, .data⟩ (by simp) rfl))
    have v7 : vs 7 = .int .i64 gp := (k7 _ _).1 (hMG 7 (by decide) (hpre ⟨7, .chain⟩ (by simp) rfl))
    have hdp : ∀ e ∈ dep 9, l.getD e false = true := by rw [d9]; exact (dep_cons (hpre ⟨8, .data⟩ (by simp) rfl) (dep_cons (hpre ⟨7, .chain⟩ (by simp) rfl) dep_nil))
    have e := k9
    clear k0 k1 k2 k3 k4 k5 k6 k7 k8 k9 d0 d1 d2 d3 d4 d5 d6 d7 d8 d9 hst st0 st1 st2 st3 st4 st5 st6 st7 st8 st9
    rw [v8, v7]
    go_simp
    exact hK.out _ _ ⟨updV vs 9 (.int .i64 (sx + gp)), (by simp [updV, v8, v7]), hM0.still HLD HST 9 (by decide) (by decide) hl _ hdp ((e _ _).2 rfl)⟩
  case fin =>
   rintro l a W4 hall ⟨vs4, rfl, hM0⟩
   obtain ⟨hMB, hMG⟩ := hM0.fin0 (by decide) hall
   have HBW := hide hMB
   have v9 : vs4 9 = .int .i64 (sx + gp) := (k9 _ _).1 (hMG 9 (by decide))
   rw [v9]
   clear k0 k1 k2 k3 k4 k5 k6 k7 k8 k9 d0 d1 d2 d3 d4 d5 d6 d7 d8 d9 hst st0 st1 st2 st3 st4 st5 st6 st7 st8 st9 HLD HST hMG v9 hMB hall hM0 st
   go_wp2_with fail
   go_ret
   exact ⟨rfl, step HBD.out HBW.out⟩
 ·
  have hres : widColsL 400 t width = [] := by unfold widColsL; rw [if_neg hq]
  rw [hres, wideG_nil]
  have hdef : tblOk t = false ∨ (tblOk t = true ∧ inB width 0 300 = false) := by
   cases hok : tblOk t with
   | false => exact .inl rfl
   | true =>
    refine .inr ⟨rfl, ?_⟩
    rw [Bool.eq_false_iff]
    intro h8
    simp [inB] at h8
    exact hq ⟨hok, by omega, by omega⟩
  clear hres hc hr hy hq
  rcases hdef with hok | ⟨hok, hb1⟩
  ·
   rw [hok] at hT
   clear hok
   go_enter Tryz.func45, Tryz.ntmps45
   go_wp2_with fail
   refine (hT _ (balloc (brefl _) _)).mono ?_
   rintro e w1 ⟨rfl, hb⟩
   have HB := hide (step (balloc (brefl w) _) hb)
   clear hb hT
   go_wp2_with fail
   go_ret
   exact ⟨rfl, HB.out⟩
  ·
   rw [hok] at hT
   rw [hb1] at hI
   clear hok hb1
   go_enter Tryz.func45, Tryz.ntmps45
   go_wp2_with fail
   refine (hT _ (balloc (brefl _) _)).mono ?_
   rintro e w1 ⟨rfl, hb⟩
   have HB := hide (step (balloc (brefl w) _) hb)
   clear hb hT
   go_wp2_with (go_at_call 58; refine (hI _).mono ?_; rintro e w' ⟨rfl, rfl⟩)
   go_ret
   exact ⟨rfl, HB.out⟩
end Go.Proofs.YtpfagdmmhgcmnaaGreatDoor

namespace Go.Proofs.YtpfagdmmhgcmnaaGreatDoor
open Go.RowKit
def WidPost (R N : Nat) (w : World) (e : Ending) (w' : World) : Prop := ∃ q : Int, e = .returned (.int .i64 q) ∧ (-1 ≤ q ∧ q ≤ 301) ∧ RdrOk w' R N ∧ w.grownBy w' (some R)
theorem wid_post {R N N' : Nat} {w w' : World} {q : Int} (hq : -1 ≤ q ∧ q ≤ 301) (h : RdrOk w' R N) (hN : N ≤ N') (hg : w.grownBy w' (some R)) : WidPost R N' w (.returned (.int .i64 q)) w' := ⟨q, rfl, hq, h.mono hN, hg⟩
set_option maxRecDepth 100000 in
set_option maxHeartbeats 4000000 in
theorem rdWidth (R N : Nat) (w : World) (h : RdrOk w R N) (hN : N ≤ 900000) : Calls Tryz.prog 131 #[.pointer (some ⟨R, 0, none⟩), .int .i64 16] w (WidPost R (N + 3) w) := by
 have hRl := h.lt
 have HR := hide h
 clear h
 go_enter Tryz.func131, Tryz.ntmps131
 go_wp2_with fail
 refine (pick R _ 16 _ HR.out (by omega) (by decide)).mono ?_
 rintro e W1 ⟨q0, rfl, _, _, hR1, hg1⟩
 have hRl1 := hR1.lt
 by_cases z : q0 = 0
 ·
  subst z
  obtain ⟨V, hV⟩ : ∃ V, V = W1.alloc (.cells #[.int .i64 (-1), .int .i64 301, .int .i64 300] 3) := ⟨_, rfl⟩
  have eV : Below W1.heap.size W1 V := by rw [hV]; exact balloc (brefl _) _
  have hKV : BlockAt V W1.heap.size [.int .i64 (-1), .int .i64 301, .int .i64 300] := by rw [hV]; exact BlockAt.new W1 _ _
  have hzV : V.heap.size = W1.heap.size + 1 := by rw [hV]; simp
  have HRV := hide (hR1.below eV)
  have HGV := hide (grow_trans hg1 (grow_below eV))
  have HKV := hide hKV
  have HV := hide hV
  clear hV eV hKV hR1 hg1
  go_wp2_with fail
  rw [← HV.out]
  refine (pick R _ 3 _ HRV.out (by omega) (by decide)).mono ?_
  rintro e W2 ⟨q, rfl, hq0, hq1, hR2, hg2⟩
  have hq3 := hq1 (by decide)
  have hK2 := HKV.out.keep (grow_blk hg2 (by omega) (by omega))
  have HR2 := hide hR2
  have HG2 := hide (grow_trans HGV.out hg2)
  clear hq1 hR2 hg2
  obtain rfl | rfl | rfl : q = 0 ∨ q = 1 ∨ q = 2 := by omega
  ·
   have c0 := hK2.1 0 _ rfl
   clear hK2
   go_wp2_with fail
   go_ret
   exact wid_post (by omega) HR2.out (by omega) HG2.out
  ·
   have c0 := hK2.1 1 _ rfl
   clear hK2
   go_wp2_with fail
   go_ret
   exact wid_post (by omega) HR2.out (by omega) HG2.out
  ·
   have c0 := hK2.1 2 _ rfl
   clear hK2
   go_wp2_with fail
   go_ret
   exact wid_post (by omega) HR2.out (by omega) HG2.out
 ·
  have e0 : ((q0 : Int) == 0) = false := by simpa using z
  have HR1 := hide hR1
  have HG1 := hide hg1
  clear hR1 hg1
  go_wp2_with fail
  refine (pick R _ 100 _ HR1.out (by omega) (by decide)).mono ?_
  rintro e W2 ⟨y, rfl, hy0, hy1, hR2, hg2⟩
  have hy3 := hy1 (by decide)
  have hRl2 := hR2.lt
  obtain ⟨V, hV⟩ : ∃ V, V = W2.alloc (.cells #[.int .i64 0, .int .i64 10, .int .i64 25, .int .i64 40, .int .i64 60, .int .i64 80, .int .i64 120, .int .i64 y] 3) := ⟨_, rfl⟩
  have eV : Below W2.heap.size W2 V := by rw [hV]; exact balloc (brefl _) _
  have hKV : BlockAt V W2.heap.size [.int .i64 0, .int .i64 10, .int .i64 25, .int .i64 40, .int .i64 60, .int .i64 80, .int .i64 120, .int .i64 y] := by rw [hV]; exact BlockAt.new W2 _ _
  have hzV : V.heap.size = W2.heap.size + 1 := by rw [hV]; simp
  have HRV := hide (hR2.below eV)
  have HGV := hide (grow_trans (grow_trans HG1.out hg2) (grow_below eV))
  have HKV := hide hKV
  have HV := hide hV
  clear hV eV hKV hR2 hg2 hy1 z e0
  go_wp2_with fail
  rw [← HV.out]
  refine (pick R _ 8 _ HRV.out (by omega) (by decide)).mono ?_
  rintro e W3 ⟨q, rfl, hq0, hq1, hR3, hg3⟩
  have hq3 := hq1 (by decide)
  have hK3 := HKV.out.keep (grow_blk hg3 (by omega) (by omega))
  have HR3 := hide hR3
  have HG3 := hide (grow_trans HGV.out hg3)
  clear hq1 hR3 hg3
  obtain rfl | rfl | rfl | rfl | rfl | rfl | rfl | rfl : q = 0 ∨ q = 1 ∨ q = 2 ∨ q = 3 ∨ q = 4 ∨ q = 5 ∨ q = 6 ∨ q = 7 := by omega
  ·
   have c0 := hK3.1 0 _ rfl
   clear hK3
   go_wp2_with fail
   go_ret
   exact wid_post (by omega) HR3.out (by omega) HG3.out
  ·
   have c0 := hK3.1 1 _ rfl
   clear hK3
   go_wp2_with fail
   go_ret
   exact wid_post (by omega) HR3.out (by omega) HG3.out
  ·
   have c0 := hK3.1 2 _ rfl
   clear hK3
   go_wp2_with fail
   go_ret
   exact wid_post (by omega) HR3.out (by omega) HG3.out
  ·
   have c0 := hK3.1 3 _ rfl
   clear hK3
   go_wp2_with fail
   go_ret
   exact wid_post (by omega) HR3.out (by omega) HG3.out
  ·
   have c0 := hK3.1 4 _ rfl
   clear hK3
   go_wp2_with fail
   go_ret
   exact wid_post (by omega) HR3.out (by omega) HG3.out
  ·
   have c0 := hK3.1 5 _ rfl
   clear hK3
   go_wp2_with fail
   go_ret
   exact wid_post (by omega) HR3.out (by omega) HG3.out
  ·
   have c0 := hK3.1 6 _ rfl
   clear hK3
   go_wp2_with fail
   go_ret
   exact wid_post (by omega) HR3.out (by omega) HG3.out
  ·
   have c0 := hK3.1 7 _ rfl
   clear hK3
   go_wp2_with fail
   go_ret
   exact wid_post (by omega) HR3.out (by omega) HG3.out
def LaidPost (R N : Nat) (w : World) (e : Ending) (w' : World) : Prop :=
 ∃ (t : Tbl) (vc vr : Value) (k : Int), e = .returned (.tuple #[.agg #[vc, .int .i64 t.head, .int .i64 t.foot, vr, .int .i64 t.gap], .int .i64 k]) ∧ anyBd t ∧ (-1 ≤ k ∧ k ≤ 301) ∧ RdrOk w' R N ∧ w.grownBy w' (some R) ∧ OwnT w' w.heap.size vc vr t
theorem laid_post {R N N' : Nat} {w W : World} {vc vr : Value} {t : Tbl} {k : Int} (hb : anyBd t) (hk : -1 ≤ k ∧ k ≤ 301) (hR : RdrOk W R N) (hN : N ≤ N') (hg : w.grownBy W (some R)) (ho : OwnT W w.heap.size vc vr t) :
  LaidPost R N' w (.returned (.tuple #[.agg #[vc, .int .i64 t.head, .int .i64 t.foot, vr, .int .i64 t.gap], .int .i64 k])) W := ⟨t, vc, vr, k, rfl, hb, hk, hR.mono hN, hg, ho⟩
end Go.Proofs.YtpfagdmmhgcmnaaGreatDoor

namespace Go.Proofs.YtpfagdmmhgcmnaaGreatDoor
open Go.RowKit
theorem grow_more {w W W' : World} {R B : Nat} (h1 : w.grownBy W (some R)) (h2 : W.grownBy W' (some B)) (hB : w.heap.size ≤ B) : w.grownBy W' (some R) :=
 ⟨h2.os.trans h1.os, h2.tape.trans h1.tape, h2.output.trans h1.output, Nat.le_trans h1.size h2.size, fun k hk hne => (h2.block k (Nat.lt_of_lt_of_le hk h1.size) (fun e => by injection e with e; omega)).trans (h1.block k hk hne)⟩
theorem box5 {W : World} {B : Nat} {a0 a1 a2 a3 a4 : Value} (h : BlockAt W B [a0, a1, a2, a3, a4]) (v0 v1 v2 v3 v4 : Value) :
  BlockAt (((((W.setCell ⟨B, 0, none⟩ v0).setCell ⟨B, 1, none⟩ v1).setCell ⟨B, 2, none⟩ v2).setCell ⟨B, 3, none⟩ v3).setCell ⟨B, 4, none⟩ v4) B [v0, v1, v2, v3, v4] ∧ W.grownBy (((((W.setCell ⟨B, 0, none⟩ v0).setCell ⟨B, 1, none⟩ v1).setCell ⟨B, 2, none⟩ v2).setCell ⟨B, 3, none⟩ v3).setCell ⟨B, 4, none⟩ v4) (some B) := by
 have h0 := h.set (k := 0) (by simp) v0
 have h1 := h0.set (k := 1) (by simp) v1
 have h2 := h1.set (k := 2) (by simp) v2
 have h3 := h2.set (k := 3) (by simp) v3
 have h4 := h3.set (k := 4) (by simp) v4
 exact ⟨by simpa using h4, grow_trans (grow_trans (grow_trans (grow_trans (grow_set _ rfl _) (grow_set _ rfl _)) (grow_set _ rfl _)) (grow_set _ rfl _)) (grow_set _ rfl _)⟩
theorem laid_end {w W : World} {R b0 : Nat} {u : Tbl} {vc vr : Value} {k : Int} (hb : anyBd u) (hk : -1 ≤ k ∧ k ≤ 301) (hR : RdrOk W R 2203) (hg : w.grownBy W (some R)) (ho : OwnT W b0 vc vr u) (hb0 : b0 = w.heap.size + 1) (hRl : R < w.heap.size) (v0 v1 v2 v3 v4 : Value) :
  LaidPost R 3000 w (.returned (.tuple #[.agg #[vc, .int .i64 u.head, .int .i64 u.foot, vr, .int .i64 u.gap], .int .i64 k])) (((((W.setCell ⟨w.heap.size, 0, none⟩ v0).setCell ⟨w.heap.size, 1, none⟩ v1).setCell ⟨w.heap.size, 2, none⟩ v2).setCell ⟨w.heap.size, 3, none⟩ v3).setCell ⟨w.heap.size, 4, none⟩ v4) := by
 have g5 : W.grownBy (((((W.setCell ⟨w.heap.size, 0, none⟩ v0).setCell ⟨w.heap.size, 1, none⟩ v1).setCell ⟨w.heap.size, 2, none⟩ v2).setCell ⟨w.heap.size, 3, none⟩ v3).setCell ⟨w.heap.size, 4, none⟩ v4) (some w.heap.size) :=
  grow_trans (grow_trans (grow_trans (grow_trans (grow_set _ rfl _) (grow_set _ rfl _)) (grow_set _ rfl _)) (grow_set _ rfl _)) (grow_set _ rfl _)
 have hlt : w.heap.size < b0 := by omega
 exact laid_post hb hk (hR.grow g5 (fun g e => by injection e with e; omega)) (by decide) (grow_more hg g5 (Nat.le_refl _))
  (OwnT.base (OwnT.setA (OwnT.setA (OwnT.setA (OwnT.setA (OwnT.setA ho hlt _) hlt _) hlt _) hlt _) hlt _) (by omega))
set_option maxRecDepth 100000 in
set_option maxHeartbeats 8000000 in
theorem rdLaid (R : Nat) (w : World) (h : RdrOk w R 0) : Calls Tryz.prog 94 #[.pointer (some ⟨R, 0, none⟩)] w (LaidPost R 3000 w) := by
 have hRl := h.lt
 have HR := hide h
 clear h
 go_enter Tryz.func94, Tryz.ntmps94
 go_wp2_with fail
 have e1 := balloc (brefl w) (.cells #[.slice none 0 0, .int .i64 0, .int .i64 0, .slice none 0 0, .int .i64 0] 26)
 refine (rdAnyTable R 0 24 _ (HR.out.below e1) (by decide) (by decide) (by decide)).mono ?_
 rintro e W2 ⟨t, vc, vr, rfl, htb, hR2, hg2, hO2⟩
 obtain ⟨⟨Ac, kc, rfl⟩, Ar, kr, rfl⟩ := hO2.form
 have hs2 : w.heap.size < W2.heap.size := by have := hg2.size; simp at this; omega
 have HT := hide htb
 have HZ2 := hide ((BlockAt.new w zeros5 26).keep (grow_blk hg2 (by omega) (by simp)))
 have HG2 := hide (grow_trans (grow_below (r := some R) e1) hg2)
 obtain ⟨V, hV⟩ : ∃ V, V = W2.alloc (.cells #[.slice Ac t.cols.length kc, .int .i64 t.head, .int .i64 t.foot, .slice Ar t.rows.length kr, .int .i64 t.gap] 26) := ⟨_, rfl⟩
 have eV : Below W2.heap.size W2 V := by rw [hV]; exact balloc (brefl _) _
 have hKB : BlockAt V W2.heap.size [.slice Ac t.cols.length kc, .int .i64 t.head, .int .i64 t.foot, .slice Ar t.rows.length kr, .int .i64 t.gap] := by rw [hV]; exact BlockAt.new W2 _ _
 have hTY : Typed V W2.heap.size 26 := by rw [hV]; exact Typed.new _ _ _
 have hzV : V.heap.size = W2.heap.size + 1 := by rw [hV]; simp
 have HRV := hide (hR2.below eV)
 have HOV := hide (hO2.below eV)
 have HZV := hide (HZ2.out.keep (eV.block w.heap.size hs2))
 have HGV := hide (grow_trans HG2.out (grow_below eV))
 have HKB := hide hKB
 have HTY := hide hTY
 have HV := hide hV
 clear e1 htb hR2 hg2 hO2 hV eV hKB hTY HZ2
 go_wp2_with fail
 rw [← HV.out]
 refine (pick R _ 8 _ HRV.out (by decide) (by decide)).mono ?_
 rintro e W3 ⟨q, rfl, _, _, hR3, hg3⟩
 have hs3 : V.heap.size ≤ W3.heap.size := hg3.size
 have HR3 := hide hR3
 have HO3 := hide (HOV.out.grow (by simp; omega) hg3)
 have HZ3 := hide (HZV.out.keep (grow_blk hg3 (by omega) (by omega)))
 have HK3 := hide (HKB.out.keep (grow_blk hg3 (by omega) (by omega)))
 have HY3 := hide (HTY.out.keep (grow_blk hg3 (by omega) (by omega)))
 have HG3 := hide (grow_trans HGV.out hg3)
 have hRV : R < (w.alloc (.cells #[.slice none 0 0, .int .i64 0, .int .i64 0, .slice none 0 0, .int .i64 0] 26)).heap.size := by simp; omega
 have hbV : (w.alloc (.cells #[.slice none 0 0, .int .i64 0, .int .i64 0, .slice none 0 0, .int .i64 0] 26)).heap.size ≤ W3.heap.size := by simp; omega
 obtain ⟨b0, hb0⟩ : ∃ b0, b0 = (w.alloc (.cells #[.slice none 0 0, .int .i64 0, .int .i64 0, .slice none 0 0, .int .i64 0] 26)).heap.size := ⟨_, rfl⟩
 rw [← hb0] at hRV hbV
 have hb1 : b0 = w.heap.size + 1 := by rw [hb0]; simp
 have HO3' : Hid (OwnT W3 b0 (.slice Ac t.cols.length kc) (.slice Ar t.rows.length kr) t) := by rw [hb0]; exact HO3.out
 clear hR3 hg3 HOV HZV HKB HTY HGV HRV HO3 hb0
 go_upto_if 9 with fail
 go_cut [] from 9 to 12 (fun wx => ∃ (u : Tbl) (Ux : Option Addr) (kx : Nat), Aside (BlockAt wx W2.heap.size [.slice Ux u.cols.length kx, .int .i64 u.head, .int .i64 u.foot, .slice Ar u.rows.length kr, .int .i64 u.gap]) ∧ Aside (OwnT wx b0 (.slice Ux u.cols.length kx) (.slice Ar u.rows.length kr) u) ∧ Aside (anyBd u) ∧ Aside (RdrOk wx R 2200) ∧ Aside (w.grownBy wx (some R)) ∧ Aside (BlockAt wx w.heap.size zeros5) ∧ W2.heap.size < wx.heap.size)
 case first =>
  by_cases z : q = 0
  ·
   subst z
   have c0 := HK3.out.1 0 _ rfl
   have c1 := HK3.out.1 1 _ rfl
   have c2 := HK3.out.1 2 _ rfl
   have c3 := HK3.out.1 3 _ rfl
   have c4 := HK3.out.1 4 _ rfl
   go_wp2_with fail
   refine (rdAllFixed R _ b0 t Ac kc Ar kr W3 HR3.out (by decide) hbV hRV HO3'.out (any_sized HT.out)).mono ?_
   rintro e W4 ⟨xs, vc, rfl, hx, hR4, hg4, hO4⟩
   obtain ⟨⟨Ax, kx, rfl⟩, _⟩ : (∃ A c, vc = .slice A xs.length c) ∧ _ := hO4.form
   have hs4 : W3.heap.size ≤ W4.heap.size := hg4.size
   have hK4 := HK3.out.keep (grow_blk hg4 (by omega) (by omega))
   have hY4 := HY3.out.keep (grow_blk hg4 (by omega) (by omega))
   have HZ4 := hide (HZ3.out.keep (grow_blk hg4 (by omega) (by omega)))
   have HG4 := hide (grow_trans HG3.out hg4)
   have h0 := hK4.1 0 _ rfl
   have h1 := hK4.1 1 _ rfl
   have h2 := hK4.1 2 _ rfl
   have h3 := hK4.1 3 _ rfl
   have h4 := hK4.1 4 _ rfl
   have hf := hK4.2
   obtain ⟨k5, g5⟩ := box5 hK4 (.slice Ax xs.length kx) (.int .i64 t.head) (.int .i64 t.foot) (.slice Ar t.rows.length kr) (.int .i64 t.gap)
   have HK5 := hide k5
   have HG5 := hide (grow_more HG4.out g5 (by omega))
   have HO5 := hide (OwnT.past hO4 g5 hY4 (by decide) (by decide) (by decide))
   have HR5 := hide (hR4.grow g5 (fun g e => by injection e with e; omega))
   have HZ5 := hide (HZ4.out.keep (g5.block w.heap.size (by omega) (fun e => by injection e with e; omega)))
   have hs5 := g5.size
   have HX := hide (any_cols HT.out hx)
   clear c0 c1 c2 c3 c4 hx hR4 hg4 hO4 hK4 hY4 k5 g5
   go_wp2_with fail
   go_meet
   case rel => exact ⟨{ t with cols := xs }, Ax, kx, HK5.out, HO5.out, HX.out, HR5.out.mono (by decide), HG5.out, HZ5.out, by simp at hs5; first | omega | (simp; omega)⟩
  ·
   have e0 : ((q : Int) == 0) = false := by simpa using z
   go_wp2_with fail
   go_meet
   case rel => exact ⟨t, Ac, kc, HK3.out, HO3'.out, HT.out, HR3.out.mono (by decide), HG3.out, HZ3.out, by omega⟩
 case rest =>
 obtain ⟨u, Ux, kx, HKU, HOU, HTU, HRU, HGU, HZU, hsu⟩ := hcut
 have c0 := HKU.out.1 0 _ rfl
 have c1 := HKU.out.1 1 _ rfl
 have c2 := HKU.out.1 2 _ rfl
 have c3 := HKU.out.1 3 _ rfl
 have c4 := HKU.out.1 4 _ rfl
 have hWI := fun (W : World) (h : RdrOk W R 2200) => rdWidth R 2200 W h (by decide)
 go_upto_region 4 with fail
 go_region_with (go_at_call 131; refine (hWI _ ?_).mono ?_; (first | exact HRU.out | exact HRU.out.below (bdrew (brefl _))); rintro e W6 ⟨k, rfl, hk, hR6, hg6⟩; have hg7 := (show wc.grownBy W6 (some R) from (by first | exact hg6 | exact grow_trans (grow_below (bdrew (brefl _))) hg6)); have b0' := (HZU.out.keep (grow_blk hg7 (by omega) (by omega))); have r0 := b0'.1 0 _ rfl; have r1 := b0'.1 1 _ rfl; have r2 := b0'.1 2 _ rfl; have r3 := b0'.1 3 _ rfl; have r4 := b0'.1 4 _ rfl; have rf := b0'.2; have bk := (HKU.out.keep (grow_blk hg7 (by omega) (by omega))); have m0 := bk.1 0 _ rfl; have m1 := bk.1 1 _ rfl; have m2 := bk.1 2 _ rfl; have m3 := bk.1 3 _ rfl; have m4 := bk.1 4 _ rfl; clear b0' bk)
 all_goals
  have HO6 := hide (HOU.out.grow hRV hg7)
  have HG6 := hide (grow_trans HGU.out hg7)
  have HR6 := hide hR6
  clear hR6 hg6 hg7
  go_wp2_with fail
  exact bodyPost_ret (v := .tuple #[.agg #[.slice Ux u.cols.length kx, .int .i64 u.head, .int .i64 u.foot, .slice Ar u.rows.length kr, .int .i64 u.gap], .int .i64 k]) (by simp [results, Tryz.results94, go_sem, *]) rfl (laid_end HTU.out hk HR6.out HG6.out HO6.out hb1 hRl _ _ _ _ _)
set_option maxRecDepth 100000 in
set_option maxHeartbeats 4000000 in
theorem spec_DrawWidCols (A : Option Addr) (n c : Nat) (w : World) (h : BytesAt w A n c) : Calls Tryz.prog 42 #[.slice A n c] w (DrawTI (-1) 301 w) := by
 have HA := hide h
 clear h
 go_enter Tryz.func42, Tryz.ntmps42
 go_wp2_with fail
 refine (rdOpen A n c _ (HA.out.below (balloc (brefl w) _))).mono ?_
 rintro e W1 ⟨R, rfl, hR0, hR1, hb1⟩
 have hR0' : w.heap.size < R := by simp at hR0; omega
 have HB1 := hide (step (balloc (brefl w) (.cells #[.slice none 0 0, .int .i64 0, .int .i64 0, .slice none 0 0, .int .i64 0] 26)) hb1)
 have HZ1 := hide ((BlockAt.new w zeros5 26).keep (hb1.block w.heap.size (by simp)))
 have hRl := hR1.lt
 have HR1 := hide hR1
 clear hR0 hR1 hb1
 go_wp2_with fail
 refine (rdLaid R _ HR1.out).mono ?_
 rintro e W2 ⟨t, vc, vr, k, rfl, htb, hk, hR2, hg2, hO2⟩
 obtain ⟨⟨Ac, kc, rfl⟩, Ar, kr, rfl⟩ := hO2.form
 have HT := hide htb
 have HB2 := hide (below_row HB1.out hg2 (by omega))
 have HZ2 := hide (HZ1.out.keep (grow_blk hg2 (by omega) (by omega)))
 have HO2 := hide hO2
 clear htb hR2 hg2 hO2
 have h0 : W2.cell? ⟨w.heap.size, 0, none⟩ = some (.slice none 0 0) := HZ2.out.1 0 _ rfl
 have h1 : W2.cell? ⟨w.heap.size, 1, none⟩ = some (.int .i64 0) := HZ2.out.1 1 _ rfl
 have h2 : W2.cell? ⟨w.heap.size, 2, none⟩ = some (.int .i64 0) := HZ2.out.1 2 _ rfl
 have h3 : W2.cell? ⟨w.heap.size, 3, none⟩ = some (.slice none 0 0) := HZ2.out.1 3 _ rfl
 have h4 : W2.cell? ⟨w.heap.size, 4, none⟩ = some (.int .i64 0) := HZ2.out.1 4 _ rfl
 have hf := HZ2.out.2
 go_wp2_with fail
 exact bodyPost_ret (v := .tuple #[.agg #[.slice Ac t.cols.length kc, .int .i64 t.head, .int .i64 t.foot, .slice Ar t.rows.length kr, .int .i64 t.gap], .int .i64 k]) (by simp [results, Tryz.results42, go_sem, *]) rfl (drawTI (out5 HB2.out HO2.out (by omega) _ _ _ _ _) HT.out hk)
set_option maxRecDepth 100000 in
set_option maxHeartbeats 4000000 in
theorem spec_DrawWidTable (A : Option Addr) (n c : Nat) (w : World) (h : BytesAt w A n c) : Calls Tryz.prog 44 #[.slice A n c] w (DrawTI (-1) 301 w) := by
 have HA := hide h
 clear h
 go_enter Tryz.func44, Tryz.ntmps44
 go_wp2_with fail
 refine (rdOpen A n c _ (HA.out.below (balloc (brefl w) _))).mono ?_
 rintro e W1 ⟨R, rfl, hR0, hR1, hb1⟩
 have hR0' : w.heap.size < R := by simp at hR0; omega
 have HB1 := hide (step (balloc (brefl w) (.cells #[.slice none 0 0, .int .i64 0, .int .i64 0, .slice none 0 0, .int .i64 0] 26)) hb1)
 have HZ1 := hide ((BlockAt.new w zeros5 26).keep (hb1.block w.heap.size (by simp)))
 have hRl := hR1.lt
 have HR1 := hide hR1
 clear hR0 hR1 hb1
 go_wp2_with fail
 refine (rdLaid R _ HR1.out).mono ?_
 rintro e W2 ⟨t, vc, vr, k, rfl, htb, hk, hR2, hg2, hO2⟩
 obtain ⟨⟨Ac, kc, rfl⟩, Ar, kr, rfl⟩ := hO2.form
 have HT := hide htb
 have HB2 := hide (below_row HB1.out hg2 (by omega))
 have HZ2 := hide (HZ1.out.keep (grow_blk hg2 (by omega) (by omega)))
 have HO2 := hide hO2
 clear htb hR2 hg2 hO2
 have h0 : W2.cell? ⟨w.heap.size, 0, none⟩ = some (.slice none 0 0) := HZ2.out.1 0 _ rfl
 have h1 : W2.cell? ⟨w.heap.size, 1, none⟩ = some (.int .i64 0) := HZ2.out.1 1 _ rfl
 have h2 : W2.cell? ⟨w.heap.size, 2, none⟩ = some (.int .i64 0) := HZ2.out.1 2 _ rfl
 have h3 : W2.cell? ⟨w.heap.size, 3, none⟩ = some (.slice none 0 0) := HZ2.out.1 3 _ rfl
 have h4 : W2.cell? ⟨w.heap.size, 4, none⟩ = some (.int .i64 0) := HZ2.out.1 4 _ rfl
 have hf := HZ2.out.2
 go_wp2_with fail
 exact bodyPost_ret (v := .tuple #[.agg #[.slice Ac t.cols.length kc, .int .i64 t.head, .int .i64 t.foot, .slice Ar t.rows.length kr, .int .i64 t.gap], .int .i64 k]) (by simp [results, Tryz.results44, go_sem, *]) rfl (drawTI (out5 HB2.out HO2.out (by omega) _ _ _ _ _) HT.out hk)
end Go.Proofs.YtpfagdmmhgcmnaaGreatDoor

namespace Go.Proofs.YtpfagdmmhgcmnaaGreatDoor
open Go.RowKit Go.WideShapes Go.ChangeShapes
theorem uint8_cells : Tryz.prog.cellsOf 5 = 1 := by kernel_rfl
set_option maxRecDepth 100000 in
theorem open_code {H : Type} {enc : TypeId × Value → H} {W : World} {base : Nat} {v : Value} {d : DataW H} {p : List MemPlace} (hval : Value.okWide Tryz.prog W .any base 22 v) (h : DataW.Trod enc Tryz.prog W 0 (fun _ => true) true 22 v d p) :
  ∃ A n c, v = .slice A n c ∧ BytesAt W A n c := by
 obtain ⟨A, n, c, rfl⟩ := okWide_slice Tryz.underlying22 hval
 refine ⟨A, n, c, rfl, ?_⟩
 obtain ⟨fuel, hf⟩ := h
 rcases open_ints Tryz.underlying22 Tryz.underlying5 uint8_cells hf with ⟨hcs, _⟩ | ⟨a, len', cap', zs, hcs, _, hl, hm, hz, _, hcell, hwz⟩
 ·
  simp [Value.cells] at hcs
  obtain ⟨rfl, rfl, rfl⟩ := hcs
  exact ⟨by decide, by decide, by decide, fun h => absurd h (by decide)⟩
 ·
  simp [Value.cells] at hcs
  obtain ⟨rfl, rfl, rfl⟩ := hcs
  simp only [if_true] at hz
  have hmx : maxLen ≤ 9223372036854775807 := by decide
  refine ⟨by omega, hl, by omega, fun hn => ?_⟩
  have h0 := hcell 0 (by omega)
  obtain ⟨b, o, s⟩ := a
  have hs : s = none := by
   have h6 := at_plain h0
   simpa [Addr.add] using h6
  subst hs
  refine ⟨b, o, rfl, ?_, fun j hj => ?_⟩
  ·
   have := World.block_lt_of_cell? W _ h0
   simpa [Addr.add] using this
  ·
   have hj' := hcell j (by omega)
   rw [add_plain] at hj'
   have hb := range_u8 hwz j
   rw [List.getD_eq_getElem?_getD] at hj'
   obtain ⟨k, hk⟩ := Int.eq_ofNat_of_zero_le hb.1
   rw [hk] at hj' hb
   exact ⟨k, by omega, hj'⟩
end Go.Proofs.YtpfagdmmhgcmnaaGreatDoor
