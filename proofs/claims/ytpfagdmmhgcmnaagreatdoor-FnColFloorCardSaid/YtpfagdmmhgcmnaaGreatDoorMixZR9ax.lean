import Derived.Test.YtpfagdmmhgcmnaaGreatDoorMixZR9aw
import Derived.Test.YtpfagdmmhgcmnaaGreatDoorMixZR9av
import Derived.Test.YtpfagdmmhgcmnaaGreatDoorMixZR9ar
set_option linter.unusedVariables false
set_option linter.unusedSimpArgs false
namespace Go.Proofs.YtpfagdmmhgcmnaaGreatDoor
open Go.RowKit
/- How wide a table is at least: ColFloor on the reference's side. -/
set_option maxRecDepth 100000 in
set_option maxHeartbeats 40000000 in
theorem spec_ColFloor (t : Tbl) (A : Option Addr) (c : Nat) (A' : Option Addr) (c' : Nat) (w : World) (hc : Rd colR w A t.cols) (hr : Rd rowR w A' t.rows) {k : Nat} (hy : GoodRows t k) :
    Calls Tryz.prog 38 #[.agg #[.slice A t.cols.length c, .int .i64 t.head, .int .i64 t.foot, .slice A' t.rows.length c', .int .i64 t.gap]] w fun e w' => e = .returned (.int .i64 (wideG t.gap (colLeastL 400 t))) ∧ Below w.heap.size w w' := by
  have hT := fun (W : World) (h : Below w.heap.size w W) => spec_TblOk t A c A' c' W (hc.below h) (hr.below h)
  cases hok : tblOk t with
  | true =>
    have hG := fun (W : World) (h : Below w.heap.size w W) => spec_l3Of t A c A' c' W hok (hc.below h) (hr.below h)
    rw [hok] at hT
    obtain ⟨n, hn, hn1, hcell, hcl⟩ := grid_need hok hy 90 leastT_in
    have hsm : Hid (∀ x ∈ (gridL 90 t).1, GSm x) := (GIn.rows (m := 90) hok).sm (by omega)
    have hres : leastL t (gridL 90 t).1 n = colLeastL 400 t := by rw [← colLeast_two hy]; unfold colLeastL; rw [if_pos hok, hn]; rfl
    obtain ⟨n9, e9, _, hzl, hzb, _⟩ := colLeast_ok hok hy
    have hn9 : n9 = n := by rw [grid_one hok hy] at e9; omega
    subst hn9
    rw [hn] at hG
    have hg := (tblOk_parts hok).2.2.1
    have hL := fun (W : World) (h : Below w.heap.size w W) GA gc hgr => spec_l5Least t A c A' c' t.rows.length n9 (gridL 90 t).1 GA gc W (hc.below h) (hr.below h) hgr hg ⟨hn1.1, by omega⟩ hcell (by omega)
    rw [hres] at hL
    clear hok hc hr hres hy hn hcell hcl e9
    generalize gridL 90 t = GG at hG hL hsm
    obtain ⟨GL, GN⟩ := GG
    dsimp only at hG hL hsm
    generalize colLeastL 400 t = ZZ at hL hzl hzb ⊢
    have hGP := fun (W : World) GA gc => spec_l5Gaps t A c A' c' t.rows.length n9 GL.length GA gc W ⟨hn1.1, by omega⟩ hg
    have hwz : wideG t.gap ZZ = sumI ZZ + t.gap * ((n9 : Int) - 1) := by unfold wideG; rw [hzl, show max ((n9 : Int) - 1) 0 = (n9 : Int) - 1 by omega]
    obtain ⟨s1, s2⟩ := sum_le 60 ZZ hzb
    obtain ⟨sx, hsx⟩ : ∃ sx, sumI ZZ = sx := ⟨_, rfl⟩
    obtain ⟨gp, hgp⟩ : ∃ gp, t.gap * ((n9 : Int) - 1) = gp := ⟨_, rfl⟩
    have hgp1 : 0 ≤ gp ∧ gp ≤ 300 := by
      have hm := Int.mul_nonneg hg.1 (show 0 ≤ (n9 : Int) - 1 by omega)
      have hm2 : t.gap * ((n9 : Int) - 1) ≤ 3 * ((n9 : Int) - 1) := Int.mul_le_mul_of_nonneg_right hg.2 (by omega)
      omega
    rw [hsx, hgp] at hwz
    rw [hgp] at hGP
    rw [hsx] at s1 s2
    have t1 : IntKind.i64.wrap (sx + gp) = sx + gp := by rw [IntKind.wrap_i64]; omega
    have hSM := fun (W : World) A2 d2 (h9 : Rd intR W A2 ZZ) => spec_l1Sum A2 d2 ZZ W h9 (fun x hx => by have := hzb x hx; omega) (by omega)
    rw [hsx, hzl] at hSM
    rw [hwz]
    have HZL := hide hzl
    clear hzb hzl s1 s2 hsx hgp hgp1 hwz
    go_enter Tryz.func38, Tryz.ntmps38
    go_wp2_with fail
    refine (hT _ (balloc (brefl _) _)).mono ?_
    rintro e w1 ⟨rfl, hb⟩
    obtain ⟨c0, f0, s0⟩ := seenBk w.heap.size (by first | (simp; omega) | simp [*]) hb
    have HB := hide (step (balloc (brefl w) (.cells #[.slice A t.cols.length c, .int .i64 t.head, .int .i64 t.foot, .slice A' t.rows.length c', .int .i64 t.gap] 26)) hb)
    have hG1 := hG w1 HB.out
    have HK1 := hide ((BlockAt.new w [.slice A t.cols.length c, .int .i64 t.head, .int .i64 t.foot, .slice A' t.rows.length c', .int .i64 t.gap] 26).keep (hb.block w.heap.size (by simp)))
    clear hT hb hG
    go_wp2_with fail
    refine hG1.mono ?_
    rintro e w2 ⟨GA, gc, rfl, hown, hb2⟩
    dsimp only at hown ⊢
    have hrd2 := grd_rd hown hsm.out
    obtain ⟨V, hV⟩ : ∃ V, V = w2.alloc (.cells #[.int .i64 t.rows.length, .int .i64 n9, .slice GA GL.length gc] 35) := ⟨_, rfl⟩
    have eV : Below w2.heap.size w2 V := by rw [hV]; exact balloc (brefl _) _
    have HG2 := hide (hrd2.below eV)
    have HBV := hide (step (step HB.out hb2) eV)
    have hKT := (HK1.out.keep (hb2.block w.heap.size (by omega))).keep (eV.block w.heap.size (by have := hb2.size; omega))
    have hKG : BlockAt V w2.heap.size [.int .i64 t.rows.length, .int .i64 n9, .slice GA GL.length gc] := by rw [hV]; exact BlockAt.new w2 _ _
    have HKT := hide hKT
    have HKG := hide hKG
    have HV := hide hV
    clear hown hrd2 hV eV hKT hKG hb2 hG1 c0 f0
    go_upto_region 4 with fail
    rw [← HV.out]
    clear HV
    have ed := bdrew (brefl V)
    have HBD := hide (bdrew HBV.out)
    have z0 : V.drew.cell? ⟨w.heap.size, 0, none⟩ = some (.slice A t.cols.length c) := keepW ed (HKT.out.1 0 _ rfl)
    have z1 : V.drew.cell? ⟨w.heap.size, 1, none⟩ = some (.int .i64 t.head) := keepW ed (HKT.out.1 1 _ rfl)
    have z2 : V.drew.cell? ⟨w.heap.size, 2, none⟩ = some (.int .i64 t.foot) := keepW ed (HKT.out.1 2 _ rfl)
    have z3 : V.drew.cell? ⟨w.heap.size, 3, none⟩ = some (.slice A' t.rows.length c') := keepW ed (HKT.out.1 3 _ rfl)
    have z4 : V.drew.cell? ⟨w.heap.size, 4, none⟩ = some (.int .i64 t.gap) := keepW ed (HKT.out.1 4 _ rfl)
    have y0 : V.drew.cell? ⟨w2.heap.size, 0, none⟩ = some (.int .i64 t.rows.length) := keepW ed (HKG.out.1 0 _ rfl)
    have y1 : V.drew.cell? ⟨w2.heap.size, 1, none⟩ = some (.int .i64 n9) := keepW ed (HKG.out.1 1 _ rfl)
    have y2 : V.drew.cell? ⟨w2.heap.size, 2, none⟩ = some (.slice GA GL.length gc) := keepW ed (HKG.out.1 2 _ rfl)
    have HLL := hide (fun (W : World) (h : Below V.drew.heap.size V.drew W) => hL W (step HBD.out h) GA gc ((HG2.out.below ed).below h))
    have HGP := hide hGP
    have HSM := hide hSM
    clear hL hGP hSM ed
    obtain ⟨KF, hKF⟩ : ∃ f : Nat → Value → World → Prop, f = (fun j v W => match j with | 0 => v = .agg #[.slice A t.cols.length c, .int .i64 t.head, .int .i64 t.foot, .slice A' t.rows.length c', .int .i64 t.gap] | 1 => v = .agg #[.int .i64 ↑t.rows.length, .int .i64 ↑n9, .slice GA GL.length gc] | 2 => ∃ Aq dq, v = .slice Aq n9 dq ∧ Rd intR W Aq ZZ | 3 => v = .int .i64 sx | 4 => v = .agg #[.slice A t.cols.length c, .int .i64 t.head, .int .i64 t.foot, .slice A' t.rows.length c', .int .i64 t.gap] | 5 => v = .agg #[.int .i64 ↑t.rows.length, .int .i64 ↑n9, .slice GA GL.length gc] | 6 => v = .int .i64 gp | 7 => v = .int .i64 (sx + gp) | 8 => v = .int .i64 (sx + gp) | _ => True) := ⟨_, rfl⟩
    have k0 : ∀ v W, KF 0 v W ↔ (v = .agg #[.slice A t.cols.length c, .int .i64 t.head, .int .i64 t.foot, .slice A' t.rows.length c', .int .i64 t.gap]) := fun v W => by rw [hKF]; first | done | exact Iff.rfl
    have k1 : ∀ v W, KF 1 v W ↔ (v = .agg #[.int .i64 ↑t.rows.length, .int .i64 ↑n9, .slice GA GL.length gc]) := fun v W => by rw [hKF]; first | done | exact Iff.rfl
    have k2 : ∀ v W, KF 2 v W ↔ (∃ Aq dq, v = .slice Aq n9 dq ∧ Rd intR W Aq ZZ) := fun v W => by rw [hKF]; first | done | exact Iff.rfl
    have k3 : ∀ v W, KF 3 v W ↔ (v = .int .i64 sx) := fun v W => by rw [hKF]; first | done | exact Iff.rfl
    have k4 : ∀ v W, KF 4 v W ↔ (v = .agg #[.slice A t.cols.length c, .int .i64 t.head, .int .i64 t.foot, .slice A' t.rows.length c', .int .i64 t.gap]) := fun v W => by rw [hKF]; first | done | exact Iff.rfl
    have k5 : ∀ v W, KF 5 v W ↔ (v = .agg #[.int .i64 ↑t.rows.length, .int .i64 ↑n9, .slice GA GL.length gc]) := fun v W => by rw [hKF]; first | done | exact Iff.rfl
    have k6 : ∀ v W, KF 6 v W ↔ (v = .int .i64 gp) := fun v W => by rw [hKF]; first | done | exact Iff.rfl
    have k7 : ∀ v W, KF 7 v W ↔ (v = .int .i64 (sx + gp)) := fun v W => by rw [hKF]; first | done | exact Iff.rfl
    have k8 : ∀ v W, KF 8 v W ↔ (v = .int .i64 (sx + gp)) := fun v W => by rw [hKF]; first | done | exact Iff.rfl
    have HST : StableP KF := by
      rw [hKF]
      intro j v W W9 h hb
      by_cases hjn : j < 9
      · obtain rfl | rfl | rfl | rfl | rfl | rfl | rfl | rfl | rfl : j = 0 ∨ j = 1 ∨ j = 2 ∨ j = 3 ∨ j = 4 ∨ j = 5 ∨ j = 6 ∨ j = 7 ∨ j = 8 := by omega
        · exact h
        · exact h
        · obtain ⟨Aq, dq, hv, h⟩ := h
          exact ⟨Aq, dq, hv, h.below hb⟩
        · exact h
        · exact h
        · exact h
        · exact h
        · exact h
        · exact h
      · match j, h with
        | 0, h => exact absurd (by decide) hjn
        | 1, h => exact absurd (by decide) hjn
        | 2, h => exact absurd (by decide) hjn
        | 3, h => exact absurd (by decide) hjn
        | 4, h => exact absurd (by decide) hjn
        | 5, h => exact absurd (by decide) hjn
        | 6, h => exact absurd (by decide) hjn
        | 7, h => exact absurd (by decide) hjn
        | 8, h => exact absurd (by decide) hjn
        | _ + 9, h => exact h
    clear hKF
    obtain ⟨dep, hdep⟩ : ∃ f : Nat → List Nat, f = (fun j => match j with | 2 => [0, 1] | 3 => [2] | 6 => [4, 5, 3] | 7 => [3, 6] | 8 => [7, 6] | _ => []) := ⟨_, rfl⟩
    have d0 : dep 0 = [] := congrFun hdep 0
    have d1 : dep 1 = [] := congrFun hdep 1
    have d2 : dep 2 = [0, 1] := congrFun hdep 2
    have d3 : dep 3 = [2] := congrFun hdep 3
    have d4 : dep 4 = [] := congrFun hdep 4
    have d5 : dep 5 = [] := congrFun hdep 5
    have d6 : dep 6 = [4, 5, 3] := congrFun hdep 6
    have d7 : dep 7 = [3, 6] := congrFun hdep 7
    have d8 : dep 8 = [7, 6] := congrFun hdep 8
    clear hdep
    have HLD : LastP 9 9 dep := lastP_none (by decide)
    obtain ⟨st, hst⟩ : ∃ f : Nat → Value, f = (fun j => match j with | 0 => undef | 1 => undef | 2 => undef | 3 => undef | 4 => undef | 5 => undef | 6 => undef | 7 => undef | 8 => .int .i64 0 | _ => undef) := ⟨_, rfl⟩
    have st0 : st 0 = undef := congrFun hst 0
    have st1 : st 1 = undef := congrFun hst 1
    have st2 : st 2 = undef := congrFun hst 2
    have st3 : st 3 = undef := congrFun hst 3
    have st4 : st 4 = undef := congrFun hst 4
    have st5 : st 5 = undef := congrFun hst 5
    have st6 : st 6 = undef := congrFun hst 6
    have st7 : st 7 = undef := congrFun hst 7
    have st8 : st 8 = .int .i64 0 := congrFun hst 8
    refine wp_region_inv (fun l a W => ∃ vs : Nat → Value, a = ⟨List.toArray (.agg #[.slice A t.cols.length c, .int .i64 t.head, .int .i64 t.foot, .slice A' t.rows.length c', .int .i64 t.gap] :: .pointer (some ⟨w.heap.size, 0, none⟩) :: vs 8 :: .pointer (some ⟨w2.heap.size, 0, none⟩) :: .agg #[.slice A t.cols.length c, .int .i64 t.head, .int .i64 t.foot, .slice A' t.rows.length c', .int .i64 t.gap] :: .bool true :: .bool false :: .agg #[.slice A t.cols.length c, .int .i64 t.head, .int .i64 t.foot, .slice A' t.rows.length c', .int .i64 t.gap] :: .agg #[.int .i64 ↑t.rows.length, .int .i64 ↑n9, .slice GA GL.length gc] :: vs 0 :: vs 1 :: vs 2 :: vs 3 :: vs 4 :: vs 5 :: vs 6 :: vs 7 :: []), []⟩ ∧ PMid KF 9 9 dep (V.drew) (fun _ _ _ => True) st l vs W) (by kernel_rfl) ?top ?start ?step ?fin
    case top =>
      clear k0 k1 k2 k3 k4 k5 k6 k7 k8 d0 d1 d2 d3 d4 d5 d6 d7 d8 hst st0 st1 st2 st3 st4 st5 st6 st7 st8
      intro j o ho e he
      have hj : j < 9 := (Array.getElem?_eq_some_iff.1 ho).1
      have hA : (o.after.all fun e => decide (e.on < j)) = true := by
        obtain rfl | rfl | rfl | rfl | rfl | rfl | rfl | rfl | rfl : j = 0 ∨ j = 1 ∨ j = 2 ∨ j = 3 ∨ j = 4 ∨ j = 5 ∨ j = 6 ∨ j = 7 ∨ j = 8 := by omega
        all_goals
          simp only [List.getElem?_toArray, List.getElem?_cons_zero, List.getElem?_cons_succ, Option.some.injEq] at ho
          subst ho
          first | decide | kernel_rfl | simp
      simpa using Array.all_eq_true'.1 hA e he
    case start => exact ⟨st, by rw [hst]; first | done | rfl, PMid.start⟩
    case step =>
      rintro l a W i o ho hl hpre hsz ⟨vs, rfl, hM0⟩ K hK
      have hi : i < 9 := (Array.getElem?_eq_some_iff.1 ho).1
      obtain rfl | rfl | rfl | rfl | rfl | rfl | rfl | rfl | rfl : i = 0 ∨ i = 1 ∨ i = 2 ∨ i = 3 ∨ i = 4 ∨ i = 5 ∨ i = 6 ∨ i = 7 ∨ i = 8 := by omega
      · simp only [List.getElem?_toArray, List.getElem?_cons_zero, List.getElem?_cons_succ, Option.some.injEq] at ho
        subst ho
        have hMB := hM0.below HLD hi (by decide) hl
        have hMG := hM0.get HLD hi (by decide) hl
        have hdp : ∀ e ∈ dep 0, l.getD e false = true := by rw [d0]; exact dep_nil
        have e := k0
        clear k0 k1 k2 k3 k4 k5 k6 k7 k8 d0 d1 d2 d3 d4 d5 d6 d7 d8 hst st0 st1 st2 st3 st4 st5 st6 st7 st8
        have x0 := keepW hMB z0
        have x1 := keepW hMB z1
        have x2 := keepW hMB z2
        have x3 := keepW hMB z3
        have x4 := keepW hMB z4
        go_simp
        exact hK.out _ _ ⟨updV vs 0 (.agg #[.slice A t.cols.length c, .int .i64 t.head, .int .i64 t.foot, .slice A' t.rows.length c', .int .i64 t.gap]), rfl, hM0.still HLD HST 0 (by decide) (by decide) hl _ hdp ((e _ _).2 rfl)⟩
      · simp only [List.getElem?_toArray, List.getElem?_cons_zero, List.getElem?_cons_succ, Option.some.injEq] at ho
        subst ho
        have hMB := hM0.below HLD hi (by decide) hl
        have hMG := hM0.get HLD hi (by decide) hl
        have hdp : ∀ e ∈ dep 1, l.getD e false = true := by rw [d1]; exact dep_nil
        have e := k1
        clear k0 k1 k2 k3 k4 k5 k6 k7 k8 d0 d1 d2 d3 d4 d5 d6 d7 d8 hst st0 st1 st2 st3 st4 st5 st6 st7 st8
        have x0 := keepW hMB y0
        have x1 := keepW hMB y1
        have x2 := keepW hMB y2
        go_simp
        exact hK.out _ _ ⟨updV vs 1 (.agg #[.int .i64 ↑t.rows.length, .int .i64 ↑n9, .slice GA GL.length gc]), rfl, hM0.still HLD HST 1 (by decide) (by decide) hl _ hdp ((e _ _).2 rfl)⟩
      · simp only [List.getElem?_toArray, List.getElem?_cons_zero, List.getElem?_cons_succ, Option.some.injEq] at ho
        subst ho
        have hMB := hM0.below HLD hi (by decide) hl
        have hMG := hM0.get HLD hi (by decide) hl
        have v0 : vs 0 = .agg #[.slice A t.cols.length c, .int .i64 t.head, .int .i64 t.foot, .slice A' t.rows.length c', .int .i64 t.gap] := (k0 _ _).1 (hMG 0 (by decide) (hpre ⟨0, .data⟩ (by simp) rfl))
        have v1 : vs 1 = .agg #[.int .i64 ↑t.rows.length, .int .i64 ↑n9, .slice GA GL.length gc] := (k1 _ _).1 (hMG 1 (by decide) (hpre ⟨1, .data⟩ (by simp) rfl))
        have hdp : ∀ e ∈ dep 2, l.getD e false = true := by rw [d2]; exact (dep_cons (hpre ⟨0, .data⟩ (by simp) rfl) (dep_cons (hpre ⟨1, .data⟩ (by simp) rfl) dep_nil))
        have e := k2
        clear k0 k1 k2 k3 k4 k5 k6 k7 k8 d0 d1 d2 d3 d4 d5 d6 d7 d8 hst st0 st1 st2 st3 st4 st5 st6 st7 st8
        rw [v0, v1]
        go_simp
        refine (HLL.out _ hMB).mono ?_
        rintro e5 W5 ⟨v5, rfl, hI5, hb5⟩
        obtain ⟨A5, d5, rfl⟩ := hI5.form
        rw [HZL.out]
        exact hK.out _ _ ⟨updV vs 2 (.slice A5 n9 d5), (by simp [updV, v0, v1]), hM0.next HLD HST 2 (by decide) (by decide) hl _ hdp hb5 ((e _ _).2 ⟨A5, d5, rfl, irow_rd hI5⟩)⟩
      · simp only [List.getElem?_toArray, List.getElem?_cons_zero, List.getElem?_cons_succ, Option.some.injEq] at ho
        subst ho
        have hMB := hM0.below HLD hi (by decide) hl
        have hMG := hM0.get HLD hi (by decide) hl
        obtain ⟨Aq, dq, v2, q2⟩ := (k2 _ _).1 (hMG 2 (by decide) (hpre ⟨2, .data⟩ (by simp) rfl))
        have hdp : ∀ e ∈ dep 3, l.getD e false = true := by rw [d3]; exact (dep_cons (hpre ⟨2, .data⟩ (by simp) rfl) dep_nil)
        have e := k3
        clear k0 k1 k2 k3 k4 k5 k6 k7 k8 d0 d1 d2 d3 d4 d5 d6 d7 d8 hst st0 st1 st2 st3 st4 st5 st6 st7 st8
        rw [v2]
        go_simp
        refine (HSM.out _ Aq dq q2).mono ?_
        rintro e5 W5 ⟨rfl, hq⟩
        exact hK.out _ _ ⟨updV vs 3 (.int .i64 sx), (by simp [updV, v2]), hM0.next HLD HST 3 (by decide) (by decide) hl _ hdp (by rw [hq]; exact brefl _) ((e _ _).2 rfl)⟩
      · simp only [List.getElem?_toArray, List.getElem?_cons_zero, List.getElem?_cons_succ, Option.some.injEq] at ho
        subst ho
        have hMB := hM0.below HLD hi (by decide) hl
        have hMG := hM0.get HLD hi (by decide) hl
        have hdp : ∀ e ∈ dep 4, l.getD e false = true := by rw [d4]; exact dep_nil
        have e := k4
        clear k0 k1 k2 k3 k4 k5 k6 k7 k8 d0 d1 d2 d3 d4 d5 d6 d7 d8 hst st0 st1 st2 st3 st4 st5 st6 st7 st8
        have x0 := keepW hMB z0
        have x1 := keepW hMB z1
        have x2 := keepW hMB z2
        have x3 := keepW hMB z3
        have x4 := keepW hMB z4
        go_simp
        exact hK.out _ _ ⟨updV vs 4 (.agg #[.slice A t.cols.length c, .int .i64 t.head, .int .i64 t.foot, .slice A' t.rows.length c', .int .i64 t.gap]), rfl, hM0.still HLD HST 4 (by decide) (by decide) hl _ hdp ((e _ _).2 rfl)⟩
      · simp only [List.getElem?_toArray, List.getElem?_cons_zero, List.getElem?_cons_succ, Option.some.injEq] at ho
        subst ho
        have hMB := hM0.below HLD hi (by decide) hl
        have hMG := hM0.get HLD hi (by decide) hl
        have hdp : ∀ e ∈ dep 5, l.getD e false = true := by rw [d5]; exact dep_nil
        have e := k5
        clear k0 k1 k2 k3 k4 k5 k6 k7 k8 d0 d1 d2 d3 d4 d5 d6 d7 d8 hst st0 st1 st2 st3 st4 st5 st6 st7 st8
        have x0 := keepW hMB y0
        have x1 := keepW hMB y1
        have x2 := keepW hMB y2
        go_simp
        exact hK.out _ _ ⟨updV vs 5 (.agg #[.int .i64 ↑t.rows.length, .int .i64 ↑n9, .slice GA GL.length gc]), rfl, hM0.still HLD HST 5 (by decide) (by decide) hl _ hdp ((e _ _).2 rfl)⟩
      · simp only [List.getElem?_toArray, List.getElem?_cons_zero, List.getElem?_cons_succ, Option.some.injEq] at ho
        subst ho
        have hMB := hM0.below HLD hi (by decide) hl
        have hMG := hM0.get HLD hi (by decide) hl
        have v4 : vs 4 = .agg #[.slice A t.cols.length c, .int .i64 t.head, .int .i64 t.foot, .slice A' t.rows.length c', .int .i64 t.gap] := (k4 _ _).1 (hMG 4 (by decide) (hpre ⟨4, .data⟩ (by simp) rfl))
        have v5 : vs 5 = .agg #[.int .i64 ↑t.rows.length, .int .i64 ↑n9, .slice GA GL.length gc] := (k5 _ _).1 (hMG 5 (by decide) (hpre ⟨5, .data⟩ (by simp) rfl))
        have v3 : vs 3 = .int .i64 sx := (k3 _ _).1 (hMG 3 (by decide) (hpre ⟨3, .chain⟩ (by simp) rfl))
        have hdp : ∀ e ∈ dep 6, l.getD e false = true := by rw [d6]; exact (dep_cons (hpre ⟨4, .data⟩ (by simp) rfl) (dep_cons (hpre ⟨5, .data⟩ (by simp) rfl) (dep_cons (hpre ⟨3, .chain⟩ (by simp) rfl) dep_nil)))
        have e := k6
        clear k0 k1 k2 k3 k4 k5 k6 k7 k8 d0 d1 d2 d3 d4 d5 d6 d7 d8 hst st0 st1 st2 st3 st4 st5 st6 st7 st8
        rw [v4, v5, v3]
        go_simp
        refine (HGP.out _ GA gc).mono ?_
        rintro e5 W5 ⟨rfl, hb5⟩
        exact hK.out _ _ ⟨updV vs 6 (.int .i64 gp), (by simp [updV, v4, v5, v3]), hM0.next HLD HST 6 (by decide) (by decide) hl _ hdp hb5 ((e _ _).2 rfl)⟩
      · simp only [List.getElem?_toArray, List.getElem?_cons_zero, List.getElem?_cons_succ, Option.some.injEq] at ho
        subst ho
        have hMB := hM0.below HLD hi (by decide) hl
        have hMG := hM0.get HLD hi (by decide) hl
        have v3 : vs 3 = .int .i64 sx := (k3 _ _).1 (hMG 3 (by decide) (hpre ⟨3, .data⟩ (by simp) rfl))
        have v6 : vs 6 = .int .i64 gp := (k6 _ _).1 (hMG 6 (by decide) (hpre ⟨6, .data⟩ (by simp) rfl))
        have hdp : ∀ e ∈ dep 7, l.getD e false = true := by rw [d7]; exact (dep_cons (hpre ⟨3, .data⟩ (by simp) rfl) (dep_cons (hpre ⟨6, .data⟩ (by simp) rfl) dep_nil))
        have e := k7
        clear k0 k1 k2 k3 k4 k5 k6 k7 k8 d0 d1 d2 d3 d4 d5 d6 d7 d8 hst st0 st1 st2 st3 st4 st5 st6 st7 st8
        rw [v3, v6]
        go_simp
        exact hK.out _ _ ⟨updV vs 7 (.int .i64 (sx + gp)), (by simp [updV, v3, v6]), hM0.still HLD HST 7 (by decide) (by decide) hl _ hdp ((e _ _).2 rfl)⟩
      · simp only [List.getElem?_toArray, List.getElem?_cons_zero, List.getElem?_cons_succ, Option.some.injEq] at ho
        subst ho
        have hMB := hM0.below HLD hi (by decide) hl
        have hMG := hM0.get HLD hi (by decide) hl
        have v7 : vs 7 = .int .i64 (sx + gp) := (k7 _ _).1 (hMG 7 (by decide) (hpre ⟨7, .data⟩ (by simp) rfl))
        have v6 : vs 6 = .int .i64 gp := (k6 _ _).1 (hMG 6 (by decide) (hpre ⟨6, .chain⟩ (by simp) rfl))
        have hdp : ∀ e ∈ dep 8, l.getD e false = true := by rw [d8]; exact (dep_cons (hpre ⟨7, .data⟩ (by simp) rfl) (dep_cons (hpre ⟨6, .chain⟩ (by simp) rfl) dep_nil))
        have e := k8
        clear k0 k1 k2 k3 k4 k5 k6 k7 k8 d0 d1 d2 d3 d4 d5 d6 d7 d8 hst st0 st1 st2 st3 st4 st5 st6 st7 st8
        rw [v7, v6]
        go_simp
        exact hK.out _ _ ⟨updV vs 8 (.int .i64 (sx + gp)), (by simp [updV, v7, v6]), hM0.still HLD HST 8 (by decide) (by decide) hl _ hdp ((e _ _).2 rfl)⟩
    case fin =>
      rintro l a W4 hall ⟨vs4, rfl, hM0⟩
      obtain ⟨hMB, hMG⟩ := hM0.fin0 (by decide) hall
      have HBW := hide hMB
      have v8 : vs4 8 = .int .i64 (sx + gp) := (k8 _ _).1 (hMG 8 (by decide))
      rw [v8]
      clear k0 k1 k2 k3 k4 k5 k6 k7 k8 d0 d1 d2 d3 d4 d5 d6 d7 d8 hst st0 st1 st2 st3 st4 st5 st6 st7 st8 HLD HST hMG v8 hMB hall hM0 st
      go_wp2_with fail
      go_ret
      exact ⟨rfl, step HBD.out HBW.out⟩
  | false =>
    rw [hok] at hT
    have hres : colLeastL 400 t = [] := by unfold colLeastL; rw [hok]; rfl
    rw [hres, wideG_nil]
    clear hres hok hc hr hy
    go_enter Tryz.func38, Tryz.ntmps38
    go_wp2_with fail
    refine (hT _ (balloc (brefl _) _)).mono ?_
    rintro e w1 ⟨rfl, hb⟩
    have HB := hide (step (balloc (brefl w) _) hb)
    clear hb hT
    go_wp2_with fail
    go_ret
    exact ⟨rfl, HB.out⟩
end Go.Proofs.YtpfagdmmhgcmnaaGreatDoor

namespace Go.Proofs.YtpfagdmmhgcmnaaGreatDoor
open Go.RowKit
/- Two rows of numbers compared, a row's sum: the laws' own. -/
set_option maxRecDepth 100000 in
set_option maxHeartbeats 4000000 in
theorem laws_pwInts (A : Option Addr) (c : Nat) (A' : Option Addr) (c' : Nat) (xs : List Int) (w : World) (hr : Rd intR w A xs) (hr' : Rd intR w A' xs) (hn : xs.length ≤ 1000000) :
    Calls Tryz.prog 17 #[.slice A xs.length c, .slice A' xs.length c'] w fun e w' => e = .returned (.bool true) ∧ ∃ q, w' = w.drewN q := by
  have HR := hide hr
  have HR' := hide hr'
  clear hr hr'
  go_enter Tryz.func17, Tryz.ntmps17
  go_wp2_with fail
  go_loopg [5] xs.length (fun gg s5 wr => ∃ j : Nat, j ≤ xs.length ∧ xs.length - j ≤ gg ∧ s5 = .int .i64 j ∧ Aside (∃ q, wr = w.drewN q))
  case atStart => exact ⟨0, Nat.zero_le _, by omega, rfl, (show Aside _ from ⟨0, rfl⟩)⟩
  case round =>
    obtain ⟨j, hj, hgg, rfl, HQ⟩ := hrel
    obtain ⟨q, hq⟩ := HQ.out
    have hbw : Below w.heap.size w wr := by rw [hq]; exact bdrewN (brefl _) _
    by_cases hlt : j < xs.length
    · have hltz : (j : Int) < (xs.length : Int) := by omega
      obtain ⟨b, o, rfl, hlb, hc⟩ := rd_int HR.out hbw j hlt
      obtain ⟨b', o', rfl, hlb', hc'⟩ := rd_int HR'.out hbw j hlt
      generalize xs.getD j 0 = y at hc hc'
      have HQ' := hide hq
      clear hq hbw HQ
      go_wp2_with fail
      go_quiet (fail)
      go_wp2_with fail
      go_roundg (xs.length - (j + 1))
      case measure => omega
      case rel => exact ⟨j + 1, by omega, by omega, by go_num, (show Aside _ from ⟨_, by rw [HQ'.out, World.drewN_drewN]⟩)⟩
    · have hltz : ¬ (j : Int) < (xs.length : Int) := by omega
      have HQ' := hide hq
      clear hq hbw HQ
      go_wp2_with fail
      go_ret
      exact ⟨rfl, q, HQ'.out⟩
set_option maxHeartbeats 1000000 in
theorem laws_pwSum (A : Option Addr) (c : Nat) (xs : List Int) (w : World) (hr : Rd intR w A xs) (hb : ∀ x ∈ xs, 0 ≤ x ∧ x ≤ 1000000) (hn : xs.length ≤ 1000000) :
    Calls Tryz.prog 39 #[.slice A xs.length c] w (fun e w' => e = .returned (.int .i64 (sumI xs)) ∧ w' = w) := by
  have HR := hide hr
  have HB := hide hb
  clear hr hb
  go_enter Tryz.func39, Tryz.ntmps39
  go_wp2_with fail
  go_loopg [3, 4] xs.length (fun gg s3 s4 wr => ∃ kk : Nat, kk ≤ xs.length ∧ xs.length - kk ≤ gg ∧ s3 = .int .i64 (sumI (xs.take kk)) ∧ s4 = .int .i64 kk ∧ wr = w)
  case atStart => exact ⟨0, Nat.zero_le _, by omega, by simp [sumI_nil], rfl, rfl⟩
  case round =>
    obtain ⟨kk, hkk, hg, rfl, rfl, rfl⟩ := hrel
    by_cases hlt : kk < xs.length
    · have hltz : (kk : Int) < (xs.length : Int) := by omega
      obtain ⟨b, o, rfl, hlb, hcell⟩ := rd_int HR.out (brefl _) kk hlt
      have hs := hide (sum_take xs kk hlt)
      have hb1 := sum_bound HB.out kk
      have hb2 := int_at HB.out kk hlt
      generalize sumI (xs.take kk) = s at hs hb1 ⊢
      generalize xs.getD kk 0 = y at hs hcell hb2
      have t1 : IntKind.i64.wrap (s + y) = s + y := by rw [IntKind.wrap_i64]; omega
      go_wp2_with fail
      go_roundg (xs.length - (kk + 1))
      case measure => omega
      case rel => exact ⟨kk + 1, by omega, by omega, by rw [hs.out], by go_num, rfl⟩
    · have hltz : ¬ (kk : Int) < (xs.length : Int) := by omega
      have hk : kk = xs.length := by omega
      have hs := hide (show sumI (xs.take kk) = sumI xs by rw [hk, List.take_length])
      clear hk
      go_wp2_with fail
      go_ret
      exact ⟨by rw [hs.out]; rfl, rfl⟩
end Go.Proofs.YtpfagdmmhgcmnaaGreatDoor

namespace Go.Proofs.YtpfagdmmhgcmnaaGreatDoor
open Go.RowKit
/- The draws of the laws over bytes: a table by itself. -/
theorem laws_pwOk (w : World) (hw : Base w) : Calls Tryz.prog 20 #[] w fun e w' => e = .returned (.bool true) ∧ Below w.heap.size w w' := by
  have hT := impl_TxtOk ⟨#[97, 98, 32, 99]⟩ w (by decide) hw
  have ht : txOk ⟨#[97, 98, 32, 99]⟩ = true := by decide
  rw [ht] at hT
  go_enter Tryz.func20, Tryz.ntmps20
  go_wp2_with fail
  refine hT.mono ?_
  rintro e w' ⟨rfl, hb⟩
  go_wp2_with fail
  go_ret
  exact ⟨rfl, hb⟩
theorem BlockAt.below {W W' : World} {C : Nat} {cs : List Value} (h : BlockAt W C cs) (hC : C < W.heap.size) (hb : Below W.heap.size W W') : BlockAt W' C cs := h.keep (hb.block C hC)
set_option maxRecDepth 100000 in
set_option maxHeartbeats 4000000 in
theorem spec_DrawColFloor (A : Option Addr) (n c : Nat) (w : World) (h : BytesAt w A n c) : Calls Tryz.prog 36 #[.slice A n c] w (DrawT w) := by
  have HA := hide h
  clear h
  go_enter Tryz.func36, Tryz.ntmps36
  go_wp2_with fail
  refine (rdOpen A n c _ (HA.out.below (balloc (brefl w) _))).mono ?_
  rintro e W1 ⟨R, rfl, hR0, hR1, hb1⟩
  have hR0' : w.heap.size < R := by simp at hR0; omega
  have HB1 := hide (step (balloc (brefl w) (.cells #[.slice none 0 0, .int .i64 0, .int .i64 0, .slice none 0 0, .int .i64 0] 26)) hb1)
  have HZ1 := hide ((BlockAt.new w zeros5 26).keep (hb1.block w.heap.size (by simp)))
  have hRl := hR1.lt
  have HR1 := hide hR1
  clear hR0 hR1 hb1
  go_wp2_with fail
  refine (rdAnyTable R 0 16 _ HR1.out (by decide) (by decide) (by decide)).mono ?_
  rintro e W2 ⟨t, vc, vr, rfl, htb, hR2, hg2, hO2⟩
  obtain ⟨⟨Ac, kc, rfl⟩, Ar, kr, rfl⟩ := hO2.form
  have HT := hide htb
  have HB2 := hide (below_row HB1.out hg2 (by omega))
  have HZ2 := hide (HZ1.out.keep (grow_blk hg2 (by omega) (by omega)))
  have HO2 := hide hO2
  clear htb hR2 hg2 hO2
  have h0 : W2.cell? ⟨w.heap.size, 0, none⟩ = some (.slice none 0 0) := HZ2.out.1 0 _ rfl
  have h1 : W2.cell? ⟨w.heap.size, 1, none⟩ = some (.int .i64 0) := HZ2.out.1 1 _ rfl
  have h2 : W2.cell? ⟨w.heap.size, 2, none⟩ = some (.int .i64 0) := HZ2.out.1 2 _ rfl
  have h3 : W2.cell? ⟨w.heap.size, 3, none⟩ = some (.slice none 0 0) := HZ2.out.1 3 _ rfl
  have h4 : W2.cell? ⟨w.heap.size, 4, none⟩ = some (.int .i64 0) := HZ2.out.1 4 _ rfl
  have hf := HZ2.out.2
  go_wp2_with fail
  exact bodyPost_ret (v := .agg #[.slice Ac t.cols.length kc, .int .i64 t.head, .int .i64 t.foot, .slice Ar t.rows.length kr, .int .i64 t.gap]) (by simp [results, Tryz.results36, go_sem, *]) rfl (drawT (out5 HB2.out HO2.out (by omega) _ _ _ _ _) HT.out)
end Go.Proofs.YtpfagdmmhgcmnaaGreatDoor
