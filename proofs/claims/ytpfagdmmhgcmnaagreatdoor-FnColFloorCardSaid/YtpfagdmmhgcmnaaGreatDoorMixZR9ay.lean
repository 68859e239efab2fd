import Derived.Test.YtpfagdmmhgcmnaaGreatDoorMixZR9ax
set_option linter.unusedVariables false
set_option linter.unusedSimpArgs false
namespace Go.Proofs.YtpfagdmmhgcmnaaGreatDoor
open Go.RowKit
/- How wide a drawn table is at least: the statement's own walk. -/
theorem widCols_none {t : Tbl} (h : tblOk t = true) {k : Nat} (hy : GoodRows t k) : widColsL 400 t 0 = colLeastL 400 t := by
  obtain ⟨n, _, _, h3, _, h5, _, _, h8⟩ := widCols_ok h hy (width := 0) ⟨by decide, by decide⟩
  rw [h5]
  refine (widths_spec (said_kind h)).2.2.2.1 ?_
  have hg := (tblOk_parts h).2.2.1
  have h1 := sumI_nonneg (fun x hx => (h8 x hx).1)
  have h2 := Int.mul_nonneg hg.1 (show 0 ≤ max (((colLeastL 400 t).length : Int) - 1) 0 by omega)
  unfold wideL
  omega
set_option maxRecDepth 100000 in
set_option maxHeartbeats 4000000 in
theorem impl_ColFloor2 (t : Tbl) (A : Option Addr) (c : Nat) (A' : Option Addr) (c' : Nat) (w : World) (hw : Base w) (hc : Rd colR w A t.cols) (hr : Rd rowR w A' t.rows) {k : Nat} (hy : GoodRows t k) :
    Calls Tryz.prog 37 #[.agg #[.slice A t.cols.length c, .int .i64 t.head, .int .i64 t.foot, .slice A' t.rows.length c', .int .i64 t.gap]] w fun e w' => e = .returned (.int .i64 (wideG t.gap (colLeastL 400 t))) ∧ Below w.heap.size w w' := by
  have hL := fun (W : World) (h : Below w.heap.size w W) => impl_ColLeast t A c A' c' W (hw.below h) (hc.below h) (hr.below h) hy
  have hWD : ∀ (W : World) (A2 : Option Addr) (d2 : Nat), Rd intR W A2 (colLeastL 400 t) → Calls Tryz.prog 65 #[.slice A2 (colLeastL 400 t).length d2, .int .i64 t.gap] W fun e w' => e = .returned (.int .i64 (wideG t.gap (colLeastL 400 t))) ∧ Below W.heap.size W w' := by
    intro W A2 d2 h9
    by_cases hq : tblOk t = true
    · obtain ⟨n, _, h2, h3, h4, _⟩ := colLeast_ok hq hy
      exact impl_wide A2 d2 _ t.gap W h9 (fun x hx => by have := h4 x hx; omega) (by omega) (tblOk_parts hq).2.2.1
    · have e0 : colLeastL 400 t = [] := by unfold colLeastL; rw [if_neg hq]
      rw [e0] at h9 ⊢
      rw [wideG_nil]
      exact impl_wide0 A2 d2 t.gap W h9
  generalize colLeastL 400 t = X at hL hWD ⊢
  generalize wideG t.gap X = wd at hWD ⊢
  clear hw hc hr hy
  go_enter Tryz.func37, Tryz.ntmps37
  have HB := hide (balloc (brefl w) (.cells #[.slice A t.cols.length c, .int .i64 t.head, .int .i64 t.foot, .slice A' t.rows.length c', .int .i64 t.gap] 26))
  go_upto_region 1 with fail
  go_region_with (first
    | (go_at_call 16; refine (hL _ ?_).mono ?_; (first | exact HB.out | exact bdrew HB.out); rintro e w2 ⟨v, rfl, hI, hb2⟩; obtain ⟨c2, f2, s2⟩ := seenBk w.heap.size (by first | (simp; omega) | simp [*]) hb2; obtain ⟨A2, d2, rfl⟩ := hI.form; have hrd := irow_rd hI)
    | (go_at_call 65; refine (hWD _ A2 d2 ?_).mono ?_; (first | exact hrd | exact hrd.below (bdrew (brefl _))); rintro e w3 ⟨rfl, hb3⟩))
  all_goals
    go_wp2_with fail
    go_ret
    refine ⟨rfl, ?_⟩
    (repeat' (with_reducible first | exact HB.out | refine bdrew ?_ | refine step ?_ (by with_reducible assumption)))
set_option linter.unusedSimpArgs false in
set_option maxRecDepth 100000 in
set_option maxHeartbeats 40000000 in
theorem law_FnColFloor (A : Option Addr) (n c : Nat) (w : World) (hw : Base w) (h : BytesAt w A n c) :
    Calls Tryz.prog 6 #[.slice A n c] w fun e w' => e = .returned (.bool true) ∧ Below w.heap.size w w' := by
  have hD := spec_DrawColFloor A n c w h
  have HW := hide hw
  have hn1 := h.1
  clear h hw
  by_cases hb1 : (1048576 : Int) < n
  · clear hD
    go_enter Tryz.func6, Tryz.ntmps6
    go_wp2_with fail
    go_ret
    exact ⟨rfl, brefl w⟩
  go_enter Tryz.func6, Tryz.ntmps6
  go_wp2_with fail
  refine hD.mono ?_
  rintro e W1 ⟨t, vc, vr, rfl, htb, hO1, hB1⟩
  obtain ⟨⟨Ac, kc, rfl⟩, Ar, kr, rfl⟩ := hO1.form
  obtain ⟨k, hy⟩ := htb.good
  have hs1 : w.heap.size ≤ W1.heap.size := hB1.size
  have HY := hide hy
  obtain ⟨V1, hV1⟩ : ∃ V, V = W1.alloc (.cells #[.slice Ac t.cols.length kc, .int .i64 t.head, .int .i64 t.foot, .slice Ar t.rows.length kr, .int .i64 t.gap] 26) := ⟨_, rfl⟩
  have hK1 : BlockAt V1 W1.heap.size [.slice Ac t.cols.length kc, .int .i64 t.head, .int .i64 t.foot, .slice Ar t.rows.length kr, .int .i64 t.gap] := by rw [hV1]; exact BlockAt.new W1 _ _
  have hz1 : V1.heap.size = W1.heap.size + 1 := by rw [hV1]; simp
  have HB1 : Hid (Below w.heap.size w V1) := by rw [hV1]; exact balloc hB1 _
  have HC1 : Hid (Rd colR V1 Ac t.cols) := by rw [hV1]; exact hO1.rdc.below (balloc (brefl _) _)
  have HR1 : Hid (Rd rowR V1 Ar t.rows) := by rw [hV1]; exact (hO1.rdr (any_sized htb)).below (balloc (brefl _) _)
  have hE1 := impl_ColFloor2 t Ac kc Ar kr V1 (HW.out.below HB1.out) HC1.out HR1.out hy
  have HT := hide htb
  have HV := hide hV1
  clear hD htb hO1 hB1 hy hV1
  obtain ⟨fl, hfl⟩ : ∃ fl, wideG t.gap (colLeastL 400 t) = fl := ⟨_, rfl⟩
  rw [hfl] at hE1
  have HFL := hide hfl
  have f0 := hK1.1 0 _ rfl
  have f1 := hK1.1 1 _ rfl
  have f2 := hK1.1 2 _ rfl
  have f3 := hK1.1 3 _ rfl
  have f4 := hK1.1 4 _ rfl
  have HK1 := hide hK1
  clear hfl hK1
  go_wp2_with fail
  rw [← HV.out]
  refine hE1.mono ?_
  rintro e W2 ⟨rfl, hb2⟩
  have hK2 := HK1.out.below (by omega) hb2
  have HB2 := hide (step HB1.out hb2)
  have HC2 := hide (HC1.out.below hb2)
  have HR2 := hide (HR1.out.below hb2)
  have hz2 : W1.heap.size < W2.heap.size := by have := hb2.size; omega
  have hE2 := spec_ColFloor t Ac kc Ar kr W2 HC2.out HR2.out HY.out
  rw [HFL.out] at hE2
  have g0 := hK2.1 0 _ rfl
  have g1 := hK2.1 1 _ rfl
  have g2 := hK2.1 2 _ rfl
  have g3 := hK2.1 3 _ rfl
  have g4 := hK2.1 4 _ rfl
  have HK2 := hide hK2
  clear f0 f1 f2 f3 f4 hb2 hE1 hK2 HV
  go_wp2_with fail
  refine hE2.mono ?_
  rintro e W4 ⟨rfl, hb4⟩
  have HB4 := hide (step HB2.out hb4)
  have HC4 := hide (HC2.out.below hb4)
  have HR4 := hide (HR2.out.below hb4)
  have hK4 := HK2.out.below hz2 hb4
  have hz4 : W1.heap.size < W4.heap.size := by have := hb4.size; omega
  have hO4 := spec_TblOk t Ac kc Ar kr W4 HC4.out HR4.out
  have g0 := hK4.1 0 _ rfl
  have g1 := hK4.1 1 _ rfl
  have g2 := hK4.1 2 _ rfl
  have g3 := hK4.1 3 _ rfl
  have g4 := hK4.1 4 _ rfl
  have HK4 := hide hK4
  clear hb4 hK4 hE2
  cases hok : tblOk t with
  | false =>
    rw [hok] at hO4
    have h0 : fl = 0 := by rw [← HFL.out]; unfold colLeastL; rw [hok]; exact wideG_nil _
    subst h0
    clear hok
    go_wp2_with fail
    refine hO4.mono ?_
    rintro e W5 ⟨rfl, hb5⟩
    have HB5 := hide (step HB4.out hb5)
    have hPW := laws_pwOk W5 (HW.out.below HB5.out)
    clear g0 g1 g2 g3 g4 hO4 hb5
    go_wp2_with fail
    refine hPW.mono ?_
    rintro e W6 ⟨rfl, hb6⟩
    go_wp2_with fail
    go_ret
    exact ⟨rfl, step HB5.out hb6⟩
  | true =>
    rw [hok] at hO4
    obtain ⟨m, hm, hm1, hlm, hbd, _, _⟩ := colLeast_ok hok HY.out
    have hgr : gridOf 400 t = ⟨t.rows.length, (gridL 400 t).2, (gridL 400 t).1⟩ := by unfold gridOf; rw [if_pos hok]
    have hgap := (tblOk_parts hok).2.2.1
    have hw0 := widCols_none hok HY.out
    have hwz : wideG t.gap (colLeastL 400 t) = sumI (colLeastL 400 t) + t.gap * ((m : Int) - 1) := by unfold wideG; rw [hlm, show max ((m : Int) - 1) 0 = (m : Int) - 1 by omega]
    rw [HFL.out] at hwz
    obtain ⟨s1, s2⟩ := sum_le 60 _ hbd
    obtain ⟨sx, hsx⟩ : ∃ sx, sumI (colLeastL 400 t) = sx := ⟨_, rfl⟩
    obtain ⟨gp, hgp⟩ : ∃ gp, t.gap * ((m : Int) - 1) = gp := ⟨_, rfl⟩
    have hgp1 : 0 ≤ gp ∧ gp ≤ 300 := by
      have hx := Int.mul_nonneg hgap.1 (show 0 ≤ (m : Int) - 1 by omega)
      have hx2 : t.gap * ((m : Int) - 1) ≤ 3 * ((m : Int) - 1) := Int.mul_le_mul_of_nonneg_right hgap.2 (by omega)
      omega
    rw [hsx] at s1 s2
    rw [hlm] at s2
    have hwz2 : sx + gp = fl := by rw [hwz, hsx, hgp]
    have t1 : IntKind.i64.wrap (sx + gp) = fl := by rw [hwz2, IntKind.wrap_i64]; omega
    have t2 : IntKind.i64.wrap ((m : Int) - 1) = (m : Int) - 1 := by rw [IntKind.wrap_i64]; omega
    have t3 : IntKind.i64.wrap (t.gap * ((m : Int) - 1)) = gp := by rw [hgp, IntKind.wrap_i64]; omega
    have HSX := hide hsx
    have HLM := hide hlm
    have HBX := hide hbd
    have HW0 := hide hw0
    have HGR := hide hgr
    have HM := hide hm
    have HOK := hide hok
    clear hok hm hlm hbd hgr hw0 hwz s1 s2 hsx hgp hgp1 hwz2
    go_wp2_with fail
    refine hO4.mono ?_
    rintro e W5 ⟨rfl, hb5⟩
    have HB5 := hide (step HB4.out hb5)
    have HC5 := hide (HC4.out.below hb5)
    have HR5 := hide (HR4.out.below hb5)
    have hK5 := HK4.out.below hz4 hb5
    have HK5 := hide hK5
    clear g0 g1 g2 g3 g4 hO4 hb5 hK5
    go_upto_region 9 with fail
    have ed := bdrew (brefl W5)
    have HBD := hide (bdrew HB5.out)
    have z0 : W5.drew.cell? ⟨W1.heap.size, 0, none⟩ = some (.slice Ac t.cols.length kc) := keepW ed (HK5.out.1 0 _ rfl)
    have z1 : W5.drew.cell? ⟨W1.heap.size, 1, none⟩ = some (.int .i64 t.head) := keepW ed (HK5.out.1 1 _ rfl)
    have z2 : W5.drew.cell? ⟨W1.heap.size, 2, none⟩ = some (.int .i64 t.foot) := keepW ed (HK5.out.1 2 _ rfl)
    have z3 : W5.drew.cell? ⟨W1.heap.size, 3, none⟩ = some (.slice Ar t.rows.length kr) := keepW ed (HK5.out.1 3 _ rfl)
    have z4 : W5.drew.cell? ⟨W1.heap.size, 4, none⟩ = some (.int .i64 t.gap) := keepW ed (HK5.out.1 4 _ rfl)
    have HCB : Hid (∀ W, Below W5.drew.heap.size W5.drew W → Base W ∧ Rd colR W Ac t.cols ∧ Rd rowR W Ar t.rows) := fun W h => ⟨HW.out.below (step HBD.out h), (HC5.out.below ed).below h, (HR5.out.below ed).below h⟩
    obtain ⟨L, hL⟩ : ∃ L, colLeastL 400 t = L := ⟨_, rfl⟩
    have HCL : Hid (∀ W, Below W5.drew.heap.size W5.drew W → Calls Tryz.prog 16 #[.agg #[.slice Ac t.cols.length kc, .int .i64 t.head, .int .i64 t.foot, .slice Ar t.rows.length kr, .int .i64 t.gap]] W fun e w' => ∃ A d, e = .returned (.slice A m d) ∧ Rd intR w' A L ∧ Below W.heap.size W w') := fun W h => by
      obtain ⟨q1, q2, q3⟩ := HCB.out W h
      have h9 := impl_ColLeast t Ac kc Ar kr W q1 q2 q3 HY.out
      refine h9.mono ?_
      rintro e w9 ⟨v, rfl, hI, hb⟩
      obtain ⟨A9, d9, rfl⟩ := hI.form
      rw [HLM.out, ← hL]
      exact ⟨A9, d9, rfl, irow_rd hI, hb⟩
    have HWC : Hid (∀ W, Below W5.drew.heap.size W5.drew W → Calls Tryz.prog 41 #[.agg #[.slice Ac t.cols.length kc, .int .i64 t.head, .int .i64 t.foot, .slice Ar t.rows.length kr, .int .i64 t.gap], .int .i64 0] W fun e w' => ∃ A d, e = .returned (.slice A m d) ∧ Rd intR w' A L ∧ Below W.heap.size W w') := fun W h => by
      obtain ⟨q1, q2, q3⟩ := HCB.out W h
      have h9 := impl_WidCols t Ac kc Ar kr 0 W q1 q2 q3 HY.out
      rw [HW0.out] at h9
      refine h9.mono ?_
      rintro e w9 ⟨v, rfl, hI, hb⟩
      obtain ⟨A9, d9, rfl⟩ := hI.form
      rw [HLM.out, ← hL]
      exact ⟨A9, d9, rfl, irow_rd hI, hb⟩
    have HWT : Hid (∀ W, Below W5.drew.heap.size W5.drew W → Calls Tryz.prog 40 #[.agg #[.slice Ac t.cols.length kc, .int .i64 t.head, .int .i64 t.foot, .slice Ar t.rows.length kr, .int .i64 t.gap], .int .i64 0] W fun e w' => e = .returned (.int .i64 fl) ∧ Below W.heap.size W w') := fun W h => by
      obtain ⟨q1, q2, q3⟩ := HCB.out W h
      have h9 := impl_WidTable t Ac kc Ar kr 0 W q1 q2 q3 HY.out
      rw [HW0.out, HFL.out] at h9
      exact h9
    have HGO : Hid (∀ W, Below W5.drew.heap.size W5.drew W → Calls Tryz.prog 21 #[.agg #[.slice Ac t.cols.length kc, .int .i64 t.head, .int .i64 t.foot, .slice Ar t.rows.length kr, .int .i64 t.gap]] W fun e w' => ∃ A l d, e = .returned (.agg #[.int .i64 t.rows.length, .int .i64 m, .slice A l d]) ∧ Below W.heap.size W w') := fun W h => by
      obtain ⟨q1, q2, q3⟩ := HCB.out W h
      have h9 := impl_GrdOf t Ac kc Ar kr W q1 q2 q3
      rw [HGR.out, HM.out] at h9
      refine h9.mono ?_
      rintro e w9 ⟨A9, d9, rfl, _, hb⟩
      exact ⟨A9, _, d9, rfl, hb⟩
    have hlm : L.length = m := by rw [← hL]; exact HLM.out
    have HPS : Hid (∀ W A d, Rd intR W A L → Calls Tryz.prog 39 #[.slice A m d] W fun e w' => e = .returned (.int .i64 sx) ∧ w' = W) := fun W A d h => by
      have h9 := laws_pwSum A d L W h (fun x hx => by rw [← hL] at hx; have := HBX.out x hx; omega) (by omega)
      rw [hlm, ← hL, HSX.out] at h9
      exact h9
    have HPI : Hid (∀ W A d A' d', Rd intR W A L → Rd intR W A' L → Calls Tryz.prog 17 #[.slice A m d, .slice A' m d'] W fun e w' => e = .returned (.bool true) ∧ ∃ q, w' = W.drewN q) := fun W A d A' d' h h' => by
      have h9 := laws_pwInts A d A' d' L W h h' (by omega)
      rw [hlm] at h9
      exact h9
    have HIG := hide (fun (q : Prop) (h : q) => h)
    clear hL hlm ed HIG
    obtain ⟨KF, hKF⟩ : ∃ f : Nat → Value → World → Prop, f = (fun j v W => match j with | 0 => v = .int .i64 fl | 1 => v = .agg #[.slice Ac t.cols.length kc, .int .i64 t.head, .int .i64 t.foot, .slice Ar t.rows.length kr, .int .i64 t.gap] | 2 => ∃ Aq2 dq2, v = .slice Aq2 m dq2 ∧ Rd intR W Aq2 L | 3 => v = .int .i64 sx | 4 => v = .pointer (some ⟨W1.heap.size, 4, none⟩) | 5 => v = .int .i64 t.gap | 6 => v = .agg #[.slice Ac t.cols.length kc, .int .i64 t.head, .int .i64 t.foot, .slice Ar t.rows.length kr, .int .i64 t.gap] | 7 => ∃ Ag lg dg, v = .agg #[.int .i64 ↑t.rows.length, .int .i64 ↑m, .slice Ag lg dg] ∧ True | 8 => v = .int .i64 ↑m | 9 => v = .int .i64 (↑m - 1) | 10 => v = .int .i64 gp | 11 => v = .int .i64 fl | 12 => v = .bool true | 13 => v = .bool true | 14 => v = .agg #[.slice Ac t.cols.length kc, .int .i64 t.head, .int .i64 t.foot, .slice Ar t.rows.length kr, .int .i64 t.gap] | 15 => v = .int .i64 fl | 16 => v = .int .i64 fl | 17 => v = .bool true | 18 => v = .bool true | 19 => v = .bool true | 20 => v = .agg #[.slice Ac t.cols.length kc, .int .i64 t.head, .int .i64 t.foot, .slice Ar t.rows.length kr, .int .i64 t.gap] | 21 => ∃ Aq21 dq21, v = .slice Aq21 m dq21 ∧ Rd intR W Aq21 L | 22 => v = .agg #[.slice Ac t.cols.length kc, .int .i64 t.head, .int .i64 t.foot, .slice Ar t.rows.length kr, .int .i64 t.gap] | 23 => ∃ Aq23 dq23, v = .slice Aq23 m dq23 ∧ Rd intR W Aq23 L | 24 => v = .bool true | 25 => v = .bool true | 26 => v = .bool true | _ => True) := ⟨_, rfl⟩
    have k0 : ∀ v W, KF 0 v W ↔ (v = .int .i64 fl) := fun v W => by rw [hKF]; first | done | exact Iff.rfl
    have k1 : ∀ v W, KF 1 v W ↔ (v = .agg #[.slice Ac t.cols.length kc, .int .i64 t.head, .int .i64 t.foot, .slice Ar t.rows.length kr, .int .i64 t.gap]) := fun v W => by rw [hKF]; first | done | exact Iff.rfl
    have k2 : ∀ v W, KF 2 v W ↔ (∃ Aq2 dq2, v = .slice Aq2 m dq2 ∧ Rd intR W Aq2 L) := fun v W => by rw [hKF]; first | done | exact Iff.rfl
    have k3 : ∀ v W, KF 3 v W ↔ (v = .int .i64 sx) := fun v W => by rw [hKF]; first | done | exact Iff.rfl
    have k4 : ∀ v W, KF 4 v W ↔ (v = .pointer (some ⟨W1.heap.size, 4, none⟩)) := fun v W => by rw [hKF]; first | done | exact Iff.rfl
    have k5 : ∀ v W, KF 5 v W ↔ (v = .int .i64 t.gap) := fun v W => by rw [hKF]; first | done | exact Iff.rfl
    have k6 : ∀ v W, KF 6 v W ↔ (v = .agg #[.slice Ac t.cols.length kc, .int .i64 t.head, .int .i64 t.foot, .slice Ar t.rows.length kr, .int .i64 t.gap]) := fun v W => by rw [hKF]; first | done | exact Iff.rfl
    have k7 : ∀ v W, KF 7 v W ↔ (∃ Ag lg dg, v = .agg #[.int .i64 ↑t.rows.length, .int .i64 ↑m, .slice Ag lg dg] ∧ True) := fun v W => by rw [hKF]; first | done | exact Iff.rfl
    have k8 : ∀ v W, KF 8 v W ↔ (v = .int .i64 ↑m) := fun v W => by rw [hKF]; first | done | exact Iff.rfl
    have k9 : ∀ v W, KF 9 v W ↔ (v = .int .i64 (↑m - 1)) := fun v W => by rw [hKF]; first | done | exact Iff.rfl
    have k10 : ∀ v W, KF 10 v W ↔ (v = .int .i64 gp) := fun v W => by rw [hKF]; first | done | exact Iff.rfl
    have k11 : ∀ v W, KF 11 v W ↔ (v = .int .i64 fl) := fun v W => by rw [hKF]; first | done | exact Iff.rfl
    have k12 : ∀ v W, KF 12 v W ↔ (v = .bool true) := fun v W => by rw [hKF]; first | done | exact Iff.rfl
    have k13 : ∀ v W, KF 13 v W ↔ (v = .bool true) := fun v W => by rw [hKF]; first | done | exact Iff.rfl
    have k14 : ∀ v W, KF 14 v W ↔ (v = .agg #[.slice Ac t.cols.length kc, .int .i64 t.head, .int .i64 t.foot, .slice Ar t.rows.length kr, .int .i64 t.gap]) := fun v W => by rw [hKF]; first | done | exact Iff.rfl
    have k15 : ∀ v W, KF 15 v W ↔ (v = .int .i64 fl) := fun v W => by rw [hKF]; first | done | exact Iff.rfl
    have k16 : ∀ v W, KF 16 v W ↔ (v = .int .i64 fl) := fun v W => by rw [hKF]; first | done | exact Iff.rfl
    have k17 : ∀ v W, KF 17 v W ↔ (v = .bool true) := fun v W => by rw [hKF]; first | done | exact Iff.rfl
    have k18 : ∀ v W, KF 18 v W ↔ (v = .bool true) := fun v W => by rw [hKF]; first | done | exact Iff.rfl
    have k19 : ∀ v W, KF 19 v W ↔ (v = .bool true) := fun v W => by rw [hKF]; first | done | exact Iff.rfl
    have k20 : ∀ v W, KF 20 v W ↔ (v = .agg #[.slice Ac t.cols.length kc, .int .i64 t.head, .int .i64 t.foot, .slice Ar t.rows.length kr, .int .i64 t.gap]) := fun v W => by rw [hKF]; first | done | exact Iff.rfl
    have k21 : ∀ v W, KF 21 v W ↔ (∃ Aq21 dq21, v = .slice Aq21 m dq21 ∧ Rd intR W Aq21 L) := fun v W => by rw [hKF]; first | done | exact Iff.rfl
    have k22 : ∀ v W, KF 22 v W ↔ (v = .agg #[.slice Ac t.cols.length kc, .int .i64 t.head, .int .i64 t.foot, .slice Ar t.rows.length kr, .int .i64 t.gap]) := fun v W => by rw [hKF]; first | done | exact Iff.rfl
    have k23 : ∀ v W, KF 23 v W ↔ (∃ Aq23 dq23, v = .slice Aq23 m dq23 ∧ Rd intR W Aq23 L) := fun v W => by rw [hKF]; first | done | exact Iff.rfl
    have k24 : ∀ v W, KF 24 v W ↔ (v = .bool true) := fun v W => by rw [hKF]; first | done | exact Iff.rfl
    have k25 : ∀ v W, KF 25 v W ↔ (v = .bool true) := fun v W => by rw [hKF]; first | done | exact Iff.rfl
    have k26 : ∀ v W, KF 26 v W ↔ (v = .bool true) := fun v W => by rw [hKF]; first | done | exact Iff.rfl
    have HST : StableP KF := by
      rw [hKF]
      intro j v W W9 h hb
      by_cases hjn : j < 27
      · obtain rfl | rfl | rfl | rfl | rfl | rfl | rfl | rfl | rfl | rfl | rfl | rfl | rfl | rfl | rfl | rfl | rfl | rfl | rfl | rfl | rfl | rfl | rfl | rfl | rfl | rfl | rfl : j = 0 ∨ j = 1 ∨ j = 2 ∨ j = 3 ∨ j = 4 ∨ j = 5 ∨ j = 6 ∨ j = 7 ∨ j = 8 ∨ j = 9 ∨ j = 10 ∨ j = 11 ∨ j = 12 ∨ j = 13 ∨ j = 14 ∨ j = 15 ∨ j = 16 ∨ j = 17 ∨ j = 18 ∨ j = 19 ∨ j = 20 ∨ j = 21 ∨ j = 22 ∨ j = 23 ∨ j = 24 ∨ j = 25 ∨ j = 26 := by omega
        · exact h
        · exact h
        · obtain ⟨Aq2, dq2, hv, h⟩ := h
          exact ⟨Aq2, dq2, hv, h.below hb⟩
        · exact h
        · exact h
        · exact h
        · exact h
        · obtain ⟨Ag, lg, dg, hv, h⟩ := h
          exact ⟨Ag, lg, dg, hv, trivial⟩
        · exact h
        · exact h
        · exact h
        · exact h
        · exact h
        · exact h
        · exact h
        · exact h
        · exact h
        · exact h
        · exact h
        · exact h
        · exact h
        · obtain ⟨Aq21, dq21, hv, h⟩ := h
          exact ⟨Aq21, dq21, hv, h.below hb⟩
        · exact h
        · obtain ⟨Aq23, dq23, hv, h⟩ := h
          exact ⟨Aq23, dq23, hv, h.below hb⟩
        · exact h
        · exact h
        · exact h
      · match j, h with
        | 0, h => exact absurd (by decide) hjn
        | 1, h => exact absurd (by decide) hjn
        | 2, h => exact absurd (by decide) hjn
        | 3, h => exact absurd (by decide) hjn
        | 4, h => exact absurd (by decide) hjn
        | 5, h => exact absurd (by decide) hjn
        | 6, h => exact absurd (by decide) hjn
        | 7, h => exact absurd (by decide) hjn
        | 8, h => exact absurd (by decide) hjn
        | 9, h => exact absurd (by decide) hjn
        | 10, h => exact absurd (by decide) hjn
        | 11, h => exact absurd (by decide) hjn
        | 12, h => exact absurd (by decide) hjn
        | 13, h => exact absurd (by decide) hjn
        | 14, h => exact absurd (by decide) hjn
        | 15, h => exact absurd (by decide) hjn
        | 16, h => exact absurd (by decide) hjn
        | 17, h => exact absurd (by decide) hjn
        | 18, h => exact absurd (by decide) hjn
        | 19, h => exact absurd (by decide) hjn
        | 20, h => exact absurd (by decide) hjn
        | 21, h => exact absurd (by decide) hjn
        | 22, h => exact absurd (by decide) hjn
        | 23, h => exact absurd (by decide) hjn
        | 24, h => exact absurd (by decide) hjn
        | 25, h => exact absurd (by decide) hjn
        | 26, h => exact absurd (by decide) hjn
        | _ + 27, h => exact h
    clear hKF
    obtain ⟨dep, hdep⟩ : ∃ f : Nat → List Nat, f = (fun j => match j with | 2 => [1] | 3 => [2] | 5 => [4] | 7 => [6, 3] | 8 => [7] | 9 => [8] | 10 => [5, 9] | 11 => [3, 10] | 12 => [0, 11] | 13 => [12, 7] | 14 => [13] | 15 => [14, 13] | 16 => [13] | 17 => [15, 16, 13] | 18 => [13, 17] | 19 => [18, 15] | 20 => [19] | 21 => [20, 19] | 22 => [19] | 23 => [22, 21, 19] | 24 => [21, 23, 19] | 25 => [19, 24] | 26 => [25, 24] | _ => []) := ⟨_, rfl⟩
    have d0 : dep 0 = [] := congrFun hdep 0
    have d1 : dep 1 = [] := congrFun hdep 1
    have d2 : dep 2 = [1] := congrFun hdep 2
    have d3 : dep 3 = [2] := congrFun hdep 3
    have d4 : dep 4 = [] := congrFun hdep 4
    have d5 : dep 5 = [4] := congrFun hdep 5
    have d6 : dep 6 = [] := congrFun hdep 6
    have d7 : dep 7 = [6, 3] := congrFun hdep 7
    have d8 : dep 8 = [7] := congrFun hdep 8
    have d9 : dep 9 = [8] := congrFun hdep 9
    have d10 : dep 10 = [5, 9] := congrFun hdep 10
    have d11 : dep 11 = [3, 10] := congrFun hdep 11
    have d12 : dep 12 = [0, 11] := congrFun hdep 12
    have d13 : dep 13 = [12, 7] := congrFun hdep 13
    have d14 : dep 14 = [13] := congrFun hdep 14
    have d15 : dep 15 = [14, 13] := congrFun hdep 15
    have d16 : dep 16 = [13] := congrFun hdep 16
    have d17 : dep 17 = [15, 16, 13] := congrFun hdep 17
    have d18 : dep 18 = [13, 17] := congrFun hdep 18
    have d19 : dep 19 = [18, 15] := congrFun hdep 19
    have d20 : dep 20 = [19] := congrFun hdep 20
    have d21 : dep 21 = [20, 19] := congrFun hdep 21
    have d22 : dep 22 = [19] := congrFun hdep 22
    have d23 : dep 23 = [22, 21, 19] := congrFun hdep 23
    have d24 : dep 24 = [21, 23, 19] := congrFun hdep 24
    have d25 : dep 25 = [19, 24] := congrFun hdep 25
    have d26 : dep 26 = [25, 24] := congrFun hdep 26
    clear hdep
    have HLD : LastP 27 27 dep := lastP_none (by decide)
    obtain ⟨st, hst⟩ : ∃ f : Nat → Value, f = (fun j => match j with | 0 => undef | 1 => undef | 2 => undef | 3 => undef | 4 => undef | 5 => undef | 6 => undef | 7 => undef | 8 => undef | 9 => undef | 10 => undef | 11 => undef | 12 => undef | 13 => undef | 14 => undef | 15 => undef | 16 => undef | 17 => undef | 18 => undef | 19 => undef | 20 => undef | 21 => undef | 22 => undef | 23 => undef | 24 => undef | 25 => undef | 26 => .bool false | _ => undef) := ⟨_, rfl⟩
    have st0 : st 0 = undef := congrFun hst 0
    have st1 : st 1 = undef := congrFun hst 1
    have st2 : st 2 = undef := congrFun hst 2
    have st3 : st 3 = undef := congrFun hst 3
    have st4 : st 4 = undef := congrFun hst 4
    have st5 : st 5 = undef := congrFun hst 5
    have st6 : st 6 = undef := congrFun hst 6
    have st7 : st 7 = undef := congrFun hst 7
    have st8 : st 8 = undef := congrFun hst 8
    have st9 : st 9 = undef := congrFun hst 9
    have st10 : st 10 = undef := congrFun hst 10
    have st11 : st 11 = undef := congrFun hst 11
    have st12 : st 12 = undef := congrFun hst 12
    have st13 : st 13 = undef := congrFun hst 13
    have st14 : st 14 = undef := congrFun hst 14
    have st15 : st 15 = undef := congrFun hst 15
    have st16 : st 16 = undef := congrFun hst 16
    have st17 : st 17 = undef := congrFun hst 17
    have st18 : st 18 = undef := congrFun hst 18
    have st19 : st 19 = undef := congrFun hst 19
    have st20 : st 20 = undef := congrFun hst 20
    have st21 : st 21 = undef := congrFun hst 21
    have st22 : st 22 = undef := congrFun hst 22
    have st23 : st 23 = undef := congrFun hst 23
    have st24 : st 24 = undef := congrFun hst 24
    have st25 : st 25 = undef := congrFun hst 25
    have st26 : st 26 = .bool false := congrFun hst 26
    refine wp_region_inv (fun l a W => ∃ vs : Nat → Value, a = ⟨List.toArray (.slice A n c :: undef :: vs 26 :: .pointer (some ⟨W1.heap.size, 0, none⟩) :: .int .i64 fl :: .slice A n c :: .int .i64 ↑n :: .bool false :: .slice A n c :: .agg #[.slice Ac t.cols.length kc, .int .i64 t.head, .int .i64 t.foot, .slice Ar t.rows.length kr, .int .i64 t.gap] :: .agg #[.slice Ac t.cols.length kc, .int .i64 t.head, .int .i64 t.foot, .slice Ar t.rows.length kr, .int .i64 t.gap] :: .int .i64 fl :: .int .i64 fl :: .agg #[.slice Ac t.cols.length kc, .int .i64 t.head, .int .i64 t.foot, .slice Ar t.rows.length kr, .int .i64 t.gap] :: .int .i64 fl :: .bool false :: .agg #[.slice Ac t.cols.length kc, .int .i64 t.head, .int .i64 t.foot, .slice Ar t.rows.length kr, .int .i64 t.gap] :: .bool true :: .bool false :: undef :: undef :: undef :: undef :: undef :: vs 0 :: vs 1 :: vs 2 :: vs 3 :: vs 4 :: vs 5 :: vs 6 :: vs 7 :: vs 8 :: vs 9 :: vs 10 :: vs 11 :: vs 12 :: vs 13 :: vs 14 :: vs 15 :: vs 16 :: vs 17 :: vs 18 :: vs 19 :: vs 20 :: vs 21 :: vs 22 :: vs 23 :: vs 24 :: vs 25 :: []), []⟩ ∧ PMid KF 27 27 dep (W5.drew) (fun _ _ _ => True) st l vs W) (by kernel_rfl) ?top ?start ?step ?fin
    case top =>
      clear k0 k1 k2 k3 k4 k5 k6 k7 k8 k9 k10 k11 k12 k13 k14 k15 k16 k17 k18 k19 k20 k21 k22 k23 k24 k25 k26 d0 d1 d2 d3 d4 d5 d6 d7 d8 d9 d10 d11 d12 d13 d14 d15 d16 d17 d18 d19 d20 d21 d22 d23 d24 d25 d26 hst st0 st1 st2 st3 st4 st5 st6 st7 st8 st9 st10 st11 st12 st13 st14 st15 st16 st17 st18 st19 st20 st21 st22 st23 st24 st25 st26
      intro j o ho e he
      have hj : j < 27 := (Array.getElem?_eq_some_iff.1 ho).1
      have hA : (o.after.all fun e => decide (e.on < j)) = true := by
        obtain rfl | rfl | rfl | rfl | rfl | rfl | rfl | rfl | rfl | rfl | rfl | rfl | rfl | rfl | rfl | rfl | rfl | rfl | rfl | rfl | rfl | rfl | rfl | rfl | rfl | rfl | rfl : j = 0 ∨ j = 1 ∨ j = 2 ∨ j = 3 ∨ j = 4 ∨ j = 5 ∨ j = 6 ∨ j = 7 ∨ j = 8 ∨ j = 9 ∨ j = 10 ∨ j = 11 ∨ j = 12 ∨ j = 13 ∨ j = 14 ∨ j = 15 ∨ j = 16 ∨ j = 17 ∨ j = 18 ∨ j = 19 ∨ j = 20 ∨ j = 21 ∨ j = 22 ∨ j = 23 ∨ j = 24 ∨ j = 25 ∨ j = 26 := by omega
        all_goals
          simp only [List.getElem?_toArray, List.getElem?_cons_zero, List.getElem?_cons_succ, Option.some.injEq] at ho
          subst ho
          first | decide | kernel_rfl | simp
      simpa using Array.all_eq_true'.1 hA e he
    case start => exact ⟨st, by rw [hst]; first | done | rfl, PMid.start⟩
    case step =>
      rintro l a W i o ho hl hpre hsz ⟨vs, rfl, hM0⟩ K hK
      have hi : i < 27 := (Array.getElem?_eq_some_iff.1 ho).1
      obtain rfl | rfl | rfl | rfl | rfl | rfl | rfl | rfl | rfl | rfl | rfl | rfl | rfl | rfl | rfl | rfl | rfl | rfl | rfl | rfl | rfl | rfl | rfl | rfl | rfl | rfl | rfl : i = 0 ∨ i = 1 ∨ i = 2 ∨ i = 3 ∨ i = 4 ∨ i = 5 ∨ i = 6 ∨ i = 7 ∨ i = 8 ∨ i = 9 ∨ i = 10 ∨ i = 11 ∨ i = 12 ∨ i = 13 ∨ i = 14 ∨ i = 15 ∨ i = 16 ∨ i = 17 ∨ i = 18 ∨ i = 19 ∨ i = 20 ∨ i = 21 ∨ i = 22 ∨ i = 23 ∨ i = 24 ∨ i = 25 ∨ i = 26 := by omega
      · simp only [List.getElem?_toArray, List.getElem?_cons_zero, List.getElem?_cons_succ, Option.some.injEq] at ho
        subst ho
        have hMB := hM0.below HLD hi (by decide) hl
        have hMG := hM0.get HLD hi (by decide) hl
        have hdp : ∀ e ∈ dep 0, l.getD e false = true := by rw [d0]; exact dep_nil
        have e := k0
        clear k0 k1 k2 k3 k4 k5 k6 k7 k8 k9 k10 k11 k12 k13 k14 k15 k16 k17 k18 k19 k20 k21 k22 k23 k24 k25 k26 d0 d1 d2 d3 d4 d5 d6 d7 d8 d9 d10 d11 d12 d13 d14 d15 d16 d17 d18 d19 d20 d21 d22 d23 d24 d25 d26 hst st0 st1 st2 st3 st4 st5 st6 st7 st8 st9 st10 st11 st12 st13 st14 st15 st16 st17 st18 st19 st20 st21 st22 st23 st24 st25 st26
        go_simp
        exact hK.out _ _ ⟨updV vs 0 (.int .i64 fl), rfl, hM0.still HLD HST 0 (by decide) (by decide) hl _ hdp ((e _ _).2 rfl)⟩
      · simp only [List.getElem?_toArray, List.getElem?_cons_zero, List.getElem?_cons_succ, Option.some.injEq] at ho
        subst ho
        have hMB := hM0.below HLD hi (by decide) hl
        have hMG := hM0.get HLD hi (by decide) hl
        have hdp : ∀ e ∈ dep 1, l.getD e false = true := by rw [d1]; exact dep_nil
        have e := k1
        clear k0 k1 k2 k3 k4 k5 k6 k7 k8 k9 k10 k11 k12 k13 k14 k15 k16 k17 k18 k19 k20 k21 k22 k23 k24 k25 k26 d0 d1 d2 d3 d4 d5 d6 d7 d8 d9 d10 d11 d12 d13 d14 d15 d16 d17 d18 d19 d20 d21 d22 d23 d24 d25 d26 hst st0 st1 st2 st3 st4 st5 st6 st7 st8 st9 st10 st11 st12 st13 st14 st15 st16 st17 st18 st19 st20 st21 st22 st23 st24 st25 st26
        have x0 := keepW hMB z0
        have x1 := keepW hMB z1
        have x2 := keepW hMB z2
        have x3 := keepW hMB z3
        have x4 := keepW hMB z4
        go_simp
        exact hK.out _ _ ⟨updV vs 1 (.agg #[.slice Ac t.cols.length kc, .int .i64 t.head, .int .i64 t.foot, .slice Ar t.rows.length kr, .int .i64 t.gap]), rfl, hM0.still HLD HST 1 (by decide) (by decide) hl _ hdp ((e _ _).2 rfl)⟩
      · simp only [List.getElem?_toArray, List.getElem?_cons_zero, List.getElem?_cons_succ, Option.some.injEq] at ho
        subst ho
        have hMB := hM0.below HLD hi (by decide) hl
        have hMG := hM0.get HLD hi (by decide) hl
        have v1 : vs 1 = .agg #[.slice Ac t.cols.length kc, .int .i64 t.head, .int .i64 t.foot, .slice Ar t.rows.length kr, .int .i64 t.gap] := (k1 _ _).1 (hMG 1 (by decide) (hpre ⟨1, .data⟩ (by simp) rfl))
        have hdp : ∀ e ∈ dep 2, l.getD e false = true := by rw [d2]; exact (dep_cons (hpre ⟨1, .data⟩ (by simp) rfl) dep_nil)
        have e := k2
        clear k0 k1 k2 k3 k4 k5 k6 k7 k8 k9 k10 k11 k12 k13 k14 k15 k16 k17 k18 k19 k20 k21 k22 k23 k24 k25 k26 d0 d1 d2 d3 d4 d5 d6 d7 d8 d9 d10 d11 d12 d13 d14 d15 d16 d17 d18 d19 d20 d21 d22 d23 d24 d25 d26 hst st0 st1 st2 st3 st4 st5 st6 st7 st8 st9 st10 st11 st12 st13 st14 st15 st16 st17 st18 st19 st20 st21 st22 st23 st24 st25 st26
        rw [v1]
        go_simp
        refine (HCL.out _ hMB).mono ?_
        rintro e5 W5 ⟨A5, d5, rfl, hr5, hb5⟩
        exact hK.out _ _ ⟨updV vs 2 (.slice A5 m d5), (by simp [updV, v1]), hM0.next HLD HST 2 (by decide) (by decide) hl _ hdp hb5 ((e _ _).2 ⟨A5, d5, rfl, hr5⟩)⟩
      · simp only [List.getElem?_toArray, List.getElem?_cons_zero, List.getElem?_cons_succ, Option.some.injEq] at ho
        subst ho
        have hMB := hM0.below HLD hi (by decide) hl
        have hMG := hM0.get HLD hi (by decide) hl
        obtain ⟨Aq2, dq2, v2, q2⟩ := (k2 _ _).1 (hMG 2 (by decide) (hpre ⟨2, .data⟩ (by simp) rfl))
        have hdp : ∀ e ∈ dep 3, l.getD e false = true := by rw [d3]; exact (dep_cons (hpre ⟨2, .data⟩ (by simp) rfl) dep_nil)
        have e := k3
        clear k0 k1 k2 k3 k4 k5 k6 k7 k8 k9 k10 k11 k12 k13 k14 k15 k16 k17 k18 k19 k20 k21 k22 k23 k24 k25 k26 d0 d1 d2 d3 d4 d5 d6 d7 d8 d9 d10 d11 d12 d13 d14 d15 d16 d17 d18 d19 d20 d21 d22 d23 d24 d25 d26 hst st0 st1 st2 st3 st4 st5 st6 st7 st8 st9 st10 st11 st12 st13 st14 st15 st16 st17 st18 st19 st20 st21 st22 st23 st24 st25 st26
        rw [v2]
        go_simp
        refine (HPS.out _ Aq2 dq2 q2).mono ?_
        rintro e5 W5 ⟨rfl, hq⟩
        exact hK.out _ _ ⟨updV vs 3 (.int .i64 sx), (by simp [updV, v2]), hM0.next HLD HST 3 (by decide) (by decide) hl _ hdp (by rw [hq]; exact brefl _) ((e _ _).2 rfl)⟩
      · simp only [List.getElem?_toArray, List.getElem?_cons_zero, List.getElem?_cons_succ, Option.some.injEq] at ho
        subst ho
        have hMB := hM0.below HLD hi (by decide) hl
        have hMG := hM0.get HLD hi (by decide) hl
        have hdp : ∀ e ∈ dep 4, l.getD e false = true := by rw [d4]; exact dep_nil
        have e := k4
        clear k0 k1 k2 k3 k4 k5 k6 k7 k8 k9 k10 k11 k12 k13 k14 k15 k16 k17 k18 k19 k20 k21 k22 k23 k24 k25 k26 d0 d1 d2 d3 d4 d5 d6 d7 d8 d9 d10 d11 d12 d13 d14 d15 d16 d17 d18 d19 d20 d21 d22 d23 d24 d25 d26 hst st0 st1 st2 st3 st4 st5 st6 st7 st8 st9 st10 st11 st12 st13 st14 st15 st16 st17 st18 st19 st20 st21 st22 st23 st24 st25 st26
        go_simp
        exact hK.out _ _ ⟨updV vs 4 (.pointer (some ⟨W1.heap.size, 4, none⟩)), rfl, hM0.still HLD HST 4 (by decide) (by decide) hl _ hdp ((e _ _).2 rfl)⟩
      · simp only [List.getElem?_toArray, List.getElem?_cons_zero, List.getElem?_cons_succ, Option.some.injEq] at ho
        subst ho
        have hMB := hM0.below HLD hi (by decide) hl
        have hMG := hM0.get HLD hi (by decide) hl
        have v4 : vs 4 = .pointer (some ⟨W1.heap.size, 4, none⟩) := (k4 _ _).1 (hMG 4 (by decide) (hpre ⟨4, .data⟩ (by simp) rfl))
        have hdp : ∀ e ∈ dep 5, l.getD e false = true := by rw [d5]; exact (dep_cons (hpre ⟨4, .data⟩ (by simp) rfl) dep_nil)
        have e := k5
        clear k0 k1 k2 k3 k4 k5 k6 k7 k8 k9 k10 k11 k12 k13 k14 k15 k16 k17 k18 k19 k20 k21 k22 k23 k24 k25 k26 d0 d1 d2 d3 d4 d5 d6 d7 d8 d9 d10 d11 d12 d13 d14 d15 d16 d17 d18 d19 d20 d21 d22 d23 d24 d25 d26 hst st0 st1 st2 st3 st4 st5 st6 st7 st8 st9 st10 st11 st12 st13 st14 st15 st16 st17 st18 st19 st20 st21 st22 st23 st24 st25 st26
        have x0 := keepW hMB z4
        rw [v4]
        go_simp
        exact hK.out _ _ ⟨updV vs 5 (.int .i64 t.gap), (by simp [updV, v4]), hM0.still HLD HST 5 (by decide) (by decide) hl _ hdp ((e _ _).2 rfl)⟩
      · simp only [List.getElem?_toArray, List.getElem?_cons_zero, List.getElem?_cons_succ, Option.some.injEq] at ho
        subst ho
        have hMB := hM0.below HLD hi (by decide) hl
        have hMG := hM0.get HLD hi (by decide) hl
        have hdp : ∀ e ∈ dep 6, l.getD e false = true := by rw [d6]; exact dep_nil
        have e := k6
        clear k0 k1 k2 k3 k4 k5 k6 k7 k8 k9 k10 k11 k12 k13 k14 k15 k16 k17 k18 k19 k20 k21 k22 k23 k24 k25 k26 d0 d1 d2 d3 d4 d5 d6 d7 d8 d9 d10 d11 d12 d13 d14 d15 d16 d17 d18 d19 d20 d21 d22 d23 d24 d25 d26 hst st0 st1 st2 st3 st4 st5 st6 st7 st8 st9 st10 st11 st12 st13 st14 st15 st16 st17 st18 st19 st20 st21 st22 st23 st24 st25 st26
        have x0 := keepW hMB z0
        have x1 := keepW hMB z1
        have x2 := keepW hMB z2
        have x3 := keepW hMB z3
        have x4 := keepW hMB z4
        go_simp
        exact hK.out _ _ ⟨updV vs 6 (.agg #[.slice Ac t.cols.length kc, .int .i64 t.head, .int .i64 t.foot, .slice Ar t.rows.length kr, .int .i64 t.gap]), rfl, hM0.still HLD HST 6 (by decide) (by decide) hl _ hdp ((e _ _).2 rfl)⟩
      · simp only [List.getElem?_toArray, List.getElem?_cons_zero, List.getElem?_cons_succ, Option.some.injEq] at ho
        subst ho
        have hMB := hM0.below HLD hi (by decide) hl
        have hMG := hM0.get HLD hi (by decide) hl
        have v6 : vs 6 = .agg #[.slice Ac t.cols.length kc, .int .i64 t.head, .int .i64 t.foot, .slice Ar t.rows.length kr, .int .i64 t.gap] := (k6 _ _).1 (hMG 6 (by decide) (hpre ⟨6, .data⟩ (by simp) rfl))
        have v3 : vs 3 = .int .i64 sx := (k3 _ _).1 (hMG 3 (by decide) (hpre ⟨3, .chain⟩ (by simp) rfl))
        have hdp : ∀ e ∈ dep 7, l.getD e false = true := by rw [d7]; exact (dep_cons (hpre ⟨6, .data⟩ (by simp) rfl) (dep_cons (hpre ⟨3, .chain⟩ (by simp) rfl) dep_nil))
        have e := k7
        clear k0 k1 k2 k3 k4 k5 k6 k7 k8 k9 k10 k11 k12 k13 k14 k15 k16 k17 k18 k19 k20 k21 k22 k23 k24 k25 k26 d0 d1 d2 d3 d4 d5 d6 d7 d8 d9 d10 d11 d12 d13 d14 d15 d16 d17 d18 d19 d20 d21 d22 d23 d24 d25 d26 hst st0 st1 st2 st3 st4 st5 st6 st7 st8 st9 st10 st11 st12 st13 st14 st15 st16 st17 st18 st19 st20 st21 st22 st23 st24 st25 st26
        rw [v6, v3]
        go_simp
        refine (HGO.out _ hMB).mono ?_
        rintro e5 W5 ⟨A5, l5, d5, rfl, hb5⟩
        exact hK.out _ _ ⟨updV vs 7 (.agg #[.int .i64 ↑t.rows.length, .int .i64 ↑m, .slice A5 l5 d5]), (by simp [updV, v6, v3]), hM0.next HLD HST 7 (by decide) (by decide) hl _ hdp hb5 ((e _ _).2 ⟨A5, l5, d5, rfl, trivial⟩)⟩
      · simp only [List.getElem?_toArray, List.getElem?_cons_zero, List.getElem?_cons_succ, Option.some.injEq] at ho
        subst ho
        have hMB := hM0.below HLD hi (by decide) hl
        have hMG := hM0.get HLD hi (by decide) hl
        obtain ⟨Ag, lg, dg, v7, q7⟩ := (k7 _ _).1 (hMG 7 (by decide) (hpre ⟨7, .data⟩ (by simp) rfl))
        have hdp : ∀ e ∈ dep 8, l.getD e false = true := by rw [d8]; exact (dep_cons (hpre ⟨7, .data⟩ (by simp) rfl) dep_nil)
        have e := k8
        clear k0 k1 k2 k3 k4 k5 k6 k7 k8 k9 k10 k11 k12 k13 k14 k15 k16 k17 k18 k19 k20 k21 k22 k23 k24 k25 k26 d0 d1 d2 d3 d4 d5 d6 d7 d8 d9 d10 d11 d12 d13 d14 d15 d16 d17 d18 d19 d20 d21 d22 d23 d24 d25 d26 hst st0 st1 st2 st3 st4 st5 st6 st7 st8 st9 st10 st11 st12 st13 st14 st15 st16 st17 st18 st19 st20 st21 st22 st23 st24 st25 st26
        have hfg := fieldG
        rw [v7]
        go_simp
        exact hK.out _ _ ⟨updV vs 8 (.int .i64 ↑m), (by simp [updV, v7]), hM0.still HLD HST 8 (by decide) (by decide) hl _ hdp ((e _ _).2 rfl)⟩
      · simp only [List.getElem?_toArray, List.getElem?_cons_zero, List.getElem?_cons_succ, Option.some.injEq] at ho
        subst ho
        have hMB := hM0.below HLD hi (by decide) hl
        have hMG := hM0.get HLD hi (by decide) hl
        have v8 : vs 8 = .int .i64 ↑m := (k8 _ _).1 (hMG 8 (by decide) (hpre ⟨8, .data⟩ (by simp) rfl))
        have hdp : ∀ e ∈ dep 9, l.getD e false = true := by rw [d9]; exact (dep_cons (hpre ⟨8, .data⟩ (by simp) rfl) dep_nil)
        have e := k9
        clear k0 k1 k2 k3 k4 k5 k6 k7 k8 k9 k10 k11 k12 k13 k14 k15 k16 k17 k18 k19 k20 k21 k22 k23 k24 k25 k26 d0 d1 d2 d3 d4 d5 d6 d7 d8 d9 d10 d11 d12 d13 d14 d15 d16 d17 d18 d19 d20 d21 d22 d23 d24 d25 d26 hst st0 st1 st2 st3 st4 st5 st6 st7 st8 st9 st10 st11 st12 st13 st14 st15 st16 st17 st18 st19 st20 st21 st22 st23 st24 st25 st26
        rw [v8]
        go_simp
        exact hK.out _ _ ⟨updV vs 9 (.int .i64 (↑m - 1)), (by simp [updV, v8]), hM0.still HLD HST 9 (by decide) (by decide) hl _ hdp ((e _ _).2 rfl)⟩
      · simp only [List.getElem?_toArray, List.getElem?_cons_zero, List.getElem?_cons_succ, Option.some.injEq] at ho
        subst ho
        have hMB := hM0.below HLD hi (by decide) hl
        have hMG := hM0.get HLD hi (by decide) hl
        have v5 : vs 5 = .int .i64 t.gap := (k5 _ _).1 (hMG 5 (by decide) (hpre ⟨5, .data⟩ (by simp) rfl))
        have v9 : vs 9 = .int .i64 (↑m - 1) := (k9 _ _).1 (hMG 9 (by decide) (hpre ⟨9, .data⟩ (by simp) rfl))
        have hdp : ∀ e ∈ dep 10, l.getD e false = true := by rw [d10]; exact (dep_cons (hpre ⟨5, .data⟩ (by simp) rfl) (dep_cons (hpre ⟨9, .data⟩ (by simp) rfl) dep_nil))
        have e := k10
        clear k0 k1 k2 k3 k4 k5 k6 k7 k8 k9 k10 k11 k12 k13 k14 k15 k16 k17 k18 k19 k20 k21 k22 k23 k24 k25 k26 d0 d1 d2 d3 d4 d5 d6 d7 d8 d9 d10 d11 d12 d13 d14 d15 d16 d17 d18 d19 d20 d21 d22 d23 d24 d25 d26 hst st0 st1 st2 st3 st4 st5 st6 st7 st8 st9 st10 st11 st12 st13 st14 st15 st16 st17 st18 st19 st20 st21 st22 st23 st24 st25 st26
        rw [v5, v9]
        go_simp
        exact hK.out _ _ ⟨updV vs 10 (.int .i64 gp), (by simp [updV, v5, v9]), hM0.still HLD HST 10 (by decide) (by decide) hl _ hdp ((e _ _).2 rfl)⟩
      · simp only [List.getElem?_toArray, List.getElem?_cons_zero, List.getElem?_cons_succ, Option.some.injEq] at ho
        subst ho
        have hMB := hM0.below HLD hi (by decide) hl
        have hMG := hM0.get HLD hi (by decide) hl
        have v3 : vs 3 = .int .i64 sx := (k3 _ _).1 (hMG 3 (by decide) (hpre ⟨3, .data⟩ (by simp) rfl))
        have v10 : vs 10 = .int .i64 gp := (k10 _ _).1 (hMG 10 (by decide) (hpre ⟨10, .data⟩ (by simp) rfl))
        have hdp : ∀ e ∈ dep 11, l.getD e false = true := by rw [d11]; exact (dep_cons (hpre ⟨3, .data⟩ (by simp) rfl) (dep_cons (hpre ⟨10, .data⟩ (by simp) rfl) dep_nil))
        have e := k11
        clear k0 k1 k2 k3 k4 k5 k6 k7 k8 k9 k10 k11 k12 k13 k14 k15 k16 k17 k18 k19 k20 k21 k22 k23 k24 k25 k26 d0 d1 d2 d3 d4 d5 d6 d7 d8 d9 d10 d11 d12 d13 d14 d15 d16 d17 d18 d19 d20 d21 d22 d23 d24 d25 d26 hst st0 st1 st2 st3 st4 st5 st6 st7 st8 st9 st10 st11 st12 st13 st14 st15 st16 st17 st18 st19 st20 st21 st22 st23 st24 st25 st26
        rw [v3, v10]
        go_simp
        exact hK.out _ _ ⟨updV vs 11 (.int .i64 fl), (by simp [updV, v3, v10]), hM0.still HLD HST 11 (by decide) (by decide) hl _ hdp ((e _ _).2 rfl)⟩
      · simp only [List.getElem?_toArray, List.getElem?_cons_zero, List.getElem?_cons_succ, Option.some.injEq] at ho
        subst ho
        have hMB := hM0.below HLD hi (by decide) hl
        have hMG := hM0.get HLD hi (by decide) hl
        have v0 : vs 0 = .int .i64 fl := (k0 _ _).1 (hMG 0 (by decide) (hpre ⟨0, .data⟩ (by simp) rfl))
        have v11 : vs 11 = .int .i64 fl := (k11 _ _).1 (hMG 11 (by decide) (hpre ⟨11, .data⟩ (by simp) rfl))
        have hdp : ∀ e ∈ dep 12, l.getD e false = true := by rw [d12]; exact (dep_cons (hpre ⟨0, .data⟩ (by simp) rfl) (dep_cons (hpre ⟨11, .data⟩ (by simp) rfl) dep_nil))
        have e := k12
        clear k0 k1 k2 k3 k4 k5 k6 k7 k8 k9 k10 k11 k12 k13 k14 k15 k16 k17 k18 k19 k20 k21 k22 k23 k24 k25 k26 d0 d1 d2 d3 d4 d5 d6 d7 d8 d9 d10 d11 d12 d13 d14 d15 d16 d17 d18 d19 d20 d21 d22 d23 d24 d25 d26 hst st0 st1 st2 st3 st4 st5 st6 st7 st8 st9 st10 st11 st12 st13 st14 st15 st16 st17 st18 st19 st20 st21 st22 st23 st24 st25 st26
        rw [v0, v11]
        go_simp
        exact hK.out _ _ ⟨updV vs 12 (.bool true), (by simp [updV, v0, v11]), hM0.still HLD HST 12 (by decide) (by decide) hl _ hdp ((e _ _).2 rfl)⟩
      · simp only [List.getElem?_toArray, List.getElem?_cons_zero, List.getElem?_cons_succ, Option.some.injEq] at ho
        subst ho
        have hMB := hM0.below HLD hi (by decide) hl
        have hMG := hM0.get HLD hi (by decide) hl
        have v12 : vs 12 = .bool true := (k12 _ _).1 (hMG 12 (by decide) (hpre ⟨12, .data⟩ (by simp) rfl))
        obtain ⟨Ag, lg, dg, v7, q7⟩ := (k7 _ _).1 (hMG 7 (by decide) (hpre ⟨7, .chain⟩ (by simp) rfl))
        have hdp : ∀ e ∈ dep 13, l.getD e false = true := by rw [d13]; exact (dep_cons (hpre ⟨12, .data⟩ (by simp) rfl) (dep_cons (hpre ⟨7, .chain⟩ (by simp) rfl) dep_nil))
        have e := k13
        clear k0 k1 k2 k3 k4 k5 k6 k7 k8 k9 k10 k11 k12 k13 k14 k15 k16 k17 k18 k19 k20 k21 k22 k23 k24 k25 k26 d0 d1 d2 d3 d4 d5 d6 d7 d8 d9 d10 d11 d12 d13 d14 d15 d16 d17 d18 d19 d20 d21 d22 d23 d24 d25 d26 hst st0 st1 st2 st3 st4 st5 st6 st7 st8 st9 st10 st11 st12 st13 st14 st15 st16 st17 st18 st19 st20 st21 st22 st23 st24 st25 st26
        rw [v12, v7]
        go_simp
        exact hK.out _ _ ⟨updV vs 13 (.bool true), (by simp [updV, v12, v7]), hM0.still HLD HST 13 (by decide) (by decide) hl _ hdp ((e _ _).2 rfl)⟩
      · simp only [List.getElem?_toArray, List.getElem?_cons_zero, List.getElem?_cons_succ, Option.some.injEq] at ho
        subst ho
        have hMB := hM0.below HLD hi (by decide) hl
        have hMG := hM0.get HLD hi (by decide) hl
        have v13 : vs 13 = .bool true := (k13 _ _).1 (hMG 13 (by decide) (hpre ⟨13, .guard⟩ (by simp) rfl))
        have hdp : ∀ e ∈ dep 14, l.getD e false = true := by rw [d14]; exact (dep_cons (hpre ⟨13, .guard⟩ (by simp) rfl) dep_nil)
        have e := k14
        clear k0 k1 k2 k3 k4 k5 k6 k7 k8 k9 k10 k11 k12 k13 k14 k15 k16 k17 k18 k19 k20 k21 k22 k23 k24 k25 k26 d0 d1 d2 d3 d4 d5 d6 d7 d8 d9 d10 d11 d12 d13 d14 d15 d16 d17 d18 d19 d20 d21 d22 d23 d24 d25 d26 hst st0 st1 st2 st3 st4 st5 st6 st7 st8 st9 st10 st11 st12 st13 st14 st15 st16 st17 st18 st19 st20 st21 st22 st23 st24 st25 st26
        have x0 := keepW hMB z0
        have x1 := keepW hMB z1
        have x2 := keepW hMB z2
        have x3 := keepW hMB z3
        have x4 := keepW hMB z4
        rw [v13]
        go_simp
        exact hK.out _ _ ⟨updV vs 14 (.agg #[.slice Ac t.cols.length kc, .int .i64 t.head, .int .i64 t.foot, .slice Ar t.rows.length kr, .int .i64 t.gap]), (by simp [updV, v13]), hM0.still HLD HST 14 (by decide) (by decide) hl _ hdp ((e _ _).2 rfl)⟩
      · simp only [List.getElem?_toArray, List.getElem?_cons_zero, List.getElem?_cons_succ, Option.some.injEq] at ho
        subst ho
        have hMB := hM0.below HLD hi (by decide) hl
        have hMG := hM0.get HLD hi (by decide) hl
        have v14 : vs 14 = .agg #[.slice Ac t.cols.length kc, .int .i64 t.head, .int .i64 t.foot, .slice Ar t.rows.length kr, .int .i64 t.gap] := (k14 _ _).1 (hMG 14 (by decide) (hpre ⟨14, .data⟩ (by simp) rfl))
        have v13 : vs 13 = .bool true := (k13 _ _).1 (hMG 13 (by decide) (hpre ⟨13, .chain⟩ (by simp) rfl))
        have hdp : ∀ e ∈ dep 15, l.getD e false = true := by rw [d15]; exact (dep_cons (hpre ⟨14, .data⟩ (by simp) rfl) (dep_cons (hpre ⟨13, .chain⟩ (by simp) rfl) dep_nil))
        have e := k15
        clear k0 k1 k2 k3 k4 k5 k6 k7 k8 k9 k10 k11 k12 k13 k14 k15 k16 k17 k18 k19 k20 k21 k22 k23 k24 k25 k26 d0 d1 d2 d3 d4 d5 d6 d7 d8 d9 d10 d11 d12 d13 d14 d15 d16 d17 d18 d19 d20 d21 d22 d23 d24 d25 d26 hst st0 st1 st2 st3 st4 st5 st6 st7 st8 st9 st10 st11 st12 st13 st14 st15 st16 st17 st18 st19 st20 st21 st22 st23 st24 st25 st26
        rw [v14, v13]
        go_simp
        refine (HWT.out _ hMB).mono ?_
        rintro e5 W5 ⟨rfl, hb5⟩
        exact hK.out _ _ ⟨updV vs 15 (.int .i64 fl), (by simp [updV, v14, v13]), hM0.next HLD HST 15 (by decide) (by decide) hl _ hdp hb5 ((e _ _).2 rfl)⟩
      · simp only [List.getElem?_toArray, List.getElem?_cons_zero, List.getElem?_cons_succ, Option.some.injEq] at ho
        subst ho
        have hMB := hM0.below HLD hi (by decide) hl
        have hMG := hM0.get HLD hi (by decide) hl
        have v13 : vs 13 = .bool true := (k13 _ _).1 (hMG 13 (by decide) (hpre ⟨13, .guard⟩ (by simp) rfl))
        have hdp : ∀ e ∈ dep 16, l.getD e false = true := by rw [d16]; exact (dep_cons (hpre ⟨13, .guard⟩ (by simp) rfl) dep_nil)
        have e := k16
        clear k0 k1 k2 k3 k4 k5 k6 k7 k8 k9 k10 k11 k12 k13 k14 k15 k16 k17 k18 k19 k20 k21 k22 k23 k24 k25 k26 d0 d1 d2 d3 d4 d5 d6 d7 d8 d9 d10 d11 d12 d13 d14 d15 d16 d17 d18 d19 d20 d21 d22 d23 d24 d25 d26 hst st0 st1 st2 st3 st4 st5 st6 st7 st8 st9 st10 st11 st12 st13 st14 st15 st16 st17 st18 st19 st20 st21 st22 st23 st24 st25 st26
        rw [v13]
        go_simp
        exact hK.out _ _ ⟨updV vs 16 (.int .i64 fl), (by simp [updV, v13]), hM0.still HLD HST 16 (by decide) (by decide) hl _ hdp ((e _ _).2 rfl)⟩
      · simp only [List.getElem?_toArray, List.getElem?_cons_zero, List.getElem?_cons_succ, Option.some.injEq] at ho
        subst ho
        have hMB := hM0.below HLD hi (by decide) hl
        have hMG := hM0.get HLD hi (by decide) hl
        have v15 : vs 15 = .int .i64 fl := (k15 _ _).1 (hMG 15 (by decide) (hpre ⟨15, .data⟩ (by simp) rfl))
        have v16 : vs 16 = .int .i64 fl := (k16 _ _).1 (hMG 16 (by decide) (hpre ⟨16, .data⟩ (by simp) rfl))
        have v13 : vs 13 = .bool true := (k13 _ _).1 (hMG 13 (by decide) (hpre ⟨13, .guard⟩ (by simp) rfl))
        have hdp : ∀ e ∈ dep 17, l.getD e false = true := by rw [d17]; exact (dep_cons (hpre ⟨15, .data⟩ (by simp) rfl) (dep_cons (hpre ⟨16, .data⟩ (by simp) rfl) (dep_cons (hpre ⟨13, .guard⟩ (by simp) rfl) dep_nil)))
        have e := k17
        clear k0 k1 k2 k3 k4 k5 k6 k7 k8 k9 k10 k11 k12 k13 k14 k15 k16 k17 k18 k19 k20 k21 k22 k23 k24 k25 k26 d0 d1 d2 d3 d4 d5 d6 d7 d8 d9 d10 d11 d12 d13 d14 d15 d16 d17 d18 d19 d20 d21 d22 d23 d24 d25 d26 hst st0 st1 st2 st3 st4 st5 st6 st7 st8 st9 st10 st11 st12 st13 st14 st15 st16 st17 st18 st19 st20 st21 st22 st23 st24 st25 st26
        rw [v15, v16, v13]
        go_simp
        exact hK.out _ _ ⟨updV vs 17 (.bool true), (by simp [updV, v15, v16, v13]), hM0.still HLD HST 17 (by decide) (by decide) hl _ hdp ((e _ _).2 rfl)⟩
      · simp only [List.getElem?_toArray, List.getElem?_cons_zero, List.getElem?_cons_succ, Option.some.injEq] at ho
        subst ho
        have hMB := hM0.below HLD hi (by decide) hl
        have hMG := hM0.get HLD hi (by decide) hl
        have v13 : vs 13 = .bool true := (k13 _ _).1 (hMG 13 (by decide) (hpre ⟨13, .data⟩ (by simp) rfl))
        have v17 : vs 17 = .bool true := (k17 _ _).1 (hMG 17 (by decide) (hpre ⟨17, .data⟩ (by simp) rfl))
        have hdp : ∀ e ∈ dep 18, l.getD e false = true := by rw [d18]; exact (dep_cons (hpre ⟨13, .data⟩ (by simp) rfl) (dep_cons (hpre ⟨17, .data⟩ (by simp) rfl) dep_nil))
        have e := k18
        clear k0 k1 k2 k3 k4 k5 k6 k7 k8 k9 k10 k11 k12 k13 k14 k15 k16 k17 k18 k19 k20 k21 k22 k23 k24 k25 k26 d0 d1 d2 d3 d4 d5 d6 d7 d8 d9 d10 d11 d12 d13 d14 d15 d16 d17 d18 d19 d20 d21 d22 d23 d24 d25 d26 hst st0 st1 st2 st3 st4 st5 st6 st7 st8 st9 st10 st11 st12 st13 st14 st15 st16 st17 st18 st19 st20 st21 st22 st23 st24 st25 st26
        rw [v13, v17]
        go_simp
        exact hK.out _ _ ⟨updV vs 18 (.bool true), (by simp [updV, v13, v17]), hM0.still HLD HST 18 (by decide) (by decide) hl _ hdp ((e _ _).2 rfl)⟩
      · simp only [List.getElem?_toArray, List.getElem?_cons_zero, List.getElem?_cons_succ, Option.some.injEq] at ho
        subst ho
        have hMB := hM0.below HLD hi (by decide) hl
        have hMG := hM0.get HLD hi (by decide) hl
        have v18 : vs 18 = .bool true := (k18 _ _).1 (hMG 18 (by decide) (hpre ⟨18, .data⟩ (by simp) rfl))
        have v15 : vs 15 = .int .i64 fl := (k15 _ _).1 (hMG 15 (by decide) (hpre ⟨15, .chain⟩ (by simp) rfl))
        have hdp : ∀ e ∈ dep 19, l.getD e false = true := by rw [d19]; exact (dep_cons (hpre ⟨18, .data⟩ (by simp) rfl) (dep_cons (hpre ⟨15, .chain⟩ (by simp) rfl) dep_nil))
        have e := k19
        clear k0 k1 k2 k3 k4 k5 k6 k7 k8 k9 k10 k11 k12 k13 k14 k15 k16 k17 k18 k19 k20 k21 k22 k23 k24 k25 k26 d0 d1 d2 d3 d4 d5 d6 d7 d8 d9 d10 d11 d12 d13 d14 d15 d16 d17 d18 d19 d20 d21 d22 d23 d24 d25 d26 hst st0 st1 st2 st3 st4 st5 st6 st7 st8 st9 st10 st11 st12 st13 st14 st15 st16 st17 st18 st19 st20 st21 st22 st23 st24 st25 st26
        rw [v18, v15]
        go_simp
        exact hK.out _ _ ⟨updV vs 19 (.bool true), (by simp [updV, v18, v15]), hM0.still HLD HST 19 (by decide) (by decide) hl _ hdp ((e _ _).2 rfl)⟩
      · simp only [List.getElem?_toArray, List.getElem?_cons_zero, List.getElem?_cons_succ, Option.some.injEq] at ho
        subst ho
        have hMB := hM0.below HLD hi (by decide) hl
        have hMG := hM0.get HLD hi (by decide) hl
        have v19 : vs 19 = .bool true := (k19 _ _).1 (hMG 19 (by decide) (hpre ⟨19, .guard⟩ (by simp) rfl))
        have hdp : ∀ e ∈ dep 20, l.getD e false = true := by rw [d20]; exact (dep_cons (hpre ⟨19, .guard⟩ (by simp) rfl) dep_nil)
        have e := k20
        clear k0 k1 k2 k3 k4 k5 k6 k7 k8 k9 k10 k11 k12 k13 k14 k15 k16 k17 k18 k19 k20 k21 k22 k23 k24 k25 k26 d0 d1 d2 d3 d4 d5 d6 d7 d8 d9 d10 d11 d12 d13 d14 d15 d16 d17 d18 d19 d20 d21 d22 d23 d24 d25 d26 hst st0 st1 st2 st3 st4 st5 st6 st7 st8 st9 st10 st11 st12 st13 st14 st15 st16 st17 st18 st19 st20 st21 st22 st23 st24 st25 st26
        have x0 := keepW hMB z0
        have x1 := keepW hMB z1
        have x2 := keepW hMB z2
        have x3 := keepW hMB z3
        have x4 := keepW hMB z4
        rw [v19]
        go_simp
        exact hK.out _ _ ⟨updV vs 20 (.agg #[.slice Ac t.cols.length kc, .int .i64 t.head, .int .i64 t.foot, .slice Ar t.rows.length kr, .int .i64 t.gap]), (by simp [updV, v19]), hM0.still HLD HST 20 (by decide) (by decide) hl _ hdp ((e _ _).2 rfl)⟩
      · simp only [List.getElem?_toArray, List.getElem?_cons_zero, List.getElem?_cons_succ, Option.some.injEq] at ho
        subst ho
        have hMB := hM0.below HLD hi (by decide) hl
        have hMG := hM0.get HLD hi (by decide) hl
        have v20 : vs 20 = .agg #[.slice Ac t.cols.length kc, .int .i64 t.head, .int .i64 t.foot, .slice Ar t.rows.length kr, .int .i64 t.gap] := (k20 _ _).1 (hMG 20 (by decide) (hpre ⟨20, .data⟩ (by simp) rfl))
        have v19 : vs 19 = .bool true := (k19 _ _).1 (hMG 19 (by decide) (hpre ⟨19, .chain⟩ (by simp) rfl))
        have hdp : ∀ e ∈ dep 21, l.getD e false = true := by rw [d21]; exact (dep_cons (hpre ⟨20, .data⟩ (by simp) rfl) (dep_cons (hpre ⟨19, .chain⟩ (by simp) rfl) dep_nil))
        have e := k21
        clear k0 k1 k2 k3 k4 k5 k6 k7 k8 k9 k10 k11 k12 k13 k14 k15 k16 k17 k18 k19 k20 k21 k22 k23 k24 k25 k26 d0 d1 d2 d3 d4 d5 d6 d7 d8 d9 d10 d11 d12 d13 d14 d15 d16 d17 d18 d19 d20 d21 d22 d23 d24 d25 d26 hst st0 st1 st2 st3 st4 st5 st6 st7 st8 st9 st10 st11 st12 st13 st14 st15 st16 st17 st18 st19 st20 st21 st22 st23 st24 st25 st26
        rw [v20, v19]
        go_simp
        refine (HWC.out _ hMB).mono ?_
        rintro e5 W5 ⟨A5, d5, rfl, hr5, hb5⟩
        exact hK.out _ _ ⟨updV vs 21 (.slice A5 m d5), (by simp [updV, v20, v19]), hM0.next HLD HST 21 (by decide) (by decide) hl _ hdp hb5 ((e _ _).2 ⟨A5, d5, rfl, hr5⟩)⟩
      · simp only [List.getElem?_toArray, List.getElem?_cons_zero, List.getElem?_cons_succ, Option.some.injEq] at ho
        subst ho
        have hMB := hM0.below HLD hi (by decide) hl
        have hMG := hM0.get HLD hi (by decide) hl
        have v19 : vs 19 = .bool true := (k19 _ _).1 (hMG 19 (by decide) (hpre ⟨19, .guard⟩ (by simp) rfl))
        have hdp : ∀ e ∈ dep 22, l.getD e false = true := by rw [d22]; exact (dep_cons (hpre ⟨19, .guard⟩ (by simp) rfl) dep_nil)
        have e := k22
        clear k0 k1 k2 k3 k4 k5 k6 k7 k8 k9 k10 k11 k12 k13 k14 k15 k16 k17 k18 k19 k20 k21 k22 k23 k24 k25 k26 d0 d1 d2 d3 d4 d5 d6 d7 d8 d9 d10 d11 d12 d13 d14 d15 d16 d17 d18 d19 d20 d21 d22 d23 d24 d25 d26 hst st0 st1 st2 st3 st4 st5 st6 st7 st8 st9 st10 st11 st12 st13 st14 st15 st16 st17 st18 st19 st20 st21 st22 st23 st24 st25 st26
        have x0 := keepW hMB z0
        have x1 := keepW hMB z1
        have x2 := keepW hMB z2
        have x3 := keepW hMB z3
        have x4 := keepW hMB z4
        rw [v19]
        go_simp
        exact hK.out _ _ ⟨updV vs 22 (.agg #[.slice Ac t.cols.length kc, .int .i64 t.head, .int .i64 t.foot, .slice Ar t.rows.length kr, .int .i64 t.gap]), (by simp [updV, v19]), hM0.still HLD HST 22 (by decide) (by decide) hl _ hdp ((e _ _).2 rfl)⟩
      · simp only [List.getElem?_toArray, List.getElem?_cons_zero, List.getElem?_cons_succ, Option.some.injEq] at ho
        subst ho
        have hMB := hM0.below HLD hi (by decide) hl
        have hMG := hM0.get HLD hi (by decide) hl
        have v22 : vs 22 = .agg #[.slice Ac t.cols.length kc, .int .i64 t.head, .int .i64 t.foot, .slice Ar t.rows.length kr, .int .i64 t.gap] := (k22 _ _).1 (hMG 22 (by decide) (hpre ⟨22, .data⟩ (by simp) rfl))
        obtain ⟨Aq21, dq21, v21, q21⟩ := (k21 _ _).1 (hMG 21 (by decide) (hpre ⟨21, .chain⟩ (by simp) rfl))
        have v19 : vs 19 = .bool true := (k19 _ _).1 (hMG 19 (by decide) (hpre ⟨19, .guard⟩ (by simp) rfl))
        have hdp : ∀ e ∈ dep 23, l.getD e false = true := by rw [d23]; exact (dep_cons (hpre ⟨22, .data⟩ (by simp) rfl) (dep_cons (hpre ⟨21, .chain⟩ (by simp) rfl) (dep_cons (hpre ⟨19, .guard⟩ (by simp) rfl) dep_nil)))
        have e := k23
        clear k0 k1 k2 k3 k4 k5 k6 k7 k8 k9 k10 k11 k12 k13 k14 k15 k16 k17 k18 k19 k20 k21 k22 k23 k24 k25 k26 d0 d1 d2 d3 d4 d5 d6 d7 d8 d9 d10 d11 d12 d13 d14 d15 d16 d17 d18 d19 d20 d21 d22 d23 d24 d25 d26 hst st0 st1 st2 st3 st4 st5 st6 st7 st8 st9 st10 st11 st12 st13 st14 st15 st16 st17 st18 st19 st20 st21 st22 st23 st24 st25 st26
        rw [v22, v21, v19]
        go_simp
        refine (HCL.out _ hMB).mono ?_
        rintro e5 W5 ⟨A5, d5, rfl, hr5, hb5⟩
        exact hK.out _ _ ⟨updV vs 23 (.slice A5 m d5), (by simp [updV, v22, v21, v19]), hM0.next HLD HST 23 (by decide) (by decide) hl _ hdp hb5 ((e _ _).2 ⟨A5, d5, rfl, hr5⟩)⟩
      · simp only [List.getElem?_toArray, List.getElem?_cons_zero, List.getElem?_cons_succ, Option.some.injEq] at ho
        subst ho
        have hMB := hM0.below HLD hi (by decide) hl
        have hMG := hM0.get HLD hi (by decide) hl
        obtain ⟨Aq21, dq21, v21, q21⟩ := (k21 _ _).1 (hMG 21 (by decide) (hpre ⟨21, .data⟩ (by simp) rfl))
        obtain ⟨Aq23, dq23, v23, q23⟩ := (k23 _ _).1 (hMG 23 (by decide) (hpre ⟨23, .data⟩ (by simp) rfl))
        have v19 : vs 19 = .bool true := (k19 _ _).1 (hMG 19 (by decide) (hpre ⟨19, .guard⟩ (by simp) rfl))
        have hdp : ∀ e ∈ dep 24, l.getD e false = true := by rw [d24]; exact (dep_cons (hpre ⟨21, .data⟩ (by simp) rfl) (dep_cons (hpre ⟨23, .data⟩ (by simp) rfl) (dep_cons (hpre ⟨19, .guard⟩ (by simp) rfl) dep_nil)))
        have e := k24
        clear k0 k1 k2 k3 k4 k5 k6 k7 k8 k9 k10 k11 k12 k13 k14 k15 k16 k17 k18 k19 k20 k21 k22 k23 k24 k25 k26 d0 d1 d2 d3 d4 d5 d6 d7 d8 d9 d10 d11 d12 d13 d14 d15 d16 d17 d18 d19 d20 d21 d22 d23 d24 d25 d26 hst st0 st1 st2 st3 st4 st5 st6 st7 st8 st9 st10 st11 st12 st13 st14 st15 st16 st17 st18 st19 st20 st21 st22 st23 st24 st25 st26
        rw [v21, v23, v19]
        go_simp
        refine (HPI.out _ Aq21 dq21 Aq23 dq23 q21 q23).mono ?_
        rintro e5 W5 ⟨rfl, nq, hq⟩
        exact hK.out _ _ ⟨updV vs 24 (.bool true), (by simp [updV, v21, v23, v19]), hM0.next HLD HST 24 (by decide) (by decide) hl _ hdp (by rw [hq]; exact bdrewN (brefl _) _) ((e _ _).2 rfl)⟩
      · simp only [List.getElem?_toArray, List.getElem?_cons_zero, List.getElem?_cons_succ, Option.some.injEq] at ho
        subst ho
        have hMB := hM0.below HLD hi (by decide) hl
        have hMG := hM0.get HLD hi (by decide) hl
        have v19 : vs 19 = .bool true := (k19 _ _).1 (hMG 19 (by decide) (hpre ⟨19, .data⟩ (by simp) rfl))
        have v24 : vs 24 = .bool true := (k24 _ _).1 (hMG 24 (by decide) (hpre ⟨24, .data⟩ (by simp) rfl))
        have hdp : ∀ e ∈ dep 25, l.getD e false = true := by rw [d25]; exact (dep_cons (hpre ⟨19, .data⟩ (by simp) rfl) (dep_cons (hpre ⟨24, .data⟩ (by simp) rfl) dep_nil))
        have e := k25
        clear k0 k1 k2 k3 k4 k5 k6 k7 k8 k9 k10 k11 k12 k13 k14 k15 k16 k17 k18 k19 k20 k21 k22 k23 k24 k25 k26 d0 d1 d2 d3 d4 d5 d6 d7 d8 d9 d10 d11 d12 d13 d14 d15 d16 d17 d18 d19 d20 d21 d22 d23 d24 d25 d26 hst st0 st1 st2 st3 st4 st5 st6 st7 st8 st9 st10 st11 st12 st13 st14 st15 st16 st17 st18 st19 st20 st21 st22 st23 st24 st25 st26
        rw [v19, v24]
        go_simp
        exact hK.out _ _ ⟨updV vs 25 (.bool true), (by simp [updV, v19, v24]), hM0.still HLD HST 25 (by decide) (by decide) hl _ hdp ((e _ _).2 rfl)⟩
      · simp only [List.getElem?_toArray, List.getElem?_cons_zero, List.getElem?_cons_succ, Option.some.injEq] at ho
        subst ho
        have hMB := hM0.below HLD hi (by decide) hl
        have hMG := hM0.get HLD hi (by decide) hl
        have v25 : vs 25 = .bool true := (k25 _ _).1 (hMG 25 (by decide) (hpre ⟨25, .data⟩ (by simp) rfl))
        have v24 : vs 24 = .bool true := (k24 _ _).1 (hMG 24 (by decide) (hpre ⟨24, .chain⟩ (by simp) rfl))
        have hdp : ∀ e ∈ dep 26, l.getD e false = true := by rw [d26]; exact (dep_cons (hpre ⟨25, .data⟩ (by simp) rfl) (dep_cons (hpre ⟨24, .chain⟩ (by simp) rfl) dep_nil))
        have e := k26
        clear k0 k1 k2 k3 k4 k5 k6 k7 k8 k9 k10 k11 k12 k13 k14 k15 k16 k17 k18 k19 k20 k21 k22 k23 k24 k25 k26 d0 d1 d2 d3 d4 d5 d6 d7 d8 d9 d10 d11 d12 d13 d14 d15 d16 d17 d18 d19 d20 d21 d22 d23 d24 d25 d26 hst st0 st1 st2 st3 st4 st5 st6 st7 st8 st9 st10 st11 st12 st13 st14 st15 st16 st17 st18 st19 st20 st21 st22 st23 st24 st25 st26
        rw [v25, v24]
        go_simp
        exact hK.out _ _ ⟨updV vs 26 (.bool true), (by simp [updV, v25, v24]), hM0.still HLD HST 26 (by decide) (by decide) hl _ hdp ((e _ _).2 rfl)⟩
    case fin =>
      rintro l a W9 hall ⟨vs9, rfl, hM0⟩
      obtain ⟨hMB, hMG⟩ := hM0.fin0 (by decide) hall
      have HBW := hide hMB
      have v26 : vs9 26 = .bool true := (k26 _ _).1 (hMG 26 (by decide))
      rw [v26]
      clear k0 k1 k2 k3 k4 k5 k6 k7 k8 k9 k10 k11 k12 k13 k14 k15 k16 k17 k18 k19 k20 k21 k22 k23 k24 k25 k26 d0 d1 d2 d3 d4 d5 d6 d7 d8 d9 d10 d11 d12 d13 d14 d15 d16 d17 d18 d19 d20 d21 d22 d23 d24 d25 d26 hst st0 st1 st2 st3 st4 st5 st6 st7 st8 st9 st10 st11 st12 st13 st14 st15 st16 st17 st18 st19 st20 st21 st22 st23 st24 st25 st26 HLD HST hMG v26 hMB hall hM0 st
      go_wp2_with fail
      go_ret
      exact ⟨rfl, step HBD.out HBW.out⟩
end Go.Proofs.YtpfagdmmhgcmnaaGreatDoor
