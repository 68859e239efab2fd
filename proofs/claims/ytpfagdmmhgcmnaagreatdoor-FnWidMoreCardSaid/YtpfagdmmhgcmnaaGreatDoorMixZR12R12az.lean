import Derived.Test.YtpfagdmmhgcmnaaGreatDoorMixZR12R12ay
import Derived.Test.YtpfagdmmhgcmnaaGreatDoorMixZR12R12aw
import Derived.Test.YtpfagdmmhgcmnaaGreatDoorMixZR12R12ax
import Derived.Test.YtpfagdmmhgcmnaaGreatDoorMixZR12R12ar
set_option linter.unusedVariables false
set_option linter.unusedSimpArgs false
namespace Go.Proofs.YtpfagdmmhgcmnaaGreatDoor
open Go.RowKit
/- How wide columns are: the reference's l6Cols. -/
set_option linter.unusedSimpArgs false in
set_option maxRecDepth 100000 in
set_option maxHeartbeats 40000000 in
theorem spec_l6Cols (t : Tbl) (A : Option Addr) (c : Nat) (A' : Option Addr) (c' : Nat) (gr : Int) (n : Nat) (cells : List GCell) (GA : Option Addr) (gc : Nat) (width : Int) (w : World) (hok : tblOk t = true) (hc : Rd colR w A t.cols) (hr : Rd rowR w A' t.rows) (hG : Rd gcR w GA cells)
    (hn : 1 ≤ n ∧ n ≤ 90) (hcell : ∀ x ∈ cells, CellIn n (fun c => leastT (textOf t c)) x ∧ CellAt t x ∧ 0 ≤ leastT (textOf t x))
    (hcell2 : ∀ x ∈ cells, CellIn n (fun c => wishT (textOf t c)) x ∧ CellAt t x ∧ 0 ≤ wishT (textOf t x)) (hcl : cells.length ≤ 1000) (hwd : 0 ≤ width ∧ width ≤ 300) :
    Calls Tryz.prog 95 #[.agg #[.slice A t.cols.length c, .int .i64 t.head, .int .i64 t.foot, .slice A' t.rows.length c', .int .i64 t.gap], .agg #[.int .i64 gr, .int .i64 n, .slice GA cells.length gc], .int .i64 width] w fun e w' => ∃ v, e = .returned v ∧ IOwn w' w.heap.size v (widths (kindT t) (numT t) width t.gap (leastL t cells n) (wishL t cells n)) ∧ Below w.heap.size w w' := by
  have hg := (tblOk_parts hok).2.2.1
  have hE := fun (W : World) (h : Below w.heap.size w W) => spec_l5Least t A c A' c' gr n cells GA gc W (hc.below h) (hr.below h) (hG.below h) hg ⟨hn.1, by omega⟩ hcell hcl
  have hH := fun (W : World) (h : Below w.heap.size w W) => spec_l5Wish t A c A' c' gr n cells GA gc W (hc.below h) (hr.below h) (hG.below h) hg ⟨hn.1, by omega⟩ hcell hcell2 hcl
  have hGP := fun (W : World) => spec_l5Gaps t A c A' c' gr n cells.length GA gc W ⟨hn.1, by omega⟩ hg
  obtain ⟨hlx, hbx⟩ := leastL_in hok hg.1 (fun x hx => (hcell x hx).1)
  obtain ⟨hly, hby⟩ := wishL_in hok hg.1 (fun x hx => (hcell x hx).1) (fun x hx => (hcell2 x hx).1)
  generalize leastL t cells n = X at hE hlx hbx hby ⊢
  generalize wishL t cells n = Y at hH hly hby ⊢
  have HLX := hide hlx
  have HLY := hide hly
  have HBX := hide hbx
  have HBY := hide hby
  have HOK := hide hok
  have HC := hide hc
  clear hc hr hG hcell hcell2 hlx hly hbx hby hok
  obtain ⟨V, hV⟩ : ∃ V, V = (w.alloc (.cells #[.slice A t.cols.length c, .int .i64 t.head, .int .i64 t.foot, .slice A' t.rows.length c', .int .i64 t.gap] 26)).alloc (.cells #[.int .i64 gr, .int .i64 n, .slice GA cells.length gc] 35) := ⟨_, rfl⟩
  have hB0 : Below w.heap.size w V := by rw [hV]; exact balloc (balloc (brefl w) _) _
  have hzV : V.heap.size = w.heap.size + 2 := by rw [hV]; simp
  have hKT : BlockAt V w.heap.size [.slice A t.cols.length c, .int .i64 t.head, .int .i64 t.foot, .slice A' t.rows.length c', .int .i64 t.gap] := by
    rw [hV]; exact (BlockAt.new w [.slice A t.cols.length c, .int .i64 t.head, .int .i64 t.foot, .slice A' t.rows.length c', .int .i64 t.gap] 26).keep ((balloc (brefl _) _).block w.heap.size (by simp))
  have hKG : BlockAt V (w.heap.size + 1) [.int .i64 gr, .int .i64 n, .slice GA cells.length gc] := by
    have h1 := BlockAt.new (w.alloc (.cells #[.slice A t.cols.length c, .int .i64 t.head, .int .i64 t.foot, .slice A' t.rows.length c', .int .i64 t.gap] 26)) [.int .i64 gr, .int .i64 n, .slice GA cells.length gc] 35
    have e1 : (w.alloc (.cells #[.slice A t.cols.length c, .int .i64 t.head, .int .i64 t.foot, .slice A' t.rows.length c', .int .i64 t.gap] 26)).heap.size = w.heap.size + 1 := by simp
    rw [e1] at h1
    rw [hV]; exact h1
  have hq : (fun U : World => (U.cell? ⟨w.heap.size, 0, none⟩ = some (.slice A t.cols.length c) ∧ U.cell? ⟨w.heap.size, 1, none⟩ = some (.int .i64 t.head) ∧ U.cell? ⟨w.heap.size, 2, none⟩ = some (.int .i64 t.foot) ∧ U.cell? ⟨w.heap.size, 3, none⟩ = some (.slice A' t.rows.length c') ∧ U.cell? ⟨w.heap.size, 4, none⟩ = some (.int .i64 t.gap)) ∧ U.cell? ⟨w.heap.size + 1, 0, none⟩ = some (.int .i64 gr) ∧ U.cell? ⟨w.heap.size + 1, 1, none⟩ = some (.int .i64 n) ∧ U.cell? ⟨w.heap.size + 1, 2, none⟩ = some (.slice GA cells.length gc)) V := ⟨⟨hKT.1 0 _ rfl, hKT.1 1 _ rfl, hKT.1 2 _ rfl, hKT.1 3 _ rfl, hKT.1 4 _ rfl⟩, hKG.1 0 _ rfl, hKG.1 1 _ rfl, hKG.1 2 _ rfl⟩
  have HK : Hid (∀ U : World, Below V.heap.size V U → (fun U : World => (U.cell? ⟨w.heap.size, 0, none⟩ = some (.slice A t.cols.length c) ∧ U.cell? ⟨w.heap.size, 1, none⟩ = some (.int .i64 t.head) ∧ U.cell? ⟨w.heap.size, 2, none⟩ = some (.int .i64 t.foot) ∧ U.cell? ⟨w.heap.size, 3, none⟩ = some (.slice A' t.rows.length c') ∧ U.cell? ⟨w.heap.size, 4, none⟩ = some (.int .i64 t.gap)) ∧ U.cell? ⟨w.heap.size + 1, 0, none⟩ = some (.int .i64 gr) ∧ U.cell? ⟨w.heap.size + 1, 1, none⟩ = some (.int .i64 n) ∧ U.cell? ⟨w.heap.size + 1, 2, none⟩ = some (.slice GA cells.length gc)) U) := fun U h =>
    ⟨⟨keepW h hq.1.1, keepW h hq.1.2.1, keepW h hq.1.2.2.1, keepW h hq.1.2.2.2.1, keepW h hq.1.2.2.2.2⟩, keepW h hq.2.1, keepW h hq.2.2.1, keepW h hq.2.2.2⟩
  have HB0 := hide hB0
  have HV := hide hV
  have HZV := hide hzV
  have hE1 := hE V HB0.out
  clear hB0 hV hzV hKT hKG hq hE
  go_enter Tryz.func95, Tryz.ntmps95
  go_wp2_with fail
  rw [← HV.out]
  refine hE1.mono ?_
  rintro e U1 ⟨v1, rfl, hO1, hb1⟩
  obtain ⟨A1, d1, rfl⟩ := hO1.form
  rw [HLX.out]
  rw [HLX.out] at hO1
  have HO1 := hide hO1
  have HB1 := hide hb1
  have hE2 := hH U1 (step HB0.out HB1.out)
  obtain ⟨⟨a0, a1, a2, a3, a4⟩, a5, a6, a7⟩ := HK.out U1 HB1.out
  clear hE1 hO1 hb1 hH
  go_wp2_with fail
  refine hE2.mono ?_
  rintro e U2 ⟨v2, rfl, hO2, hb2⟩
  obtain ⟨A2, d2, rfl⟩ := hO2.form
  rw [HLY.out]
  rw [HLY.out] at hO2
  have HO2 := hide (hO2.base (base' := V.heap.size) HB1.out.size)
  have HX2 := hide (HO1.out.below hb2)
  have HB2 := hide (step HB1.out hb2)
  have hSM := fun (W : World) (h : Below U2.heap.size U2 W) => spec_l1Sum A1 d1 X W (by have h9 := HX2.out; rw [← HLX.out] at h9; exact (irow_rd h9).below h) (fun x hx => by have := HBX.out x hx; omega) (by have := HLX.out; omega)
  rw [HLX.out] at hSM
  obtain ⟨s1, s2⟩ := sum_le 60 X HBX.out
  obtain ⟨sx, hsx⟩ : ∃ sx, sumI X = sx := ⟨_, rfl⟩
  obtain ⟨gp, hgp⟩ : ∃ gp, t.gap * ((n : Int) - 1) = gp := ⟨_, rfl⟩
  have hgp1 : 0 ≤ gp ∧ gp ≤ 300 := by
    have hm := Int.mul_nonneg hg.1 (show 0 ≤ (n : Int) - 1 by omega)
    have hm2 : t.gap * ((n : Int) - 1) ≤ 3 * ((n : Int) - 1) := Int.mul_le_mul_of_nonneg_right hg.2 (by omega)
    omega
  have hsx1 : 0 ≤ sx ∧ sx ≤ 6000 := by have := HLX.out; omega
  rw [hsx] at hSM
  rw [hgp] at hGP
  obtain ⟨lf, hlf⟩ : ∃ lf, width - sx - gp = lf := ⟨_, rfl⟩
  have t1 : IntKind.i64.wrap (width - sx) = width - sx := by rw [IntKind.wrap_i64]; omega
  have t2 : IntKind.i64.wrap (width - sx - gp) = lf := by rw [hlf, IntKind.wrap_i64]; omega
  have HRES : Hid (widths (kindT t) (numT t) width t.gap X Y = if lf ≤ 0 then X else restW (kindT t) (autoW (kindT t) Y (addAt X 0 (upToL lf (wantsF t 2 (fun k => width * numT t k / 100) X)).1, (upToL lf (wantsF t 2 (fun k => width * numT t k / 100) X)).2))) := by
    have hwl : width - wideL X t.gap = lf := by
      unfold wideL
      rw [HLX.out, hsx, show max ((n : Int) - 1) 0 = (n : Int) - 1 by omega, hgp]
      omega
    show _ = _
    rw [← hwl]
    rfl
  have hlf1 : lf ≤ 300 := by omega
  obtain ⟨⟨b0, b1, b2, b3, b4⟩, b5, b6, b7⟩ := HK.out U2 HB2.out
  clear s1 s2 hsx hgp hgp1 hsx1 hlf hE2 hO2 hb2 a0 a1 a2 a3 a4 a5 a6 a7
  go_upto_region 3 with fail
  go_cut [9] from 9 to 27 (fun s9 wx => s9 = .int .i64 lf ∧ Aside (Below U2.heap.size U2 wx))
  case first =>
    go_region_with (first
      | (go_at_call 90; refine (hSM _ ?_).mono ?_; (first | exact brefl _ | exact bdrew (brefl _)); rintro e w9 ⟨rfl, hw9⟩; obtain rfl := hw9.symm)
      | (go_at_call 91; refine (hGP _).mono ?_; rintro e w3 ⟨rfl, hb3⟩))
    all_goals
      go_wp2_with fail
      go_meet
      case rel =>
        refine ⟨rfl, (show Aside _ from ?_)⟩
        show Below _ _ _
        (repeat' (with_reducible first | exact brefl _ | refine bdrew ?_ | refine step ?_ (by with_reducible assumption)))
  case rest =>
  obtain ⟨rfl, HB3⟩ := hcut
  obtain ⟨U3, rfl⟩ : ∃ U3 : World, U3 = wc := ⟨_, rfl⟩
  have HBV3 := hide (step HB2.out HB3.out)
  have HX3 := hide (HX2.out.below HB3.out)
  have HY3 := hide (HO2.out.below HB3.out)
  clear b0 b1 b2 b3 b4 b5 b6 b7 hSM hGP t1 t2 HO1 HX2 HO2
  by_cases hle : lf ≤ 0
  · have hres := HRES.out
    rw [if_pos hle] at hres
    have HR1 := hide hres
    clear hres
    go_wp2_with fail
    go_ret
    exact ⟨_, rfl, by rw [HR1.out]; exact HX3.out.base HB0.out.size, step HB0.out HBV3.out⟩
  · have hres := HRES.out
    rw [if_neg hle] at hres
    have HR1 := hide hres
    clear hres HRES
    obtain ⟨⟨b0, b1, b2, b3, b4⟩, _⟩ := HK.out U3 HBV3.out
    have HW3 := hide (step HB0.out HBV3.out)
    have hw1 := spec_l6Wants2 t A c A' c' n A1 d1 A2 d2 X Y width U3 HOK.out (HC.out.below HW3.out) (irow_rd HX3.out) (irow_rd HY3.out) HLX.out HLY.out (by omega) (fun x hx => by have := HBX.out x hx; omega) (fun x hx => by have := HBY.out x hx; omega) hwd
    obtain ⟨pl, pb⟩ := wantsF_in (t := t) (q := 2) (f := fun k => width * numT t k / 100) HLX.out (fun x hx => (HBX.out x hx).1) (fun k _ => (part_in HOK.out hwd k).2)
    have hr1 := HR1.out
    generalize wantsF t 2 (fun k => width * numT t k / 100) X = P1 at hw1 pl pb hr1
    obtain ⟨ql, qb, qs, qt⟩ := upTo_in (total := lf) (ws := P1) ⟨by omega, hlf1⟩ pl pb
    obtain ⟨p1, hp1⟩ : ∃ p, upToL lf P1 = p := ⟨_, rfl⟩
    rw [hp1] at hr1 ql qb qs qt
    obtain ⟨G1, l1⟩ := p1
    dsimp only at hr1 ql qb qs qt
    have HP1 := hide hp1
    have HPL := hide pl
    have HPB := hide pb
    have HQB := hide qb
    have HQL := hide ql
    have HR2 := hide hr1
    clear hr1 HR1 hp1 pb qb pl ql
    go_wp2_with fail
    refine hw1.mono ?_
    rintro e U4 ⟨v4, rfl, hI4, hb4⟩
    obtain ⟨A4, d4, rfl⟩ := hI4.form
    have hup := spec_l4UpTo lf U3.heap.size A4 d4 P1 U4 hI4 ⟨⟨by omega, by omega⟩, fun x hx => by have := HPB.out x hx; omega, by rw [HPL.out]; omega⟩ (by rw [HPL.out]; omega)
    rw [HP1.out] at hup
    have HBV4 := hide (step HBV3.out hb4)
    have HX4 := hide (HX3.out.below hb4)
    have HY4 := hide (HY3.out.below hb4)
    clear hw1 hI4 hb4 b0 b1 b2 b3 b4
    go_wp2_with fail
    refine hup.mono ?_
    rintro e U5 ⟨v5, rfl, hI5, hb5⟩
    obtain ⟨A5, d5, rfl⟩ := hI5.form
    rw [show (G1, l1).1.length = n from HQL.out] at hI5 ⊢
    have HBV5 := hide (step HBV4.out hb5)
    have HY5 := hide (HY4.out.below hb5)
    have had := spec_l6Add A1 d1 A5 d5 n X G1 U5 (irow_rd (HX4.out.below hb5)) (irow_rd hI5) HLX.out HQL.out (by omega) (fun x hx => by have := HBX.out x hx; omega) (fun x hx => by have := HQB.out x hx; omega)
    clear hup hI5 hb5 HP1 HPL HPB
    go_wp2_with fail
    refine had.mono ?_
    rintro e U6 ⟨v6, rfl, hI6, hb6⟩
    obtain ⟨xl, xb⟩ := addAt_in HLX.out HQL.out HBX.out HQB.out
    obtain ⟨X1, hX1⟩ : ∃ X1, addAt X 0 G1 = X1 := ⟨_, rfl⟩
    rw [hX1] at xl xb hI6
    have hr2 := HR2.out
    rw [hX1] at hr2
    have hau : autoW (kindT t) Y (X1, l1) = (addAt X1 0 (upToL l1 (wantsF t 0 (fun k => Y.getD k 0) X1)).1, (upToL l1 (wantsF t 0 (fun k => Y.getD k 0) X1)).2) := rfl
    rw [hau] at hr2
    obtain ⟨A6, d6, rfl⟩ := hI6.form
    rw [xl] at hI6 ⊢
    have HBV6 := hide (step HBV5.out hb6)
    have HY6 := hide (HY5.out.below hb6)
    have HW6 := hide (step HB0.out HBV6.out)
    have HI6 := hide hI6
    obtain ⟨⟨b0, b1, b2, b3, b4⟩, _⟩ := HK.out U6 HBV6.out
    have hw2 := spec_l6Wants0 t A c A' c' n A6 d6 A2 d2 X1 Y width U6 HOK.out (HC.out.below HW6.out) (irow_rd HI6.out) (irow_rd HY6.out) xl HLY.out (by omega) (fun x hx => by have := xb x hx; omega) (fun x hx => by have := HBY.out x hx; omega) hwd
    obtain ⟨pl, pb⟩ := wantsF_in (t := t) (q := 0) (f := fun k => Y.getD k 0) xl (fun x hx => (xb x hx).1) (fun k hk => by have := int_at HBY.out k (by rw [HLY.out]; exact hk); show Y.getD k 0 ≤ 300; omega)
    generalize wantsF t 0 (fun k => Y.getD k 0) X1 = P2 at hw2 pl pb hr2
    obtain ⟨ql, qb, qs2, qt2⟩ := upTo_in (total := l1) (ws := P2) ⟨qs, qt⟩ pl pb
    obtain ⟨p2, hp2⟩ : ∃ p, upToL l1 P2 = p := ⟨_, rfl⟩
    rw [hp2] at hr2 ql qb qs2 qt2
    obtain ⟨G2, l2⟩ := p2
    dsimp only at hr2 ql qb qs2 qt2
    have HP2 := hide hp2
    have HPL := hide pl
    have HPB := hide pb
    have HQB2 := hide qb
    have HQL2 := hide ql
    have HXL := hide xl
    have HXB := hide xb
    have HR3 := hide hr2
    clear hr2 hp2 pb qb pl ql xl xb hau hX1 had hb6 hI6 HR2
    go_wp2_with fail
    refine hw2.mono ?_
    rintro e U7 ⟨v7, rfl, hI7, hb7⟩
    obtain ⟨A7, d7, rfl⟩ := hI7.form
    have hup := spec_l4UpTo l1 U6.heap.size A7 d7 P2 U7 hI7 ⟨⟨qs, by omega⟩, fun x hx => by have := HPB.out x hx; omega, by rw [HPL.out]; omega⟩ (by rw [HPL.out]; omega)
    rw [HP2.out] at hup
    have HBV7 := hide (step HBV6.out hb7)
    have HI7 := hide (HI6.out.below hb7)
    clear hw2 hI7 hb7 b0 b1 b2 b3 b4
    go_wp2_with fail
    refine hup.mono ?_
    rintro e U8 ⟨v8, rfl, hI8, hb8⟩
    obtain ⟨A8, d8, rfl⟩ := hI8.form
    rw [show (G2, l2).1.length = n from HQL2.out] at hI8 ⊢
    have HBV8 := hide (step HBV7.out hb8)
    have had := spec_l6Add A6 d6 A8 d8 n X1 G2 U8 (irow_rd (HI7.out.below hb8)) (irow_rd hI8) HXL.out HQL2.out (by omega) (fun x hx => by have := HXB.out x hx; omega) (fun x hx => by have := HQB2.out x hx; omega)
    clear hup hI8 hb8 HP2 HPL HPB
    go_wp2_with fail
    refine had.mono ?_
    rintro e U9 ⟨v9, rfl, hI9, hb9⟩
    obtain ⟨xl, xb⟩ := addAt_in HXL.out HQL2.out HXB.out HQB2.out
    obtain ⟨X2, hX2⟩ : ∃ X2, addAt X1 0 G2 = X2 := ⟨_, rfl⟩
    rw [hX2] at xl xb hI9
    have hr3 := HR3.out
    rw [hX2] at hr3
    obtain ⟨A9, d9, rfl⟩ := hI9.form
    rw [xl] at hI9 ⊢
    have HR4 := hide hr3
    have HXL2 := hide xl
    have HXB2 := hide xb
    have HBV9 := hide (step HBV8.out hb9)
    have HI9 := hide hI9
    have HS89 : Hid (V.heap.size ≤ U8.heap.size) := HBV8.out.size
    obtain ⟨⟨b0, b1, b2, b3, b4⟩, _⟩ := HK.out U9 HBV9.out
    have hof := spec_l6Of t A c A' c' n 0 U9 (HC.out.below (step HB0.out HBV9.out)) (by omega)
    obtain ⟨kl, kb⟩ := ofKind_in (kindT t) 0 n
    clear hr3 HR3 hX2 had xl xb hI9 hb9
    go_wp2_with fail
    refine hof.mono ?_
    rintro e Z1 ⟨v10, rfl, hO10, hb10⟩
    obtain ⟨A10, d10, rfl⟩ := hO10.form
    have hsm := spec_l1Sum A10 d10 (ofKind (kindT t) 0 n) Z1 (irow_rd hO10) (fun x hx => by have := kb x hx; omega) (by rw [kl]; omega)
    rw [kl] at hsm ⊢
    have HBZ1 := hide (step HBV9.out hb10)
    have HIZ1 := hide (HI9.out.below hb10)
    have hsn0 := sumI_nonneg (fun x hx => (kb x hx).1)
    clear hof hb10 b0 b1 b2 b3 b4
    by_cases h0 : 0 < sumI (ofKind (kindT t) 0 n)
    · have HBZ := HBZ1
      have HIZ := HIZ1
      have hrw : restW (kindT t) (X2, l2) = addAt X2 0 (share l2 (ofKind (kindT t) 0 n)) := by
        unfold restW; dsimp only; rw [HXL2.out, if_pos h0]
      obtain ⟨sl, ss, sn⟩ := share_spec (total := l2) (ws := ofKind (kindT t) 0 n) qs2 (fun x hx => (kb x hx).1) (by intro e; rw [e] at kl; simp at kl; omega)
      have sb : ∀ x ∈ share l2 (ofKind (kindT t) 0 n), 0 ≤ x ∧ x ≤ 300 := fun x hx => ⟨sn x hx, by have := sumI_ge sn x hx; omega⟩
      have HRW := hide (HR4.out.trans hrw)
      have hz0 : (sumI (ofKind (kindT t) 0 n) == 0) = false := by simp; omega
      rw [kl] at sl
      generalize ofKind (kindT t) 0 n = ws at hO10 hsm kl kb sl sb HRW hz0
      generalize sumI ws = sw at hsm hz0
      have hsh := spec_l4Share l2 A10 d10 ws Z1 (irow_rd hO10) ⟨⟨qs2, by omega⟩, fun x hx => by have := kb x hx; omega, by rw [kl]; omega⟩ (by rw [kl]; omega)
      rw [kl] at hsh
      generalize share l2 ws = SH at hsh sl sb HRW
      have HSB := hide sb
      have HSL := hide sl
      have HSM := hide hsm
      clear hrw ss sn h0 kb kl sb sl hO10 hsn0 hsm
      have hsm := HSM.out
      go_wp2_with fail
      refine hsm.mono ?_
      rintro e w9 ⟨rfl, hw9⟩
      obtain rfl := hw9.symm
      clear hsm hw9
      have hsm := HSM.out
      go_wp2_with fail
      refine hsm.mono ?_
      rintro e w9 ⟨rfl, hw9⟩
      obtain rfl := hw9.symm
      clear hsm hw9
      go_wp2_with fail
      refine hsh.mono ?_
      rintro e Z5 ⟨v15, rfl, hO15, hb15⟩
      obtain ⟨A15, d15, rfl⟩ := hO15.form
      rw [HSL.out]
      rw [HSL.out] at hO15
      have HBZ5 := hide (step HBZ.out hb15)
      have had := spec_l6Add A9 d9 A15 d15 n X2 SH Z5 (irow_rd (HIZ.out.below hb15)) (irow_rd hO15) HXL2.out HSL.out (by omega) (fun x hx => by have := HXB2.out x hx; omega) (fun x hx => by have := HSB.out x hx; omega)
      clear hsh hO15 hb15
      go_wp2_with fail
      refine had.mono ?_
      rintro e Z6 ⟨v16, rfl, hO16, hb16⟩
      have HBZ6 := hide (step HBZ5.out hb16)
      have HO16 := hide (hO16.base (base' := w.heap.size) (by have := HBZ5.out.size; have := HB0.out.size; omega))
      clear had hO16 hb16
      go_wp2_with fail
      go_ret
      exact ⟨_, rfl, by rw [HRW.out]; exact HO16.out, step HB0.out HBZ6.out⟩
    · have hz0 : (sumI (ofKind (kindT t) 0 n) == 0) = true := by simp; omega
      have hn0 : ¬ 0 < sumI (ofKind (kindT t) 0 n) := h0
      have HN0 := hide hn0
      generalize ofKind (kindT t) 0 n = ws0 at hsm hz0 hO10
      generalize sumI ws0 = sw0 at hsm hz0
      clear kb kl hsn0 h0 hn0 hO10
      go_wp2_with fail
      refine hsm.mono ?_
      rintro e w9 ⟨rfl, hw9⟩
      obtain rfl := hw9.symm
      obtain ⟨⟨b0, b1, b2, b3, b4⟩, _⟩ := HK.out Z1 HBZ1.out
      have hof := spec_l6Of t A c A' c' n 2 Z1 (HC.out.below (step HB0.out HBZ1.out)) (by omega)
      obtain ⟨kl, kb⟩ := ofKind_in (kindT t) 2 n
      clear hsm hw9
      go_wp2_with fail
      refine hof.mono ?_
      rintro e Z2 ⟨v11, rfl, hO11, hb11⟩
      obtain ⟨A11, d11, rfl⟩ := hO11.form
      have hsm := spec_l1Sum A11 d11 (ofKind (kindT t) 2 n) Z2 (irow_rd hO11) (fun x hx => by have := kb x hx; omega) (by rw [kl]; omega)
      rw [kl] at hsm ⊢
      have HBZ := hide (step HBZ1.out hb11)
      have HIZ := hide (HIZ1.out.below hb11)
      have hsn0 := sumI_nonneg (fun x hx => (kb x hx).1)
      clear hof hb11 b0 b1 b2 b3 b4
      by_cases h0 : 0 < sumI (ofKind (kindT t) 2 n)
      · have hn0 := HN0.out
        have hrw : restW (kindT t) (X2, l2) = addAt X2 0 (share l2 (ofKind (kindT t) 2 n)) := by
          unfold restW; dsimp only; rw [HXL2.out, if_neg (show ¬ 0 < sumI (ofKind (kindT t) 0 n) by omega), if_pos h0]
        obtain ⟨sl, ss, sn⟩ := share_spec (total := l2) (ws := ofKind (kindT t) 2 n) qs2 (fun x hx => (kb x hx).1) (by intro e; rw [e] at kl; simp at kl; omega)
        have sb : ∀ x ∈ share l2 (ofKind (kindT t) 2 n), 0 ≤ x ∧ x ≤ 300 := fun x hx => ⟨sn x hx, by have := sumI_ge sn x hx; omega⟩
        have HRW := hide (HR4.out.trans hrw)
        have hz0 : (sumI (ofKind (kindT t) 2 n) == 0) = false := by simp; omega
        rw [kl] at sl
        generalize ofKind (kindT t) 2 n = ws at hO11 hsm kl kb sl sb HRW hz0
        generalize sumI ws = sw at hsm hz0
        have hsh := spec_l4Share l2 A11 d11 ws Z2 (irow_rd hO11) ⟨⟨qs2, by omega⟩, fun x hx => by have := kb x hx; omega, by rw [kl]; omega⟩ (by rw [kl]; omega)
        rw [kl] at hsh
        generalize share l2 ws = SH at hsh sl sb HRW
        have HSB := hide sb
        have HSL := hide sl
        have HSM := hide hsm
        clear hrw ss sn hn0 h0 kb kl sb sl hO11 hsn0 hsm
        have hsm := HSM.out
        go_wp2_with fail
        refine hsm.mono ?_
        rintro e w9 ⟨rfl, hw9⟩
        obtain rfl := hw9.symm
        clear hsm hw9
        go_wp2_with fail
        refine hsh.mono ?_
        rintro e Z5 ⟨v15, rfl, hO15, hb15⟩
        obtain ⟨A15, d15, rfl⟩ := hO15.form
        rw [HSL.out]
        rw [HSL.out] at hO15
        have HBZ5 := hide (step HBZ.out hb15)
        have had := spec_l6Add A9 d9 A15 d15 n X2 SH Z5 (irow_rd (HIZ.out.below hb15)) (irow_rd hO15) HXL2.out HSL.out (by omega) (fun x hx => by have := HXB2.out x hx; omega) (fun x hx => by have := HSB.out x hx; omega)
        clear hsh hO15 hb15
        go_wp2_with fail
        refine had.mono ?_
        rintro e Z6 ⟨v16, rfl, hO16, hb16⟩
        have HBZ6 := hide (step HBZ5.out hb16)
        have HO16 := hide (hO16.base (base' := w.heap.size) (by have := HBZ5.out.size; have := HB0.out.size; omega))
        clear had hO16 hb16
        go_wp2_with fail
        go_ret
        exact ⟨_, rfl, by rw [HRW.out]; exact HO16.out, step HB0.out HBZ6.out⟩
      · have hrw : restW (kindT t) (X2, l2) = X2 := by
          have hn0 := HN0.out
          unfold restW; dsimp only; rw [HXL2.out, if_neg (show ¬ 0 < sumI (ofKind (kindT t) 0 n) by omega), if_neg (show ¬ 0 < sumI (ofKind (kindT t) 2 n) by omega)]
        have HRW := hide (HR4.out.trans hrw)
        have hz2 : (sumI (ofKind (kindT t) 2 n) == 0) = true := by simp; omega
        generalize ofKind (kindT t) 2 n = ws2 at hsm hz2 hO11
        generalize sumI ws2 = sw2 at hsm hz2
        clear kb kl hsn0 h0 hO11 hrw
        go_wp2_with fail
        refine hsm.mono ?_
        rintro e w9 ⟨rfl, hw9⟩
        obtain rfl := hw9.symm
        clear hsm hw9
        go_wp2_with fail
        go_ret
        exact ⟨_, rfl, by rw [HRW.out]; exact HIZ.out.base (by have := HS89.out; have := HB0.out.size; omega), step HB0.out HBZ.out⟩
end Go.Proofs.YtpfagdmmhgcmnaaGreatDoor

namespace Go.Proofs.YtpfagdmmhgcmnaaGreatDoor
open Go.RowKit
/- How wide columns are, and the table: WidCols, WidTable, ColFloor on the reference's side. -/
set_option maxRecDepth 100000 in
set_option maxHeartbeats 40000000 in
theorem spec_WidTable (t : Tbl) (A : Option Addr) (c : Nat) (A' : Option Addr) (c' : Nat) (width : Int) (w : World) (hc : Rd colR w A t.cols) (hr : Rd rowR w A' t.rows) {k : Nat} (hy : GoodRows t k) :
    Calls Tryz.prog 45 #[.agg #[.slice A t.cols.length c, .int .i64 t.head, .int .i64 t.foot, .slice A' t.rows.length c', .int .i64 t.gap], .int .i64 width] w fun e w' => e = .returned (.int .i64 (wideG t.gap (widColsL 400 t width))) ∧ Below w.heap.size w w' := by
  have hT := fun (W : World) (h : Below w.heap.size w W) => spec_TblOk t A c A' c' W (hc.below h) (hr.below h)
  have hI := fun (W : World) => spec_l1In width 0 300 W
  by_cases hq : tblOk t = true ∧ 0 ≤ width ∧ width ≤ 300
  · obtain ⟨hok, hwd⟩ := hq
    have hb1 : inB width 0 300 = true := by simp [inB]; omega
    rw [hb1] at hI
    have hG := fun (W : World) (h : Below w.heap.size w W) => spec_l3Of t A c A' c' W hok (hc.below h) (hr.below h)
    rw [hok] at hT
    obtain ⟨n, hn, hn1, hcell, hcl⟩ := grid_need hok hy 90 leastT_in
    obtain ⟨n', hn', _, hcell2, _⟩ := grid_need hok hy 90 wishT_in
    have hnn : n = n' := by omega
    subst hnn
    have hsm : Hid (∀ x ∈ (gridL 90 t).1, GSm x) := (GIn.rows (m := 90) hok).sm (by omega)
    have hres : widths (kindT t) (numT t) width t.gap (leastL t (gridL 90 t).1 n) (wishL t (gridL 90 t).1 n) = widColsL 400 t width := by rw [← widCols_two hy]; unfold widColsL; rw [if_pos ⟨hok, hwd⟩, hn]; rfl
    obtain ⟨n9, e9, _, _, _, _, hzl, hzb, _⟩ := widCols_ok hok hy hwd
    have hn9 : n9 = n := by rw [grid_one hok hy] at e9; omega
    subst hn9
    rw [hn] at hG
    have hL := fun (W : World) (h : Below w.heap.size w W) GA gc hg => spec_l6Cols t A c A' c' t.rows.length n9 (gridL 90 t).1 GA gc width W hok (hc.below h) (hr.below h) hg hn1 hcell hcell2 (by omega) hwd
    have hg := (tblOk_parts hok).2.2.1
    rw [hres] at hL
    clear hok hc hr hres hy hn hcell hcell2 hcl hn' hb1 e9
    generalize gridL 90 t = GG at hG hL hsm
    obtain ⟨GL, GN⟩ := GG
    dsimp only at hG hL hsm
    generalize widColsL 400 t width = ZZ at hL hzl hzb ⊢
    have hGP := fun (W : World) GA gc => spec_l5Gaps t A c A' c' t.rows.length n9 GL.length GA gc W ⟨hn1.1, by omega⟩ hg
    have hwz : wideG t.gap ZZ = sumI ZZ + t.gap * ((n9 : Int) - 1) := by unfold wideG; rw [hzl, show max ((n9 : Int) - 1) 0 = (n9 : Int) - 1 by omega]
    obtain ⟨s1, s2⟩ := sum_le 300 ZZ hzb
    obtain ⟨sx, hsx⟩ : ∃ sx, sumI ZZ = sx := ⟨_, rfl⟩
    obtain ⟨gp, hgp⟩ : ∃ gp, t.gap * ((n9 : Int) - 1) = gp := ⟨_, rfl⟩
    have hgp1 : 0 ≤ gp ∧ gp ≤ 300 := by
      have hm := Int.mul_nonneg hg.1 (show 0 ≤ (n9 : Int) - 1 by omega)
      have hm2 : t.gap * ((n9 : Int) - 1) ≤ 3 * ((n9 : Int) - 1) := Int.mul_le_mul_of_nonneg_right hg.2 (by omega)
      omega
    rw [hsx, hgp] at hwz
    rw [hgp] at hGP
    rw [hsx] at s1 s2
    have t1 : IntKind.i64.wrap (sx + gp) = sx + gp := by rw [IntKind.wrap_i64]; omega
    have hSM := fun (W : World) A2 d2 (h9 : Rd intR W A2 ZZ) => spec_l1Sum A2 d2 ZZ W h9 (fun x hx => by have := hzb x hx; omega) (by omega)
    rw [hsx, hzl] at hSM
    rw [hwz]
    have HZL := hide hzl
    clear hzb hzl s1 s2 hsx hgp hgp1 hwz
    go_enter Tryz.func45, Tryz.ntmps45
    go_wp2_with fail
    refine (hT _ (balloc (brefl _) _)).mono ?_
    rintro e w1 ⟨rfl, hb⟩
    obtain ⟨c0, f0, s0⟩ := seenBk w.heap.size (by first | (simp; omega) | simp [*]) hb
    have HB := hide (step (balloc (brefl w) (.cells #[.slice A t.cols.length c, .int .i64 t.head, .int .i64 t.foot, .slice A' t.rows.length c', .int .i64 t.gap] 26)) hb)
    have hG1 := hG w1 HB.out
    have HK1 := hide ((BlockAt.new w [.slice A t.cols.length c, .int .i64 t.head, .int .i64 t.foot, .slice A' t.rows.length c', .int .i64 t.gap] 26).keep (hb.block w.heap.size (by simp)))
    clear hT hb hG
    go_wp2_with (go_at_call 58; refine (hI _).mono ?_; rintro e w' ⟨rfl, rfl⟩)
    refine hG1.mono ?_
    rintro e w2 ⟨GA, gc, rfl, hown, hb2⟩
    dsimp only at hown ⊢
    have hrd2 := grd_rd hown hsm.out
    obtain ⟨V, hV⟩ : ∃ V, V = w2.alloc (.cells #[.int .i64 t.rows.length, .int .i64 n9, .slice GA GL.length gc] 35) := ⟨_, rfl⟩
    have eV : Below w2.heap.size w2 V := by rw [hV]; exact balloc (brefl _) _
    have HG2 := hide (hrd2.below eV)
    have HBV := hide (step (step HB.out hb2) eV)
    have hKT := (HK1.out.keep (hb2.block w.heap.size (by omega))).keep (eV.block w.heap.size (by have := hb2.size; omega))
    have hKG : BlockAt V w2.heap.size [.int .i64 t.rows.length, .int .i64 n9, .slice GA GL.length gc] := by rw [hV]; exact BlockAt.new w2 _ _
    have HKT := hide hKT
    have HKG := hide hKG
    have HV := hide hV
    clear hown hrd2 hV eV hKT hKG hb2 hG1 c0 f0
    go_upto_region 4 with fail
    rw [← HV.out]
    clear HV
    have ed := bdrew (brefl V)
    have HBD := hide (bdrew HBV.out)
    have z0 : V.drew.cell? ⟨w.heap.size, 0, none⟩ = some (.slice A t.cols.length c) := keepW ed (HKT.out.1 0 _ rfl)
    have z1 : V.drew.cell? ⟨w.heap.size, 1, none⟩ = some (.int .i64 t.head) := keepW ed (HKT.out.1 1 _ rfl)
    have z2 : V.drew.cell? ⟨w.heap.size, 2, none⟩ = some (.int .i64 t.foot) := keepW ed (HKT.out.1 2 _ rfl)
    have z3 : V.drew.cell? ⟨w.heap.size, 3, none⟩ = some (.slice A' t.rows.length c') := keepW ed (HKT.out.1 3 _ rfl)
    have z4 : V.drew.cell? ⟨w.heap.size, 4, none⟩ = some (.int .i64 t.gap) := keepW ed (HKT.out.1 4 _ rfl)
    have y0 : V.drew.cell? ⟨w2.heap.size, 0, none⟩ = some (.int .i64 t.rows.length) := keepW ed (HKG.out.1 0 _ rfl)
    have y1 : V.drew.cell? ⟨w2.heap.size, 1, none⟩ = some (.int .i64 n9) := keepW ed (HKG.out.1 1 _ rfl)
    have y2 : V.drew.cell? ⟨w2.heap.size, 2, none⟩ = some (.slice GA GL.length gc) := keepW ed (HKG.out.1 2 _ rfl)
    have HLL := hide (fun (W : World) (h : Below V.drew.heap.size V.drew W) => hL W (step HBD.out h) GA gc ((HG2.out.below ed).below h))
    have HGP := hide hGP
    have HSM := hide hSM
    clear hL hGP hSM ed
    obtain ⟨KF, hKF⟩ : ∃ f : Nat → Value → World → Prop, f = (fun j v W => match j with | 0 => v = .agg #[.slice A t.cols.length c, .int .i64 t.head, .int .i64 t.foot, .slice A' t.rows.length c', .int .i64 t.gap] | 1 => v = .agg #[.int .i64 ↑t.rows.length, .int .i64 ↑n9, .slice GA GL.length gc] | 2 => v = .int .i64 width | 3 => ∃ Aq dq, v = .slice Aq n9 dq ∧ Rd intR W Aq ZZ | 4 => v = .int .i64 sx | 5 => v = .agg #[.slice A t.cols.length c, .int .i64 t.head, .int .i64 t.foot, .slice A' t.rows.length c', .int .i64 t.gap] | 6 => v = .agg #[.int .i64 ↑t.rows.length, .int .i64 ↑n9, .slice GA GL.length gc] | 7 => v = .int .i64 gp | 8 => v = .int .i64 (sx + gp) | 9 => v = .int .i64 (sx + gp) | _ => True) := ⟨_, rfl⟩
    have k0 : ∀ v W, KF 0 v W ↔ (v = .agg #[.slice A t.cols.length c, .int .i64 t.head, .int .i64 t.foot, .slice A' t.rows.length c', .int .i64 t.gap]) := fun v W => by rw [hKF]; first | done | exact Iff.rfl
    have k1 : ∀ v W, KF 1 v W ↔ (v = .agg #[.int .i64 ↑t.rows.length, .int .i64 ↑n9, .slice GA GL.length gc]) := fun v W => by rw [hKF]; first | done | exact Iff.rfl
    have k2 : ∀ v W, KF 2 v W ↔ (v = .int .i64 width) := fun v W => by rw [hKF]; first | done | exact Iff.rfl
    have k3 : ∀ v W, KF 3 v W ↔ (∃ Aq dq, v = .slice Aq n9 dq ∧ Rd intR W Aq ZZ) := fun v W => by rw [hKF]; first | done | exact Iff.rfl
    have k4 : ∀ v W, KF 4 v W ↔ (v = .int .i64 sx) := fun v W => by rw [hKF]; first | done | exact Iff.rfl
    have k5 : ∀ v W, KF 5 v W ↔ (v = .agg #[.slice A t.cols.length c, .int .i64 t.head, .int .i64 t.foot, .slice A' t.rows.length c', .int .i64 t.gap]) := fun v W => by rw [hKF]; first | done | exact Iff.rfl
    have k6 : ∀ v W, KF 6 v W ↔ (v = .agg #[.int .i64 ↑t.rows.length, .int .i64 ↑n9, .slice GA GL.length gc]) := fun v W => by rw [hKF]; first | done | exact Iff.rfl
    have k7 : ∀ v W, KF 7 v W ↔ (v = .int .i64 gp) := fun v W => by rw [hKF]; first | done | exact Iff.rfl
    have k8 : ∀ v W, KF 8 v W ↔ (v = .int .i64 (sx + gp)) := fun v W => by rw [hKF]; first | done | exact Iff.rfl
    have k9 : ∀ v W, KF 9 v W ↔ (v = .int .i64 (sx + gp)) := fun v W => by rw [hKF]; first | done | exact Iff.rfl
    have HST : StableP KF := by
      rw [hKF]
      intro j v W W9 h hb
      by_cases hjn : j < 10
      · obtain rfl | rfl | rfl | rfl | rfl | rfl | rfl | rfl | rfl | rfl : j = 0 ∨ j = 1 ∨ j = 2 ∨ j = 3 ∨ j = 4 ∨ j = 5 ∨ j = 6 ∨ j = 7 ∨ j = 8 ∨ j = 9 := by omega
        · exact h
        · exact h
        · exact h
        · obtain ⟨Aq, dq, hv, h⟩ := h
          exact ⟨Aq, dq, hv, h.below hb⟩
        · exact h
        · exact h
        · exact h
        · exact h
        · exact h
        · exact h
      · match j, h with
        | 0, h => exact absurd (by decide) hjn
        | 1, h => exact absurd (by decide) hjn
        | 2, h => exact absurd (by decide) hjn
        | 3, h => exact absurd (by decide) hjn
        | 4, h => exact absurd (by decide) hjn
        | 5, h => exact absurd (by decide) hjn
        | 6, h => exact absurd (by decide) hjn
        | 7, h => exact absurd (by decide) hjn
        | 8, h => exact absurd (by decide) hjn
        | 9, h => exact absurd (by decide) hjn
        | _ + 10, h => exact h
    clear hKF
    obtain ⟨dep, hdep⟩ : ∃ f : Nat → List Nat, f = (fun j => match j with | 3 => [0, 1, 2] | 4 => [3] | 7 => [5, 6, 4] | 8 => [4, 7] | 9 => [8, 7] | _ => []) := ⟨_, rfl⟩
    have d0 : dep 0 = [] := congrFun hdep 0
    have d1 : dep 1 = [] := congrFun hdep 1
    have d2 : dep 2 = [] := congrFun hdep 2
    have d3 : dep 3 = [0, 1, 2] := congrFun hdep 3
    have d4 : dep 4 = [3] := congrFun hdep 4
    have d5 : dep 5 = [] := congrFun hdep 5
    have d6 : dep 6 = [] := congrFun hdep 6
    have d7 : dep 7 = [5, 6, 4] := congrFun hdep 7
    have d8 : dep 8 = [4, 7] := congrFun hdep 8
    have d9 : dep 9 = [8, 7] := congrFun hdep 9
    clear hdep
    have HLD : LastP 10 10 dep := lastP_none (by decide)
    obtain ⟨st, hst⟩ : ∃ f : Nat → Value, f = (fun j => match j with | 0 => undef | 1 => undef | 2 => undef | 3 => undef | 4 => undef | 5 => undef | 6 => undef | 7 => undef | 8 => undef | 9 => .int .i64 0 | _ => undef) := ⟨_, rfl⟩
    have st0 : st 0 = undef := congrFun hst 0
    have st1 : st 1 = undef := congrFun hst 1
    have st2 : st 2 = undef := congrFun hst 2
    have st3 : st 3 = undef := congrFun hst 3
    have st4 : st 4 = undef := congrFun hst 4
    have st5 : st 5 = undef := congrFun hst 5
    have st6 : st 6 = undef := congrFun hst 6
    have st7 : st 7 = undef := congrFun hst 7
    have st8 : st 8 = undef := congrFun hst 8
    have st9 : st 9 = .int .i64 0 := congrFun hst 9
    refine wp_region_inv (fun l a W => ∃ vs : Nat → Value, a = ⟨List.toArray (.agg #[.slice A t.cols.length c, .int .i64 t.head, .int .i64 t.foot, .slice A' t.rows.length c', .int .i64 t.gap] :: .int .i64 width :: .pointer (some ⟨w.heap.size, 0, none⟩) :: undef :: vs 9 :: .pointer (some ⟨w2.heap.size, 0, none⟩) :: .agg #[.slice A t.cols.length c, .int .i64 t.head, .int .i64 t.foot, .slice A' t.rows.length c', .int .i64 t.gap] :: .bool true :: .bool false :: .bool false :: .int .i64 width :: .bool true :: .bool false :: .bool false :: .agg #[.slice A t.cols.length c, .int .i64 t.head, .int .i64 t.foot, .slice A' t.rows.length c', .int .i64 t.gap] :: .agg #[.int .i64 ↑t.rows.length, .int .i64 ↑n9, .slice GA GL.length gc] :: vs 0 :: vs 1 :: vs 2 :: vs 3 :: vs 4 :: vs 5 :: vs 6 :: vs 7 :: vs 8 :: []), []⟩ ∧ PMid KF 10 10 dep (V.drew) (fun _ _ _ => True) st l vs W) (by kernel_rfl) ?top ?start ?step ?fin
    case top =>
      clear k0 k1 k2 k3 k4 k5 k6 k7 k8 k9 d0 d1 d2 d3 d4 d5 d6 d7 d8 d9 hst st0 st1 st2 st3 st4 st5 st6 st7 st8 st9
      intro j o ho e he
      have hj : j < 10 := (Array.getElem?_eq_some_iff.1 ho).1
      have hA : (o.after.all fun e => decide (e.on < j)) = true := by
        obtain rfl | rfl | rfl | rfl | rfl | rfl | rfl | rfl | rfl | rfl : j = 0 ∨ j = 1 ∨ j = 2 ∨ j = 3 ∨ j = 4 ∨ j = 5 ∨ j = 6 ∨ j = 7 ∨ j = 8 ∨ j = 9 := by omega
        all_goals
          simp only [List.getElem?_toArray, List.getElem?_cons_zero, List.getElem?_cons_succ, Option.some.injEq] at ho
          subst ho
          first | decide | kernel_rfl | simp
      simpa using Array.all_eq_true'.1 hA e he
    case start => exact ⟨st, by rw [hst]; first | done | rfl, PMid.start⟩
    case step =>
      rintro l a W i o ho hl hpre hsz ⟨vs, rfl, hM0⟩ K hK
      have hi : i < 10 := (Array.getElem?_eq_some_iff.1 ho).1
      obtain rfl | rfl | rfl | rfl | rfl | rfl | rfl | rfl | rfl | rfl : i = 0 ∨ i = 1 ∨ i = 2 ∨ i = 3 ∨ i = 4 ∨ i = 5 ∨ i = 6 ∨ i = 7 ∨ i = 8 ∨ i = 9 := by omega
      · simp only [List.getElem?_toArray, List.getElem?_cons_zero, List.getElem?_cons_succ, Option.some.injEq] at ho
        subst ho
        have hMB := hM0.below HLD hi (by decide) hl
        have hMG := hM0.get HLD hi (by decide) hl
        have hdp : ∀ e ∈ dep 0, l.getD e false = true := by rw [d0]; exact dep_nil
        have e := k0
        clear k0 k1 k2 k3 k4 k5 k6 k7 k8 k9 d0 d1 d2 d3 d4 d5 d6 d7 d8 d9 hst st0 st1 st2 st3 st4 st5 st6 st7 st8 st9
        have x0 := keepW hMB z0
        have x1 := keepW hMB z1
        have x2 := keepW hMB z2
        have x3 := keepW hMB z3
        have x4 := keepW hMB z4
        go_simp
        exact hK.out _ _ ⟨updV vs 0 (.agg #[.slice A t.cols.length c, .int .i64 t.head, .int .i64 t.foot, .slice A' t.rows.length c', .int .i64 t.gap]), rfl, hM0.still HLD HST 0 (by decide) (by decide) hl _ hdp ((e _ _).2 rfl)⟩
      · simp only [List.getElem?_toArray, List.getElem?_cons_zero, List.getElem?_cons_succ, Option.some.injEq] at ho
        subst ho
        have hMB := hM0.below HLD hi (by decide) hl
        have hMG := hM0.get HLD hi (by decide) hl
        have hdp : ∀ e ∈ dep 1, l.getD e false = true := by rw [d1]; exact dep_nil
        have e := k1
        clear k0 k1 k2 k3 k4 k5 k6 k7 k8 k9 d0 d1 d2 d3 d4 d5 d6 d7 d8 d9 hst st0 st1 st2 st3 st4 st5 st6 st7 st8 st9
        have x0 := keepW hMB y0
        have x1 := keepW hMB y1
        have x2 := keepW hMB y2
        go_simp
        exact hK.out _ _ ⟨updV vs 1 (.agg #[.int .i64 ↑t.rows.length, .int .i64 ↑n9, .slice GA GL.length gc]), rfl, hM0.still HLD HST 1 (by decide) (by decide) hl _ hdp ((e _ _).2 rfl)⟩
      · simp only [List.getElem?_toArray, List.getElem?_cons_zero, List.getElem?_cons_succ, Option.some.injEq] at ho
        subst ho
        have hMB := hM0.below HLD hi (by decide) hl
        have hMG := hM0.get HLD hi (by decide) hl
        have hdp : ∀ e ∈ dep 2, l.getD e false = true := by rw [d2]; exact dep_nil
        have e := k2
        clear k0 k1 k2 k3 k4 k5 k6 k7 k8 k9 d0 d1 d2 d3 d4 d5 d6 d7 d8 d9 hst st0 st1 st2 st3 st4 st5 st6 st7 st8 st9
        go_simp
        exact hK.out _ _ ⟨updV vs 2 (.int .i64 width), rfl, hM0.still HLD HST 2 (by decide) (by decide) hl _ hdp ((e _ _).2 rfl)⟩
      · simp only [List.getElem?_toArray, List.getElem?_cons_zero, List.getElem?_cons_succ, Option.some.injEq] at ho
        subst ho
        have hMB := hM0.below HLD hi (by decide) hl
        have hMG := hM0.get HLD hi (by decide) hl
        have v0 : vs 0 = .agg #[.slice A t.cols.length c, .int .i64 t.head, .int .i64 t.foot, .slice A' t.rows.length c', .int .i64 t.gap] := (k0 _ _).1 (hMG 0 (by decide) (hpre ⟨0, .data⟩ (by simp) rfl))
        have v1 : vs 1 = .agg #[.int .i64 ↑t.rows.length, .int .i64 ↑n9, .slice GA GL.length gc] := (k1 _ _).1 (hMG 1 (by decide) (hpre ⟨1, .data⟩ (by simp) rfl))
        have v2 : vs 2 = .int .i64 width := (k2 _ _).1 (hMG 2 (by decide) (hpre ⟨2, .data⟩ (by simp) rfl))
        have hdp : ∀ e ∈ dep 3, l.getD e false = true := by rw [d3]; exact (dep_cons (hpre ⟨0, .data⟩ (by simp) rfl) (dep_cons (hpre ⟨1, .data⟩ (by simp) rfl) (dep_cons (hpre ⟨2, .data⟩ (by simp) rfl) dep_nil)))
        have e := k3
        clear k0 k1 k2 k3 k4 k5 k6 k7 k8 k9 d0 d1 d2 d3 d4 d5 d6 d7 d8 d9 hst st0 st1 st2 st3 st4 st5 st6 st7 st8 st9
        rw [v0, v1, v2]
        go_simp
        refine (HLL.out _ hMB).mono ?_
        rintro e5 W5 ⟨v5, rfl, hI5, hb5⟩
        obtain ⟨A5, d5, rfl⟩ := hI5.form
        rw [HZL.out]
        exact hK.out _ _ ⟨updV vs 3 (.slice A5 n9 d5), (by simp [updV, v0, v1, v2]), hM0.next HLD HST 3 (by decide) (by decide) hl _ hdp hb5 ((e _ _).2 ⟨A5, d5, rfl, irow_rd hI5⟩)⟩
      · simp only [List.getElem?_toArray, List.getElem?_cons_zero, List.getElem?_cons_succ, Option.some.injEq] at ho
        subst ho
        have hMB := hM0.below HLD hi (by decide) hl
        have hMG := hM0.get HLD hi (by decide) hl
        obtain ⟨Aq, dq, v3, q3⟩ := (k3 _ _).1 (hMG 3 (by decide) (hpre ⟨3, .data⟩ (by simp) rfl))
        have hdp : ∀ e ∈ dep 4, l.getD e false = true := by rw [d4]; exact (dep_cons (hpre ⟨3, .data⟩ (by simp) rfl) dep_nil)
        have e := k4
        clear k0 k1 k2 k3 k4 k5 k6 k7 k8 k9 d0 d1 d2 d3 d4 d5 d6 d7 d8 d9 hst st0 st1 st2 st3 st4 st5 st6 st7 st8 st9
        rw [v3]
        go_simp
        refine (HSM.out _ Aq dq q3).mono ?_
        rintro e5 W5 ⟨rfl, hq⟩
        exact hK.out _ _ ⟨updV vs 4 (.int .i64 sx), (by simp [updV, v3]), hM0.next HLD HST 4 (by decide) (by decide) hl _ hdp (by rw [hq]; exact brefl _) ((e _ _).2 rfl)⟩
      · simp only [List.getElem?_toArray, List.getElem?_cons_zero, List.getElem?_cons_succ, Option.some.injEq] at ho
        subst ho
        have hMB := hM0.below HLD hi (by decide) hl
        have hMG := hM0.get HLD hi (by decide) hl
        have hdp : ∀ e ∈ dep 5, l.getD e false = true := by rw [d5]; exact dep_nil
        have e := k5
        clear k0 k1 k2 k3 k4 k5 k6 k7 k8 k9 d0 d1 d2 d3 d4 d5 d6 d7 d8 d9 hst st0 st1 st2 st3 st4 st5 st6 st7 st8 st9
        have x0 := keepW hMB z0
        have x1 := keepW hMB z1
        have x2 := keepW hMB z2
        have x3 := keepW hMB z3
        have x4 := keepW hMB z4
        go_simp
        exact hK.out _ _ ⟨updV vs 5 (.agg #[.slice A t.cols.length c, .int .i64 t.head, .int .i64 t.foot, .slice A' t.rows.length c', .int .i64 t.gap]), rfl, hM0.still HLD HST 5 (by decide) (by decide) hl _ hdp ((e _ _).2 rfl)⟩
      · simp only [List.getElem?_toArray, List.getElem?_cons_zero, List.getElem?_cons_succ, Option.some.injEq] at ho
        subst ho
        have hMB := hM0.below HLD hi (by decide) hl
        have hMG := hM0.get HLD hi (by decide) hl
        have hdp : ∀ e ∈ dep 6, l.getD e false = true := by rw [d6]; exact dep_nil
        have e := k6
        clear k0 k1 k2 k3 k4 k5 k6 k7 k8 k9 d0 d1 d2 d3 d4 d5 d6 d7 d8 d9 hst st0 st1 st2 st3 st4 st5 st6 st7 st8 st9
        have x0 := keepW hMB y0
        have x1 := keepW hMB y1
        have x2 := keepW hMB y2
        go_simp
        exact hK.out _ _ ⟨updV vs 6 (.agg #[.int .i64 ↑t.rows.length, .int .i64 ↑n9, .slice GA GL.length gc]), rfl, hM0.still HLD HST 6 (by decide) (by decide) hl _ hdp ((e _ _).2 rfl)⟩
      · simp only [List.getElem?_toArray, List.getElem?_cons_zero, List.getElem?_cons_succ, Option.some.injEq] at ho
        subst ho
        have hMB := hM0.below HLD hi (by decide) hl
        have hMG := hM0.get HLD hi (by decide) hl
        have v5 : vs 5 = .agg #[.slice A t.cols.length c, .int .i64 t.head, .int .i64 t.foot, .slice A' t.rows.length c', .int .i64 t.gap] := (k5 _ _).1 (hMG 5 (by decide) (hpre ⟨5, .data⟩ (by simp) rfl))
        have v6 : vs 6 = .agg #[.int .i64 ↑t.rows.length, .int .i64 ↑n9, .slice GA GL.length gc] := (k6 _ _).1 (hMG 6 (by decide) (hpre ⟨6, .data⟩ (by simp) rfl))
        have v4 : vs 4 = .int .i64 sx := (k4 _ _).1 (hMG 4 (by decide) (hpre ⟨4, .chain⟩ (by simp) rfl))
        have hdp : ∀ e ∈ dep 7, l.getD e false = true := by rw [d7]; exact (dep_cons (hpre ⟨5, .data⟩ (by simp) rfl) (dep_cons (hpre ⟨6, .data⟩ (by simp) rfl) (dep_cons (hpre ⟨4, .chain⟩ (by simp) rfl) dep_nil)))
        have e := k7
        clear k0 k1 k2 k3 k4 k5 k6 k7 k8 k9 d0 d1 d2 d3 d4 d5 d6 d7 d8 d9 hst st0 st1 st2 st3 st4 st5 st6 st7 st8 st9
        rw [v5, v6, v4]
        go_simp
        refine (HGP.out _ GA gc).mono ?_
        rintro e5 W5 ⟨rfl, hb5⟩
        exact hK.out _ _ ⟨updV vs 7 (.int .i64 gp), (by simp [updV, v5, v6, v4]), hM0.next HLD HST 7 (by decide) (by decide) hl _ hdp hb5 ((e _ _).2 rfl)⟩
      · simp only [List.getElem?_toArray, List.getElem?_cons_zero, List.getElem?_cons_succ, Option.some.injEq] at ho
        subst ho
        have hMB := hM0.below HLD hi (by decide) hl
        have hMG := hM0.get HLD hi (by decide) hl
        have v4 : vs 4 = .int .i64 sx := (k4 _ _).1 (hMG 4 (by decide) (hpre ⟨4, .data⟩ (by simp) rfl))
        have v7 : vs 7 = .int .i64 gp := (k7 _ _).1 (hMG 7 (by decide) (hpre ⟨7, .data⟩ (by simp) rfl))
        have hdp : ∀ e ∈ dep 8, l.getD e false = true := by rw [d8]; exact (dep_cons (hpre ⟨4, .data⟩ (by simp) rfl) (dep_cons (hpre ⟨7, .data⟩ (by simp) rfl) dep_nil))
        have e := k8
        clear k0 k1 k2 k3 k4 k5 k6 k7 k8 k9 d0 d1 d2 d3 d4 d5 d6 d7 d8 d9 hst st0 st1 st2 st3 st4 st5 st6 st7 st8 st9
        rw [v4, v7]
        go_simp
        exact hK.out _ _ ⟨updV vs 8 (.int .i64 (sx + gp)), (by simp [updV, v4, v7]), hM0.still HLD HST 8 (by decide) (by decide) hl _ hdp ((e _ _).2 rfl)⟩
      · simp only [List.getElem?_toArray, List.getElem?_cons_zero, List.getElem?_cons_succ, Option.some.injEq] at ho
        subst ho
        have hMB := hM0.below HLD hi (by decide) hl
        have hMG := hM0.get HLD hi (by decide) hl
        have v8 : vs 8 = .int .i64 (sx + gp) := (k8 _ _).1 (hMG 8 (by decide) (hpre ⟨8, .data⟩ (by simp) rfl))
        have v7 : vs 7 = .int .i64 gp := (k7 _ _).1 (hMG 7 (by decide) (hpre ⟨7, .chain⟩ (by simp) rfl))
        have hdp : ∀ e ∈ dep 9, l.getD e false = true := by rw [d9]; exact (dep_cons (hpre ⟨8, .data⟩ (by simp) rfl) (dep_cons (hpre ⟨7, .chain⟩ (by simp) rfl) dep_nil))
        have e := k9
        clear k0 k1 k2 k3 k4 k5 k6 k7 k8 k9 d0 d1 d2 d3 d4 d5 d6 d7 d8 d9 hst st0 st1 st2 st3 st4 st5 st6 st7 st8 st9
        rw [v8, v7]
        go_simp
        exact hK.out _ _ ⟨updV vs 9 (.int .i64 (sx + gp)), (by simp [updV, v8, v7]), hM0.still HLD HST 9 (by decide) (by decide) hl _ hdp ((e _ _).2 rfl)⟩
    case fin =>
      rintro l a W4 hall ⟨vs4, rfl, hM0⟩
      obtain ⟨hMB, hMG⟩ := hM0.fin0 (by decide) hall
      have HBW := hide hMB
      have v9 : vs4 9 = .int .i64 (sx + gp) := (k9 _ _).1 (hMG 9 (by decide))
      rw [v9]
      clear k0 k1 k2 k3 k4 k5 k6 k7 k8 k9 d0 d1 d2 d3 d4 d5 d6 d7 d8 d9 hst st0 st1 st2 st3 st4 st5 st6 st7 st8 st9 HLD HST hMG v9 hMB hall hM0 st
      go_wp2_with fail
      go_ret
      exact ⟨rfl, step HBD.out HBW.out⟩
  · have hres : widColsL 400 t width = [] := by unfold widColsL; rw [if_neg hq]
    rw [hres, wideG_nil]
    have hdef : tblOk t = false ∨ (tblOk t = true ∧ inB width 0 300 = false) := by
      cases hok : tblOk t with
      | false => exact .inl rfl
      | true =>
        refine .inr ⟨rfl, ?_⟩
        rw [Bool.eq_false_iff]
        intro h8
        simp [inB] at h8
        exact hq ⟨hok, by omega, by omega⟩
    clear hres hc hr hy hq
    rcases hdef with hok | ⟨hok, hb1⟩
    · rw [hok] at hT
      clear hok
      go_enter Tryz.func45, Tryz.ntmps45
      go_wp2_with fail
      refine (hT _ (balloc (brefl _) _)).mono ?_
      rintro e w1 ⟨rfl, hb⟩
      have HB := hide (step (balloc (brefl w) _) hb)
      clear hb hT
      go_wp2_with fail
      go_ret
      exact ⟨rfl, HB.out⟩
    · rw [hok] at hT
      rw [hb1] at hI
      clear hok hb1
      go_enter Tryz.func45, Tryz.ntmps45
      go_wp2_with fail
      refine (hT _ (balloc (brefl _) _)).mono ?_
      rintro e w1 ⟨rfl, hb⟩
      have HB := hide (step (balloc (brefl w) _) hb)
      clear hb hT
      go_wp2_with (go_at_call 58; refine (hI _).mono ?_; rintro e w' ⟨rfl, rfl⟩)
      go_ret
      exact ⟨rfl, HB.out⟩
end Go.Proofs.YtpfagdmmhgcmnaaGreatDoor

namespace Go.Proofs.YtpfagdmmhgcmnaaGreatDoor
open Go.RowKit
/- The draws of the laws over bytes: a table and a width. -/
def WidPost (R N : Nat) (w : World) (e : Ending) (w' : World) : Prop := ∃ q : Int, e = .returned (.int .i64 q) ∧ (-1 ≤ q ∧ q ≤ 301) ∧ RdrOk w' R N ∧ w.grownBy w' (some R)
theorem wid_post {R N N' : Nat} {w w' : World} {q : Int} (hq : -1 ≤ q ∧ q ≤ 301) (h : RdrOk w' R N) (hN : N ≤ N') (hg : w.grownBy w' (some R)) : WidPost R N' w (.returned (.int .i64 q)) w' := ⟨q, rfl, hq, h.mono hN, hg⟩
set_option maxRecDepth 100000 in
set_option maxHeartbeats 4000000 in
theorem rdWidth (R N : Nat) (w : World) (h : RdrOk w R N) (hN : N ≤ 900000) : Calls Tryz.prog 131 #[.pointer (some ⟨R, 0, none⟩), .int .i64 16] w (WidPost R (N + 3) w) := by
  have hRl := h.lt
  have HR := hide h
  clear h
  go_enter Tryz.func131, Tryz.ntmps131
  go_wp2_with fail
  refine (pick R _ 16 _ HR.out (by omega) (by decide)).mono ?_
  rintro e W1 ⟨q0, rfl, _, _, hR1, hg1⟩
  have hRl1 := hR1.lt
  by_cases z : q0 = 0
  · subst z
    obtain ⟨V, hV⟩ : ∃ V, V = W1.alloc (.cells #[.int .i64 (-1), .int .i64 301, .int .i64 300] 3) := ⟨_, rfl⟩
    have eV : Below W1.heap.size W1 V := by rw [hV]; exact balloc (brefl _) _
    have hKV : BlockAt V W1.heap.size [.int .i64 (-1), .int .i64 301, .int .i64 300] := by rw [hV]; exact BlockAt.new W1 _ _
    have hzV : V.heap.size = W1.heap.size + 1 := by rw [hV]; simp
    have HRV := hide (hR1.below eV)
    have HGV := hide (grow_trans hg1 (grow_below eV))
    have HKV := hide hKV
    have HV := hide hV
    clear hV eV hKV hR1 hg1
    go_wp2_with fail
    rw [← HV.out]
    refine (pick R _ 3 _ HRV.out (by omega) (by decide)).mono ?_
    rintro e W2 ⟨q, rfl, hq0, hq1, hR2, hg2⟩
    have hq3 := hq1 (by decide)
    have hK2 := HKV.out.keep (grow_blk hg2 (by omega) (by omega))
    have HR2 := hide hR2
    have HG2 := hide (grow_trans HGV.out hg2)
    clear hq1 hR2 hg2
    obtain rfl | rfl | rfl : q = 0 ∨ q = 1 ∨ q = 2 := by omega
    · have c0 := hK2.1 0 _ rfl
      clear hK2
      go_wp2_with fail
      go_ret
      exact wid_post (by omega) HR2.out (by omega) HG2.out
    · have c0 := hK2.1 1 _ rfl
      clear hK2
      go_wp2_with fail
      go_ret
      exact wid_post (by omega) HR2.out (by omega) HG2.out
    · have c0 := hK2.1 2 _ rfl
      clear hK2
      go_wp2_with fail
      go_ret
      exact wid_post (by omega) HR2.out (by omega) HG2.out
  · have e0 : ((q0 : Int) == 0) = false := by simpa using z
    have HR1 := hide hR1
    have HG1 := hide hg1
    clear hR1 hg1
    go_wp2_with fail
    refine (pick R _ 100 _ HR1.out (by omega) (by decide)).mono ?_
    rintro e W2 ⟨y, rfl, hy0, hy1, hR2, hg2⟩
    have hy3 := hy1 (by decide)
    have hRl2 := hR2.lt
    obtain ⟨V, hV⟩ : ∃ V, V = W2.alloc (.cells #[.int .i64 0, .int .i64 10, .int .i64 25, .int .i64 40, .int .i64 60, .int .i64 80, .int .i64 120, .int .i64 y] 3) := ⟨_, rfl⟩
    have eV : Below W2.heap.size W2 V := by rw [hV]; exact balloc (brefl _) _
    have hKV : BlockAt V W2.heap.size [.int .i64 0, .int .i64 10, .int .i64 25, .int .i64 40, .int .i64 60, .int .i64 80, .int .i64 120, .int .i64 y] := by rw [hV]; exact BlockAt.new W2 _ _
    have hzV : V.heap.size = W2.heap.size + 1 := by rw [hV]; simp
    have HRV := hide (hR2.below eV)
    have HGV := hide (grow_trans (grow_trans HG1.out hg2) (grow_below eV))
    have HKV := hide hKV
    have HV := hide hV
    clear hV eV hKV hR2 hg2 hy1 z e0
    go_wp2_with fail
    rw [← HV.out]
    refine (pick R _ 8 _ HRV.out (by omega) (by decide)).mono ?_
    rintro e W3 ⟨q, rfl, hq0, hq1, hR3, hg3⟩
    have hq3 := hq1 (by decide)
    have hK3 := HKV.out.keep (grow_blk hg3 (by omega) (by omega))
    have HR3 := hide hR3
    have HG3 := hide (grow_trans HGV.out hg3)
    clear hq1 hR3 hg3
    obtain rfl | rfl | rfl | rfl | rfl | rfl | rfl | rfl : q = 0 ∨ q = 1 ∨ q = 2 ∨ q = 3 ∨ q = 4 ∨ q = 5 ∨ q = 6 ∨ q = 7 := by omega
    · have c0 := hK3.1 0 _ rfl
      clear hK3
      go_wp2_with fail
      go_ret
      exact wid_post (by omega) HR3.out (by omega) HG3.out
    · have c0 := hK3.1 1 _ rfl
      clear hK3
      go_wp2_with fail
      go_ret
      exact wid_post (by omega) HR3.out (by omega) HG3.out
    · have c0 := hK3.1 2 _ rfl
      clear hK3
      go_wp2_with fail
      go_ret
      exact wid_post (by omega) HR3.out (by omega) HG3.out
    · have c0 := hK3.1 3 _ rfl
      clear hK3
      go_wp2_with fail
      go_ret
      exact wid_post (by omega) HR3.out (by omega) HG3.out
    · have c0 := hK3.1 4 _ rfl
      clear hK3
      go_wp2_with fail
      go_ret
      exact wid_post (by omega) HR3.out (by omega) HG3.out
    · have c0 := hK3.1 5 _ rfl
      clear hK3
      go_wp2_with fail
      go_ret
      exact wid_post (by omega) HR3.out (by omega) HG3.out
    · have c0 := hK3.1 6 _ rfl
      clear hK3
      go_wp2_with fail
      go_ret
      exact wid_post (by omega) HR3.out (by omega) HG3.out
    · have c0 := hK3.1 7 _ rfl
      clear hK3
      go_wp2_with fail
      go_ret
      exact wid_post (by omega) HR3.out (by omega) HG3.out
def LaidPost (R N : Nat) (w : World) (e : Ending) (w' : World) : Prop :=
  ∃ (t : Tbl) (vc vr : Value) (k : Int), e = .returned (.tuple #[.agg #[vc, .int .i64 t.head, .int .i64 t.foot, vr, .int .i64 t.gap], .int .i64 k]) ∧ anyBd t ∧ (-1 ≤ k ∧ k ≤ 301) ∧ RdrOk w' R N ∧ w.grownBy w' (some R) ∧ OwnT w' w.heap.size vc vr t
theorem laid_post {R N N' : Nat} {w W : World} {vc vr : Value} {t : Tbl} {k : Int} (hb : anyBd t) (hk : -1 ≤ k ∧ k ≤ 301) (hR : RdrOk W R N) (hN : N ≤ N') (hg : w.grownBy W (some R)) (ho : OwnT W w.heap.size vc vr t) :
    LaidPost R N' w (.returned (.tuple #[.agg #[vc, .int .i64 t.head, .int .i64 t.foot, vr, .int .i64 t.gap], .int .i64 k])) W := ⟨t, vc, vr, k, rfl, hb, hk, hR.mono hN, hg, ho⟩
end Go.Proofs.YtpfagdmmhgcmnaaGreatDoor
