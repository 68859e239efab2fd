import Derived.Test.YtpfagdmmhgcmnaaGreatDoorMixWj
import Derived.Test.YtpfagdmmhgcmnaaGreatDoorMixWh
set_option linter.unusedVariables false
set_option linter.unusedSimpArgs false
namespace Go.Proofs.YtpfagdmmhgcmnaaGreatDoor
open Go.RowKit
theorem allFixed_kind {t : Tbl} (h : tblOk t = true) {n : Nat} (hn : (gridL 400 t).2 = n) : allFixed 400 t = true ↔ ∀ j, j < n → kindT t j = 1 := by
 unfold allFixed
 rw [h, hn]
 simp only [Bool.true_and]
 unfold fixedTo kindT
 simp [List.all_eq_true]
theorem widSum {t : Tbl} (h : tblOk t = true) {k : Nat} (hy : GoodRows t k) {width : Int} (hw : 0 ≤ width ∧ width ≤ 300) :
  wideG t.gap (widColsL 400 t width) = if width < wideG t.gap (colLeastL 400 t) ∨ allFixed 400 t = true then wideG t.gap (colLeastL 400 t) else width := by
 obtain ⟨n, hn, hn1, hl, _, he, hlw, _, _⟩ := widCols_ok h hy hw
 have hA := allFixed_kind h hn
 obtain ⟨w1, _, _, w4, w5⟩ := widths_spec (kind := kindT t) (nn := numT t) (width := width) (gap := t.gap) (least := colLeastL 400 t) (wish := colWishL 400 t) (said_kind h)
 rw [← he] at w1 w4 w5
 have e1 : wideL (colLeastL 400 t) t.gap = wideG t.gap (colLeastL 400 t) := rfl
 rw [e1] at w4 w5
 by_cases hle : width - wideG t.gap (colLeastL 400 t) ≤ 0
 ·
  rw [w4 hle]
  split
  ·
   rfl
  ·
   rename_i hno
   have : ¬ width < wideG t.gap (colLeastL 400 t) := fun h9 => hno (.inl h9)
   omega
 ·
  obtain ⟨b1, b2⟩ := w5 (by omega)
  by_cases ha : ∀ j, j < n → kindT t j = 1
  ·
   rw [b1 (fun j hj => ha j (by omega)), if_pos (.inr (hA.2 ha))]
  ·
   have hno : ¬ (width < wideG t.gap (colLeastL 400 t) ∨ allFixed 400 t = true) := by
    rintro (h9 | h9)
    ·
     omega
    ·
     exact ha (hA.1 h9)
   rw [if_neg hno]
   have : ∃ j, j < (colLeastL 400 t).length ∧ kindT t j ≠ 1 := Classical.byContradiction fun hx => ha fun j hj => Classical.byContradiction fun hq => hx ⟨j, by omega, hq⟩
   have hs := b2 this
   unfold wideG
   rw [hs, hlw, hl]
   omega
end Go.Proofs.YtpfagdmmhgcmnaaGreatDoor

namespace Go.Proofs.YtpfagdmmhgcmnaaGreatDoor
open Go.RowKit
set_option linter.unusedSimpArgs false in
set_option maxRecDepth 100000 in
set_option maxHeartbeats 40000000 in
theorem law_FnWidMore (A : Option Addr) (n c : Nat) (w : World) (hw : Base w) (h : BytesAt w A n c) :
  Calls Tryz.prog 8 #[.slice A n c] w fun e w' => e = .returned (.bool true) ∧ Below w.heap.size w w' := by
 have hD := spec_DrawWidTable A n c w h
 have HW := hide hw
 have hn1 := h.1
 clear h hw
 by_cases hb1 : (1048576 : Int) < n
 ·
  clear hD
  go_enter Tryz.func8, Tryz.ntmps8
  go_wp2_with fail
  go_ret
  exact ⟨rfl, brefl w⟩
 go_enter Tryz.func8, Tryz.ntmps8
 go_wp2_with fail
 refine hD.mono ?_
 rintro e W1 ⟨t, vc, vr, wd, rfl, htb, hwd, hO1, hB1⟩
 obtain ⟨⟨Ac, kc, rfl⟩, Ar, kr, rfl⟩ := hO1.form
 obtain ⟨k, hy⟩ := htb.good
 have hs1 : w.heap.size ≤ W1.heap.size := hB1.size
 have HY := hide hy
 obtain ⟨V1, hV1⟩ : ∃ V, V = W1.alloc (.cells #[.slice Ac t.cols.length kc, .int .i64 t.head, .int .i64 t.foot, .slice Ar t.rows.length kr, .int .i64 t.gap] 26) := ⟨_, rfl⟩
 have hK1 : BlockAt V1 W1.heap.size [.slice Ac t.cols.length kc, .int .i64 t.head, .int .i64 t.foot, .slice Ar t.rows.length kr, .int .i64 t.gap] := by rw [hV1]; exact BlockAt.new W1 _ _
 have hz1 : V1.heap.size = W1.heap.size + 1 := by rw [hV1]; simp
 have HB1 : Hid (Below w.heap.size w V1) := by rw [hV1]; exact balloc hB1 _
 have HC1 : Hid (Rd colR V1 Ac t.cols) := by rw [hV1]; exact hO1.rdc.below (balloc (brefl _) _)
 have HR1 : Hid (Rd rowR V1 Ar t.rows) := by rw [hV1]; exact (hO1.rdr (any_sized htb)).below (balloc (brefl _) _)
 have HCB : Hid (∀ W, Below V1.heap.size V1 W → Base W ∧ Rd colR W Ac t.cols ∧ Rd rowR W Ar t.rows ∧ BlockAt W W1.heap.size [.slice Ac t.cols.length kc, .int .i64 t.head, .int .i64 t.foot, .slice Ar t.rows.length kr, .int .i64 t.gap]) := fun W h => ⟨HW.out.below (step HB1.out h), HC1.out.below h, HR1.out.below h, hK1.keep (h.block _ (by omega))⟩
 have hE1 := impl_WidTable t Ac kc Ar kr wd V1 (HW.out.below HB1.out) HC1.out HR1.out hy
 have HT := hide htb
 have HV := hide hV1
 clear hD htb hO1 hB1 hy hV1 hK1
 obtain ⟨wz, hwz⟩ : ∃ wz, wideG t.gap (widColsL 400 t wd) = wz := ⟨_, rfl⟩
 rw [hwz] at hE1
 have HWZ := hide hwz
 obtain ⟨_, _, _, hK1⟩ := HCB.out V1 (brefl V1)
 have f0 := hK1.1 0 _ rfl
 have f1 := hK1.1 1 _ rfl
 have f2 := hK1.1 2 _ rfl
 have f3 := hK1.1 3 _ rfl
 have f4 := hK1.1 4 _ rfl
 clear hK1 hwz
 go_wp2_with fail
 rw [← HV.out]
 refine hE1.mono ?_
 rintro e W2 ⟨rfl, hb2⟩
 have HB2 := hide hb2
 obtain ⟨q1, q2, q3, hK2⟩ := HCB.out W2 hb2
 have hE2 := spec_WidTable t Ac kc Ar kr wd W2 q2 q3 HY.out
 rw [HWZ.out] at hE2
 have g0 := hK2.1 0 _ rfl
 have g1 := hK2.1 1 _ rfl
 have g2 := hK2.1 2 _ rfl
 have g3 := hK2.1 3 _ rfl
 have g4 := hK2.1 4 _ rfl
 clear f0 f1 f2 f3 f4 hb2 hE1 hK2 HV q1 q2 q3
 go_wp2_with fail
 refine hE2.mono ?_
 rintro e W6 ⟨rfl, hb6⟩
 have HB6 := hide (step HB2.out hb6)
 obtain ⟨q1, q2, q3, hK6⟩ := HCB.out W6 HB6.out
 have hO6 := spec_TblOk t Ac kc Ar kr W6 q2 q3
 have g0 := hK6.1 0 _ rfl
 have g1 := hK6.1 1 _ rfl
 have g2 := hK6.1 2 _ rfl
 have g3 := hK6.1 3 _ rfl
 have g4 := hK6.1 4 _ rfl
 clear hb6 hE2 hK6 q1 q2 q3
 by_cases hq : tblOk t = true ∧ 0 ≤ wd ∧ wd < 300
 ·
  rw [hq.1] at hO6
  have i1 : ¬ wd < 0 := by omega
  have i2 : ¬ wd ≥ 300 := by omega
  have i3 : ¬ 300 ≤ wd := by omega
  have HQ := hide hq
  have HS := hide (And.intro i1 i2)
  have t1 : IntKind.i64.wrap (wd + 1) = wd + 1 := by rw [IntKind.wrap_i64]; omega
  clear hq
  go_wp2_with fail
  refine hO6.mono ?_
  rintro e W7 ⟨rfl, hb7⟩
  have HB7 := hide (step HB6.out hb7)
  obtain ⟨q1, q2, q3, hK7⟩ := HCB.out W7 HB7.out
  have hE7 := impl_WidTable t Ac kc Ar kr (wd + 1) W7 q1 q2 q3 HY.out
  have hws := widSum HQ.out.1 HY.out (width := wd) (by omega)
  have hws2 := widSum HQ.out.1 HY.out (width := wd + 1) (by omega)
  rw [HWZ.out] at hws
  obtain ⟨wm, hwm⟩ : ∃ wm, wideG t.gap (widColsL 400 t (wd + 1)) = wm := ⟨_, rfl⟩
  rw [hwm] at hE7 hws2
  obtain ⟨fl, hfl⟩ : ∃ fl, wideG t.gap (colLeastL 400 t) = fl := ⟨_, rfl⟩
  rw [hfl] at hws hws2
  have hfl1 : 0 ≤ fl ∧ fl ≤ 100000 := by
   obtain ⟨m, _, h2, h3, h4, _⟩ := colLeast_ok HQ.out.1 HY.out
   have hg := (tblOk_parts HQ.out.1).2.2.1
   obtain ⟨s1, s2⟩ := sum_le 60 _ h4
   have hm := Int.mul_nonneg hg.1 (show 0 ≤ max (((colLeastL 400 t).length : Int) - 1) 0 by omega)
   have hm2 : t.gap * max (((colLeastL 400 t).length : Int) - 1) 0 ≤ 3 * max (((colLeastL 400 t).length : Int) - 1) 0 := Int.mul_le_mul_of_nonneg_right hg.2 (by omega)
   have : fl = sumI (colLeastL 400 t) + t.gap * max (((colLeastL 400 t).length : Int) - 1) 0 := hfl.symm
   omega
  have HFL := hide hfl
  have hCF : Hid (∀ W, Below V1.heap.size V1 W → Calls Tryz.prog 37 #[.agg #[.slice Ac t.cols.length kc, .int .i64 t.head, .int .i64 t.foot, .slice Ar t.rows.length kr, .int .i64 t.gap]] W fun e w' => e = .returned (.int .i64 fl) ∧ Below W.heap.size W w') := fun W h => by
   obtain ⟨q1, q2, q3, _⟩ := HCB.out W h
   have h9 := impl_ColFloor2 t Ac kc Ar kr W q1 q2 q3 HY.out
   rw [hfl] at h9
   exact h9
  obtain ⟨af, haf⟩ : ∃ af, allFixed 400 t = af := ⟨_, rfl⟩
  rw [haf] at hws hws2
  have hAF : Hid (∀ W, Below V1.heap.size V1 W → Calls Tryz.prog 46 #[.agg #[.slice Ac t.cols.length kc, .int .i64 t.head, .int .i64 t.foot, .slice Ar t.rows.length kr, .int .i64 t.gap]] W fun e w' => e = .returned (.bool af) ∧ Below W.heap.size W w') := fun W h => by
   obtain ⟨q1, q2, q3, _⟩ := HCB.out W h
   have h9 := impl_ColAllFixed t Ac kc Ar kr W q1 q2 q3
   rw [haf] at h9
   exact h9
  have g0 := hK7.1 0 _ rfl
  have g1 := hK7.1 1 _ rfl
  have g2 := hK7.1 2 _ rfl
  have g3 := hK7.1 3 _ rfl
  have g4 := hK7.1 4 _ rfl
  have HWS := hide (And.intro hws hws2)
  clear hb7 hO6 hK7 q1 q2 q3 hfl hwm haf hws hws2
  go_wp2_with fail
  refine hE7.mono ?_
  rintro e W8 ⟨rfl, hb8⟩
  have HB8 := hide (step HB7.out hb8)
  obtain ⟨_, _, _, hK8⟩ := HCB.out W8 HB8.out
  have g0 := hK8.1 0 _ rfl
  have g1 := hK8.1 1 _ rfl
  have g2 := hK8.1 2 _ rfl
  have g3 := hK8.1 3 _ rfl
  have g4 := hK8.1 4 _ rfl
  have hC8 := hCF.out W8 HB8.out
  clear hb8 hE7 hK8
  by_cases h1 : wd < fl
  ·
   have hz := (show wz = fl by rw [HWS.out.1, if_pos (.inl h1)]).symm
   have hz2 := (show wm = fl by
    rw [HWS.out.2]
    by_cases h2 : wd + 1 < fl ∨ af = true
    ·
     rw [if_pos h2]
    ·
     rw [if_neg h2]
     have : ¬ wd + 1 < fl := fun h9 => h2 (.inl h9)
     omega).symm
   subst hz
   subst hz2
   have h1z : fl ≥ fl := Int.le_refl _
   clear HWS
   go_wp2_with fail
   refine hC8.mono ?_
   rintro e W9 ⟨rfl, hb9⟩
   have HB9 := hide (step HB8.out hb9)
   obtain ⟨_, _, _, hK9⟩ := HCB.out W9 HB9.out
   have g0 := hK9.1 0 _ rfl
   have g1 := hK9.1 1 _ rfl
   have g2 := hK9.1 2 _ rfl
   have g3 := hK9.1 3 _ rfl
   have g4 := hK9.1 4 _ rfl
   have hC9 := hCF.out W9 HB9.out
   clear hb9 hC8 hK9
   go_wp2_with fail
   refine hC9.mono ?_
   rintro e W10 ⟨rfl, hb10⟩
   have HB10 := hide (step HB9.out hb10)
   clear hb10 hC9
   go_wp2_with fail
   go_ret
   exact ⟨rfl, step HB1.out HB10.out⟩
  ·
   cases haf : af with
   | true =>
    have hz := (show wz = fl by rw [HWS.out.1, if_pos (.inr haf)]).symm
    have hz2 := (show wm = fl by rw [HWS.out.2, if_pos (.inr haf)]).symm
    subst hz
    subst hz2
    subst haf
    clear HWS
    go_wp2_with fail
    refine hC8.mono ?_
    rintro e W9 ⟨rfl, hb9⟩
    have HB9 := hide (step HB8.out hb9)
    obtain ⟨_, _, _, hK9⟩ := HCB.out W9 HB9.out
    have g0 := hK9.1 0 _ rfl
    have g1 := hK9.1 1 _ rfl
    have g2 := hK9.1 2 _ rfl
    have g3 := hK9.1 3 _ rfl
    have g4 := hK9.1 4 _ rfl
    have hC9 := hAF.out W9 HB9.out
    clear hb9 hC8 hK9
    go_wp2_with fail
    refine hC9.mono ?_
    rintro e W10 ⟨rfl, hb10⟩
    have HB10 := hide (step HB9.out hb10)
    obtain ⟨_, _, _, hK10⟩ := HCB.out W10 HB10.out
    have g0 := hK10.1 0 _ rfl
    have g1 := hK10.1 1 _ rfl
    have g2 := hK10.1 2 _ rfl
    have g3 := hK10.1 3 _ rfl
    have g4 := hK10.1 4 _ rfl
    have hC10 := hCF.out W10 HB10.out
    clear hb10 hC9 hK10
    go_wp2_with fail
    refine hC10.mono ?_
    rintro e W11 ⟨rfl, hb11⟩
    have HB11 := hide (step HB10.out hb11)
    clear hb11 hC10
    go_wp2_with fail
    go_ret
    exact ⟨by first | rfl | (simp [h1]; done) | (simp; omega), step HB1.out HB11.out⟩
   | false =>
    have hz := (show wz = wd by rw [HWS.out.1, if_neg (by rintro (h9 | h9); exact h1 h9; rw [haf] at h9; cases h9)]).symm
    have hz2 : wm = wd + 1 := by rw [HWS.out.2, if_neg (by rintro (h9 | h9); omega; rw [haf] at h9; cases h9)]
    subst hz
    subst hz2
    subst haf
    have h3 : ((wd + 1 : Int) == wd) = false := by simp; omega
    have h4 : fl ≤ wd := by omega
    clear HWS
    go_wp2_with fail
    refine hC8.mono ?_
    rintro e W9 ⟨rfl, hb9⟩
    have HB9 := hide (step HB8.out hb9)
    obtain ⟨_, _, _, hK9⟩ := HCB.out W9 HB9.out
    have g0 := hK9.1 0 _ rfl
    have g1 := hK9.1 1 _ rfl
    have g2 := hK9.1 2 _ rfl
    have g3 := hK9.1 3 _ rfl
    have g4 := hK9.1 4 _ rfl
    have hC9 := hAF.out W9 HB9.out
    clear hb9 hC8 hK9
    go_wp2_with fail
    refine hC9.mono ?_
    rintro e W10 ⟨rfl, hb10⟩
    have HB10 := hide (step HB9.out hb10)
    obtain ⟨_, _, _, hK10⟩ := HCB.out W10 HB10.out
    have g0 := hK10.1 0 _ rfl
    have g1 := hK10.1 1 _ rfl
    have g2 := hK10.1 2 _ rfl
    have g3 := hK10.1 3 _ rfl
    have g4 := hK10.1 4 _ rfl
    have hC10 := hCF.out W10 HB10.out
    clear hb10 hC9 hK10
    go_wp2_with fail
    refine hC10.mono ?_
    rintro e W11 ⟨rfl, hb11⟩
    have HB11 := hide (step HB10.out hb11)
    clear hb11 hC10
    go_wp2_with fail
    go_ret
    exact ⟨by first | rfl | (simp [h1]; done) | (simp; omega), step HB1.out HB11.out⟩
 ·
  have hdef : tblOk t = false ∨ (tblOk t = true ∧ (wd < 0 ∨ (¬ wd < 0 ∧ wd ≥ 300))) := by
   cases hok : tblOk t with
   | false => exact .inl rfl
   | true =>
    refine .inr ⟨rfl, ?_⟩
    by_cases h1 : wd < 0
    ·
     exact .inl h1
    ·
     refine .inr ⟨h1, ?_⟩
     refine Classical.byContradiction fun h2 => hq ⟨hok, by omega, by omega⟩
  obtain ⟨b, hb0⟩ : ∃ b, tblOk t = b := ⟨_, rfl⟩
  rw [hb0] at hO6 hdef
  have hTI : Hid (∀ W, Below V1.heap.size V1 W → Calls Tryz.prog 31 #[.agg #[.slice Ac t.cols.length kc, .int .i64 t.head, .int .i64 t.foot, .slice Ar t.rows.length kr, .int .i64 t.gap]] W fun e w' => e = .returned (.bool b) ∧ Below W.heap.size W w') := fun W h => by
   obtain ⟨q1, q2, q3, _⟩ := HCB.out W h
   have h9 := impl_TblOk t Ac kc Ar kr W q1 q2 q3
   rw [hb0] at h9
   exact h9
  have hTS : Hid (∀ W, Below V1.heap.size V1 W → Calls Tryz.prog 19 #[.agg #[.slice Ac t.cols.length kc, .int .i64 t.head, .int .i64 t.foot, .slice Ar t.rows.length kr, .int .i64 t.gap]] W fun e w' => e = .returned (.bool b) ∧ Below W.heap.size W w') := fun W h => by
   obtain ⟨q1, q2, q3, _⟩ := HCB.out W h
   have h9 := spec_TblOk t Ac kc Ar kr W q2 q3
   rw [hb0] at h9
   exact h9
  clear hq hb0
  rcases hdef with rfl | ⟨rfl, h1 | ⟨h1, h2⟩⟩
  ·
   go_wp2_with fail
   refine hO6.mono ?_
   rintro e W7 ⟨rfl, hb7⟩
   have HB7 := hide (step HB6.out hb7)
   obtain ⟨_, _, _, hK7⟩ := HCB.out W7 HB7.out
   have g0 := hK7.1 0 _ rfl
   have g1 := hK7.1 1 _ rfl
   have g2 := hK7.1 2 _ rfl
   have g3 := hK7.1 3 _ rfl
   have g4 := hK7.1 4 _ rfl
   have hPW := fun (W : World) (h : Below V1.heap.size V1 W) => laws_pwOk W (HCB.out W h).1
   have hz7 : W1.heap.size < W7.heap.size := by have := HB7.out.size; omega
   clear hb7 hO6 hK7
   go_upto_region 8 with fail
   go_region_with (first
    | (go_at_call 31; refine (hTI.out _ ?_).mono ?_; (first | exact HB7.out | exact bdrew HB7.out); rintro e W8 ⟨rfl, hb8⟩; obtain ⟨c2, f2, s2⟩ := seenBk W1.heap.size (by first | omega | (simp; omega)) hb8)
    | (go_at_call 19; refine (hTS.out _ ?_).mono ?_; (first | exact step HB7.out hb8 | exact step (bdrew HB7.out) hb8); rintro e W9 ⟨rfl, hb9⟩)
    | (go_at_call 20; refine (hPW _ ?_).mono ?_; (first | exact step (step HB7.out hb8) hb9 | exact step (step (bdrew HB7.out) hb8) hb9); rintro e W10 ⟨rfl, hb10⟩))
   all_goals
    go_wp2_with fail
    go_ret
    refine ⟨rfl, step HB1.out ?_⟩
    (repeat' (with_reducible first | exact HB7.out | refine bdrew ?_ | refine step ?_ (by with_reducible assumption)))
  ·
   go_wp2_with fail
   refine hO6.mono ?_
   rintro e W7 ⟨rfl, hb7⟩
   have HB7 := hide (step HB6.out hb7)
   obtain ⟨_, _, _, hK7⟩ := HCB.out W7 HB7.out
   have g0 := hK7.1 0 _ rfl
   have g1 := hK7.1 1 _ rfl
   have g2 := hK7.1 2 _ rfl
   have g3 := hK7.1 3 _ rfl
   have g4 := hK7.1 4 _ rfl
   have hPW := fun (W : World) (h : Below V1.heap.size V1 W) => laws_pwOk W (HCB.out W h).1
   have hz7 : W1.heap.size < W7.heap.size := by have := HB7.out.size; omega
   clear hb7 hO6 hK7
   go_upto_region 8 with fail
   go_region_with (first
    | (go_at_call 31; refine (hTI.out _ ?_).mono ?_; (first | exact HB7.out | exact bdrew HB7.out); rintro e W8 ⟨rfl, hb8⟩; obtain ⟨c2, f2, s2⟩ := seenBk W1.heap.size (by first | omega | (simp; omega)) hb8)
    | (go_at_call 19; refine (hTS.out _ ?_).mono ?_; (first | exact step HB7.out hb8 | exact step (bdrew HB7.out) hb8); rintro e W9 ⟨rfl, hb9⟩)
    | (go_at_call 20; refine (hPW _ ?_).mono ?_; (first | exact step (step HB7.out hb8) hb9 | exact step (step (bdrew HB7.out) hb8) hb9); rintro e W10 ⟨rfl, hb10⟩))
   all_goals
    go_wp2_with fail
    go_ret
    refine ⟨rfl, step HB1.out ?_⟩
    (repeat' (with_reducible first | exact HB7.out | refine bdrew ?_ | refine step ?_ (by with_reducible assumption)))
  ·
   have h3 : 300 ≤ wd := h2
   go_wp2_with fail
   refine hO6.mono ?_
   rintro e W7 ⟨rfl, hb7⟩
   have HB7 := hide (step HB6.out hb7)
   obtain ⟨_, _, _, hK7⟩ := HCB.out W7 HB7.out
   have g0 := hK7.1 0 _ rfl
   have g1 := hK7.1 1 _ rfl
   have g2 := hK7.1 2 _ rfl
   have g3 := hK7.1 3 _ rfl
   have g4 := hK7.1 4 _ rfl
   have hPW := fun (W : World) (h : Below V1.heap.size V1 W) => laws_pwOk W (HCB.out W h).1
   have hz7 : W1.heap.size < W7.heap.size := by have := HB7.out.size; omega
   clear hb7 hO6 hK7
   go_upto_region 8 with fail
   go_region_with (first
    | (go_at_call 31; refine (hTI.out _ ?_).mono ?_; (first | exact HB7.out | exact bdrew HB7.out); rintro e W8 ⟨rfl, hb8⟩; obtain ⟨c2, f2, s2⟩ := seenBk W1.heap.size (by first | omega | (simp; omega)) hb8)
    | (go_at_call 19; refine (hTS.out _ ?_).mono ?_; (first | exact step HB7.out hb8 | exact step (bdrew HB7.out) hb8); rintro e W9 ⟨rfl, hb9⟩)
    | (go_at_call 20; refine (hPW _ ?_).mono ?_; (first | exact step (step HB7.out hb8) hb9 | exact step (step (bdrew HB7.out) hb8) hb9); rintro e W10 ⟨rfl, hb10⟩))
   all_goals
    go_wp2_with fail
    go_ret
    refine ⟨rfl, step HB1.out ?_⟩
    (repeat' (with_reducible first | exact HB7.out | refine bdrew ?_ | refine step ?_ (by with_reducible assumption)))
end Go.Proofs.YtpfagdmmhgcmnaaGreatDoor
