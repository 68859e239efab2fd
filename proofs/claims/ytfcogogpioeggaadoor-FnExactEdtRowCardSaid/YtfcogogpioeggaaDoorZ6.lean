import Derived.Test.YtfcogogpioeggaaDoorKp
import Derived.Test.YtfcogogpioeggaaDoorLx
import Derived.Test.YtfcogogpioeggaaDoorZ1
import Derived.Deep.RegionWith
namespace Go.Proofs.YtfcogogpioeggaaDoor
open Go.RowKit
/- EdtRow answers as the reference, and its answer is its own: the statement's own walk. -/
/-- Ways that come to one and the same goal, but for a world and two letters. -/
theorem shareW2 {B : Nat} {w : World} {F : Nat → Nat → World → Prop} {Q : Prop} (h : SharedW (∀ a b wy, Below B w wy → F a b wy) → Q) (p : ∀ a b wy, Below B w wy → F a b wy) : Q := h ⟨p⟩
/-- A variable of five cells. -/
def V5 (w : World) (b : Nat) (u0 u1 u2 u3 u4 : Value) : Prop := w.cell? ⟨b, 0, none⟩ = some u0 ∧ w.cell? ⟨b, 1, none⟩ = some u1 ∧ w.cell? ⟨b, 2, none⟩ = some u2 ∧ w.cell? ⟨b, 3, none⟩ = some u3 ∧ w.cell? ⟨b, 4, none⟩ = some u4
theorem V5.keep {w w' : World} {b : Nat} {u0 u1 u2 u3 u4 : Value} (h : V5 w b u0 u1 u2 u3 u4) (hb : Below w.heap.size w w') : V5 w' b u0 u1 u2 u3 u4 := ⟨keepW hb h.1, keepW hb h.2.1, keepW hb h.2.2.1, keepW hb h.2.2.2.1, keepW hb h.2.2.2.2⟩
theorem V5.new (w : World) (u0 u1 u2 u3 u4 : Value) (T : TypeId) : V5 (w.alloc (.cells #[u0, u1, u2, u3, u4] T)) w.heap.size u0 u1 u2 u3 u4 := ⟨cell_new _ _ _ _ _ _ rfl, cell_new _ _ _ _ _ _ rfl, cell_new _ _ _ _ _ _ rfl, cell_new _ _ _ _ _ _ rfl, cell_new _ _ _ _ _ _ rfl⟩
theorem V5.within {w w' : World} {lo hi b : Nat} {u0 u1 u2 u3 u4 : Value} (h : V5 w b u0 u1 u2 u3 u4) (hw : Within lo hi w w') (hd : b < lo ∨ hi ≤ b) : V5 w' b u0 u1 u2 u3 u4 := by
  have hlt : b < w.heap.size := World.block_lt_of_cell? w _ h.1
  have e := hw.block b hlt hd
  have k : ∀ i, w'.cell? ⟨b, i, none⟩ = w.cell? ⟨b, i, none⟩ := fun i => World.cell?_of_block e
  exact ⟨(k 0).trans h.1, (k 1).trans h.2.1, (k 2).trans h.2.2.1, (k 3).trans h.2.2.2.1, (k 4).trans h.2.2.2.2⟩
set_option maxRecDepth 100000 in
set_option maxHeartbeats 8000000 in
theorem law_EdtRow (t : Tbl) (A : Option Addr) (c : Nat) (A' : Option Addr) (c' : Nat) (at' : Int) (w : World) (hw : Base w) (hc : Rd colR w A t.cols) (hr : Rd rowA w A' t.rows)
    (hs : ∀ r ∈ t.rows, ∀ x ∈ r.cs, x.t.size ≤ 9223372036854775807) :
    Calls Tryd.prog 8 #[.agg #[.slice A t.cols.length c, .int .i64 t.head, .int .i64 t.foot, .slice A' t.rows.length c', .int .i64 t.gap], .int .i64 at'] w fun e w' => e = .returned (.bool true) ∧ Below w.heap.size w w' := by
  have hZ := fun (W : World) (h : Below w.heap.size w W) => szTable t A c A' c' 1048576 W (by omega) (by omega) hc.1 (hr.below h) hs
  go_enter Tryd.func8, Tryd.ntmps8
  go_wp2_with fail
  refine (hZ _ (balloc (brefl _) _)).mono ?_
  rintro e w1 ⟨n, rfl, hn, hb1⟩
  obtain ⟨c0, f0, s0⟩ := seenBk w.heap.size (by first | (simp; omega) | simp [*]) hb1
  have HB1 := step (balloc (brefl w) _) hb1
  rcases hn with rfl | ⟨n0, n1, hP⟩
  · go_wp2_with fail
    go_ret
    exact ⟨rfl, HB1⟩
  · have n2 : ¬ n < 0 := by omega
    obtain ⟨hP1, hP2⟩ := hP
    have hT := fun (W : World) (h : Below w.heap.size w W) => toTable t A c A' c' W (hc.below h) (hr.below h) hP1 hP2
    have HP2 := hide hP2
    have HSM : Hid (SmallT t) := ⟨hP1, hP2.1, fun r hr => (hP2.2 r hr).1⟩
    have HSZ : Hid (SizedC t.rows) := fun r hr x hx => (hP2.2 r hr).2 x hx
    clear hZ hP2
    go_wp2_with fail
    refine (hT _ HB1).mono ?_
    rintro e w2 ⟨gc, gr, rfl, hcols, hrows, hb2⟩
    obtain ⟨c0', f0', s0'⟩ := seenBk w.heap.size (by simp [*]) hb2
    have HB2 := step HB1 hb2
    have hSp := spec_EdtRow t (some ⟨gc, 0, none⟩) t.cols.length (some ⟨gr, 0, none⟩) t.rows.length at' w2 (own_rd_cols hcols) (own_rd_rows hrows HP2.out) (Lies.of hcols) (rdO_of_rows hrows HSM.out.2.2 HSM.out.2.1)
    have HG1 := hide (row_sized HSZ.out at')
    have HG2 := hide (row_small HSM.out at')
    generalize hGG : edtRow t at' = G at hSp HG1 HG2
    have HGG := hide hGG
    clear hcols hrows hGG
    go_wp2_with fail
    refine hSp.mono ?_
    rintro e w3 ⟨vc0, vr0, rfl, hown0, hb3⟩
    obtain ⟨Ac0, cc0, hv1⟩ := hown0.1.form
    obtain ⟨Ar0, cr0, hv2⟩ : ∃ A c, vr0 = .slice A G.1.rows.length c := by obtain ⟨_, vs, hra⟩ := hown0; exact hra.len
    subst hv1
    subst hv2
    obtain ⟨c1, f1, s1⟩ := seenBk w.heap.size (by simp [*]) hb3
    have HB3 := step HB2 hb3
    have HO0 := hide hown0
    clear hSp hown0
    have HV5 : Hid (V5 w3 w.heap.size (.slice A t.cols.length c) (.int .i64 t.head) (.int .i64 t.foot) (.slice A' t.rows.length c') (.int .i64 t.gap)) := ⟨by simp [*], by simp [*], by simp [*], by simp [*], by simp [*]⟩
    clear c1 f1 s1 c0' f0' s0' c0 f0 s0
    obtain ⟨a0, a1, a2, a3, a4⟩ := HV5.out
    have hw3 : w.heap.size < w3.heap.size := World.block_lt_of_cell? w3 _ a0
    have hz0 : w.heap.size ≠ w3.heap.size := by omega
    go_wp2_with fail
    refine (hT _ (balloc HB3 _)).mono ?_
    rintro e w4 ⟨gc', gr', rfl, hcols, hrows, hb4⟩
    have HV12 := hide ((V5.new w3 (.slice Ac0 G.1.cols.length cc0) (.int .i64 G.1.head) (.int .i64 G.1.foot) (.slice Ar0 G.1.rows.length cr0) (.int .i64 G.1.gap) 33).keep hb4)
    have HV5 := hide ((HV5.out.keep (balloc (brefl w3) _)).keep hb4)
    have HB4 := step (balloc HB3 _) hb4
    have h34 : w3.heap.size + 1 ≤ w4.heap.size := by have := hb4.size; simpa using this
    have HO0 := hide (HO0.out.keep (w' := w4) (fun b _ h => ((balloc (brefl w3) _).trans (hb4.mono (balloc (brefl w3) _).size)).block b h))
    have HX0 := hide ((own_of_table hcols hrows).mono (lo' := w3.heap.size + 1) (by simp) (Nat.le_refl _))
    have hIm := fun (W : World) (h : Below w4.heap.size w4 W) => impl_EdtRow t (some ⟨gc', 0, none⟩) t.cols.length (some ⟨gr', 0, none⟩) t.rows.length at' W ((hw.below HB4).below h) ((own_rd_cols hcols).below h) ((own_rd_rows hrows HP2.out).below h) ((Lies.of hcols).below h) ((rdO_of_rows hrows HSM.out.2.2 HSM.out.2.1).below h)
    rw [HGG.out] at hIm
    have HIM := hide hIm
    clear hcols hrows hIm a0 a1 a2 a3 a4 hb4
    obtain ⟨a0, a1, a2, a3, a4⟩ := HV5.out
    go_wp2_with fail
    refine (HIM.out _ (balloc (brefl _) _)).mono ?_
    rintro e w5 ⟨vc1, vr1, rfl, hown1, hb5⟩
    obtain ⟨Ac1, cc1, hv1⟩ := hown1.1.form
    obtain ⟨Ar1, cr1, hv2⟩ : ∃ A c, vr1 = .slice A G.1.rows.length c := by obtain ⟨_, vs, hra⟩ := hown1; exact hra.len
    subst hv1
    subst hv2
    have HV14 := hide ((V5.new w4 (.slice (some ⟨gc', 0, none⟩) t.cols.length t.cols.length) (.int .i64 t.head) (.int .i64 t.foot) (.slice (some ⟨gr', 0, none⟩) t.rows.length t.rows.length) (.int .i64 t.gap) 33).keep hb5)
    have B45 := (balloc (brefl w4) (.cells #[.slice (some ⟨gc', 0, none⟩) t.cols.length t.cols.length, .int .i64 t.head, .int .i64 t.foot, .slice (some ⟨gr', 0, none⟩) t.rows.length t.rows.length, .int .i64 t.gap] 33)).trans (hb5.mono (balloc (brefl w4) (.cells #[.slice (some ⟨gc', 0, none⟩) t.cols.length t.cols.length, .int .i64 t.head, .int .i64 t.foot, .slice (some ⟨gr', 0, none⟩) t.rows.length t.rows.length, .int .i64 t.gap] 33)).size)
    have HV12 := hide (HV12.out.keep B45)
    have HV5 := hide (HV5.out.keep B45)
    have h45 : w4.heap.size + 1 ≤ w5.heap.size := by have := hb5.size; simpa using this
    have HB5 := step HB4 B45
    have HO0 := hide (HO0.out.keep (w' := w5) (fun b _ h => B45.block b (by omega)))
    have HX0 := hide (HX0.out.keep (w' := w5) (fun b _ h => B45.block b h))
    have HO1 := hide (hown1.mono (lo' := w4.heap.size + 1) (by simp) (Nat.le_refl _))
    clear hown1 a0 a1 a2 a3 a4 B45 hb5 HIM
    obtain ⟨a0, a1, a2, a3, a4⟩ := HV5.out
    obtain ⟨b0, b1, b2, b3, b4⟩ := HV12.out
    obtain ⟨d0, d1, d2, d3, d4⟩ := HV14.out
    have hq1 : w.heap.size < w5.heap.size := by omega
    have hq2 : w3.heap.size < w5.heap.size := by omega
    have hq3 : w4.heap.size < w5.heap.size := by omega
    go_wp2_with fail
    have hGs : G.1.rows.length ≤ 1048576 := HG2.out.2.1
    have R1 := (HO1.out.keep (w' := w5.alloc (.cells #[.slice Ac1 G.1.cols.length cc1, .int .i64 G.1.head, .int .i64 G.1.foot, .slice Ar1 G.1.rows.length cr1, .int .i64 G.1.gap] 33)) (fun b _ h => (balloc (brefl w5) _).block b h)).rd HG1.out hGs
    have R0 := (HO0.out.keep (w' := w5.alloc (.cells #[.slice Ac1 G.1.cols.length cc1, .int .i64 G.1.head, .int .i64 G.1.foot, .slice Ar1 G.1.rows.length cr1, .int .i64 G.1.gap] 33)) (fun b _ h => (balloc (brefl w5) _).block b (by omega))).rd HG1.out hGs
    have hEq := eqTable G.1 Ac1 Ar1 Ac0 Ar0 cc1 cr1 cc0 cr0 _ R1.1 R1.2 R0.1 R0.2
    clear R1 R0
    refine hEq.mono ?_
    rintro e w6 ⟨rfl, hb6⟩
    have HV15 := hide ((V5.new w5 (.slice Ac1 G.1.cols.length cc1) (.int .i64 G.1.head) (.int .i64 G.1.foot) (.slice Ar1 G.1.rows.length cr1) (.int .i64 G.1.gap) 33).keep hb6)
    have B56 := (balloc (brefl w5) (.cells #[.slice Ac1 G.1.cols.length cc1, .int .i64 G.1.head, .int .i64 G.1.foot, .slice Ar1 G.1.rows.length cr1, .int .i64 G.1.gap] 33)).trans (hb6.mono (balloc (brefl w5) (.cells #[.slice Ac1 G.1.cols.length cc1, .int .i64 G.1.head, .int .i64 G.1.foot, .slice Ar1 G.1.rows.length cr1, .int .i64 G.1.gap] 33)).size)
    have HV5 := hide (HV5.out.keep B56)
    have HV12 := hide (HV12.out.keep B56)
    have HV14 := hide (HV14.out.keep B56)
    have h56 : w5.heap.size + 1 ≤ w6.heap.size := by have := hb6.size; simpa using this
    have HB6 := step HB5 B56
    have HO0 := hide (HO0.out.keep (w' := w6) (fun b _ h => B56.block b (by omega)))
    have HX0 := hide (HX0.out.keep (w' := w6) (fun b _ h => B56.block b (by omega)))
    have HO1 := hide (HO1.out.keep (w' := w6) (fun b _ h => B56.block b h))
    clear a0 a1 a2 a3 a4 b0 b1 b2 b3 b4 d0 d1 d2 d3 d4 hb6 B56 hEq
    obtain ⟨a0, a1, a2, a3, a4⟩ := HV5.out
    obtain ⟨d0, d1, d2, d3, d4⟩ := HV14.out
    have RX := HX0.out.rd HSZ.out HSM.out.2.1
    have hEqX := fun (W : World) (h : Below w6.heap.size w6 W) (gd gs : Nat) (m m' : Nat) (k1 : Rd colR W (some ⟨gd, 0, none⟩) t.cols) (k2 : Rd rowR W (some ⟨gs, 0, none⟩) t.rows) => eqTable t (some ⟨gc', 0, none⟩) (some ⟨gr', 0, none⟩) (some ⟨gd, 0, none⟩) (some ⟨gs, 0, none⟩) t.cols.length t.rows.length m m' W (RX.1.below h) (RX.2.below h) k1 k2
    have HB66 := brefl w6
    go_wp2_with fail
    apply shareW2 (B := w6.heap.size) (w := w6)
    · intro HSH
      go_region_with (first
        | (go_at_call 12; refine (hT _ ?_).mono ?_; (first | exact HB6 | exact bdrew HB6 | exact bdrew (bdrew HB6)); rintro e w7 ⟨gc7, gr7, rfl, hcols, hrows, hb7⟩; obtain ⟨v5, f5, s5⟩ := seenBk w.heap.size (by simp; omega) hb7; obtain ⟨x5, y5, z5⟩ := seenBk w4.heap.size (by simp; omega) hb7; have kc := own_rd_cols hcols; have kr := own_rd_rows hrows HP2.out; clear hcols hrows)
        | (go_at_call 15; refine (hEqX _ ?_ gc7 gr7 _ _ ?_ ?_).mono ?_; (with_reducible first | exact step HB66 hb7 | exact step (bdrew HB66) hb7 | exact step (bdrew (bdrew HB66)) hb7 | exact bdrew (step HB66 hb7) | exact bdrew (step (bdrew HB66) hb7) | exact bdrew (bdrew (step HB66 hb7)) | exact bdrew (bdrew (step (bdrew HB66) hb7))); (with_reducible first | exact kc | exact kc.below (bdrew (brefl _)) | exact kc.below (bdrew (bdrew (brefl _)))); (with_reducible first | exact kr | exact kr.below (bdrew (brefl _)) | exact kr.below (bdrew (bdrew (brefl _)))); rintro e w8 ⟨rfl, hb8⟩))
      all_goals
        refine letterW ?_
        intro wy hwy
        refine HSH.out gc7 gr7 wy ?_
        rw [hwy]
        (repeat' (with_reducible first | exact brefl _ | refine bdrew ?_ | refine step ?_ (by with_reducible assumption)))
    · intro g7 r7 w8 hb8
      have h68 := hb8.size
      have HV5 := hide (HV5.out.keep hb8)
      have HV12 := hide (HV12.out.keep hb8)
      have HV14 := hide (HV14.out.keep hb8)
      have HV15 := hide (HV15.out.keep hb8)
      have HO0 := hide (HO0.out.keep (w' := w8) (fun b _ h => hb8.block b (by omega)))
      have HO1 := hide (HO1.out.keep (w' := w8) (fun b _ h => hb8.block b (by omega)))
      have HB8 := step HB6 hb8
      have HX0 := hide (HX0.out.keep (w' := w8) (fun b _ h => hb8.block b (by omega)))
      clear a0 a1 a2 a3 a4 d0 d1 d2 d3 d4 RX hEqX HB66 hb8
      obtain ⟨d0, d1, d2, d3, d4⟩ := HV14.out
      have hMx := markTable t 1 _ _ _ _ w8 HX0.out (by omega) HSM.out (by omega)
      have hkp : ¬ ((endT t 1 : Nat) : Int) < 0 := by omega
      generalize endT t 1 = kx at hMx hkp
      go_wp2_with fail
      refine hMx.mono ?_
      rintro e w9 ⟨rfl, _, hw9⟩
      have h89 := hw9.size
      have HV5 := hide (HV5.out.within hw9 (.inl (by omega)))
      have HV12 := hide (HV12.out.within hw9 (.inl (by omega)))
      have HV14 := hide (HV14.out.within hw9 (.inr (Nat.le_refl _)))
      have HV15 := hide (HV15.out.within hw9 (.inr (by omega)))
      have HO0 := hide (HO0.out.keep (w' := w9) (fun b _ h => hw9.block b (by omega) (.inl (by omega))))
      have HO1 := hide (HO1.out.keep (w' := w9) (fun b h1 h => hw9.block b (by omega) (.inr (by omega))))
      have HB9 := below_within HB8 hw9 (by omega)
      clear d0 d1 d2 d3 d4 hMx hw9
      obtain ⟨b0, b1, b2, b3, b4⟩ := HV12.out
      obtain ⟨d0, d1, d2, d3, d4⟩ := HV15.out
      have R1 := HO1.out.rd HG1.out hGs
      have R0 := HO0.out.rd HG1.out hGs
      have hEq := eqTable G.1 Ac1 Ar1 Ac0 Ar0 cc1 cr1 cc0 cr0 w9 R1.1 R1.2 R0.1 R0.2
      clear R1 R0
      go_wp2_with fail
      refine hEq.mono ?_
      rintro e w10 ⟨rfl, hb10⟩
      have h910 := hb10.size
      have HV5 := hide (HV5.out.keep hb10)
      have HV12 := hide (HV12.out.keep hb10)
      have HV14 := hide (HV14.out.keep hb10)
      have HV15 := hide (HV15.out.keep hb10)
      have HO0 := hide (HO0.out.keep (w' := w10) (fun b _ h => hb10.block b (by omega)))
      have HO1 := hide (HO1.out.keep (w' := w10) (fun b _ h => hb10.block b (by omega)))
      have HB10 := step HB9 hb10
      clear b0 b1 b2 b3 b4 d0 d1 d2 d3 d4 hEq hb10
      obtain ⟨d0, d1, d2, d3, d4⟩ := HV15.out
      have hMg := markTable G.1 1 _ _ _ _ w10 HO1.out (by omega) HG2.out (by omega)
      generalize hkg : endT G.1 1 = kg at hMg
      have HKG := hide hkg
      clear hkg
      go_wp2_with fail
      refine hMg.mono ?_
      rintro e w11 ⟨rfl, hog, hw11⟩
      have h1011 := hw11.size
      have HV5 := hide (HV5.out.within hw11 (.inl (by omega)))
      have HV12 := hide (HV12.out.within hw11 (.inl (by omega)))
      have HV15 := hide (HV15.out.within hw11 (.inr (Nat.le_refl _)))
      have HO0 := hide (HO0.out.keep (w' := w11) (fun b _ h => hw11.block b (by omega) (.inl (by omega))))
      have HO1 := hide hog
      have HB11 := below_within HB10 hw11 (by omega)
      clear d0 d1 d2 d3 d4 hMg hw11 hog
      obtain ⟨d0, d1, d2, d3, d4⟩ := HV15.out
      have hml : (markT G.1 1).rows.length ≤ 1048576 := by show (markR _ _).length ≤ _; rw [markR_length]; exact hGs
      have RM := HO1.out.rd (markR_sized _ _) hml
      have hHd := fun (W : World) (h : Below w11.heap.size w11 W) => heldTable G.1 1 Ac1 Ar1 cc1 cr1 W (RM.1.below h) (RM.2.below h) HG2.out (by omega)
      rw [HKG.out] at hHd
      have hkq : ¬ ((kg : Nat) : Int) < 0 := by omega
      clear RM hml
      have HHD := hide hHd
      clear hHd
      go_wp2_with fail
      refine (HHD.out _ (brefl _)).mono ?_
      rintro e w12 ⟨rfl, hb12⟩
      have h1112 := hb12.size
      have HV5 := hide (HV5.out.keep hb12)
      have HV12 := hide (HV12.out.keep hb12)
      have HV15 := hide (HV15.out.keep hb12)
      have HO0 := hide (HO0.out.keep (w' := w12) (fun b _ h => Below.block hb12 b (by omega)))
      have HO1 := hide (HO1.out.keep (w' := w12) (fun b _ h => Below.block hb12 b (by omega)))
      have HB12 := step HB11 hb12
      have HBM := hide (step (brefl w11) hb12)
      clear d0 d1 d2 d3 d4 hb12
      obtain ⟨a0, a1, a2, a3, a4⟩ := HV5.out
      go_wp2_with fail
      refine (hT _ HB12).mono ?_
      rintro e w13 ⟨gc3, gr3, rfl, hcols, hrows, hb13⟩
      have h1213 := hb13.size
      have HV5 := hide (HV5.out.keep hb13)
      have HV12 := hide (HV12.out.keep hb13)
      have HV15 := hide (HV15.out.keep hb13)
      have HO0 := hide (HO0.out.keep (w' := w13) (fun b _ h => Below.block hb13 b (by omega)))
      have HO1 := hide (HO1.out.keep (w' := w13) (fun b _ h => Below.block hb13 b (by omega)))
      have HB13 := step HB12 hb13
      have HBM := hide (step HBM.out hb13)
      have hIm := impl_EdtRow t (some ⟨gc3, 0, none⟩) t.cols.length (some ⟨gr3, 0, none⟩) t.rows.length at' w13 (hw.below HB13) (own_rd_cols hcols) (own_rd_rows hrows HP2.out) (Lies.of hcols) (rdO_of_rows hrows HSM.out.2.2 HSM.out.2.1)
      rw [HGG.out] at hIm
      clear a0 a1 a2 a3 a4 hcols hrows hb13
      go_wp2_with fail
      refine hIm.mono ?_
      rintro e w14 ⟨vc2, vr2, rfl, hown2, hb14⟩
      obtain ⟨Ac2, cc2, hv1⟩ := hown2.1.form
      obtain ⟨Ar2, cr2, hv2⟩ : ∃ A c, vr2 = .slice A G.1.rows.length c := by obtain ⟨_, vs, hra⟩ := hown2; exact hra.len
      subst hv1
      subst hv2
      have h1314 := hb14.size
      have HV5 := hide (HV5.out.keep hb14)
      have HV12 := hide (HV12.out.keep hb14)
      have HV15 := hide (HV15.out.keep hb14)
      have HO0 := hide (HO0.out.keep (w' := w14) (fun b _ h => Below.block hb14 b (by omega)))
      have HO1 := hide (HO1.out.keep (w' := w14) (fun b _ h => Below.block hb14 b (by omega)))
      have HB14 := step HB13 hb14
      have HBM := hide (step HBM.out hb14)
      have HO2 := hide hown2
      clear hIm hown2 hb14
      obtain ⟨b0, b1, b2, b3, b4⟩ := HV12.out
      have hq4 : w3.heap.size < w14.heap.size := by omega
      go_wp2_with fail
      have B1415 := balloc (brefl w14) (.cells #[.slice Ac2 G.1.cols.length cc2, .int .i64 G.1.head, .int .i64 G.1.foot, .slice Ar2 G.1.rows.length cr2, .int .i64 G.1.gap] 33)
      have R2 := (HO2.out.keep (fun b _ h => B1415.block b h)).rd HG1.out hGs
      have R0 := (HO0.out.keep (fun b _ h => B1415.block b (by omega))).rd HG1.out hGs
      have hEq := eqTable G.1 Ac2 Ar2 Ac0 Ar0 cc2 cr2 cc0 cr0 _ R2.1 R2.2 R0.1 R0.2
      clear R2 R0
      refine hEq.mono ?_
      rintro e w15 ⟨rfl, hb15⟩
      have HB15 := step (balloc HB14 _) hb15
      have HBM := hide (step (balloc HBM.out (.cells #[.slice Ac2 G.1.cols.length cc2, .int .i64 G.1.head, .int .i64 G.1.foot, .slice Ar2 G.1.rows.length cr2, .int .i64 G.1.gap] 33)) hb15)
      have HV15 := hide ((HV15.out.keep B1415).keep hb15)
      clear b0 b1 b2 b3 b4 hEq hb15 B1415
      obtain ⟨d0, d1, d2, d3, d4⟩ := HV15.out
      go_wp2_with fail
      refine (HHD.out _ HBM.out).mono ?_
      rintro e w16 ⟨rfl, hb16⟩
      have HB16 := hide (step HB15 hb16)
      clear d0 d1 d2 d3 d4 hb16 HB15 HBM
      go_wp2_with fail
      go_ret
      exact ⟨rfl, HB16.out⟩
end Go.Proofs.YtfcogogpioeggaaDoor
