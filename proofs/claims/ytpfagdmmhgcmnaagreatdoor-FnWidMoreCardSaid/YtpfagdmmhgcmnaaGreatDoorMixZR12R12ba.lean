import Derived.Test.YtpfagdmmhgcmnaaGreatDoorMixZR12R12az
import Derived.Deep.CutRange
import Derived.Test.YtpfagdmmhgcmnaaGreatDoorMixZR12R12ax
import Derived.Test.YtpfagdmmhgcmnaaGreatDoorMixZR12R12ak
import Derived.Test.YtpfagdmmhgcmnaaGreatDoorMixZR12R12ah
import Derived.OpenShut
import Derived.ChangeSlices
set_option linter.unusedVariables false
set_option linter.unusedSimpArgs false
namespace Go.Proofs.YtpfagdmmhgcmnaaGreatDoor
open Go.RowKit
/- The draws of the laws over bytes: a table and a width. -/
theorem grow_more {w W W' : World} {R B : Nat} (h1 : w.grownBy W (some R)) (h2 : W.grownBy W' (some B)) (hB : w.heap.size ≤ B) : w.grownBy W' (some R) :=
  ⟨h2.os.trans h1.os, h2.tape.trans h1.tape, h2.output.trans h1.output, Nat.le_trans h1.size h2.size, fun k hk hne => (h2.block k (Nat.lt_of_lt_of_le hk h1.size) (fun e => by injection e with e; omega)).trans (h1.block k hk hne)⟩
/-- Five stores into a table's block. -/
theorem box5 {W : World} {B : Nat} {a0 a1 a2 a3 a4 : Value} (h : BlockAt W B [a0, a1, a2, a3, a4]) (v0 v1 v2 v3 v4 : Value) :
    BlockAt (((((W.setCell ⟨B, 0, none⟩ v0).setCell ⟨B, 1, none⟩ v1).setCell ⟨B, 2, none⟩ v2).setCell ⟨B, 3, none⟩ v3).setCell ⟨B, 4, none⟩ v4) B [v0, v1, v2, v3, v4] ∧ W.grownBy (((((W.setCell ⟨B, 0, none⟩ v0).setCell ⟨B, 1, none⟩ v1).setCell ⟨B, 2, none⟩ v2).setCell ⟨B, 3, none⟩ v3).setCell ⟨B, 4, none⟩ v4) (some B) := by
  have h0 := h.set (k := 0) (by simp) v0
  have h1 := h0.set (k := 1) (by simp) v1
  have h2 := h1.set (k := 2) (by simp) v2
  have h3 := h2.set (k := 3) (by simp) v3
  have h4 := h3.set (k := 4) (by simp) v4
  exact ⟨by simpa using h4, grow_trans (grow_trans (grow_trans (grow_trans (grow_set _ rfl _) (grow_set _ rfl _)) (grow_set _ rfl _)) (grow_set _ rfl _)) (grow_set _ rfl _)⟩
theorem laid_end {w W : World} {R b0 : Nat} {u : Tbl} {vc vr : Value} {k : Int} (hb : anyBd u) (hk : -1 ≤ k ∧ k ≤ 301) (hR : RdrOk W R 2203) (hg : w.grownBy W (some R)) (ho : OwnT W b0 vc vr u) (hb0 : b0 = w.heap.size + 1) (hRl : R < w.heap.size) (v0 v1 v2 v3 v4 : Value) :
    LaidPost R 3000 w (.returned (.tuple #[.agg #[vc, .int .i64 u.head, .int .i64 u.foot, vr, .int .i64 u.gap], .int .i64 k])) (((((W.setCell ⟨w.heap.size, 0, none⟩ v0).setCell ⟨w.heap.size, 1, none⟩ v1).setCell ⟨w.heap.size, 2, none⟩ v2).setCell ⟨w.heap.size, 3, none⟩ v3).setCell ⟨w.heap.size, 4, none⟩ v4) := by
  have g5 : W.grownBy (((((W.setCell ⟨w.heap.size, 0, none⟩ v0).setCell ⟨w.heap.size, 1, none⟩ v1).setCell ⟨w.heap.size, 2, none⟩ v2).setCell ⟨w.heap.size, 3, none⟩ v3).setCell ⟨w.heap.size, 4, none⟩ v4) (some w.heap.size) :=
    grow_trans (grow_trans (grow_trans (grow_trans (grow_set _ rfl _) (grow_set _ rfl _)) (grow_set _ rfl _)) (grow_set _ rfl _)) (grow_set _ rfl _)
  have hlt : w.heap.size < b0 := by omega
  exact laid_post hb hk (hR.grow g5 (fun g e => by injection e with e; omega)) (by decide) (grow_more hg g5 (Nat.le_refl _))
    (OwnT.base (OwnT.setA (OwnT.setA (OwnT.setA (OwnT.setA (OwnT.setA ho hlt _) hlt _) hlt _) hlt _) hlt _) (by omega))
set_option maxRecDepth 100000 in
set_option maxHeartbeats 8000000 in
theorem rdLaid (R : Nat) (w : World) (h : RdrOk w R 0) : Calls Tryz.prog 94 #[.pointer (some ⟨R, 0, none⟩)] w (LaidPost R 3000 w) := by
  have hRl := h.lt
  have HR := hide h
  clear h
  go_enter Tryz.func94, Tryz.ntmps94
  go_wp2_with fail
  have e1 := balloc (brefl w) (.cells #[.slice none 0 0, .int .i64 0, .int .i64 0, .slice none 0 0, .int .i64 0] 26)
  refine (rdAnyTable R 0 24 _ (HR.out.below e1) (by decide) (by decide) (by decide)).mono ?_
  rintro e W2 ⟨t, vc, vr, rfl, htb, hR2, hg2, hO2⟩
  obtain ⟨⟨Ac, kc, rfl⟩, Ar, kr, rfl⟩ := hO2.form
  have hs2 : w.heap.size < W2.heap.size := by have := hg2.size; simp at this; omega
  have HT := hide htb
  have HZ2 := hide ((BlockAt.new w zeros5 26).keep (grow_blk hg2 (by omega) (by simp)))
  have HG2 := hide (grow_trans (grow_below (r := some R) e1) hg2)
  obtain ⟨V, hV⟩ : ∃ V, V = W2.alloc (.cells #[.slice Ac t.cols.length kc, .int .i64 t.head, .int .i64 t.foot, .slice Ar t.rows.length kr, .int .i64 t.gap] 26) := ⟨_, rfl⟩
  have eV : Below W2.heap.size W2 V := by rw [hV]; exact balloc (brefl _) _
  have hKB : BlockAt V W2.heap.size [.slice Ac t.cols.length kc, .int .i64 t.head, .int .i64 t.foot, .slice Ar t.rows.length kr, .int .i64 t.gap] := by rw [hV]; exact BlockAt.new W2 _ _
  have hTY : Typed V W2.heap.size 26 := by rw [hV]; exact Typed.new _ _ _
  have hzV : V.heap.size = W2.heap.size + 1 := by rw [hV]; simp
  have HRV := hide (hR2.below eV)
  have HOV := hide (hO2.below eV)
  have HZV := hide (HZ2.out.keep (eV.block w.heap.size hs2))
  have HGV := hide (grow_trans HG2.out (grow_below eV))
  have HKB := hide hKB
  have HTY := hide hTY
  have HV := hide hV
  clear e1 htb hR2 hg2 hO2 hV eV hKB hTY HZ2
  go_wp2_with fail
  rw [← HV.out]
  refine (pick R _ 8 _ HRV.out (by decide) (by decide)).mono ?_
  rintro e W3 ⟨q, rfl, _, _, hR3, hg3⟩
  have hs3 : V.heap.size ≤ W3.heap.size := hg3.size
  have HR3 := hide hR3
  have HO3 := hide (HOV.out.grow (by simp; omega) hg3)
  have HZ3 := hide (HZV.out.keep (grow_blk hg3 (by omega) (by omega)))
  have HK3 := hide (HKB.out.keep (grow_blk hg3 (by omega) (by omega)))
  have HY3 := hide (HTY.out.keep (grow_blk hg3 (by omega) (by omega)))
  have HG3 := hide (grow_trans HGV.out hg3)
  have hRV : R < (w.alloc (.cells #[.slice none 0 0, .int .i64 0, .int .i64 0, .slice none 0 0, .int .i64 0] 26)).heap.size := by simp; omega
  have hbV : (w.alloc (.cells #[.slice none 0 0, .int .i64 0, .int .i64 0, .slice none 0 0, .int .i64 0] 26)).heap.size ≤ W3.heap.size := by simp; omega
  obtain ⟨b0, hb0⟩ : ∃ b0, b0 = (w.alloc (.cells #[.slice none 0 0, .int .i64 0, .int .i64 0, .slice none 0 0, .int .i64 0] 26)).heap.size := ⟨_, rfl⟩
  rw [← hb0] at hRV hbV
  have hb1 : b0 = w.heap.size + 1 := by rw [hb0]; simp
  have HO3' : Hid (OwnT W3 b0 (.slice Ac t.cols.length kc) (.slice Ar t.rows.length kr) t) := by rw [hb0]; exact HO3.out
  clear hR3 hg3 HOV HZV HKB HTY HGV HRV HO3 hb0
  go_upto_if 9 with fail
  go_cut [] from 9 to 12 (fun wx => ∃ (u : Tbl) (Ux : Option Addr) (kx : Nat), Aside (BlockAt wx W2.heap.size [.slice Ux u.cols.length kx, .int .i64 u.head, .int .i64 u.foot, .slice Ar u.rows.length kr, .int .i64 u.gap]) ∧ Aside (OwnT wx b0 (.slice Ux u.cols.length kx) (.slice Ar u.rows.length kr) u) ∧ Aside (anyBd u) ∧ Aside (RdrOk wx R 2200) ∧ Aside (w.grownBy wx (some R)) ∧ Aside (BlockAt wx w.heap.size zeros5) ∧ W2.heap.size < wx.heap.size)
  case first =>
    by_cases z : q = 0
    · subst z
      have c0 := HK3.out.1 0 _ rfl
      have c1 := HK3.out.1 1 _ rfl
      have c2 := HK3.out.1 2 _ rfl
      have c3 := HK3.out.1 3 _ rfl
      have c4 := HK3.out.1 4 _ rfl
      go_wp2_with fail
      refine (rdAllFixed R _ b0 t Ac kc Ar kr W3 HR3.out (by decide) hbV hRV HO3'.out (any_sized HT.out)).mono ?_
      rintro e W4 ⟨xs, vc, rfl, hx, hR4, hg4, hO4⟩
      obtain ⟨⟨Ax, kx, rfl⟩, _⟩ : (∃ A c, vc = .slice A xs.length c) ∧ _ := hO4.form
      have hs4 : W3.heap.size ≤ W4.heap.size := hg4.size
      have hK4 := HK3.out.keep (grow_blk hg4 (by omega) (by omega))
      have hY4 := HY3.out.keep (grow_blk hg4 (by omega) (by omega))
      have HZ4 := hide (HZ3.out.keep (grow_blk hg4 (by omega) (by omega)))
      have HG4 := hide (grow_trans HG3.out hg4)
      have h0 := hK4.1 0 _ rfl
      have h1 := hK4.1 1 _ rfl
      have h2 := hK4.1 2 _ rfl
      have h3 := hK4.1 3 _ rfl
      have h4 := hK4.1 4 _ rfl
      have hf := hK4.2
      obtain ⟨k5, g5⟩ := box5 hK4 (.slice Ax xs.length kx) (.int .i64 t.head) (.int .i64 t.foot) (.slice Ar t.rows.length kr) (.int .i64 t.gap)
      have HK5 := hide k5
      have HG5 := hide (grow_more HG4.out g5 (by omega))
      have HO5 := hide (OwnT.past hO4 g5 hY4 (by decide) (by decide) (by decide))
      have HR5 := hide (hR4.grow g5 (fun g e => by injection e with e; omega))
      have HZ5 := hide (HZ4.out.keep (g5.block w.heap.size (by omega) (fun e => by injection e with e; omega)))
      have hs5 := g5.size
      have HX := hide (any_cols HT.out hx)
      clear c0 c1 c2 c3 c4 hx hR4 hg4 hO4 hK4 hY4 k5 g5
      go_wp2_with fail
      go_meet
      case rel => exact ⟨{ t with cols := xs }, Ax, kx, HK5.out, HO5.out, HX.out, HR5.out.mono (by decide), HG5.out, HZ5.out, by simp at hs5; first | omega | (simp; omega)⟩
    · have e0 : ((q : Int) == 0) = false := by simpa using z
      go_wp2_with fail
      go_meet
      case rel => exact ⟨t, Ac, kc, HK3.out, HO3'.out, HT.out, HR3.out.mono (by decide), HG3.out, HZ3.out, by omega⟩
  case rest =>
  obtain ⟨u, Ux, kx, HKU, HOU, HTU, HRU, HGU, HZU, hsu⟩ := hcut
  have c0 := HKU.out.1 0 _ rfl
  have c1 := HKU.out.1 1 _ rfl
  have c2 := HKU.out.1 2 _ rfl
  have c3 := HKU.out.1 3 _ rfl
  have c4 := HKU.out.1 4 _ rfl
  have hWI := fun (W : World) (h : RdrOk W R 2200) => rdWidth R 2200 W h (by decide)
  go_upto_region 4 with fail
  go_region_with (go_at_call 131; refine (hWI _ ?_).mono ?_; (first | exact HRU.out | exact HRU.out.below (bdrew (brefl _))); rintro e W6 ⟨k, rfl, hk, hR6, hg6⟩; have hg7 := (show wc.grownBy W6 (some R) from (by first | exact hg6 | exact grow_trans (grow_below (bdrew (brefl _))) hg6)); have b0' := (HZU.out.keep (grow_blk hg7 (by omega) (by omega))); have r0 := b0'.1 0 _ rfl; have r1 := b0'.1 1 _ rfl; have r2 := b0'.1 2 _ rfl; have r3 := b0'.1 3 _ rfl; have r4 := b0'.1 4 _ rfl; have rf := b0'.2; have bk := (HKU.out.keep (grow_blk hg7 (by omega) (by omega))); have m0 := bk.1 0 _ rfl; have m1 := bk.1 1 _ rfl; have m2 := bk.1 2 _ rfl; have m3 := bk.1 3 _ rfl; have m4 := bk.1 4 _ rfl; clear b0' bk)
  all_goals
    have HO6 := hide (HOU.out.grow hRV hg7)
    have HG6 := hide (grow_trans HGU.out hg7)
    have HR6 := hide hR6
    clear hR6 hg6 hg7
    go_wp2_with fail
    exact bodyPost_ret (v := .tuple #[.agg #[.slice Ux u.cols.length kx, .int .i64 u.head, .int .i64 u.foot, .slice Ar u.rows.length kr, .int .i64 u.gap], .int .i64 k]) (by simp [results, Tryz.results94, go_sem, *]) rfl (laid_end HTU.out hk HR6.out HG6.out HO6.out hb1 hRl _ _ _ _ _)
set_option maxRecDepth 100000 in
set_option maxHeartbeats 4000000 in
theorem spec_DrawWidTable (A : Option Addr) (n c : Nat) (w : World) (h : BytesAt w A n c) : Calls Tryz.prog 44 #[.slice A n c] w (DrawTI (-1) 301 w) := by
  have HA := hide h
  clear h
  go_enter Tryz.func44, Tryz.ntmps44
  go_wp2_with fail
  refine (rdOpen A n c _ (HA.out.below (balloc (brefl w) _))).mono ?_
  rintro e W1 ⟨R, rfl, hR0, hR1, hb1⟩
  have hR0' : w.heap.size < R := by simp at hR0; omega
  have HB1 := hide (step (balloc (brefl w) (.cells #[.slice none 0 0, .int .i64 0, .int .i64 0, .slice none 0 0, .int .i64 0] 26)) hb1)
  have HZ1 := hide ((BlockAt.new w zeros5 26).keep (hb1.block w.heap.size (by simp)))
  have hRl := hR1.lt
  have HR1 := hide hR1
  clear hR0 hR1 hb1
  go_wp2_with fail
  refine (rdLaid R _ HR1.out).mono ?_
  rintro e W2 ⟨t, vc, vr, k, rfl, htb, hk, hR2, hg2, hO2⟩
  obtain ⟨⟨Ac, kc, rfl⟩, Ar, kr, rfl⟩ := hO2.form
  have HT := hide htb
  have HB2 := hide (below_row HB1.out hg2 (by omega))
  have HZ2 := hide (HZ1.out.keep (grow_blk hg2 (by omega) (by omega)))
  have HO2 := hide hO2
  clear htb hR2 hg2 hO2
  have h0 : W2.cell? ⟨w.heap.size, 0, none⟩ = some (.slice none 0 0) := HZ2.out.1 0 _ rfl
  have h1 : W2.cell? ⟨w.heap.size, 1, none⟩ = some (.int .i64 0) := HZ2.out.1 1 _ rfl
  have h2 : W2.cell? ⟨w.heap.size, 2, none⟩ = some (.int .i64 0) := HZ2.out.1 2 _ rfl
  have h3 : W2.cell? ⟨w.heap.size, 3, none⟩ = some (.slice none 0 0) := HZ2.out.1 3 _ rfl
  have h4 : W2.cell? ⟨w.heap.size, 4, none⟩ = some (.int .i64 0) := HZ2.out.1 4 _ rfl
  have hf := HZ2.out.2
  go_wp2_with fail
  exact bodyPost_ret (v := .tuple #[.agg #[.slice Ac t.cols.length kc, .int .i64 t.head, .int .i64 t.foot, .slice Ar t.rows.length kr, .int .i64 t.gap], .int .i64 k]) (by simp [results, Tryz.results44, go_sem, *]) rfl (drawTI (out5 HB2.out HO2.out (by omega) _ _ _ _ _) HT.out hk)
end Go.Proofs.YtpfagdmmhgcmnaaGreatDoor

namespace Go.Proofs.YtpfagdmmhgcmnaaGreatDoor
open Go.RowKit
/- All of the width is used, and no more: the statement's own walk. -/
theorem allFixed_kind {t : Tbl} (h : tblOk t = true) {n : Nat} (hn : (gridL 400 t).2 = n) : allFixed 400 t = true ↔ ∀ j, j < n → kindT t j = 1 := by
  unfold allFixed
  rw [h, hn]
  simp only [Bool.true_and]
  unfold fixedTo kindT
  simp [List.all_eq_true]
/-- How wide a table is. -/
theorem widSum {t : Tbl} (h : tblOk t = true) {k : Nat} (hy : GoodRows t k) {width : Int} (hw : 0 ≤ width ∧ width ≤ 300) :
    wideG t.gap (widColsL 400 t width) = if width < wideG t.gap (colLeastL 400 t) ∨ allFixed 400 t = true then wideG t.gap (colLeastL 400 t) else width := by
  obtain ⟨n, hn, hn1, hl, _, he, hlw, _, _⟩ := widCols_ok h hy hw
  have hA := allFixed_kind h hn
  obtain ⟨w1, _, _, w4, w5⟩ := widths_spec (kind := kindT t) (nn := numT t) (width := width) (gap := t.gap) (least := colLeastL 400 t) (wish := colWishL 400 t) (said_kind h)
  rw [← he] at w1 w4 w5
  have e1 : wideL (colLeastL 400 t) t.gap = wideG t.gap (colLeastL 400 t) := rfl
  rw [e1] at w4 w5
  by_cases hle : width - wideG t.gap (colLeastL 400 t) ≤ 0
  · rw [w4 hle]
    split
    · rfl
    · rename_i hno
      have : ¬ width < wideG t.gap (colLeastL 400 t) := fun h9 => hno (.inl h9)
      omega
  · obtain ⟨b1, b2⟩ := w5 (by omega)
    by_cases ha : ∀ j, j < n → kindT t j = 1
    · rw [b1 (fun j hj => ha j (by omega)), if_pos (.inr (hA.2 ha))]
    · have hno : ¬ (width < wideG t.gap (colLeastL 400 t) ∨ allFixed 400 t = true) := by
        rintro (h9 | h9)
        · omega
        · exact ha (hA.1 h9)
      rw [if_neg hno]
      have : ∃ j, j < (colLeastL 400 t).length ∧ kindT t j ≠ 1 := Classical.byContradiction fun hx => ha fun j hj => Classical.byContradiction fun hq => hx ⟨j, by omega, hq⟩
      have hs := b2 this
      unfold wideG
      rw [hs, hlw, hl]
      omega
end Go.Proofs.YtpfagdmmhgcmnaaGreatDoor

namespace Go.Proofs.YtpfagdmmhgcmnaaGreatDoor
open Go.RowKit
/- One more is one more: the statement's own walk. -/
set_option linter.unusedSimpArgs false in
set_option maxRecDepth 100000 in
set_option maxHeartbeats 40000000 in
theorem law_FnWidMore (A : Option Addr) (n c : Nat) (w : World) (hw : Base w) (h : BytesAt w A n c) :
    Calls Tryz.prog 8 #[.slice A n c] w fun e w' => e = .returned (.bool true) ∧ Below w.heap.size w w' := by
  have hD := spec_DrawWidTable A n c w h
  have HW := hide hw
  have hn1 := h.1
  clear h hw
  by_cases hb1 : (1048576 : Int) < n
  · clear hD
    go_enter Tryz.func8, Tryz.ntmps8
    go_wp2_with fail
    go_ret
    exact ⟨rfl, brefl w⟩
  go_enter Tryz.func8, Tryz.ntmps8
  go_wp2_with fail
  refine hD.mono ?_
  rintro e W1 ⟨t, vc, vr, wd, rfl, htb, hwd, hO1, hB1⟩
  obtain ⟨⟨Ac, kc, rfl⟩, Ar, kr, rfl⟩ := hO1.form
  obtain ⟨k, hy⟩ := htb.good
  have hs1 : w.heap.size ≤ W1.heap.size := hB1.size
  have HY := hide hy
  obtain ⟨V1, hV1⟩ : ∃ V, V = W1.alloc (.cells #[.slice Ac t.cols.length kc, .int .i64 t.head, .int .i64 t.foot, .slice Ar t.rows.length kr, .int .i64 t.gap] 26) := ⟨_, rfl⟩
  have hK1 : BlockAt V1 W1.heap.size [.slice Ac t.cols.length kc, .int .i64 t.head, .int .i64 t.foot, .slice Ar t.rows.length kr, .int .i64 t.gap] := by rw [hV1]; exact BlockAt.new W1 _ _
  have hz1 : V1.heap.size = W1.heap.size + 1 := by rw [hV1]; simp
  have HB1 : Hid (Below w.heap.size w V1) := by rw [hV1]; exact balloc hB1 _
  have HC1 : Hid (Rd colR V1 Ac t.cols) := by rw [hV1]; exact hO1.rdc.below (balloc (brefl _) _)
  have HR1 : Hid (Rd rowR V1 Ar t.rows) := by rw [hV1]; exact (hO1.rdr (any_sized htb)).below (balloc (brefl _) _)
  have HCB : Hid (∀ W, Below V1.heap.size V1 W → Base W ∧ Rd colR W Ac t.cols ∧ Rd rowR W Ar t.rows ∧ BlockAt W W1.heap.size [.slice Ac t.cols.length kc, .int .i64 t.head, .int .i64 t.foot, .slice Ar t.rows.length kr, .int .i64 t.gap]) := fun W h => ⟨HW.out.below (step HB1.out h), HC1.out.below h, HR1.out.below h, hK1.keep (h.block _ (by omega))⟩
  have hE1 := impl_WidTable t Ac kc Ar kr wd V1 (HW.out.below HB1.out) HC1.out HR1.out hy
  have HT := hide htb
  have HV := hide hV1
  clear hD htb hO1 hB1 hy hV1 hK1
  obtain ⟨wz, hwz⟩ : ∃ wz, wideG t.gap (widColsL 400 t wd) = wz := ⟨_, rfl⟩
  rw [hwz] at hE1
  have HWZ := hide hwz
  obtain ⟨_, _, _, hK1⟩ := HCB.out V1 (brefl V1)
  have f0 := hK1.1 0 _ rfl
  have f1 := hK1.1 1 _ rfl
  have f2 := hK1.1 2 _ rfl
  have f3 := hK1.1 3 _ rfl
  have f4 := hK1.1 4 _ rfl
  clear hK1 hwz
  go_wp2_with fail
  rw [← HV.out]
  refine hE1.mono ?_
  rintro e W2 ⟨rfl, hb2⟩
  have HB2 := hide hb2
  obtain ⟨q1, q2, q3, hK2⟩ := HCB.out W2 hb2
  have hE2 := spec_WidTable t Ac kc Ar kr wd W2 q2 q3 HY.out
  rw [HWZ.out] at hE2
  have g0 := hK2.1 0 _ rfl
  have g1 := hK2.1 1 _ rfl
  have g2 := hK2.1 2 _ rfl
  have g3 := hK2.1 3 _ rfl
  have g4 := hK2.1 4 _ rfl
  clear f0 f1 f2 f3 f4 hb2 hE1 hK2 HV q1 q2 q3
  go_wp2_with fail
  refine hE2.mono ?_
  rintro e W6 ⟨rfl, hb6⟩
  have HB6 := hide (step HB2.out hb6)
  obtain ⟨q1, q2, q3, hK6⟩ := HCB.out W6 HB6.out
  have hO6 := spec_TblOk t Ac kc Ar kr W6 q2 q3
  have g0 := hK6.1 0 _ rfl
  have g1 := hK6.1 1 _ rfl
  have g2 := hK6.1 2 _ rfl
  have g3 := hK6.1 3 _ rfl
  have g4 := hK6.1 4 _ rfl
  clear hb6 hE2 hK6 q1 q2 q3
  by_cases hq : tblOk t = true ∧ 0 ≤ wd ∧ wd < 300
  · rw [hq.1] at hO6
    have i1 : ¬ wd < 0 := by omega
    have i2 : ¬ wd ≥ 300 := by omega
    have i3 : ¬ 300 ≤ wd := by omega
    have HQ := hide hq
    have HS := hide (And.intro i1 i2)
    have t1 : IntKind.i64.wrap (wd + 1) = wd + 1 := by rw [IntKind.wrap_i64]; omega
    clear hq
    go_wp2_with fail
    refine hO6.mono ?_
    rintro e W7 ⟨rfl, hb7⟩
    have HB7 := hide (step HB6.out hb7)
    obtain ⟨q1, q2, q3, hK7⟩ := HCB.out W7 HB7.out
    have hE7 := impl_WidTable t Ac kc Ar kr (wd + 1) W7 q1 q2 q3 HY.out
    have hws := widSum HQ.out.1 HY.out (width := wd) (by omega)
    have hws2 := widSum HQ.out.1 HY.out (width := wd + 1) (by omega)
    rw [HWZ.out] at hws
    obtain ⟨wm, hwm⟩ : ∃ wm, wideG t.gap (widColsL 400 t (wd + 1)) = wm := ⟨_, rfl⟩
    rw [hwm] at hE7 hws2
    obtain ⟨fl, hfl⟩ : ∃ fl, wideG t.gap (colLeastL 400 t) = fl := ⟨_, rfl⟩
    rw [hfl] at hws hws2
    have hfl1 : 0 ≤ fl ∧ fl ≤ 100000 := by
      obtain ⟨m, _, h2, h3, h4, _⟩ := colLeast_ok HQ.out.1 HY.out
      have hg := (tblOk_parts HQ.out.1).2.2.1
      obtain ⟨s1, s2⟩ := sum_le 60 _ h4
      have hm := Int.mul_nonneg hg.1 (show 0 ≤ max (((colLeastL 400 t).length : Int) - 1) 0 by omega)
      have hm2 : t.gap * max (((colLeastL 400 t).length : Int) - 1) 0 ≤ 3 * max (((colLeastL 400 t).length : Int) - 1) 0 := Int.mul_le_mul_of_nonneg_right hg.2 (by omega)
      have : fl = sumI (colLeastL 400 t) + t.gap * max (((colLeastL 400 t).length : Int) - 1) 0 := hfl.symm
      omega
    have HFL := hide hfl
    have hCF : Hid (∀ W, Below V1.heap.size V1 W → Calls Tryz.prog 37 #[.agg #[.slice Ac t.cols.length kc, .int .i64 t.head, .int .i64 t.foot, .slice Ar t.rows.length kr, .int .i64 t.gap]] W fun e w' => e = .returned (.int .i64 fl) ∧ Below W.heap.size W w') := fun W h => by
      obtain ⟨q1, q2, q3, _⟩ := HCB.out W h
      have h9 := impl_ColFloor2 t Ac kc Ar kr W q1 q2 q3 HY.out
      rw [hfl] at h9
      exact h9
    obtain ⟨af, haf⟩ : ∃ af, allFixed 400 t = af := ⟨_, rfl⟩
    rw [haf] at hws hws2
    have hAF : Hid (∀ W, Below V1.heap.size V1 W → Calls Tryz.prog 46 #[.agg #[.slice Ac t.cols.length kc, .int .i64 t.head, .int .i64 t.foot, .slice Ar t.rows.length kr, .int .i64 t.gap]] W fun e w' => e = .returned (.bool af) ∧ Below W.heap.size W w') := fun W h => by
      obtain ⟨q1, q2, q3, _⟩ := HCB.out W h
      have h9 := impl_ColAllFixed t Ac kc Ar kr W q1 q2 q3
      rw [haf] at h9
      exact h9
    have g0 := hK7.1 0 _ rfl
    have g1 := hK7.1 1 _ rfl
    have g2 := hK7.1 2 _ rfl
    have g3 := hK7.1 3 _ rfl
    have g4 := hK7.1 4 _ rfl
    have HWS := hide (And.intro hws hws2)
    clear hb7 hO6 hK7 q1 q2 q3 hfl hwm haf hws hws2
    go_wp2_with fail
    refine hE7.mono ?_
    rintro e W8 ⟨rfl, hb8⟩
    have HB8 := hide (step HB7.out hb8)
    obtain ⟨_, _, _, hK8⟩ := HCB.out W8 HB8.out
    have g0 := hK8.1 0 _ rfl
    have g1 := hK8.1 1 _ rfl
    have g2 := hK8.1 2 _ rfl
    have g3 := hK8.1 3 _ rfl
    have g4 := hK8.1 4 _ rfl
    have hC8 := hCF.out W8 HB8.out
    clear hb8 hE7 hK8
    by_cases h1 : wd < fl
    · have hz := (show wz = fl by rw [HWS.out.1, if_pos (.inl h1)]).symm
      have hz2 := (show wm = fl by
        rw [HWS.out.2]
        by_cases h2 : wd + 1 < fl ∨ af = true
        · rw [if_pos h2]
        · rw [if_neg h2]
          have : ¬ wd + 1 < fl := fun h9 => h2 (.inl h9)
          omega).symm
      subst hz
      subst hz2
      have h1z : fl ≥ fl := Int.le_refl _
      clear HWS
      go_wp2_with fail
      refine hC8.mono ?_
      rintro e W9 ⟨rfl, hb9⟩
      have HB9 := hide (step HB8.out hb9)
      obtain ⟨_, _, _, hK9⟩ := HCB.out W9 HB9.out
      have g0 := hK9.1 0 _ rfl
      have g1 := hK9.1 1 _ rfl
      have g2 := hK9.1 2 _ rfl
      have g3 := hK9.1 3 _ rfl
      have g4 := hK9.1 4 _ rfl
      have hC9 := hCF.out W9 HB9.out
      clear hb9 hC8 hK9
      go_wp2_with fail
      refine hC9.mono ?_
      rintro e W10 ⟨rfl, hb10⟩
      have HB10 := hide (step HB9.out hb10)
      clear hb10 hC9
      go_wp2_with fail
      go_ret
      exact ⟨rfl, step HB1.out HB10.out⟩
    · cases haf : af with
      | true =>
        have hz := (show wz = fl by rw [HWS.out.1, if_pos (.inr haf)]).symm
        have hz2 := (show wm = fl by rw [HWS.out.2, if_pos (.inr haf)]).symm
        subst hz
        subst hz2
        subst haf
        clear HWS
        go_wp2_with fail
        refine hC8.mono ?_
        rintro e W9 ⟨rfl, hb9⟩
        have HB9 := hide (step HB8.out hb9)
        obtain ⟨_, _, _, hK9⟩ := HCB.out W9 HB9.out
        have g0 := hK9.1 0 _ rfl
        have g1 := hK9.1 1 _ rfl
        have g2 := hK9.1 2 _ rfl
        have g3 := hK9.1 3 _ rfl
        have g4 := hK9.1 4 _ rfl
        have hC9 := hAF.out W9 HB9.out
        clear hb9 hC8 hK9
        go_wp2_with fail
        refine hC9.mono ?_
        rintro e W10 ⟨rfl, hb10⟩
        have HB10 := hide (step HB9.out hb10)
        obtain ⟨_, _, _, hK10⟩ := HCB.out W10 HB10.out
        have g0 := hK10.1 0 _ rfl
        have g1 := hK10.1 1 _ rfl
        have g2 := hK10.1 2 _ rfl
        have g3 := hK10.1 3 _ rfl
        have g4 := hK10.1 4 _ rfl
        have hC10 := hCF.out W10 HB10.out
        clear hb10 hC9 hK10
        go_wp2_with fail
        refine hC10.mono ?_
        rintro e W11 ⟨rfl, hb11⟩
        have HB11 := hide (step HB10.out hb11)
        clear hb11 hC10
        go_wp2_with fail
        go_ret
        exact ⟨by first | rfl | (simp [h1]; done) | (simp; omega), step HB1.out HB11.out⟩
      | false =>
        have hz := (show wz = wd by rw [HWS.out.1, if_neg (by rintro (h9 | h9); exact h1 h9; rw [haf] at h9; cases h9)]).symm
        have hz2 : wm = wd + 1 := by rw [HWS.out.2, if_neg (by rintro (h9 | h9); omega; rw [haf] at h9; cases h9)]
        subst hz
        subst hz2
        subst haf
        have h3 : ((wd + 1 : Int) == wd) = false := by simp; omega
        have h4 : fl ≤ wd := by omega
        clear HWS
        go_wp2_with fail
        refine hC8.mono ?_
        rintro e W9 ⟨rfl, hb9⟩
        have HB9 := hide (step HB8.out hb9)
        obtain ⟨_, _, _, hK9⟩ := HCB.out W9 HB9.out
        have g0 := hK9.1 0 _ rfl
        have g1 := hK9.1 1 _ rfl
        have g2 := hK9.1 2 _ rfl
        have g3 := hK9.1 3 _ rfl
        have g4 := hK9.1 4 _ rfl
        have hC9 := hAF.out W9 HB9.out
        clear hb9 hC8 hK9
        go_wp2_with fail
        refine hC9.mono ?_
        rintro e W10 ⟨rfl, hb10⟩
        have HB10 := hide (step HB9.out hb10)
        obtain ⟨_, _, _, hK10⟩ := HCB.out W10 HB10.out
        have g0 := hK10.1 0 _ rfl
        have g1 := hK10.1 1 _ rfl
        have g2 := hK10.1 2 _ rfl
        have g3 := hK10.1 3 _ rfl
        have g4 := hK10.1 4 _ rfl
        have hC10 := hCF.out W10 HB10.out
        clear hb10 hC9 hK10
        go_wp2_with fail
        refine hC10.mono ?_
        rintro e W11 ⟨rfl, hb11⟩
        have HB11 := hide (step HB10.out hb11)
        clear hb11 hC10
        go_wp2_with fail
        go_ret
        exact ⟨by first | rfl | (simp [h1]; done) | (simp; omega), step HB1.out HB11.out⟩
  · have hdef : tblOk t = false ∨ (tblOk t = true ∧ (wd < 0 ∨ (¬ wd < 0 ∧ wd ≥ 300))) := by
      cases hok : tblOk t with
      | false => exact .inl rfl
      | true =>
        refine .inr ⟨rfl, ?_⟩
        by_cases h1 : wd < 0
        · exact .inl h1
        · refine .inr ⟨h1, ?_⟩
          refine Classical.byContradiction fun h2 => hq ⟨hok, by omega, by omega⟩
    obtain ⟨b, hb0⟩ : ∃ b, tblOk t = b := ⟨_, rfl⟩
    rw [hb0] at hO6 hdef
    have hTI : Hid (∀ W, Below V1.heap.size V1 W → Calls Tryz.prog 31 #[.agg #[.slice Ac t.cols.length kc, .int .i64 t.head, .int .i64 t.foot, .slice Ar t.rows.length kr, .int .i64 t.gap]] W fun e w' => e = .returned (.bool b) ∧ Below W.heap.size W w') := fun W h => by
      obtain ⟨q1, q2, q3, _⟩ := HCB.out W h
      have h9 := impl_TblOk t Ac kc Ar kr W q1 q2 q3
      rw [hb0] at h9
      exact h9
    have hTS : Hid (∀ W, Below V1.heap.size V1 W → Calls Tryz.prog 19 #[.agg #[.slice Ac t.cols.length kc, .int .i64 t.head, .int .i64 t.foot, .slice Ar t.rows.length kr, .int .i64 t.gap]] W fun e w' => e = .returned (.bool b) ∧ Below W.heap.size W w') := fun W h => by
      obtain ⟨q1, q2, q3, _⟩ := HCB.out W h
      have h9 := spec_TblOk t Ac kc Ar kr W q2 q3
      rw [hb0] at h9
      exact h9
    clear hq hb0
    rcases hdef with rfl | ⟨rfl, h1 | ⟨h1, h2⟩⟩
    · go_wp2_with fail
      refine hO6.mono ?_
      rintro e W7 ⟨rfl, hb7⟩
      have HB7 := hide (step HB6.out hb7)
      obtain ⟨_, _, _, hK7⟩ := HCB.out W7 HB7.out
      have g0 := hK7.1 0 _ rfl
      have g1 := hK7.1 1 _ rfl
      have g2 := hK7.1 2 _ rfl
      have g3 := hK7.1 3 _ rfl
      have g4 := hK7.1 4 _ rfl
      have hPW := fun (W : World) (h : Below V1.heap.size V1 W) => laws_pwOk W (HCB.out W h).1
      have hz7 : W1.heap.size < W7.heap.size := by have := HB7.out.size; omega
      clear hb7 hO6 hK7
      go_upto_region 8 with fail
      go_region_with (first
        | (go_at_call 31; refine (hTI.out _ ?_).mono ?_; (first | exact HB7.out | exact bdrew HB7.out); rintro e W8 ⟨rfl, hb8⟩; obtain ⟨c2, f2, s2⟩ := seenBk W1.heap.size (by first | omega | (simp; omega)) hb8)
        | (go_at_call 19; refine (hTS.out _ ?_).mono ?_; (first | exact step HB7.out hb8 | exact step (bdrew HB7.out) hb8); rintro e W9 ⟨rfl, hb9⟩)
        | (go_at_call 20; refine (hPW _ ?_).mono ?_; (first | exact step (step HB7.out hb8) hb9 | exact step (step (bdrew HB7.out) hb8) hb9); rintro e W10 ⟨rfl, hb10⟩))
      all_goals
        go_wp2_with fail
        go_ret
        refine ⟨rfl, step HB1.out ?_⟩
        (repeat' (with_reducible first | exact HB7.out | refine bdrew ?_ | refine step ?_ (by with_reducible assumption)))
    · go_wp2_with fail
      refine hO6.mono ?_
      rintro e W7 ⟨rfl, hb7⟩
      have HB7 := hide (step HB6.out hb7)
      obtain ⟨_, _, _, hK7⟩ := HCB.out W7 HB7.out
      have g0 := hK7.1 0 _ rfl
      have g1 := hK7.1 1 _ rfl
      have g2 := hK7.1 2 _ rfl
      have g3 := hK7.1 3 _ rfl
      have g4 := hK7.1 4 _ rfl
      have hPW := fun (W : World) (h : Below V1.heap.size V1 W) => laws_pwOk W (HCB.out W h).1
      have hz7 : W1.heap.size < W7.heap.size := by have := HB7.out.size; omega
      clear hb7 hO6 hK7
      go_upto_region 8 with fail
      go_region_with (first
        | (go_at_call 31; refine (hTI.out _ ?_).mono ?_; (first | exact HB7.out | exact bdrew HB7.out); rintro e W8 ⟨rfl, hb8⟩; obtain ⟨c2, f2, s2⟩ := seenBk W1.heap.size (by first | omega | (simp; omega)) hb8)
        | (go_at_call 19; refine (hTS.out _ ?_).mono ?_; (first | exact step HB7.out hb8 | exact step (bdrew HB7.out) hb8); rintro e W9 ⟨rfl, hb9⟩)
        | (go_at_call 20; refine (hPW _ ?_).mono ?_; (first | exact step (step HB7.out hb8) hb9 | exact step (step (bdrew HB7.out) hb8) hb9); rintro e W10 ⟨rfl, hb10⟩))
      all_goals
        go_wp2_with fail
        go_ret
        refine ⟨rfl, step HB1.out ?_⟩
        (repeat' (with_reducible first | exact HB7.out | refine bdrew ?_ | refine step ?_ (by with_reducible assumption)))
    · have h3 : 300 ≤ wd := h2
      go_wp2_with fail
      refine hO6.mono ?_
      rintro e W7 ⟨rfl, hb7⟩
      have HB7 := hide (step HB6.out hb7)
      obtain ⟨_, _, _, hK7⟩ := HCB.out W7 HB7.out
      have g0 := hK7.1 0 _ rfl
      have g1 := hK7.1 1 _ rfl
      have g2 := hK7.1 2 _ rfl
      have g3 := hK7.1 3 _ rfl
      have g4 := hK7.1 4 _ rfl
      have hPW := fun (W : World) (h : Below V1.heap.size V1 W) => laws_pwOk W (HCB.out W h).1
      have hz7 : W1.heap.size < W7.heap.size := by have := HB7.out.size; omega
      clear hb7 hO6 hK7
      go_upto_region 8 with fail
      go_region_with (first
        | (go_at_call 31; refine (hTI.out _ ?_).mono ?_; (first | exact HB7.out | exact bdrew HB7.out); rintro e W8 ⟨rfl, hb8⟩; obtain ⟨c2, f2, s2⟩ := seenBk W1.heap.size (by first | omega | (simp; omega)) hb8)
        | (go_at_call 19; refine (hTS.out _ ?_).mono ?_; (first | exact step HB7.out hb8 | exact step (bdrew HB7.out) hb8); rintro e W9 ⟨rfl, hb9⟩)
        | (go_at_call 20; refine (hPW _ ?_).mono ?_; (first | exact step (step HB7.out hb8) hb9 | exact step (step (bdrew HB7.out) hb8) hb9); rintro e W10 ⟨rfl, hb10⟩))
      all_goals
        go_wp2_with fail
        go_ret
        refine ⟨rfl, step HB1.out ?_⟩
        (repeat' (with_reducible first | exact HB7.out | refine bdrew ?_ | refine step ?_ (by with_reducible assumption)))
end Go.Proofs.YtpfagdmmhgcmnaaGreatDoor

namespace Go.Proofs.YtpfagdmmhgcmnaaGreatDoor
open Go.RowKit Go.WideShapes Go.ChangeShapes
/- What a statement's reading of its bytes gives. -/
theorem uint8_cells : Tryz.prog.cellsOf 5 = 1 := by kernel_rfl
set_option maxRecDepth 100000 in
theorem open_code {H : Type} {enc : TypeId × Value → H} {W : World} {base : Nat} {v : Value} {d : DataW H} {p : List MemPlace} (hval : Value.okWide Tryz.prog W .any base 22 v) (h : DataW.Trod enc Tryz.prog W 0 (fun _ => true) true 22 v d p) :
    ∃ A n c, v = .slice A n c ∧ BytesAt W A n c := by
  obtain ⟨A, n, c, rfl⟩ := okWide_slice Tryz.underlying22 hval
  refine ⟨A, n, c, rfl, ?_⟩
  obtain ⟨fuel, hf⟩ := h
  rcases open_ints Tryz.underlying22 Tryz.underlying5 uint8_cells hf with ⟨hcs, _⟩ | ⟨a, len', cap', zs, hcs, _, hl, hm, hz, _, hcell, hwz⟩
  · simp [Value.cells] at hcs
    obtain ⟨rfl, rfl, rfl⟩ := hcs
    exact ⟨by decide, by decide, by decide, fun h => absurd h (by decide)⟩
  · simp [Value.cells] at hcs
    obtain ⟨rfl, rfl, rfl⟩ := hcs
    simp only [if_true] at hz
    have hmx : maxLen ≤ 9223372036854775807 := by decide
    refine ⟨by omega, hl, by omega, fun hn => ?_⟩
    have h0 := hcell 0 (by omega)
    obtain ⟨b, o, s⟩ := a
    have hs : s = none := by
      have h6 := at_plain h0
      simpa [Addr.add] using h6
    subst hs
    refine ⟨b, o, rfl, ?_, fun j hj => ?_⟩
    · have := World.block_lt_of_cell? W _ h0
      simpa [Addr.add] using this
    · have hj' := hcell j (by omega)
      rw [add_plain] at hj'
      have hb := range_u8 hwz j
      rw [List.getD_eq_getElem?_getD] at hj'
      obtain ⟨k, hk⟩ := Int.eq_ofNat_of_zero_le hb.1
      rw [hk] at hj' hb
      exact ⟨k, by omega, hj'⟩
end Go.Proofs.YtpfagdmmhgcmnaaGreatDoor
