import Derived.Test.YtpfagdmmhgcmnaaGreatDoorMixYR11az
import Derived.Deep.CutRange
set_option linter.unusedVariables false
set_option linter.unusedSimpArgs false
namespace Go.Proofs.YtpfagdmmhgcmnaaGreatDoor
open Go.RowKit
/- The draws of the laws over bytes: a table and a width. -/
theorem grow_more {w W W' : World} {R B : Nat} (h1 : w.grownBy W (some R)) (h2 : W.grownBy W' (some B)) (hB : w.heap.size ≤ B) : w.grownBy W' (some R) :=
  ⟨h2.os.trans h1.os, h2.tape.trans h1.tape, h2.output.trans h1.output, Nat.le_trans h1.size h2.size, fun k hk hne => (h2.block k (Nat.lt_of_lt_of_le hk h1.size) (fun e => by injection e with e; omega)).trans (h1.block k hk hne)⟩
/-- Five stores into a table's block. -/
theorem box5 {W : World} {B : Nat} {a0 a1 a2 a3 a4 : Value} (h : BlockAt W B [a0, a1, a2, a3, a4]) (v0 v1 v2 v3 v4 : Value) :
    BlockAt (((((W.setCell ⟨B, 0, none⟩ v0).setCell ⟨B, 1, none⟩ v1).setCell ⟨B, 2, none⟩ v2).setCell ⟨B, 3, none⟩ v3).setCell ⟨B, 4, none⟩ v4) B [v0, v1, v2, v3, v4] ∧ W.grownBy (((((W.setCell ⟨B, 0, none⟩ v0).setCell ⟨B, 1, none⟩ v1).setCell ⟨B, 2, none⟩ v2).setCell ⟨B, 3, none⟩ v3).setCell ⟨B, 4, none⟩ v4) (some B) := by
  have h0 := h.set (k := 0) (by simp) v0
  have h1 := h0.set (k := 1) (by simp) v1
  have h2 := h1.set (k := 2) (by simp) v2
  have h3 := h2.set (k := 3) (by simp) v3
  have h4 := h3.set (k := 4) (by simp) v4
  exact ⟨by simpa using h4, grow_trans (grow_trans (grow_trans (grow_trans (grow_set _ rfl _) (grow_set _ rfl _)) (grow_set _ rfl _)) (grow_set _ rfl _)) (grow_set _ rfl _)⟩
theorem laid_end {w W : World} {R b0 : Nat} {u : Tbl} {vc vr : Value} {k : Int} (hb : anyBd u) (hk : -1 ≤ k ∧ k ≤ 301) (hR : RdrOk W R 2203) (hg : w.grownBy W (some R)) (ho : OwnT W b0 vc vr u) (hb0 : b0 = w.heap.size + 1) (hRl : R < w.heap.size) (v0 v1 v2 v3 v4 : Value) :
    LaidPost R 3000 w (.returned (.tuple #[.agg #[vc, .int .i64 u.head, .int .i64 u.foot, vr, .int .i64 u.gap], .int .i64 k])) (((((W.setCell ⟨w.heap.size, 0, none⟩ v0).setCell ⟨w.heap.size, 1, none⟩ v1).setCell ⟨w.heap.size, 2, none⟩ v2).setCell ⟨w.heap.size, 3, none⟩ v3).setCell ⟨w.heap.size, 4, none⟩ v4) := by
  have g5 : W.grownBy (((((W.setCell ⟨w.heap.size, 0, none⟩ v0).setCell ⟨w.heap.size, 1, none⟩ v1).setCell ⟨w.heap.size, 2, none⟩ v2).setCell ⟨w.heap.size, 3, none⟩ v3).setCell ⟨w.heap.size, 4, none⟩ v4) (some w.heap.size) :=
    grow_trans (grow_trans (grow_trans (grow_trans (grow_set _ rfl _) (grow_set _ rfl _)) (grow_set _ rfl _)) (grow_set _ rfl _)) (grow_set _ rfl _)
  have hlt : w.heap.size < b0 := by omega
  exact laid_post hb hk (hR.grow g5 (fun g e => by injection e with e; omega)) (by decide) (grow_more hg g5 (Nat.le_refl _))
    (OwnT.base (OwnT.setA (OwnT.setA (OwnT.setA (OwnT.setA (OwnT.setA ho hlt _) hlt _) hlt _) hlt _) hlt _) (by omega))
set_option maxRecDepth 100000 in
set_option maxHeartbeats 8000000 in
theorem rdLaid (R : Nat) (w : World) (h : RdrOk w R 0) : Calls Tryz.prog 94 #[.pointer (some ⟨R, 0, none⟩)] w (LaidPost R 3000 w) := by
  have hRl := h.lt
  have HR := hide h
  clear h
  go_enter Tryz.func94, Tryz.ntmps94
  go_wp2_with fail
  have e1 := balloc (brefl w) (.cells #[.slice none 0 0, .int .i64 0, .int .i64 0, .slice none 0 0, .int .i64 0] 26)
  refine (rdAnyTable R 0 24 _ (HR.out.below e1) (by decide) (by decide) (by decide)).mono ?_
  rintro e W2 ⟨t, vc, vr, rfl, htb, hR2, hg2, hO2⟩
  obtain ⟨⟨Ac, kc, rfl⟩, Ar, kr, rfl⟩ := hO2.form
  have hs2 : w.heap.size < W2.heap.size := by have := hg2.size; simp at this; omega
  have HT := hide htb
  have HZ2 := hide ((BlockAt.new w zeros5 26).keep (grow_blk hg2 (by omega) (by simp)))
  have HG2 := hide (grow_trans (grow_below (r := some R) e1) hg2)
  obtain ⟨V, hV⟩ : ∃ V, V = W2.alloc (.cells #[.slice Ac t.cols.length kc, .int .i64 t.head, .int .i64 t.foot, .slice Ar t.rows.length kr, .int .i64 t.gap] 26) := ⟨_, rfl⟩
  have eV : Below W2.heap.size W2 V := by rw [hV]; exact balloc (brefl _) _
  have hKB : BlockAt V W2.heap.size [.slice Ac t.cols.length kc, .int .i64 t.head, .int .i64 t.foot, .slice Ar t.rows.length kr, .int .i64 t.gap] := by rw [hV]; exact BlockAt.new W2 _ _
  have hTY : Typed V W2.heap.size 26 := by rw [hV]; exact Typed.new _ _ _
  have hzV : V.heap.size = W2.heap.size + 1 := by rw [hV]; simp
  have HRV := hide (hR2.below eV)
  have HOV := hide (hO2.below eV)
  have HZV := hide (HZ2.out.keep (eV.block w.heap.size hs2))
  have HGV := hide (grow_trans HG2.out (grow_below eV))
  have HKB := hide hKB
  have HTY := hide hTY
  have HV := hide hV
  clear e1 htb hR2 hg2 hO2 hV eV hKB hTY HZ2
  go_wp2_with fail
  rw [← HV.out]
  refine (pick R _ 8 _ HRV.out (by decide) (by decide)).mono ?_
  rintro e W3 ⟨q, rfl, _, _, hR3, hg3⟩
  have hs3 : V.heap.size ≤ W3.heap.size := hg3.size
  have HR3 := hide hR3
  have HO3 := hide (HOV.out.grow (by simp; omega) hg3)
  have HZ3 := hide (HZV.out.keep (grow_blk hg3 (by omega) (by omega)))
  have HK3 := hide (HKB.out.keep (grow_blk hg3 (by omega) (by omega)))
  have HY3 := hide (HTY.out.keep (grow_blk hg3 (by omega) (by omega)))
  have HG3 := hide (grow_trans HGV.out hg3)
  have hRV : R < (w.alloc (.cells #[.slice none 0 0, .int .i64 0, .int .i64 0, .slice none 0 0, .int .i64 0] 26)).heap.size := by simp; omega
  have hbV : (w.alloc (.cells #[.slice none 0 0, .int .i64 0, .int .i64 0, .slice none 0 0, .int .i64 0] 26)).heap.size ≤ W3.heap.size := by simp; omega
  obtain ⟨b0, hb0⟩ : ∃ b0, b0 = (w.alloc (.cells #[.slice none 0 0, .int .i64 0, .int .i64 0, .slice none 0 0, .int .i64 0] 26)).heap.size := ⟨_, rfl⟩
  rw [← hb0] at hRV hbV
  have hb1 : b0 = w.heap.size + 1 := by rw [hb0]; simp
  have HO3' : Hid (OwnT W3 b0 (.slice Ac t.cols.length kc) (.slice Ar t.rows.length kr) t) := by rw [hb0]; exact HO3.out
  clear hR3 hg3 HOV HZV HKB HTY HGV HRV HO3 hb0
  go_upto_if 9 with fail
  go_cut [] from 9 to 12 (fun wx => ∃ (u : Tbl) (Ux : Option Addr) (kx : Nat), Aside (BlockAt wx W2.heap.size [.slice Ux u.cols.length kx, .int .i64 u.head, .int .i64 u.foot, .slice Ar u.rows.length kr, .int .i64 u.gap]) ∧ Aside (OwnT wx b0 (.slice Ux u.cols.length kx) (.slice Ar u.rows.length kr) u) ∧ Aside (anyBd u) ∧ Aside (RdrOk wx R 2200) ∧ Aside (w.grownBy wx (some R)) ∧ Aside (BlockAt wx w.heap.size zeros5) ∧ W2.heap.size < wx.heap.size)
  case first =>
    by_cases z : q = 0
    · subst z
      have c0 := HK3.out.1 0 _ rfl
      have c1 := HK3.out.1 1 _ rfl
      have c2 := HK3.out.1 2 _ rfl
      have c3 := HK3.out.1 3 _ rfl
      have c4 := HK3.out.1 4 _ rfl
      go_wp2_with fail
      refine (rdAllFixed R _ b0 t Ac kc Ar kr W3 HR3.out (by decide) hbV hRV HO3'.out (any_sized HT.out)).mono ?_
      rintro e W4 ⟨xs, vc, rfl, hx, hR4, hg4, hO4⟩
      obtain ⟨⟨Ax, kx, rfl⟩, _⟩ : (∃ A c, vc = .slice A xs.length c) ∧ _ := hO4.form
      have hs4 : W3.heap.size ≤ W4.heap.size := hg4.size
      have hK4 := HK3.out.keep (grow_blk hg4 (by omega) (by omega))
      have hY4 := HY3.out.keep (grow_blk hg4 (by omega) (by omega))
      have HZ4 := hide (HZ3.out.keep (grow_blk hg4 (by omega) (by omega)))
      have HG4 := hide (grow_trans HG3.out hg4)
      have h0 := hK4.1 0 _ rfl
      have h1 := hK4.1 1 _ rfl
      have h2 := hK4.1 2 _ rfl
      have h3 := hK4.1 3 _ rfl
      have h4 := hK4.1 4 _ rfl
      have hf := hK4.2
      obtain ⟨k5, g5⟩ := box5 hK4 (.slice Ax xs.length kx) (.int .i64 t.head) (.int .i64 t.foot) (.slice Ar t.rows.length kr) (.int .i64 t.gap)
      have HK5 := hide k5
      have HG5 := hide (grow_more HG4.out g5 (by omega))
      have HO5 := hide (OwnT.past hO4 g5 hY4 (by decide) (by decide) (by decide))
      have HR5 := hide (hR4.grow g5 (fun g e => by injection e with e; omega))
      have HZ5 := hide (HZ4.out.keep (g5.block w.heap.size (by omega) (fun e => by injection e with e; omega)))
      have hs5 := g5.size
      have HX := hide (any_cols HT.out hx)
      clear c0 c1 c2 c3 c4 hx hR4 hg4 hO4 hK4 hY4 k5 g5
      go_wp2_with fail
      go_meet
      case rel => exact ⟨{ t with cols := xs }, Ax, kx, HK5.out, HO5.out, HX.out, HR5.out.mono (by decide), HG5.out, HZ5.out, by simp at hs5; first | omega | (simp; omega)⟩
    · have e0 : ((q : Int) == 0) = false := by simpa using z
      go_wp2_with fail
      go_meet
      case rel => exact ⟨t, Ac, kc, HK3.out, HO3'.out, HT.out, HR3.out.mono (by decide), HG3.out, HZ3.out, by omega⟩
  case rest =>
  obtain ⟨u, Ux, kx, HKU, HOU, HTU, HRU, HGU, HZU, hsu⟩ := hcut
  have c0 := HKU.out.1 0 _ rfl
  have c1 := HKU.out.1 1 _ rfl
  have c2 := HKU.out.1 2 _ rfl
  have c3 := HKU.out.1 3 _ rfl
  have c4 := HKU.out.1 4 _ rfl
  have hWI := fun (W : World) (h : RdrOk W R 2200) => rdWidth R 2200 W h (by decide)
  go_upto_region 4 with fail
  go_region_with (go_at_call 131; refine (hWI _ ?_).mono ?_; (first | exact HRU.out | exact HRU.out.below (bdrew (brefl _))); rintro e W6 ⟨k, rfl, hk, hR6, hg6⟩; have hg7 := (show wc.grownBy W6 (some R) from (by first | exact hg6 | exact grow_trans (grow_below (bdrew (brefl _))) hg6)); have b0' := (HZU.out.keep (grow_blk hg7 (by omega) (by omega))); have r0 := b0'.1 0 _ rfl; have r1 := b0'.1 1 _ rfl; have r2 := b0'.1 2 _ rfl; have r3 := b0'.1 3 _ rfl; have r4 := b0'.1 4 _ rfl; have rf := b0'.2; have bk := (HKU.out.keep (grow_blk hg7 (by omega) (by omega))); have m0 := bk.1 0 _ rfl; have m1 := bk.1 1 _ rfl; have m2 := bk.1 2 _ rfl; have m3 := bk.1 3 _ rfl; have m4 := bk.1 4 _ rfl; clear b0' bk)
  all_goals
    have HO6 := hide (HOU.out.grow hRV hg7)
    have HG6 := hide (grow_trans HGU.out hg7)
    have HR6 := hide hR6
    clear hR6 hg6 hg7
    go_wp2_with fail
    exact bodyPost_ret (v := .tuple #[.agg #[.slice Ux u.cols.length kx, .int .i64 u.head, .int .i64 u.foot, .slice Ar u.rows.length kr, .int .i64 u.gap], .int .i64 k]) (by simp [results, Tryz.results94, go_sem, *]) rfl (laid_end HTU.out hk HR6.out HG6.out HO6.out hb1 hRl _ _ _ _ _)
set_option maxRecDepth 100000 in
set_option maxHeartbeats 4000000 in
theorem spec_DrawWidCols (A : Option Addr) (n c : Nat) (w : World) (h : BytesAt w A n c) : Calls Tryz.prog 42 #[.slice A n c] w (DrawTI (-1) 301 w) := by
  have HA := hide h
  clear h
  go_enter Tryz.func42, Tryz.ntmps42
  go_wp2_with fail
  refine (rdOpen A n c _ (HA.out.below (balloc (brefl w) _))).mono ?_
  rintro e W1 ⟨R, rfl, hR0, hR1, hb1⟩
  have hR0' : w.heap.size < R := by simp at hR0; omega
  have HB1 := hide (step (balloc (brefl w) (.cells #[.slice none 0 0, .int .i64 0, .int .i64 0, .slice none 0 0, .int .i64 0] 26)) hb1)
  have HZ1 := hide ((BlockAt.new w zeros5 26).keep (hb1.block w.heap.size (by simp)))
  have hRl := hR1.lt
  have HR1 := hide hR1
  clear hR0 hR1 hb1
  go_wp2_with fail
  refine (rdLaid R _ HR1.out).mono ?_
  rintro e W2 ⟨t, vc, vr, k, rfl, htb, hk, hR2, hg2, hO2⟩
  obtain ⟨⟨Ac, kc, rfl⟩, Ar, kr, rfl⟩ := hO2.form
  have HT := hide htb
  have HB2 := hide (below_row HB1.out hg2 (by omega))
  have HZ2 := hide (HZ1.out.keep (grow_blk hg2 (by omega) (by omega)))
  have HO2 := hide hO2
  clear htb hR2 hg2 hO2
  have h0 : W2.cell? ⟨w.heap.size, 0, none⟩ = some (.slice none 0 0) := HZ2.out.1 0 _ rfl
  have h1 : W2.cell? ⟨w.heap.size, 1, none⟩ = some (.int .i64 0) := HZ2.out.1 1 _ rfl
  have h2 : W2.cell? ⟨w.heap.size, 2, none⟩ = some (.int .i64 0) := HZ2.out.1 2 _ rfl
  have h3 : W2.cell? ⟨w.heap.size, 3, none⟩ = some (.slice none 0 0) := HZ2.out.1 3 _ rfl
  have h4 : W2.cell? ⟨w.heap.size, 4, none⟩ = some (.int .i64 0) := HZ2.out.1 4 _ rfl
  have hf := HZ2.out.2
  go_wp2_with fail
  exact bodyPost_ret (v := .tuple #[.agg #[.slice Ac t.cols.length kc, .int .i64 t.head, .int .i64 t.foot, .slice Ar t.rows.length kr, .int .i64 t.gap], .int .i64 k]) (by simp [results, Tryz.results42, go_sem, *]) rfl (drawTI (out5 HB2.out HO2.out (by omega) _ _ _ _ _) HT.out hk)
end Go.Proofs.YtpfagdmmhgcmnaaGreatDoor
