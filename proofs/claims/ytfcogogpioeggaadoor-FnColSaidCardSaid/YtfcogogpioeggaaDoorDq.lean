import Derived.Test.YtfcogogpioeggaaDoorDo
namespace Go.Proofs.YtfcogogpioeggaaDoor
open Go.RowKit
/- The draws of the laws over bytes: a table and a number; a table, one in two with all columns fixed. -/
theorem below_row {w W W' : World} {R : Nat} (hB : Below w.heap.size w W) (hg : W.grownBy W' (some R)) (hR : w.heap.size ≤ R) : Below w.heap.size w W' :=
  hB.trans ⟨hg.os, hg.tape, hg.output, hg.size, fun k hk => hg.block k (by have := hB.size; omega) (fun e => by injection e with e; omega)⟩
theorem any_cols {t : Tbl} (h : anyBd t) {xs : List TCol} (hx : (∀ x ∈ xs, colBd x) ∧ xs.length ≤ 8) : anyBd { t with cols := xs } := ⟨h.head, h.foot, h.gap, hx, h.rows, h.cells⟩
theorem any_sized {t : Tbl} (h : anyBd t) : ∀ r ∈ t.rows, ∀ c ∈ r.cs, c.t.size ≤ 1048576 := by
  obtain ⟨k, hk⟩ := h.cells
  intro r hr c hc
  obtain ⟨i, hi, rfl⟩ := List.getElem_of_mem hr
  exact Nat.le_trans ((hk i hi).2 c hc).1 (by decide)
/-- A table of one's own has been drawn, the memory that was is as it was. -/
def DrawT (w : World) (e : Ending) (w' : World) : Prop :=
  ∃ (t : Tbl) (vc vr : Value), e = .returned (.agg #[vc, .int .i64 t.head, .int .i64 t.foot, vr, .int .i64 t.gap]) ∧ anyBd t ∧ OwnT w' w.heap.size vc vr t ∧ Below w.heap.size w w'
def DrawTI (lo hi : Int) (w : World) (e : Ending) (w' : World) : Prop :=
  ∃ (t : Tbl) (vc vr : Value) (k : Int), e = .returned (.tuple #[.agg #[vc, .int .i64 t.head, .int .i64 t.foot, vr, .int .i64 t.gap], .int .i64 k]) ∧ anyBd t ∧ (lo ≤ k ∧ k ≤ hi) ∧ OwnT w' w.heap.size vc vr t ∧ Below w.heap.size w w'
/-- Five stores into the result's block, behind the draws. -/
theorem out5 {w W : World} {base : Nat} {vc vr : Value} {t : Tbl} (hB : Below w.heap.size w W) (ho : OwnT W base vc vr t) (hb : w.heap.size < base) (v0 v1 v2 v3 v4 : Value) :
    OwnT (((((W.setCell ⟨w.heap.size, 0, none⟩ v0).setCell ⟨w.heap.size, 1, none⟩ v1).setCell ⟨w.heap.size, 2, none⟩ v2).setCell ⟨w.heap.size, 3, none⟩ v3).setCell ⟨w.heap.size, 4, none⟩ v4) w.heap.size vc vr t ∧ Below w.heap.size w (((((W.setCell ⟨w.heap.size, 0, none⟩ v0).setCell ⟨w.heap.size, 1, none⟩ v1).setCell ⟨w.heap.size, 2, none⟩ v2).setCell ⟨w.heap.size, 3, none⟩ v3).setCell ⟨w.heap.size, 4, none⟩ v4) :=
  ⟨OwnT.base (OwnT.setA (OwnT.setA (OwnT.setA (OwnT.setA (OwnT.setA ho hb _) hb _) hb _) hb _) hb _) (by omega), bset (bset (bset (bset (bset hB (Nat.le_refl _) _) (Nat.le_refl _) _) (Nat.le_refl _) _) (Nat.le_refl _) _) (Nat.le_refl _) _⟩
theorem drawTI {w W : World} {lo hi k : Int} {vc vr : Value} {t : Tbl} (h : OwnT W w.heap.size vc vr t ∧ Below w.heap.size w W) (hb : anyBd t) (hk : lo ≤ k ∧ k ≤ hi) : DrawTI lo hi w (.returned (.tuple #[.agg #[vc, .int .i64 t.head, .int .i64 t.foot, vr, .int .i64 t.gap], .int .i64 k])) W :=
  ⟨t, vc, vr, k, rfl, hb, hk, h.1, h.2⟩
theorem drawT {w W : World} {vc vr : Value} {t : Tbl} (h : OwnT W w.heap.size vc vr t ∧ Below w.heap.size w W) (hb : anyBd t) : DrawT w (.returned (.agg #[vc, .int .i64 t.head, .int .i64 t.foot, vr, .int .i64 t.gap])) W :=
  ⟨t, vc, vr, rfl, hb, h.1, h.2⟩
set_option maxRecDepth 100000 in
set_option maxHeartbeats 4000000 in
theorem spec_DrawColSaid (A : Option Addr) (n c : Nat) (w : World) (h : BytesAt w A n c) : Calls Tryd.prog 16 #[.slice A n c] w (DrawTI (-1) 7 w) := by
  have HA := hide h
  clear h
  go_enter Tryd.func16, Tryd.ntmps16
  go_wp2_with fail
  refine (rdOpen A n c _ (HA.out.below (balloc (brefl w) _))).mono ?_
  rintro e W1 ⟨R, rfl, hR0, hR1, hb1⟩
  have hR0' : w.heap.size < R := by simp at hR0; omega
  have HB1 := hide (step (balloc (brefl w) (.cells #[.slice none 0 0, .int .i64 0, .int .i64 0, .slice none 0 0, .int .i64 0] 33)) hb1)
  have HZ1 := hide ((BlockAt.new w zeros5 33).keep (hb1.block w.heap.size (by simp)))
  have hRl := hR1.lt
  have HR1 := hide hR1
  clear hR0 hR1 hb1
  go_wp2_with fail
  refine (rdAnyTable R 0 12 _ HR1.out (by decide) (by decide) (by decide)).mono ?_
  rintro e W2 ⟨t, vc, vr, rfl, htb, hR2, hg2, hO2⟩
  obtain ⟨⟨Ac, kc, rfl⟩, Ar, kr, rfl⟩ := hO2.form
  have HT := hide htb
  have HB2 := hide (below_row HB1.out hg2 (by omega))
  have HZ2 := hide (HZ1.out.keep (grow_blk hg2 (by omega) (by omega)))
  have HO2 := hide hO2
  have HR2 := hide hR2
  have hs2 := hg2.size
  clear htb hR2 hg2 hO2
  go_wp2_with fail
  refine (pick R _ 9 _ HR2.out (by decide) (by decide)).mono ?_
  rintro e W3 ⟨q, rfl, hq0, hq1, hR3, hg3⟩
  have hq9 := hq1 (by decide)
  have HB3 := hide (below_row HB2.out hg3 (by omega))
  have HZ3 := hide (HZ2.out.keep (grow_blk hg3 (by omega) (by omega)))
  have HO3 := hide (HO2.out.grow hRl hg3)
  have t1 : IntKind.i64.wrap (q - 1) = q - 1 := IntWalk.i64_in _ (by omega)
  clear hq1 hR3 hg3
  have h0 : W3.cell? ⟨w.heap.size, 0, none⟩ = some (.slice none 0 0) := HZ3.out.1 0 _ rfl
  have h1 : W3.cell? ⟨w.heap.size, 1, none⟩ = some (.int .i64 0) := HZ3.out.1 1 _ rfl
  have h2 : W3.cell? ⟨w.heap.size, 2, none⟩ = some (.int .i64 0) := HZ3.out.1 2 _ rfl
  have h3 : W3.cell? ⟨w.heap.size, 3, none⟩ = some (.slice none 0 0) := HZ3.out.1 3 _ rfl
  have h4 : W3.cell? ⟨w.heap.size, 4, none⟩ = some (.int .i64 0) := HZ3.out.1 4 _ rfl
  have hf := HZ3.out.2
  go_wp2_with fail
  exact bodyPost_ret (v := .tuple #[.agg #[.slice Ac t.cols.length kc, .int .i64 t.head, .int .i64 t.foot, .slice Ar t.rows.length kr, .int .i64 t.gap], .int .i64 (q - 1)]) (by simp [results, Tryd.results16, go_sem, *]) rfl (drawTI (out5 HB3.out HO3.out (by omega) _ _ _ _ _) HT.out (by omega))
set_option maxRecDepth 100000 in
set_option maxHeartbeats 4000000 in
theorem spec_DrawColAllFixed (A : Option Addr) (n c : Nat) (w : World) (h : BytesAt w A n c) : Calls Tryd.prog 17 #[.slice A n c] w (DrawT w) := by
  have HA := hide h
  clear h
  go_enter Tryd.func17, Tryd.ntmps17
  go_wp2_with fail
  refine (rdOpen A n c _ (HA.out.below (balloc (brefl w) _))).mono ?_
  rintro e W1 ⟨R, rfl, hR0, hR1, hb1⟩
  have hR0' : w.heap.size < R := by simp at hR0; omega
  have HB1 := hide (step (balloc (brefl w) (.cells #[.slice none 0 0, .int .i64 0, .int .i64 0, .slice none 0 0, .int .i64 0] 33)) hb1)
  have HZ1 := hide ((BlockAt.new w zeros5 33).keep (hb1.block w.heap.size (by simp)))
  have hRl := hR1.lt
  have HR1 := hide hR1
  clear hR0 hR1 hb1
  go_wp2_with fail
  refine (rdAnyTable R 0 12 _ HR1.out (by decide) (by decide) (by decide)).mono ?_
  rintro e W2 ⟨t, vc, vr, rfl, htb, hR2, hg2, hO2⟩
  obtain ⟨⟨Ac, kc, rfl⟩, Ar, kr, rfl⟩ := hO2.form
  have HT := hide htb
  have HB2 := hide (balloc (below_row HB1.out hg2 (by omega)) (.cells #[.slice Ac t.cols.length kc, .int .i64 t.head, .int .i64 t.foot, .slice Ar t.rows.length kr, .int .i64 t.gap] 33))
  have hs2 := hg2.size
  have HZ2 := hide ((HZ1.out.keep (grow_blk hg2 (by omega) (by omega))).keep ((balloc (brefl W2) (.cells #[.slice Ac t.cols.length kc, .int .i64 t.head, .int .i64 t.foot, .slice Ar t.rows.length kr, .int .i64 t.gap] 33)).block w.heap.size (by omega)))
  have HO2 := hide (hO2.below (balloc (brefl W2) (.cells #[.slice Ac t.cols.length kc, .int .i64 t.head, .int .i64 t.foot, .slice Ar t.rows.length kr, .int .i64 t.gap] 33)))
  have HT2 := hide (BlockAt.new W2 [.slice Ac t.cols.length kc, .int .i64 t.head, .int .i64 t.foot, .slice Ar t.rows.length kr, .int .i64 t.gap] 33)
  have HR2 := hide (hR2.below (balloc (brefl W2) (.cells #[.slice Ac t.cols.length kc, .int .i64 t.head, .int .i64 t.foot, .slice Ar t.rows.length kr, .int .i64 t.gap] 33)))
  clear htb hR2 hg2 hO2
  go_wp2_with fail
  refine (pick R _ 2 _ HR2.out (by decide) (by decide)).mono ?_
  rintro e W3 ⟨q, rfl, hq0, hq1, hR3, hg3⟩
  have HB3 := hide (below_row HB2.out hg3 (by omega))
  have hs3 : W2.heap.size < W3.heap.size := by have := hg3.size; simp at this; omega
  have HZ3 := hide (HZ2.out.keep (grow_blk hg3 (by omega) (by simp; omega)))
  have HT3 := hide (HT2.out.keep (grow_blk hg3 (by omega) (by simp)))
  have HO3 := hide (HO2.out.grow hRl hg3)
  have HR3 := hide hR3
  clear hq1 hR3 hg3
  have c0 : W3.cell? ⟨W2.heap.size, 0, none⟩ = some (.slice Ac t.cols.length kc) := HT3.out.1 0 _ rfl
  have c1 : W3.cell? ⟨W2.heap.size, 1, none⟩ = some (.int .i64 t.head) := HT3.out.1 1 _ rfl
  have c2 : W3.cell? ⟨W2.heap.size, 2, none⟩ = some (.int .i64 t.foot) := HT3.out.1 2 _ rfl
  have c3 : W3.cell? ⟨W2.heap.size, 3, none⟩ = some (.slice Ar t.rows.length kr) := HT3.out.1 3 _ rfl
  have c4 : W3.cell? ⟨W2.heap.size, 4, none⟩ = some (.int .i64 t.gap) := HT3.out.1 4 _ rfl
  by_cases z : q = 0
  · subst z
    go_wp2_with fail
    refine (rdAllFixed R _ W1.heap.size t Ac kc Ar kr W3 HR3.out (by decide) (by omega) hRl HO3.out (any_sized HT.out)).mono ?_
    rintro e W4 ⟨xs, vc, rfl, hx, hR4, hg4, hO4⟩
    obtain ⟨⟨Ax, kx, rfl⟩, _⟩ : (∃ A c, vc = .slice A xs.length c) ∧ _ := hO4.form
    have HB4 := hide (below_row HB3.out hg4 (by omega))
    have HZ4 := hide (HZ3.out.keep (grow_blk hg4 (by omega) (by omega)))
    have HO4 := hide hO4
    have HX := hide hx
    clear c0 c1 c2 c3 c4 hx hR4 hg4 hO4
    have h0 : W4.cell? ⟨w.heap.size, 0, none⟩ = some (.slice none 0 0) := HZ4.out.1 0 _ rfl
    have h1 : W4.cell? ⟨w.heap.size, 1, none⟩ = some (.int .i64 0) := HZ4.out.1 1 _ rfl
    have h2 : W4.cell? ⟨w.heap.size, 2, none⟩ = some (.int .i64 0) := HZ4.out.1 2 _ rfl
    have h3 : W4.cell? ⟨w.heap.size, 3, none⟩ = some (.slice none 0 0) := HZ4.out.1 3 _ rfl
    have h4 : W4.cell? ⟨w.heap.size, 4, none⟩ = some (.int .i64 0) := HZ4.out.1 4 _ rfl
    have hf := HZ4.out.2
    go_wp2_with fail
    exact bodyPost_ret (v := .agg #[.slice Ax xs.length kx, .int .i64 t.head, .int .i64 t.foot, .slice Ar t.rows.length kr, .int .i64 t.gap]) (by simp [results, Tryd.results17, go_sem, *]) rfl (drawT (t := { t with cols := xs }) (out5 HB4.out HO4.out (by omega) _ _ _ _ _) (any_cols HT.out HX.out))
  · have e0 : ((q : Int) == 0) = false := by simpa using z
    have h0 : W3.cell? ⟨w.heap.size, 0, none⟩ = some (.slice none 0 0) := HZ3.out.1 0 _ rfl
    have h1 : W3.cell? ⟨w.heap.size, 1, none⟩ = some (.int .i64 0) := HZ3.out.1 1 _ rfl
    have h2 : W3.cell? ⟨w.heap.size, 2, none⟩ = some (.int .i64 0) := HZ3.out.1 2 _ rfl
    have h3 : W3.cell? ⟨w.heap.size, 3, none⟩ = some (.slice none 0 0) := HZ3.out.1 3 _ rfl
    have h4 : W3.cell? ⟨w.heap.size, 4, none⟩ = some (.int .i64 0) := HZ3.out.1 4 _ rfl
    have hf := HZ3.out.2
    go_wp2_with fail
    exact bodyPost_ret (v := .agg #[.slice Ac t.cols.length kc, .int .i64 t.head, .int .i64 t.foot, .slice Ar t.rows.length kr, .int .i64 t.gap]) (by simp [results, Tryd.results17, go_sem, *]) rfl (drawT (out5 HB3.out HO3.out (by omega) _ _ _ _ _) HT.out)
end Go.Proofs.YtfcogogpioeggaaDoor
namespace Go.Proofs.YtfcogogpioeggaaDoor
open Go.RowKit
/- A region that draws its order, of operations that read and calls that make memory: what each operation's slot holds is told ahead. -/
structure BMid (vals : Nat → Value) (n : Nat) (V : World) (l : Array Bool) (vs : Nat → Value) (W : World) : Prop where
  size : l.size = n
  below : Below V.heap.size V W
  held : ∀ j, l.getD j false = true → vs j = vals j
section
variable {vals : Nat → Value} {n : Nat} {V : World} {l : Array Bool} {vs : Nat → Value} {W W' : World}
theorem BMid.next (h : BMid vals n V l vs W) (i : Nat) (v : Value) (hv : v = vals i) (hb : Below W.heap.size W W') : BMid vals n V (l.setIfInBounds i true) (updV vs i v) W' := by
  refine ⟨by simpa using h.size, step h.below hb, fun j hj => ?_⟩
  unfold updV
  by_cases e : j = i
  · subst e; rw [if_pos rfl]; exact hv
  · rw [if_neg e]
    rw [getD_set_ne false (Ne.symm e)] at hj
    exact h.held j hj
theorem BMid.still (h : BMid vals n V l vs W) (i : Nat) (v : Value) (hv : v = vals i) : BMid vals n V (l.setIfInBounds i true) (updV vs i v) W := h.next i v hv (brefl W)
theorem BMid.start : BMid vals n V (Array.replicate n false) vs V := ⟨by simp, brefl V, fun j hj => by simp [Array.getD] at hj⟩
end
end Go.Proofs.YtfcogogpioeggaaDoor
