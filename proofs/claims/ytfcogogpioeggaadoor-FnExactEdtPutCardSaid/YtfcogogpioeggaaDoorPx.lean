import Derived.Test.YtfcogogpioeggaaDoorPe
import Derived.Test.YtfcogogpioeggaaDoorLx
namespace Go.Proofs.YtfcogogpioeggaaDoor
open Go.RowKit
/- The reference's EdtPut. -/
theorem frozen_new2 (w : World) (H : Nat) (cs : Array Value) (t : TypeId) (k : Nat) (hH : w.heap.size = H) : (w.alloc (.cells cs t)).frozen? ⟨H, k, none⟩ = false := by
  subst hH
  exact frozen_of_row _ _ _ _ _ (heap_alloc_new w _)
theorem cell_one (x : TCell) : ∀ u ∈ cellE x, u.oneCell' = true := by
  intro u hu
  have := cells_one [x] u (by simpa using hu)
  exact this
set_option linter.unusedSimpArgs false in
set_option maxRecDepth 100000 in
set_option maxHeartbeats 4000000 in
theorem spec_EdtPut0 (t : Tbl) (A : Option Addr) (c : Nat) (A' : Option Addr) (c' : Nat) (row at' : Int) (x : TCell) (w : World) (hok : tblOk t = false) (hc : Rd colR w A t.cols) (hr : Rd rowR w A' t.rows) :
    Calls Tryd.prog 32 #[.agg #[.slice A t.cols.length c, .int .i64 t.head, .int .i64 t.foot, .slice A' t.rows.length c', .int .i64 t.gap], .int .i64 row, .int .i64 at', .agg #[.string x.t, .int .i64 x.c, .int .i64 x.r, .int .i64 x.top.s, .int .i64 x.top.w, .int .i64 x.right.s, .int .i64 x.right.w, .int .i64 x.bot.s, .int .i64 x.bot.w, .int .i64 x.left.s, .int .i64 x.left.w]] w (EdtPost (edtPut t row at' x) w) := by
  have hT := fun (W : World) (h : Below w.heap.size w W) => spec_TblOk t A c A' c' W (hc.below h) (hr.below h)
  rw [hok] at hT
  rw [put_frame hok]
  clear hc hr hok
  go_enter Tryd.func32, Tryd.ntmps32
  go_wp2_with fail
  refine (hT _ (balloc (balloc (balloc (brefl _) _) _) _)).mono ?_
  rintro e w1 ⟨rfl, hb⟩
  obtain ⟨c1, f1, s1⟩ := seenBk (w.heap.size + 1 + 1) (by first | (simp; omega) | simp [*]) hb
  have HB := step (balloc (balloc (balloc (brefl w) _) _) _) hb
  go_wp2_with fail
  refine bodyPost_ret (v := .tuple #[.agg #[.slice none 0 0, .int .i64 0, .int .i64 0, .slice none 0 0, .int .i64 0], .bool false]) (by simp [results, Tryd.results32, go_sem, *]) rfl ⟨_, _, rfl, OwnTbl.empty _ _ _ _ _ _, ?_⟩
  (repeat' (with_reducible first | exact HB | refine bset ?_ ?_ _)) <;> first | (simp; done) | (simp; omega)
set_option linter.unusedSimpArgs false in
set_option maxRecDepth 100000 in
set_option maxHeartbeats 8000000 in
theorem spec_EdtPut1 (t : Tbl) (A : Option Addr) (c : Nat) (A' : Option Addr) (c' : Nat) (row at' : Int) (x : TCell) (w : World) (hok : tblOk t = true) (hs : x.t.size ≤ 1048576) (hc : Rd colR w A t.cols) (hr : Rd rowR w A' t.rows) (hcl : Lies colE w (.slice A t.cols.length c) t.cols) (hro : Rd rowO w A' t.rows) :
    Calls Tryd.prog 32 #[.agg #[.slice A t.cols.length c, .int .i64 t.head, .int .i64 t.foot, .slice A' t.rows.length c', .int .i64 t.gap], .int .i64 row, .int .i64 at', .agg #[.string x.t, .int .i64 x.c, .int .i64 x.r, .int .i64 x.top.s, .int .i64 x.top.w, .int .i64 x.right.s, .int .i64 x.right.w, .int .i64 x.bot.s, .int .i64 x.bot.w, .int .i64 x.left.s, .int .i64 x.left.w]] w (EdtPost (edtPut t row at' x) w) := by
  have hT := fun (W : World) (h : Below w.heap.size w W) => spec_TblOk t A c A' c' W (hc.below h) (hr.below h)
  rw [hok] at hT
  have hCp := fun (W : World) (h : Below w.heap.size w W) => l2Copy t A c A' c' W (hcl.below h) (hro.below h) (small_of_ok hok)
  have HCK : Hid (∀ U : World, Calls Tryd.prog 51 #[.agg #[.string x.t, .int .i64 x.c, .int .i64 x.r, .int .i64 x.top.s, .int .i64 x.top.w, .int .i64 x.right.s, .int .i64 x.right.w, .int .i64 x.bot.s, .int .i64 x.bot.w, .int .i64 x.left.s, .int .i64 x.left.w]] U fun e w' => e = .returned (.bool (cellOk x)) ∧ Below U.heap.size U w') := fun U => spec_CellOk x U hs
  have HOK := hide hok
  have l2 := hr.1
  have hsm := (small_of_ok hok).2.1
  clear hok hc hcl
  go_enter Tryd.func32, Tryd.ntmps32
  go_wp2_with fail
  refine (hT _ (balloc (balloc (balloc (brefl _) _) _) _)).mono ?_
  rintro e w1 ⟨rfl, hb⟩
  obtain ⟨c0, f0, s0⟩ := seenBk w.heap.size (by first | (simp; omega) | simp [*]) hb
  obtain ⟨c1, f1, s1⟩ := seenBk (w.heap.size + 1 + 1) (by first | (simp; omega) | simp [*]) hb
  obtain ⟨cc1, ff1, ss1⟩ := seenBk (w.heap.size + 1) (by first | (simp; omega) | simp [*]) hb
  have HB := step (balloc (balloc (balloc (brefl w) _) _) _) hb
  go_wp2_with fail
  refine (hCp _ HB).mono ?_
  rintro e w2 ⟨vc, vr, rfl, hown, hb2⟩
  have y3 : w2.cell? ⟨w.heap.size, 3, none⟩ = some (.slice A' t.rows.length c') := keepW hb2 ((c0 3).trans (keepW (balloc (balloc (brefl _) _) _) (cell_new w _ _ _ 3 _ rfl)))
  have HU : Hid (W5 w2 (w.heap.size + 1 + 1) (.slice none 0 0) (.int .i64 0) (.int .i64 0) (.slice none 0 0) (.int .i64 0)) := ⟨keepW hb2 ((c1 0).trans (cell_new2 _ _ _ _ 0 _ (by simp) rfl)), keepW hb2 ((c1 1).trans (cell_new2 _ _ _ _ 1 _ (by simp) rfl)), keepW hb2 ((c1 2).trans (cell_new2 _ _ _ _ 2 _ (by simp) rfl)), keepW hb2 ((c1 3).trans (cell_new2 _ _ _ _ 3 _ (by simp) rfl)), keepW hb2 ((c1 4).trans (cell_new2 _ _ _ _ 4 _ (by simp) rfl))⟩
  have HUF : Hid (∀ i, w2.frozen? ⟨w.heap.size + 1 + 1, i, none⟩ = false) := fun i => ((seenBk _ s1 hb2).2.1 i).trans ((f1 i).trans (frozen_new2 _ _ _ _ _ (by simp)))
  have HCB : Hid ((fun U : World => U.cell? ⟨w.heap.size + 1, 0, none⟩ = some (.string x.t) ∧ U.cell? ⟨w.heap.size + 1, 1, none⟩ = some (.int .i64 x.c) ∧ U.cell? ⟨w.heap.size + 1, 2, none⟩ = some (.int .i64 x.r) ∧ U.cell? ⟨w.heap.size + 1, 3, none⟩ = some (.int .i64 x.top.s) ∧ U.cell? ⟨w.heap.size + 1, 4, none⟩ = some (.int .i64 x.top.w) ∧ U.cell? ⟨w.heap.size + 1, 5, none⟩ = some (.int .i64 x.right.s) ∧ U.cell? ⟨w.heap.size + 1, 6, none⟩ = some (.int .i64 x.right.w) ∧ U.cell? ⟨w.heap.size + 1, 7, none⟩ = some (.int .i64 x.bot.s) ∧ U.cell? ⟨w.heap.size + 1, 8, none⟩ = some (.int .i64 x.bot.w) ∧ U.cell? ⟨w.heap.size + 1, 9, none⟩ = some (.int .i64 x.left.s) ∧ U.cell? ⟨w.heap.size + 1, 10, none⟩ = some (.int .i64 x.left.w)) w2) := ⟨keepW hb2 ((cc1 0).trans (keepW (balloc (brefl _) _) (cell_new2 _ _ _ _ 0 _ (by simp) rfl))), keepW hb2 ((cc1 1).trans (keepW (balloc (brefl _) _) (cell_new2 _ _ _ _ 1 _ (by simp) rfl))), keepW hb2 ((cc1 2).trans (keepW (balloc (brefl _) _) (cell_new2 _ _ _ _ 2 _ (by simp) rfl))), keepW hb2 ((cc1 3).trans (keepW (balloc (brefl _) _) (cell_new2 _ _ _ _ 3 _ (by simp) rfl))), keepW hb2 ((cc1 4).trans (keepW (balloc (brefl _) _) (cell_new2 _ _ _ _ 4 _ (by simp) rfl))), keepW hb2 ((cc1 5).trans (keepW (balloc (brefl _) _) (cell_new2 _ _ _ _ 5 _ (by simp) rfl))), keepW hb2 ((cc1 6).trans (keepW (balloc (brefl _) _) (cell_new2 _ _ _ _ 6 _ (by simp) rfl))), keepW hb2 ((cc1 7).trans (keepW (balloc (brefl _) _) (cell_new2 _ _ _ _ 7 _ (by simp) rfl))), keepW hb2 ((cc1 8).trans (keepW (balloc (brefl _) _) (cell_new2 _ _ _ _ 8 _ (by simp) rfl))), keepW hb2 ((cc1 9).trans (keepW (balloc (brefl _) _) (cell_new2 _ _ _ _ 9 _ (by simp) rfl))), keepW hb2 ((cc1 10).trans (keepW (balloc (brefl _) _) (cell_new2 _ _ _ _ 10 _ (by simp) rfl)))⟩
  have hul : w.heap.size + 1 + 1 < w2.heap.size := Nat.lt_of_lt_of_le s1 hb2.size
  have HB2 := hide (step HB hb2)
  have HS1 := hide (show w.heap.size + 3 ≤ w1.heap.size from s1)
  have hw12 : w1.heap.size ≤ w2.heap.size := hb2.size
  have HOWN := hide hown
  obtain ⟨Ac, cc, hvc⟩ := hown.1.form
  obtain ⟨_, vs, hra⟩ := hown
  obtain ⟨Ar, cr, hvr⟩ := hra.len
  subst hvc
  subst hvr
  have HRA := hide hra
  have HY3 := hide y3
  clear c0 f0 c1 f1 s0 s1 cc1 ff1 ss1 hT hCp hra hb hb2 y3
  have hI := fun (n lo hi : Int) (W : World) => spec_l1In n lo hi W
  obtain ⟨W, hW⟩ : ∃ W : World, W = w2.alloc (.cells #[.slice Ac t.cols.length cc, .int .i64 t.head, .int .i64 t.foot, .slice Ar t.rows.length cr, .int .i64 t.gap] 33) := ⟨_, rfl⟩
  have BW : Below w2.heap.size w2 W := hW ▸ balloc (brefl w2) _
  have HX : Hid (W5 W w2.heap.size (.slice Ac t.cols.length cc) (.int .i64 t.head) (.int .i64 t.foot) (.slice Ar t.rows.length cr) (.int .i64 t.gap)) := by rw [hW]; exact W5.new _ _ _ _ _ _ _
  have hWs : W.heap.size = w2.heap.size + 1 := by rw [hW]; simp
  have HU := hide (HU.out.block (BW.block _ hul))
  have HUF : Hid (∀ i, W.frozen? ⟨w.heap.size + 1 + 1, i, none⟩ = false) := fun i => ((seenBk _ hul BW).2.1 i).trans (HUF.out i)
  have HCB := hide (cc_keep HCB.out BW)
  have HBW := hide (HB2.out.trans (BW.mono HB2.out.size))
  have HK2 : Hid (∀ b, b < w2.heap.size → W.heap[b]? = w2.heap[b]?) := fun b hb => BW.block b hb
  have hy3 := keepW BW HY3.out
  have HDEF := hide hW
  clear hW BW HY3
  obtain ⟨d0, d1, d2, d3, d4, d5, d6, d7, d8, d9, d10⟩ := HCB.out
  rw [HDEF.out] at d0 d1 d2 d3 d4 d5 d6 d7 d8 d9 d10 hy3
  go_wp2_with fail
  rw [← HDEF.out] at d0 d1 d2 d3 d4 d5 d6 d7 d8 d9 d10 hy3 ⊢
  refine (HCK.out _).mono ?_
  rintro e w3 ⟨rfl, hb3⟩
  have h23 := hb3.size
  have HX := hide (HX.out.block (hb3.block _ (by omega)))
  have HU := hide (HU.out.block (hb3.block _ (by omega)))
  have HUF : Hid (∀ i, w3.frozen? ⟨w.heap.size + 1 + 1, i, none⟩ = false) := fun i => ((seenBk _ (by omega) hb3).2.1 i).trans (HUF.out i)
  have HCB := hide (cc_keep HCB.out hb3)
  have HB3 := hide (HBW.out.trans (hb3.mono HBW.out.size))
  have HK3 : Hid (∀ b, b < w2.heap.size → w3.heap[b]? = w2.heap[b]?) := fun b hb => (hb3.block b (by omega)).trans (HK2.out b hb)
  have y3 := keepW hb3 hy3
  clear d0 d1 d2 d3 d4 d5 d6 d7 d8 d9 d10 hy3 HK2 HBW HDEF hb3
  have fin : ∀ V : World, (∀ b, w.heap.size + 3 ≤ b → b < w2.heap.size → V.heap[b]? = w2.heap[b]?) → w2.heap.size ≤ V.heap.size → Below w.heap.size w V → edtPut t row at' x = (t, false) →
      EdtPost (edtPut t row at' x) w (.returned (.tuple #[.agg #[.slice Ac t.cols.length cc, .int .i64 t.head, .int .i64 t.foot, .slice Ar t.rows.length cr, .int .i64 t.gap], .bool false])) V := fun V h1 h2 h3 h4 => by
    rw [h4]
    have hs1 := HS1.out
    exact ⟨_, _, rfl, (HOWN.out.keep (fun b ha hb => h1 b (by omega) hb)).mono (by omega) h2, h3⟩
  have FIN := hide fin
  clear fin
  obtain ⟨x0, x1, x2, x3, x4⟩ := HX.out
  obtain ⟨u0, u1, u2, u3, u4⟩ := HU.out
  have uf := HUF.out
  have hul3 : w.heap.size + 1 + 1 < w3.heap.size := by omega
  have hneU : w2.heap.size ≠ w.heap.size + 1 + 1 := by omega
  cases h0 : cellOk x with
  | false =>
    have hE := hide (put_false (row := row) (at' := at') HOK.out (.inl h0))
    clear hr hro
    go_wp2_with (go_at_call 49; refine (hI _ _ _ _).mono ?_; rintro e w' ⟨rfl, rfl⟩)
    refine bodyPost_ret (v := .tuple #[.agg #[.slice Ac t.cols.length cc, .int .i64 t.head, .int .i64 t.foot, .slice Ar t.rows.length cr, .int .i64 t.gap], .bool false]) (by simp [results, Tryd.results32, go_sem, *]) rfl (FIN.out _ (fun b hb1 hb2 => ?_) (by simp; omega) ?_ hE.out)
    · refine (heap_set _ _ _ _ (show b ≠ w.heap.size + 1 + 1 by omega)).trans ?_
      refine (heap_set _ _ _ _ (show b ≠ w.heap.size + 1 + 1 by omega)).trans ?_
      refine (heap_set _ _ _ _ (show b ≠ w.heap.size + 1 + 1 by omega)).trans ?_
      refine (heap_set _ _ _ _ (show b ≠ w.heap.size + 1 + 1 by omega)).trans ?_
      exact (heap_set _ _ _ _ (show b ≠ w.heap.size + 1 + 1 by omega)).trans (HK3.out b hb2)
    · have h := HB3.out
      (repeat' (with_reducible first | exact h | refine balloc ?_ _ | refine bset ?_ ?_ _)) <;> first | (simp; done) | (simp; omega)
  | true =>
  cases h1 : inB row 0 ((t.rows.length : Int) - 1) with
  | false =>
    have hE := hide (put_false (at' := at') (x := x) HOK.out (.inr (.inl h1)))
    clear hr hro
    go_wp2_with (go_at_call 49; refine (hI _ _ _ _).mono ?_; rintro e w' ⟨rfl, rfl⟩)
    refine bodyPost_ret (v := .tuple #[.agg #[.slice Ac t.cols.length cc, .int .i64 t.head, .int .i64 t.foot, .slice Ar t.rows.length cr, .int .i64 t.gap], .bool false]) (by simp [results, Tryd.results32, go_sem, *]) rfl (FIN.out _ (fun b hb1 hb2 => ?_) (by simp; omega) ?_ hE.out)
    · refine (heap_set _ _ _ _ (show b ≠ w.heap.size + 1 + 1 by omega)).trans ?_
      refine (heap_set _ _ _ _ (show b ≠ w.heap.size + 1 + 1 by omega)).trans ?_
      refine (heap_set _ _ _ _ (show b ≠ w.heap.size + 1 + 1 by omega)).trans ?_
      refine (heap_set _ _ _ _ (show b ≠ w.heap.size + 1 + 1 by omega)).trans ?_
      exact (heap_set _ _ _ _ (show b ≠ w.heap.size + 1 + 1 by omega)).trans (HK3.out b hb2)
    · have h := HB3.out
      (repeat' (with_reducible first | exact h | refine balloc ?_ _ | refine bset ?_ ?_ _)) <;> first | (simp; done) | (simp; omega)
  | true =>
    obtain ⟨j, rfl, hj⟩ := inB_nat h1
    have hjz : (j : Int) < (t.rows.length : Int) := by omega
    obtain ⟨b, o, e00, e11, rfl, hblt, ⟨v, hK, hL, hl5⟩, e0, e1⟩ := hro.at2 rfl HB3.out j hj
    have hlv : ∀ A n c, v = .slice A n c → t.rows[j].cs.length ≤ c := fun A1 n1 cx hvx => by
      obtain ⟨b', o', d0', d1', he, _, ⟨v', hK', A1', n1', hv', hl1, _⟩, e0', _⟩ := hr.at2 rfl HB3.out j hj
      injection he with he; injection he with he1 he2
      simp only [List.cons.injEq, and_true] at hK hK'
      subst he1; subst he2
      rw [hK'.1, e0, hK.1, hvx, hv'] at e0'
      injection e0' with e0'; injection e0' with _ _ e3
      omega
    simp only [List.cons.injEq, and_true] at hK
    obtain ⟨rfl, rfl⟩ := hK
    have hbw : b < w3.heap.size := by omega
    obtain ⟨Av, cv, rfl⟩ := hL.form
    have hcvl := hlv _ _ _ rfl
    clear hro hr hlv
    by_cases h2 : inB at' 0 (t.rows[j].cs.length : Int) = false ∨ t.rows[j].cs.length = 5
    · have hE := hide (put_false (row := j) (at' := at') (x := x) HOK.out (.inr (.inr ⟨hj, h2⟩)))
      have h4 : inB at' 0 (t.rows[j].cs.length : Int) = false ∨ (inB at' 0 (t.rows[j].cs.length : Int) = true ∧ ((t.rows[j].cs.length : Int) == 5) = true) := by
        cases h9 : inB at' 0 (t.rows[j].cs.length : Int) with
        | false => exact .inl rfl
        | true =>
          refine .inr ⟨rfl, ?_⟩
          rcases h2 with h2 | h2
          · rw [h9] at h2; cases h2
          · rw [h2]; rfl
      clear h2
      rcases h4 with h4 | ⟨h4, h5⟩
      · skip
        go_wp2_with (go_at_call 49; refine (hI _ _ _ _).mono ?_; rintro e w' ⟨rfl, rfl⟩)
        refine bodyPost_ret (v := .tuple #[.agg #[.slice Ac t.cols.length cc, .int .i64 t.head, .int .i64 t.foot, .slice Ar t.rows.length cr, .int .i64 t.gap], .bool false]) (by simp [results, Tryd.results32, go_sem, *]) rfl (FIN.out _ (fun b hb1 hb2 => ?_) (by simp; omega) ?_ hE.out)
        · refine (heap_set _ _ _ _ (show b ≠ w.heap.size + 1 + 1 by omega)).trans ?_
          refine (heap_set _ _ _ _ (show b ≠ w.heap.size + 1 + 1 by omega)).trans ?_
          refine (heap_set _ _ _ _ (show b ≠ w.heap.size + 1 + 1 by omega)).trans ?_
          refine (heap_set _ _ _ _ (show b ≠ w.heap.size + 1 + 1 by omega)).trans ?_
          exact (heap_set _ _ _ _ (show b ≠ w.heap.size + 1 + 1 by omega)).trans (HK3.out b hb2)
        · have h := HB3.out
          (repeat' (with_reducible first | exact h | refine balloc ?_ _ | refine bset ?_ ?_ _)) <;> first | (simp; done) | (simp; omega)
      · skip
        go_wp2_with (go_at_call 49; refine (hI _ _ _ _).mono ?_; rintro e w' ⟨rfl, rfl⟩)
        refine bodyPost_ret (v := .tuple #[.agg #[.slice Ac t.cols.length cc, .int .i64 t.head, .int .i64 t.foot, .slice Ar t.rows.length cr, .int .i64 t.gap], .bool false]) (by simp [results, Tryd.results32, go_sem, *]) rfl (FIN.out _ (fun b hb1 hb2 => ?_) (by simp; omega) ?_ hE.out)
        · refine (heap_set _ _ _ _ (show b ≠ w.heap.size + 1 + 1 by omega)).trans ?_
          refine (heap_set _ _ _ _ (show b ≠ w.heap.size + 1 + 1 by omega)).trans ?_
          refine (heap_set _ _ _ _ (show b ≠ w.heap.size + 1 + 1 by omega)).trans ?_
          refine (heap_set _ _ _ _ (show b ≠ w.heap.size + 1 + 1 by omega)).trans ?_
          exact (heap_set _ _ _ _ (show b ≠ w.heap.size + 1 + 1 by omega)).trans (HK3.out b hb2)
        · have h := HB3.out
          (repeat' (with_reducible first | exact h | refine balloc ?_ _ | refine bset ?_ ?_ _)) <;> first | (simp; done) | (simp; omega)
    · have h3 : inB at' 0 (t.rows[j].cs.length : Int) = true := by
        cases h9 : inB at' 0 (t.rows[j].cs.length : Int) with
        | false => exact absurd (.inl h9) h2
        | true => rfl
      have h5 : t.rows[j].cs.length ≠ 5 := fun e => h2 (.inr e)
      have h5z : ((t.rows[j].cs.length : Int) == 5) = false := by simp; omega
      have h3' := h3
      simp only [inB, Bool.and_eq_true, decide_eq_true_eq] at h3'
      obtain ⟨i, rfl⟩ := Int.eq_ofNat_of_zero_le h3'.1
      have hi : i ≤ t.rows[j].cs.length := by omega
      have hE := hide (put_true HOK.out h0 hj hi h5)
      clear h2 h5 h3' FIN
      have hra := HRA.out
      have hv : j < vs.length := by rw [hra.2.1]; exact hj
      obtain ⟨gr, rfl⟩ : ∃ gr, Ar = some ⟨gr, 0, none⟩ := by
        rcases hra.1 with ⟨h0, _⟩ | ⟨_, gr, crr, e, _⟩
        · omega
        · injection e with e _ _; exact ⟨gr, e⟩
      obtain ⟨p0, _, pf, hr1, hr2⟩ := hra.at j hv hj
      have hs1 := HS1.out
      have HP : Hid (∃ vj, w3.cell? ⟨gr, j * 2, none⟩ = some vj) := ⟨_, (World.cell?_of_block (HK3.out gr hr2)).trans p0⟩
      have HPF : Hid (w3.frozen? ⟨gr, j * 2, none⟩ = false) := (World.frozen?_of_block (HK3.out gr hr2)).trans (pf _)
      clear p0 pf hra
      have hcv : Av = none ∨ ∃ bv ov, Av = some ⟨bv, ov, none⟩ := by
        rcases hL with ⟨e, _⟩ | ⟨bv, ov, cv', e, _⟩
        · injection e with e _ _; exact .inl e
        · injection e with e _ _; exact .inr ⟨bv, ov, e⟩
      have hiz : (i : Int) ≤ (t.rows[j].cs.length : Int) := by omega
      have hic : i ≤ cv := by omega
      have HLT : Hid (Lies cellE w3 (.slice Av i cv) (t.rows[j].cs.take i)) := by
        rcases hL with ⟨e, h0⟩ | ⟨bv, ov, cv', e, hbv, hcell⟩
        · injection e with e e2 e3
          have : i = 0 := by omega
          subst this
          exact .inl ⟨by rw [e, e3], rfl⟩
        · injection e with e _ e3
          subst e; subst e3
          refine .inr ⟨bv, ov, cv, by rw [List.length_take, Nat.min_eq_left (by omega)], hbv, fun q u hq => ?_⟩
          rw [← flat_take cellE 11 (fun _ => rfl), List.getElem?_take] at hq
          split at hq
          · exact hcell q u hq
          · cases hq
      have HL := hide hL
      have HNIL : Hid (Av = none → i = 0 ∧ cv = 0 ∧ t.rows[j].cs.length = 0) := fun e => by
        rcases hL with ⟨e1, h0⟩ | ⟨bv, ov, cv', e1, _⟩
        · injection e1 with _ e2 e3
          exact ⟨by omega, e3, e2⟩
        · injection e1 with e1 _ _
          rw [e] at e1; cases e1
      clear hL
      have hgrW : gr ≠ w2.heap.size := by omega
      have hgrU : gr ≠ w.heap.size + 1 + 1 := by omega
      have HK : Hid (∀ U : World, Below w3.heap.size w3 U → (fun U : World => U.cell? ⟨w2.heap.size, 3, none⟩ = some (.slice (some ⟨gr, 0, none⟩) t.rows.length cr) ∧ (U.cell? ⟨w.heap.size + 1, 0, none⟩ = some (.string x.t) ∧ U.cell? ⟨w.heap.size + 1, 1, none⟩ = some (.int .i64 x.c) ∧ U.cell? ⟨w.heap.size + 1, 2, none⟩ = some (.int .i64 x.r) ∧ U.cell? ⟨w.heap.size + 1, 3, none⟩ = some (.int .i64 x.top.s) ∧ U.cell? ⟨w.heap.size + 1, 4, none⟩ = some (.int .i64 x.top.w) ∧ U.cell? ⟨w.heap.size + 1, 5, none⟩ = some (.int .i64 x.right.s) ∧ U.cell? ⟨w.heap.size + 1, 6, none⟩ = some (.int .i64 x.right.w) ∧ U.cell? ⟨w.heap.size + 1, 7, none⟩ = some (.int .i64 x.bot.s) ∧ U.cell? ⟨w.heap.size + 1, 8, none⟩ = some (.int .i64 x.bot.w) ∧ U.cell? ⟨w.heap.size + 1, 9, none⟩ = some (.int .i64 x.left.s) ∧ U.cell? ⟨w.heap.size + 1, 10, none⟩ = some (.int .i64 x.left.w))) U) := fun U h => ⟨keepW h HX.out.2.2.2.1, cc_keep HCB.out h⟩
      have hSd : (fun U : World => U.cell? ⟨w2.heap.size, 3, none⟩ = some (.slice (some ⟨gr, 0, none⟩) t.rows.length cr) ∧ (U.cell? ⟨w.heap.size + 1, 0, none⟩ = some (.string x.t) ∧ U.cell? ⟨w.heap.size + 1, 1, none⟩ = some (.int .i64 x.c) ∧ U.cell? ⟨w.heap.size + 1, 2, none⟩ = some (.int .i64 x.r) ∧ U.cell? ⟨w.heap.size + 1, 3, none⟩ = some (.int .i64 x.top.s) ∧ U.cell? ⟨w.heap.size + 1, 4, none⟩ = some (.int .i64 x.top.w) ∧ U.cell? ⟨w.heap.size + 1, 5, none⟩ = some (.int .i64 x.right.s) ∧ U.cell? ⟨w.heap.size + 1, 6, none⟩ = some (.int .i64 x.right.w) ∧ U.cell? ⟨w.heap.size + 1, 7, none⟩ = some (.int .i64 x.bot.s) ∧ U.cell? ⟨w.heap.size + 1, 8, none⟩ = some (.int .i64 x.bot.w) ∧ U.cell? ⟨w.heap.size + 1, 9, none⟩ = some (.int .i64 x.left.s) ∧ U.cell? ⟨w.heap.size + 1, 10, none⟩ = some (.int .i64 x.left.w))) w3.drew := HK.out _ (bdrew (brefl _))
      obtain ⟨j0, hj0, hj1, hj2, hj3⟩ := info_parts info_cloneCells
      have FINISH : Hid (∀ (A9 : Option Addr) (n9 c9 : Nat) (w9 : World), n9 = (t.rows[j].cs.take i ++ [x] ++ t.rows[j].cs.drop i).length → w9.ownsRow w3.heap.size 65 11 (.slice A9 n9 c9) n9 ((t.rows[j].cs.take i ++ [x] ++ t.rows[j].cs.drop i).flatMap cellE) → Below w3.heap.size w3 w9 →
          OwnTbl (w9.setCell ⟨gr, j * 2, none⟩ (.slice A9 n9 c9)) w1.heap.size w9.heap.size (.slice Ac t.cols.length cc) (.slice (some ⟨gr, 0, none⟩) t.rows.length cr) { t with rows := t.rows.set j ⟨t.rows[j].cs.take i ++ [x] ++ t.rows[j].cs.drop i, t.rows[j].wh⟩ }) := fun A9 n9 c9 w9 hn9 ho9 hb9 => by
        subst hn9
        have hk : ∀ b, b < w2.heap.size → w9.heap[b]? = w2.heap[b]? := fun b hb => (hb9.block b (by omega)).trans (HK3.out b hb)
        obtain ⟨curR, hcurR⟩ := HRA.out.head (by omega)
        have hcurR9 : w9.heap[gr]? = some (.cells curR 84 (0, 0)) := (hk gr hr2).trans hcurR
        have hX := HRA.out.keep (w' := w9) (fun b _ h => hk b h)
        have h9 := hb9.size
        refine ⟨(((HOWN.out.1.keep (w' := w9) (fun b _ h => hk b h)).spare (Spare.grow (grow_set w9 (a := ⟨gr, j * 2, none⟩) rfl _) hcurR9 (by decide))).mono (Nat.le_refl _) (by omega)), _, hX.put (hi' := w9.heap.size) j hv hj _ _ (by omega) (Spare.refl _ _) (fun k hk1 hk2 _ => (hX.2.2.1 k hk1 hk2).mono (Nat.le_refl _) (by omega)) (fun k hk1 _ g1 n1 c1 g2 n2 c2 e1 e2 h1 h2 e => ?_) ((Own.of ho9 (Nat.le_refl _)).mono (by omega) (Nat.le_refl _))⟩
        have hO := HRA.out.2.2.1 k hk1 (by rw [← HRA.out.2.1]; exact hk1)
        rcases hO with ⟨_, _, A5, c5, e5⟩ | ⟨_, g5, c5, e5, d1, d2, _⟩
        · rw [e5] at e1; injection e1 with _ e1 _; omega
        · rw [e5] at e1; injection e1 with e1 _ _; injection e1 with e1; injection e1 with e1
          have := own_lt ho9 (b := g2) (by rw [e2]; rfl)
          omega
      clear x0 x1 x2 x4 u0 u1 u2 u3 u4
      have HTL : Hid ((t.rows[j].cs.take i).length = i) := by show List.length _ = _; rw [List.length_take]; omega
      have hNIL : Av = none → i = 0 ∧ cv = 0 ∧ t.rows[j].cs.length = 0 := HNIL.out
      rcases hcv with rfl | ⟨bv, ov, rfl⟩
      · have HLD : Hid (Lies cellE w3 (.slice none (t.rows[j].cs.length - i) (cv - i)) (t.rows[j].cs.drop i)) := by
          obtain ⟨h1, h2, h3⟩ := hNIL rfl
          refine .inl ⟨by rw [h1, h2, h3], ?_⟩
          rw [List.eq_nil_of_length_eq_zero h3]; simp
        clear hNIL HNIL
        go_wp2_with (go_at_call 49; refine (hI _ _ _ _).mono ?_; rintro e w' ⟨rfl, rfl⟩)
        refine wp_region_T (S := fun U : World => U.cell? ⟨w2.heap.size, 3, none⟩ = some (.slice (some ⟨gr, 0, none⟩) t.rows.length cr) ∧ (U.cell? ⟨w.heap.size + 1, 0, none⟩ = some (.string x.t) ∧ U.cell? ⟨w.heap.size + 1, 1, none⟩ = some (.int .i64 x.c) ∧ U.cell? ⟨w.heap.size + 1, 2, none⟩ = some (.int .i64 x.r) ∧ U.cell? ⟨w.heap.size + 1, 3, none⟩ = some (.int .i64 x.top.s) ∧ U.cell? ⟨w.heap.size + 1, 4, none⟩ = some (.int .i64 x.top.w) ∧ U.cell? ⟨w.heap.size + 1, 5, none⟩ = some (.int .i64 x.right.s) ∧ U.cell? ⟨w.heap.size + 1, 6, none⟩ = some (.int .i64 x.right.w) ∧ U.cell? ⟨w.heap.size + 1, 7, none⟩ = some (.int .i64 x.bot.s) ∧ U.cell? ⟨w.heap.size + 1, 8, none⟩ = some (.int .i64 x.bot.w) ∧ U.cell? ⟨w.heap.size + 1, 9, none⟩ = some (.int .i64 x.left.s) ∧ U.cell? ⟨w.heap.size + 1, 10, none⟩ = some (.int .i64 x.left.w))) (L := 17) (by kernel_rfl) ?_
        refine' wpAnyT_take [17] (i := 0) (v := _) rfl (by kernel_rfl) (by kernel_rfl) (by kernel_rfl) (by kernel_rfl) (by kernel_rfl) (by kernel_rfl) (fun _ _ _ h => h) (Or.inl ⟨by rfl, ?hy0⟩) hSd ?_
        case hy0 => (intro w hSw; (try dsimp only at hSw); go_simp) <;> with_reducible rfl
        try simp only [Act.put, List.setIfInBounds_toArray, List.set_cons_zero, List.set_cons_succ]
        refine' wpAnyT_take [17] (i := 1) (v := _) rfl (by kernel_rfl) (by kernel_rfl) (by kernel_rfl) (by kernel_rfl) (by kernel_rfl) (by kernel_rfl) (fun _ _ _ h => h) (Or.inl ⟨by rfl, ?hy1⟩) hSd ?_
        case hy1 => (intro w hSw; (try dsimp only at hSw); go_simp) <;> with_reducible rfl
        try simp only [Act.put, List.setIfInBounds_toArray, List.set_cons_zero, List.set_cons_succ]
        refine' wpAnyT_take [17] (i := 2) (v := _) rfl (by kernel_rfl) (by kernel_rfl) (by kernel_rfl) (by kernel_rfl) (by kernel_rfl) (by kernel_rfl) (fun _ _ _ h => h) (Or.inl ⟨by rfl, ?hy2⟩) hSd ?_
        case hy2 => (intro w hSw; (try dsimp only at hSw); go_simp) <;> with_reducible rfl
        try simp only [Act.put, List.setIfInBounds_toArray, List.set_cons_zero, List.set_cons_succ]
        refine' wpAnyT_take [17] (i := 4) (v := _) rfl (by kernel_rfl) (by kernel_rfl) (by kernel_rfl) (by kernel_rfl) (by kernel_rfl) (by kernel_rfl) (fun _ _ _ h => h) (Or.inl ⟨by rfl, ?hy4⟩) hSd ?_
        case hy4 => (intro w hSw; (try dsimp only at hSw); go_simp) <;> with_reducible rfl
        try simp only [Act.put, List.setIfInBounds_toArray, List.set_cons_zero, List.set_cons_succ]
        refine' wpAnyT_take [17] (i := 5) (v := _) rfl (by kernel_rfl) (by kernel_rfl) (by kernel_rfl) (by kernel_rfl) (by kernel_rfl) (by kernel_rfl) (fun _ _ _ h => h) (Or.inl ⟨by rfl, ?hy5⟩) hSd ?_
        case hy5 => (intro w hSw; (try dsimp only at hSw); go_simp) <;> with_reducible rfl
        try simp only [Act.put, List.setIfInBounds_toArray, List.set_cons_zero, List.set_cons_succ]
        refine' wpAnyT_take [17] (i := 6) (v := _) rfl (by kernel_rfl) (by kernel_rfl) (by kernel_rfl) (by kernel_rfl) (by kernel_rfl) (by kernel_rfl) (fun _ _ _ h => h) (Or.inl ⟨by rfl, ?hy6⟩) hSd ?_
        case hy6 => (intro w hSw; (try dsimp only at hSw); go_simp) <;> with_reducible rfl
        try simp only [Act.put, List.setIfInBounds_toArray, List.set_cons_zero, List.set_cons_succ]
        refine' wpAnyT_take [17] (i := 8) (v := _) rfl (by kernel_rfl) (by kernel_rfl) (by kernel_rfl) (by kernel_rfl) (by kernel_rfl) (by kernel_rfl) (fun _ _ _ h => h) (Or.inl ⟨by rfl, ?hy8⟩) hSd ?_
        case hy8 => (intro w hSw; (try dsimp only at hSw); go_simp) <;> with_reducible rfl
        try simp only [Act.put, List.setIfInBounds_toArray, List.set_cons_zero, List.set_cons_succ]
        refine' wpAnyT_take [17] (i := 11) (v := _) rfl (by kernel_rfl) (by kernel_rfl) (by kernel_rfl) (by kernel_rfl) (by kernel_rfl) (by kernel_rfl) (fun _ _ _ h => h) (Or.inl ⟨by rfl, ?hy11⟩) hSd ?_
        case hy11 => (intro w hSw; (try dsimp only at hSw); go_simp) <;> with_reducible rfl
        try simp only [Act.put, List.setIfInBounds_toArray, List.set_cons_zero, List.set_cons_succ]
        refine' wpAnyT_take [17] (i := 12) (v := _) rfl (by kernel_rfl) (by kernel_rfl) (by kernel_rfl) (by kernel_rfl) (by kernel_rfl) (by kernel_rfl) (fun _ _ _ h => h) (Or.inl ⟨by rfl, ?hy12⟩) hSd ?_
        case hy12 => (intro w hSw; (try dsimp only at hSw); go_simp) <;> with_reducible rfl
        try simp only [Act.put, List.setIfInBounds_toArray, List.set_cons_zero, List.set_cons_succ]
        refine' wpAnyT_take [17] (i := 13) (v := _) rfl (by kernel_rfl) (by kernel_rfl) (by kernel_rfl) (by kernel_rfl) (by kernel_rfl) (by kernel_rfl) (fun _ _ _ h => h) (Or.inl ⟨by rfl, ?hy13⟩) hSd ?_
        case hy13 => (intro w hSw; (try dsimp only at hSw); go_simp) <;> with_reducible rfl
        try simp only [Act.put, List.setIfInBounds_toArray, List.set_cons_zero, List.set_cons_succ]
        refine wpAnyT_two (i := 3) (j := 9) (by kernel_rfl) rfl rfl (fun K hK => ?_) (fun K hK => ?_)
        · go_simp
          refine hK.out _ _ (fun _ => HK.out _ (balloc (bdrew (brefl w3)) _)) ?_
          clear hK K
          try simp only [Act.put, List.setIfInBounds_toArray, List.set_cons_zero, List.set_cons_succ]
          refine wpAnyT_two (i := 7) (j := 9) (by kernel_rfl) rfl rfl (fun K hK => ?_) (fun K hK => ?_)
          · refine step_append_any _ rfl (.tmp 62) (.tmp 65) 82 rfl w3.heap.size 65 j0 _ 11 96 und_cloneCells hj0 hj1 hj2 hj3 rfl (by decide) (.slice (some ⟨w3.heap.size, 0, none⟩) 0 0) 0 [] ?_ (World.ownsRow.drew (made_at w3 w3.heap.size rfl)) cellE (t.rows[j].cs.take i) (.slice none i cv) (by (simp [Act.eval]; done)) (HLT.out.below (by (repeat' (with_reducible first | exact brefl _ | refine bdrew ?_ | refine balloc ?_ _)))) (flatMap_length cellE 11 (fun _ => rfl) _) (cells_one _) (by unfold maxLen; have := List.length_take_le i t.rows[j].cs; omega) (by have := List.length_take_le i t.rows[j].cs; omega) (Below.size (by (repeat' (with_reducible first | exact brefl _ | refine bdrew ?_ | refine balloc ?_ _)))) ?_
            (focus (simp [Act.eval]; done))
            intro v5 w5 ho5 hg5
            have hb5 : Below w3.heap.size w3 w5 := made_below (base := w3.heap.size) (E := 65) (k := 11) (by (repeat' (with_reducible first | exact brefl _ | refine bdrew ?_ | refine balloc ?_ _))) (World.ownsRow.drew (made_at w3 w3.heap.size rfl)) (Nat.le_refl _) hg5
            rw [Nat.zero_add, List.nil_append, HTL.out] at ho5
            obtain ⟨A5, c5, rfl⟩ := own_form0 ho5
            have HO5 := hide ho5
            have HB5 := hide hb5
            clear ho5 hg5 hb5
            refine hK.out _ _ (fun _ => HK.out _ HB5.out) ?_
            clear hK K
            try simp only [Act.put, List.setIfInBounds_toArray, List.set_cons_zero, List.set_cons_succ]
            refine wpAnyT_one (i := 9) (by kernel_rfl) rfl (fun K hK => ?_)
            go_simp
            refine hK.out _ _ (fun _ => HK.out _ (balloc HB5.out _)) ?_
            clear hK K
            try simp only [Act.put, List.setIfInBounds_toArray, List.set_cons_zero, List.set_cons_succ]
            have HBC := hide (balloc HB5.out (.cells #[.string x.t, .int .i64 x.c, .int .i64 x.r, .int .i64 x.top.s, .int .i64 x.top.w, .int .i64 x.right.s, .int .i64 x.right.w, .int .i64 x.bot.s, .int .i64 x.bot.w, .int .i64 x.left.s, .int .i64 x.left.w] 65))
            have HOC := hide (own_alloc HO5.out (.cells #[.string x.t, .int .i64 x.c, .int .i64 x.r, .int .i64 x.top.s, .int .i64 x.top.w, .int .i64 x.right.s, .int .i64 x.right.w, .int .i64 x.bot.s, .int .i64 x.bot.w, .int .i64 x.left.s, .int .i64 x.left.w] 65))
            have HNC : Hid (∀ q u, (cellE x)[q]? = some u → (w5.alloc (.cells #[.string x.t, .int .i64 x.c, .int .i64 x.r, .int .i64 x.top.s, .int .i64 x.top.w, .int .i64 x.right.s, .int .i64 x.right.w, .int .i64 x.bot.s, .int .i64 x.bot.w, .int .i64 x.left.s, .int .i64 x.left.w] 65)).cell? ((⟨w5.heap.size, 0, none⟩ : Addr).add q) = some u) := fun q u hq => by rw [Addr.add_lit, Nat.zero_add]; exact cell_new2 w5 w5.heap.size _ _ q u rfl (by simpa [cellE] using hq)
            refine wpAnyT_one (i := 10) (by kernel_rfl) rfl (fun K hK => ?_)
            refine step_append_own _ rfl (.tmp 66) (.tmp 68) 82 rfl w3.heap.size 65 j0 _ 11 96 und_cloneCells hj0 hj1 hj2 hj3 rfl (by decide) (.slice A5 i c5) i ((t.rows[j].cs.take i).flatMap cellE) ?_ HOC.out ⟨w5.heap.size, 0, none⟩ 1 1 (cellE x) (by (simp [Act.eval]; done)) rfl HNC.out (cell_one x) (by unfold maxLen; have := List.length_take_le i t.rows[j].cs; omega) (by have := List.length_take_le i t.rows[j].cs; omega) HBC.out.size ?_
            (focus (simp [Act.eval]; done))
            intro v8 w8 ho8 hg8 hn8
            have hb8 := made_below HBC.out HOC.out (Nat.le_refl _) hg8
            obtain ⟨A8, c8, rfl⟩ := own_form0 ho8
            have HO8 := hide ho8
            have HB8 := hide hb8
            clear ho8 hg8 hn8 hb8 HBC HOC HNC
            refine hK.out _ _ (fun _ => HK.out _ HB8.out) ?_
            clear hK K
            try simp only [Act.put, List.setIfInBounds_toArray, List.set_cons_zero, List.set_cons_succ]
            refine wpAnyT_one (i := 14) (by kernel_rfl) rfl (fun K hK => ?_)
            refine step_append_any _ rfl (.tmp 69) (.tmp 72) 82 rfl w3.heap.size 65 j0 _ 11 96 und_cloneCells hj0 hj1 hj2 hj3 rfl (by decide) (.slice A8 (i + 1) c8) (i + 1) ((t.rows[j].cs.take i).flatMap cellE ++ cellE x) ?_ HO8.out cellE (t.rows[j].cs.drop i) (.slice none (t.rows[j].cs.length - i) (cv - i)) (by (simp [Act.eval]; done)) (HLD.out.below HB8.out) (flatMap_length cellE 11 (fun _ => rfl) _) (cells_one _) (by unfold maxLen; have := List.length_take_le i t.rows[j].cs; have := List.length_drop (l := t.rows[j].cs) (i := i); omega) (by have := List.length_take_le i t.rows[j].cs; have := List.length_drop (l := t.rows[j].cs) (i := i); omega) HB8.out.size ?_
            (focus (simp [Act.eval]; done))
            intro v9 w9 ho9 hg9
            have hb9 := made_below HB8.out HO8.out (Nat.le_refl _) hg9
            obtain ⟨n9, hn9⟩ : ∃ n, n = (t.rows[j].cs.take i ++ [x] ++ t.rows[j].cs.drop i).length := ⟨_, rfl⟩
            rw [show i + 1 + (t.rows[j].cs.drop i).length = n9 by rw [hn9]; simp; omega, show (t.rows[j].cs.take i).flatMap cellE ++ cellE x ++ (t.rows[j].cs.drop i).flatMap cellE = (t.rows[j].cs.take i ++ [x] ++ t.rows[j].cs.drop i).flatMap cellE by simp [List.flatMap_append]] at ho9
            have HN9 := hide hn9
            clear hn9
            obtain ⟨A9, c9, rfl⟩ := own_form0 ho9
            have HO9 := hide ho9
            have HB9 := hide hb9
            clear ho9 hg9 hb9 HO8 HB8
            refine hK.out _ _ (fun _ => HK.out _ HB9.out) ?_
            clear hK K
            try simp only [Act.put, List.setIfInBounds_toArray, List.set_cons_zero, List.set_cons_succ]
            have hS9 := HK.out _ HB9.out
            refine' wpAnyT_take [16, 17] (i := 15) (v := _) rfl (by kernel_rfl) (by kernel_rfl) (by kernel_rfl) (by kernel_rfl) (by kernel_rfl) (by kernel_rfl) (fun _ _ _ h => h) (Or.inl ⟨by rfl, ?hz15⟩) hS9 ?_
            case hz15 => (intro w hSw; (try dsimp only at hSw); go_simp) <;> with_reducible rfl
            try simp only [Act.put, List.setIfInBounds_toArray, List.set_cons_zero, List.set_cons_succ]
            refine' wpAnyT_take [17] (i := 16) (v := _) rfl (by kernel_rfl) (by kernel_rfl) (by kernel_rfl) (by kernel_rfl) (by kernel_rfl) (by kernel_rfl) (fun _ _ _ h => h) (Or.inl ⟨by rfl, ?hz16⟩) hS9 ?_
            case hz16 => (intro w hSw; (try dsimp only at hSw); go_simp) <;> with_reducible rfl
            try simp only [Act.put, List.setIfInBounds_toArray, List.set_cons_zero, List.set_cons_succ]
            obtain ⟨vj, hvj⟩ := HP.out
            have p9 := keepW HB9.out hvj
            have pf9 : w9.frozen? ⟨gr, j * 2, none⟩ = false := ((seenBk gr (by omega) HB9.out).2.1 _).trans HPF.out
            clear hS9 hSd hvj
            refine wpAnyT_one (i := 17) (by kernel_rfl) rfl (fun K hK => ?_)
            go_simp
            refine hK.out _ _ (fun h => absurd rfl h) ?_
            clear hK K
            try simp only [Act.put, List.setIfInBounds_toArray, List.set_cons_zero, List.set_cons_succ]
            refine wpAnyT_done (by kernel_rfl) ?_ _
            have HV1 := hide (FINISH.out A9 n9 c9 w9 HN9.out HO9.out HB9.out)
            have k0 := setB (o := j * 2) (v := .slice A9 n9 c9) (keepW HB9.out HX.out.1) hgrW
            have k1 := setB (o := j * 2) (v := .slice A9 n9 c9) (keepW HB9.out HX.out.2.1) hgrW
            have k2 := setB (o := j * 2) (v := .slice A9 n9 c9) (keepW HB9.out HX.out.2.2.1) hgrW
            have k3 := setB (o := j * 2) (v := .slice A9 n9 c9) (keepW HB9.out HX.out.2.2.2.1) hgrW
            have k4 := setB (o := j * 2) (v := .slice A9 n9 c9) (keepW HB9.out HX.out.2.2.2.2) hgrW
            have l0 := setB (o := j * 2) (v := .slice A9 n9 c9) (keepW HB9.out HU.out.1) hgrU
            have l1 := setB (o := j * 2) (v := .slice A9 n9 c9) (keepW HB9.out HU.out.2.1) hgrU
            have l2 := setB (o := j * 2) (v := .slice A9 n9 c9) (keepW HB9.out HU.out.2.2.1) hgrU
            have l3 := setB (o := j * 2) (v := .slice A9 n9 c9) (keepW HB9.out HU.out.2.2.2.1) hgrU
            have l4 := setB (o := j * 2) (v := .slice A9 n9 c9) (keepW HB9.out HU.out.2.2.2.2) hgrU
            have vf : ∀ i, w9.frozen? ⟨w.heap.size + 1 + 1, i, none⟩ = false := fun i => ((seenBk _ (by omega) HB9.out).2.1 i).trans (HUF.out i)
            have h9 := HB9.out.size
            have HB99 := hide (HB3.out.trans (HB9.out.mono HB3.out.size))
            clear p9 pf9 HO9 HB9 HK HLT HLD HP HPF uf
            go_wp2_with fail
            rw [hE.out]
            refine bodyPost_ret (v := .tuple #[.agg #[.slice Ac t.cols.length cc, .int .i64 t.head, .int .i64 t.foot, .slice (some ⟨gr, 0, none⟩) t.rows.length cr, .int .i64 t.gap], .bool true]) (by simp [results, Tryd.results32, go_sem, *]) rfl ⟨_, _, rfl, (HV1.out.keep (fun b hb1 hb2 => ?_)).mono ?hlo ?hhi, ?_⟩
            case hlo => omega
            case hhi => simp
            · refine (heap_set _ _ _ _ (show b ≠ w.heap.size + 1 + 1 by omega)).trans ?_
              refine (heap_set _ _ _ _ (show b ≠ w.heap.size + 1 + 1 by omega)).trans ?_
              refine (heap_set _ _ _ _ (show b ≠ w.heap.size + 1 + 1 by omega)).trans ?_
              refine (heap_set _ _ _ _ (show b ≠ w.heap.size + 1 + 1 by omega)).trans ?_
              exact heap_set _ _ _ _ (show b ≠ w.heap.size + 1 + 1 by omega)
            · have h := HB99.out
              (repeat' (with_reducible first | exact h | refine balloc ?_ _ | refine bset ?_ ?_ _)) <;> first | (simp; done) | (simp; omega)
          · go_simp
            refine hK.out _ _ (fun _ => HK.out _ (by (repeat' (with_reducible first | exact brefl _ | refine bdrew ?_ | refine balloc ?_ _)))) ?_
            clear hK K
            try simp only [Act.put, List.setIfInBounds_toArray, List.set_cons_zero, List.set_cons_succ]
            refine wpAnyT_one (i := 7) (by kernel_rfl) rfl (fun K hK => ?_)
            refine step_append_any _ rfl (.tmp 62) (.tmp 65) 82 rfl w3.heap.size 65 j0 _ 11 96 und_cloneCells hj0 hj1 hj2 hj3 rfl (by decide) (.slice (some ⟨w3.heap.size, 0, none⟩) 0 0) 0 [] ?_ (own_alloc (World.ownsRow.drew (made_at w3 w3.heap.size rfl)) _) cellE (t.rows[j].cs.take i) (.slice none i cv) (by (simp [Act.eval]; done)) (HLT.out.below (by (repeat' (with_reducible first | exact brefl _ | refine bdrew ?_ | refine balloc ?_ _)))) (flatMap_length cellE 11 (fun _ => rfl) _) (cells_one _) (by unfold maxLen; have := List.length_take_le i t.rows[j].cs; omega) (by have := List.length_take_le i t.rows[j].cs; omega) (Below.size (by (repeat' (with_reducible first | exact brefl _ | refine bdrew ?_ | refine balloc ?_ _)))) ?_
            (focus (simp [Act.eval]; done))
            intro v5 w5 ho5 hg5
            have hb5 : Below w3.heap.size w3 w5 := made_below (base := w3.heap.size) (E := 65) (k := 11) (by (repeat' (with_reducible first | exact brefl _ | refine bdrew ?_ | refine balloc ?_ _))) (own_alloc (World.ownsRow.drew (made_at w3 w3.heap.size rfl)) _) (Nat.le_refl _) hg5
            rw [Nat.zero_add, List.nil_append, HTL.out] at ho5
            obtain ⟨A5, c5, rfl⟩ := own_form0 ho5
            have HNC : Hid (∀ q u, (cellE x)[q]? = some u → w5.cell? ((⟨w3.heap.size + 1, 0, none⟩ : Addr).add q) = some u) := fun q u hq => by
              rw [Addr.add_lit, Nat.zero_add]
              exact (World.cell?_of_block (hg5.block (w3.heap.size + 1) (by simp) (fun e => by simp [Value.ownBlock] at e))).trans (cell_new2 (w3.alloc (.cells #[] 65)) (w3.heap.size + 1) _ _ q u (by simp) (by simpa [cellE] using hq))
            have HOC := hide ho5
            have HBC := hide hb5
            clear ho5 hg5 hb5
            refine hK.out _ _ (fun _ => HK.out _ HBC.out) ?_
            clear hK K
            try simp only [Act.put, List.setIfInBounds_toArray, List.set_cons_zero, List.set_cons_succ]
            refine wpAnyT_one (i := 10) (by kernel_rfl) rfl (fun K hK => ?_)
            refine step_append_own _ rfl (.tmp 66) (.tmp 68) 82 rfl w3.heap.size 65 j0 _ 11 96 und_cloneCells hj0 hj1 hj2 hj3 rfl (by decide) (.slice A5 i c5) i ((t.rows[j].cs.take i).flatMap cellE) ?_ HOC.out ⟨w3.heap.size + 1, 0, none⟩ 1 1 (cellE x) (by (simp [Act.eval]; done)) rfl HNC.out (cell_one x) (by unfold maxLen; have := List.length_take_le i t.rows[j].cs; omega) (by have := List.length_take_le i t.rows[j].cs; omega) HBC.out.size ?_
            (focus (simp [Act.eval]; done))
            intro v8 w8 ho8 hg8 hn8
            have hb8 := made_below HBC.out HOC.out (Nat.le_refl _) hg8
            obtain ⟨A8, c8, rfl⟩ := own_form0 ho8
            have HO8 := hide ho8
            have HB8 := hide hb8
            clear ho8 hg8 hn8 hb8 HBC HOC HNC
            refine hK.out _ _ (fun _ => HK.out _ HB8.out) ?_
            clear hK K
            try simp only [Act.put, List.setIfInBounds_toArray, List.set_cons_zero, List.set_cons_succ]
            refine wpAnyT_one (i := 14) (by kernel_rfl) rfl (fun K hK => ?_)
            refine step_append_any _ rfl (.tmp 69) (.tmp 72) 82 rfl w3.heap.size 65 j0 _ 11 96 und_cloneCells hj0 hj1 hj2 hj3 rfl (by decide) (.slice A8 (i + 1) c8) (i + 1) ((t.rows[j].cs.take i).flatMap cellE ++ cellE x) ?_ HO8.out cellE (t.rows[j].cs.drop i) (.slice none (t.rows[j].cs.length - i) (cv - i)) (by (simp [Act.eval]; done)) (HLD.out.below HB8.out) (flatMap_length cellE 11 (fun _ => rfl) _) (cells_one _) (by unfold maxLen; have := List.length_take_le i t.rows[j].cs; have := List.length_drop (l := t.rows[j].cs) (i := i); omega) (by have := List.length_take_le i t.rows[j].cs; have := List.length_drop (l := t.rows[j].cs) (i := i); omega) HB8.out.size ?_
            (focus (simp [Act.eval]; done))
            intro v9 w9 ho9 hg9
            have hb9 := made_below HB8.out HO8.out (Nat.le_refl _) hg9
            obtain ⟨n9, hn9⟩ : ∃ n, n = (t.rows[j].cs.take i ++ [x] ++ t.rows[j].cs.drop i).length := ⟨_, rfl⟩
            rw [show i + 1 + (t.rows[j].cs.drop i).length = n9 by rw [hn9]; simp; omega, show (t.rows[j].cs.take i).flatMap cellE ++ cellE x ++ (t.rows[j].cs.drop i).flatMap cellE = (t.rows[j].cs.take i ++ [x] ++ t.rows[j].cs.drop i).flatMap cellE by simp [List.flatMap_append]] at ho9
            have HN9 := hide hn9
            clear hn9
            obtain ⟨A9, c9, rfl⟩ := own_form0 ho9
            have HO9 := hide ho9
            have HB9 := hide hb9
            clear ho9 hg9 hb9 HO8 HB8
            refine hK.out _ _ (fun _ => HK.out _ HB9.out) ?_
            clear hK K
            try simp only [Act.put, List.setIfInBounds_toArray, List.set_cons_zero, List.set_cons_succ]
            have hS9 := HK.out _ HB9.out
            refine' wpAnyT_take [16, 17] (i := 15) (v := _) rfl (by kernel_rfl) (by kernel_rfl) (by kernel_rfl) (by kernel_rfl) (by kernel_rfl) (by kernel_rfl) (fun _ _ _ h => h) (Or.inl ⟨by rfl, ?hz15⟩) hS9 ?_
            case hz15 => (intro w hSw; (try dsimp only at hSw); go_simp) <;> with_reducible rfl
            try simp only [Act.put, List.setIfInBounds_toArray, List.set_cons_zero, List.set_cons_succ]
            refine' wpAnyT_take [17] (i := 16) (v := _) rfl (by kernel_rfl) (by kernel_rfl) (by kernel_rfl) (by kernel_rfl) (by kernel_rfl) (by kernel_rfl) (fun _ _ _ h => h) (Or.inl ⟨by rfl, ?hz16⟩) hS9 ?_
            case hz16 => (intro w hSw; (try dsimp only at hSw); go_simp) <;> with_reducible rfl
            try simp only [Act.put, List.setIfInBounds_toArray, List.set_cons_zero, List.set_cons_succ]
            obtain ⟨vj, hvj⟩ := HP.out
            have p9 := keepW HB9.out hvj
            have pf9 : w9.frozen? ⟨gr, j * 2, none⟩ = false := ((seenBk gr (by omega) HB9.out).2.1 _).trans HPF.out
            clear hS9 hSd hvj
            refine wpAnyT_one (i := 17) (by kernel_rfl) rfl (fun K hK => ?_)
            go_simp
            refine hK.out _ _ (fun h => absurd rfl h) ?_
            clear hK K
            try simp only [Act.put, List.setIfInBounds_toArray, List.set_cons_zero, List.set_cons_succ]
            refine wpAnyT_done (by kernel_rfl) ?_ _
            have HV1 := hide (FINISH.out A9 n9 c9 w9 HN9.out HO9.out HB9.out)
            have k0 := setB (o := j * 2) (v := .slice A9 n9 c9) (keepW HB9.out HX.out.1) hgrW
            have k1 := setB (o := j * 2) (v := .slice A9 n9 c9) (keepW HB9.out HX.out.2.1) hgrW
            have k2 := setB (o := j * 2) (v := .slice A9 n9 c9) (keepW HB9.out HX.out.2.2.1) hgrW
            have k3 := setB (o := j * 2) (v := .slice A9 n9 c9) (keepW HB9.out HX.out.2.2.2.1) hgrW
            have k4 := setB (o := j * 2) (v := .slice A9 n9 c9) (keepW HB9.out HX.out.2.2.2.2) hgrW
            have l0 := setB (o := j * 2) (v := .slice A9 n9 c9) (keepW HB9.out HU.out.1) hgrU
            have l1 := setB (o := j * 2) (v := .slice A9 n9 c9) (keepW HB9.out HU.out.2.1) hgrU
            have l2 := setB (o := j * 2) (v := .slice A9 n9 c9) (keepW HB9.out HU.out.2.2.1) hgrU
            have l3 := setB (o := j * 2) (v := .slice A9 n9 c9) (keepW HB9.out HU.out.2.2.2.1) hgrU
            have l4 := setB (o := j * 2) (v := .slice A9 n9 c9) (keepW HB9.out HU.out.2.2.2.2) hgrU
            have vf : ∀ i, w9.frozen? ⟨w.heap.size + 1 + 1, i, none⟩ = false := fun i => ((seenBk _ (by omega) HB9.out).2.1 i).trans (HUF.out i)
            have h9 := HB9.out.size
            have HB99 := hide (HB3.out.trans (HB9.out.mono HB3.out.size))
            clear p9 pf9 HO9 HB9 HK HLT HLD HP HPF uf
            go_wp2_with fail
            rw [hE.out]
            refine bodyPost_ret (v := .tuple #[.agg #[.slice Ac t.cols.length cc, .int .i64 t.head, .int .i64 t.foot, .slice (some ⟨gr, 0, none⟩) t.rows.length cr, .int .i64 t.gap], .bool true]) (by simp [results, Tryd.results32, go_sem, *]) rfl ⟨_, _, rfl, (HV1.out.keep (fun b hb1 hb2 => ?_)).mono ?hlo ?hhi, ?_⟩
            case hlo => omega
            case hhi => simp
            · refine (heap_set _ _ _ _ (show b ≠ w.heap.size + 1 + 1 by omega)).trans ?_
              refine (heap_set _ _ _ _ (show b ≠ w.heap.size + 1 + 1 by omega)).trans ?_
              refine (heap_set _ _ _ _ (show b ≠ w.heap.size + 1 + 1 by omega)).trans ?_
              refine (heap_set _ _ _ _ (show b ≠ w.heap.size + 1 + 1 by omega)).trans ?_
              exact heap_set _ _ _ _ (show b ≠ w.heap.size + 1 + 1 by omega)
            · have h := HB99.out
              (repeat' (with_reducible first | exact h | refine balloc ?_ _ | refine bset ?_ ?_ _)) <;> first | (simp; done) | (simp; omega)
        · go_simp
          refine hK.out _ _ (fun _ => HK.out _ (by (repeat' (with_reducible first | exact brefl _ | refine bdrew ?_ | refine balloc ?_ _)))) ?_
          clear hK K
          try simp only [Act.put, List.setIfInBounds_toArray, List.set_cons_zero, List.set_cons_succ]
          refine wpAnyT_one (i := 3) (by kernel_rfl) rfl (fun K hK => ?_)
          go_simp
          refine hK.out _ _ (fun _ => HK.out _ (by (repeat' (with_reducible first | exact brefl _ | refine bdrew ?_ | refine balloc ?_ _)))) ?_
          clear hK K
          try simp only [Act.put, List.setIfInBounds_toArray, List.set_cons_zero, List.set_cons_succ]
          refine wpAnyT_one (i := 7) (by kernel_rfl) rfl (fun K hK => ?_)
          refine step_append_any _ rfl (.tmp 62) (.tmp 65) 82 rfl w3.heap.size 65 j0 _ 11 96 und_cloneCells hj0 hj1 hj2 hj3 rfl (by decide) (.slice (some ⟨w3.heap.size + 1, 0, none⟩) 0 0) 0 [] ?_ (World.ownsRow.drew (made_at (base := w3.heap.size) (w3.alloc (.cells #[.string x.t, .int .i64 x.c, .int .i64 x.r, .int .i64 x.top.s, .int .i64 x.top.w, .int .i64 x.right.s, .int .i64 x.right.w, .int .i64 x.bot.s, .int .i64 x.bot.w, .int .i64 x.left.s, .int .i64 x.left.w] 65)) (w3.heap.size + 1) (by simp))) cellE (t.rows[j].cs.take i) (.slice none i cv) (by (simp [Act.eval]; done)) (HLT.out.below (by (repeat' (with_reducible first | exact brefl _ | refine bdrew ?_ | refine balloc ?_ _)))) (flatMap_length cellE 11 (fun _ => rfl) _) (cells_one _) (by unfold maxLen; have := List.length_take_le i t.rows[j].cs; omega) (by have := List.length_take_le i t.rows[j].cs; omega) (Below.size (by (repeat' (with_reducible first | exact brefl _ | refine bdrew ?_ | refine balloc ?_ _)))) ?_
          (focus (simp [Act.eval]; done))
          intro v5 w5 ho5 hg5
          have hb5 : Below w3.heap.size w3 w5 := made_below (base := w3.heap.size) (E := 65) (k := 11) (by (repeat' (with_reducible first | exact brefl _ | refine bdrew ?_ | refine balloc ?_ _))) (World.ownsRow.drew (made_at (base := w3.heap.size) (w3.alloc (.cells #[.string x.t, .int .i64 x.c, .int .i64 x.r, .int .i64 x.top.s, .int .i64 x.top.w, .int .i64 x.right.s, .int .i64 x.right.w, .int .i64 x.bot.s, .int .i64 x.bot.w, .int .i64 x.left.s, .int .i64 x.left.w] 65)) (w3.heap.size + 1) (by simp))) (Nat.le_refl _) hg5
          rw [Nat.zero_add, List.nil_append, HTL.out] at ho5
          obtain ⟨A5, c5, rfl⟩ := own_form0 ho5
          have HNC : Hid (∀ q u, (cellE x)[q]? = some u → w5.cell? ((⟨w3.heap.size, 0, none⟩ : Addr).add q) = some u) := fun q u hq => by
            rw [Addr.add_lit, Nat.zero_add]
            exact (World.cell?_of_block (hg5.block w3.heap.size (by simp; omega) (fun e => by simp [Value.ownBlock] at e))).trans (keepW (balloc (brefl (w3.alloc (.cells #[.string x.t, .int .i64 x.c, .int .i64 x.r, .int .i64 x.top.s, .int .i64 x.top.w, .int .i64 x.right.s, .int .i64 x.right.w, .int .i64 x.bot.s, .int .i64 x.bot.w, .int .i64 x.left.s, .int .i64 x.left.w] 65))) (.cells #[] 65)) (cell_new2 w3 w3.heap.size _ _ q u rfl (by simpa [cellE] using hq)))
          have HOC := hide ho5
          have HBC := hide hb5
          clear ho5 hg5 hb5
          refine hK.out _ _ (fun _ => HK.out _ HBC.out) ?_
          clear hK K
          try simp only [Act.put, List.setIfInBounds_toArray, List.set_cons_zero, List.set_cons_succ]
          refine wpAnyT_one (i := 10) (by kernel_rfl) rfl (fun K hK => ?_)
          refine step_append_own _ rfl (.tmp 66) (.tmp 68) 82 rfl w3.heap.size 65 j0 _ 11 96 und_cloneCells hj0 hj1 hj2 hj3 rfl (by decide) (.slice A5 i c5) i ((t.rows[j].cs.take i).flatMap cellE) ?_ HOC.out ⟨w3.heap.size, 0, none⟩ 1 1 (cellE x) (by (simp [Act.eval]; done)) rfl HNC.out (cell_one x) (by unfold maxLen; have := List.length_take_le i t.rows[j].cs; omega) (by have := List.length_take_le i t.rows[j].cs; omega) HBC.out.size ?_
          (focus (simp [Act.eval]; done))
          intro v8 w8 ho8 hg8 hn8
          have hb8 := made_below HBC.out HOC.out (Nat.le_refl _) hg8
          obtain ⟨A8, c8, rfl⟩ := own_form0 ho8
          have HO8 := hide ho8
          have HB8 := hide hb8
          clear ho8 hg8 hn8 hb8 HBC HOC HNC
          refine hK.out _ _ (fun _ => HK.out _ HB8.out) ?_
          clear hK K
          try simp only [Act.put, List.setIfInBounds_toArray, List.set_cons_zero, List.set_cons_succ]
          refine wpAnyT_one (i := 14) (by kernel_rfl) rfl (fun K hK => ?_)
          refine step_append_any _ rfl (.tmp 69) (.tmp 72) 82 rfl w3.heap.size 65 j0 _ 11 96 und_cloneCells hj0 hj1 hj2 hj3 rfl (by decide) (.slice A8 (i + 1) c8) (i + 1) ((t.rows[j].cs.take i).flatMap cellE ++ cellE x) ?_ HO8.out cellE (t.rows[j].cs.drop i) (.slice none (t.rows[j].cs.length - i) (cv - i)) (by (simp [Act.eval]; done)) (HLD.out.below HB8.out) (flatMap_length cellE 11 (fun _ => rfl) _) (cells_one _) (by unfold maxLen; have := List.length_take_le i t.rows[j].cs; have := List.length_drop (l := t.rows[j].cs) (i := i); omega) (by have := List.length_take_le i t.rows[j].cs; have := List.length_drop (l := t.rows[j].cs) (i := i); omega) HB8.out.size ?_
          (focus (simp [Act.eval]; done))
          intro v9 w9 ho9 hg9
          have hb9 := made_below HB8.out HO8.out (Nat.le_refl _) hg9
          obtain ⟨n9, hn9⟩ : ∃ n, n = (t.rows[j].cs.take i ++ [x] ++ t.rows[j].cs.drop i).length := ⟨_, rfl⟩
          rw [show i + 1 + (t.rows[j].cs.drop i).length = n9 by rw [hn9]; simp; omega, show (t.rows[j].cs.take i).flatMap cellE ++ cellE x ++ (t.rows[j].cs.drop i).flatMap cellE = (t.rows[j].cs.take i ++ [x] ++ t.rows[j].cs.drop i).flatMap cellE by simp [List.flatMap_append]] at ho9
          have HN9 := hide hn9
          clear hn9
          obtain ⟨A9, c9, rfl⟩ := own_form0 ho9
          have HO9 := hide ho9
          have HB9 := hide hb9
          clear ho9 hg9 hb9 HO8 HB8
          refine hK.out _ _ (fun _ => HK.out _ HB9.out) ?_
          clear hK K
          try simp only [Act.put, List.setIfInBounds_toArray, List.set_cons_zero, List.set_cons_succ]
          have hS9 := HK.out _ HB9.out
          refine' wpAnyT_take [16, 17] (i := 15) (v := _) rfl (by kernel_rfl) (by kernel_rfl) (by kernel_rfl) (by kernel_rfl) (by kernel_rfl) (by kernel_rfl) (fun _ _ _ h => h) (Or.inl ⟨by rfl, ?hz15⟩) hS9 ?_
          case hz15 => (intro w hSw; (try dsimp only at hSw); go_simp) <;> with_reducible rfl
          try simp only [Act.put, List.setIfInBounds_toArray, List.set_cons_zero, List.set_cons_succ]
          refine' wpAnyT_take [17] (i := 16) (v := _) rfl (by kernel_rfl) (by kernel_rfl) (by kernel_rfl) (by kernel_rfl) (by kernel_rfl) (by kernel_rfl) (fun _ _ _ h => h) (Or.inl ⟨by rfl, ?hz16⟩) hS9 ?_
          case hz16 => (intro w hSw; (try dsimp only at hSw); go_simp) <;> with_reducible rfl
          try simp only [Act.put, List.setIfInBounds_toArray, List.set_cons_zero, List.set_cons_succ]
          obtain ⟨vj, hvj⟩ := HP.out
          have p9 := keepW HB9.out hvj
          have pf9 : w9.frozen? ⟨gr, j * 2, none⟩ = false := ((seenBk gr (by omega) HB9.out).2.1 _).trans HPF.out
          clear hS9 hSd hvj
          refine wpAnyT_one (i := 17) (by kernel_rfl) rfl (fun K hK => ?_)
          go_simp
          refine hK.out _ _ (fun h => absurd rfl h) ?_
          clear hK K
          try simp only [Act.put, List.setIfInBounds_toArray, List.set_cons_zero, List.set_cons_succ]
          refine wpAnyT_done (by kernel_rfl) ?_ _
          have HV1 := hide (FINISH.out A9 n9 c9 w9 HN9.out HO9.out HB9.out)
          have k0 := setB (o := j * 2) (v := .slice A9 n9 c9) (keepW HB9.out HX.out.1) hgrW
          have k1 := setB (o := j * 2) (v := .slice A9 n9 c9) (keepW HB9.out HX.out.2.1) hgrW
          have k2 := setB (o := j * 2) (v := .slice A9 n9 c9) (keepW HB9.out HX.out.2.2.1) hgrW
          have k3 := setB (o := j * 2) (v := .slice A9 n9 c9) (keepW HB9.out HX.out.2.2.2.1) hgrW
          have k4 := setB (o := j * 2) (v := .slice A9 n9 c9) (keepW HB9.out HX.out.2.2.2.2) hgrW
          have l0 := setB (o := j * 2) (v := .slice A9 n9 c9) (keepW HB9.out HU.out.1) hgrU
          have l1 := setB (o := j * 2) (v := .slice A9 n9 c9) (keepW HB9.out HU.out.2.1) hgrU
          have l2 := setB (o := j * 2) (v := .slice A9 n9 c9) (keepW HB9.out HU.out.2.2.1) hgrU
          have l3 := setB (o := j * 2) (v := .slice A9 n9 c9) (keepW HB9.out HU.out.2.2.2.1) hgrU
          have l4 := setB (o := j * 2) (v := .slice A9 n9 c9) (keepW HB9.out HU.out.2.2.2.2) hgrU
          have vf : ∀ i, w9.frozen? ⟨w.heap.size + 1 + 1, i, none⟩ = false := fun i => ((seenBk _ (by omega) HB9.out).2.1 i).trans (HUF.out i)
          have h9 := HB9.out.size
          have HB99 := hide (HB3.out.trans (HB9.out.mono HB3.out.size))
          clear p9 pf9 HO9 HB9 HK HLT HLD HP HPF uf
          go_wp2_with fail
          rw [hE.out]
          refine bodyPost_ret (v := .tuple #[.agg #[.slice Ac t.cols.length cc, .int .i64 t.head, .int .i64 t.foot, .slice (some ⟨gr, 0, none⟩) t.rows.length cr, .int .i64 t.gap], .bool true]) (by simp [results, Tryd.results32, go_sem, *]) rfl ⟨_, _, rfl, (HV1.out.keep (fun b hb1 hb2 => ?_)).mono ?hlo ?hhi, ?_⟩
          case hlo => omega
          case hhi => simp
          · refine (heap_set _ _ _ _ (show b ≠ w.heap.size + 1 + 1 by omega)).trans ?_
            refine (heap_set _ _ _ _ (show b ≠ w.heap.size + 1 + 1 by omega)).trans ?_
            refine (heap_set _ _ _ _ (show b ≠ w.heap.size + 1 + 1 by omega)).trans ?_
            refine (heap_set _ _ _ _ (show b ≠ w.heap.size + 1 + 1 by omega)).trans ?_
            exact heap_set _ _ _ _ (show b ≠ w.heap.size + 1 + 1 by omega)
          · have h := HB99.out
            (repeat' (with_reducible first | exact h | refine balloc ?_ _ | refine bset ?_ ?_ _)) <;> first | (simp; done) | (simp; omega)
      · obtain ⟨A2, hA, HLD⟩ : ∃ A2 : Addr, (if cv = i then (some ⟨bv, ov, none⟩ : Option Addr) else some ⟨bv, ov + i * 11, none⟩) = some A2 ∧ Hid (Lies cellE w3 (.slice (some A2) (t.rows[j].cs.length - i) (cv - i)) (t.rows[j].cs.drop i)) := by
          rcases HL.out with ⟨e, _⟩ | ⟨bv', ov', cv', e, hbv, hcell⟩
          · cases e
          · injection e with e _ e3
            injection e with e; injection e with e e'
            subst e; subst e'; subst e3
            by_cases hc : cv = i
            · refine ⟨⟨bv, ov, none⟩, by simp [hc], .inr ⟨bv, ov, _, by rw [List.length_drop], hbv, fun q u hq => ?_⟩⟩
              have h0 : t.rows[j].cs.drop i = [] := List.drop_eq_nil_of_le (by omega)
              rw [h0] at hq
              simp at hq
            · refine ⟨⟨bv, ov + i * 11, none⟩, by simp [hc], .inr ⟨bv, ov + i * 11, _, by rw [List.length_drop], hbv, fun q u hq => ?_⟩⟩
              rw [← flat_drop cellE 11 (fun _ => rfl), List.getElem?_drop] at hq
              have := hcell _ u hq
              rw [Addr.add_lit] at this ⊢
              rw [Nat.add_assoc]; exact this
        clear HL hNIL HNIL
        go_wp2_with (go_at_call 49; refine (hI _ _ _ _).mono ?_; rintro e w' ⟨rfl, rfl⟩)
        refine wp_region_T (S := fun U : World => U.cell? ⟨w2.heap.size, 3, none⟩ = some (.slice (some ⟨gr, 0, none⟩) t.rows.length cr) ∧ (U.cell? ⟨w.heap.size + 1, 0, none⟩ = some (.string x.t) ∧ U.cell? ⟨w.heap.size + 1, 1, none⟩ = some (.int .i64 x.c) ∧ U.cell? ⟨w.heap.size + 1, 2, none⟩ = some (.int .i64 x.r) ∧ U.cell? ⟨w.heap.size + 1, 3, none⟩ = some (.int .i64 x.top.s) ∧ U.cell? ⟨w.heap.size + 1, 4, none⟩ = some (.int .i64 x.top.w) ∧ U.cell? ⟨w.heap.size + 1, 5, none⟩ = some (.int .i64 x.right.s) ∧ U.cell? ⟨w.heap.size + 1, 6, none⟩ = some (.int .i64 x.right.w) ∧ U.cell? ⟨w.heap.size + 1, 7, none⟩ = some (.int .i64 x.bot.s) ∧ U.cell? ⟨w.heap.size + 1, 8, none⟩ = some (.int .i64 x.bot.w) ∧ U.cell? ⟨w.heap.size + 1, 9, none⟩ = some (.int .i64 x.left.s) ∧ U.cell? ⟨w.heap.size + 1, 10, none⟩ = some (.int .i64 x.left.w))) (L := 17) (by kernel_rfl) ?_
        refine' wpAnyT_take [17] (i := 0) (v := _) rfl (by kernel_rfl) (by kernel_rfl) (by kernel_rfl) (by kernel_rfl) (by kernel_rfl) (by kernel_rfl) (fun _ _ _ h => h) (Or.inl ⟨by rfl, ?hy0⟩) hSd ?_
        case hy0 => (intro w hSw; (try dsimp only at hSw); go_simp) <;> with_reducible rfl
        try simp only [Act.put, List.setIfInBounds_toArray, List.set_cons_zero, List.set_cons_succ]
        refine' wpAnyT_take [17] (i := 1) (v := _) rfl (by kernel_rfl) (by kernel_rfl) (by kernel_rfl) (by kernel_rfl) (by kernel_rfl) (by kernel_rfl) (fun _ _ _ h => h) (Or.inl ⟨by rfl, ?hy1⟩) hSd ?_
        case hy1 => (intro w hSw; (try dsimp only at hSw); go_simp) <;> with_reducible rfl
        try simp only [Act.put, List.setIfInBounds_toArray, List.set_cons_zero, List.set_cons_succ]
        refine' wpAnyT_take [17] (i := 2) (v := _) rfl (by kernel_rfl) (by kernel_rfl) (by kernel_rfl) (by kernel_rfl) (by kernel_rfl) (by kernel_rfl) (fun _ _ _ h => h) (Or.inl ⟨by rfl, ?hy2⟩) hSd ?_
        case hy2 => (intro w hSw; (try dsimp only at hSw); go_simp) <;> with_reducible rfl
        try simp only [Act.put, List.setIfInBounds_toArray, List.set_cons_zero, List.set_cons_succ]
        refine' wpAnyT_take [17] (i := 4) (v := _) rfl (by kernel_rfl) (by kernel_rfl) (by kernel_rfl) (by kernel_rfl) (by kernel_rfl) (by kernel_rfl) (fun _ _ _ h => h) (Or.inl ⟨by rfl, ?hy4⟩) hSd ?_
        case hy4 => (intro w hSw; (try dsimp only at hSw); go_simp) <;> with_reducible rfl
        try simp only [Act.put, List.setIfInBounds_toArray, List.set_cons_zero, List.set_cons_succ]
        refine' wpAnyT_take [17] (i := 5) (v := _) rfl (by kernel_rfl) (by kernel_rfl) (by kernel_rfl) (by kernel_rfl) (by kernel_rfl) (by kernel_rfl) (fun _ _ _ h => h) (Or.inl ⟨by rfl, ?hy5⟩) hSd ?_
        case hy5 => (intro w hSw; (try dsimp only at hSw); go_simp) <;> with_reducible rfl
        try simp only [Act.put, List.setIfInBounds_toArray, List.set_cons_zero, List.set_cons_succ]
        refine' wpAnyT_take [17] (i := 6) (v := _) rfl (by kernel_rfl) (by kernel_rfl) (by kernel_rfl) (by kernel_rfl) (by kernel_rfl) (by kernel_rfl) (fun _ _ _ h => h) (Or.inl ⟨by rfl, ?hy6⟩) hSd ?_
        case hy6 => (intro w hSw; (try dsimp only at hSw); go_simp) <;> with_reducible rfl
        try simp only [Act.put, List.setIfInBounds_toArray, List.set_cons_zero, List.set_cons_succ]
        refine' wpAnyT_take [17] (i := 8) (v := _) rfl (by kernel_rfl) (by kernel_rfl) (by kernel_rfl) (by kernel_rfl) (by kernel_rfl) (by kernel_rfl) (fun _ _ _ h => h) (Or.inl ⟨by rfl, ?hy8⟩) hSd ?_
        case hy8 => (intro w hSw; (try dsimp only at hSw); go_simp) <;> with_reducible rfl
        try simp only [Act.put, List.setIfInBounds_toArray, List.set_cons_zero, List.set_cons_succ]
        refine' wpAnyT_take [17] (i := 11) (v := _) rfl (by kernel_rfl) (by kernel_rfl) (by kernel_rfl) (by kernel_rfl) (by kernel_rfl) (by kernel_rfl) (fun _ _ _ h => h) (Or.inl ⟨by rfl, ?hy11⟩) hSd ?_
        case hy11 => (intro w hSw; (try dsimp only at hSw); go_simp) <;> with_reducible rfl
        try simp only [Act.put, List.setIfInBounds_toArray, List.set_cons_zero, List.set_cons_succ]
        refine' wpAnyT_take [17] (i := 12) (v := _) rfl (by kernel_rfl) (by kernel_rfl) (by kernel_rfl) (by kernel_rfl) (by kernel_rfl) (by kernel_rfl) (fun _ _ _ h => h) (Or.inl ⟨by rfl, ?hy12⟩) hSd ?_
        case hy12 => (intro w hSw; (try dsimp only at hSw); go_simp) <;> with_reducible rfl
        try simp only [Act.put, List.setIfInBounds_toArray, List.set_cons_zero, List.set_cons_succ]
        refine' wpAnyT_take [17] (i := 13) (v := _) rfl (by kernel_rfl) (by kernel_rfl) (by kernel_rfl) (by kernel_rfl) (by kernel_rfl) (by kernel_rfl) (fun _ _ _ h => h) (Or.inl ⟨by rfl, ?hy13⟩) hSd ?_
        case hy13 => (intro w hSw; (try dsimp only at hSw); go_simp) <;> with_reducible rfl
        try simp only [Act.put, List.setIfInBounds_toArray, List.set_cons_zero, List.set_cons_succ]
        refine wpAnyT_two (i := 3) (j := 9) (by kernel_rfl) rfl rfl (fun K hK => ?_) (fun K hK => ?_)
        · go_simp
          refine hK.out _ _ (fun _ => HK.out _ (balloc (bdrew (brefl w3)) _)) ?_
          clear hK K
          try simp only [Act.put, List.setIfInBounds_toArray, List.set_cons_zero, List.set_cons_succ]
          refine wpAnyT_two (i := 7) (j := 9) (by kernel_rfl) rfl rfl (fun K hK => ?_) (fun K hK => ?_)
          · refine step_append_any _ rfl (.tmp 62) (.tmp 65) 82 rfl w3.heap.size 65 j0 _ 11 96 und_cloneCells hj0 hj1 hj2 hj3 rfl (by decide) (.slice (some ⟨w3.heap.size, 0, none⟩) 0 0) 0 [] ?_ (World.ownsRow.drew (made_at w3 w3.heap.size rfl)) cellE (t.rows[j].cs.take i) (.slice (some ⟨bv, ov, none⟩) i cv) (by (simp [Act.eval]; done)) (HLT.out.below (by (repeat' (with_reducible first | exact brefl _ | refine bdrew ?_ | refine balloc ?_ _)))) (flatMap_length cellE 11 (fun _ => rfl) _) (cells_one _) (by unfold maxLen; have := List.length_take_le i t.rows[j].cs; omega) (by have := List.length_take_le i t.rows[j].cs; omega) (Below.size (by (repeat' (with_reducible first | exact brefl _ | refine bdrew ?_ | refine balloc ?_ _)))) ?_
            (focus (simp [Act.eval]; done))
            intro v5 w5 ho5 hg5
            have hb5 : Below w3.heap.size w3 w5 := made_below (base := w3.heap.size) (E := 65) (k := 11) (by (repeat' (with_reducible first | exact brefl _ | refine bdrew ?_ | refine balloc ?_ _))) (World.ownsRow.drew (made_at w3 w3.heap.size rfl)) (Nat.le_refl _) hg5
            rw [Nat.zero_add, List.nil_append, HTL.out] at ho5
            obtain ⟨A5, c5, rfl⟩ := own_form0 ho5
            have HO5 := hide ho5
            have HB5 := hide hb5
            clear ho5 hg5 hb5
            refine hK.out _ _ (fun _ => HK.out _ HB5.out) ?_
            clear hK K
            try simp only [Act.put, List.setIfInBounds_toArray, List.set_cons_zero, List.set_cons_succ]
            refine wpAnyT_one (i := 9) (by kernel_rfl) rfl (fun K hK => ?_)
            go_simp
            refine hK.out _ _ (fun _ => HK.out _ (balloc HB5.out _)) ?_
            clear hK K
            try simp only [Act.put, List.setIfInBounds_toArray, List.set_cons_zero, List.set_cons_succ]
            have HBC := hide (balloc HB5.out (.cells #[.string x.t, .int .i64 x.c, .int .i64 x.r, .int .i64 x.top.s, .int .i64 x.top.w, .int .i64 x.right.s, .int .i64 x.right.w, .int .i64 x.bot.s, .int .i64 x.bot.w, .int .i64 x.left.s, .int .i64 x.left.w] 65))
            have HOC := hide (own_alloc HO5.out (.cells #[.string x.t, .int .i64 x.c, .int .i64 x.r, .int .i64 x.top.s, .int .i64 x.top.w, .int .i64 x.right.s, .int .i64 x.right.w, .int .i64 x.bot.s, .int .i64 x.bot.w, .int .i64 x.left.s, .int .i64 x.left.w] 65))
            have HNC : Hid (∀ q u, (cellE x)[q]? = some u → (w5.alloc (.cells #[.string x.t, .int .i64 x.c, .int .i64 x.r, .int .i64 x.top.s, .int .i64 x.top.w, .int .i64 x.right.s, .int .i64 x.right.w, .int .i64 x.bot.s, .int .i64 x.bot.w, .int .i64 x.left.s, .int .i64 x.left.w] 65)).cell? ((⟨w5.heap.size, 0, none⟩ : Addr).add q) = some u) := fun q u hq => by rw [Addr.add_lit, Nat.zero_add]; exact cell_new2 w5 w5.heap.size _ _ q u rfl (by simpa [cellE] using hq)
            refine wpAnyT_one (i := 10) (by kernel_rfl) rfl (fun K hK => ?_)
            refine step_append_own _ rfl (.tmp 66) (.tmp 68) 82 rfl w3.heap.size 65 j0 _ 11 96 und_cloneCells hj0 hj1 hj2 hj3 rfl (by decide) (.slice A5 i c5) i ((t.rows[j].cs.take i).flatMap cellE) ?_ HOC.out ⟨w5.heap.size, 0, none⟩ 1 1 (cellE x) (by (simp [Act.eval]; done)) rfl HNC.out (cell_one x) (by unfold maxLen; have := List.length_take_le i t.rows[j].cs; omega) (by have := List.length_take_le i t.rows[j].cs; omega) HBC.out.size ?_
            (focus (simp [Act.eval]; done))
            intro v8 w8 ho8 hg8 hn8
            have hb8 := made_below HBC.out HOC.out (Nat.le_refl _) hg8
            obtain ⟨A8, c8, rfl⟩ := own_form0 ho8
            have HO8 := hide ho8
            have HB8 := hide hb8
            clear ho8 hg8 hn8 hb8 HBC HOC HNC
            refine hK.out _ _ (fun _ => HK.out _ HB8.out) ?_
            clear hK K
            try simp only [Act.put, List.setIfInBounds_toArray, List.set_cons_zero, List.set_cons_succ]
            refine wpAnyT_one (i := 14) (by kernel_rfl) rfl (fun K hK => ?_)
            refine step_append_any _ rfl (.tmp 69) (.tmp 72) 82 rfl w3.heap.size 65 j0 _ 11 96 und_cloneCells hj0 hj1 hj2 hj3 rfl (by decide) (.slice A8 (i + 1) c8) (i + 1) ((t.rows[j].cs.take i).flatMap cellE ++ cellE x) ?_ HO8.out cellE (t.rows[j].cs.drop i) (.slice (some A2) (t.rows[j].cs.length - i) (cv - i)) (by (simp [Act.eval]; done)) (HLD.out.below HB8.out) (flatMap_length cellE 11 (fun _ => rfl) _) (cells_one _) (by unfold maxLen; have := List.length_take_le i t.rows[j].cs; have := List.length_drop (l := t.rows[j].cs) (i := i); omega) (by have := List.length_take_le i t.rows[j].cs; have := List.length_drop (l := t.rows[j].cs) (i := i); omega) HB8.out.size ?_
            (focus (simp [Act.eval]; done))
            intro v9 w9 ho9 hg9
            have hb9 := made_below HB8.out HO8.out (Nat.le_refl _) hg9
            obtain ⟨n9, hn9⟩ : ∃ n, n = (t.rows[j].cs.take i ++ [x] ++ t.rows[j].cs.drop i).length := ⟨_, rfl⟩
            rw [show i + 1 + (t.rows[j].cs.drop i).length = n9 by rw [hn9]; simp; omega, show (t.rows[j].cs.take i).flatMap cellE ++ cellE x ++ (t.rows[j].cs.drop i).flatMap cellE = (t.rows[j].cs.take i ++ [x] ++ t.rows[j].cs.drop i).flatMap cellE by simp [List.flatMap_append]] at ho9
            have HN9 := hide hn9
            clear hn9
            obtain ⟨A9, c9, rfl⟩ := own_form0 ho9
            have HO9 := hide ho9
            have HB9 := hide hb9
            clear ho9 hg9 hb9 HO8 HB8
            refine hK.out _ _ (fun _ => HK.out _ HB9.out) ?_
            clear hK K
            try simp only [Act.put, List.setIfInBounds_toArray, List.set_cons_zero, List.set_cons_succ]
            have hS9 := HK.out _ HB9.out
            refine' wpAnyT_take [16, 17] (i := 15) (v := _) rfl (by kernel_rfl) (by kernel_rfl) (by kernel_rfl) (by kernel_rfl) (by kernel_rfl) (by kernel_rfl) (fun _ _ _ h => h) (Or.inl ⟨by rfl, ?hz15⟩) hS9 ?_
            case hz15 => (intro w hSw; (try dsimp only at hSw); go_simp) <;> with_reducible rfl
            try simp only [Act.put, List.setIfInBounds_toArray, List.set_cons_zero, List.set_cons_succ]
            refine' wpAnyT_take [17] (i := 16) (v := _) rfl (by kernel_rfl) (by kernel_rfl) (by kernel_rfl) (by kernel_rfl) (by kernel_rfl) (by kernel_rfl) (fun _ _ _ h => h) (Or.inl ⟨by rfl, ?hz16⟩) hS9 ?_
            case hz16 => (intro w hSw; (try dsimp only at hSw); go_simp) <;> with_reducible rfl
            try simp only [Act.put, List.setIfInBounds_toArray, List.set_cons_zero, List.set_cons_succ]
            obtain ⟨vj, hvj⟩ := HP.out
            have p9 := keepW HB9.out hvj
            have pf9 : w9.frozen? ⟨gr, j * 2, none⟩ = false := ((seenBk gr (by omega) HB9.out).2.1 _).trans HPF.out
            clear hS9 hSd hvj
            refine wpAnyT_one (i := 17) (by kernel_rfl) rfl (fun K hK => ?_)
            go_simp
            refine hK.out _ _ (fun h => absurd rfl h) ?_
            clear hK K
            try simp only [Act.put, List.setIfInBounds_toArray, List.set_cons_zero, List.set_cons_succ]
            refine wpAnyT_done (by kernel_rfl) ?_ _
            have HV1 := hide (FINISH.out A9 n9 c9 w9 HN9.out HO9.out HB9.out)
            have k0 := setB (o := j * 2) (v := .slice A9 n9 c9) (keepW HB9.out HX.out.1) hgrW
            have k1 := setB (o := j * 2) (v := .slice A9 n9 c9) (keepW HB9.out HX.out.2.1) hgrW
            have k2 := setB (o := j * 2) (v := .slice A9 n9 c9) (keepW HB9.out HX.out.2.2.1) hgrW
            have k3 := setB (o := j * 2) (v := .slice A9 n9 c9) (keepW HB9.out HX.out.2.2.2.1) hgrW
            have k4 := setB (o := j * 2) (v := .slice A9 n9 c9) (keepW HB9.out HX.out.2.2.2.2) hgrW
            have l0 := setB (o := j * 2) (v := .slice A9 n9 c9) (keepW HB9.out HU.out.1) hgrU
            have l1 := setB (o := j * 2) (v := .slice A9 n9 c9) (keepW HB9.out HU.out.2.1) hgrU
            have l2 := setB (o := j * 2) (v := .slice A9 n9 c9) (keepW HB9.out HU.out.2.2.1) hgrU
            have l3 := setB (o := j * 2) (v := .slice A9 n9 c9) (keepW HB9.out HU.out.2.2.2.1) hgrU
            have l4 := setB (o := j * 2) (v := .slice A9 n9 c9) (keepW HB9.out HU.out.2.2.2.2) hgrU
            have vf : ∀ i, w9.frozen? ⟨w.heap.size + 1 + 1, i, none⟩ = false := fun i => ((seenBk _ (by omega) HB9.out).2.1 i).trans (HUF.out i)
            have h9 := HB9.out.size
            have HB99 := hide (HB3.out.trans (HB9.out.mono HB3.out.size))
            clear p9 pf9 HO9 HB9 HK HLT HLD HP HPF uf
            go_wp2_with fail
            rw [hE.out]
            refine bodyPost_ret (v := .tuple #[.agg #[.slice Ac t.cols.length cc, .int .i64 t.head, .int .i64 t.foot, .slice (some ⟨gr, 0, none⟩) t.rows.length cr, .int .i64 t.gap], .bool true]) (by simp [results, Tryd.results32, go_sem, *]) rfl ⟨_, _, rfl, (HV1.out.keep (fun b hb1 hb2 => ?_)).mono ?hlo ?hhi, ?_⟩
            case hlo => omega
            case hhi => simp
            · refine (heap_set _ _ _ _ (show b ≠ w.heap.size + 1 + 1 by omega)).trans ?_
              refine (heap_set _ _ _ _ (show b ≠ w.heap.size + 1 + 1 by omega)).trans ?_
              refine (heap_set _ _ _ _ (show b ≠ w.heap.size + 1 + 1 by omega)).trans ?_
              refine (heap_set _ _ _ _ (show b ≠ w.heap.size + 1 + 1 by omega)).trans ?_
              exact heap_set _ _ _ _ (show b ≠ w.heap.size + 1 + 1 by omega)
            · have h := HB99.out
              (repeat' (with_reducible first | exact h | refine balloc ?_ _ | refine bset ?_ ?_ _)) <;> first | (simp; done) | (simp; omega)
          · go_simp
            refine hK.out _ _ (fun _ => HK.out _ (by (repeat' (with_reducible first | exact brefl _ | refine bdrew ?_ | refine balloc ?_ _)))) ?_
            clear hK K
            try simp only [Act.put, List.setIfInBounds_toArray, List.set_cons_zero, List.set_cons_succ]
            refine wpAnyT_one (i := 7) (by kernel_rfl) rfl (fun K hK => ?_)
            refine step_append_any _ rfl (.tmp 62) (.tmp 65) 82 rfl w3.heap.size 65 j0 _ 11 96 und_cloneCells hj0 hj1 hj2 hj3 rfl (by decide) (.slice (some ⟨w3.heap.size, 0, none⟩) 0 0) 0 [] ?_ (own_alloc (World.ownsRow.drew (made_at w3 w3.heap.size rfl)) _) cellE (t.rows[j].cs.take i) (.slice (some ⟨bv, ov, none⟩) i cv) (by (simp [Act.eval]; done)) (HLT.out.below (by (repeat' (with_reducible first | exact brefl _ | refine bdrew ?_ | refine balloc ?_ _)))) (flatMap_length cellE 11 (fun _ => rfl) _) (cells_one _) (by unfold maxLen; have := List.length_take_le i t.rows[j].cs; omega) (by have := List.length_take_le i t.rows[j].cs; omega) (Below.size (by (repeat' (with_reducible first | exact brefl _ | refine bdrew ?_ | refine balloc ?_ _)))) ?_
            (focus (simp [Act.eval]; done))
            intro v5 w5 ho5 hg5
            have hb5 : Below w3.heap.size w3 w5 := made_below (base := w3.heap.size) (E := 65) (k := 11) (by (repeat' (with_reducible first | exact brefl _ | refine bdrew ?_ | refine balloc ?_ _))) (own_alloc (World.ownsRow.drew (made_at w3 w3.heap.size rfl)) _) (Nat.le_refl _) hg5
            rw [Nat.zero_add, List.nil_append, HTL.out] at ho5
            obtain ⟨A5, c5, rfl⟩ := own_form0 ho5
            have HNC : Hid (∀ q u, (cellE x)[q]? = some u → w5.cell? ((⟨w3.heap.size + 1, 0, none⟩ : Addr).add q) = some u) := fun q u hq => by
              rw [Addr.add_lit, Nat.zero_add]
              exact (World.cell?_of_block (hg5.block (w3.heap.size + 1) (by simp) (fun e => by simp [Value.ownBlock] at e))).trans (cell_new2 (w3.alloc (.cells #[] 65)) (w3.heap.size + 1) _ _ q u (by simp) (by simpa [cellE] using hq))
            have HOC := hide ho5
            have HBC := hide hb5
            clear ho5 hg5 hb5
            refine hK.out _ _ (fun _ => HK.out _ HBC.out) ?_
            clear hK K
            try simp only [Act.put, List.setIfInBounds_toArray, List.set_cons_zero, List.set_cons_succ]
            refine wpAnyT_one (i := 10) (by kernel_rfl) rfl (fun K hK => ?_)
            refine step_append_own _ rfl (.tmp 66) (.tmp 68) 82 rfl w3.heap.size 65 j0 _ 11 96 und_cloneCells hj0 hj1 hj2 hj3 rfl (by decide) (.slice A5 i c5) i ((t.rows[j].cs.take i).flatMap cellE) ?_ HOC.out ⟨w3.heap.size + 1, 0, none⟩ 1 1 (cellE x) (by (simp [Act.eval]; done)) rfl HNC.out (cell_one x) (by unfold maxLen; have := List.length_take_le i t.rows[j].cs; omega) (by have := List.length_take_le i t.rows[j].cs; omega) HBC.out.size ?_
            (focus (simp [Act.eval]; done))
            intro v8 w8 ho8 hg8 hn8
            have hb8 := made_below HBC.out HOC.out (Nat.le_refl _) hg8
            obtain ⟨A8, c8, rfl⟩ := own_form0 ho8
            have HO8 := hide ho8
            have HB8 := hide hb8
            clear ho8 hg8 hn8 hb8 HBC HOC HNC
            refine hK.out _ _ (fun _ => HK.out _ HB8.out) ?_
            clear hK K
            try simp only [Act.put, List.setIfInBounds_toArray, List.set_cons_zero, List.set_cons_succ]
            refine wpAnyT_one (i := 14) (by kernel_rfl) rfl (fun K hK => ?_)
            refine step_append_any _ rfl (.tmp 69) (.tmp 72) 82 rfl w3.heap.size 65 j0 _ 11 96 und_cloneCells hj0 hj1 hj2 hj3 rfl (by decide) (.slice A8 (i + 1) c8) (i + 1) ((t.rows[j].cs.take i).flatMap cellE ++ cellE x) ?_ HO8.out cellE (t.rows[j].cs.drop i) (.slice (some A2) (t.rows[j].cs.length - i) (cv - i)) (by (simp [Act.eval]; done)) (HLD.out.below HB8.out) (flatMap_length cellE 11 (fun _ => rfl) _) (cells_one _) (by unfold maxLen; have := List.length_take_le i t.rows[j].cs; have := List.length_drop (l := t.rows[j].cs) (i := i); omega) (by have := List.length_take_le i t.rows[j].cs; have := List.length_drop (l := t.rows[j].cs) (i := i); omega) HB8.out.size ?_
            (focus (simp [Act.eval]; done))
            intro v9 w9 ho9 hg9
            have hb9 := made_below HB8.out HO8.out (Nat.le_refl _) hg9
            obtain ⟨n9, hn9⟩ : ∃ n, n = (t.rows[j].cs.take i ++ [x] ++ t.rows[j].cs.drop i).length := ⟨_, rfl⟩
            rw [show i + 1 + (t.rows[j].cs.drop i).length = n9 by rw [hn9]; simp; omega, show (t.rows[j].cs.take i).flatMap cellE ++ cellE x ++ (t.rows[j].cs.drop i).flatMap cellE = (t.rows[j].cs.take i ++ [x] ++ t.rows[j].cs.drop i).flatMap cellE by simp [List.flatMap_append]] at ho9
            have HN9 := hide hn9
            clear hn9
            obtain ⟨A9, c9, rfl⟩ := own_form0 ho9
            have HO9 := hide ho9
            have HB9 := hide hb9
            clear ho9 hg9 hb9 HO8 HB8
            refine hK.out _ _ (fun _ => HK.out _ HB9.out) ?_
            clear hK K
            try simp only [Act.put, List.setIfInBounds_toArray, List.set_cons_zero, List.set_cons_succ]
            have hS9 := HK.out _ HB9.out
            refine' wpAnyT_take [16, 17] (i := 15) (v := _) rfl (by kernel_rfl) (by kernel_rfl) (by kernel_rfl) (by kernel_rfl) (by kernel_rfl) (by kernel_rfl) (fun _ _ _ h => h) (Or.inl ⟨by rfl, ?hz15⟩) hS9 ?_
            case hz15 => (intro w hSw; (try dsimp only at hSw); go_simp) <;> with_reducible rfl
            try simp only [Act.put, List.setIfInBounds_toArray, List.set_cons_zero, List.set_cons_succ]
            refine' wpAnyT_take [17] (i := 16) (v := _) rfl (by kernel_rfl) (by kernel_rfl) (by kernel_rfl) (by kernel_rfl) (by kernel_rfl) (by kernel_rfl) (fun _ _ _ h => h) (Or.inl ⟨by rfl, ?hz16⟩) hS9 ?_
            case hz16 => (intro w hSw; (try dsimp only at hSw); go_simp) <;> with_reducible rfl
            try simp only [Act.put, List.setIfInBounds_toArray, List.set_cons_zero, List.set_cons_succ]
            obtain ⟨vj, hvj⟩ := HP.out
            have p9 := keepW HB9.out hvj
            have pf9 : w9.frozen? ⟨gr, j * 2, none⟩ = false := ((seenBk gr (by omega) HB9.out).2.1 _).trans HPF.out
            clear hS9 hSd hvj
            refine wpAnyT_one (i := 17) (by kernel_rfl) rfl (fun K hK => ?_)
            go_simp
            refine hK.out _ _ (fun h => absurd rfl h) ?_
            clear hK K
            try simp only [Act.put, List.setIfInBounds_toArray, List.set_cons_zero, List.set_cons_succ]
            refine wpAnyT_done (by kernel_rfl) ?_ _
            have HV1 := hide (FINISH.out A9 n9 c9 w9 HN9.out HO9.out HB9.out)
            have k0 := setB (o := j * 2) (v := .slice A9 n9 c9) (keepW HB9.out HX.out.1) hgrW
            have k1 := setB (o := j * 2) (v := .slice A9 n9 c9) (keepW HB9.out HX.out.2.1) hgrW
            have k2 := setB (o := j * 2) (v := .slice A9 n9 c9) (keepW HB9.out HX.out.2.2.1) hgrW
            have k3 := setB (o := j * 2) (v := .slice A9 n9 c9) (keepW HB9.out HX.out.2.2.2.1) hgrW
            have k4 := setB (o := j * 2) (v := .slice A9 n9 c9) (keepW HB9.out HX.out.2.2.2.2) hgrW
            have l0 := setB (o := j * 2) (v := .slice A9 n9 c9) (keepW HB9.out HU.out.1) hgrU
            have l1 := setB (o := j * 2) (v := .slice A9 n9 c9) (keepW HB9.out HU.out.2.1) hgrU
            have l2 := setB (o := j * 2) (v := .slice A9 n9 c9) (keepW HB9.out HU.out.2.2.1) hgrU
            have l3 := setB (o := j * 2) (v := .slice A9 n9 c9) (keepW HB9.out HU.out.2.2.2.1) hgrU
            have l4 := setB (o := j * 2) (v := .slice A9 n9 c9) (keepW HB9.out HU.out.2.2.2.2) hgrU
            have vf : ∀ i, w9.frozen? ⟨w.heap.size + 1 + 1, i, none⟩ = false := fun i => ((seenBk _ (by omega) HB9.out).2.1 i).trans (HUF.out i)
            have h9 := HB9.out.size
            have HB99 := hide (HB3.out.trans (HB9.out.mono HB3.out.size))
            clear p9 pf9 HO9 HB9 HK HLT HLD HP HPF uf
            go_wp2_with fail
            rw [hE.out]
            refine bodyPost_ret (v := .tuple #[.agg #[.slice Ac t.cols.length cc, .int .i64 t.head, .int .i64 t.foot, .slice (some ⟨gr, 0, none⟩) t.rows.length cr, .int .i64 t.gap], .bool true]) (by simp [results, Tryd.results32, go_sem, *]) rfl ⟨_, _, rfl, (HV1.out.keep (fun b hb1 hb2 => ?_)).mono ?hlo ?hhi, ?_⟩
            case hlo => omega
            case hhi => simp
            · refine (heap_set _ _ _ _ (show b ≠ w.heap.size + 1 + 1 by omega)).trans ?_
              refine (heap_set _ _ _ _ (show b ≠ w.heap.size + 1 + 1 by omega)).trans ?_
              refine (heap_set _ _ _ _ (show b ≠ w.heap.size + 1 + 1 by omega)).trans ?_
              refine (heap_set _ _ _ _ (show b ≠ w.heap.size + 1 + 1 by omega)).trans ?_
              exact heap_set _ _ _ _ (show b ≠ w.heap.size + 1 + 1 by omega)
            · have h := HB99.out
              (repeat' (with_reducible first | exact h | refine balloc ?_ _ | refine bset ?_ ?_ _)) <;> first | (simp; done) | (simp; omega)
        · go_simp
          refine hK.out _ _ (fun _ => HK.out _ (by (repeat' (with_reducible first | exact brefl _ | refine bdrew ?_ | refine balloc ?_ _)))) ?_
          clear hK K
          try simp only [Act.put, List.setIfInBounds_toArray, List.set_cons_zero, List.set_cons_succ]
          refine wpAnyT_one (i := 3) (by kernel_rfl) rfl (fun K hK => ?_)
          go_simp
          refine hK.out _ _ (fun _ => HK.out _ (by (repeat' (with_reducible first | exact brefl _ | refine bdrew ?_ | refine balloc ?_ _)))) ?_
          clear hK K
          try simp only [Act.put, List.setIfInBounds_toArray, List.set_cons_zero, List.set_cons_succ]
          refine wpAnyT_one (i := 7) (by kernel_rfl) rfl (fun K hK => ?_)
          refine step_append_any _ rfl (.tmp 62) (.tmp 65) 82 rfl w3.heap.size 65 j0 _ 11 96 und_cloneCells hj0 hj1 hj2 hj3 rfl (by decide) (.slice (some ⟨w3.heap.size + 1, 0, none⟩) 0 0) 0 [] ?_ (World.ownsRow.drew (made_at (base := w3.heap.size) (w3.alloc (.cells #[.string x.t, .int .i64 x.c, .int .i64 x.r, .int .i64 x.top.s, .int .i64 x.top.w, .int .i64 x.right.s, .int .i64 x.right.w, .int .i64 x.bot.s, .int .i64 x.bot.w, .int .i64 x.left.s, .int .i64 x.left.w] 65)) (w3.heap.size + 1) (by simp))) cellE (t.rows[j].cs.take i) (.slice (some ⟨bv, ov, none⟩) i cv) (by (simp [Act.eval]; done)) (HLT.out.below (by (repeat' (with_reducible first | exact brefl _ | refine bdrew ?_ | refine balloc ?_ _)))) (flatMap_length cellE 11 (fun _ => rfl) _) (cells_one _) (by unfold maxLen; have := List.length_take_le i t.rows[j].cs; omega) (by have := List.length_take_le i t.rows[j].cs; omega) (Below.size (by (repeat' (with_reducible first | exact brefl _ | refine bdrew ?_ | refine balloc ?_ _)))) ?_
          (focus (simp [Act.eval]; done))
          intro v5 w5 ho5 hg5
          have hb5 : Below w3.heap.size w3 w5 := made_below (base := w3.heap.size) (E := 65) (k := 11) (by (repeat' (with_reducible first | exact brefl _ | refine bdrew ?_ | refine balloc ?_ _))) (World.ownsRow.drew (made_at (base := w3.heap.size) (w3.alloc (.cells #[.string x.t, .int .i64 x.c, .int .i64 x.r, .int .i64 x.top.s, .int .i64 x.top.w, .int .i64 x.right.s, .int .i64 x.right.w, .int .i64 x.bot.s, .int .i64 x.bot.w, .int .i64 x.left.s, .int .i64 x.left.w] 65)) (w3.heap.size + 1) (by simp))) (Nat.le_refl _) hg5
          rw [Nat.zero_add, List.nil_append, HTL.out] at ho5
          obtain ⟨A5, c5, rfl⟩ := own_form0 ho5
          have HNC : Hid (∀ q u, (cellE x)[q]? = some u → w5.cell? ((⟨w3.heap.size, 0, none⟩ : Addr).add q) = some u) := fun q u hq => by
            rw [Addr.add_lit, Nat.zero_add]
            exact (World.cell?_of_block (hg5.block w3.heap.size (by simp; omega) (fun e => by simp [Value.ownBlock] at e))).trans (keepW (balloc (brefl (w3.alloc (.cells #[.string x.t, .int .i64 x.c, .int .i64 x.r, .int .i64 x.top.s, .int .i64 x.top.w, .int .i64 x.right.s, .int .i64 x.right.w, .int .i64 x.bot.s, .int .i64 x.bot.w, .int .i64 x.left.s, .int .i64 x.left.w] 65))) (.cells #[] 65)) (cell_new2 w3 w3.heap.size _ _ q u rfl (by simpa [cellE] using hq)))
          have HOC := hide ho5
          have HBC := hide hb5
          clear ho5 hg5 hb5
          refine hK.out _ _ (fun _ => HK.out _ HBC.out) ?_
          clear hK K
          try simp only [Act.put, List.setIfInBounds_toArray, List.set_cons_zero, List.set_cons_succ]
          refine wpAnyT_one (i := 10) (by kernel_rfl) rfl (fun K hK => ?_)
          refine step_append_own _ rfl (.tmp 66) (.tmp 68) 82 rfl w3.heap.size 65 j0 _ 11 96 und_cloneCells hj0 hj1 hj2 hj3 rfl (by decide) (.slice A5 i c5) i ((t.rows[j].cs.take i).flatMap cellE) ?_ HOC.out ⟨w3.heap.size, 0, none⟩ 1 1 (cellE x) (by (simp [Act.eval]; done)) rfl HNC.out (cell_one x) (by unfold maxLen; have := List.length_take_le i t.rows[j].cs; omega) (by have := List.length_take_le i t.rows[j].cs; omega) HBC.out.size ?_
          (focus (simp [Act.eval]; done))
          intro v8 w8 ho8 hg8 hn8
          have hb8 := made_below HBC.out HOC.out (Nat.le_refl _) hg8
          obtain ⟨A8, c8, rfl⟩ := own_form0 ho8
          have HO8 := hide ho8
          have HB8 := hide hb8
          clear ho8 hg8 hn8 hb8 HBC HOC HNC
          refine hK.out _ _ (fun _ => HK.out _ HB8.out) ?_
          clear hK K
          try simp only [Act.put, List.setIfInBounds_toArray, List.set_cons_zero, List.set_cons_succ]
          refine wpAnyT_one (i := 14) (by kernel_rfl) rfl (fun K hK => ?_)
          refine step_append_any _ rfl (.tmp 69) (.tmp 72) 82 rfl w3.heap.size 65 j0 _ 11 96 und_cloneCells hj0 hj1 hj2 hj3 rfl (by decide) (.slice A8 (i + 1) c8) (i + 1) ((t.rows[j].cs.take i).flatMap cellE ++ cellE x) ?_ HO8.out cellE (t.rows[j].cs.drop i) (.slice (some A2) (t.rows[j].cs.length - i) (cv - i)) (by (simp [Act.eval]; done)) (HLD.out.below HB8.out) (flatMap_length cellE 11 (fun _ => rfl) _) (cells_one _) (by unfold maxLen; have := List.length_take_le i t.rows[j].cs; have := List.length_drop (l := t.rows[j].cs) (i := i); omega) (by have := List.length_take_le i t.rows[j].cs; have := List.length_drop (l := t.rows[j].cs) (i := i); omega) HB8.out.size ?_
          (focus (simp [Act.eval]; done))
          intro v9 w9 ho9 hg9
          have hb9 := made_below HB8.out HO8.out (Nat.le_refl _) hg9
          obtain ⟨n9, hn9⟩ : ∃ n, n = (t.rows[j].cs.take i ++ [x] ++ t.rows[j].cs.drop i).length := ⟨_, rfl⟩
          rw [show i + 1 + (t.rows[j].cs.drop i).length = n9 by rw [hn9]; simp; omega, show (t.rows[j].cs.take i).flatMap cellE ++ cellE x ++ (t.rows[j].cs.drop i).flatMap cellE = (t.rows[j].cs.take i ++ [x] ++ t.rows[j].cs.drop i).flatMap cellE by simp [List.flatMap_append]] at ho9
          have HN9 := hide hn9
          clear hn9
          obtain ⟨A9, c9, rfl⟩ := own_form0 ho9
          have HO9 := hide ho9
          have HB9 := hide hb9
          clear ho9 hg9 hb9 HO8 HB8
          refine hK.out _ _ (fun _ => HK.out _ HB9.out) ?_
          clear hK K
          try simp only [Act.put, List.setIfInBounds_toArray, List.set_cons_zero, List.set_cons_succ]
          have hS9 := HK.out _ HB9.out
          refine' wpAnyT_take [16, 17] (i := 15) (v := _) rfl (by kernel_rfl) (by kernel_rfl) (by kernel_rfl) (by kernel_rfl) (by kernel_rfl) (by kernel_rfl) (fun _ _ _ h => h) (Or.inl ⟨by rfl, ?hz15⟩) hS9 ?_
          case hz15 => (intro w hSw; (try dsimp only at hSw); go_simp) <;> with_reducible rfl
          try simp only [Act.put, List.setIfInBounds_toArray, List.set_cons_zero, List.set_cons_succ]
          refine' wpAnyT_take [17] (i := 16) (v := _) rfl (by kernel_rfl) (by kernel_rfl) (by kernel_rfl) (by kernel_rfl) (by kernel_rfl) (by kernel_rfl) (fun _ _ _ h => h) (Or.inl ⟨by rfl, ?hz16⟩) hS9 ?_
          case hz16 => (intro w hSw; (try dsimp only at hSw); go_simp) <;> with_reducible rfl
          try simp only [Act.put, List.setIfInBounds_toArray, List.set_cons_zero, List.set_cons_succ]
          obtain ⟨vj, hvj⟩ := HP.out
          have p9 := keepW HB9.out hvj
          have pf9 : w9.frozen? ⟨gr, j * 2, none⟩ = false := ((seenBk gr (by omega) HB9.out).2.1 _).trans HPF.out
          clear hS9 hSd hvj
          refine wpAnyT_one (i := 17) (by kernel_rfl) rfl (fun K hK => ?_)
          go_simp
          refine hK.out _ _ (fun h => absurd rfl h) ?_
          clear hK K
          try simp only [Act.put, List.setIfInBounds_toArray, List.set_cons_zero, List.set_cons_succ]
          refine wpAnyT_done (by kernel_rfl) ?_ _
          have HV1 := hide (FINISH.out A9 n9 c9 w9 HN9.out HO9.out HB9.out)
          have k0 := setB (o := j * 2) (v := .slice A9 n9 c9) (keepW HB9.out HX.out.1) hgrW
          have k1 := setB (o := j * 2) (v := .slice A9 n9 c9) (keepW HB9.out HX.out.2.1) hgrW
          have k2 := setB (o := j * 2) (v := .slice A9 n9 c9) (keepW HB9.out HX.out.2.2.1) hgrW
          have k3 := setB (o := j * 2) (v := .slice A9 n9 c9) (keepW HB9.out HX.out.2.2.2.1) hgrW
          have k4 := setB (o := j * 2) (v := .slice A9 n9 c9) (keepW HB9.out HX.out.2.2.2.2) hgrW
          have l0 := setB (o := j * 2) (v := .slice A9 n9 c9) (keepW HB9.out HU.out.1) hgrU
          have l1 := setB (o := j * 2) (v := .slice A9 n9 c9) (keepW HB9.out HU.out.2.1) hgrU
          have l2 := setB (o := j * 2) (v := .slice A9 n9 c9) (keepW HB9.out HU.out.2.2.1) hgrU
          have l3 := setB (o := j * 2) (v := .slice A9 n9 c9) (keepW HB9.out HU.out.2.2.2.1) hgrU
          have l4 := setB (o := j * 2) (v := .slice A9 n9 c9) (keepW HB9.out HU.out.2.2.2.2) hgrU
          have vf : ∀ i, w9.frozen? ⟨w.heap.size + 1 + 1, i, none⟩ = false := fun i => ((seenBk _ (by omega) HB9.out).2.1 i).trans (HUF.out i)
          have h9 := HB9.out.size
          have HB99 := hide (HB3.out.trans (HB9.out.mono HB3.out.size))
          clear p9 pf9 HO9 HB9 HK HLT HLD HP HPF uf
          go_wp2_with fail
          rw [hE.out]
          refine bodyPost_ret (v := .tuple #[.agg #[.slice Ac t.cols.length cc, .int .i64 t.head, .int .i64 t.foot, .slice (some ⟨gr, 0, none⟩) t.rows.length cr, .int .i64 t.gap], .bool true]) (by simp [results, Tryd.results32, go_sem, *]) rfl ⟨_, _, rfl, (HV1.out.keep (fun b hb1 hb2 => ?_)).mono ?hlo ?hhi, ?_⟩
          case hlo => omega
          case hhi => simp
          · refine (heap_set _ _ _ _ (show b ≠ w.heap.size + 1 + 1 by omega)).trans ?_
            refine (heap_set _ _ _ _ (show b ≠ w.heap.size + 1 + 1 by omega)).trans ?_
            refine (heap_set _ _ _ _ (show b ≠ w.heap.size + 1 + 1 by omega)).trans ?_
            refine (heap_set _ _ _ _ (show b ≠ w.heap.size + 1 + 1 by omega)).trans ?_
            exact heap_set _ _ _ _ (show b ≠ w.heap.size + 1 + 1 by omega)
          · have h := HB99.out
            (repeat' (with_reducible first | exact h | refine balloc ?_ _ | refine bset ?_ ?_ _)) <;> first | (simp; done) | (simp; omega)
theorem spec_EdtPut (t : Tbl) (A : Option Addr) (c : Nat) (A' : Option Addr) (c' : Nat) (row at' : Int) (x : TCell) (w : World) (hs : x.t.size ≤ 1048576) (hc : Rd colR w A t.cols) (hr : Rd rowR w A' t.rows) (hcl : Lies colE w (.slice A t.cols.length c) t.cols) (hro : Rd rowO w A' t.rows) :
    Calls Tryd.prog 32 #[.agg #[.slice A t.cols.length c, .int .i64 t.head, .int .i64 t.foot, .slice A' t.rows.length c', .int .i64 t.gap], .int .i64 row, .int .i64 at', .agg #[.string x.t, .int .i64 x.c, .int .i64 x.r, .int .i64 x.top.s, .int .i64 x.top.w, .int .i64 x.right.s, .int .i64 x.right.w, .int .i64 x.bot.s, .int .i64 x.bot.w, .int .i64 x.left.s, .int .i64 x.left.w]] w (EdtPost (edtPut t row at' x) w) := by
  cases hok : tblOk t with
  | false => exact spec_EdtPut0 t A c A' c' row at' x w hok hc hr
  | true => exact spec_EdtPut1 t A c A' c' row at' x w hok hs hc hr hcl hro
end Go.Proofs.YtfcogogpioeggaaDoor
