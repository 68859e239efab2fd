import Derived.Test.YtfcogogpioeggaaDoorO
import Derived.Test.YtfcogogpioeggaaDoorG1
namespace Go.Proofs.YtfcogogpioeggaaDoor
open Go.RowKit
/- Whether a width is said of all columns: the program's and the reference's. -/
theorem fixed_all {t : Tbl} {n : Int} (h : ∀ j : Nat, (j : Int) < n → decide ((saidOf t j).k = 1) = true) : fixedTo t n = true := by
  unfold fixedTo
  rw [List.all_eq_true]
  intro x hx
  exact h x (by have := List.mem_range.1 hx; omega)
theorem fixed_not {t : Tbl} {n : Int} {j : Nat} (hj : (j : Int) < n) (h : ¬ (saidOf t j).k = 1) : fixedTo t n = false := by
  unfold fixedTo
  rw [List.all_eq_false]
  exact ⟨j, List.mem_range.2 (by omega), by simpa using h⟩
theorem GIn.rows {m : Nat} {t : Tbl} (h : tblOk t = true) : GIn 40 (gridL m t) := by
  obtain ⟨⟨p1, p2⟩, p3, _⟩ := tblOk_parts h
  have hcells : ∀ (r : Nat) (hr : r < t.rows.length) (xs : List TCell) (i n : Nat) (S : List GCell × Int), (∀ x ∈ xs, cellOk x = true) → i + xs.length ≤ 5 → GIn n S → GIn (n + xs.length) (cellsSt m t r xs i S) := by
    intro r hr xs
    induction xs with
    | nil => intro i n S _ _ hS; exact hS
    | cons x xs ih =>
      intro i n S hx hi hS
      simp only [List.length_cons] at hi ⊢
      have hx0 := cellOk_parts (hx x (List.mem_cons_self ..))
      have hb := rows_bounds h hr i x hx0.2
      have := ih (i + 1) (n + 1) _ (fun y hy => hx y (List.mem_cons_of_mem _ hy)) (by omega) (hS.step m t r i x (by omega) (by omega) hx0.1 ⟨by omega, by omega⟩)
      rw [show n + (xs.length + 1) = n + 1 + xs.length by omega]
      exact this
  have hrows : ∀ (k : Nat) (S : List GCell × Int), k ≤ t.rows.length → GIn (5 * (t.rows.length - k)) S → GIn (5 * t.rows.length) (rowsSt m t (t.rows.drop (t.rows.length - k)) (t.rows.length - k) S) := by
    intro k
    induction k with
    | zero => intro S _ hS; rw [Nat.sub_zero, List.drop_length]; exact hS
    | succ k ih =>
      intro S hk hS
      have hlt : t.rows.length - (k + 1) < t.rows.length := by omega
      rw [List.drop_eq_getElem_cons hlt, rowsSt]
      have hy := (tblOk_parts h).2.2.2.2.2.2 _ (List.getElem_mem hlt)
      have h1 := hcells _ hlt t.rows[t.rows.length - (k + 1)].cs 0 _ S hy.2 (by have := hy.1; omega) hS
      have h2 := h1.le (n' := 5 * (t.rows.length - k)) (by have := hy.1; omega)
      have h3 := ih _ (by omega) h2
      rw [show t.rows.length - k = t.rows.length - (k + 1) + 1 by omega] at h3
      exact h3
  have h0 := hrows t.rows.length (grid0 t) (Nat.le_refl _) (by rw [Nat.sub_self]; exact GIn.zero t p3)
  rw [Nat.sub_self] at h0
  exact GIn.le h0 (by omega)
theorem grid_cols {m : Nat} {t : Tbl} (h : tblOk t = true) : 1 ≤ (gridL m t).2 ∧ (gridL m t).2 ≤ 200 := by
  have := (GIn.rows (m := m) h).2.2
  omega
theorem fieldG (a b : Int) (A : Option Addr) (l c : Nat) (W : World) : (Instr.field 45 (.agg #[.int .i64 a, .int .i64 b, .slice A l c]) 1).run Tryd.prog W = .ok (.int .i64 b) W := by kernel_rfl
theorem fieldC (a b : Int) (W : World) : (Instr.field 28 (.agg #[.int .i64 a, .int .i64 b]) 0).run Tryd.prog W = .ok (.int .i64 a) W := by kernel_rfl
set_option maxRecDepth 100000 in
set_option maxHeartbeats 2000000 in
theorem impl_ColAllFixed (t : Tbl) (A : Option Addr) (c : Nat) (A' : Option Addr) (c' : Nat) (w : World) (hw : Base w) (hc : Rd colR w A t.cols) (hr : Rd rowR w A' t.rows) :
    Calls Tryd.prog 18 #[.agg #[.slice A t.cols.length c, .int .i64 t.head, .int .i64 t.foot, .slice A' t.rows.length c', .int .i64 t.gap]] w (fun e w' => e = .returned (.bool (allFixed 400 t)) ∧ Below w.heap.size w w') := by
  have hT := fun (W : World) (h : Below w.heap.size w W) => impl_TblOk t A c A' c' W (hw.below h) (hc.below h) (hr.below h)
  cases hok : tblOk t with
  | false =>
    rw [hok] at hT
    have hres : allFixed 400 t = false := by unfold allFixed; rw [hok]; rfl
    rw [hres]
    clear hres hok hc hr hw
    go_enter Tryd.func18, Tryd.ntmps18
    go_wp2_with fail
    refine (hT _ (balloc (brefl _) _)).mono ?_
    rintro e w1 ⟨rfl, hb⟩
    go_wp2_with fail
    go_ret
    exact ⟨rfl, step (balloc (brefl _) _) hb⟩
  | true =>
    have hG := fun (W : World) (h : Below w.heap.size w W) => impl_GrdOf t A c A' c' W (hw.below h) (hc.below h) (hr.below h)
    have hS := fun (W : World) (h : Below w.heap.size w W) (col : Int) => impl_said t A c A' c' col W (hc.below h)
    rw [hok] at hT
    have hgr : gridOf 400 t = ⟨t.rows.length, (gridL 400 t).2, (gridL 400 t).1⟩ := by unfold gridOf; rw [if_pos hok]
    rw [hgr] at hG
    have hres : Hid (allFixed 400 t = fixedTo t (gridL 400 t).2) := by show allFixed 400 t = _; unfold allFixed; rw [hok]; rfl
    obtain ⟨hn1, hn2⟩ := grid_cols (m := 400) hok
    rw [hres.out]
    clear hgr hok hc hr hw hres
    generalize gridL 400 t = GG at hG hn1 hn2 ⊢
    obtain ⟨GL, GN⟩ := GG
    dsimp only at hG hn1 hn2 ⊢
    obtain ⟨n, rfl⟩ := Int.eq_ofNat_of_zero_le (show 0 ≤ GN by omega)
    go_enter Tryd.func18, Tryd.ntmps18
    go_wp2_with fail
    refine (hT _ (balloc (brefl _) _)).mono ?_
    rintro e w1 ⟨rfl, hb⟩
    obtain ⟨c0, f0, s0⟩ := seenBk w.heap.size (by first | (simp; omega) | simp [*]) hb
    have HB := step (balloc (brefl w) _) hb
    clear hT
    go_wp2_with fail
    refine (hG _ HB).mono ?_
    rintro e w2 ⟨GA, gc, rfl, _, hb2⟩
    obtain ⟨k0, l0, m0⟩ := seenBk w.heap.size (by simp [*]) hb2
    have HB2 := step HB hb2
    have y0 : w2.cell? ⟨w.heap.size, 0, none⟩ = some (.slice A t.cols.length c) := by simp [k0, c0]
    have y1 : w2.cell? ⟨w.heap.size, 1, none⟩ = some (.int .i64 t.head) := by simp [k0, c0]
    have y2 : w2.cell? ⟨w.heap.size, 2, none⟩ = some (.int .i64 t.foot) := by simp [k0, c0]
    have y3 : w2.cell? ⟨w.heap.size, 3, none⟩ = some (.slice A' t.rows.length c') := by simp [k0, c0]
    have y4 : w2.cell? ⟨w.heap.size, 4, none⟩ = some (.int .i64 t.gap) := by simp [k0, c0]
    clear k0 l0 c0 f0 hG
    have hfg := fieldG
    have hfc := fieldC
    go_wp2_with fail
    go_loopg [10] n (fun gg s10 wr => ∃ kk : Nat, kk ≤ n ∧ n - kk ≤ gg ∧ s10 = .int .i64 kk ∧ Aside (Below w2.heap.size w2 wr) ∧ Aside (∀ j : Nat, j < kk → decide ((saidOf t j).k = 1) = true))
    case atStart => exact ⟨0, Nat.zero_le _, by omega, rfl, brefl _, fun j hj => absurd hj (Nat.not_lt_zero _)⟩
    case round =>
      obtain ⟨kk, hkk, hg, rfl, BW, AA⟩ := hrel
      by_cases hlt : kk < n
      · have hltz : (kk : Int) < (n : Int) := by omega
        have z0 := keepC BW.out y0
        have z1 := keepC BW.out y1
        have z2 := keepC BW.out y2
        have z3 := keepC BW.out y3
        have z4 := keepC BW.out y4
        have hcall := hS wr (step HB2 BW.out) kk (by omega) (by omega)
        by_cases hq : (saidOf t kk).k = 1
        · have HQ := hide hq
          rw [hq] at hcall
          clear hq
          go_wp2_with fail
          refine hcall.mono ?_
          rintro e w' ⟨rfl, hb'⟩
          go_wp2_with fail
          go_roundg (n - (kk + 1))
          case measure => omega
          case rel =>
            refine ⟨kk + 1, by omega, by omega, by go_num, step BW.out hb', (show Aside _ from fun j hj => ?_)⟩
            by_cases e : j = kk
            · subst e; exact decide_eq_true HQ.out
            · exact AA.out j (by omega)
        · go_wp2_with fail
          refine hcall.mono ?_
          rintro e w' ⟨rfl, hb'⟩
          go_wp2_with fail
          go_ret
          exact ⟨by rw [fixed_not hltz hq]; rfl, step (step HB2 BW.out) hb'⟩
      · have hltz : ¬ (kk : Int) < (n : Int) := by omega
        go_wp2_with fail
        go_ret
        exact ⟨by rw [fixed_all (fun j hj => AA.out j (by omega))]; rfl, step HB2 BW.out⟩
set_option maxRecDepth 100000 in
set_option maxHeartbeats 2000000 in
theorem spec_ColAllFixed (t : Tbl) (A : Option Addr) (c : Nat) (A' : Option Addr) (c' : Nat) (w : World) (hc : Rd colR w A t.cols) (hr : Rd rowR w A' t.rows) :
    Calls Tryd.prog 19 #[.agg #[.slice A t.cols.length c, .int .i64 t.head, .int .i64 t.foot, .slice A' t.rows.length c', .int .i64 t.gap]] w (fun e w' => e = .returned (.bool (allFixed 90 t)) ∧ Below w.heap.size w w') := by
  have hT := fun (W : World) (h : Below w.heap.size w W) => spec_TblOk t A c A' c' W (hc.below h) (hr.below h)
  cases hok : tblOk t with
  | false =>
    rw [hok] at hT
    have hres : allFixed 90 t = false := by unfold allFixed; rw [hok]; rfl
    rw [hres]
    clear hres hok hc hr
    go_enter Tryd.func19, Tryd.ntmps19
    go_wp2_with fail
    refine (hT _ (balloc (brefl _) _)).mono ?_
    rintro e w1 ⟨rfl, hb⟩
    go_wp2_with fail
    go_ret
    exact ⟨rfl, step (balloc (brefl _) _) hb⟩
  | true =>
    have hG := fun (W : World) (h : Below w.heap.size w W) => spec_l3Of t A c A' c' W hok (hc.below h) (hr.below h)
    have hS := fun (W : World) (h : Below w.heap.size w W) (col : Int) => spec_l5Said t A c A' c' col W (hc.below h)
    rw [hok] at hT
    have hres : Hid (allFixed 90 t = fixedTo t (gridL 90 t).2) := by show allFixed 90 t = _; unfold allFixed; rw [hok]; rfl
    obtain ⟨hn1, hn2⟩ := grid_cols (m := 90) hok
    rw [hres.out]
    clear hok hc hr hres
    generalize gridL 90 t = GG at hG hn1 hn2 ⊢
    obtain ⟨GL, GN⟩ := GG
    dsimp only at hG hn1 hn2 ⊢
    obtain ⟨n, rfl⟩ := Int.eq_ofNat_of_zero_le (show 0 ≤ GN by omega)
    go_enter Tryd.func19, Tryd.ntmps19
    go_wp2_with fail
    refine (hT _ (balloc (brefl _) _)).mono ?_
    rintro e w1 ⟨rfl, hb⟩
    obtain ⟨c0, f0, s0⟩ := seenBk w.heap.size (by first | (simp; omega) | simp [*]) hb
    have HB := step (balloc (brefl w) _) hb
    clear hT
    go_wp2_with fail
    refine (hG _ HB).mono ?_
    rintro e w2 ⟨GA, gc, rfl, _, hb2⟩
    obtain ⟨k0, l0, m0⟩ := seenBk w.heap.size (by simp [*]) hb2
    have HB2 := step HB hb2
    have y0 : w2.cell? ⟨w.heap.size, 0, none⟩ = some (.slice A t.cols.length c) := by simp [k0, c0]
    have y1 : w2.cell? ⟨w.heap.size, 1, none⟩ = some (.int .i64 t.head) := by simp [k0, c0]
    have y2 : w2.cell? ⟨w.heap.size, 2, none⟩ = some (.int .i64 t.foot) := by simp [k0, c0]
    have y3 : w2.cell? ⟨w.heap.size, 3, none⟩ = some (.slice A' t.rows.length c') := by simp [k0, c0]
    have y4 : w2.cell? ⟨w.heap.size, 4, none⟩ = some (.int .i64 t.gap) := by simp [k0, c0]
    clear k0 l0 c0 f0 hG
    have hfg := fieldG
    have hfc := fieldC
    go_wp2_with fail
    go_loopg [4] n (fun gg s4 wr => ∃ kk : Nat, kk ≤ n ∧ n - kk ≤ gg ∧ s4 = .int .i64 kk ∧ Aside (Below w2.heap.size w2 wr) ∧ wr.cell? ⟨w2.heap.size, 1, none⟩ = some (.int .i64 n) ∧ w2.heap.size < wr.heap.size ∧ Aside (∀ j : Nat, j < kk → decide ((saidOf t j).k = 1) = true))
    case atStart => exact ⟨0, Nat.zero_le _, by omega, rfl, balloc (brefl _) _, by simp, by simp, fun j hj => absurd hj (Nat.not_lt_zero _)⟩
    case round =>
      obtain ⟨kk, hkk, hg, rfl, BW, b1, bl, AA⟩ := hrel
      by_cases hlt : kk < n
      · have hltz : (kk : Int) < (n : Int) := by omega
        have z0 := keepC BW.out y0
        have z1 := keepC BW.out y1
        have z2 := keepC BW.out y2
        have z3 := keepC BW.out y3
        have z4 := keepC BW.out y4
        have hcall := hS wr (step HB2 BW.out) kk (by omega)
        by_cases hq : (saidOf t kk).k = 1
        · have HQ := hide hq
          rw [hq] at hcall
          clear hq
          go_wp2_with fail
          refine hcall.mono ?_
          rintro e w' ⟨rfl, hb'⟩
          have b1 := keepC hb' b1
          have bl := Nat.lt_of_lt_of_le bl hb'.size
          go_wp2_with fail
          go_roundg (n - (kk + 1))
          case measure => omega
          case rel =>
            refine ⟨kk + 1, by omega, by omega, by go_num, step BW.out hb', b1, bl, (show Aside _ from fun j hj => ?_)⟩
            by_cases e : j = kk
            · subst e; exact decide_eq_true HQ.out
            · exact AA.out j (by omega)
        · go_wp2_with fail
          refine hcall.mono ?_
          rintro e w' ⟨rfl, hb'⟩
          go_wp2_with fail
          go_ret
          exact ⟨by rw [fixed_not hltz hq]; rfl, step (step HB2 BW.out) hb'⟩
      · have hltz : ¬ (kk : Int) < (n : Int) := by omega
        go_wp2_with fail
        go_ret
        exact ⟨by rw [fixed_all (fun j hj => AA.out j (by omega))]; rfl, step HB2 BW.out⟩
end Go.Proofs.YtfcogogpioeggaaDoor
