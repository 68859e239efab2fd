import Derived.Test.YtfcogogpioeggaaDoorKw
import Derived.IntWalk
namespace Go.Proofs.YtfcogogpioeggaaDoor
open Go.RowKit
/- The reference's EdtTake. -/
theorem setB {w : World} {B b o o2 : Nat} {u v : Value} (h : w.cell? ⟨B, o2, none⟩ = some u) (hne : b ≠ B) : (w.setCell ⟨b, o, none⟩ v).cell? ⟨B, o2, none⟩ = some u := setO4 h (fun e => hne (by injection e))
set_option maxRecDepth 100000 in
set_option maxHeartbeats 4000000 in
theorem spec_EdtTake0 (t : Tbl) (A : Option Addr) (c : Nat) (A' : Option Addr) (c' : Nat) (row at' : Int) (w : World) (hok : tblOk t = false) (hc : Rd colR w A t.cols) (hr : Rd rowR w A' t.rows) :
    Calls Tryd.prog 27 #[.agg #[.slice A t.cols.length c, .int .i64 t.head, .int .i64 t.foot, .slice A' t.rows.length c', .int .i64 t.gap], .int .i64 row, .int .i64 at'] w (EdtPost (edtTake t row at') w) := by
  have hT := fun (W : World) (h : Below w.heap.size w W) => spec_TblOk t A c A' c' W (hc.below h) (hr.below h)
  rw [hok] at hT
  have hres : edtTake t row at' = (⟨[], 0, 0, [], 0⟩, false) := by unfold edtTake; rw [if_neg (by simp [hok])]
  rw [hres]
  clear hres hc hr hok
  go_enter Tryd.func27, Tryd.ntmps27
  go_wp2_with fail
  refine (hT _ (balloc (balloc (brefl _) _) _)).mono ?_
  rintro e w1 ⟨rfl, hb⟩
  obtain ⟨c1, f1, s1⟩ := seenBk (w.heap.size + 1) (by first | (simp; omega) | simp [*]) hb
  have HB := step (balloc (balloc (brefl w) _) _) hb
  go_wp2_with fail
  refine bodyPost_ret (v := .tuple #[.agg #[.slice none 0 0, .int .i64 0, .int .i64 0, .slice none 0 0, .int .i64 0], .bool false]) (by simp [results, Tryd.results27, go_sem, *]) rfl ⟨_, _, rfl, OwnTbl.empty _ _ _ _ _ _, ?_⟩
  (repeat' (with_reducible first | exact HB | refine bset ?_ ?_ _)) <;> first | (simp; done) | (simp; omega)
set_option maxRecDepth 100000 in
set_option maxHeartbeats 4000000 in
theorem spec_EdtTake1 (t : Tbl) (A : Option Addr) (c : Nat) (A' : Option Addr) (c' : Nat) (row at' : Int) (w : World) (hok : tblOk t = true) (hc : Rd colR w A t.cols) (hr : Rd rowR w A' t.rows) (hcl : Lies colE w (.slice A t.cols.length c) t.cols) (hro : Rd rowO w A' t.rows) :
    Calls Tryd.prog 27 #[.agg #[.slice A t.cols.length c, .int .i64 t.head, .int .i64 t.foot, .slice A' t.rows.length c', .int .i64 t.gap], .int .i64 row, .int .i64 at'] w (EdtPost (edtTake t row at') w) := by
  have hT := fun (W : World) (h : Below w.heap.size w W) => spec_TblOk t A c A' c' W (hc.below h) (hr.below h)
  rw [hok] at hT
  have hCp := fun (W : World) (h : Below w.heap.size w W) => l2Copy t A c A' c' W (hcl.below h) (hro.below h) (small_of_ok hok)
  have HOK := hide hok
  have l2 := hr.1
  have hsm := (small_of_ok hok).2.1
  clear hok hc hcl
  go_enter Tryd.func27, Tryd.ntmps27
  go_wp2_with fail
  refine (hT _ (balloc (balloc (brefl _) _) _)).mono ?_
  rintro e w1 ⟨rfl, hb⟩
  obtain ⟨c0, f0, s0⟩ := seenBk w.heap.size (by first | (simp; omega) | simp [*]) hb
  obtain ⟨c1, f1, s1⟩ := seenBk (w.heap.size + 1) (by first | (simp; omega) | simp [*]) hb
  have HB := step (balloc (balloc (brefl w) _) _) hb
  go_wp2_with fail
  refine (hCp _ HB).mono ?_
  rintro e w2 ⟨vc, vr, rfl, hown, hb2⟩
  have y0 : w2.cell? ⟨w.heap.size, 0, none⟩ = some (.slice A t.cols.length c) := keepW hb2 (by simp [c0])
  have y1 : w2.cell? ⟨w.heap.size, 1, none⟩ = some (.int .i64 t.head) := keepW hb2 (by simp [c0])
  have y2 : w2.cell? ⟨w.heap.size, 2, none⟩ = some (.int .i64 t.foot) := keepW hb2 (by simp [c0])
  have y3 : w2.cell? ⟨w.heap.size, 3, none⟩ = some (.slice A' t.rows.length c') := keepW hb2 (by simp [c0])
  have y4 : w2.cell? ⟨w.heap.size, 4, none⟩ = some (.int .i64 t.gap) := keepW hb2 (by simp [c0])
  have u0 : w2.cell? ⟨w.heap.size + 1, 0, none⟩ = some (.slice none 0 0) := keepW hb2 (by simp [c1])
  have u1 : w2.cell? ⟨w.heap.size + 1, 1, none⟩ = some (.int .i64 0) := keepW hb2 (by simp [c1])
  have u2 : w2.cell? ⟨w.heap.size + 1, 2, none⟩ = some (.int .i64 0) := keepW hb2 (by simp [c1])
  have u3 : w2.cell? ⟨w.heap.size + 1, 3, none⟩ = some (.slice none 0 0) := keepW hb2 (by simp [c1])
  have u4 : w2.cell? ⟨w.heap.size + 1, 4, none⟩ = some (.int .i64 0) := keepW hb2 (by simp [c1])
  have uf : ∀ i, w2.frozen? ⟨w.heap.size + 1, i, none⟩ = false := fun i => ((seenBk _ s1 hb2).2.1 i).trans (by simp [f1])
  have hul : w.heap.size + 1 < w2.heap.size := Nat.lt_of_lt_of_le s1 hb2.size
  have hwl : w.heap.size < w2.heap.size := by omega
  have HB2 := hide (step HB hb2)
  have HS1 := hide (show w.heap.size + 2 ≤ w1.heap.size from s1)
  have HOWN := hide hown
  obtain ⟨Ac, cc, hvc⟩ := hown.1.form
  obtain ⟨_, vs, hra⟩ := hown
  obtain ⟨Ar, cr, hvr⟩ := hra.len
  subst hvc
  subst hvr
  have HRA := hide hra
  clear c0 f0 c1 f1 s0 s1 hT hCp hra hb hb2
  have hI := fun (n lo hi : Int) (W : World) => spec_l1In n lo hi W
  have fin : ∀ V : World, (∀ b, w.heap.size + 2 ≤ b → b < w2.heap.size → V.heap[b]? = w2.heap[b]?) → w2.heap.size ≤ V.heap.size → Below w.heap.size w V → edtTake t row at' = (t, false) →
      EdtPost (edtTake t row at') w (.returned (.tuple #[.agg #[.slice Ac t.cols.length cc, .int .i64 t.head, .int .i64 t.foot, .slice Ar t.rows.length cr, .int .i64 t.gap], .bool false])) V := fun V h1 h2 h3 h4 => by
    rw [h4]
    have hs1 := HS1.out
    exact ⟨_, _, rfl, (HOWN.out.keep (fun b ha hb => h1 b (by omega) hb)).mono (by omega) h2, h3⟩
  have FIN := hide fin
  clear fin
  cases h1 : inB row 0 ((t.rows.length : Int) - 1) with
  | false =>
    have hE := hide (take_false (at' := at') HOK.out (.inl h1))
    go_wp2_with (go_at_call 49; refine (hI _ _ _ _).mono ?_; rintro e w' ⟨rfl, rfl⟩)
    refine bodyPost_ret (v := .tuple #[.agg #[.slice Ac t.cols.length cc, .int .i64 t.head, .int .i64 t.foot, .slice Ar t.rows.length cr, .int .i64 t.gap], .bool false]) (by simp [results, Tryd.results27, go_sem, *]) rfl (FIN.out _ (fun b hb1 hb2 => ?_) (by simp) ?_ hE.out)
    · refine (heap_alloc_old _ _ (by simp; omega)).trans ?_
      (repeat' (with_reducible refine (heap_set _ _ _ _ ?_).trans ?_)) <;> first | rfl | (show b ≠ w.heap.size + 1; omega)
    · have h := HB2.out
      (repeat' (with_reducible first | exact h | refine balloc ?_ _ | refine bset ?_ ?_ _)) <;> first | (simp; done) | (simp; omega)
  | true =>
    obtain ⟨j, rfl, hj⟩ := inB_nat h1
    have hjz : (j : Int) < (t.rows.length : Int) := by omega
    obtain ⟨b, o, d0, d1, rfl, hblt, ⟨v, hK, hL, hl5⟩, e0, e1⟩ := hro.at2 rfl HB2.out j hj
    have hlv : ∀ A n c, v = .slice A n c → t.rows[j].cs.length ≤ c := fun A1 n1 cx hvx => by
      obtain ⟨b', o', d0', d1', he, _, ⟨v', hK', A1', n1', hv', hl1, _⟩, e0', _⟩ := hr.at2 rfl HB2.out j hj
      injection he with he; injection he with he1 he2
      simp only [List.cons.injEq, and_true] at hK hK'
      subst he1; subst he2
      rw [hK'.1, e0, hK.1, hvx, hv'] at e0'
      injection e0' with e0'; injection e0' with _ _ e3
      omega
    simp only [List.cons.injEq, and_true] at hK
    obtain ⟨rfl, rfl⟩ := hK
    have hbw : b < w2.heap.size := by omega
    obtain ⟨Av, cv, rfl⟩ := hL.form
    have hcvl := hlv _ _ _ rfl
    clear hro hr hlv
    cases h2 : inB at' 0 ((t.rows[j].cs.length : Int) - 1) with
    | false =>
      have hE := hide (take_false (row := j) HOK.out (.inr ⟨hj, h2⟩))
      go_wp2_with (go_at_call 49; refine (hI _ _ _ _).mono ?_; rintro e w' ⟨rfl, rfl⟩)
      refine bodyPost_ret (v := .tuple #[.agg #[.slice Ac t.cols.length cc, .int .i64 t.head, .int .i64 t.foot, .slice Ar t.rows.length cr, .int .i64 t.gap], .bool false]) (by simp [results, Tryd.results27, go_sem, *]) rfl (FIN.out _ (fun b hb1 hb2 => ?_) (by simp) ?_ hE.out)
      · refine (heap_alloc_old _ _ (by simp; omega)).trans ?_
        (repeat' (with_reducible refine (heap_set _ _ _ _ ?_).trans ?_)) <;> first | rfl | (show b ≠ w.heap.size + 1; omega)
      · have h := HB2.out
        (repeat' (with_reducible first | exact h | refine balloc ?_ _ | refine bset ?_ ?_ _)) <;> first | (simp; done) | (simp; omega)
    | true =>
      obtain ⟨i, rfl, hi⟩ := inB_nat h2
      have hiz : (i : Int) < (t.rows[j].cs.length : Int) := by omega
      have hE := hide (take_true HOK.out hj hi)
      have hra := HRA.out
      have hv : j < vs.length := by rw [hra.2.1]; exact hj
      obtain ⟨gr, rfl⟩ : ∃ gr, Ar = some ⟨gr, 0, none⟩ := by
        rcases hra.1 with ⟨h0, _⟩ | ⟨_, gr, crr, e, _⟩
        · omega
        · injection e with e _ _; exact ⟨gr, e⟩
      obtain ⟨p0, _, pf, hr1, hr2⟩ := hra.at j hv hj
      obtain ⟨Aj, cj, ej⟩ := (hra.2.2.1 j hv hj).form
      rw [ej] at p0
      have hs1 := HS1.out
      have hgrX : gr < w2.heap.size := hr2
      obtain ⟨bv, ov, rfl, hbv, hcv⟩ : ∃ bv ov, Av = some ⟨bv, ov, none⟩ ∧ bv < w2.heap.size ∧ Hid (∀ q u, (t.rows[j].cs.flatMap cellE)[q]? = some u → w2.cell? ⟨bv, ov + q, none⟩ = some u) := by
        rcases hL with ⟨_, h0⟩ | ⟨bv, ov, cv', e, h1, h2⟩
        · rw [h0] at hi; exact absurd hi (Nat.not_lt_zero _)
        · injection e with e _ _; exact ⟨bv, ov, e, h1, fun q u hq => by have := h2 q u hq; rwa [Addr.add_lit] at this⟩
      have hic : i + 1 ≤ cv := by omega
      have hic0 : i ≤ cv := by omega
      have e1' : ((i : Int) + 1).toNat = i + 1 := by omega
      have e2' : (0 : Int) ≤ (i : Int) + 1 := by omega
      have e3' : (i : Int) + 1 ≤ (t.rows[j].cs.length : Int) := by omega
      have hwr : IntKind.i64.wrap ((i : Int) + 1) = (i : Int) + 1 := IntWalk.i64_in _ (by omega)
      have HQ := hide hra
      clear hra hL
      go_wp2_with (go_at_call 49; refine (hI _ _ _ _).mono ?_; rintro e w' ⟨rfl, rfl⟩)
      obtain ⟨W, hW⟩ : ∃ W : World, W = w2.alloc (.cells #[.slice Ac t.cols.length cc, .int .i64 t.head, .int .i64 t.foot, .slice (some ⟨gr, 0, none⟩) t.rows.length cr, .int .i64 t.gap] 33) := ⟨_, rfl⟩
      rw [← hW]
      have BW : Below w2.heap.size w2 W := hW ▸ balloc (brefl w2) _
      have x0 : W.cell? ⟨w2.heap.size, 0, none⟩ = some (.slice Ac t.cols.length cc) := by rw [hW]; simp
      have x1 : W.cell? ⟨w2.heap.size, 1, none⟩ = some (.int .i64 t.head) := by rw [hW]; simp
      have x2 : W.cell? ⟨w2.heap.size, 2, none⟩ = some (.int .i64 t.foot) := by rw [hW]; simp
      have x3 : W.cell? ⟨w2.heap.size, 3, none⟩ = some (.slice (some ⟨gr, 0, none⟩) t.rows.length cr) := by rw [hW]; simp
      have x4 : W.cell? ⟨w2.heap.size, 4, none⟩ = some (.int .i64 t.gap) := by rw [hW]; simp
      have HX := hide (And.intro x0 (And.intro x1 (And.intro x2 (And.intro x3 x4))))
      have hWs : w2.heap.size < W.heap.size := by rw [hW]; simp
      have HU : Hid (W5 W (w.heap.size + 1) (.slice none 0 0) (.int .i64 0) (.int .i64 0) (.slice none 0 0) (.int .i64 0)) := ⟨keepW BW u0, keepW BW u1, keepW BW u2, keepW BW u3, keepW BW u4⟩
      have HUF : Hid (∀ i, W.frozen? ⟨w.heap.size + 1, i, none⟩ = false) := fun i => ((seenBk _ hul BW).2.1 i).trans (uf i)
      have HP := hide (keepW BW p0)
      have HPF : Hid (W.frozen? ⟨gr, j * 2, none⟩ = false) := ((seenBk gr hr2 BW).2.1 _).trans (pf _)
      have HLT : Hid (Lies cellE W (.slice (some ⟨bv, ov, none⟩) i cv) (t.rows[j].cs.take i)) := by
        refine .inr ⟨bv, ov, cv, by rw [List.length_take, Nat.min_eq_left (by omega)], Nat.lt_of_lt_of_le hbv BW.size, fun q u hq => ?_⟩
        rw [← flat_take cellE 11 (fun _ => rfl), List.getElem?_take] at hq
        split at hq
        · rw [Addr.add_lit]; exact keepW BW (hcv.out q u hq)
        · cases hq
      obtain ⟨A2, hA, HLD⟩ : ∃ A2 : Addr, (if cv = i + 1 then (some ⟨bv, ov, none⟩ : Option Addr) else some ⟨bv, ov + (i + 1) * 11, none⟩) = some A2 ∧ Hid (Lies cellE W (.slice (some A2) (t.rows[j].cs.length - (i + 1)) (cv - (i + 1))) (t.rows[j].cs.drop (i + 1))) := by
        by_cases hc : cv = i + 1
        · refine ⟨⟨bv, ov, none⟩, by simp [hc], .inr ⟨bv, ov, _, by rw [List.length_drop], Nat.lt_of_lt_of_le hbv BW.size, fun q u hq => ?_⟩⟩
          have h0 : t.rows[j].cs.drop (i + 1) = [] := List.drop_eq_nil_of_le (by omega)
          rw [h0] at hq
          simp at hq
        · refine ⟨⟨bv, ov + (i + 1) * 11, none⟩, by simp [hc], .inr ⟨bv, ov + (i + 1) * 11, _, by rw [List.length_drop], Nat.lt_of_lt_of_le hbv BW.size, fun q u hq => ?_⟩⟩
          rw [← flat_drop cellE 11 (fun _ => rfl), List.getElem?_drop] at hq
          rw [Addr.add_lit, Nat.add_assoc]; exact keepW BW (hcv.out _ u hq)
      obtain ⟨j0, hj0, hj1, hj2, hj3⟩ := info_parts info_cloneCells
      have HBW := hide (HB2.out.trans (BW.mono HB2.out.size))
      have HDEF := hide hW
      clear BW hW x0 x1 x2 x4 u0 u1 u2 u3 u4 uf y0 y1 y2 y3 y4 p0 pf e0 e1 hcv
      refine wp_region_T (S := fun V : World => V.cell? ⟨w2.heap.size, 3, none⟩ = some (.slice (some ⟨gr, 0, none⟩) t.rows.length cr)) (L := 15) (by kernel_rfl) ?_
      have hSd : (fun V : World => V.cell? ⟨w2.heap.size, 3, none⟩ = some (.slice (some ⟨gr, 0, none⟩) t.rows.length cr)) W.drew := x3
      refine' wpAnyT_take [15] (i := 0) (v := _) rfl (by kernel_rfl) (by kernel_rfl) (by kernel_rfl) (by kernel_rfl) (by kernel_rfl) (by kernel_rfl) (fun _ _ _ h => h) (Or.inl ⟨by rfl, ?hy0⟩) hSd ?_
      case hy0 => (intro w hSw; (try dsimp only at hSw); go_simp) <;> with_reducible rfl
      try simp only [Act.put, List.setIfInBounds_toArray, List.set_cons_zero, List.set_cons_succ]
      refine' wpAnyT_take [15] (i := 1) (v := _) rfl (by kernel_rfl) (by kernel_rfl) (by kernel_rfl) (by kernel_rfl) (by kernel_rfl) (by kernel_rfl) (fun _ _ _ h => h) (Or.inl ⟨by rfl, ?hy1⟩) hSd ?_
      case hy1 => (intro w hSw; (try dsimp only at hSw); go_simp) <;> with_reducible rfl
      try simp only [Act.put, List.setIfInBounds_toArray, List.set_cons_zero, List.set_cons_succ]
      refine' wpAnyT_take [15] (i := 2) (v := _) rfl (by kernel_rfl) (by kernel_rfl) (by kernel_rfl) (by kernel_rfl) (by kernel_rfl) (by kernel_rfl) (fun _ _ _ h => h) (Or.inl ⟨by rfl, ?hy2⟩) hSd ?_
      case hy2 => (intro w hSw; (try dsimp only at hSw); go_simp) <;> with_reducible rfl
      try simp only [Act.put, List.setIfInBounds_toArray, List.set_cons_zero, List.set_cons_succ]
      refine' wpAnyT_take [15] (i := 4) (v := _) rfl (by kernel_rfl) (by kernel_rfl) (by kernel_rfl) (by kernel_rfl) (by kernel_rfl) (by kernel_rfl) (fun _ _ _ h => h) (Or.inl ⟨by rfl, ?hy4⟩) hSd ?_
      case hy4 => (intro w hSw; (try dsimp only at hSw); go_simp) <;> with_reducible rfl
      try simp only [Act.put, List.setIfInBounds_toArray, List.set_cons_zero, List.set_cons_succ]
      refine' wpAnyT_take [15] (i := 5) (v := _) rfl (by kernel_rfl) (by kernel_rfl) (by kernel_rfl) (by kernel_rfl) (by kernel_rfl) (by kernel_rfl) (fun _ _ _ h => h) (Or.inl ⟨by rfl, ?hy5⟩) hSd ?_
      case hy5 => (intro w hSw; (try dsimp only at hSw); go_simp) <;> with_reducible rfl
      try simp only [Act.put, List.setIfInBounds_toArray, List.set_cons_zero, List.set_cons_succ]
      refine' wpAnyT_take [15] (i := 6) (v := _) rfl (by kernel_rfl) (by kernel_rfl) (by kernel_rfl) (by kernel_rfl) (by kernel_rfl) (by kernel_rfl) (fun _ _ _ h => h) (Or.inl ⟨by rfl, ?hy6⟩) hSd ?_
      case hy6 => (intro w hSw; (try dsimp only at hSw); go_simp) <;> with_reducible rfl
      try simp only [Act.put, List.setIfInBounds_toArray, List.set_cons_zero, List.set_cons_succ]
      refine' wpAnyT_take [15] (i := 8) (v := _) rfl (by kernel_rfl) (by kernel_rfl) (by kernel_rfl) (by kernel_rfl) (by kernel_rfl) (by kernel_rfl) (fun _ _ _ h => h) (Or.inl ⟨by rfl, ?hy8⟩) hSd ?_
      case hy8 => (intro w hSw; (try dsimp only at hSw); go_simp) <;> with_reducible rfl
      try simp only [Act.put, List.setIfInBounds_toArray, List.set_cons_zero, List.set_cons_succ]
      refine' wpAnyT_take [15] (i := 9) (v := _) rfl (by kernel_rfl) (by kernel_rfl) (by kernel_rfl) (by kernel_rfl) (by kernel_rfl) (by kernel_rfl) (fun _ _ _ h => h) (Or.inl ⟨by rfl, ?hy9⟩) hSd ?_
      case hy9 => (intro w hSw; (try dsimp only at hSw); go_simp) <;> with_reducible rfl
      try simp only [Act.put, List.setIfInBounds_toArray, List.set_cons_zero, List.set_cons_succ]
      refine' wpAnyT_take [15] (i := 10) (v := _) rfl (by kernel_rfl) (by kernel_rfl) (by kernel_rfl) (by kernel_rfl) (by kernel_rfl) (by kernel_rfl) (fun _ _ _ h => h) (Or.inl ⟨by rfl, ?hy10⟩) hSd ?_
      case hy10 => (intro w hSw; (try dsimp only at hSw); go_simp) <;> with_reducible rfl
      try simp only [Act.put, List.setIfInBounds_toArray, List.set_cons_zero, List.set_cons_succ]
      refine' wpAnyT_take [15] (i := 11) (v := _) rfl (by kernel_rfl) (by kernel_rfl) (by kernel_rfl) (by kernel_rfl) (by kernel_rfl) (by kernel_rfl) (fun _ _ _ h => h) (Or.inl ⟨by rfl, ?hy11⟩) hSd ?_
      case hy11 => (intro w hSw; (try dsimp only at hSw); go_simp) <;> with_reducible rfl
      try simp only [Act.put, List.setIfInBounds_toArray, List.set_cons_zero, List.set_cons_succ]
      refine wpAnyT_one (i := 3) (by kernel_rfl) rfl (fun K hK => ?_)
      go_simp
      refine hK.out _ _ (fun _ => keepW (balloc (bdrew (brefl W)) _) x3) ?_
      clear hK K
      try simp only [Act.put, List.setIfInBounds_toArray, List.set_cons_zero, List.set_cons_succ]
      refine wpAnyT_one (i := 7) (by kernel_rfl) rfl (fun K hK => ?_)
      refine step_append_any _ rfl (.tmp 46) (.tmp 49) 82 rfl W.heap.size 65 j0 _ 11 96 und_cloneCells hj0 hj1 hj2 hj3 rfl (by decide) (.slice (some ⟨W.heap.size, 0, none⟩) 0 0) 0 [] ?_ (World.ownsRow.drew (made_at W W.heap.size rfl)) cellE (t.rows[j].cs.take i) (.slice (some ⟨bv, ov, none⟩) i cv) (by (simp [Act.eval]; done)) (HLT.out.below (by (repeat' (with_reducible first | exact brefl _ | refine bdrew ?_ | refine balloc ?_ _)))) (flatMap_length cellE 11 (fun _ => rfl) _) (cells_one _) (by unfold maxLen; have := List.length_take_le i t.rows[j].cs; omega) (by have := List.length_take_le i t.rows[j].cs; omega) (Below.size (by (repeat' (with_reducible first | exact brefl _ | refine bdrew ?_ | refine balloc ?_ _)))) ?_
      (focus (simp [Act.eval]; done))
      intro v7 w7 ho7 hg7
      have hb7 : Below W.heap.size W w7 := made_below (base := W.heap.size) (E := 65) (k := 11) (by (repeat' (with_reducible first | exact brefl _ | refine bdrew ?_ | refine balloc ?_ _))) (World.ownsRow.drew (made_at W W.heap.size rfl)) (Nat.le_refl _) hg7
      rw [Nat.zero_add] at ho7
      rw [List.nil_append] at ho7
      obtain ⟨A7, c7, rfl⟩ := own_form0 ho7
      have HO7 := hide ho7
      have HB7 := hide hb7
      have hS7 := fun _ : (7 : Nat) ≠ 15 => keepW HB7.out x3
      clear ho7 hg7 hb7
      refine hK.out _ _ hS7 ?_
      clear hK K
      try simp only [Act.put, List.setIfInBounds_toArray, List.set_cons_zero, List.set_cons_succ]
      refine wpAnyT_one (i := 12) (by kernel_rfl) rfl (fun K hK => ?_)
      refine step_append_any _ rfl (.tmp 50) (.tmp 54) 82 rfl W.heap.size 65 j0 _ 11 96 und_cloneCells hj0 hj1 hj2 hj3 rfl (by decide) (.slice A7 (t.rows[j].cs.take i).length c7) (t.rows[j].cs.take i).length ((t.rows[j].cs.take i).flatMap cellE) (by (simp [Act.eval]; done)) HO7.out cellE (t.rows[j].cs.drop (i + 1)) (.slice (some A2) (t.rows[j].cs.length - (i + 1)) (cv - (i + 1))) (by (simp [Act.eval]; done)) (HLD.out.below HB7.out) (flatMap_length cellE 11 (fun _ => rfl) _) (cells_one _) (by unfold maxLen; have := List.length_take_le i t.rows[j].cs; have := List.length_drop (l := t.rows[j].cs) (i := i + 1); omega) (by have := List.length_take_le i t.rows[j].cs; have := List.length_drop (l := t.rows[j].cs) (i := i + 1); omega) HB7.out.size ?_
      intro v9 w9 ho9 hg9
      have hb9 := made_below HB7.out HO7.out (Nat.le_refl _) hg9
      rw [← List.length_append, ← List.flatMap_append] at ho9
      obtain ⟨n9, hn9⟩ : ∃ n, n = (t.rows[j].cs.take i ++ t.rows[j].cs.drop (i + 1)).length := ⟨_, rfl⟩
      rw [← hn9] at ho9
      have HN9 := hide hn9
      clear hn9
      obtain ⟨A9, c9, rfl⟩ := own_form0 ho9
      have HO9 := hide ho9
      have HB9 := hide hb9
      clear ho9 hg9 hb9
      have hS9 : (fun V : World => V.cell? ⟨w2.heap.size, 3, none⟩ = some (.slice (some ⟨gr, 0, none⟩) t.rows.length cr)) w9 := keepW HB9.out x3
      refine hK.out _ _ (fun _ => hS9) ?_
      clear hK K
      replace hSd := hS9
      have p9 := keepW HB9.out HP.out
      have pf9 : w9.frozen? ⟨gr, j * 2, none⟩ = false := ((seenBk gr (by omega) HB9.out).2.1 _).trans HPF.out
      clear hS9 x3
      try simp only [Act.put, List.setIfInBounds_toArray, List.set_cons_zero, List.set_cons_succ]
      refine' wpAnyT_take [14, 15] (i := 13) (v := _) rfl (by kernel_rfl) (by kernel_rfl) (by kernel_rfl) (by kernel_rfl) (by kernel_rfl) (by kernel_rfl) (fun _ _ _ h => h) (Or.inl ⟨by rfl, ?hy13⟩) hSd ?_
      case hy13 => (intro w hSw; (try dsimp only at hSw); go_simp) <;> with_reducible rfl
      try simp only [Act.put, List.setIfInBounds_toArray, List.set_cons_zero, List.set_cons_succ]
      refine' wpAnyT_take [15] (i := 14) (v := _) rfl (by kernel_rfl) (by kernel_rfl) (by kernel_rfl) (by kernel_rfl) (by kernel_rfl) (by kernel_rfl) (fun _ _ _ h => h) (Or.inl ⟨by rfl, ?hy14⟩) hSd ?_
      case hy14 => (intro w hSw; (try dsimp only at hSw); go_simp) <;> with_reducible rfl
      try simp only [Act.put, List.setIfInBounds_toArray, List.set_cons_zero, List.set_cons_succ]
      refine wpAnyT_one (i := 15) (by kernel_rfl) rfl (fun K hK => ?_)
      go_simp
      refine hK.out _ _ (fun h => absurd rfl h) ?_
      clear hK K
      try simp only [Act.put, List.setIfInBounds_toArray, List.set_cons_zero, List.set_cons_succ]
      refine wpAnyT_done (by kernel_rfl) ?_ _
      have hgrW : gr ≠ w2.heap.size := by omega
      have hgrU : gr ≠ w.heap.size + 1 := by omega
      have z0 := setB (o := j * 2) (v := .slice A9 n9 c9) (keepW HB9.out HX.out.1) hgrW
      have z1 := setB (o := j * 2) (v := .slice A9 n9 c9) (keepW HB9.out HX.out.2.1) hgrW
      have z2 := setB (o := j * 2) (v := .slice A9 n9 c9) (keepW HB9.out HX.out.2.2.1) hgrW
      have z3 := setB (o := j * 2) (v := .slice A9 n9 c9) (keepW HB9.out HX.out.2.2.2.1) hgrW
      have z4 := setB (o := j * 2) (v := .slice A9 n9 c9) (keepW HB9.out HX.out.2.2.2.2) hgrW
      have v0 := setB (o := j * 2) (v := .slice A9 n9 c9) (keepW HB9.out HU.out.1) hgrU
      have v1 := setB (o := j * 2) (v := .slice A9 n9 c9) (keepW HB9.out HU.out.2.1) hgrU
      have v2 := setB (o := j * 2) (v := .slice A9 n9 c9) (keepW HB9.out HU.out.2.2.1) hgrU
      have v3 := setB (o := j * 2) (v := .slice A9 n9 c9) (keepW HB9.out HU.out.2.2.2.1) hgrU
      have v4 := setB (o := j * 2) (v := .slice A9 n9 c9) (keepW HB9.out HU.out.2.2.2.2) hgrU
      have vf : ∀ i, w9.frozen? ⟨w.heap.size + 1, i, none⟩ = false := fun i => ((seenBk _ (by omega) HB9.out).2.1 i).trans (HUF.out i)
      have HV1 : Hid (OwnTbl (w9.setCell ⟨gr, j * 2, none⟩ (.slice A9 n9 c9)) w1.heap.size w9.heap.size (.slice Ac t.cols.length cc) (.slice (some ⟨gr, 0, none⟩) t.rows.length cr) { t with rows := t.rows.set j ⟨t.rows[j].cs.take i ++ t.rows[j].cs.drop (i + 1), t.rows[j].wh⟩ }) := by
        have e9 := HN9.out
        subst e9
        have hk : ∀ b, b < w2.heap.size → w9.heap[b]? = w2.heap[b]? := fun b hb => (HB9.out.block b (by omega)).trans (by rw [HDEF.out]; exact heap_alloc_old _ _ hb)
        obtain ⟨curR, hcurR⟩ := HRA.out.head (by omega)
        have hcurR9 : w9.heap[gr]? = some (.cells curR 84 (0, 0)) := (hk gr hgrX).trans hcurR
        have hX := HRA.out.keep (w' := w9) (fun b _ h => hk b h)
        have h9 := HB9.out.size
        refine ⟨(((HOWN.out.1.keep (w' := w9) (fun b _ h => hk b h)).spare (Spare.grow (grow_set w9 (a := ⟨gr, j * 2, none⟩) rfl _) hcurR9 (by decide))).mono (Nat.le_refl _) (by omega)), _, hX.put (hi' := w9.heap.size) j hv hj _ _ (by omega) (Spare.refl _ _) (fun k hk1 hk2 _ => (hX.2.2.1 k hk1 hk2).mono (Nat.le_refl _) (by omega)) (fun k hk1 _ g1 n1 c1 g2 n2 c2 e1 e2 h1 h2 e => ?_) ((Own.of HO9.out (Nat.le_refl _)).mono (by omega) (Nat.le_refl _))⟩
        have hO := HRA.out.2.2.1 k hk1 (by rw [← HRA.out.2.1]; exact hk1)
        rcases hO with ⟨_, _, A5, c5, e5⟩ | ⟨_, g5, c5, e5, d1, d2, _⟩
        · rw [e5] at e1; injection e1 with _ e1 _; omega
        · rw [e5] at e1; injection e1 with e1 _ _; injection e1 with e1; injection e1 with e1
          have := own_lt HO9.out (b := g2) (by rw [e2]; rfl)
          omega
      have h9 := HB9.out.size
      have HB99 := hide (HBW.out.trans (HB9.out.mono HBW.out.size))
      clear HDEF HX HU HUF HP HPF HLT HLD p9 pf9 HO9 HO7 HB7 hSd
      go_wp2_with fail
      rw [hE.out]
      refine bodyPost_ret (v := .tuple #[.agg #[.slice Ac t.cols.length cc, .int .i64 t.head, .int .i64 t.foot, .slice (some ⟨gr, 0, none⟩) t.rows.length cr, .int .i64 t.gap], .bool true]) (by simp [results, Tryd.results27, go_sem, *]) rfl ⟨_, _, rfl, (HV1.out.keep (fun b hb1 hb2 => ?_)).mono ?hlo ?hhi, ?_⟩
      case hlo => omega
      case hhi => simp
      · refine (heap_set _ _ _ _ (show b ≠ w.heap.size + 1 by omega)).trans ?_
        refine (heap_set _ _ _ _ (show b ≠ w.heap.size + 1 by omega)).trans ?_
        refine (heap_set _ _ _ _ (show b ≠ w.heap.size + 1 by omega)).trans ?_
        refine (heap_set _ _ _ _ (show b ≠ w.heap.size + 1 by omega)).trans ?_
        exact heap_set _ _ _ _ (show b ≠ w.heap.size + 1 by omega)
      · have h := HB99.out
        (repeat' (with_reducible first | exact h | refine balloc ?_ _ | refine bset ?_ ?_ _)) <;> first | (simp; done) | (simp; omega)
theorem spec_EdtTake (t : Tbl) (A : Option Addr) (c : Nat) (A' : Option Addr) (c' : Nat) (row at' : Int) (w : World) (hc : Rd colR w A t.cols) (hr : Rd rowR w A' t.rows) (hcl : Lies colE w (.slice A t.cols.length c) t.cols) (hro : Rd rowO w A' t.rows) :
    Calls Tryd.prog 27 #[.agg #[.slice A t.cols.length c, .int .i64 t.head, .int .i64 t.foot, .slice A' t.rows.length c', .int .i64 t.gap], .int .i64 row, .int .i64 at'] w (EdtPost (edtTake t row at') w) := by
  cases hok : tblOk t with
  | false => exact spec_EdtTake0 t A c A' c' row at' w hok hc hr
  | true => exact spec_EdtTake1 t A c A' c' row at' w hok hc hr hcl hro
end Go.Proofs.YtfcogogpioeggaaDoor
