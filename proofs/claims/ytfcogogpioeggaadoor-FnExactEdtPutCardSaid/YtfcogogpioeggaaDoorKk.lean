import Derived.Test.YtfcogogpioeggaaDoorKj
import Derived.Test.YtfcogogpioeggaaDoorU
namespace Go.Proofs.YtfcogogpioeggaaDoor
open Go.RowKit
/- A cell of a copy is edited: plain laws; the reference's EdtSpan. -/
theorem flat_setG {α : Type} (enc : α → List Value) (m : Nat) (hm : ∀ x, (enc x).length = m) (x' : α) (u : Value) (k : Nat) (hk : k < m) : ∀ (cs : List α) (i : Nat) (hi : i < cs.length) (_ : enc x' = (enc cs[i]).set k u), (cs.set i x').flatMap enc = (cs.flatMap enc).set (i * m + k) u := by
  intro cs
  induction cs with
  | nil => intro i hi; exact absurd hi (Nat.not_lt_zero _)
  | cons c cs ih =>
    intro i hi he
    have hl := hm c
    cases i with
    | zero =>
      have he' : enc x' = (enc c).set k u := he
      rw [List.set_cons_zero, List.flatMap_cons, List.flatMap_cons, he', Nat.zero_mul, Nat.zero_add, List.set_append_left _ _ (by omega)]
    | succ i =>
      have h1 := ih i (by simpa using hi) he
      rw [List.set_cons_succ, List.flatMap_cons, List.flatMap_cons, h1, List.set_append_right _ _ (by rw [hl, Nat.succ_mul]; omega), hl, show (i + 1) * m + k - m = i * m + k by rw [Nat.succ_mul]; omega]
/-- One number of a cell has been written. -/
theorem RowsAll.cellset {w : World} {lo hi : Nat} {v : Value} {vs : List Value} {rows : List TRow} (h : RowsAll w lo hi v vs rows) (j : Nat) (hj : j < vs.length) (hj' : j < rows.length) (g c : Nat) (he : vs[j] = .slice (some ⟨g, 0, none⟩) rows[j].cs.length c)
    (i k : Nat) (hi' : i < rows[j].cs.length) (hk : k < 11) (u : Value) (x' : TCell) (hx : cellE x' = (cellE rows[j].cs[i]).set k u) (hhw : hi ≤ w.heap.size) :
    RowsAll (w.setCell ⟨g, i * 11 + k, none⟩ u) lo hi v vs (rows.set j ⟨rows[j].cs.set i x', rows[j].wh⟩) := by
  rcases h.2.2.1 j hj hj' with ⟨h0, _⟩ | ⟨hpos, g', c', e, h1, h2, h3⟩
  · omega
  · rw [he] at e
    injection e with e1 _ e2; injection e1 with e1; injection e1 with e1; subst e1
    have h3' := h3
    rw [he] at h3'
    refine h.cells j hj hj' g c he hpos (grow_set w rfl u) _ (by simp) h1 h2 ?_ hhw h3
    rw [he, List.length_set, flat_setG cellE 11 (fun _ => rfl) x' u k hk _ i hi' hx]
    exact (h3'.stored (i * 11 + k) u).1
theorem RowsAll.span {w : World} {lo hi : Nat} {v : Value} {vs : List Value} {rows : List TRow} (h : RowsAll w lo hi v vs rows) (j : Nat) (hj : j < vs.length) (hj' : j < rows.length) (g c : Nat) (he : vs[j] = .slice (some ⟨g, 0, none⟩) rows[j].cs.length c)
    (i : Nat) (hi' : i < rows[j].cs.length) (nc nr : Int) (hhw : hi ≤ w.heap.size) :
    RowsAll ((w.setCell ⟨g, i * 11 + 1, none⟩ (.int .i64 nc)).setCell ⟨g, i * 11 + 2, none⟩ (.int .i64 nr)) lo hi v vs (rows.set j ⟨rows[j].cs.set i { rows[j].cs[i] with c := nc, r := nr }, rows[j].wh⟩) := by
  have R1 := h.cellset j hj hj' g c he i 1 hi' (by decide) (.int .i64 nc) { rows[j].cs[i] with c := nc } rfl hhw
  have hj2 : j < (rows.set j ⟨rows[j].cs.set i { rows[j].cs[i] with c := nc }, rows[j].wh⟩).length := by simpa using hj'
  have e1 : (rows.set j ⟨rows[j].cs.set i { rows[j].cs[i] with c := nc }, rows[j].wh⟩)[j] = ⟨rows[j].cs.set i { rows[j].cs[i] with c := nc }, rows[j].wh⟩ := List.getElem_set_self _
  have hi2 : i < ((rows.set j ⟨rows[j].cs.set i { rows[j].cs[i] with c := nc }, rows[j].wh⟩)[j]).cs.length := by rw [e1]; simpa using hi'
  have hx : cellE { rows[j].cs[i] with c := nc, r := nr } = (cellE ((rows.set j ⟨rows[j].cs.set i { rows[j].cs[i] with c := nc }, rows[j].wh⟩)[j]).cs[i]).set 2 (.int .i64 nr) := by
    simp [cellE]
  have R2 := R1.cellset j hj hj2 g c (by rw [e1]; simpa using he) i 2 hi2 (by decide) (.int .i64 nr) { rows[j].cs[i] with c := nc, r := nr } hx (by simpa using hhw)
  simp only [List.getElem_set_self, List.set_set] at R2
  exact R2
def edtSpan (t : Tbl) (row at' c r : Int) : Tbl × Bool :=
  if tblOk t = true then
    if h : inB row 0 ((t.rows.length : Int) - 1) = true ∧ row.toNat < t.rows.length then
      if inB at' 0 ((t.rows[row.toNat].cs.length : Int) - 1) = true ∧ inB c 1 4 = true ∧ inB r 1 4 = true then
        if h2 : at'.toNat < t.rows[row.toNat].cs.length then
          ({ t with rows := t.rows.set row.toNat ⟨t.rows[row.toNat].cs.set at'.toNat { t.rows[row.toNat].cs[at'.toNat] with c := c, r := r }, t.rows[row.toNat].wh⟩ }, true)
        else (t, false)
      else (t, false)
    else (t, false)
  else (⟨[], 0, 0, [], 0⟩, false)
def EdtPost (g : Tbl × Bool) (w : World) (e : Ending) (w' : World) : Prop :=
  ∃ vc vr, e = .returned (.tuple #[.agg #[vc, .int .i64 g.1.head, .int .i64 g.1.foot, vr, .int .i64 g.1.gap], .bool g.2]) ∧ OwnTbl w' w.heap.size w'.heap.size vc vr g.1 ∧ Below w.heap.size w w'
theorem OwnTbl.empty (w : World) (lo hi : Nat) (A B : Int) (C : Int) : OwnTbl w lo hi (.slice none 0 0) (.slice none 0 0) ⟨[], A, B, [], C⟩ :=
  ⟨.inl ⟨rfl, rfl, none, 0, rfl⟩, [], .inl ⟨rfl, rfl, none, 0, rfl⟩, rfl, fun _ h => absurd h (Nat.not_lt_zero _), List.Pairwise.nil⟩
set_option maxRecDepth 100000 in
set_option maxHeartbeats 4000000 in
theorem spec_EdtSpan0 (t : Tbl) (A : Option Addr) (c : Nat) (A' : Option Addr) (c' : Nat) (row at' nc nr : Int) (w : World) (hok : tblOk t = false) (hc : Rd colR w A t.cols) (hr : Rd rowR w A' t.rows) :
    Calls Tryd.prog 23 #[.agg #[.slice A t.cols.length c, .int .i64 t.head, .int .i64 t.foot, .slice A' t.rows.length c', .int .i64 t.gap], .int .i64 row, .int .i64 at', .int .i64 nc, .int .i64 nr] w (EdtPost (edtSpan t row at' nc nr) w) := by
  have hT := fun (W : World) (h : Below w.heap.size w W) => spec_TblOk t A c A' c' W (hc.below h) (hr.below h)
  rw [hok] at hT
  have hres : edtSpan t row at' nc nr = (⟨[], 0, 0, [], 0⟩, false) := by unfold edtSpan; rw [if_neg (by simp [hok])]
  rw [hres]
  clear hres hc hr hok
  go_enter Tryd.func23, Tryd.ntmps23
  go_wp2_with fail
  refine (hT _ (balloc (balloc (brefl _) _) _)).mono ?_
  rintro e w1 ⟨rfl, hb⟩
  obtain ⟨c1, f1, s1⟩ := seenBk (w.heap.size + 1) (by first | (simp; omega) | simp [*]) hb
  have HB := step (balloc (balloc (brefl w) _) _) hb
  go_wp2_with fail
  refine bodyPost_ret (v := .tuple #[.agg #[.slice none 0 0, .int .i64 0, .int .i64 0, .slice none 0 0, .int .i64 0], .bool false]) (by simp [results, Tryd.results23, go_sem, *]) rfl ⟨_, _, rfl, OwnTbl.empty _ _ _ _ _ _, ?_⟩
  (repeat' (with_reducible first | exact HB | refine bset ?_ ?_ _)) <;> first | (simp; done) | (simp; omega)
/-- What is read of a table that is ok. -/
theorem small_of_ok {t : Tbl} (h : tblOk t = true) : SmallT t := by
  have hT : (1 ≤ t.rows.length ∧ t.rows.length ≤ 8) ∧ t.cols.length ≤ 8 ∧ ∀ y ∈ t.rows, y.cs.length ≤ 5 := by
    simp only [tblOk, inB, Bool.and_eq_true, decide_eq_true_eq, List.all_eq_true] at h
    obtain ⟨⟨h1, h2⟩, h3, _, _, _, _, h11⟩ := h
    exact ⟨⟨by omega, by omega⟩, by omega, fun y hy => by have := (h11 y hy).1; omega⟩
  exact ⟨by omega, by omega, fun r hr => by have := hT.2.2 r hr; omega⟩
theorem OwnTbl.keep {w w' : World} {lo hi : Nat} {vc vr : Value} {t : Tbl} (h : OwnTbl w lo hi vc vr t) (hk : ∀ b, lo ≤ b → b < hi → w'.heap[b]? = w.heap[b]?) : OwnTbl w' lo hi vc vr t := by
  obtain ⟨h1, vs, h2⟩ := h
  exact ⟨h1.keep hk, vs, h2.keep hk⟩
theorem OwnTbl.mono {w : World} {lo hi lo' hi' : Nat} {vc vr : Value} {t : Tbl} (h : OwnTbl w lo hi vc vr t) (hl : lo' ≤ lo) (hh : hi ≤ hi') : OwnTbl w lo' hi' vc vr t := by
  obtain ⟨h1, vs, h2⟩ := h
  exact ⟨h1.mono hl hh, vs, h2.mono hl hh⟩
theorem span_false {t : Tbl} {row at' c r : Int} (hok : tblOk t = true) (h : (inB row 0 ((t.rows.length : Int) - 1) && inB c 1 4 && inB r 1 4) = false ∨ (∃ h : row.toNat < t.rows.length, inB at' 0 ((t.rows[row.toNat].cs.length : Int) - 1) = false)) : edtSpan t row at' c r = (t, false) := by
  unfold edtSpan
  rw [if_pos hok]
  split
  · rename_i h1
    split
    · rename_i h2
      rcases h with h | ⟨h3, h⟩
      · rw [h1.1, h2.2.1, h2.2.2] at h; cases h
      · rw [h2.1] at h; cases h
    · rfl
  · rfl
theorem span_true {t : Tbl} {j i : Nat} {c r : Int} (hok : tblOk t = true) (hj : j < t.rows.length) (hi : i < t.rows[j].cs.length) (hc : inB c 1 4 = true) (hr : inB r 1 4 = true) :
    edtSpan t j i c r = ({ t with rows := t.rows.set j ⟨t.rows[j].cs.set i { t.rows[j].cs[i] with c := c, r := r }, t.rows[j].wh⟩ }, true) := by
  have h1 : inB (j : Int) 0 ((t.rows.length : Int) - 1) = true := by simp [inB]; omega
  have h2 : inB (i : Int) 0 ((t.rows[j].cs.length : Int) - 1) = true := by simp [inB]; omega
  unfold edtSpan
  rw [if_pos hok]
  simp only [Int.toNat_natCast]
  rw [dif_pos ⟨h1, hj⟩, if_pos ⟨h2, hc, hr⟩, dif_pos hi]
theorem inB_nat {n : Nat} {x : Int} (h : inB x 0 ((n : Int) - 1) = true) : ∃ j : Nat, x = j ∧ j < n := by
  simp [inB] at h
  obtain ⟨j, rfl⟩ := Int.eq_ofNat_of_zero_le h.1
  exact ⟨j, rfl, by omega⟩
set_option maxRecDepth 100000 in
set_option maxHeartbeats 4000000 in
theorem spec_EdtSpan1 (t : Tbl) (A : Option Addr) (c : Nat) (A' : Option Addr) (c' : Nat) (row at' nc nr : Int) (w : World) (hok : tblOk t = true) (hc : Rd colR w A t.cols) (hr : Rd rowR w A' t.rows) (hcl : Lies colE w (.slice A t.cols.length c) t.cols) (hro : Rd rowO w A' t.rows) :
    Calls Tryd.prog 23 #[.agg #[.slice A t.cols.length c, .int .i64 t.head, .int .i64 t.foot, .slice A' t.rows.length c', .int .i64 t.gap], .int .i64 row, .int .i64 at', .int .i64 nc, .int .i64 nr] w (EdtPost (edtSpan t row at' nc nr) w) := by
  have hT := fun (W : World) (h : Below w.heap.size w W) => spec_TblOk t A c A' c' W (hc.below h) (hr.below h)
  rw [hok] at hT
  have hCp := fun (W : World) (h : Below w.heap.size w W) => l2Copy t A c A' c' W (hcl.below h) (hro.below h) (small_of_ok hok)
  have HOK := hide hok
  have l2 := hr.1
  have hsm := (small_of_ok hok).2.1
  clear hok hc hcl hro
  go_enter Tryd.func23, Tryd.ntmps23
  go_wp2_with fail
  refine (hT _ (balloc (balloc (brefl _) _) _)).mono ?_
  rintro e w1 ⟨rfl, hb⟩
  obtain ⟨c0, f0, s0⟩ := seenBk w.heap.size (by first | (simp; omega) | simp [*]) hb
  obtain ⟨c1, f1, s1⟩ := seenBk (w.heap.size + 1) (by first | (simp; omega) | simp [*]) hb
  have HB := step (balloc (balloc (brefl w) _) _) hb
  go_wp2_with fail
  refine (hCp _ HB).mono ?_
  rintro e w2 ⟨vc, vr, rfl, hown, hb2⟩
  have y0 : w2.cell? ⟨w.heap.size, 0, none⟩ = some (.slice A t.cols.length c) := keepW hb2 (by simp [c0])
  have y1 : w2.cell? ⟨w.heap.size, 1, none⟩ = some (.int .i64 t.head) := keepW hb2 (by simp [c0])
  have y2 : w2.cell? ⟨w.heap.size, 2, none⟩ = some (.int .i64 t.foot) := keepW hb2 (by simp [c0])
  have y3 : w2.cell? ⟨w.heap.size, 3, none⟩ = some (.slice A' t.rows.length c') := keepW hb2 (by simp [c0])
  have y4 : w2.cell? ⟨w.heap.size, 4, none⟩ = some (.int .i64 t.gap) := keepW hb2 (by simp [c0])
  have u0 : w2.cell? ⟨w.heap.size + 1, 0, none⟩ = some (.slice none 0 0) := keepW hb2 (by simp [c1])
  have u1 : w2.cell? ⟨w.heap.size + 1, 1, none⟩ = some (.int .i64 0) := keepW hb2 (by simp [c1])
  have u2 : w2.cell? ⟨w.heap.size + 1, 2, none⟩ = some (.int .i64 0) := keepW hb2 (by simp [c1])
  have u3 : w2.cell? ⟨w.heap.size + 1, 3, none⟩ = some (.slice none 0 0) := keepW hb2 (by simp [c1])
  have u4 : w2.cell? ⟨w.heap.size + 1, 4, none⟩ = some (.int .i64 0) := keepW hb2 (by simp [c1])
  have uf : ∀ i, w2.frozen? ⟨w.heap.size + 1, i, none⟩ = false := fun i => ((seenBk _ s1 hb2).2.1 i).trans (by simp [f1])
  have hul : w.heap.size + 1 < w2.heap.size := Nat.lt_of_lt_of_le s1 hb2.size
  have hwl : w.heap.size < w2.heap.size := by omega
  have HB2 := hide (step HB hb2)
  have HS1 := hide (show w.heap.size + 2 ≤ w1.heap.size from s1)
  have HOWN := hide hown
  obtain ⟨Ac, cc, hvc⟩ := hown.1.form
  obtain ⟨_, vs, hra⟩ := hown
  obtain ⟨Ar, cr, hvr⟩ := hra.len
  subst hvc
  subst hvr
  have HRA := hide hra
  clear c0 f0 c1 f1 s0 s1 hT hCp hra hb hb2
  have hI := fun (n lo hi : Int) (W : World) => spec_l1In n lo hi W
  have fin : ∀ V : World, (∀ b, w.heap.size + 2 ≤ b → b < w2.heap.size → V.heap[b]? = w2.heap[b]?) → w2.heap.size ≤ V.heap.size → Below w.heap.size w V → edtSpan t row at' nc nr = (t, false) →
      EdtPost (edtSpan t row at' nc nr) w (.returned (.tuple #[.agg #[.slice Ac t.cols.length cc, .int .i64 t.head, .int .i64 t.foot, .slice Ar t.rows.length cr, .int .i64 t.gap], .bool false])) V := fun V h1 h2 h3 h4 => by
    rw [h4]
    have hs1 := HS1.out
    exact ⟨_, _, rfl, (HOWN.out.keep (fun b ha hb => h1 b (by omega) hb)).mono (by omega) h2, h3⟩
  have FIN := hide fin
  clear fin
  cases h1 : inB row 0 ((t.rows.length : Int) - 1) with
  | false =>
    have hE := hide (span_false (at' := at') (c := nc) (r := nr) HOK.out (.inl (by rw [h1]; rfl)))
    go_wp2_with (go_at_call 49; refine (hI _ _ _ _).mono ?_; rintro e w' ⟨rfl, rfl⟩)
    refine bodyPost_ret (v := .tuple #[.agg #[.slice Ac t.cols.length cc, .int .i64 t.head, .int .i64 t.foot, .slice Ar t.rows.length cr, .int .i64 t.gap], .bool false]) (by simp [results, Tryd.results23, go_sem, *]) rfl (FIN.out _ (fun b hb1 hb2 => ?_) (by simp) ?_ hE.out)
    · refine (heap_alloc_old _ _ (by simp; omega)).trans ?_
      (repeat' (with_reducible refine (heap_set _ _ _ _ ?_).trans ?_)) <;> first | rfl | (show b ≠ w.heap.size + 1; omega)
    · have h := HB2.out
      (repeat' (with_reducible first | exact h | refine balloc ?_ _ | refine bset ?_ ?_ _)) <;> first | (simp; done) | (simp; omega)
  | true =>
    obtain ⟨j, rfl, hj⟩ := inB_nat h1
    have hjz : (j : Int) < (t.rows.length : Int) := by omega
    obtain ⟨b, o, d0, d1, rfl, hblt, ⟨v, hK, A1, n1, rfl, hl1, hr1⟩, e0, e1⟩ := hr.at2 rfl HB2.out j hj
    simp only [List.cons.injEq, and_true] at hK
    obtain ⟨rfl, rfl⟩ := hK
    have hbw : b < w2.heap.size := by omega
    have hlen := hr1.1
    clear hr hr1
    cases h2 : inB at' 0 ((t.rows[j].cs.length : Int) - 1) with
    | false =>
      have hE := hide (span_false (row := j) (c := nc) (r := nr) HOK.out (.inr ⟨hj, h2⟩))
      go_wp2_with (go_at_call 49; refine (hI _ _ _ _).mono ?_; rintro e w' ⟨rfl, rfl⟩)
      refine bodyPost_ret (v := .tuple #[.agg #[.slice Ac t.cols.length cc, .int .i64 t.head, .int .i64 t.foot, .slice Ar t.rows.length cr, .int .i64 t.gap], .bool false]) (by simp [results, Tryd.results23, go_sem, *]) rfl (FIN.out _ (fun b hb1 hb2 => ?_) (by simp) ?_ hE.out)
      · refine (heap_alloc_old _ _ (by simp; omega)).trans ?_
        (repeat' (with_reducible refine (heap_set _ _ _ _ ?_).trans ?_)) <;> first | rfl | (show b ≠ w.heap.size + 1; omega)
      · have h := HB2.out
        (repeat' (with_reducible first | exact h | refine balloc ?_ _ | refine bset ?_ ?_ _)) <;> first | (simp; done) | (simp; omega)
    | true =>
      obtain ⟨i, rfl, hi⟩ := inB_nat h2
      have hiz : (i : Int) < (t.rows[j].cs.length : Int) := by omega
      cases h3 : inB nc 1 4 with
      | false =>
        have hE := hide (span_false (row := j) (at' := i) (c := nc) (r := nr) HOK.out (.inl (by rw [h1, h3]; rfl)))
        go_wp2_with (go_at_call 49; refine (hI _ _ _ _).mono ?_; rintro e w' ⟨rfl, rfl⟩)
        refine bodyPost_ret (v := .tuple #[.agg #[.slice Ac t.cols.length cc, .int .i64 t.head, .int .i64 t.foot, .slice Ar t.rows.length cr, .int .i64 t.gap], .bool false]) (by simp [results, Tryd.results23, go_sem, *]) rfl (FIN.out _ (fun b hb1 hb2 => ?_) (by simp) ?_ hE.out)
        · refine (heap_alloc_old _ _ (by simp; omega)).trans ?_
          (repeat' (with_reducible refine (heap_set _ _ _ _ ?_).trans ?_)) <;> first | rfl | (show b ≠ w.heap.size + 1; omega)
        · have h := HB2.out
          (repeat' (with_reducible first | exact h | refine balloc ?_ _ | refine bset ?_ ?_ _)) <;> first | (simp; done) | (simp; omega)
      | true =>
        cases h4 : inB nr 1 4 with
        | false =>
          have hE := hide (span_false (row := j) (at' := i) (c := nc) (r := nr) HOK.out (.inl (by rw [h1, h3, h4]; rfl)))
          go_wp2_with (go_at_call 49; refine (hI _ _ _ _).mono ?_; rintro e w' ⟨rfl, rfl⟩)
          refine bodyPost_ret (v := .tuple #[.agg #[.slice Ac t.cols.length cc, .int .i64 t.head, .int .i64 t.foot, .slice Ar t.rows.length cr, .int .i64 t.gap], .bool false]) (by simp [results, Tryd.results23, go_sem, *]) rfl (FIN.out _ (fun b hb1 hb2 => ?_) (by simp) ?_ hE.out)
          · refine (heap_alloc_old _ _ (by simp; omega)).trans ?_
            (repeat' (with_reducible refine (heap_set _ _ _ _ ?_).trans ?_)) <;> first | rfl | (show b ≠ w.heap.size + 1; omega)
          · have h := HB2.out
            (repeat' (with_reducible first | exact h | refine balloc ?_ _ | refine bset ?_ ?_ _)) <;> first | (simp; done) | (simp; omega)
        | true =>
          have hE := hide (span_true HOK.out hj hi h3 h4)
          have hra := HRA.out
          have hv : j < vs.length := by rw [hra.2.1]; exact hj
          obtain ⟨gr, rfl⟩ : ∃ gr, Ar = some ⟨gr, 0, none⟩ := by
            rcases hra.1 with ⟨h0, _⟩ | ⟨_, gr, crr, e, _⟩
            · omega
            · injection e with e _ _; exact ⟨gr, e⟩
          obtain ⟨g, cg, eg, hg1, hg2, hgo⟩ : ∃ g cg, vs[j] = .slice (some ⟨g, 0, none⟩) t.rows[j].cs.length cg ∧ w1.heap.size ≤ g ∧ g < w2.heap.size ∧ w2.ownsRow w1.heap.size 65 11 (.slice (some ⟨g, 0, none⟩) t.rows[j].cs.length cg) t.rows[j].cs.length (t.rows[j].cs.flatMap cellE) := by
            rcases hra.2.2.1 j hv hj with ⟨h0, _⟩ | ⟨_, g, cg, e, h1, h2, h3⟩
            · omega
            · exact ⟨g, cg, e, h1, h2, e ▸ h3⟩
          obtain ⟨p0, _, pf, hr1, hr2⟩ := hra.at j hv hj
          rw [eg] at p0
          have hln := hgo.1
          have q1 := hgo.cellAt (i * 11 + 1) (by omega)
          have q2 := hgo.cellAt (i * 11 + 2) (by omega)
          rw [List.getElem?_eq_getElem (by omega)] at q1 q2
          have qf1 := hgo.frozenAt (i * 11 + 1)
          have qf2 := hgo.frozenAt (i * 11 + 2)
          have hne : g ≠ gr := by
            intro e
            subst e
            obtain ⟨cur, hcur⟩ := own_type hgo
            obtain ⟨cur2, hcur2⟩ := hra.head (by omega)
            rw [hcur] at hcur2
            injection hcur2 with e; injection e with _ e; exact absurd e (by decide)
          have hs1 := HS1.out
          have hneX : g ≠ w2.heap.size := by omega
          have hneR : g ≠ w.heap.size + 1 := by omega
          have hneT : g ≠ w.heap.size := by omega
          have hneb : g ≠ b := by omega
          have hgrX : gr < w2.heap.size := hr2
          have HRS := hide (hra.span j hv hj g cg eg i hi nc nr (Nat.le_refl _))
          have HQ := hide hgo
          clear hra hgo
          go_wp2_with (go_at_call 49; refine (hI _ _ _ _).mono ?_; rintro e w' ⟨rfl, rfl⟩)
          rw [hE.out]
          have HV1 : Hid (OwnTbl ((w2.setCell ⟨g, i * 11 + 1, none⟩ (.int .i64 nc)).setCell ⟨g, i * 11 + 2, none⟩ (.int .i64 nr)) w1.heap.size w2.heap.size (.slice Ac t.cols.length cc) (.slice (some ⟨gr, 0, none⟩) t.rows.length cr) { t with rows := t.rows.set j ⟨t.rows[j].cs.set i { t.rows[j].cs[i] with c := nc, r := nr }, t.rows[j].wh⟩ }) := by
            obtain ⟨cur, hcur⟩ := own_type HQ.out
            refine ⟨HOWN.out.1.spare (Spare.grow (grow_trans (grow_set w2 (a := ⟨g, i * 11 + 1, none⟩) rfl (.int .i64 nc)) (grow_set _ (a := ⟨g, i * 11 + 2, none⟩) rfl (.int .i64 nr))) hcur (by decide)), vs, HRS.out⟩
          refine bodyPost_ret (v := .tuple #[.agg #[.slice Ac t.cols.length cc, .int .i64 t.head, .int .i64 t.foot, .slice (some ⟨gr, 0, none⟩) t.rows.length cr, .int .i64 t.gap], .bool true]) (by simp [results, Tryd.results23, go_sem, *]) rfl ⟨_, _, rfl, (HV1.out.keep (fun b hb1 hb2 => ?_)).mono (by omega) (by first | (simp; done) | (simp; omega)), ?_⟩
          · refine (heap_alloc_old _ _ (by simp; omega)).trans ?_
            refine (heap_set _ _ _ _ (show b ≠ w.heap.size + 1 by omega)).trans ?_
            refine (heap_set _ _ _ _ (show b ≠ w.heap.size + 1 by omega)).trans ?_
            refine (heap_set _ _ _ _ (show b ≠ w.heap.size + 1 by omega)).trans ?_
            refine (heap_set _ _ _ _ (show b ≠ w.heap.size + 1 by omega)).trans ?_
            exact heap_set _ _ _ _ (show b ≠ w.heap.size + 1 by omega)
          · have h := HB2.out
            (repeat' (with_reducible first | exact h | refine balloc ?_ _ | refine bset ?_ ?_ _)) <;> first | (simp; done) | (simp; omega)
theorem spec_EdtSpan (t : Tbl) (A : Option Addr) (c : Nat) (A' : Option Addr) (c' : Nat) (row at' nc nr : Int) (w : World) (hc : Rd colR w A t.cols) (hr : Rd rowR w A' t.rows) (hcl : Lies colE w (.slice A t.cols.length c) t.cols) (hro : Rd rowO w A' t.rows) :
    Calls Tryd.prog 23 #[.agg #[.slice A t.cols.length c, .int .i64 t.head, .int .i64 t.foot, .slice A' t.rows.length c', .int .i64 t.gap], .int .i64 row, .int .i64 at', .int .i64 nc, .int .i64 nr] w (EdtPost (edtSpan t row at' nc nr) w) := by
  cases hok : tblOk t with
  | false => exact spec_EdtSpan0 t A c A' c' row at' nc nr w hok hc hr
  | true => exact spec_EdtSpan1 t A c A' c' row at' nc nr w hok hc hr hcl hro
end Go.Proofs.YtfcogogpioeggaaDoor
