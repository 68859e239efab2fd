import Derived.Test.YtfcogogpioeggaaDoorKn
namespace Go.Proofs.YtfcogogpioeggaaDoor
open Go.RowKit
/- The program's EdtSpan. -/
theorem edited_span (t : Tbl) (A : Option Addr) (c : Nat) (A' : Option Addr) (c' : Nat) (B1 B2 B3 Bc Br : Nat) (row at' nc nr : Int) (w : World) (hw : Base w) (hc : Rd colR w A t.cols) (hr : Rd rowR w A' t.rows) (hcl : Lies colE w (.slice A t.cols.length c) t.cols) (hro : Rd rowO w A' t.rows)
    (b1 : w.cell? ⟨B1, 0, none⟩ = some (.int .i64 row)) (b2 : w.cell? ⟨B2, 0, none⟩ = some (.int .i64 at')) (b3 : w.cell? ⟨B3, 0, none⟩ = some (.func (.func 58) #[] #[.pointer (some ⟨Bc, 0, none⟩), .pointer (some ⟨Br, 0, none⟩)])) (bc : w.cell? ⟨Bc, 0, none⟩ = some (.int .i64 nc)) (br : w.cell? ⟨Br, 0, none⟩ = some (.int .i64 nr)) :
    Calls Tryd.prog 64 #[.agg #[.slice A t.cols.length c, .int .i64 t.head, .int .i64 t.foot, .slice A' t.rows.length c', .int .i64 t.gap], .func (.func 96) #[] #[.pointer (some ⟨B1, 0, none⟩), .pointer (some ⟨B2, 0, none⟩), .pointer (some ⟨B3, 0, none⟩)]] w (EdtPost (edtSpan t row at' nc nr) w) := by
  cases hok : tblOk t with
  | false => exact edited0 t A c A' c' B1 B2 B3 row at' nc nr w hok hw hc hr
  | true =>
    refine edited1 t A c A' c' B1 B2 B3 _ w hok hw hc hr hcl hro ?_ (span_edit t B1 B2 B3 Bc Br row at' nc nr w hok b1 b2 b3 bc br)
    unfold edtSpan
    rw [if_pos hok]
    split
    · split
      · split <;> exact ⟨rfl, rfl, rfl⟩
      · exact ⟨rfl, rfl, rfl⟩
    · exact ⟨rfl, rfl, rfl⟩
set_option maxRecDepth 100000 in
set_option maxHeartbeats 4000000 in
theorem impl_cellAt (t : Tbl) (A : Option Addr) (c : Nat) (A' : Option Addr) (c' : Nat) (Bc Br : Nat) (row at' nc nr : Int) (w : World) (hw : Base w) (hc : Rd colR w A t.cols) (hr : Rd rowR w A' t.rows) (hcl : Lies colE w (.slice A t.cols.length c) t.cols) (hro : Rd rowO w A' t.rows)
    (bc : w.cell? ⟨Bc, 0, none⟩ = some (.int .i64 nc)) (br : w.cell? ⟨Br, 0, none⟩ = some (.int .i64 nr)) :
    Calls Tryd.prog 57 #[.agg #[.slice A t.cols.length c, .int .i64 t.head, .int .i64 t.foot, .slice A' t.rows.length c', .int .i64 t.gap], .int .i64 row, .int .i64 at', .func (.func 58) #[] #[.pointer (some ⟨Bc, 0, none⟩), .pointer (some ⟨Br, 0, none⟩)]] w (EdtPost (edtSpan t row at' nc nr) w) := by
  have hE := fun (W : World) (h : Below w.heap.size w W) (b1 : W.cell? ⟨w.heap.size + 1, 0, none⟩ = some (.int .i64 row)) (b2 : W.cell? ⟨w.heap.size + 1 + 1, 0, none⟩ = some (.int .i64 at')) (b3 : W.cell? ⟨w.heap.size + 1 + 1 + 1, 0, none⟩ = some (.func (.func 58) #[] #[.pointer (some ⟨Bc, 0, none⟩), .pointer (some ⟨Br, 0, none⟩)])) =>
    edited_span t A c A' c' (w.heap.size + 1) (w.heap.size + 1 + 1) (w.heap.size + 1 + 1 + 1) Bc Br row at' nc nr W (hw.below h) (hc.below h) (hr.below h) (hcl.below h) (hro.below h) b1 b2 b3 (keepW h bc) (keepW h br)
  generalize edtSpan t row at' nc nr = g at hE ⊢
  have HE := hide hE
  have hmf := @run_mkf Tryd.prog
  clear hE hw hc hr hcl hro bc br
  go_enter Tryd.func57, Tryd.ntmps57
  go_wp2_with fail
  refine (HE.out _ (balloc (balloc (balloc (balloc (balloc (brefl w) _) _) _) _) _) ?_ ?_ ?_).mono ?_
  iterate 3 (focus first | (simp; done) | (simp [go_sem]; done) | (simp [World.cell?_alloc_some]; done))
  rintro e w1 ⟨vc, vr, rfl, ho, hb⟩
  obtain ⟨Ac, cc, hvc⟩ := ho.1.form
  obtain ⟨Ar, cr, hvr⟩ : ∃ A c, vr = .slice A g.1.rows.length c := by obtain ⟨_, vs, hra⟩ := ho; exact hra.len
  subst hvc
  subst hvr
  obtain ⟨c1, f1, s1⟩ := seenBk (w.heap.size + 1 + 1 + 1 + 1) (by first | (simp; omega) | simp [*]) hb
  have HO := hide ho
  have HB := hide (step (balloc (balloc (balloc (balloc (balloc (brefl w) _) _) _) _) _) hb)
  have hs0 : w.heap.size + 5 ≤ w1.heap.size := by have := hb.size; simp at this; omega
  clear ho hb HE
  go_wp2_with fail
  refine bodyPost_ret (v := .tuple #[.agg #[.slice Ac g.1.cols.length cc, .int .i64 g.1.head, .int .i64 g.1.foot, .slice Ar g.1.rows.length cr, .int .i64 g.1.gap], .bool g.2]) (by simp [results, Tryd.results57, go_sem, *]) rfl ⟨_, _, rfl, (HO.out.keep (fun b hb1 hb2 => ?_)).mono (by simp; omega) (by simp), ?_⟩
  · simp at hb1
    refine (heap_set _ _ _ _ (show b ≠ w.heap.size + 1 + 1 + 1 + 1 by omega)).trans ?_
    refine (heap_set _ _ _ _ (show b ≠ w.heap.size + 1 + 1 + 1 + 1 by omega)).trans ?_
    refine (heap_set _ _ _ _ (show b ≠ w.heap.size + 1 + 1 + 1 + 1 by omega)).trans ?_
    refine (heap_set _ _ _ _ (show b ≠ w.heap.size + 1 + 1 + 1 + 1 by omega)).trans ?_
    exact heap_set _ _ _ _ (show b ≠ w.heap.size + 1 + 1 + 1 + 1 by omega)
  · have h := HB.out
    (repeat' (with_reducible first | exact h | refine bset ?_ ?_ _)) <;> first | (simp; done) | (simp; omega)
set_option maxRecDepth 100000 in
set_option maxHeartbeats 4000000 in
theorem impl_EdtSpan (t : Tbl) (A : Option Addr) (c : Nat) (A' : Option Addr) (c' : Nat) (row at' nc nr : Int) (w : World) (hw : Base w) (hc : Rd colR w A t.cols) (hr : Rd rowR w A' t.rows) (hcl : Lies colE w (.slice A t.cols.length c) t.cols) (hro : Rd rowO w A' t.rows) :
    Calls Tryd.prog 24 #[.agg #[.slice A t.cols.length c, .int .i64 t.head, .int .i64 t.foot, .slice A' t.rows.length c', .int .i64 t.gap], .int .i64 row, .int .i64 at', .int .i64 nc, .int .i64 nr] w (EdtPost (edtSpan t row at' nc nr) w) := by
  have hE := fun (W : World) (h : Below w.heap.size w W) (b1 : W.cell? ⟨w.heap.size + 1, 0, none⟩ = some (.int .i64 nc)) (b2 : W.cell? ⟨w.heap.size + 1 + 1, 0, none⟩ = some (.int .i64 nr)) =>
    impl_cellAt t A c A' c' (w.heap.size + 1) (w.heap.size + 1 + 1) row at' nc nr W (hw.below h) (hc.below h) (hr.below h) (hcl.below h) (hro.below h) b1 b2
  generalize edtSpan t row at' nc nr = g at hE ⊢
  have HE := hide hE
  have hmf := @run_mkf Tryd.prog
  clear hE hw hc hr hcl hro
  go_enter Tryd.func24, Tryd.ntmps24
  go_wp2_with fail
  refine (HE.out _ (balloc (balloc (balloc (balloc (brefl w) _) _) _) _) ?_ ?_).mono ?_
  iterate 2 (focus first | (simp; done) | (simp [go_sem]; done) | (simp [World.cell?_alloc_some]; done))
  rintro e w1 ⟨vc, vr, rfl, ho, hb⟩
  obtain ⟨Ac, cc, hvc⟩ := ho.1.form
  obtain ⟨Ar, cr, hvr⟩ : ∃ A c, vr = .slice A g.1.rows.length c := by obtain ⟨_, vs, hra⟩ := ho; exact hra.len
  subst hvc
  subst hvr
  obtain ⟨c1, f1, s1⟩ := seenBk (w.heap.size + 1 + 1 + 1) (by first | (simp; omega) | simp [*]) hb
  have HO := hide ho
  have HB := hide (step (balloc (balloc (balloc (balloc (brefl w) _) _) _) _) hb)
  have hs0 : w.heap.size + 4 ≤ w1.heap.size := by have := hb.size; simp at this; omega
  clear ho hb HE
  go_wp2_with fail
  refine bodyPost_ret (v := .tuple #[.agg #[.slice Ac g.1.cols.length cc, .int .i64 g.1.head, .int .i64 g.1.foot, .slice Ar g.1.rows.length cr, .int .i64 g.1.gap], .bool g.2]) (by simp [results, Tryd.results24, go_sem, *]) rfl ⟨_, _, rfl, (HO.out.keep (fun b hb1 hb2 => ?_)).mono (by simp; omega) (by simp), ?_⟩
  · simp at hb1
    refine (heap_set _ _ _ _ (show b ≠ w.heap.size + 1 + 1 + 1 by omega)).trans ?_
    refine (heap_set _ _ _ _ (show b ≠ w.heap.size + 1 + 1 + 1 by omega)).trans ?_
    refine (heap_set _ _ _ _ (show b ≠ w.heap.size + 1 + 1 + 1 by omega)).trans ?_
    refine (heap_set _ _ _ _ (show b ≠ w.heap.size + 1 + 1 + 1 by omega)).trans ?_
    exact heap_set _ _ _ _ (show b ≠ w.heap.size + 1 + 1 + 1 by omega)
  · have h := HB.out
    (repeat' (with_reducible first | exact h | refine bset ?_ ?_ _)) <;> first | (simp; done) | (simp; omega)
end Go.Proofs.YtfcogogpioeggaaDoor
