import Derived.Test.YtfcogogpioeggaaDoorKv
namespace Go.Proofs.YtfcogogpioeggaaDoor
open Go.RowKit
/- The program's EdtTake; how large what it hands out is. -/
theorem take_frame {t : Tbl} {row at' : Int} (hok : tblOk t = false) : edtTake t row at' = (⟨[], 0, 0, [], 0⟩, false) := by unfold edtTake; rw [if_neg (by simp [hok])]
theorem edited_take (t : Tbl) (A : Option Addr) (c : Nat) (A' : Option Addr) (c' : Nat) (B1 B2 : Nat) (row at' : Int) (w : World) (hw : Base w) (hc : Rd colR w A t.cols) (hr : Rd rowR w A' t.rows) (hcl : Lies colE w (.slice A t.cols.length c) t.cols) (hro : Rd rowO w A' t.rows)
    (b1 : w.cell? ⟨B1, 0, none⟩ = some (.int .i64 row)) (b2 : w.cell? ⟨B2, 0, none⟩ = some (.int .i64 at')) :
    Calls Tryd.prog 64 #[.agg #[.slice A t.cols.length c, .int .i64 t.head, .int .i64 t.foot, .slice A' t.rows.length c', .int .i64 t.gap], .func (.func 65) #[] #[.pointer (some ⟨B1, 0, none⟩), .pointer (some ⟨B2, 0, none⟩)]] w (EdtPost (edtTake t row at') w) := by
  cases hok : tblOk t with
  | false => rw [take_frame hok]; exact editG0 t A c A' c' 65 _ w hok hw hc hr
  | true => exact editG1 t A c A' c' 65 _ (enters_of Tryd.func65 (by kernel_rfl) rfl) _ w hok hw hc hr hcl hro (take_edit t B1 B2 row at' w hok b1 b2)
set_option maxRecDepth 100000 in
set_option maxHeartbeats 4000000 in
theorem impl_EdtTake (t : Tbl) (A : Option Addr) (c : Nat) (A' : Option Addr) (c' : Nat) (row at' : Int) (w : World) (hw : Base w) (hc : Rd colR w A t.cols) (hr : Rd rowR w A' t.rows) (hcl : Lies colE w (.slice A t.cols.length c) t.cols) (hro : Rd rowO w A' t.rows) :
    Calls Tryd.prog 28 #[.agg #[.slice A t.cols.length c, .int .i64 t.head, .int .i64 t.foot, .slice A' t.rows.length c', .int .i64 t.gap], .int .i64 row, .int .i64 at'] w (EdtPost (edtTake t row at') w) := by
  have hE := fun (W : World) (h : Below w.heap.size w W) (b1 : W.cell? ⟨w.heap.size + 1, 0, none⟩ = some (.int .i64 row)) (b2 : W.cell? ⟨w.heap.size + 1 + 1, 0, none⟩ = some (.int .i64 at')) =>
    edited_take t A c A' c' (w.heap.size + 1) (w.heap.size + 1 + 1) row at' W (hw.below h) (hc.below h) (hr.below h) (hcl.below h) (hro.below h) b1 b2
  generalize edtTake t row at' = g at hE ⊢
  have HE := hide hE
  have hmf := @run_mkf Tryd.prog
  clear hE hw hc hr hcl hro
  go_enter Tryd.func28, Tryd.ntmps28
  go_wp2_with fail
  refine (HE.out _ (balloc (balloc (balloc (balloc (brefl w) _) _) _) _) ?_ ?_).mono ?_
  iterate 2 (focus first | (simp; done) | (simp [go_sem]; done) | (simp [World.cell?_alloc_some]; done))
  rintro e w1 ⟨vc, vr, rfl, ho, hb⟩
  obtain ⟨Ac, cc, hvc⟩ := ho.1.form
  obtain ⟨Ar, cr, hvr⟩ : ∃ A c, vr = .slice A g.1.rows.length c := by obtain ⟨_, vs, hra⟩ := ho; exact hra.len
  subst hvc
  subst hvr
  obtain ⟨c1, f1, s1⟩ := seenBk (w.heap.size + 1 + 1 + 1) (by first | (simp; omega) | simp [*]) hb
  have HO := hide ho
  have HB := hide (step (balloc (balloc (balloc (balloc (brefl w) _) _) _) _) hb)
  have hs0 : w.heap.size + 4 ≤ w1.heap.size := by have := hb.size; simp at this; omega
  clear ho hb HE
  go_wp2_with fail
  refine bodyPost_ret (v := .tuple #[.agg #[.slice Ac g.1.cols.length cc, .int .i64 g.1.head, .int .i64 g.1.foot, .slice Ar g.1.rows.length cr, .int .i64 g.1.gap], .bool g.2]) (by simp [results, Tryd.results28, go_sem, *]) rfl ⟨_, _, rfl, (HO.out.keep (fun b hb1 hb2 => ?_)).mono (by simp; omega) (by simp), ?_⟩
  · simp at hb1
    refine (heap_set _ _ _ _ (show b ≠ w.heap.size + 1 + 1 + 1 by omega)).trans ?_
    refine (heap_set _ _ _ _ (show b ≠ w.heap.size + 1 + 1 + 1 by omega)).trans ?_
    refine (heap_set _ _ _ _ (show b ≠ w.heap.size + 1 + 1 + 1 by omega)).trans ?_
    refine (heap_set _ _ _ _ (show b ≠ w.heap.size + 1 + 1 + 1 by omega)).trans ?_
    exact heap_set _ _ _ _ (show b ≠ w.heap.size + 1 + 1 + 1 by omega)
  · have h := HB.out
    (repeat' (with_reducible first | exact h | refine bset ?_ ?_ _)) <;> first | (simp; done) | (simp; omega)
theorem take_sized {t : Tbl} (h : SizedC t.rows) (row at' : Int) : SizedC (edtTake t row at').1.rows := by
  unfold edtTake
  split
  · split
    · rename_i h1
      split
      · intro x hx y hy
        rcases List.mem_or_eq_of_mem_set hx with hx | rfl
        · exact h x hx y hy
        · have hmem : t.rows[row.toNat] ∈ t.rows := List.getElem_mem h1.2
          rcases List.mem_append.1 hy with hy | hy
          · exact h _ hmem y (List.mem_of_mem_take hy)
          · exact h _ hmem y (List.mem_of_mem_drop hy)
      · exact h
    · exact h
  · intro x hx; cases hx
theorem take_small {t : Tbl} (h : SmallT t) (row at' : Int) : SmallT (edtTake t row at').1 := by
  obtain ⟨h1, h2, h3⟩ := h
  unfold edtTake
  split
  · split
    · rename_i k1
      split
      · refine ⟨h1, by simpa using h2, fun x hx => ?_⟩
        rcases List.mem_or_eq_of_mem_set hx with hx | rfl
        · exact h3 x hx
        · have := h3 _ (List.getElem_mem k1.2)
          simp only [List.length_append, List.length_take, List.length_drop]
          omega
      · exact ⟨h1, h2, h3⟩
    · exact ⟨h1, h2, h3⟩
  · exact ⟨by simp, by simp, fun x hx => by cases hx⟩
end Go.Proofs.YtfcogogpioeggaaDoor
