import Derived.Test.YtfcogogpioeggaaDoorLd
namespace Go.Proofs.YtfcogogpioeggaaDoor
open Go.RowKit
/- The program's EdtRow; how large what it hands out is. -/
theorem row_frame {t : Tbl} {at' : Int} (hok : tblOk t = false) : edtRow t at' = (⟨[], 0, 0, [], 0⟩, false) := by unfold edtRow; rw [if_neg (by simp [hok])]
theorem edited_row (t : Tbl) (A : Option Addr) (c : Nat) (A' : Option Addr) (c' : Nat) (B1 : Nat) (at' : Int) (w : World) (hw : Base w) (hc : Rd colR w A t.cols) (hr : Rd rowR w A' t.rows) (hcl : Lies colE w (.slice A t.cols.length c) t.cols) (hro : Rd rowO w A' t.rows)
    (b1 : w.cell? ⟨B1, 0, none⟩ = some (.int .i64 at')) :
    Calls Tryd.prog 64 #[.agg #[.slice A t.cols.length c, .int .i64 t.head, .int .i64 t.foot, .slice A' t.rows.length c', .int .i64 t.gap], .func (.func 68) #[] #[.pointer (some ⟨B1, 0, none⟩)]] w (EdtPost (edtRow t at') w) := by
  cases hok : tblOk t with
  | false => rw [row_frame hok]; exact editG0 t A c A' c' 68 _ w hok hw hc hr
  | true => exact editG1 t A c A' c' 68 _ (enters_of Tryd.func68 (by kernel_rfl) rfl) _ w hok hw hc hr hcl hro (row_edit t B1 at' w hok b1)
set_option maxRecDepth 100000 in
set_option maxHeartbeats 4000000 in
theorem impl_EdtRow (t : Tbl) (A : Option Addr) (c : Nat) (A' : Option Addr) (c' : Nat) (at' : Int) (w : World) (hw : Base w) (hc : Rd colR w A t.cols) (hr : Rd rowR w A' t.rows) (hcl : Lies colE w (.slice A t.cols.length c) t.cols) (hro : Rd rowO w A' t.rows) :
    Calls Tryd.prog 30 #[.agg #[.slice A t.cols.length c, .int .i64 t.head, .int .i64 t.foot, .slice A' t.rows.length c', .int .i64 t.gap], .int .i64 at'] w (EdtPost (edtRow t at') w) := by
  have hE := fun (W : World) (h : Below w.heap.size w W) (b1 : W.cell? ⟨w.heap.size + 1, 0, none⟩ = some (.int .i64 at')) =>
    edited_row t A c A' c' (w.heap.size + 1) at' W (hw.below h) (hc.below h) (hr.below h) (hcl.below h) (hro.below h) b1
  generalize edtRow t at' = g at hE ⊢
  have HE := hide hE
  have hmf := @run_mkf Tryd.prog
  clear hE hw hc hr hcl hro
  go_enter Tryd.func30, Tryd.ntmps30
  go_wp2_with fail
  refine (HE.out _ (balloc (balloc (balloc (brefl w) _) _) _) ?_).mono ?_
  iterate 1 (focus first | (simp; done) | (simp [go_sem]; done) | (simp [World.cell?_alloc_some]; done))
  rintro e w1 ⟨vc, vr, rfl, ho, hb⟩
  obtain ⟨Ac, cc, hvc⟩ := ho.1.form
  obtain ⟨Ar, cr, hvr⟩ : ∃ A c, vr = .slice A g.1.rows.length c := by obtain ⟨_, vs, hra⟩ := ho; exact hra.len
  subst hvc
  subst hvr
  obtain ⟨c1, f1, s1⟩ := seenBk (w.heap.size + 1 + 1) (by first | (simp; omega) | simp [*]) hb
  have HO := hide ho
  have HB := hide (step (balloc (balloc (balloc (brefl w) _) _) _) hb)
  have hs0 : w.heap.size + 3 ≤ w1.heap.size := by have := hb.size; simp at this; omega
  clear ho hb HE
  go_wp2_with fail
  refine bodyPost_ret (v := .tuple #[.agg #[.slice Ac g.1.cols.length cc, .int .i64 g.1.head, .int .i64 g.1.foot, .slice Ar g.1.rows.length cr, .int .i64 g.1.gap], .bool g.2]) (by simp [results, Tryd.results30, go_sem, *]) rfl ⟨_, _, rfl, (HO.out.keep (fun b hb1 hb2 => ?_)).mono (by simp; omega) (by simp), ?_⟩
  · simp at hb1
    refine (heap_set _ _ _ _ (show b ≠ w.heap.size + 1 + 1 by omega)).trans ?_
    refine (heap_set _ _ _ _ (show b ≠ w.heap.size + 1 + 1 by omega)).trans ?_
    refine (heap_set _ _ _ _ (show b ≠ w.heap.size + 1 + 1 by omega)).trans ?_
    refine (heap_set _ _ _ _ (show b ≠ w.heap.size + 1 + 1 by omega)).trans ?_
    exact heap_set _ _ _ _ (show b ≠ w.heap.size + 1 + 1 by omega)
  · have h := HB.out
    (repeat' (with_reducible first | exact h | refine bset ?_ ?_ _)) <;> first | (simp; done) | (simp; omega)
theorem row_sized {t : Tbl} (h : SizedC t.rows) (at' : Int) : SizedC (edtRow t at').1.rows := by
  unfold edtRow
  split
  · split
    · intro x hx y hy
      rcases List.mem_append.1 hx with hx | hx
      · rcases List.mem_append.1 hx with hx | hx
        · exact h x (List.mem_of_mem_take hx) y hy
        · rw [List.mem_singleton.1 hx] at hy; cases hy
      · exact h x (List.mem_of_mem_drop hx) y hy
    · exact h
  · intro x hx; cases hx
theorem row_small {t : Tbl} (h : SmallT t) (at' : Int) : SmallT (edtRow t at').1 := by
  unfold edtRow
  split
  · rename_i hok
    obtain ⟨h1, h2, h3⟩ := h
    have h8 := (ok_ends hok).2.2.2.2
    split
    · refine ⟨h1, ?_, fun x hx => ?_⟩
      · simp only [List.length_append, List.length_take, List.length_drop, List.length_cons, List.length_nil]
        omega
      · rcases List.mem_append.1 hx with hx | hx
        · rcases List.mem_append.1 hx with hx | hx
          · exact h3 x (List.mem_of_mem_take hx)
          · rw [List.mem_singleton.1 hx]; simp
        · exact h3 x (List.mem_of_mem_drop hx)
    · exact ⟨h1, h2, h3⟩
  · exact ⟨by simp, by simp, fun x hx => by cases hx⟩
end Go.Proofs.YtfcogogpioeggaaDoor
