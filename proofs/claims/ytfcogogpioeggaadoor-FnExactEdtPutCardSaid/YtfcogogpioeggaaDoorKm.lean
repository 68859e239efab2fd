import Derived.Test.YtfcogogpioeggaaDoorKl
namespace Go.Proofs.YtfcogogpioeggaaDoor
open Go.RowKit
/- The program's EdtSpan: an edited copy. -/
set_option maxRecDepth 100000 in
set_option maxHeartbeats 4000000 in
theorem edited0 (t : Tbl) (A : Option Addr) (c : Nat) (A' : Option Addr) (c' : Nat) (B1 B2 B3 : Nat) (row at' nc nr : Int) (w : World) (hok : tblOk t = false) (hw : Base w) (hc : Rd colR w A t.cols) (hr : Rd rowR w A' t.rows) : Calls Tryd.prog 64 #[.agg #[.slice A t.cols.length c, .int .i64 t.head, .int .i64 t.foot, .slice A' t.rows.length c', .int .i64 t.gap], .func (.func 96) #[] #[.pointer (some ⟨B1, 0, none⟩), .pointer (some ⟨B2, 0, none⟩), .pointer (some ⟨B3, 0, none⟩)]] w (EdtPost (edtSpan t row at' nc nr) w) := by
  have hT := fun (W : World) (h : Below w.heap.size w W) => impl_TblOk t A c A' c' W (hw.below h) (hc.below h) (hr.below h)
  rw [hok] at hT
  have hres : edtSpan t row at' nc nr = (⟨[], 0, 0, [], 0⟩, false) := by unfold edtSpan; rw [if_neg (by simp [hok])]
  rw [hres]
  clear hres hc hr hok hw
  go_enter Tryd.func64, Tryd.ntmps64
  go_wp2_with fail
  refine (hT _ (balloc (balloc (brefl _) _) _)).mono ?_
  rintro e w1 ⟨rfl, hb⟩
  obtain ⟨c1, f1, s1⟩ := seenBk (w.heap.size + 1) (by first | (simp; omega) | simp [*]) hb
  have HB := step (balloc (balloc (brefl w) _) _) hb
  go_wp2_with fail
  refine bodyPost_ret (v := .tuple #[.agg #[.slice none 0 0, .int .i64 0, .int .i64 0, .slice none 0 0, .int .i64 0], .bool false]) (by simp [results, Tryd.results64, go_sem, *]) rfl ⟨_, _, rfl, OwnTbl.empty _ _ _ _ _ _, ?_⟩
  (repeat' (with_reducible first | exact HB | refine bset ?_ ?_ _)) <;> first | (simp; done) | (simp; omega)
/-- The copy is there, in a block of its own: what the edit is handed. -/
def Copied (t : Tbl) (w w1 w2 : World) (Ac : Option Addr) (cc : Nat) (Ar : Option Addr) (cr : Nat) : Prop :=
  OwnTbl w2 w1.heap.size w2.heap.size (.slice Ac t.cols.length cc) (.slice Ar t.rows.length cr) t ∧ Below w.heap.size w w2 ∧ w.heap.size + 2 ≤ w1.heap.size ∧ w1.heap.size ≤ w2.heap.size
theorem below_within {w W V : World} {lo hi : Nat} (h : Below w.heap.size w W) (hw : Within lo hi W V) (hlo : w.heap.size ≤ lo) : Below w.heap.size w V :=
  h.trans ⟨hw.os, hw.tape, hw.output, hw.size, fun k hk => hw.block k (by have := h.size; omega) (.inl (by omega))⟩
theorem after_edit {w2 w5 : World} {lo : Nat} {o : Obj} (h : Within lo w2.heap.size (w2.alloc o) w5) : ∀ b i, b ≤ w2.heap.size → (b < lo ∨ w2.heap.size ≤ b) → w5.cell? ⟨b, i, none⟩ = (w2.alloc o).cell? ⟨b, i, none⟩ ∧ w5.frozen? ⟨b, i, none⟩ = (w2.alloc o).frozen? ⟨b, i, none⟩ := fun b i hb hd => by
  have e := h.block b (by simp; omega) hd
  exact ⟨World.cell?_of_block e, World.frozen?_of_block e⟩
set_option maxRecDepth 100000 in
set_option maxHeartbeats 4000000 in
/-- What is left, once it is known what the edit does. -/
theorem edited1 (t : Tbl) (A : Option Addr) (c : Nat) (A' : Option Addr) (c' : Nat) (B1 B2 B3 : Nat) (g : Tbl × Bool) (w : World) (hok : tblOk t = true) (hw : Base w) (hc : Rd colR w A t.cols) (hr : Rd rowR w A' t.rows) (hcl : Lies colE w (.slice A t.cols.length c) t.cols) (hro : Rd rowO w A' t.rows)
    (hg : g.1.head = t.head ∧ g.1.foot = t.foot ∧ g.1.gap = t.gap)
    (hf : ∀ (w1 w2 : World) (Ac : Option Addr) (cc : Nat) (Ar : Option Addr) (cr : Nat), Copied t w w1 w2 Ac cc Ar cr → Calls Tryd.prog 96 #[.pointer (some ⟨w2.heap.size, 0, none⟩), .pointer (some ⟨B1, 0, none⟩), .pointer (some ⟨B2, 0, none⟩), .pointer (some ⟨B3, 0, none⟩)] (w2.alloc (.cells #[.slice Ac t.cols.length cc, .int .i64 t.head, .int .i64 t.foot, .slice Ar t.rows.length cr, .int .i64 t.gap] 33))
      fun e w' => e = .returned (.bool g.2) ∧ OwnTbl w' w1.heap.size w2.heap.size (.slice Ac t.cols.length cc) (.slice Ar t.rows.length cr) g.1 ∧ Within w1.heap.size w2.heap.size (w2.alloc (.cells #[.slice Ac t.cols.length cc, .int .i64 t.head, .int .i64 t.foot, .slice Ar t.rows.length cr, .int .i64 t.gap] 33)) w') :
    Calls Tryd.prog 64 #[.agg #[.slice A t.cols.length c, .int .i64 t.head, .int .i64 t.foot, .slice A' t.rows.length c', .int .i64 t.gap], .func (.func 96) #[] #[.pointer (some ⟨B1, 0, none⟩), .pointer (some ⟨B2, 0, none⟩), .pointer (some ⟨B3, 0, none⟩)]] w (EdtPost g w) := by
  have hT := fun (W : World) (h : Below w.heap.size w W) => impl_TblOk t A c A' c' W (hw.below h) (hc.below h) (hr.below h)
  rw [hok] at hT
  have hCp := fun (W : World) (h : Below w.heap.size w W) => copied t A c A' c' W (hcl.below h) (hro.below h) (small_of_ok hok)
  have HF := hide hf
  have heg : ∀ args w, (callFunc 96 args).run Tryd.prog w = .ok (.enter 96 args) w := enters_of Tryd.func96 (by kernel_rfl) rfl
  clear hok hc hr hcl hro hw hf
  go_enter Tryd.func64, Tryd.ntmps64
  go_wp2_with fail
  refine (hT _ (balloc (balloc (brefl _) _) _)).mono ?_
  rintro e w1 ⟨rfl, hb⟩
  obtain ⟨c0, f0, s0⟩ := seenBk w.heap.size (by first | (simp; omega) | simp [*]) hb
  obtain ⟨c1, f1, s1⟩ := seenBk (w.heap.size + 1) (by first | (simp; omega) | simp [*]) hb
  have HB := step (balloc (balloc (brefl w) _) _) hb
  go_wp2_with fail
  refine (hCp _ HB).mono ?_
  rintro e w2 ⟨vc, vr, rfl, hown, hb2⟩
  have u0 : w2.cell? ⟨w.heap.size + 1, 0, none⟩ = some (.slice none 0 0) := keepW hb2 (by simp [c1])
  have u1 : w2.cell? ⟨w.heap.size + 1, 1, none⟩ = some (.int .i64 0) := keepW hb2 (by simp [c1])
  have u2 : w2.cell? ⟨w.heap.size + 1, 2, none⟩ = some (.int .i64 0) := keepW hb2 (by simp [c1])
  have u3 : w2.cell? ⟨w.heap.size + 1, 3, none⟩ = some (.slice none 0 0) := keepW hb2 (by simp [c1])
  have u4 : w2.cell? ⟨w.heap.size + 1, 4, none⟩ = some (.int .i64 0) := keepW hb2 (by simp [c1])
  have uf : ∀ i, w2.frozen? ⟨w.heap.size + 1, i, none⟩ = false := fun i => ((seenBk _ s1 hb2).2.1 i).trans (by simp [f1])
  have hul : w.heap.size + 1 < w2.heap.size := Nat.lt_of_lt_of_le s1 hb2.size
  obtain ⟨Ac, cc, hvc⟩ := hown.1.form
  obtain ⟨Ar, cr, hvr⟩ : ∃ A c, vr = .slice A t.rows.length c := by obtain ⟨_, vs, hra⟩ := hown; exact hra.len
  subst hvc
  subst hvr
  have HB2 := hide (step HB hb2)
  have HS1 := hide (show w.heap.size + 2 ≤ w1.heap.size from s1)
  have hcall := HF.out w1 w2 Ac cc Ar cr ⟨hown, HB2.out, HS1.out, hb2.size⟩
  have hs12 := hb2.size
  have hs10 := HS1.out
  clear hown hb hb2 c0 c1 f0 f1 s0 s1 hT hCp
  go_wp2_with (go_at_fn 96; refine hcall.mono ?_; rintro e w5 ⟨rfl, ho5, hw5⟩; have hk := after_edit hw5; have x0 : w5.cell? ⟨w2.heap.size, 0, none⟩ = some (.slice Ac t.cols.length cc) := (hk _ 0 (Nat.le_refl _) (.inr (Nat.le_refl _))).1.trans (by simp); have x1 : w5.cell? ⟨w2.heap.size, 1, none⟩ = some (.int .i64 t.head) := (hk _ 1 (Nat.le_refl _) (.inr (Nat.le_refl _))).1.trans (by simp); have x2 : w5.cell? ⟨w2.heap.size, 2, none⟩ = some (.int .i64 t.foot) := (hk _ 2 (Nat.le_refl _) (.inr (Nat.le_refl _))).1.trans (by simp); have x3 : w5.cell? ⟨w2.heap.size, 3, none⟩ = some (.slice Ar t.rows.length cr) := (hk _ 3 (Nat.le_refl _) (.inr (Nat.le_refl _))).1.trans (by simp); have x4 : w5.cell? ⟨w2.heap.size, 4, none⟩ = some (.int .i64 t.gap) := (hk _ 4 (Nat.le_refl _) (.inr (Nat.le_refl _))).1.trans (by simp); have t0 : w5.cell? ⟨w.heap.size + 1, 0, none⟩ = some (.slice none 0 0) := (hk _ 0 (by omega) (.inl (by omega))).1.trans (keepW (balloc (brefl w2) _) u0); have t1 : w5.cell? ⟨w.heap.size + 1, 1, none⟩ = some (.int .i64 0) := (hk _ 1 (by omega) (.inl (by omega))).1.trans (keepW (balloc (brefl w2) _) u1); have t2 : w5.cell? ⟨w.heap.size + 1, 2, none⟩ = some (.int .i64 0) := (hk _ 2 (by omega) (.inl (by omega))).1.trans (keepW (balloc (brefl w2) _) u2); have t3 : w5.cell? ⟨w.heap.size + 1, 3, none⟩ = some (.slice none 0 0) := (hk _ 3 (by omega) (.inl (by omega))).1.trans (keepW (balloc (brefl w2) _) u3); have t4 : w5.cell? ⟨w.heap.size + 1, 4, none⟩ = some (.int .i64 0) := (hk _ 4 (by omega) (.inl (by omega))).1.trans (keepW (balloc (brefl w2) _) u4); have tf : ∀ i, w5.frozen? ⟨w.heap.size + 1, i, none⟩ = false := fun i => (hk _ i (by omega) (.inl (by omega))).2.trans (((seenBk _ hul (balloc (brefl w2) _)).2.1 i).trans (uf i)); clear hk)
  obtain ⟨hg1, hg2, hg3⟩ := hg
  have hl5 : w2.heap.size ≤ w5.heap.size := Nat.le_trans (by simp) hw5.size
  have HB5 := hide (below_within (balloc HB2.out (.cells #[.slice Ac t.cols.length cc, .int .i64 t.head, .int .i64 t.foot, .slice Ar t.rows.length cr, .int .i64 t.gap] 33)) hw5 (by omega))
  refine bodyPost_ret (v := .tuple #[.agg #[.slice Ac t.cols.length cc, .int .i64 t.head, .int .i64 t.foot, .slice Ar t.rows.length cr, .int .i64 t.gap], .bool g.2]) (by simp [results, Tryd.results64, go_sem, *]) rfl ⟨_, _, by rw [hg1, hg2, hg3], (ho5.keep (fun b hb1 hb2 => ?_)).mono (by omega) (by first | (simp; done) | (simp; omega)), ?_⟩
  · refine (heap_set _ _ _ _ (show b ≠ w.heap.size + 1 by omega)).trans ?_
    refine (heap_set _ _ _ _ (show b ≠ w.heap.size + 1 by omega)).trans ?_
    refine (heap_set _ _ _ _ (show b ≠ w.heap.size + 1 by omega)).trans ?_
    refine (heap_set _ _ _ _ (show b ≠ w.heap.size + 1 by omega)).trans ?_
    exact heap_set _ _ _ _ (show b ≠ w.heap.size + 1 by omega)
  · have h := HB5.out
    (repeat' (with_reducible first | exact h | refine balloc ?_ _ | refine bset ?_ ?_ _)) <;> first | (simp; done) | (simp; omega)
end Go.Proofs.YtfcogogpioeggaaDoor
