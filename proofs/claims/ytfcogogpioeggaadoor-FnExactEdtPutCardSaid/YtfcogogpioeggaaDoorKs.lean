import Derived.Test.YtfcogogpioeggaaDoorKr
namespace Go.Proofs.YtfcogogpioeggaaDoor
open Go.RowKit
/- edited, over whatever edit; what EdtTake's edit does. -/
/-- A variable of five cells. -/
def W5 (w : World) (b : Nat) (u0 u1 u2 u3 u4 : Value) : Prop := w.cell? ⟨b, 0, none⟩ = some u0 ∧ w.cell? ⟨b, 1, none⟩ = some u1 ∧ w.cell? ⟨b, 2, none⟩ = some u2 ∧ w.cell? ⟨b, 3, none⟩ = some u3 ∧ w.cell? ⟨b, 4, none⟩ = some u4
/-- What an edit leaves in the variable at X. -/
def EdPost (g : Tbl × Bool) (lo X : Nat) (w : World) (e : Ending) (w' : World) : Prop :=
  e = .returned (.bool g.2) ∧ ∃ vc vr, OwnTbl w' lo w'.heap.size vc vr g.1 ∧ W5 w' X vc (.int .i64 g.1.head) (.int .i64 g.1.foot) vr (.int .i64 g.1.gap) ∧ Below lo w w'
set_option maxRecDepth 100000 in
set_option maxHeartbeats 4000000 in
theorem editG0 (t : Tbl) (A : Option Addr) (c : Nat) (A' : Option Addr) (c' : Nat) (f : Nat) (caps : Array Value) (w : World) (hok : tblOk t = false) (hw : Base w) (hc : Rd colR w A t.cols) (hr : Rd rowR w A' t.rows) :
    Calls Tryd.prog 64 #[.agg #[.slice A t.cols.length c, .int .i64 t.head, .int .i64 t.foot, .slice A' t.rows.length c', .int .i64 t.gap], .func (.func f) #[] caps] w (EdtPost (⟨[], 0, 0, [], 0⟩, false) w) := by
  have hT := fun (W : World) (h : Below w.heap.size w W) => impl_TblOk t A c A' c' W (hw.below h) (hc.below h) (hr.below h)
  rw [hok] at hT
  clear hc hr hok hw
  go_enter Tryd.func64, Tryd.ntmps64
  go_wp2_with fail
  refine (hT _ (balloc (balloc (brefl _) _) _)).mono ?_
  rintro e w1 ⟨rfl, hb⟩
  obtain ⟨c1, f1, s1⟩ := seenBk (w.heap.size + 1) (by first | (simp; omega) | simp [*]) hb
  have HB := step (balloc (balloc (brefl w) _) _) hb
  go_wp2_with fail
  refine bodyPost_ret (v := .tuple #[.agg #[.slice none 0 0, .int .i64 0, .int .i64 0, .slice none 0 0, .int .i64 0], .bool false]) (by simp [results, Tryd.results64, go_sem, *]) rfl ⟨_, _, rfl, OwnTbl.empty _ _ _ _ _ _, ?_⟩
  (repeat' (with_reducible first | exact HB | refine bset ?_ ?_ _)) <;> first | (simp; done) | (simp; omega)
theorem below_low {lo : Nat} {w W V : World} (h : Below w.heap.size w W) (hb : Below lo W V) (hlo : w.heap.size ≤ lo) : Below w.heap.size w V :=
  h.trans (hb.mono hlo)
theorem low_cell {lo : Nat} {W V : World} (hb : Below lo W V) {b i : Nat} (h : b < lo) : V.cell? ⟨b, i, none⟩ = W.cell? ⟨b, i, none⟩ := World.cell?_of_block (hb.block b h)
theorem low_frozen {lo : Nat} {W V : World} (hb : Below lo W V) {b i : Nat} (h : b < lo) : V.frozen? ⟨b, i, none⟩ = W.frozen? ⟨b, i, none⟩ := World.frozen?_of_block (hb.block b h)
set_option maxRecDepth 100000 in
set_option maxHeartbeats 4000000 in
/-- What is left, once it is known what the edit does. -/
theorem editG1 (t : Tbl) (A : Option Addr) (c : Nat) (A' : Option Addr) (c' : Nat) (f : Nat) (caps : Array Value) (heg : ∀ args w, (callFunc f args).run Tryd.prog w = .ok (.enter f args) w) (g : Tbl × Bool) (w : World) (hok : tblOk t = true) (hw : Base w) (hc : Rd colR w A t.cols) (hr : Rd rowR w A' t.rows) (hcl : Lies colE w (.slice A t.cols.length c) t.cols) (hro : Rd rowO w A' t.rows)
    (hf : ∀ (w1 w2 : World) (Ac : Option Addr) (cc : Nat) (Ar : Option Addr) (cr : Nat), Copied t w w1 w2 Ac cc Ar cr → Calls Tryd.prog f (#[.pointer (some ⟨w2.heap.size, 0, none⟩)] ++ caps) (w2.alloc (.cells #[.slice Ac t.cols.length cc, .int .i64 t.head, .int .i64 t.foot, .slice Ar t.rows.length cr, .int .i64 t.gap] 33)) (EdPost g w1.heap.size w2.heap.size (w2.alloc (.cells #[.slice Ac t.cols.length cc, .int .i64 t.head, .int .i64 t.foot, .slice Ar t.rows.length cr, .int .i64 t.gap] 33)))) :
    Calls Tryd.prog 64 #[.agg #[.slice A t.cols.length c, .int .i64 t.head, .int .i64 t.foot, .slice A' t.rows.length c', .int .i64 t.gap], .func (.func f) #[] caps] w (EdtPost g w) := by
  have hT := fun (W : World) (h : Below w.heap.size w W) => impl_TblOk t A c A' c' W (hw.below h) (hc.below h) (hr.below h)
  rw [hok] at hT
  have hCp := fun (W : World) (h : Below w.heap.size w W) => copied t A c A' c' W (hcl.below h) (hro.below h) (small_of_ok hok)
  have HF := hide hf
  clear hok hc hr hcl hro hw hf
  go_enter Tryd.func64, Tryd.ntmps64
  go_wp2_with fail
  refine (hT _ (balloc (balloc (brefl _) _) _)).mono ?_
  rintro e w1 ⟨rfl, hb⟩
  obtain ⟨c0, f0, s0⟩ := seenBk w.heap.size (by first | (simp; omega) | simp [*]) hb
  obtain ⟨c1, f1, s1⟩ := seenBk (w.heap.size + 1) (by first | (simp; omega) | simp [*]) hb
  have HB := step (balloc (balloc (brefl w) _) _) hb
  go_wp2_with fail
  refine (hCp _ HB).mono ?_
  rintro e w2 ⟨vc, vr, rfl, hown, hb2⟩
  have u0 : w2.cell? ⟨w.heap.size + 1, 0, none⟩ = some (.slice none 0 0) := keepW hb2 (by simp [c1])
  have u1 : w2.cell? ⟨w.heap.size + 1, 1, none⟩ = some (.int .i64 0) := keepW hb2 (by simp [c1])
  have u2 : w2.cell? ⟨w.heap.size + 1, 2, none⟩ = some (.int .i64 0) := keepW hb2 (by simp [c1])
  have u3 : w2.cell? ⟨w.heap.size + 1, 3, none⟩ = some (.slice none 0 0) := keepW hb2 (by simp [c1])
  have u4 : w2.cell? ⟨w.heap.size + 1, 4, none⟩ = some (.int .i64 0) := keepW hb2 (by simp [c1])
  have uf : ∀ i, w2.frozen? ⟨w.heap.size + 1, i, none⟩ = false := fun i => ((seenBk _ s1 hb2).2.1 i).trans (by simp [f1])
  have hul : w.heap.size + 1 < w2.heap.size := Nat.lt_of_lt_of_le s1 hb2.size
  obtain ⟨Ac, cc, hvc⟩ := hown.1.form
  obtain ⟨Ar, cr, hvr⟩ : ∃ A c, vr = .slice A t.rows.length c := by obtain ⟨_, vs, hra⟩ := hown; exact hra.len
  subst hvc
  subst hvr
  have HB2 := hide (step HB hb2)
  have HS1 := hide (show w.heap.size + 2 ≤ w1.heap.size from s1)
  have hcall := HF.out w1 w2 Ac cc Ar cr ⟨hown, HB2.out, HS1.out, hb2.size⟩
  have hs12 := hb2.size
  have hs10 := HS1.out
  clear hown hb hb2 c0 c1 f0 f1 s0 s1 hT hCp
  go_wp2_with (go_at_fn f; refine hcall.mono ?_; rintro e w5 ⟨rfl, vc5, vr5, ho5, ⟨x0, x1, x2, x3, x4⟩, hb5⟩; obtain ⟨Ac5, cc5, hvc5⟩ := ho5.1.form; obtain ⟨Ar5, cr5, hvr5⟩ := (show ∃ A c, vr5 = .slice A g.1.rows.length c by obtain ⟨_, vs, hra⟩ := ho5; exact hra.len); subst hvc5; subst hvr5; have t0 : w5.cell? ⟨w.heap.size + 1, 0, none⟩ = some (.slice none 0 0) := (low_cell hb5 (by omega)).trans (keepW (balloc (brefl w2) _) u0); have t1 : w5.cell? ⟨w.heap.size + 1, 1, none⟩ = some (.int .i64 0) := (low_cell hb5 (by omega)).trans (keepW (balloc (brefl w2) _) u1); have t2 : w5.cell? ⟨w.heap.size + 1, 2, none⟩ = some (.int .i64 0) := (low_cell hb5 (by omega)).trans (keepW (balloc (brefl w2) _) u2); have t3 : w5.cell? ⟨w.heap.size + 1, 3, none⟩ = some (.slice none 0 0) := (low_cell hb5 (by omega)).trans (keepW (balloc (brefl w2) _) u3); have t4 : w5.cell? ⟨w.heap.size + 1, 4, none⟩ = some (.int .i64 0) := (low_cell hb5 (by omega)).trans (keepW (balloc (brefl w2) _) u4); have tf : ∀ i, w5.frozen? ⟨w.heap.size + 1, i, none⟩ = false := fun i => (low_frozen hb5 (by omega)).trans (((seenBk _ hul (balloc (brefl w2) _)).2.1 i).trans (uf i)))
  have hl5 : w2.heap.size ≤ w5.heap.size := Nat.le_trans (by simp) hb5.size
  have HB5 := hide (below_low (balloc HB2.out (.cells #[.slice Ac t.cols.length cc, .int .i64 t.head, .int .i64 t.foot, .slice Ar t.rows.length cr, .int .i64 t.gap] 33)) hb5 (by omega))
  refine bodyPost_ret (v := .tuple #[.agg #[.slice Ac5 g.1.cols.length cc5, .int .i64 g.1.head, .int .i64 g.1.foot, .slice Ar5 g.1.rows.length cr5, .int .i64 g.1.gap], .bool g.2]) (by simp [results, Tryd.results64, go_sem, *]) rfl ⟨_, _, rfl, (ho5.keep (fun b hb1 hb2 => ?_)).mono (by omega) (by first | (simp; done) | (simp; omega)), ?_⟩
  · refine (heap_set _ _ _ _ (show b ≠ w.heap.size + 1 by omega)).trans ?_
    refine (heap_set _ _ _ _ (show b ≠ w.heap.size + 1 by omega)).trans ?_
    refine (heap_set _ _ _ _ (show b ≠ w.heap.size + 1 by omega)).trans ?_
    refine (heap_set _ _ _ _ (show b ≠ w.heap.size + 1 by omega)).trans ?_
    exact heap_set _ _ _ _ (show b ≠ w.heap.size + 1 by omega)
  · have h := HB5.out
    (repeat' (with_reducible first | exact h | refine balloc ?_ _ | refine bset ?_ ?_ _)) <;> first | (simp; done) | (simp; omega)
end Go.Proofs.YtfcogogpioeggaaDoor
