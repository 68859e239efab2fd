import Derived.Test.YtfcogogpioeggaaDoorKu
namespace Go.Proofs.YtfcogogpioeggaaDoor
open Go.RowKit
/- The program's EdtTake. -/
theorem W5.new (w : World) (u0 u1 u2 u3 u4 : Value) (T : TypeId) : W5 (w.alloc (.cells #[u0, u1, u2, u3, u4] T)) w.heap.size u0 u1 u2 u3 u4 := ⟨cell_new _ _ _ _ _ _ rfl, cell_new _ _ _ _ _ _ rfl, cell_new _ _ _ _ _ _ rfl, cell_new _ _ _ _ _ _ rfl, cell_new _ _ _ _ _ _ rfl⟩
theorem W5.block {w w' : World} {b : Nat} {u0 u1 u2 u3 u4 : Value} (h : W5 w b u0 u1 u2 u3 u4) (e : w'.heap[b]? = w.heap[b]?) : W5 w' b u0 u1 u2 u3 u4 := by
  have k : ∀ i, w'.cell? ⟨b, i, none⟩ = w.cell? ⟨b, i, none⟩ := fun i => World.cell?_of_block e
  exact ⟨(k 0).trans h.1, (k 1).trans h.2.1, (k 2).trans h.2.2.1, (k 3).trans h.2.2.2.1, (k 4).trans h.2.2.2.2⟩
/-- Nothing was edited. -/
theorem ed_same {t : Tbl} {w w1 w2 : World} {Ac : Option Addr} {cc : Nat} {Ar : Option Addr} {cr : Nat} (hcp : Copied t w w1 w2 Ac cc Ar cr) {e : Ending} {w' : World} (he : e = .returned (.bool false)) (hw : Below (w2.alloc (.cells #[.slice Ac t.cols.length cc, .int .i64 t.head, .int .i64 t.foot, .slice Ar t.rows.length cr, .int .i64 t.gap] 33)).heap.size (w2.alloc (.cells #[.slice Ac t.cols.length cc, .int .i64 t.head, .int .i64 t.foot, .slice Ar t.rows.length cr, .int .i64 t.gap] 33)) w') :
    EdPost (t, false) w1.heap.size w2.heap.size (w2.alloc (.cells #[.slice Ac t.cols.length cc, .int .i64 t.head, .int .i64 t.foot, .slice Ar t.rows.length cr, .int .i64 t.gap] 33)) e w' := by
  obtain ⟨hown, hB, hs1, hs2⟩ := hcp
  have h1 : w2.heap.size ≤ w'.heap.size := Nat.le_trans (by simp) hw.size
  have hk : ∀ b, b < w2.heap.size → w'.heap[b]? = w2.heap[b]? := fun b hb => (hw.block b (by simp; omega)).trans (heap_alloc_old _ _ hb)
  exact ⟨he, _, _, (hown.keep (fun b _ h => hk b h)).mono (Nat.le_refl _) h1, (W5.new _ _ _ _ _ _ _).block (hw.block _ (by simp)), hw.mono (by simp; omega)⟩
theorem take_edit (t : Tbl) (B1 B2 : Nat) (row at' : Int) (w : World) (hok : tblOk t = true) (b1 : w.cell? ⟨B1, 0, none⟩ = some (.int .i64 row)) (b2 : w.cell? ⟨B2, 0, none⟩ = some (.int .i64 at'))
    (w1 w2 : World) (Ac : Option Addr) (cc : Nat) (Ar : Option Addr) (cr : Nat) (hcp : Copied t w w1 w2 Ac cc Ar cr) :
    Calls Tryd.prog 65 (#[.pointer (some ⟨w2.heap.size, 0, none⟩)] ++ #[.pointer (some ⟨B1, 0, none⟩), .pointer (some ⟨B2, 0, none⟩)]) (w2.alloc (.cells #[.slice Ac t.cols.length cc, .int .i64 t.head, .int .i64 t.foot, .slice Ar t.rows.length cr, .int .i64 t.gap] 33)) (EdPost (edtTake t row at') w1.heap.size w2.heap.size (w2.alloc (.cells #[.slice Ac t.cols.length cc, .int .i64 t.head, .int .i64 t.foot, .slice Ar t.rows.length cr, .int .i64 t.gap] 33))) := by
  have hcp' := hcp
  obtain ⟨hown, hB, hs1, hs2⟩ := hcp
  have hBX := balloc hB (.cells #[.slice Ac t.cols.length cc, .int .i64 t.head, .int .i64 t.foot, .slice Ar t.rows.length cr, .int .i64 t.gap] 33)
  have c1 := b1
  have c2 := b2
  have b1 := keepW hBX b1
  have b2 := keepW hBX b2
  have x3 : (w2.alloc (.cells #[.slice Ac t.cols.length cc, .int .i64 t.head, .int .i64 t.foot, .slice Ar t.rows.length cr, .int .i64 t.gap] 33)).cell? ⟨w2.heap.size, 3, none⟩ = some (.slice Ar t.rows.length cr) := by simp
  have hsm := small_of_ok hok
  cases h1 : inB row 0 ((t.rows.length : Int) - 1) with
  | false =>
    have hE := take_false (at' := at') hok (.inl h1)
    rw [hE]
    refine (take_no w2.heap.size B1 B2 row at' _ b1 b2 (impl_has0 _ _ _ _ row at' _ x3 hsm.2.1 h1)).mono ?_
    rintro e w' ⟨rfl, rfl⟩
    exact ed_same hcp' rfl (brefl _)
  | true =>
    obtain ⟨j, rfl, hj⟩ := inB_nat h1
    have hra' := hown.2
    obtain ⟨vs, hra⟩ := hra'
    have hv : j < vs.length := by rw [hra.2.1]; exact hj
    obtain ⟨gr, rfl⟩ : ∃ gr, Ar = some ⟨gr, 0, none⟩ := by
      rcases hra.1 with ⟨h0, _⟩ | ⟨_, gr, crr, e, _⟩
      · omega
      · injection e with e _ _; exact ⟨gr, e⟩
    obtain ⟨p0, _, pf, hr1, hr2⟩ := hra.at j hv hj
    obtain ⟨Aj, cj, ej⟩ := (hra.2.2.1 j hv hj).form
    rw [ej] at p0
    have p0 := keepW (balloc (brefl w2) (.cells #[.slice Ac t.cols.length cc, .int .i64 t.head, .int .i64 t.foot, .slice (some ⟨gr, 0, none⟩) t.rows.length cr, .int .i64 t.gap] 33)) p0
    have hlj := hsm.2.2 _ (List.getElem_mem hj)
    cases h2 : inB at' 0 ((t.rows[j].cs.length : Int) - 1) with
    | false =>
      have hE := take_false (row := j) (at' := at') hok (.inr ⟨hj, h2⟩)
      rw [hE]
      have hh := impl_has1 w2.heap.size _ cr gr j _ cj Aj at' _ x3 hsm.2.1 hj p0 hlj
      rw [h2] at hh
      refine (take_no w2.heap.size B1 B2 j at' _ b1 b2 hh).mono ?_
      rintro e w' ⟨rfl, rfl⟩
      exact ed_same hcp' rfl (brefl _)
    | true =>
      obtain ⟨i, rfl, hi⟩ := inB_nat h2
      obtain ⟨g, cg, eg, hg1, hg2, hgo⟩ : ∃ g cg, vs[j] = .slice (some ⟨g, 0, none⟩) t.rows[j].cs.length cg ∧ w1.heap.size ≤ g ∧ g < w2.heap.size ∧ w2.ownsRow w1.heap.size 65 11 (.slice (some ⟨g, 0, none⟩) t.rows[j].cs.length cg) t.rows[j].cs.length (t.rows[j].cs.flatMap cellE) := by
        rcases hra.2.2.1 j hv hj with ⟨h0, _⟩ | ⟨_, g, cg, e, h1, h2, h3⟩
        · omega
        · exact ⟨g, cg, e, h1, h2, e ▸ h3⟩
      rw [eg] at ej
      injection ej with ej1 _ ej2
      subst ej1; subst ej2
      have hE := take_true hok hj hi
      rw [hE]
      have hlt : ∀ {B : Nat} {u : Value}, w.cell? ⟨B, 0, none⟩ = some u → g ≠ B := fun {B} {u} h e => by
        have h1 : B < w.heap.size := World.block_lt_of_cell? w _ h
        omega
      have nr' : g ≠ gr := by
        intro e
        subst e
        obtain ⟨cur, hcur⟩ := own_type hgo
        obtain ⟨cur2, hcur2⟩ := hra.head (by omega)
        rw [hcur] at hcur2
        injection hcur2 with e; injection e with _ e; exact absurd e (by decide)
      have pf' : (w2.alloc (.cells #[.slice Ac t.cols.length cc, .int .i64 t.head, .int .i64 t.foot, .slice (some ⟨gr, 0, none⟩) t.rows.length cr, .int .i64 t.gap] 33)).frozen? ⟨gr, j * 2, none⟩ = false := ((seenBk gr hr2 (balloc (brefl w2) _)).2.1 _).trans (pf _)
      refine (take_yes w2.heap.size B1 B2 gr g t.rows.length cr cg j i w1.heap.size t.rows[j].cs _ b1 b2 x3 p0 hj hi hsm.2.1 hlj (own_alloc hgo _) (hlt c1) (hlt c2) (by omega) nr' pf').mono ?_
      rintro e w' ⟨w7, ⟨rfl, rfl⟩, ho7, hg7⟩
      obtain ⟨cur, hcur⟩ := own_type hgo
      have hcur' : (w2.alloc (.cells #[.slice Ac t.cols.length cc, .int .i64 t.head, .int .i64 t.foot, .slice (some ⟨gr, 0, none⟩) t.rows.length cr, .int .i64 t.gap] 33)).heap[g]? = some (.cells cur 65 (0, 0)) := (heap_alloc_old _ _ hg2).trans hcur
      obtain ⟨curR, hcurR⟩ := hra.head (by omega)
      have hcurR7 : w7.heap[gr]? = some (.cells curR 84 (0, 0)) := (hg7.block gr (by simp; omega) (fun e => nr' (by injection e with e; exact e.symm))).trans ((heap_alloc_old _ _ hr2).trans hcurR)
      have hX := hra.keep (w' := w2.alloc (.cells #[.slice Ac t.cols.length cc, .int .i64 t.head, .int .i64 t.foot, .slice (some ⟨gr, 0, none⟩) t.rows.length cr, .int .i64 t.gap] 33)) (fun b _ h => heap_alloc_old _ _ h)
      have hlast : (t.rows[j].cs.take i ++ t.rows[j].cs.drop (i + 1)).length = t.rows[j].cs.length - 1 := by simp; omega
      have hs7 : w2.heap.size + 1 ≤ w7.heap.size := by have := hg7.size; simpa using this
      have hR := hX.put (w1 := w7) (hi' := w7.heap.size) j hv hj (.slice (some ⟨g, 0, none⟩) (t.rows[j].cs.length - 1) cg) (t.rows[j].cs.take i ++ t.rows[j].cs.drop (i + 1)) (by omega) (Spare.grow hg7 hcur' (by decide))
        (fun k hk1 hk2 hne => by
          have hO := hX.2.2.1 k hk1 hk2
          rcases hO with hO | ⟨hn5, gi, ci, ei, d1, d2, d3⟩
          · exact .inl hO
          · refine .inr ⟨hn5, gi, ci, ei, d1, by omega, own_keep d3 fun b hb => ?_⟩
            rw [ei] at hb
            have e2 : gi = b := by simpa [Value.ownBlock] using hb
            subst e2
            refine hg7.block gi (by simp; omega) (fun e => ?_)
            have e := (by injection e : gi = g)
            exact (pair_far hra.2.2.2 hk1 hv hne) gi _ ci g _ cg ei eg hn5 (by omega) e)
        (fun k hk1 hne g1 n1 c1 g2 n2 c2 e1 e2 h1 h2 => by
          injection e2 with e2 _ _; injection e2 with e2; injection e2 with e2
          subst e2
          exact (pair_far hra.2.2.2 hk1 hv hne) g1 n1 c1 g _ cg e1 eg h1 (by omega))
        (by
          rw [hlast]
          rcases Nat.eq_zero_or_pos (t.rows[j].cs.length - 1) with h0 | hp
          · exact .inl ⟨h0, by have := List.eq_nil_of_length_eq_zero (hlast.trans h0); rw [this]; rfl, some ⟨g, 0, none⟩, cg, by rw [h0]⟩
          · exact .inr ⟨hp, g, cg, rfl, hg1, by omega, ho7⟩)
      have hC : Own (w7.setCell ⟨gr, j * 2, none⟩ (.slice (some ⟨g, 0, none⟩) (t.rows[j].cs.length - 1) cg)) w1.heap.size w7.heap.size 28 2 (.slice Ac t.cols.length cc) t.cols.length (t.cols.flatMap colE) :=
        (((hown.1.keep (fun b _ h => heap_alloc_old _ _ h)).spare (Spare.grow hg7 hcur' (by decide))).spare (Spare.grow (grow_set w7 (a := ⟨gr, j * 2, none⟩) rfl _) hcurR7 (by decide))).mono (Nat.le_refl _) (by omega)
      refine ⟨rfl, _, _, ⟨hC.mono (Nat.le_refl _) (by simp), _, hR.mono (Nat.le_refl _) (by simp)⟩, (W5.new _ _ _ _ _ _ 33).block ?_, ?_⟩
      · refine (heap_set _ _ _ _ (show w2.heap.size ≠ gr by omega)).trans (hg7.block _ (by simp) (fun e => ?_))
        have e := (by injection e : w2.heap.size = g)
        omega
      · exact ⟨hg7.os, hg7.tape, hg7.output, by simpa using hg7.size, fun k hk => (heap_set _ _ _ _ (show k ≠ gr by omega)).trans (hg7.block k (by simp; omega) (fun e => by injection e with e; omega))⟩
end Go.Proofs.YtfcogogpioeggaaDoor
