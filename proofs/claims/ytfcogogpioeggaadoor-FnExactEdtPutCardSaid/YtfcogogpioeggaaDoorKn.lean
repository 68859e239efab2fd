import Derived.Test.YtfcogogpioeggaaDoorKm
namespace Go.Proofs.YtfcogogpioeggaaDoor
open Go.RowKit
/- The program's EdtSpan: what its edit does to the copy. -/
theorem old_heap (w : World) (o : Obj) {b : Nat} (h : b < w.heap.size) : (w.alloc o).drew.heap[b]? = w.heap[b]? := (balloc (brefl w) o).block b h
theorem setG {W : World} {g o1 o2 : Nat} {u1 u2 v : Value} {p : Addr} (hne : g ≠ p.block) (h : W.cell? p = some v) : ((W.setCell ⟨g, o1, none⟩ u1).setCell ⟨g, o2, none⟩ u2).drew.cell? p = some v :=
  keepW (bdrew (brefl _)) (setO4 (setO4 h (fun e => hne (by rw [← e]))) (fun e => hne (by rw [← e])))
theorem span_edit (t : Tbl) (B1 B2 B3 Bc Br : Nat) (row at' nc nr : Int) (w : World) (hok : tblOk t = true)
    (b1 : w.cell? ⟨B1, 0, none⟩ = some (.int .i64 row)) (b2 : w.cell? ⟨B2, 0, none⟩ = some (.int .i64 at')) (b3 : w.cell? ⟨B3, 0, none⟩ = some (.func (.func 58) #[] #[.pointer (some ⟨Bc, 0, none⟩), .pointer (some ⟨Br, 0, none⟩)])) (bc : w.cell? ⟨Bc, 0, none⟩ = some (.int .i64 nc)) (br : w.cell? ⟨Br, 0, none⟩ = some (.int .i64 nr))
    (w1 w2 : World) (Ac : Option Addr) (cc : Nat) (Ar : Option Addr) (cr : Nat) (hcp : Copied t w w1 w2 Ac cc Ar cr) :
    Calls Tryd.prog 96 #[.pointer (some ⟨w2.heap.size, 0, none⟩), .pointer (some ⟨B1, 0, none⟩), .pointer (some ⟨B2, 0, none⟩), .pointer (some ⟨B3, 0, none⟩)] (w2.alloc (.cells #[.slice Ac t.cols.length cc, .int .i64 t.head, .int .i64 t.foot, .slice Ar t.rows.length cr, .int .i64 t.gap] 33))
      fun e w' => e = .returned (.bool (edtSpan t row at' nc nr).2) ∧ OwnTbl w' w1.heap.size w2.heap.size (.slice Ac t.cols.length cc) (.slice Ar t.rows.length cr) (edtSpan t row at' nc nr).1 ∧ Within w1.heap.size w2.heap.size (w2.alloc (.cells #[.slice Ac t.cols.length cc, .int .i64 t.head, .int .i64 t.foot, .slice Ar t.rows.length cr, .int .i64 t.gap] 33)) w' := by
  obtain ⟨hown, hB, hs1, hs2⟩ := hcp
  have hBX := balloc hB (.cells #[.slice Ac t.cols.length cc, .int .i64 t.head, .int .i64 t.foot, .slice Ar t.rows.length cr, .int .i64 t.gap] 33)
  have c1 := b1
  have c2 := b2
  have c3 := b3
  have c4 := bc
  have c5 := br
  have b1 := keepW hBX b1
  have b2 := keepW hBX b2
  have b3 := keepW hBX b3
  have bc := keepW hBX bc
  have br := keepW hBX br
  have x3 : (w2.alloc (.cells #[.slice Ac t.cols.length cc, .int .i64 t.head, .int .i64 t.foot, .slice Ar t.rows.length cr, .int .i64 t.gap] 33)).cell? ⟨w2.heap.size, 3, none⟩ = some (.slice Ar t.rows.length cr) := by simp
  have hsm := small_of_ok hok
  have hno : edtSpan t row at' nc nr = (t, false) → ∀ W, W = (w2.alloc (.cells #[.slice Ac t.cols.length cc, .int .i64 t.head, .int .i64 t.foot, .slice Ar t.rows.length cr, .int .i64 t.gap] 33)).drew → OwnTbl W w1.heap.size w2.heap.size (.slice Ac t.cols.length cc) (.slice Ar t.rows.length cr) t ∧ Within w1.heap.size w2.heap.size (w2.alloc (.cells #[.slice Ac t.cols.length cc, .int .i64 t.head, .int .i64 t.foot, .slice Ar t.rows.length cr, .int .i64 t.gap] 33)) W := fun _ W hW => by
    subst hW
    exact ⟨hown.keep (fun b _ h => old_heap w2 _ h), Within.below (bdrew (brefl _))⟩
  cases h1 : inB row 0 ((t.rows.length : Int) - 1) with
  | false =>
    have hE := span_false (at' := at') (c := nc) (r := nr) hok (.inl (by rw [h1]; rfl))
    rw [hE]
    refine (cellAt_no w2.heap.size B1 B2 B3 Bc Br row at' (fun W => W.cell? ⟨w2.heap.size, 3, none⟩ = some (.slice Ar t.rows.length cr)) _ (keepW (bdrew (brefl _)) x3) b1 b2 b3 (fun W h => impl_has0 _ _ _ _ row at' W h hsm.2.1 h1)).mono ?_
    rintro e w' ⟨rfl, rfl⟩
    exact ⟨rfl, hno hE _ rfl⟩
  | true =>
    obtain ⟨j, rfl, hj⟩ := inB_nat h1
    have hra' := hown.2
    obtain ⟨vs, hra⟩ := hra'
    have hv : j < vs.length := by rw [hra.2.1]; exact hj
    obtain ⟨gr, rfl⟩ : ∃ gr, Ar = some ⟨gr, 0, none⟩ := by
      rcases hra.1 with ⟨h0, _⟩ | ⟨_, gr, crr, e, _⟩
      · omega
      · injection e with e _ _; exact ⟨gr, e⟩
    obtain ⟨p0, _, pf, hr1, hr2⟩ := hra.at j hv hj
    obtain ⟨Aj, cj, ej⟩ := (hra.2.2.1 j hv hj).form
    rw [ej] at p0
    have p0 := keepW (balloc (brefl w2) (.cells #[.slice Ac t.cols.length cc, .int .i64 t.head, .int .i64 t.foot, .slice (some ⟨gr, 0, none⟩) t.rows.length cr, .int .i64 t.gap] 33)) p0
    have kd := fun {p : Addr} {u : Value} (h : (w2.alloc (.cells #[.slice Ac t.cols.length cc, .int .i64 t.head, .int .i64 t.foot, .slice (some ⟨gr, 0, none⟩) t.rows.length cr, .int .i64 t.gap] 33)).cell? p = some u) => keepW (bdrew (brefl _)) h
    have hlj := hsm.2.2 _ (List.getElem_mem hj)
    cases h2 : inB at' 0 ((t.rows[j].cs.length : Int) - 1) with
    | false =>
      have hE := span_false (row := j) (at' := at') (c := nc) (r := nr) hok (.inr ⟨hj, h2⟩)
      rw [hE]
      refine (cellAt_no w2.heap.size B1 B2 B3 Bc Br j at' (fun W => W.cell? ⟨w2.heap.size, 3, none⟩ = some (.slice (some ⟨gr, 0, none⟩) t.rows.length cr) ∧ W.cell? ⟨gr, j * 2, none⟩ = some (.slice Aj t.rows[j].cs.length cj)) _ ⟨kd x3, kd p0⟩ b1 b2 b3 (fun W h => ?_)).mono ?_
      · have := impl_has1 w2.heap.size _ cr gr j _ cj Aj at' W h.1 hsm.2.1 hj h.2 hlj
        rw [h2] at this
        exact this
      · rintro e w' ⟨rfl, rfl⟩
        exact ⟨rfl, hno hE _ rfl⟩
    | true =>
      obtain ⟨i, rfl, hi⟩ := inB_nat h2
      obtain ⟨g, cg, eg, hg1, hg2, hgo⟩ : ∃ g cg, vs[j] = .slice (some ⟨g, 0, none⟩) t.rows[j].cs.length cg ∧ w1.heap.size ≤ g ∧ g < w2.heap.size ∧ w2.ownsRow w1.heap.size 65 11 (.slice (some ⟨g, 0, none⟩) t.rows[j].cs.length cg) t.rows[j].cs.length (t.rows[j].cs.flatMap cellE) := by
        rcases hra.2.2.1 j hv hj with ⟨h0, _⟩ | ⟨_, g, cg, e, h1, h2, h3⟩
        · omega
        · exact ⟨g, cg, e, h1, h2, e ▸ h3⟩
      rw [eg] at ej
      injection ej with ej1 _ ej2
      subst ej1; subst ej2
      cases hfit : (inB nc 1 4 && inB nr 1 4) with
      | false =>
        have hE : edtSpan t j i nc nr = (t, false) := span_false (row := j) (at' := i) (c := nc) (r := nr) hok (.inl (by rw [h1]; simpa using hfit))
        rw [hE]
        refine (cellAt_yes w2.heap.size B1 B2 B3 Bc Br gr g t.rows.length cr t.rows[j].cs.length cg j i false id (fun W => W.cell? ⟨Bc, 0, none⟩ = some (.int .i64 nc) ∧ W.cell? ⟨Br, 0, none⟩ = some (.int .i64 nr)) _ ⟨⟨kd b1, kd b2, kd b3, kd x3, kd p0⟩, kd bc, kd br⟩ hj hi hsm.2.1 hlj (fun W h => span_body0 _ Bc Br nc nr W h.2.1 h.2.2 hfit) (fun W h => h)).mono ?_
        rintro e w' ⟨rfl, rfl⟩
        exact ⟨rfl, hno hE _ rfl⟩
      | true =>
        rw [Bool.and_eq_true] at hfit
        have hE := span_true hok hj hi hfit.1 hfit.2
        rw [hE]
        have hlt : ∀ {B : Nat} {u : Value}, w.cell? ⟨B, 0, none⟩ = some u → g ≠ B := fun {B} {u} h e => by
          have h1 : B < w.heap.size := World.block_lt_of_cell? w _ h
          omega
        have n1 := hlt c1
        have n2 := hlt c2
        have n3 := hlt c3
        have n4 := hlt c4
        have n5 := hlt c5
        have nX : g ≠ w2.heap.size := by omega
        have nr' : g ≠ gr := by
          intro e
          subst e
          obtain ⟨cur, hcur⟩ := own_type hgo
          obtain ⟨cur2, hcur2⟩ := hra.head (by omega)
          rw [hcur] at hcur2
          injection hcur2 with e; injection e with _ e; exact absurd e (by decide)
        obtain ⟨cur, hcur⟩ := own_type hgo
        have hln := hgo.1
        have q1 := hgo.cellAt (i * 11 + 1) (by omega)
        have q2 := hgo.cellAt (i * 11 + 2) (by omega)
        rw [List.getElem?_eq_getElem (by omega)] at q1 q2
        have q1 := kd (keepW (balloc (brefl w2) _) q1)
        have q2 := kd (keepW (balloc (brefl w2) _) q2)
        have hfr : ∀ o, (w2.alloc (.cells #[.slice Ac t.cols.length cc, .int .i64 t.head, .int .i64 t.foot, .slice (some ⟨gr, 0, none⟩) t.rows.length cr, .int .i64 t.gap] 33)).drew.frozen? ⟨g, o, none⟩ = false := fun o =>
          (World.frozen?_of_block (old_heap w2 _ hg2)).trans (hgo.frozenAt o)
        refine (cellAt_yes w2.heap.size B1 B2 B3 Bc Br gr g t.rows.length cr t.rows[j].cs.length cg j i true (fun W => ((W.setCell ⟨g, i * 11 + 1, none⟩ (.int .i64 nc)).setCell ⟨g, i * 11 + 2, none⟩ (.int .i64 nr)).drew)
          (fun W => W.cell? ⟨Bc, 0, none⟩ = some (.int .i64 nc) ∧ W.cell? ⟨Br, 0, none⟩ = some (.int .i64 nr) ∧ (∃ v1, W.cell? ⟨g, i * 11 + 1, none⟩ = some v1) ∧ (∃ v2, W.cell? ⟨g, i * 11 + 2, none⟩ = some v2) ∧ (∀ o, W.frozen? ⟨g, o, none⟩ = false)) _
          ⟨⟨kd b1, kd b2, kd b3, kd x3, kd p0⟩, kd bc, kd br, ⟨_, q1⟩, ⟨_, q2⟩, hfr⟩ hj hi hsm.2.1 hlj (fun W h => ?_) (fun W h => ?_)).mono ?_
        · obtain ⟨_, h1, h2, ⟨v1, h3⟩, ⟨v2, h4⟩, h5⟩ := h
          exact span_body g (i * 11) Bc Br nc nr v1 v2 W h1 h2 h3 h4 (h5 _) (h5 _) (Ne.symm n4) (Ne.symm n5) hfit.1 hfit.2
        · obtain ⟨⟨k1, k2, k3, k4, k5⟩, h1, h2, ⟨v1, h3⟩, ⟨v2, h4⟩, h5⟩ := h
          refine ⟨⟨setG n1 k1, setG n2 k2, setG n3 k3, setG nX k4, setG nr' k5⟩, setG n4 h1, setG n5 h2, ⟨_, keepW (bdrew (brefl _)) (setO4 (setS4 h3) (by simp))⟩, ⟨_, keepW (bdrew (brefl _)) (setS4 (setO4 h4 (by simp)))⟩, fun o => ?_⟩
          have := h5 o
          show World.frozen? _ _ = false
          simpa using this
        · rintro e w' ⟨rfl, rfl⟩
          have hkd : ∀ b, w1.heap.size ≤ b → b < w2.heap.size → (w2.alloc (.cells #[.slice Ac t.cols.length cc, .int .i64 t.head, .int .i64 t.foot, .slice (some ⟨gr, 0, none⟩) t.rows.length cr, .int .i64 t.gap] 33)).drew.heap[b]? = w2.heap[b]? := fun b _ h => old_heap w2 _ h
          have hR := (hra.keep hkd).span j hv hj g cg eg i hi nc nr (balloc (brefl w2) _).size
          have hGr := grow_trans (grow_set (w2.alloc (.cells #[.slice Ac t.cols.length cc, .int .i64 t.head, .int .i64 t.foot, .slice (some ⟨gr, 0, none⟩) t.rows.length cr, .int .i64 t.gap] 33)).drew (a := ⟨g, i * 11 + 1, none⟩) rfl (.int .i64 nc)) (grow_set _ (a := ⟨g, i * 11 + 2, none⟩) rfl (.int .i64 nr))
          have hC := (hown.1.keep hkd).spare (Spare.grow hGr ((old_heap w2 _ hg2).trans hcur) (by decide))
          refine ⟨rfl, ⟨hC.keep (fun _ _ _ => rfl), vs, hR.keep (fun _ _ _ => rfl)⟩, ?_⟩
          exact (Within.below (bdrew (brefl _))).trans ((Within.grow hGr hg1 hg2).trans (Within.below (bdrew (brefl _))))
end Go.Proofs.YtfcogogpioeggaaDoor
