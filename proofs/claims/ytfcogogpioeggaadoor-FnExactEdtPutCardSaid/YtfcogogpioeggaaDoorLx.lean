import Derived.Test.YtfcogogpioeggaaDoorLe
import Derived.IntWalk
namespace Go.Proofs.YtfcogogpioeggaaDoor
open Go.RowKit
/- The reference's EdtRow. -/
section
variable {P : Program} {ops : Array Oper} {Q : Exit → Act → World → Prop} {md : Region.Mode} {S : World → Prop} {L : Nat}
/-- Two operations may come up. -/
theorem wpAnyT_two {i j : Nat} {oi oj : Oper} {fuel : Nat} {listed : Array Bool} {a : Act} {w : World} (hr : Region.ready md ops listed = [i, j]) (hi : ops[i]? = some oi) (hj : ops[j]? = some oj)
    (h1 : ∀ K' : Act → World → Prop, Shut (∀ a w, (i ≠ L → S w) → wpAnyT P md ops Q S L fuel (listed.setIfInBounds i true) a w → K' a w) → if Region.wanted oi (yielded ops a.tmps) = true then Oper.wp P oi a w K' Q else K' (a.put oi.dst undef) w)
    (h2 : ∀ K' : Act → World → Prop, Shut (∀ a w, (j ≠ L → S w) → wpAnyT P md ops Q S L fuel (listed.setIfInBounds j true) a w → K' a w) → if Region.wanted oj (yielded ops a.tmps) = true then Oper.wp P oj a w K' Q else K' (a.put oj.dst undef) w) :
    wpAnyT P md ops Q S L (fuel + 1) listed a w := by
  refine And.intro (fun h0 => absurd (hr.symm.trans h0) (List.cons_ne_nil _ _)) ?_
  intro k hk
  rw [hr] at hk
  rcases List.mem_cons.1 hk with rfl | hk
  · exact wpOp_step hi (fun K' hK => h1 K' (fun a w h1 h2 => hK a w ⟨h1, h2⟩))
  · rw [List.mem_singleton] at hk
    subst hk
    exact wpOp_step hj (fun K' hK => h2 K' (fun a w h1 h2 => hK a w ⟨h1, h2⟩))
end
theorem cell_new2 (w : World) (H : Nat) (cs : Array Value) (t : TypeId) (k : Nat) (u : Value) (hH : w.heap.size = H) (h : cs[k]? = some u) : (w.alloc (.cells cs t)).cell? ⟨H, k, none⟩ = some u := by
  subst hH
  exact cell_new w cs t (0, 0) k u h
theorem setB {w : World} {B b o o2 : Nat} {u v : Value} (h : w.cell? ⟨B, o2, none⟩ = some u) (hne : b ≠ B) : (w.setCell ⟨b, o, none⟩ v).cell? ⟨B, o2, none⟩ = some u := setO4 h (fun e => hne (by injection e))
theorem setB0 {w : World} {B o o2 : Nat} {u v : Value} (h : w.cell? ⟨B, o2, none⟩ = some u) (hne : o ≠ o2) : (w.setCell ⟨B, o, none⟩ v).cell? ⟨B, o2, none⟩ = some u := setO4 h (fun e => hne (by injection e))
set_option linter.unusedSimpArgs false in
set_option maxRecDepth 100000 in
set_option maxHeartbeats 4000000 in
theorem spec_EdtRow0 (t : Tbl) (A : Option Addr) (c : Nat) (A' : Option Addr) (c' : Nat) (at' : Int) (w : World) (hok : tblOk t = false) (hc : Rd colR w A t.cols) (hr : Rd rowR w A' t.rows) :
    Calls Tryd.prog 29 #[.agg #[.slice A t.cols.length c, .int .i64 t.head, .int .i64 t.foot, .slice A' t.rows.length c', .int .i64 t.gap], .int .i64 at'] w (EdtPost (edtRow t at') w) := by
  have hT := fun (W : World) (h : Below w.heap.size w W) => spec_TblOk t A c A' c' W (hc.below h) (hr.below h)
  rw [hok] at hT
  have hres : edtRow t at' = (⟨[], 0, 0, [], 0⟩, false) := by unfold edtRow; rw [if_neg (by simp [hok])]
  rw [hres]
  clear hres hc hr hok
  go_enter Tryd.func29, Tryd.ntmps29
  go_wp2_with fail
  refine (hT _ (balloc (balloc (brefl _) _) _)).mono ?_
  rintro e w1 ⟨rfl, hb⟩
  obtain ⟨c1, f1, s1⟩ := seenBk (w.heap.size + 1) (by first | (simp; omega) | simp [*]) hb
  have HB := step (balloc (balloc (brefl w) _) _) hb
  go_wp2_with fail
  refine bodyPost_ret (v := .tuple #[.agg #[.slice none 0 0, .int .i64 0, .int .i64 0, .slice none 0 0, .int .i64 0], .bool false]) (by simp [results, Tryd.results29, go_sem, *]) rfl ⟨_, _, rfl, OwnTbl.empty _ _ _ _ _ _, ?_⟩
  (repeat' (with_reducible first | exact HB | refine bset ?_ ?_ _)) <;> first | (simp; done) | (simp; omega)
set_option linter.unusedSimpArgs false in
set_option maxRecDepth 100000 in
set_option maxHeartbeats 4000000 in
theorem spec_EdtRow1 (t : Tbl) (A : Option Addr) (c : Nat) (A' : Option Addr) (c' : Nat) (at' : Int) (w : World) (hok : tblOk t = true) (hc : Rd colR w A t.cols) (hr : Rd rowR w A' t.rows) (hcl : Lies colE w (.slice A t.cols.length c) t.cols) (hro : Rd rowO w A' t.rows) :
    Calls Tryd.prog 29 #[.agg #[.slice A t.cols.length c, .int .i64 t.head, .int .i64 t.foot, .slice A' t.rows.length c', .int .i64 t.gap], .int .i64 at'] w (EdtPost (edtRow t at') w) := by
  have hT := fun (W : World) (h : Below w.heap.size w W) => spec_TblOk t A c A' c' W (hc.below h) (hr.below h)
  rw [hok] at hT
  have hCp := fun (W : World) (h : Below w.heap.size w W) => l2Copy t A c A' c' W (hcl.below h) (hro.below h) (small_of_ok hok)
  have HOK := hide hok
  have l2 := hr.1
  have hsm := (small_of_ok hok).2.1
  have hen := ok_ends hok
  obtain ⟨q1, q2, q3, q4, q5⟩ := hen
  have hpos : 0 < t.rows.length := by
    simp only [tblOk, inB, Bool.and_eq_true, decide_eq_true_eq] at hok
    omega
  clear hok hc hcl hr hro
  go_enter Tryd.func29, Tryd.ntmps29
  go_wp2_with fail
  refine (hT _ (balloc (balloc (brefl _) _) _)).mono ?_
  rintro e w1 ⟨rfl, hb⟩
  obtain ⟨c0, f0, s0⟩ := seenBk w.heap.size (by first | (simp; omega) | simp [*]) hb
  obtain ⟨c1, f1, s1⟩ := seenBk (w.heap.size + 1) (by first | (simp; omega) | simp [*]) hb
  have HB := step (balloc (balloc (brefl w) _) _) hb
  go_wp2_with fail
  refine (hCp _ HB).mono ?_
  rintro e w2 ⟨vc, vr, rfl, hown, hb2⟩
  have y0 : w2.cell? ⟨w.heap.size, 0, none⟩ = some (.slice A t.cols.length c) := keepW hb2 (by simp [c0])
  have y1 : w2.cell? ⟨w.heap.size, 1, none⟩ = some (.int .i64 t.head) := keepW hb2 (by simp [c0])
  have y2 : w2.cell? ⟨w.heap.size, 2, none⟩ = some (.int .i64 t.foot) := keepW hb2 (by simp [c0])
  have y3 : w2.cell? ⟨w.heap.size, 3, none⟩ = some (.slice A' t.rows.length c') := keepW hb2 (by simp [c0])
  have y4 : w2.cell? ⟨w.heap.size, 4, none⟩ = some (.int .i64 t.gap) := keepW hb2 (by simp [c0])
  have u0 : w2.cell? ⟨w.heap.size + 1, 0, none⟩ = some (.slice none 0 0) := keepW hb2 (by simp [c1])
  have u1 : w2.cell? ⟨w.heap.size + 1, 1, none⟩ = some (.int .i64 0) := keepW hb2 (by simp [c1])
  have u2 : w2.cell? ⟨w.heap.size + 1, 2, none⟩ = some (.int .i64 0) := keepW hb2 (by simp [c1])
  have u3 : w2.cell? ⟨w.heap.size + 1, 3, none⟩ = some (.slice none 0 0) := keepW hb2 (by simp [c1])
  have u4 : w2.cell? ⟨w.heap.size + 1, 4, none⟩ = some (.int .i64 0) := keepW hb2 (by simp [c1])
  have uf : ∀ i, w2.frozen? ⟨w.heap.size + 1, i, none⟩ = false := fun i => ((seenBk _ s1 hb2).2.1 i).trans (by simp [f1])
  have hul : w.heap.size + 1 < w2.heap.size := Nat.lt_of_lt_of_le s1 hb2.size
  have hwl : w.heap.size < w2.heap.size := by omega
  have HB2 := hide (step HB hb2)
  have HS1 := hide (show w.heap.size + 2 ≤ w1.heap.size from s1)
  have HOWN := hide hown
  have hw12 : w1.heap.size ≤ w2.heap.size := hb2.size
  obtain ⟨Ac, cc, hvc⟩ := hown.1.form
  obtain ⟨_, vs, hra⟩ := hown
  obtain ⟨Ar, cr, hvr⟩ := hra.len
  subst hvc
  subst hvr
  have HRA := hide hra
  clear c0 f0 c1 f1 s0 s1 hT hra hb hb2
  have hI := fun (n lo hi : Int) (W : World) => spec_l1In n lo hi W
  have fin : ∀ V : World, (∀ b, w.heap.size + 2 ≤ b → b < w2.heap.size → V.heap[b]? = w2.heap[b]?) → w2.heap.size ≤ V.heap.size → Below w.heap.size w V → edtRow t at' = (t, false) →
      EdtPost (edtRow t at') w (.returned (.tuple #[.agg #[.slice Ac t.cols.length cc, .int .i64 t.head, .int .i64 t.foot, .slice Ar t.rows.length cr, .int .i64 t.gap], .bool false])) V := fun V h1 h2 h3 h4 => by
    rw [h4]
    have hs1 := HS1.out
    exact ⟨_, _, rfl, (HOWN.out.keep (fun b ha hb => h1 b (by omega) hb)).mono (by omega) h2, h3⟩
  have FIN := hide fin
  clear fin
  have hwr : IntKind.i64.wrap ((t.rows.length : Int) - t.foot) = (t.rows.length : Int) - t.foot := IntWalk.i64_in _ (by omega)
  by_cases h8 : t.rows.length = 8
  · have hE := hide (row_false (at' := at') HOK.out (.inr h8))
    have h8z : ((t.rows.length : Int) == 8) = true := by rw [h8]; rfl
    clear h8
    go_wp2_with (go_at_call 49; refine (hI _ _ _ _).mono ?_; rintro e w' ⟨rfl, rfl⟩)
    refine bodyPost_ret (v := .tuple #[.agg #[.slice Ac t.cols.length cc, .int .i64 t.head, .int .i64 t.foot, .slice Ar t.rows.length cr, .int .i64 t.gap], .bool false]) (by simp [results, Tryd.results29, go_sem, *]) rfl (FIN.out _ (fun b hb1 hb2 => ?_) (by simp) ?_ hE.out)
    · refine (heap_alloc_old _ _ (by simp; omega)).trans ?_
      (repeat' (with_reducible refine (heap_set _ _ _ _ ?_).trans ?_)) <;> first | rfl | (show b ≠ w.heap.size + 1; omega)
    · have h := HB2.out
      (repeat' (with_reducible first | exact h | refine balloc ?_ _ | refine bset ?_ ?_ _)) <;> first | (simp; done) | (simp; omega)
  · have h8z : ((t.rows.length : Int) == 8) = false := by simp; omega
    cases h1 : inB at' t.head ((t.rows.length : Int) - t.foot) with
    | false =>
      have hE := hide (row_false (at' := at') HOK.out (.inl h1))
      clear h8
      go_wp2_with (go_at_call 49; refine (hI _ _ _ _).mono ?_; rintro e w' ⟨rfl, rfl⟩)
      refine bodyPost_ret (v := .tuple #[.agg #[.slice Ac t.cols.length cc, .int .i64 t.head, .int .i64 t.foot, .slice Ar t.rows.length cr, .int .i64 t.gap], .bool false]) (by simp [results, Tryd.results29, go_sem, *]) rfl (FIN.out _ (fun b hb1 hb2 => ?_) (by simp) ?_ hE.out)
      · refine (heap_alloc_old _ _ (by simp; omega)).trans ?_
        (repeat' (with_reducible refine (heap_set _ _ _ _ ?_).trans ?_)) <;> first | rfl | (show b ≠ w.heap.size + 1; omega)
      · have h := HB2.out
        (repeat' (with_reducible first | exact h | refine balloc ?_ _ | refine bset ?_ ?_ _)) <;> first | (simp; done) | (simp; omega)
    | true =>
      have h1' := h1
      simp only [inB, Bool.and_eq_true, decide_eq_true_eq] at h1'
      obtain ⟨j, rfl⟩ := Int.eq_ofNat_of_zero_le (show (0 : Int) ≤ at' by omega)
      have hj : j ≤ t.rows.length := by omega
      have hE := hide (row_true HOK.out h1 h8)
      clear h8 h1' FIN
      obtain ⟨W, hW⟩ : ∃ W : World, W = w2.alloc (.cells #[.slice Ac t.cols.length cc, .int .i64 t.head, .int .i64 t.foot, .slice Ar t.rows.length cr, .int .i64 t.gap] 33) := ⟨_, rfl⟩
      have BW : Below w2.heap.size w2 W := hW ▸ balloc (brefl w2) _
      have x0 : W.cell? ⟨w2.heap.size, 0, none⟩ = some (.slice Ac t.cols.length cc) := by rw [hW]; simp
      have x1 : W.cell? ⟨w2.heap.size, 1, none⟩ = some (.int .i64 t.head) := by rw [hW]; simp
      have x2 : W.cell? ⟨w2.heap.size, 2, none⟩ = some (.int .i64 t.foot) := by rw [hW]; simp
      have x3 : W.cell? ⟨w2.heap.size, 3, none⟩ = some (.slice Ar t.rows.length cr) := by rw [hW]; simp
      have x4 : W.cell? ⟨w2.heap.size, 4, none⟩ = some (.int .i64 t.gap) := by rw [hW]; simp
      have xf : ∀ i, W.frozen? ⟨w2.heap.size, i, none⟩ = false := fun i => by rw [hW]; simp
      have hWs : W.heap.size = w2.heap.size + 1 := by rw [hW]; simp
      have HX : Hid (W5 W w2.heap.size (.slice Ac t.cols.length cc) (.int .i64 t.head) (.int .i64 t.foot) (.slice Ar t.rows.length cr) (.int .i64 t.gap)) := ⟨x0, x1, x2, x3, x4⟩
      have HXF := hide xf
      have HU : Hid (W5 W (w.heap.size + 1) (.slice none 0 0) (.int .i64 0) (.int .i64 0) (.slice none 0 0) (.int .i64 0)) := ⟨keepW BW u0, keepW BW u1, keepW BW u2, keepW BW u3, keepW BW u4⟩
      have HUF : Hid (∀ i, W.frozen? ⟨w.heap.size + 1, i, none⟩ = false) := fun i => ((seenBk _ hul BW).2.1 i).trans (uf i)
      have HRW := hide (HRA.out.keep (w' := W) (fun b _ h => BW.block b h))
      have HCW := hide (HOWN.out.1.keep (w' := W) (fun b _ h => BW.block b h))
      have HBW := hide (HB2.out.trans (BW.mono HB2.out.size))
      have HCP := hide (hCp W HBW.out)
      have HDEF := hide hW
      clear hCp BW HOWN HRA x0 x1 x2 x3 x4 xf hW
      go_wp2_with (go_at_call 49; refine (hI _ _ _ _).mono ?_; rintro e w' ⟨rfl, rfl⟩)
      rw [← HDEF.out]
      refine HCP.out.mono ?_
      rintro e w3 ⟨vc3, vr3, rfl, hown3, hb3⟩
      obtain ⟨Ac3, cc3, hvc3⟩ := hown3.1.form
      obtain ⟨hcol3, vy, hra3⟩ := hown3
      obtain ⟨Ar3, cr3, hvr3⟩ := hra3.len
      subst hvc3
      subst hvr3
      have HX := hide (HX.out.block (hb3.block _ (by omega)))
      have HU := hide (HU.out.block (hb3.block _ (by omega)))
      have HXF : Hid (∀ i, w3.frozen? ⟨w2.heap.size, i, none⟩ = false) := fun i => ((seenBk _ (by omega) hb3).2.1 i).trans (HXF.out i)
      have HUF : Hid (∀ i, w3.frozen? ⟨w.heap.size + 1, i, none⟩ = false) := fun i => ((seenBk _ (by omega) hb3).2.1 i).trans (HUF.out i)
      have HRW := hide (HRW.out.keep (w' := w3) (fun b _ h => hb3.block b (by omega)))
      have HCW := hide (HCW.out.keep (w' := w3) (fun b _ h => hb3.block b (by omega)))
      have HB3 := hide (HBW.out.trans (hb3.mono HBW.out.size))
      have HRY := hide hra3
      have h23 : w2.heap.size + 1 ≤ w3.heap.size := by have := hb3.size; omega
      clear hb3 hra3 hcol3 HCP HBW HDEF y0 y1 y2 y3 y4 u0 u1 u2 u3 u4 uf
      go_wp2_with fail
      obtain ⟨V, hV⟩ : ∃ V : World, V = w3.alloc (.cells #[.slice Ac3 t.cols.length cc3, .int .i64 t.head, .int .i64 t.foot, .slice Ar3 t.rows.length cr3, .int .i64 t.gap] 33) := ⟨_, rfl⟩
      rw [← hV]
      have BV : Below w3.heap.size w3 V := hV ▸ balloc (brefl w3) _
      have hVs : V.heap.size = w3.heap.size + 1 := by rw [hV]; simp
      have z3 : V.cell? ⟨w3.heap.size, 3, none⟩ = some (.slice Ar3 t.rows.length cr3) := by rw [hV]; simp
      have HX := hide (HX.out.block (BV.block _ (by omega)))
      have HU := hide (HU.out.block (BV.block _ (by omega)))
      have HXF : Hid (∀ i, V.frozen? ⟨w2.heap.size, i, none⟩ = false) := fun i => ((seenBk _ (by omega) BV).2.1 i).trans (HXF.out i)
      have HUF : Hid (∀ i, V.frozen? ⟨w.heap.size + 1, i, none⟩ = false) := fun i => ((seenBk _ (by omega) BV).2.1 i).trans (HUF.out i)
      have HRW := hide (HRW.out.keep (w' := V) (fun b _ h => BV.block b (by omega)))
      have HRY := hide (HRY.out.keep (w' := V) (fun b _ h => BV.block b h))
      have HCW := hide (HCW.out.keep (w' := V) (fun b _ h => BV.block b (by omega)))
      have HB4 := hide (HB3.out.trans (BV.mono HB3.out.size))
      have x3 := HX.out.2.2.2.1
      clear BV hV
      have hrx := HRW.out.row_own hpos
      have hry := HRY.out.row_own hpos
      obtain ⟨gr, rfl⟩ : ∃ gr, Ar = some ⟨gr, 0, none⟩ := by
        rcases hrx.2 with ⟨_, h0⟩ | ⟨gr, cap, cur, e, _⟩
        · omega
        · injection e with e _ _; exact ⟨gr, e⟩
      obtain ⟨gy, rfl⟩ : ∃ gy, Ar3 = some ⟨gy, 0, none⟩ := by
        rcases hry.2 with ⟨_, h0⟩ | ⟨gr, cap, cur, e, _⟩
        · omega
        · injection e with e _ _; exact ⟨gr, e⟩
      have hgr := own_lt hrx (b := gr) rfl
      have hgy := own_lt hry (b := gy) rfl
      have hrcx : t.rows.length ≤ cr := by
        rcases hrx.2 with ⟨e, _⟩ | ⟨g', cap', cur, e, _, _, h1, _⟩
        · cases e
        · injection e with _ _ e2; subst e2; exact h1
      have hrcy : t.rows.length ≤ cr3 := by
        rcases hry.2 with ⟨e, _⟩ | ⟨g', cap', cur, e, _, _, h1, _⟩
        · cases e
        · injection e with _ _ e2; subst e2; exact h1
      have HN1 : Hid (∀ q u, ((rowCells vs t.rows).take (j * 2))[q]? = some u → V.cell? ((⟨gr, 0, none⟩ : Addr).add q) = some u) := fun q u hq => by
        rw [Addr.add_lit, Nat.zero_add]
        rw [List.getElem?_take] at hq
        split at hq
        · exact own_get hrx hq
        · cases hq
      obtain ⟨A2, hA, HN3⟩ : ∃ A2 : Addr, (if cr3 = j then (some ⟨gy, 0, none⟩ : Option Addr) else some ⟨gy, j * 2, none⟩) = some A2 ∧ Hid (∀ q u, ((rowCells vy t.rows).drop (j * 2))[q]? = some u → V.cell? (A2.add q) = some u) := by
        by_cases hc : cr3 = j
        · refine ⟨⟨gy, 0, none⟩, by simp [hc], fun q u hq => ?_⟩
          have h0 : (rowCells vy t.rows).drop (j * 2) = [] := List.drop_eq_nil_of_le (by rw [hry.1]; omega)
          rw [h0] at hq
          simp at hq
        · refine ⟨⟨gy, j * 2, none⟩, by simp [hc], fun q u hq => ?_⟩
          rw [Addr.add_lit]
          rw [List.getElem?_drop] at hq
          exact own_get hry hq
      have HL1 : Hid (((rowCells vs t.rows).take (j * 2)).length = j * 2) := by show List.length _ = _; rw [List.length_take, hrx.1]; omega
      have HL3 : Hid (((rowCells vy t.rows).drop (j * 2)).length = (t.rows.length - j) * 2) := by show List.length _ = _; rw [List.length_drop, hry.1]; omega
      have HO1 : Hid (∀ u ∈ (rowCells vs t.rows).take (j * 2), u.oneCell' = true) := fun u hu => rowCells_one _ _ HRW.out.2.slices u (List.mem_of_mem_take hu)
      have HO3 : Hid (∀ u ∈ (rowCells vy t.rows).drop (j * 2), u.oneCell' = true) := fun u hu => rowCells_one _ _ HRY.out.2.slices u (List.mem_of_mem_drop hu)
      have hjc : j ≤ cr := by omega
      have hjc3 : j ≤ cr3 := by omega
      have hjz : (j : Int) ≤ (t.rows.length : Int) := by omega
      obtain ⟨i0, hi, hz0, hz1, hz2⟩ := info_parts infoR
      clear hrx hry
      have hneU : w2.heap.size ≠ w.heap.size + 1 := by omega
      have FINISH : Hid (∀ (A9 : Option Addr) (c9 : Nat) (w9 : World), w9.ownsRow V.heap.size 84 2 (.slice A9 (t.rows.length + 1) c9) (t.rows.length + 1) ((rowCells vs t.rows).take (j * 2) ++ [.slice none 0 0, .bool false] ++ (rowCells vy t.rows).drop (j * 2)) → Below V.heap.size V w9 →
          OwnTbl (w9.setCell ⟨w2.heap.size, 3, none⟩ (.slice A9 (t.rows.length + 1) c9)) w1.heap.size w9.heap.size (.slice Ac t.cols.length cc) (.slice A9 (t.rows.length + 1) c9) { t with rows := t.rows.take j ++ [⟨[], false⟩] ++ t.rows.drop j }) := fun A9 c9 w9 ho9 hb9 => by
        have h9 := hb9.size
        have hs1 := HS1.out
        have hk : ∀ (v : Value) b, b < V.heap.size → b ≠ w2.heap.size → (w9.setCell ⟨w2.heap.size, 3, none⟩ v).heap[b]? = V.heap[b]? := fun v b hb hne => (heap_set _ _ _ _ (show b ≠ w2.heap.size from hne)).trans (hb9.block b hb)
        have hlen : (t.rows.take j ++ [TRow.mk [] false] ++ t.rows.drop j).length = t.rows.length + 1 := by simp; omega
        have ax : AllOwn V w1.heap.size w2.heap.size vs t.rows := ⟨HRW.out.2.1, HRW.out.2.2.1⟩
        have ay : AllOwn V W.heap.size w3.heap.size vy t.rows := ⟨HRY.out.2.1, HRY.out.2.2.1⟩
        have bx := (ax.keep (w' := w9.setCell ⟨w2.heap.size, 3, none⟩ (.slice A9 (t.rows.length + 1) c9)) (fun b _ h => hk _ b (by omega) (by omega))).mono (Nat.le_refl _) (show w2.heap.size ≤ w9.heap.size by omega)
        have bY := (ay.keep (w' := w9.setCell ⟨w2.heap.size, 3, none⟩ (.slice A9 (t.rows.length + 1) c9)) (fun b _ h => hk _ b (by omega) (by omega))).mono (show w1.heap.size ≤ W.heap.size by omega) (show w3.heap.size ≤ w9.heap.size by omega)
        have hI := ((bx.take j).append (AllOwn.nilRow _ _ _ false)).append (bY.drop j)
        have hP : (vs.take j ++ vy.drop j).Pairwise Far := by
          rw [List.pairwise_append]
          refine ⟨(List.Pairwise.sublist (List.take_sublist j vs) HRW.out.2.2.2), (List.Pairwise.sublist (List.drop_sublist j vy) HRY.out.2.2.2), fun a ha b hb => ?_⟩
          obtain ⟨i1, h1, rfl⟩ := List.getElem_of_mem (List.mem_of_mem_take ha)
          obtain ⟨i2, h2, rfl⟩ := List.getElem_of_mem (List.mem_of_mem_drop hb)
          intro g n c g' n' c' e1 e2 p1 p2 e
          subst e
          rcases ax.2 i1 h1 (by rw [← ax.1]; exact h1) with ⟨_, _, A5, c5, e5⟩ | ⟨_, g5, c5, e5, d1, d2, _⟩
          · rw [e5] at e1; injection e1 with _ e1 _; omega
          · rcases ay.2 i2 h2 (by rw [← ay.1]; exact h2) with ⟨_, _, A6, c6, e6⟩ | ⟨_, g6, c6, e6, f1, f2, _⟩
            · rw [e6] at e2; injection e2 with _ e2 _; omega
            · rw [e5] at e1; injection e1 with e1 _ _; injection e1 with e1; injection e1 with e1
              rw [e6] at e2; injection e2 with e2 _ _; injection e2 with e2; injection e2 with e2
              omega
        have hcells : rowCells (vs.take j ++ [Value.slice none 0 0] ++ vy.drop j) (t.rows.take j ++ [TRow.mk [] false] ++ t.rows.drop j) = (rowCells vs t.rows).take (j * 2) ++ [.slice none 0 0, .bool false] ++ (rowCells vy t.rows).drop (j * 2) := by
          rw [rowCells_append _ _ _ _ (by simp [ax.1]), rowCells_append _ _ _ _ (by simp [ax.1]), rowCells_take, rowCells_drop]
          rfl
        have hR : (w9.setCell ⟨w2.heap.size, 3, none⟩ (.slice A9 (t.rows.length + 1) c9)).ownsRow V.heap.size 84 2 (.slice A9 (t.rows.length + 1) c9) (t.rows.take j ++ [TRow.mk [] false] ++ t.rows.drop j).length (rowCells (vs.take j ++ [Value.slice none 0 0] ++ vy.drop j) (t.rows.take j ++ [TRow.mk [] false] ++ t.rows.drop j)) := by
          rw [hcells, hlen]
          exact own_setA ho9 (show w2.heap.size < V.heap.size by omega) _
        refine ⟨(HCW.out.keep (fun b _ h => hk _ b (by omega) (by omega))).mono (Nat.le_refl _) (by omega), _, ?_, ⟨hI.1, hI.2, far_ins hP⟩⟩
        have := (Own.of hR (Nat.le_refl _)).mono (lo' := w1.heap.size) (hi' := w9.heap.size) (by omega) (by simp)
        rw [hlen] at this ⊢
        exact this
      have hSd : (fun U : World => U.cell? ⟨w2.heap.size, 3, none⟩ = some (.slice (some ⟨gr, 0, none⟩) t.rows.length cr) ∧ U.cell? ⟨w3.heap.size, 3, none⟩ = some (.slice (some ⟨gy, 0, none⟩) t.rows.length cr3)) V.drew := ⟨x3, z3⟩
      have HK : Hid (∀ U : World, Below V.heap.size V U → (fun U : World => U.cell? ⟨w2.heap.size, 3, none⟩ = some (.slice (some ⟨gr, 0, none⟩) t.rows.length cr) ∧ U.cell? ⟨w3.heap.size, 3, none⟩ = some (.slice (some ⟨gy, 0, none⟩) t.rows.length cr3)) U) := fun U h => ⟨keepW h x3, keepW h z3⟩
      refine wp_region_T (S := fun U : World => U.cell? ⟨w2.heap.size, 3, none⟩ = some (.slice (some ⟨gr, 0, none⟩) t.rows.length cr) ∧ U.cell? ⟨w3.heap.size, 3, none⟩ = some (.slice (some ⟨gy, 0, none⟩) t.rows.length cr3)) (L := 15) (by kernel_rfl) ?_
      refine' wpAnyT_take [15] (i := 1) (v := _) rfl (by kernel_rfl) (by kernel_rfl) (by kernel_rfl) (by kernel_rfl) (by kernel_rfl) (by kernel_rfl) (fun _ _ _ h => h) (Or.inl ⟨by rfl, ?hy1⟩) hSd ?_
      case hy1 => (intro w hSw; (try dsimp only at hSw); go_simp) <;> with_reducible rfl
      try simp only [Act.put, List.setIfInBounds_toArray, List.set_cons_zero, List.set_cons_succ]
      refine' wpAnyT_take [15] (i := 2) (v := _) rfl (by kernel_rfl) (by kernel_rfl) (by kernel_rfl) (by kernel_rfl) (by kernel_rfl) (by kernel_rfl) (fun _ _ _ h => h) (Or.inl ⟨by rfl, ?hy2⟩) hSd ?_
      case hy2 => (intro w hSw; (try dsimp only at hSw); go_simp) <;> with_reducible rfl
      try simp only [Act.put, List.setIfInBounds_toArray, List.set_cons_zero, List.set_cons_succ]
      refine' wpAnyT_take [15] (i := 3) (v := _) rfl (by kernel_rfl) (by kernel_rfl) (by kernel_rfl) (by kernel_rfl) (by kernel_rfl) (by kernel_rfl) (fun _ _ _ h => h) (Or.inl ⟨by rfl, ?hy3⟩) hSd ?_
      case hy3 => (intro w hSw; (try dsimp only at hSw); go_simp) <;> with_reducible rfl
      try simp only [Act.put, List.setIfInBounds_toArray, List.set_cons_zero, List.set_cons_succ]
      refine' wpAnyT_take [15] (i := 4) (v := _) rfl (by kernel_rfl) (by kernel_rfl) (by kernel_rfl) (by kernel_rfl) (by kernel_rfl) (by kernel_rfl) (fun _ _ _ h => h) (Or.inl ⟨by rfl, ?hy4⟩) hSd ?_
      case hy4 => (intro w hSw; (try dsimp only at hSw); go_simp) <;> with_reducible rfl
      try simp only [Act.put, List.setIfInBounds_toArray, List.set_cons_zero, List.set_cons_succ]
      refine' wpAnyT_take [15] (i := 6) (v := _) rfl (by kernel_rfl) (by kernel_rfl) (by kernel_rfl) (by kernel_rfl) (by kernel_rfl) (by kernel_rfl) (fun _ _ _ h => h) (Or.inl ⟨by rfl, ?hy6⟩) hSd ?_
      case hy6 => (intro w hSw; (try dsimp only at hSw); go_simp) <;> with_reducible rfl
      try simp only [Act.put, List.setIfInBounds_toArray, List.set_cons_zero, List.set_cons_succ]
      refine' wpAnyT_take [15] (i := 9) (v := _) rfl (by kernel_rfl) (by kernel_rfl) (by kernel_rfl) (by kernel_rfl) (by kernel_rfl) (by kernel_rfl) (fun _ _ _ h => h) (Or.inl ⟨by rfl, ?hy9⟩) hSd ?_
      case hy9 => (intro w hSw; (try dsimp only at hSw); go_simp) <;> with_reducible rfl
      try simp only [Act.put, List.setIfInBounds_toArray, List.set_cons_zero, List.set_cons_succ]
      refine' wpAnyT_take [15] (i := 10) (v := _) rfl (by kernel_rfl) (by kernel_rfl) (by kernel_rfl) (by kernel_rfl) (by kernel_rfl) (by kernel_rfl) (fun _ _ _ h => h) (Or.inl ⟨by rfl, ?hy10⟩) hSd ?_
      case hy10 => (intro w hSw; (try dsimp only at hSw); go_simp) <;> with_reducible rfl
      try simp only [Act.put, List.setIfInBounds_toArray, List.set_cons_zero, List.set_cons_succ]
      refine' wpAnyT_take [15] (i := 11) (v := _) rfl (by kernel_rfl) (by kernel_rfl) (by kernel_rfl) (by kernel_rfl) (by kernel_rfl) (by kernel_rfl) (fun _ _ _ h => h) (Or.inl ⟨by rfl, ?hy11⟩) hSd ?_
      case hy11 => (intro w hSw; (try dsimp only at hSw); go_simp) <;> with_reducible rfl
      try simp only [Act.put, List.setIfInBounds_toArray, List.set_cons_zero, List.set_cons_succ]
      refine' wpAnyT_take [15] (i := 12) (v := _) rfl (by kernel_rfl) (by kernel_rfl) (by kernel_rfl) (by kernel_rfl) (by kernel_rfl) (by kernel_rfl) (fun _ _ _ h => h) (Or.inl ⟨by rfl, ?hy12⟩) hSd ?_
      case hy12 => (intro w hSw; (try dsimp only at hSw); go_simp) <;> with_reducible rfl
      try simp only [Act.put, List.setIfInBounds_toArray, List.set_cons_zero, List.set_cons_succ]
      refine wpAnyT_two (i := 0) (j := 7) (by kernel_rfl) rfl rfl (fun K hK => ?_) (fun K hK => ?_)
      · go_simp
        refine hK.out _ _ (fun _ => HK.out _ (balloc (bdrew (brefl V)) _)) ?_
        clear hK K
        try simp only [Act.put, List.setIfInBounds_toArray, List.set_cons_zero, List.set_cons_succ]
        refine wpAnyT_two (i := 5) (j := 7) (by kernel_rfl) rfl rfl (fun K hK => ?_) (fun K hK => ?_)
        · refine step_append_own _ rfl (.tmp 34) (.tmp 38) 31 rfl V.heap.size 84 i0 _ 2 32 undR hi hz0 hz1 hz2 rfl (by decide) (.slice (some ⟨V.heap.size, 0, none⟩) 0 0) 0 [] ?_ (World.ownsRow.drew (made_at V V.heap.size rfl)) ⟨gr, 0, none⟩ j cr ((rowCells vs t.rows).take (j * 2)) (by (simp [Act.eval]; done)) HL1.out (fun q u hq => keepW (by (repeat' (with_reducible first | exact brefl _ | refine bdrew ?_ | refine balloc ?_ _))) (HN1.out q u hq)) HO1.out (by unfold maxLen; omega) (by omega) (Below.size (by (repeat' (with_reducible first | exact brefl _ | refine bdrew ?_ | refine balloc ?_ _)))) ?_
          (focus (simp [Act.eval]; done))
          intro v5 w5 ho5 hg5 hn5
          have hb5 : Below V.heap.size V w5 := made_below (base := V.heap.size) (E := 84) (k := 2) (by (repeat' (with_reducible first | exact brefl _ | refine bdrew ?_ | refine balloc ?_ _))) (World.ownsRow.drew (made_at V V.heap.size rfl)) (Nat.le_refl _) hg5
          rw [Nat.zero_add, List.nil_append] at ho5
          obtain ⟨A5, c5, rfl⟩ := own_form0 ho5
          have HO5 := hide ho5
          have HB5 := hide hb5
          clear ho5 hg5 hn5 hb5
          refine hK.out _ _ (fun _ => HK.out _ HB5.out) ?_
          clear hK K
          try simp only [Act.put, List.setIfInBounds_toArray, List.set_cons_zero, List.set_cons_succ]
          refine wpAnyT_one (i := 7) (by kernel_rfl) rfl (fun K hK => ?_)
          go_simp
          refine hK.out _ _ (fun _ => HK.out _ (balloc HB5.out _)) ?_
          clear hK K
          try simp only [Act.put, List.setIfInBounds_toArray, List.set_cons_zero, List.set_cons_succ]
          have HBC := hide (balloc HB5.out (.cells #[.slice none 0 0, .bool false] 84))
          have HOC := hide (own_alloc HO5.out (.cells #[.slice none 0 0, .bool false] 84))
          have HNC : Hid (∀ q u, [Value.slice none 0 0, .bool false][q]? = some u → (w5.alloc (.cells #[.slice none 0 0, .bool false] 84)).cell? ((⟨w5.heap.size, 0, none⟩ : Addr).add q) = some u) := news2 (cell_new _ _ _ _ _ _ rfl) (cell_new _ _ _ _ _ _ rfl)
          refine wpAnyT_one (i := 8) (by kernel_rfl) rfl (fun K hK => ?_)
          refine step_append_own _ rfl (.tmp 39) (.tmp 41) 31 rfl V.heap.size 84 i0 _ 2 32 undR hi hz0 hz1 hz2 rfl (by decide) (.slice A5 j c5) j ((rowCells vs t.rows).take (j * 2)) ?_ HOC.out ⟨w5.heap.size, 0, none⟩ 1 1 [.slice none 0 0, .bool false] (by (simp [Act.eval]; done)) rfl HNC.out (row_one _ _ _ _) (by unfold maxLen; omega) (by omega) HBC.out.size ?_
          (focus (simp [Act.eval]; done))
          intro v8 w8 ho8 hg8 hn8
          have hb8 := made_below HBC.out HOC.out (Nat.le_refl _) hg8
          obtain ⟨A8, c8, rfl⟩ := own_form0 ho8
          have HO8 := hide ho8
          have HB8 := hide hb8
          clear ho8 hg8 hn8 hb8 HBC HOC HNC
          refine hK.out _ _ (fun _ => HK.out _ HB8.out) ?_
          clear hK K
          try simp only [Act.put, List.setIfInBounds_toArray, List.set_cons_zero, List.set_cons_succ]
          refine wpAnyT_one (i := 13) (by kernel_rfl) rfl (fun K hK => ?_)
          refine step_append_own _ rfl (.tmp 42) (.tmp 46) 31 rfl V.heap.size 84 i0 _ 2 32 undR hi hz0 hz1 hz2 rfl (by decide) (.slice A8 (j + 1) c8) (j + 1) ((rowCells vs t.rows).take (j * 2) ++ [.slice none 0 0, .bool false]) ?_ HO8.out A2 (t.rows.length - j) (cr3 - j) ((rowCells vy t.rows).drop (j * 2)) (by (simp [Act.eval]; done)) HL3.out (fun q u hq => keepW HB8.out (HN3.out q u hq)) HO3.out (by unfold maxLen; omega) (by omega) HB8.out.size ?_
          (focus (simp [Act.eval]; done))
          intro v9 w9 ho9 hg9 hn9
          have hb9 := made_below HB8.out HO8.out (Nat.le_refl _) hg9
          rw [show j + 1 + (t.rows.length - j) = t.rows.length + 1 by omega] at ho9
          obtain ⟨A9, c9, rfl⟩ := own_form0 ho9
          have HO9 := hide ho9
          have HB9 := hide hb9
          clear ho9 hg9 hn9 hb9 HO8 HB8
          refine hK.out _ _ (fun _ => HK.out _ HB9.out) ?_
          clear hK K
          try simp only [Act.put, List.setIfInBounds_toArray, List.set_cons_zero, List.set_cons_succ]
          have hS9 := HK.out _ HB9.out
          refine' wpAnyT_take [15] (i := 14) (v := _) rfl (by kernel_rfl) (by kernel_rfl) (by kernel_rfl) (by kernel_rfl) (by kernel_rfl) (by kernel_rfl) (fun _ _ _ h => h) (Or.inl ⟨by rfl, ?hz14⟩) hS9 ?_
          case hz14 => (intro w hSw; (try dsimp only at hSw); go_simp) <;> with_reducible rfl
          try simp only [Act.put, List.setIfInBounds_toArray, List.set_cons_zero, List.set_cons_succ]
          have xx3 := hS9.1
          have xxf : w9.frozen? ⟨w2.heap.size, 3, none⟩ = false := ((seenBk _ (by omega) HB9.out).2.1 3).trans (HXF.out 3)
          clear hS9 x3 z3 hSd
          refine wpAnyT_one (i := 15) (by kernel_rfl) rfl (fun K hK => ?_)
          go_simp
          refine hK.out _ _ (fun h => absurd rfl h) ?_
          clear hK K
          try simp only [Act.put, List.setIfInBounds_toArray, List.set_cons_zero, List.set_cons_succ]
          refine wpAnyT_done (by kernel_rfl) ?_ _
          have HV1 := hide (FINISH.out A9 c9 w9 HO9.out HB9.out)
          obtain ⟨m9, hm9⟩ : ∃ m, m = t.rows.length + 1 := ⟨_, rfl⟩
          have HM9 := hide hm9
          rw [← hm9] at HV1 ⊢
          clear hm9
          have k0 := setB0 (o := 3) (v := .slice A9 m9 c9) (keepW HB9.out HX.out.1) (by decide)
          have k1 := setB0 (o := 3) (v := .slice A9 m9 c9) (keepW HB9.out HX.out.2.1) (by decide)
          have k2 := setB0 (o := 3) (v := .slice A9 m9 c9) (keepW HB9.out HX.out.2.2.1) (by decide)
          have k3 := setS4 (v := .slice A9 m9 c9) (keepW HB9.out HX.out.2.2.2.1)
          have k4 := setB0 (o := 3) (v := .slice A9 m9 c9) (keepW HB9.out HX.out.2.2.2.2) (by decide)
          have l0 := setB (o := 3) (v := .slice A9 m9 c9) (keepW HB9.out HU.out.1) hneU
          have l1 := setB (o := 3) (v := .slice A9 m9 c9) (keepW HB9.out HU.out.2.1) hneU
          have l2 := setB (o := 3) (v := .slice A9 m9 c9) (keepW HB9.out HU.out.2.2.1) hneU
          have l3 := setB (o := 3) (v := .slice A9 m9 c9) (keepW HB9.out HU.out.2.2.2.1) hneU
          have l4 := setB (o := 3) (v := .slice A9 m9 c9) (keepW HB9.out HU.out.2.2.2.2) hneU
          have vf : ∀ i, w9.frozen? ⟨w.heap.size + 1, i, none⟩ = false := fun i => ((seenBk _ (by omega) HB9.out).2.1 i).trans (HUF.out i)
          have h9 := HB9.out.size
          have HB99 := hide (HB4.out.trans (HB9.out.mono HB4.out.size))
          have hs1 := HS1.out
          clear xx3 xxf HO9 HB9 HK HN1 HN3 HL1 HL3 HO1 HO3
          go_wp2_with fail
          rw [hE.out]
          have e9 := HM9.out
          subst e9
          refine bodyPost_ret (v := .tuple #[.agg #[.slice Ac t.cols.length cc, .int .i64 t.head, .int .i64 t.foot, .slice A9 (t.rows.length + 1) c9, .int .i64 t.gap], .bool true]) (by simp [results, Tryd.results29, go_sem, *]) rfl ⟨_, _, rfl, (HV1.out.keep (fun b hb1 hb2 => ?_)).mono ?hlo ?hhi, ?_⟩
          case hlo => omega
          case hhi => simp
          · refine (heap_set _ _ _ _ (show b ≠ w.heap.size + 1 by omega)).trans ?_
            refine (heap_set _ _ _ _ (show b ≠ w.heap.size + 1 by omega)).trans ?_
            refine (heap_set _ _ _ _ (show b ≠ w.heap.size + 1 by omega)).trans ?_
            refine (heap_set _ _ _ _ (show b ≠ w.heap.size + 1 by omega)).trans ?_
            exact heap_set _ _ _ _ (show b ≠ w.heap.size + 1 by omega)
          · have h := HB99.out
            (repeat' (with_reducible first | exact h | refine balloc ?_ _ | refine bset ?_ ?_ _)) <;> first | (simp; done) | (simp; omega)
        · go_simp
          refine hK.out _ _ (fun _ => HK.out _ (by (repeat' (with_reducible first | exact brefl _ | refine bdrew ?_ | refine balloc ?_ _)))) ?_
          clear hK K
          try simp only [Act.put, List.setIfInBounds_toArray, List.set_cons_zero, List.set_cons_succ]
          refine wpAnyT_one (i := 5) (by kernel_rfl) rfl (fun K hK => ?_)
          refine step_append_own _ rfl (.tmp 34) (.tmp 38) 31 rfl V.heap.size 84 i0 _ 2 32 undR hi hz0 hz1 hz2 rfl (by decide) (.slice (some ⟨V.heap.size, 0, none⟩) 0 0) 0 [] ?_ (own_alloc (World.ownsRow.drew (made_at V V.heap.size rfl)) _) ⟨gr, 0, none⟩ j cr ((rowCells vs t.rows).take (j * 2)) (by (simp [Act.eval]; done)) HL1.out (fun q u hq => keepW (by (repeat' (with_reducible first | exact brefl _ | refine bdrew ?_ | refine balloc ?_ _))) (HN1.out q u hq)) HO1.out (by unfold maxLen; omega) (by omega) (Below.size (by (repeat' (with_reducible first | exact brefl _ | refine bdrew ?_ | refine balloc ?_ _)))) ?_
          (focus (simp [Act.eval]; done))
          intro v5 w5 ho5 hg5 hn5
          have hb5 : Below V.heap.size V w5 := made_below (base := V.heap.size) (E := 84) (k := 2) (by (repeat' (with_reducible first | exact brefl _ | refine bdrew ?_ | refine balloc ?_ _))) (own_alloc (World.ownsRow.drew (made_at V V.heap.size rfl)) _) (Nat.le_refl _) hg5
          rw [Nat.zero_add, List.nil_append] at ho5
          obtain ⟨A5, c5, rfl⟩ := own_form0 ho5
          have HNC : Hid (∀ q u, [Value.slice none 0 0, .bool false][q]? = some u → w5.cell? ((⟨V.heap.size + 1, 0, none⟩ : Addr).add q) = some u) := news2 ((World.cell?_of_block (hg5.block (V.heap.size + 1) (by simp) (fun e => by simp [Value.ownBlock] at e))).trans (cell_new2 (V.alloc (.cells #[] 84)) (V.heap.size + 1) _ _ 0 _ (by simp) rfl)) ((World.cell?_of_block (hg5.block (V.heap.size + 1) (by simp) (fun e => by simp [Value.ownBlock] at e))).trans (cell_new2 (V.alloc (.cells #[] 84)) (V.heap.size + 1) _ _ 1 _ (by simp) rfl))
          have HOC := hide ho5
          have HBC := hide hb5
          clear ho5 hg5 hn5 hb5
          refine hK.out _ _ (fun _ => HK.out _ HBC.out) ?_
          clear hK K
          try simp only [Act.put, List.setIfInBounds_toArray, List.set_cons_zero, List.set_cons_succ]
          refine wpAnyT_one (i := 8) (by kernel_rfl) rfl (fun K hK => ?_)
          refine step_append_own _ rfl (.tmp 39) (.tmp 41) 31 rfl V.heap.size 84 i0 _ 2 32 undR hi hz0 hz1 hz2 rfl (by decide) (.slice A5 j c5) j ((rowCells vs t.rows).take (j * 2)) ?_ HOC.out ⟨V.heap.size + 1, 0, none⟩ 1 1 [.slice none 0 0, .bool false] (by (simp [Act.eval]; done)) rfl HNC.out (row_one _ _ _ _) (by unfold maxLen; omega) (by omega) HBC.out.size ?_
          (focus (simp [Act.eval]; done))
          intro v8 w8 ho8 hg8 hn8
          have hb8 := made_below HBC.out HOC.out (Nat.le_refl _) hg8
          obtain ⟨A8, c8, rfl⟩ := own_form0 ho8
          have HO8 := hide ho8
          have HB8 := hide hb8
          clear ho8 hg8 hn8 hb8 HBC HOC HNC
          refine hK.out _ _ (fun _ => HK.out _ HB8.out) ?_
          clear hK K
          try simp only [Act.put, List.setIfInBounds_toArray, List.set_cons_zero, List.set_cons_succ]
          refine wpAnyT_one (i := 13) (by kernel_rfl) rfl (fun K hK => ?_)
          refine step_append_own _ rfl (.tmp 42) (.tmp 46) 31 rfl V.heap.size 84 i0 _ 2 32 undR hi hz0 hz1 hz2 rfl (by decide) (.slice A8 (j + 1) c8) (j + 1) ((rowCells vs t.rows).take (j * 2) ++ [.slice none 0 0, .bool false]) ?_ HO8.out A2 (t.rows.length - j) (cr3 - j) ((rowCells vy t.rows).drop (j * 2)) (by (simp [Act.eval]; done)) HL3.out (fun q u hq => keepW HB8.out (HN3.out q u hq)) HO3.out (by unfold maxLen; omega) (by omega) HB8.out.size ?_
          (focus (simp [Act.eval]; done))
          intro v9 w9 ho9 hg9 hn9
          have hb9 := made_below HB8.out HO8.out (Nat.le_refl _) hg9
          rw [show j + 1 + (t.rows.length - j) = t.rows.length + 1 by omega] at ho9
          obtain ⟨A9, c9, rfl⟩ := own_form0 ho9
          have HO9 := hide ho9
          have HB9 := hide hb9
          clear ho9 hg9 hn9 hb9 HO8 HB8
          refine hK.out _ _ (fun _ => HK.out _ HB9.out) ?_
          clear hK K
          try simp only [Act.put, List.setIfInBounds_toArray, List.set_cons_zero, List.set_cons_succ]
          have hS9 := HK.out _ HB9.out
          refine' wpAnyT_take [15] (i := 14) (v := _) rfl (by kernel_rfl) (by kernel_rfl) (by kernel_rfl) (by kernel_rfl) (by kernel_rfl) (by kernel_rfl) (fun _ _ _ h => h) (Or.inl ⟨by rfl, ?hz14⟩) hS9 ?_
          case hz14 => (intro w hSw; (try dsimp only at hSw); go_simp) <;> with_reducible rfl
          try simp only [Act.put, List.setIfInBounds_toArray, List.set_cons_zero, List.set_cons_succ]
          have xx3 := hS9.1
          have xxf : w9.frozen? ⟨w2.heap.size, 3, none⟩ = false := ((seenBk _ (by omega) HB9.out).2.1 3).trans (HXF.out 3)
          clear hS9 x3 z3 hSd
          refine wpAnyT_one (i := 15) (by kernel_rfl) rfl (fun K hK => ?_)
          go_simp
          refine hK.out _ _ (fun h => absurd rfl h) ?_
          clear hK K
          try simp only [Act.put, List.setIfInBounds_toArray, List.set_cons_zero, List.set_cons_succ]
          refine wpAnyT_done (by kernel_rfl) ?_ _
          have HV1 := hide (FINISH.out A9 c9 w9 HO9.out HB9.out)
          obtain ⟨m9, hm9⟩ : ∃ m, m = t.rows.length + 1 := ⟨_, rfl⟩
          have HM9 := hide hm9
          rw [← hm9] at HV1 ⊢
          clear hm9
          have k0 := setB0 (o := 3) (v := .slice A9 m9 c9) (keepW HB9.out HX.out.1) (by decide)
          have k1 := setB0 (o := 3) (v := .slice A9 m9 c9) (keepW HB9.out HX.out.2.1) (by decide)
          have k2 := setB0 (o := 3) (v := .slice A9 m9 c9) (keepW HB9.out HX.out.2.2.1) (by decide)
          have k3 := setS4 (v := .slice A9 m9 c9) (keepW HB9.out HX.out.2.2.2.1)
          have k4 := setB0 (o := 3) (v := .slice A9 m9 c9) (keepW HB9.out HX.out.2.2.2.2) (by decide)
          have l0 := setB (o := 3) (v := .slice A9 m9 c9) (keepW HB9.out HU.out.1) hneU
          have l1 := setB (o := 3) (v := .slice A9 m9 c9) (keepW HB9.out HU.out.2.1) hneU
          have l2 := setB (o := 3) (v := .slice A9 m9 c9) (keepW HB9.out HU.out.2.2.1) hneU
          have l3 := setB (o := 3) (v := .slice A9 m9 c9) (keepW HB9.out HU.out.2.2.2.1) hneU
          have l4 := setB (o := 3) (v := .slice A9 m9 c9) (keepW HB9.out HU.out.2.2.2.2) hneU
          have vf : ∀ i, w9.frozen? ⟨w.heap.size + 1, i, none⟩ = false := fun i => ((seenBk _ (by omega) HB9.out).2.1 i).trans (HUF.out i)
          have h9 := HB9.out.size
          have HB99 := hide (HB4.out.trans (HB9.out.mono HB4.out.size))
          have hs1 := HS1.out
          clear xx3 xxf HO9 HB9 HK HN1 HN3 HL1 HL3 HO1 HO3
          go_wp2_with fail
          rw [hE.out]
          have e9 := HM9.out
          subst e9
          refine bodyPost_ret (v := .tuple #[.agg #[.slice Ac t.cols.length cc, .int .i64 t.head, .int .i64 t.foot, .slice A9 (t.rows.length + 1) c9, .int .i64 t.gap], .bool true]) (by simp [results, Tryd.results29, go_sem, *]) rfl ⟨_, _, rfl, (HV1.out.keep (fun b hb1 hb2 => ?_)).mono ?hlo ?hhi, ?_⟩
          case hlo => omega
          case hhi => simp
          · refine (heap_set _ _ _ _ (show b ≠ w.heap.size + 1 by omega)).trans ?_
            refine (heap_set _ _ _ _ (show b ≠ w.heap.size + 1 by omega)).trans ?_
            refine (heap_set _ _ _ _ (show b ≠ w.heap.size + 1 by omega)).trans ?_
            refine (heap_set _ _ _ _ (show b ≠ w.heap.size + 1 by omega)).trans ?_
            exact heap_set _ _ _ _ (show b ≠ w.heap.size + 1 by omega)
          · have h := HB99.out
            (repeat' (with_reducible first | exact h | refine balloc ?_ _ | refine bset ?_ ?_ _)) <;> first | (simp; done) | (simp; omega)
      · go_simp
        refine hK.out _ _ (fun _ => HK.out _ (by (repeat' (with_reducible first | exact brefl _ | refine bdrew ?_ | refine balloc ?_ _)))) ?_
        clear hK K
        try simp only [Act.put, List.setIfInBounds_toArray, List.set_cons_zero, List.set_cons_succ]
        refine wpAnyT_one (i := 0) (by kernel_rfl) rfl (fun K hK => ?_)
        go_simp
        refine hK.out _ _ (fun _ => HK.out _ (by (repeat' (with_reducible first | exact brefl _ | refine bdrew ?_ | refine balloc ?_ _)))) ?_
        clear hK K
        try simp only [Act.put, List.setIfInBounds_toArray, List.set_cons_zero, List.set_cons_succ]
        refine wpAnyT_one (i := 5) (by kernel_rfl) rfl (fun K hK => ?_)
        refine step_append_own _ rfl (.tmp 34) (.tmp 38) 31 rfl V.heap.size 84 i0 _ 2 32 undR hi hz0 hz1 hz2 rfl (by decide) (.slice (some ⟨V.heap.size + 1, 0, none⟩) 0 0) 0 [] ?_ (World.ownsRow.drew (made_at (base := V.heap.size) (V.alloc (.cells #[.slice none 0 0, .bool false] 84)) (V.heap.size + 1) (by simp))) ⟨gr, 0, none⟩ j cr ((rowCells vs t.rows).take (j * 2)) (by (simp [Act.eval]; done)) HL1.out (fun q u hq => keepW (by (repeat' (with_reducible first | exact brefl _ | refine bdrew ?_ | refine balloc ?_ _))) (HN1.out q u hq)) HO1.out (by unfold maxLen; omega) (by omega) (Below.size (by (repeat' (with_reducible first | exact brefl _ | refine bdrew ?_ | refine balloc ?_ _)))) ?_
        (focus (simp [Act.eval]; done))
        intro v5 w5 ho5 hg5 hn5
        have hb5 : Below V.heap.size V w5 := made_below (base := V.heap.size) (E := 84) (k := 2) (by (repeat' (with_reducible first | exact brefl _ | refine bdrew ?_ | refine balloc ?_ _))) (World.ownsRow.drew (made_at (base := V.heap.size) (V.alloc (.cells #[.slice none 0 0, .bool false] 84)) (V.heap.size + 1) (by simp))) (Nat.le_refl _) hg5
        rw [Nat.zero_add, List.nil_append] at ho5
        obtain ⟨A5, c5, rfl⟩ := own_form0 ho5
        have HNC : Hid (∀ q u, [Value.slice none 0 0, .bool false][q]? = some u → w5.cell? ((⟨V.heap.size, 0, none⟩ : Addr).add q) = some u) := news2 ((World.cell?_of_block (hg5.block V.heap.size (by simp; omega) (fun e => by simp [Value.ownBlock] at e))).trans (keepW (balloc (brefl (V.alloc (.cells #[.slice none 0 0, .bool false] 84))) (.cells #[] 84)) (cell_new2 V V.heap.size _ _ 0 _ rfl rfl))) ((World.cell?_of_block (hg5.block V.heap.size (by simp; omega) (fun e => by simp [Value.ownBlock] at e))).trans (keepW (balloc (brefl (V.alloc (.cells #[.slice none 0 0, .bool false] 84))) (.cells #[] 84)) (cell_new2 V V.heap.size _ _ 1 _ rfl rfl)))
        have HOC := hide ho5
        have HBC := hide hb5
        clear ho5 hg5 hn5 hb5
        refine hK.out _ _ (fun _ => HK.out _ HBC.out) ?_
        clear hK K
        try simp only [Act.put, List.setIfInBounds_toArray, List.set_cons_zero, List.set_cons_succ]
        refine wpAnyT_one (i := 8) (by kernel_rfl) rfl (fun K hK => ?_)
        refine step_append_own _ rfl (.tmp 39) (.tmp 41) 31 rfl V.heap.size 84 i0 _ 2 32 undR hi hz0 hz1 hz2 rfl (by decide) (.slice A5 j c5) j ((rowCells vs t.rows).take (j * 2)) ?_ HOC.out ⟨V.heap.size, 0, none⟩ 1 1 [.slice none 0 0, .bool false] (by (simp [Act.eval]; done)) rfl HNC.out (row_one _ _ _ _) (by unfold maxLen; omega) (by omega) HBC.out.size ?_
        (focus (simp [Act.eval]; done))
        intro v8 w8 ho8 hg8 hn8
        have hb8 := made_below HBC.out HOC.out (Nat.le_refl _) hg8
        obtain ⟨A8, c8, rfl⟩ := own_form0 ho8
        have HO8 := hide ho8
        have HB8 := hide hb8
        clear ho8 hg8 hn8 hb8 HBC HOC HNC
        refine hK.out _ _ (fun _ => HK.out _ HB8.out) ?_
        clear hK K
        try simp only [Act.put, List.setIfInBounds_toArray, List.set_cons_zero, List.set_cons_succ]
        refine wpAnyT_one (i := 13) (by kernel_rfl) rfl (fun K hK => ?_)
        refine step_append_own _ rfl (.tmp 42) (.tmp 46) 31 rfl V.heap.size 84 i0 _ 2 32 undR hi hz0 hz1 hz2 rfl (by decide) (.slice A8 (j + 1) c8) (j + 1) ((rowCells vs t.rows).take (j * 2) ++ [.slice none 0 0, .bool false]) ?_ HO8.out A2 (t.rows.length - j) (cr3 - j) ((rowCells vy t.rows).drop (j * 2)) (by (simp [Act.eval]; done)) HL3.out (fun q u hq => keepW HB8.out (HN3.out q u hq)) HO3.out (by unfold maxLen; omega) (by omega) HB8.out.size ?_
        (focus (simp [Act.eval]; done))
        intro v9 w9 ho9 hg9 hn9
        have hb9 := made_below HB8.out HO8.out (Nat.le_refl _) hg9
        rw [show j + 1 + (t.rows.length - j) = t.rows.length + 1 by omega] at ho9
        obtain ⟨A9, c9, rfl⟩ := own_form0 ho9
        have HO9 := hide ho9
        have HB9 := hide hb9
        clear ho9 hg9 hn9 hb9 HO8 HB8
        refine hK.out _ _ (fun _ => HK.out _ HB9.out) ?_
        clear hK K
        try simp only [Act.put, List.setIfInBounds_toArray, List.set_cons_zero, List.set_cons_succ]
        have hS9 := HK.out _ HB9.out
        refine' wpAnyT_take [15] (i := 14) (v := _) rfl (by kernel_rfl) (by kernel_rfl) (by kernel_rfl) (by kernel_rfl) (by kernel_rfl) (by kernel_rfl) (fun _ _ _ h => h) (Or.inl ⟨by rfl, ?hz14⟩) hS9 ?_
        case hz14 => (intro w hSw; (try dsimp only at hSw); go_simp) <;> with_reducible rfl
        try simp only [Act.put, List.setIfInBounds_toArray, List.set_cons_zero, List.set_cons_succ]
        have xx3 := hS9.1
        have xxf : w9.frozen? ⟨w2.heap.size, 3, none⟩ = false := ((seenBk _ (by omega) HB9.out).2.1 3).trans (HXF.out 3)
        clear hS9 x3 z3 hSd
        refine wpAnyT_one (i := 15) (by kernel_rfl) rfl (fun K hK => ?_)
        go_simp
        refine hK.out _ _ (fun h => absurd rfl h) ?_
        clear hK K
        try simp only [Act.put, List.setIfInBounds_toArray, List.set_cons_zero, List.set_cons_succ]
        refine wpAnyT_done (by kernel_rfl) ?_ _
        have HV1 := hide (FINISH.out A9 c9 w9 HO9.out HB9.out)
        obtain ⟨m9, hm9⟩ : ∃ m, m = t.rows.length + 1 := ⟨_, rfl⟩
        have HM9 := hide hm9
        rw [← hm9] at HV1 ⊢
        clear hm9
        have k0 := setB0 (o := 3) (v := .slice A9 m9 c9) (keepW HB9.out HX.out.1) (by decide)
        have k1 := setB0 (o := 3) (v := .slice A9 m9 c9) (keepW HB9.out HX.out.2.1) (by decide)
        have k2 := setB0 (o := 3) (v := .slice A9 m9 c9) (keepW HB9.out HX.out.2.2.1) (by decide)
        have k3 := setS4 (v := .slice A9 m9 c9) (keepW HB9.out HX.out.2.2.2.1)
        have k4 := setB0 (o := 3) (v := .slice A9 m9 c9) (keepW HB9.out HX.out.2.2.2.2) (by decide)
        have l0 := setB (o := 3) (v := .slice A9 m9 c9) (keepW HB9.out HU.out.1) hneU
        have l1 := setB (o := 3) (v := .slice A9 m9 c9) (keepW HB9.out HU.out.2.1) hneU
        have l2 := setB (o := 3) (v := .slice A9 m9 c9) (keepW HB9.out HU.out.2.2.1) hneU
        have l3 := setB (o := 3) (v := .slice A9 m9 c9) (keepW HB9.out HU.out.2.2.2.1) hneU
        have l4 := setB (o := 3) (v := .slice A9 m9 c9) (keepW HB9.out HU.out.2.2.2.2) hneU
        have vf : ∀ i, w9.frozen? ⟨w.heap.size + 1, i, none⟩ = false := fun i => ((seenBk _ (by omega) HB9.out).2.1 i).trans (HUF.out i)
        have h9 := HB9.out.size
        have HB99 := hide (HB4.out.trans (HB9.out.mono HB4.out.size))
        have hs1 := HS1.out
        clear xx3 xxf HO9 HB9 HK HN1 HN3 HL1 HL3 HO1 HO3
        go_wp2_with fail
        rw [hE.out]
        have e9 := HM9.out
        subst e9
        refine bodyPost_ret (v := .tuple #[.agg #[.slice Ac t.cols.length cc, .int .i64 t.head, .int .i64 t.foot, .slice A9 (t.rows.length + 1) c9, .int .i64 t.gap], .bool true]) (by simp [results, Tryd.results29, go_sem, *]) rfl ⟨_, _, rfl, (HV1.out.keep (fun b hb1 hb2 => ?_)).mono ?hlo ?hhi, ?_⟩
        case hlo => omega
        case hhi => simp
        · refine (heap_set _ _ _ _ (show b ≠ w.heap.size + 1 by omega)).trans ?_
          refine (heap_set _ _ _ _ (show b ≠ w.heap.size + 1 by omega)).trans ?_
          refine (heap_set _ _ _ _ (show b ≠ w.heap.size + 1 by omega)).trans ?_
          refine (heap_set _ _ _ _ (show b ≠ w.heap.size + 1 by omega)).trans ?_
          exact heap_set _ _ _ _ (show b ≠ w.heap.size + 1 by omega)
        · have h := HB99.out
          (repeat' (with_reducible first | exact h | refine balloc ?_ _ | refine bset ?_ ?_ _)) <;> first | (simp; done) | (simp; omega)
theorem spec_EdtRow (t : Tbl) (A : Option Addr) (c : Nat) (A' : Option Addr) (c' : Nat) (at' : Int) (w : World) (hc : Rd colR w A t.cols) (hr : Rd rowR w A' t.rows) (hcl : Lies colE w (.slice A t.cols.length c) t.cols) (hro : Rd rowO w A' t.rows) :
    Calls Tryd.prog 29 #[.agg #[.slice A t.cols.length c, .int .i64 t.head, .int .i64 t.foot, .slice A' t.rows.length c', .int .i64 t.gap], .int .i64 at'] w (EdtPost (edtRow t at') w) := by
  cases hok : tblOk t with
  | false => exact spec_EdtRow0 t A c A' c' at' w hok hc hr
  | true => exact spec_EdtRow1 t A c A' c' at' w hok hc hr hcl hro
end Go.Proofs.YtfcogogpioeggaaDoor
