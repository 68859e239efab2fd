import Derived.Test.YtfcogogpioeggaaDoorPd
namespace Go.Proofs.YtfcogogpioeggaaDoor
open Go.RowKit
/- The program's EdtPut. -/
theorem put_edit (t : Tbl) (Bc Br Ba : Nat) (row at' : Int) (x : TCell) (w : World) (hok : tblOk t = true) (hw : Base w) (hs : x.t.size ≤ 1048576) (hc : (fun U : World => U.cell? ⟨Bc, 0, none⟩ = some (.string x.t) ∧ U.cell? ⟨Bc, 1, none⟩ = some (.int .i64 x.c) ∧ U.cell? ⟨Bc, 2, none⟩ = some (.int .i64 x.r) ∧ U.cell? ⟨Bc, 3, none⟩ = some (.int .i64 x.top.s) ∧ U.cell? ⟨Bc, 4, none⟩ = some (.int .i64 x.top.w) ∧ U.cell? ⟨Bc, 5, none⟩ = some (.int .i64 x.right.s) ∧ U.cell? ⟨Bc, 6, none⟩ = some (.int .i64 x.right.w) ∧ U.cell? ⟨Bc, 7, none⟩ = some (.int .i64 x.bot.s) ∧ U.cell? ⟨Bc, 8, none⟩ = some (.int .i64 x.bot.w) ∧ U.cell? ⟨Bc, 9, none⟩ = some (.int .i64 x.left.s) ∧ U.cell? ⟨Bc, 10, none⟩ = some (.int .i64 x.left.w)) w) (b1 : w.cell? ⟨Br, 0, none⟩ = some (.int .i64 row)) (b2 : w.cell? ⟨Ba, 0, none⟩ = some (.int .i64 at'))
    (w1 w2 : World) (Ac : Option Addr) (cc : Nat) (Ar : Option Addr) (cr : Nat) (hcpZ : CopiedZ t w w1 w2 Ac cc Ar cr) :
    Calls Tryd.prog 71 (#[.pointer (some ⟨w2.heap.size, 0, none⟩)] ++ #[.pointer (some ⟨Bc, 0, none⟩), .pointer (some ⟨Br, 0, none⟩), .pointer (some ⟨Ba, 0, none⟩)]) (w2.alloc (.cells #[.slice Ac t.cols.length cc, .int .i64 t.head, .int .i64 t.foot, .slice Ar t.rows.length cr, .int .i64 t.gap] 33)) (EdPost (edtPut t row at' x) w1.heap.size w2.heap.size (w2.alloc (.cells #[.slice Ac t.cols.length cc, .int .i64 t.head, .int .i64 t.foot, .slice Ar t.rows.length cr, .int .i64 t.gap] 33))) := by
  obtain ⟨hownZ, hB, hs1, hs2⟩ := hcpZ
  have hcp' : Copied t w w1 w2 Ac cc Ar cr := ⟨hownZ.own, hB, hs1, hs2⟩
  have hown := hownZ.own
  have hBX := balloc hB (.cells #[.slice Ac t.cols.length cc, .int .i64 t.head, .int .i64 t.foot, .slice Ar t.rows.length cr, .int .i64 t.gap] 33)
  have c1 := b1
  have c2 := b2
  have c3 := hc.1
  have b1 := keepW hBX b1
  have b2 := keepW hBX b2
  have hc := cc_keep hc hBX
  have hw := hw.below hBX
  have x3 : (w2.alloc (.cells #[.slice Ac t.cols.length cc, .int .i64 t.head, .int .i64 t.foot, .slice Ar t.rows.length cr, .int .i64 t.gap] 33)).cell? ⟨w2.heap.size, 3, none⟩ = some (.slice Ar t.rows.length cr) := by simp
  have hsm := small_of_ok hok
  cases h0 : cellOk x with
  | false =>
    rw [put_false hok (.inl h0)]
    refine (put_no1 w2.heap.size Bc Br Ba _ cr Ar row at' x _ hs hw hc x3 b1 b2 hsm.2.1 h0).mono ?_
    rintro e w' ⟨rfl, hb⟩
    exact ed_same hcp' rfl hb
  | true =>
    cases h1 : inB row 0 ((t.rows.length : Int) - 1) with
    | false =>
      rw [put_false hok (.inr (.inl h1))]
      refine (put_no2 w2.heap.size Bc Br Ba _ cr Ar row at' x _ hs hw hc x3 b1 b2 hsm.2.1 h0 h1).mono ?_
      rintro e w' ⟨rfl, hb⟩
      exact ed_same hcp' rfl hb
    | true =>
      obtain ⟨j, rfl, hj⟩ := inB_nat h1
      obtain ⟨hcol, vs, hraZ⟩ := hownZ
      have hra : RowsAll w2 w1.heap.size w2.heap.size (.slice Ar t.rows.length cr) vs t.rows := ⟨hraZ.1, hraZ.2.1⟩
      have hv : j < vs.length := by rw [hra.2.1]; exact hj
      obtain ⟨gr, rfl⟩ : ∃ gr, Ar = some ⟨gr, 0, none⟩ := by
        rcases hra.1 with ⟨h0, _⟩ | ⟨_, gr, crr, e, _⟩
        · omega
        · injection e with e _ _; exact ⟨gr, e⟩
      obtain ⟨p0, _, pf, hr1, hr2⟩ := hra.at j hv hj
      obtain ⟨Aj, cj, ej⟩ := (hra.2.2.1 j hv hj).form
      rw [ej] at p0
      have p0 := keepW (balloc (brefl w2) (.cells #[.slice Ac t.cols.length cc, .int .i64 t.head, .int .i64 t.foot, .slice (some ⟨gr, 0, none⟩) t.rows.length cr, .int .i64 t.gap] 33)) p0
      have hlj := hsm.2.2 _ (List.getElem_mem hj)
      by_cases h2 : inB at' 0 (t.rows[j].cs.length : Int) = false ∨ t.rows[j].cs.length = 5
      · rw [put_false (row := j) hok (.inr (.inr ⟨hj, h2⟩))]
        refine (put_no3 w2.heap.size Bc Br Ba _ cr gr j _ cj Aj at' x _ hs hw hc x3 b1 b2 p0 hsm.2.1 hlj hj h0 h2).mono ?_
        rintro e w' ⟨rfl, hb⟩
        exact ed_same hcp' rfl hb
      · have h3 : inB at' 0 (t.rows[j].cs.length : Int) = true := by
          cases h9 : inB at' 0 (t.rows[j].cs.length : Int) with
          | false => exact absurd (.inl h9) h2
          | true => rfl
        have h5 : t.rows[j].cs.length ≠ 5 := fun e => h2 (.inr e)
        have h3' := h3
        simp only [inB, Bool.and_eq_true, decide_eq_true_eq] at h3'
        obtain ⟨i, rfl⟩ := Int.eq_ofNat_of_zero_le h3'.1
        have hi : i ≤ t.rows[j].cs.length := by omega
        rw [put_true hok h0 hj hi h5]
        have hgo : w2.ownsRow w1.heap.size 65 11 (.slice Aj t.rows[j].cs.length cj) t.rows[j].cs.length (t.rows[j].cs.flatMap cellE) := by
          rcases hra.2.2.1 j hv hj with ⟨h8, _, _⟩ | ⟨_, g, cg, e, _, _, h8⟩
          · have hz := (hraZ.2.2 j hv hj h8).1
            rw [ej] at hz
            have hnil := List.eq_nil_of_length_eq_zero h8
            rw [hnil] at hz ⊢
            exact hz
          · rw [ej] at h8; exact h8
        have hlt : ∀ b, (Value.slice Aj t.rows[j].cs.length cj).ownBlock = some b → w1.heap.size ≤ b ∧ b < w2.heap.size := fun b hb => own_lt hgo hb
        have hty : ∀ b, (Value.slice Aj t.rows[j].cs.length cj).ownBlock = some b → b ≠ gr := fun b hb e => by
          subst e
          obtain ⟨cur2, hcur2⟩ := hra.head (by omega)
          rcases hgo.2 with ⟨e, _⟩ | ⟨g', cap, cur, e, _, hh, _⟩
          · rw [e] at hb; cases hb
          · rw [e] at hb
            have : g' = b := by simpa [Value.ownBlock] using hb
            subst this
            rw [hcur2] at hh
            injection hh with e; injection e with _ e; exact absurd e (by decide)
        have hold : ∀ {B k : Nat} {u : Value}, w.cell? ⟨B, k, none⟩ = some u → B < w.heap.size := fun h => World.block_lt_of_cell? w _ h
        have l1 := hold c1
        have l2 := hold c2
        have l3 := hold c3
        have pf' : (w2.alloc (.cells #[.slice Ac t.cols.length cc, .int .i64 t.head, .int .i64 t.foot, .slice (some ⟨gr, 0, none⟩) t.rows.length cr, .int .i64 t.gap] 33)).frozen? ⟨gr, j * 2, none⟩ = false := ((seenBk gr hr2 (balloc (brefl w2) _)).2.1 _).trans (pf _)
        refine (put_yes w2.heap.size Bc Br Ba _ cr gr j i cj w1.heap.size t.rows[j].cs Aj x _ hs hw hc x3 b1 b2 p0 pf' hsm.2.1 hlj hj h0 hi h5 (own_alloc hgo _) (by simp; omega) (fun b hb => by have h6 := hlt b hb; have h7 := hty b hb; exact ⟨by omega, h7, by omega, by omega, by omega⟩)).mono ?_
        rintro e w' ⟨v', W, w7, ⟨rfl, rfl⟩, ho7, hbW, hg7, hl7⟩
        have hsz : w2.heap.size + 1 ≤ W.heap.size := by have := hbW.size; simpa using this
        have hsz7 := hg7.size
        have hk : ∀ b, b < w2.heap.size + 1 → (∀ g, (Value.slice Aj t.rows[j].cs.length cj).ownBlock = some g → b ≠ g) → w7.heap[b]? = (w2.alloc (.cells #[.slice Ac t.cols.length cc, .int .i64 t.head, .int .i64 t.foot, .slice (some ⟨gr, 0, none⟩) t.rows.length cr, .int .i64 t.gap] 33)).heap[b]? := fun b hb hne =>
          (hg7.block b (by omega) (fun e => hne b e.symm rfl)).trans (hbW.block b (by simp; omega))
        have hsp : ∀ E, 65 ≠ E → Spare E (w2.alloc (.cells #[.slice Ac t.cols.length cc, .int .i64 t.head, .int .i64 t.foot, .slice (some ⟨gr, 0, none⟩) t.rows.length cr, .int .i64 t.gap] 33)) w7 := fun E hE => (Spare.below hbW).trans (Spare.grow_own (own_below (own_alloc hgo _) hbW) hg7 hE)
        obtain ⟨curR, hcurR⟩ := hra.head (by omega)
        have hcurR7 : w7.heap[gr]? = some (.cells curR 84 (0, 0)) := (hk gr (by omega) (fun g hg => fun e => hty g hg e.symm)).trans ((heap_alloc_old _ _ hr2).trans hcurR)
        have hX := hra.keep (w' := w2.alloc (.cells #[.slice Ac t.cols.length cc, .int .i64 t.head, .int .i64 t.foot, .slice (some ⟨gr, 0, none⟩) t.rows.length cr, .int .i64 t.gap] 33)) (fun b _ h => heap_alloc_old _ _ h)
        have hlast : (t.rows[j].cs.take i ++ [x] ++ t.rows[j].cs.drop i).length = t.rows[j].cs.length + 1 := by simp; omega
        obtain ⟨A7, c7, rfl⟩ := own_form0 ho7
        have hapart : ∀ (k : Nat) (hk1 : k < vs.length) (g5 n5 c5 : Nat), k ≠ j → vs[k] = .slice (some ⟨g5, 0, none⟩) n5 c5 → 0 < n5 → (Value.slice Aj t.rows[j].cs.length cj).ownBlock = some g5 → False := fun k hk1 g5 n5 c5 hne e5 hn5 hb => by
          rcases hra.2.2.1 j hv hj with ⟨h8, _, _⟩ | ⟨hp, g8, c8, e8, _, _, _⟩
          · have hz := hraZ.2.2 j hv hj h8
            rcases hgo.2 with ⟨e9, _⟩ | ⟨g', cap, cur, e9, _, hh, h10, _, h11, _⟩
            · rw [e9] at hb; cases hb
            · rw [e9] at hb
              have e10 : g' = g5 := by simpa [Value.ownBlock] using hb
              subst e10
              obtain ⟨A8, hA8⟩ := hz.2.1
              rw [ej, e9] at hA8
              injection hA8 with _ _ hcap
              have hcur0 : cur.size = 0 := by rw [h11, hcap]
              rcases hra.2.2.1 k hk1 (by rw [← hra.2.1]; exact hk1) with ⟨_, _, A5, c5', e5'⟩ | ⟨hn5', g13, c13, e13', _, _, d3'⟩
              · rw [e5'] at e5; injection e5 with _ e5 _; omega
              · have e14 := e13'
                rw [e5] at e13'; injection e13' with e13' _ _; injection e13' with e13'; injection e13' with e13'
                subst e13'
                rw [e14] at d3'
                rcases d3'.2 with ⟨e12, _⟩ | ⟨g15, cap13, cur13, e15, _, hh13, h14, _, h15, _⟩
                · cases e12
                · injection e15 with e15 _ _; injection e15 with e15; injection e15 with e15
                  subst e15
                  rw [hh13] at hh
                  injection hh with hh; injection hh with hh _
                  rw [hh] at h15
                  omega
          · rw [ej] at e8
            rw [e8] at hb
            have e9 : g8 = g5 := by simpa [Value.ownBlock] using hb
            exact (pair_far hra.2.2.2 hk1 hv hne) g5 _ c5 g8 _ c8 e5 (ej.trans e8) hn5 hp e9.symm
        have hR := hX.put (w1 := w7) (hi' := w7.heap.size) j hv hj (.slice A7 (t.rows[j].cs.length + 1) c7) (t.rows[j].cs.take i ++ [x] ++ t.rows[j].cs.drop i) (by omega) (hsp _ (by decide))
          (fun k hk1 hk2 hne => by
            have hO := hX.2.2.1 k hk1 hk2
            rcases hO with hO | ⟨hn5, gi, ci, ei, d1, d2, d3⟩
            · exact .inl hO
            · refine .inr ⟨hn5, gi, ci, ei, d1, by omega, own_keep d3 fun b hb => ?_⟩
              rw [ei] at hb
              have e2 : gi = b := by simpa [Value.ownBlock] using hb
              subst e2
              refine hk gi (by omega) (fun g hg e => ?_)
              subst e
              exact hapart k hk1 gi _ ci hne ei hn5 hg)
          (fun k hk1 hne g1 n1 c1 g2 n2 c2 e1 e2 h1 h2 e => by
            injection e2 with e2 _ _
            subst e
            rcases hX.2.2.1 k hk1 (by rw [← hra.2.1]; exact hk1) with ⟨_, _, A5, c5, e5⟩ | ⟨hn5, g5, c5, e5, d1, d2, d3⟩
            · rw [e5] at e1; injection e1 with _ e1 _; omega
            · have e55 := e5
              rw [e5] at e1; injection e1 with e1 _ _; injection e1 with e1; injection e1 with e1
              subst e1
              subst e2
              rcases hl7 g5 rfl with hb | hb
              · exact hapart k hk1 g5 _ c5 hne e55 hn5 hb
              · simp at hb; omega)
          (by rw [hlast]; exact (Own.of ho7 (Nat.le_refl _)))
        have hC : Own (w7.setCell ⟨gr, j * 2, none⟩ (.slice A7 (t.rows[j].cs.length + 1) c7)) w1.heap.size w7.heap.size 28 2 (.slice Ac t.cols.length cc) t.cols.length (t.cols.flatMap colE) :=
          (((hcol.keep (fun b _ h => heap_alloc_old _ _ h)).spare (hsp _ (by decide))).spare (Spare.grow (grow_set w7 (a := ⟨gr, j * 2, none⟩) rfl _) hcurR7 (by decide))).mono (Nat.le_refl _) (by omega)
        refine ⟨rfl, _, _, ⟨hC.mono (Nat.le_refl _) (by simp), _, hR.mono (Nat.le_refl _) (by simp)⟩, (W5.new _ _ _ _ _ _ 33).block ?_, ?_⟩
        · exact (heap_set _ _ _ _ (show w2.heap.size ≠ gr by omega)).trans (hk _ (by omega) (fun g hg => by have := hlt g hg; omega))
        · exact ⟨hg7.os.trans hbW.os, hg7.tape.trans hbW.tape, hg7.output.trans hbW.output, by simp; omega, fun k hk1 => (heap_set _ _ _ _ (show k ≠ gr by omega)).trans (hk k (by omega) (fun g hg => by have := hlt g hg; omega))⟩
theorem put_frame {t : Tbl} {row at' : Int} {x : TCell} (hok : tblOk t = false) : edtPut t row at' x = (⟨[], 0, 0, [], 0⟩, false) := by unfold edtPut; rw [if_neg (by simp [hok])]
theorem edited_put (t : Tbl) (A : Option Addr) (c : Nat) (A' : Option Addr) (c' : Nat) (Bc Br Ba : Nat) (row at' : Int) (x : TCell) (w : World) (hw : Base w) (hs : x.t.size ≤ 1048576) (hc : Rd colR w A t.cols) (hr : Rd rowR w A' t.rows) (hcl : Lies colE w (.slice A t.cols.length c) t.cols) (hro : Rd rowO w A' t.rows)
    (hcc : (fun U : World => U.cell? ⟨Bc, 0, none⟩ = some (.string x.t) ∧ U.cell? ⟨Bc, 1, none⟩ = some (.int .i64 x.c) ∧ U.cell? ⟨Bc, 2, none⟩ = some (.int .i64 x.r) ∧ U.cell? ⟨Bc, 3, none⟩ = some (.int .i64 x.top.s) ∧ U.cell? ⟨Bc, 4, none⟩ = some (.int .i64 x.top.w) ∧ U.cell? ⟨Bc, 5, none⟩ = some (.int .i64 x.right.s) ∧ U.cell? ⟨Bc, 6, none⟩ = some (.int .i64 x.right.w) ∧ U.cell? ⟨Bc, 7, none⟩ = some (.int .i64 x.bot.s) ∧ U.cell? ⟨Bc, 8, none⟩ = some (.int .i64 x.bot.w) ∧ U.cell? ⟨Bc, 9, none⟩ = some (.int .i64 x.left.s) ∧ U.cell? ⟨Bc, 10, none⟩ = some (.int .i64 x.left.w)) w) (b1 : w.cell? ⟨Br, 0, none⟩ = some (.int .i64 row)) (b2 : w.cell? ⟨Ba, 0, none⟩ = some (.int .i64 at')) :
    Calls Tryd.prog 64 #[.agg #[.slice A t.cols.length c, .int .i64 t.head, .int .i64 t.foot, .slice A' t.rows.length c', .int .i64 t.gap], .func (.func 71) #[] #[.pointer (some ⟨Bc, 0, none⟩), .pointer (some ⟨Br, 0, none⟩), .pointer (some ⟨Ba, 0, none⟩)]] w (EdtPost (edtPut t row at' x) w) := by
  cases hok : tblOk t with
  | false => rw [put_frame hok]; exact editG0 t A c A' c' 71 _ w hok hw hc hr
  | true => exact editZ1 t A c A' c' 71 _ (enters_of Tryd.func71 (by kernel_rfl) rfl) _ w hok hw hc hr hcl hro (put_edit t Bc Br Ba row at' x w hok hw hs hcc b1 b2)
set_option linter.unusedSimpArgs false in
set_option maxRecDepth 100000 in
set_option maxHeartbeats 4000000 in
theorem impl_EdtPut (t : Tbl) (A : Option Addr) (c : Nat) (A' : Option Addr) (c' : Nat) (row at' : Int) (x : TCell) (w : World) (hw : Base w) (hs : x.t.size ≤ 1048576) (hc : Rd colR w A t.cols) (hr : Rd rowR w A' t.rows) (hcl : Lies colE w (.slice A t.cols.length c) t.cols) (hro : Rd rowO w A' t.rows) :
    Calls Tryd.prog 34 #[.agg #[.slice A t.cols.length c, .int .i64 t.head, .int .i64 t.foot, .slice A' t.rows.length c', .int .i64 t.gap], .int .i64 row, .int .i64 at', .agg #[.string x.t, .int .i64 x.c, .int .i64 x.r, .int .i64 x.top.s, .int .i64 x.top.w, .int .i64 x.right.s, .int .i64 x.right.w, .int .i64 x.bot.s, .int .i64 x.bot.w, .int .i64 x.left.s, .int .i64 x.left.w]] w (EdtPost (edtPut t row at' x) w) := by
  have hE := fun (W : World) (Bc : Nat) (h : Below w.heap.size w W) (hcc : (fun U : World => U.cell? ⟨Bc, 0, none⟩ = some (.string x.t) ∧ U.cell? ⟨Bc, 1, none⟩ = some (.int .i64 x.c) ∧ U.cell? ⟨Bc, 2, none⟩ = some (.int .i64 x.r) ∧ U.cell? ⟨Bc, 3, none⟩ = some (.int .i64 x.top.s) ∧ U.cell? ⟨Bc, 4, none⟩ = some (.int .i64 x.top.w) ∧ U.cell? ⟨Bc, 5, none⟩ = some (.int .i64 x.right.s) ∧ U.cell? ⟨Bc, 6, none⟩ = some (.int .i64 x.right.w) ∧ U.cell? ⟨Bc, 7, none⟩ = some (.int .i64 x.bot.s) ∧ U.cell? ⟨Bc, 8, none⟩ = some (.int .i64 x.bot.w) ∧ U.cell? ⟨Bc, 9, none⟩ = some (.int .i64 x.left.s) ∧ U.cell? ⟨Bc, 10, none⟩ = some (.int .i64 x.left.w)) W) (b1 : W.cell? ⟨w.heap.size + 1, 0, none⟩ = some (.int .i64 row)) (b2 : W.cell? ⟨w.heap.size + 1 + 1, 0, none⟩ = some (.int .i64 at')) =>
    edited_put t A c A' c' Bc (w.heap.size + 1) (w.heap.size + 1 + 1) row at' x W (hw.below h) hs (hc.below h) (hr.below h) (hcl.below h) (hro.below h) hcc b1 b2
  generalize edtPut t row at' x = g at hE ⊢
  have HE := hide hE
  have hmf := @run_mkf Tryd.prog
  clear hE hw hc hr hcl hro
  go_enter Tryd.func34, Tryd.ntmps34
  go_wp2_with fail
  refine (HE.out _ _ (balloc (balloc (balloc (balloc (balloc (brefl w) _) _) _) _) _) ?_ ?_ ?_).mono ?_
  focus first | (simp; done) | (simp [go_sem]; done) | (simp [World.cell?_alloc_some]; done)
  iterate 2 (focus first | (simp; done) | (simp [go_sem]; done) | (simp [World.cell?_alloc_some]; done))
  rintro e w1 ⟨vc, vr, rfl, ho, hb⟩
  obtain ⟨Ac, cc, hvc⟩ := ho.1.form
  obtain ⟨Ar, cr, hvr⟩ : ∃ A c, vr = .slice A g.1.rows.length c := by obtain ⟨_, vs, hra⟩ := ho; exact hra.len
  subst hvc
  subst hvr
  obtain ⟨c1, f1, s1⟩ := seenBk (w.heap.size + 1 + 1 + 1 + 1) (by first | (simp; omega) | simp [*]) hb
  have HO := hide ho
  have HB := hide (step (balloc (balloc (balloc (balloc (balloc (brefl w) _) _) _) _) _) hb)
  have hs0 : w.heap.size + 5 ≤ w1.heap.size := by have := hb.size; simp at this; omega
  clear ho hb HE
  go_wp2_with fail
  refine bodyPost_ret (v := .tuple #[.agg #[.slice Ac g.1.cols.length cc, .int .i64 g.1.head, .int .i64 g.1.foot, .slice Ar g.1.rows.length cr, .int .i64 g.1.gap], .bool g.2]) (by simp [results, Tryd.results34, go_sem, *]) rfl ⟨_, _, rfl, (HO.out.keep (fun b hb1 hb2 => ?_)).mono (by simp; omega) (by simp), ?_⟩
  · simp at hb1
    refine (heap_set _ _ _ _ (show b ≠ w.heap.size + 1 + 1 + 1 + 1 by omega)).trans ?_
    refine (heap_set _ _ _ _ (show b ≠ w.heap.size + 1 + 1 + 1 + 1 by omega)).trans ?_
    refine (heap_set _ _ _ _ (show b ≠ w.heap.size + 1 + 1 + 1 + 1 by omega)).trans ?_
    refine (heap_set _ _ _ _ (show b ≠ w.heap.size + 1 + 1 + 1 + 1 by omega)).trans ?_
    exact heap_set _ _ _ _ (show b ≠ w.heap.size + 1 + 1 + 1 + 1 by omega)
  · have h := HB.out
    (repeat' (with_reducible first | exact h | refine bset ?_ ?_ _)) <;> first | (simp; done) | (simp; omega)
theorem put_sized {t : Tbl} (h : SizedC t.rows) (row at' : Int) (x : TCell) (hx : x.t.size ≤ 1048576) : SizedC (edtPut t row at' x).1.rows := by
  unfold edtPut
  split
  · split
    · rename_i h1
      split
      · intro y hy z hz
        rcases List.mem_or_eq_of_mem_set hy with hy | rfl
        · exact h y hy z hz
        · have hmem : t.rows[row.toNat] ∈ t.rows := List.getElem_mem h1.2
          rcases List.mem_append.1 hz with hz | hz
          · rcases List.mem_append.1 hz with hz | hz
            · exact h _ hmem z (List.mem_of_mem_take hz)
            · rw [List.mem_singleton.1 hz]; exact hx
          · exact h _ hmem z (List.mem_of_mem_drop hz)
      · exact h
    · exact h
  · intro y hy; cases hy
theorem put_small {t : Tbl} (h : SmallT t) (row at' : Int) (x : TCell) : SmallT (edtPut t row at' x).1 := by
  unfold edtPut
  split
  · rename_i hok
    obtain ⟨h1, h2, h3⟩ := h
    have h5 : ∀ y ∈ t.rows, y.cs.length ≤ 5 := by
      simp only [tblOk, Bool.and_eq_true, decide_eq_true_eq, List.all_eq_true] at hok
      exact fun y hy => by have := (hok.2.2.2.2.2.2 y hy).1; omega
    split
    · rename_i k1
      split
      · refine ⟨h1, by simpa using h2, fun y hy => ?_⟩
        rcases List.mem_or_eq_of_mem_set hy with hy | rfl
        · exact h3 y hy
        · have := h5 _ (List.getElem_mem k1.2)
          simp only [List.length_append, List.length_take, List.length_drop, List.length_cons, List.length_nil]
          omega
      · exact ⟨h1, h2, h3⟩
    · exact ⟨h1, h2, h3⟩
  · exact ⟨by simp, by simp, fun y hy => by cases hy⟩
end Go.Proofs.YtfcogogpioeggaaDoor
