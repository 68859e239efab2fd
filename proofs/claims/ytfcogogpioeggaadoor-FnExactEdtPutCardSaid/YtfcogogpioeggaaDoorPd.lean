import Derived.Test.YtfcogogpioeggaaDoorPb
namespace Go.Proofs.YtfcogogpioeggaaDoor
open Go.RowKit
/- Copies of which it is told what an empty row is: for edits that put cells in. -/
/-- An empty row of one's own: no room. -/
def ZRow (w : World) (lo hi : Nat) (v : Value) : Prop := w.ownsRow lo 65 11 v 0 [] ∧ (∃ A, v = .slice A 0 0) ∧ ∀ b, v.ownBlock = some b → b < hi
def RowsOwnZ (w : World) (lo hi : Nat) (vs : List Value) (rows : List TRow) : Prop :=
  RowsOwn w lo hi vs rows ∧ ∀ (j : Nat) (h : j < vs.length) (h' : j < rows.length), rows[j].cs.length = 0 → ZRow w lo hi vs[j]
theorem ZRow.keep {w w' : World} {lo hi : Nat} {v : Value} (h : ZRow w lo hi v) (hk : ∀ b, lo ≤ b → b < hi → w'.heap[b]? = w.heap[b]?) : ZRow w' lo hi v :=
  ⟨own_keep h.1 fun b hb => hk b (own_lt h.1 hb).1 (h.2.2 b hb), h.2.1, h.2.2⟩
theorem ZRow.mono {w : World} {lo hi lo' hi' : Nat} {v : Value} (h : ZRow w lo hi v) (hl : lo' ≤ lo) (hh : hi ≤ hi') : ZRow w lo' hi' v :=
  ⟨own_base h.1 hl, h.2.1, fun b hb => Nat.lt_of_lt_of_le (h.2.2 b hb) hh⟩
theorem RowsOwnZ.keep {w w' : World} {lo hi : Nat} {vs : List Value} {rows : List TRow} (h : RowsOwnZ w lo hi vs rows) (hk : ∀ b, lo ≤ b → b < hi → w'.heap[b]? = w.heap[b]?) : RowsOwnZ w' lo hi vs rows :=
  ⟨h.1.keep hk, fun j h1 h2 h0 => (h.2 j h1 h2 h0).keep hk⟩
theorem RowsOwnZ.spare {w w' : World} {lo hi : Nat} {vs : List Value} {rows : List TRow} (h : RowsOwnZ w lo hi vs rows) (hs : Spare 65 w w') : RowsOwnZ w' lo hi vs rows :=
  ⟨h.1.spare hs, fun j h1 h2 h0 => ⟨own_spare (h.2 j h1 h2 h0).1 hs, (h.2 j h1 h2 h0).2⟩⟩
theorem RowsOwnZ.mono {w : World} {lo hi lo' hi' : Nat} {vs : List Value} {rows : List TRow} (h : RowsOwnZ w lo hi vs rows) (hl : lo' ≤ lo) (hh : hi ≤ hi') : RowsOwnZ w lo' hi' vs rows :=
  ⟨h.1.mono hl hh, fun j h1 h2 h0 => (h.2 j h1 h2 h0).mono hl hh⟩
theorem RowsOwnZ.snoc {w : World} {lo hi hi' : Nat} {vs : List Value} {rows : List TRow} {v : Value} {r : TRow} (h : RowsOwnZ w lo hi vs rows) (hv : w.ownsRow hi 65 11 v r.cs.length (r.cs.flatMap cellE)) (hz : r.cs.length = 0 → ∃ A, v = .slice A 0 0) (h1 : lo ≤ hi) (h2 : hi ≤ hi') (h3 : w.heap.size ≤ hi') :
    RowsOwnZ w lo hi' (vs ++ [v]) (rows ++ [r]) := by
  refine ⟨h.1.snoc hv h1 h2 h3, fun j a b h0 => ?_⟩
  have hl := h.1.1
  rcases Nat.lt_or_ge j vs.length with hj | hj
  · have hj' : j < rows.length := by omega
    rw [List.getElem_append_left hj'] at h0
    rw [List.getElem_append_left hj]
    exact (h.2 j hj hj' h0).mono (Nat.le_refl _) h2
  · have e : j = vs.length := by simp at a; omega
    have g1 : (vs ++ [v])[j] = v := by rw [List.getElem_append_right (by omega)]; simp
    have g2 : (rows ++ [r])[j] = r := by rw [List.getElem_append_right (by omega)]; simp
    rw [g2] at h0
    rw [g1]
    have hv0 := hv
    rw [h0, List.eq_nil_of_length_eq_zero h0] at hv0
    exact ⟨own_base hv0 h1, hz h0, fun b hb => Nat.lt_of_lt_of_le (own_lt hv hb).2 h3⟩
def RowsAllZ (w : World) (lo hi : Nat) (v : Value) (vs : List Value) (rows : List TRow) : Prop :=
  Own w lo hi 84 2 v rows.length (rowCells vs rows) ∧ RowsOwnZ w lo hi vs rows
theorem RowsAllZ.keep {w w' : World} {lo hi : Nat} {v : Value} {vs : List Value} {rows : List TRow} (h : RowsAllZ w lo hi v vs rows) (hk : ∀ b, lo ≤ b → b < hi → w'.heap[b]? = w.heap[b]?) : RowsAllZ w' lo hi v vs rows := ⟨h.1.keep hk, h.2.keep hk⟩
theorem RowsAllZ.mono {w : World} {lo hi lo' hi' : Nat} {v : Value} {vs : List Value} {rows : List TRow} (h : RowsAllZ w lo hi v vs rows) (hl : lo' ≤ lo) (hh : hi ≤ hi') : RowsAllZ w lo' hi' v vs rows := ⟨h.1.mono hl hh, h.2.mono hl hh⟩
def OwnTblZ (w : World) (lo hi : Nat) (vc vr : Value) (t : Tbl) : Prop := Own w lo hi 28 2 vc t.cols.length (t.cols.flatMap colE) ∧ ∃ vs, RowsAllZ w lo hi vr vs t.rows
theorem OwnTblZ.own {w : World} {lo hi : Nat} {vc vr : Value} {t : Tbl} (h : OwnTblZ w lo hi vc vr t) : OwnTbl w lo hi vc vr t := by
  obtain ⟨h1, vs, h2, h3⟩ := h
  exact ⟨h1, vs, h2, h3.1⟩
def CopyPostZ (t : Tbl) (w : World) (e : Ending) (w' : World) : Prop :=
  ∃ vc vr, e = .returned (.agg #[vc, .int .i64 t.head, .int .i64 t.foot, vr, .int .i64 t.gap]) ∧ OwnTblZ w' w.heap.size w'.heap.size vc vr t ∧ Below w.heap.size w w'
def CopiedZ (t : Tbl) (w w1 w2 : World) (Ac : Option Addr) (cc : Nat) (Ar : Option Addr) (cr : Nat) : Prop :=
  OwnTblZ w2 w1.heap.size w2.heap.size (.slice Ac t.cols.length cc) (.slice Ar t.rows.length cr) t ∧ Below w.heap.size w w2 ∧ w.heap.size + 2 ≤ w1.heap.size ∧ w1.heap.size ≤ w2.heap.size
set_option maxRecDepth 100000 in
set_option maxHeartbeats 2000000 in
theorem clone_none (v : Value) (w : World) (h : Lies cellE w v []) :
    Calls Tryd.prog 125 #[v] w fun e w' => ∃ v', e = .returned v' ∧ w'.ownsRow w.heap.size 65 11 v' 0 [] ∧ (∃ A, v' = .slice A 0 0) ∧ Below w.heap.size w w' := by
  have q22 : ∀ (w : World) (a : Option Addr) (n c n' c' : Nat), (binOp .eql 82 (.slice a n c) (.slice none n' c')).run Tryd.prog w = .ok (.bool a.isNone) w := fun w a n c n' c' => Lib.run_eql_slice_nil w _ _ a n c n' c' und_cloneCells
  rcases h with ⟨rfl, _⟩ | ⟨b, o, c, rfl, hlt, hc⟩
  · go_enter Tryd.func125, Tryd.ntmps125
    go_wp2_with fail
    go_ret
    exact ⟨_, rfl, World.ownsRow_nil _ _ _ _, ⟨none, rfl⟩, brefl _⟩
  · show Calls Tryd.prog _ #[.slice (some ⟨b, o, none⟩) 0 c] w _
    have hm := World.ownsRow_made (base := w.heap.size) (e := 65) (size := 11) w #[] 0 (Nat.le_refl _) (Nat.zero_le _) (by simp)
    clear hc
    go_enter Tryd.func125, Tryd.ntmps125
    go_wp2_with fail
    go_ret
    exact ⟨_, rfl, hm, ⟨_, rfl⟩, balloc (brefl _) _⟩
theorem cloneCellsZ (v : Value) (xs : List TCell) (w : World) (h : Lies cellE w v xs) (hn : xs.length ≤ 1048576) :
    Calls Tryd.prog 125 #[v] w fun e w' => ∃ v', e = .returned v' ∧ w'.ownsRow w.heap.size 65 11 v' xs.length (xs.flatMap cellE) ∧ (xs.length = 0 → ∃ A, v' = .slice A 0 0) ∧ Below w.heap.size w w' := by
  rcases Nat.eq_zero_or_pos xs.length with h0 | h0
  · obtain rfl := List.eq_nil_of_length_eq_zero h0
    refine (clone_none v w h).mono ?_
    rintro e w' ⟨v', h1, h2, h3, h4⟩
    exact ⟨v', h1, h2, fun _ => h3, h4⟩
  · refine (cloneCells v xs w h hn).mono ?_
    rintro e w' ⟨v', h1, h2, h4⟩
    exact ⟨v', h1, h2, fun e => by omega, h4⟩
set_option maxRecDepth 100000 in
set_option maxHeartbeats 4000000 in
theorem copiedZ (t : Tbl) (A : Option Addr) (c : Nat) (A' : Option Addr) (c' : Nat) (w : World) (hc : Lies colE w (.slice A t.cols.length c) t.cols) (hr : Rd rowO w A' t.rows) (hs : SmallT t) :
    Calls Tryd.prog 99 #[.agg #[.slice A t.cols.length c, .int .i64 t.head, .int .i64 t.foot, .slice A' t.rows.length c', .int .i64 t.gap]] w (CopyPostZ t w) := by
  obtain ⟨hs1, hs2, hs3⟩ := hs
  have hCC := fun (W : World) (h : Below w.heap.size w W) => cloneCols _ t.cols W (hc.below h) hs1
  have l2 := hr.1
  clear hc hs3
  go_enter Tryd.func99, Tryd.ntmps99
  go_wp2_with fail
  obtain ⟨wb, hwb⟩ : ∃ W : World, W = (w.alloc (.cells #[.slice A t.cols.length c, .int .i64 t.head, .int .i64 t.foot, .slice A' t.rows.length c', .int .i64 t.gap] 33)).alloc (.cells #[.slice none 0 0, .int .i64 0, .int .i64 0, .slice none 0 0, .int .i64 0] 33) := ⟨_, rfl⟩
  rw [← hwb]
  have KB : Below w.heap.size w wb := hwb ▸ balloc (balloc (brefl w) _) _
  have b0 : wb.cell? ⟨w.heap.size, 0, none⟩ = some (.slice A t.cols.length c) := by rw [hwb]; simp
  have b1 : wb.cell? ⟨w.heap.size, 1, none⟩ = some (.int .i64 t.head) := by rw [hwb]; simp
  have b2 : wb.cell? ⟨w.heap.size, 2, none⟩ = some (.int .i64 t.foot) := by rw [hwb]; simp
  have b3 : wb.cell? ⟨w.heap.size, 3, none⟩ = some (.slice A' t.rows.length c') := by rw [hwb]; simp
  have b4 : wb.cell? ⟨w.heap.size, 4, none⟩ = some (.int .i64 t.gap) := by rw [hwb]; simp
  have bf : ∀ i, wb.frozen? ⟨w.heap.size, i, none⟩ = false := fun i => by rw [hwb]; simp
  have u0 : wb.cell? ⟨w.heap.size + 1, 0, none⟩ = some (.slice none 0 0) := by rw [hwb]; simp
  have u1 : wb.cell? ⟨w.heap.size + 1, 1, none⟩ = some (.int .i64 0) := by rw [hwb]; simp
  have u2 : wb.cell? ⟨w.heap.size + 1, 2, none⟩ = some (.int .i64 0) := by rw [hwb]; simp
  have u3 : wb.cell? ⟨w.heap.size + 1, 3, none⟩ = some (.slice none 0 0) := by rw [hwb]; simp
  have u4 : wb.cell? ⟨w.heap.size + 1, 4, none⟩ = some (.int .i64 0) := by rw [hwb]; simp
  have uf : ∀ i, wb.frozen? ⟨w.heap.size + 1, i, none⟩ = false := fun i => by rw [hwb]; simp
  have zb : wb.heap.size = w.heap.size + 2 := by rw [hwb]; simp
  have HG := hide (And.intro b0 (And.intro b1 (And.intro b2 (And.intro b3 (And.intro b4 bf)))))
  have HU := hide (And.intro u0 (And.intro u1 (And.intro u2 (And.intro u3 (And.intro u4 uf)))))
  have ZB := hide zb
  clear hwb zb b0 b1 b2 b3 b4 bf u0 u1 u2 u3 u4 uf
  go_loopg [3, 9] t.rows.length (fun gg s3 s9 wr => ∃ (kk : Nat) (vr : Value) (vs : List Value), kk ≤ t.rows.length ∧ t.rows.length - kk ≤ gg ∧ s9 = .int .i64 kk ∧ s3 = vr ∧ Aside (Below wb.heap.size wb wr) ∧ Aside (wr.ownsRow wb.heap.size 84 2 vr kk (rowCells vs (t.rows.take kk))) ∧ Aside (RowsOwnZ wr wb.heap.size wr.heap.size vs (t.rows.take kk)))
  case atStart => exact ⟨0, .slice none 0 0, [], Nat.zero_le _, by omega, rfl, rfl, brefl _, World.ownsRow_nil _ _ _ _, ⟨rfl, fun j h => absurd h (Nat.not_lt_zero _), List.Pairwise.nil⟩, fun j h => absurd h (Nat.not_lt_zero _)⟩
  case round =>
    obtain ⟨kk, vr, vs, hkk, hg, rfl, rfl, BW, HO, HR⟩ := hrel
    obtain ⟨Ar, cr, rfl⟩ := own_form0 HO.out
    by_cases hlt : kk < t.rows.length
    · have hltz : (kk : Int) < (t.rows.length : Int) := by omega
      obtain ⟨b, o, d0, d1, rfl, hblt, ⟨v, hK, hL, hl5⟩, e0, e1⟩ := hr.at2 rfl (step KB BW.out) kk hlt
      simp only [List.cons.injEq, and_true] at hK
      obtain ⟨rfl, rfl⟩ := hK
      obtain ⟨Av, cv, rfl⟩ := hL.form
      have hC := fun (W : World) (h : Below wr.heap.size wr W) => cloneCellsZ _ t.rows[kk].cs W (hL.below h) hl5
      clear hL hr
      go_wp2_with fail
      obtain ⟨wa, hwa⟩ : ∃ W : World, W = wr.alloc (.cells #[.slice Av t.rows[kk].cs.length cv, .bool t.rows[kk].wh] 84) := ⟨_, rfl⟩
      rw [← hwa]
      have KA : Below wr.heap.size wr wa := hwa ▸ balloc (brefl wr) _
      have k0 : wa.cell? ⟨wr.heap.size, 0, none⟩ = some (.slice Av t.rows[kk].cs.length cv) := by rw [hwa]; simp
      have k1 : wa.cell? ⟨wr.heap.size, 1, none⟩ = some (.bool t.rows[kk].wh) := by rw [hwa]; simp
      have HSS : Hid (∀ W : World, Below wa.heap.size wa W → W.cell? ⟨wr.heap.size, 0, none⟩ = some (.slice Av t.rows[kk].cs.length cv) ∧ W.cell? ⟨wr.heap.size, 1, none⟩ = some (.bool t.rows[kk].wh)) := fun W hB => ⟨keepW hB k0, keepW hB k1⟩
      have HKA := hide KA
      have ZA : Hid (wr.heap.size < wa.heap.size) := by show wr.heap.size < wa.heap.size; rw [hwa]; simp
      have HVR : Hid (∀ b, (Value.slice Ar kk cr).ownBlock = some b → b < wr.heap.size) := fun b hb => (own_lt HO.out hb).2
      clear hwa KA k0 k1 e0 e1
      obtain ⟨i0, hi, hz0, hz1, hz2⟩ := info_parts infoR
      go_region_held_law (fun W => W.cell? ⟨wr.heap.size, 0, none⟩ = some (.slice Av t.rows[kk].cs.length cv) ∧ W.cell? ⟨wr.heap.size, 1, none⟩ = some (.bool t.rows[kk].wh)) (first | with_reducible assumption | (refine HSS.out _ ?_; (repeat' (with_reducible first | exact brefl _ | refine bdrew ?_ | refine balloc ?_ _ | refine bset ?_ ?_ _ | refine step ?_ (by with_reducible assumption))) <;> first | (simp; done) | (simp; omega)))
        (first
          | (refine step_append_own _ rfl (.tmp 13) (.tmp 20) 31 rfl wb.heap.size 84 i0 _ 2 32 undR hi hz0 hz1 hz2 rfl (by decide) _ _ _ (by simp [Act.eval]) (own_below HO.out (balloc HB7.out _)) ⟨w7.heap.size, 0, none⟩ 1 1 [.slice A7 t.rows[kk].cs.length c7, .bool t.rows[kk].wh] (by simp [Act.eval]) rfl (news2 (cell_new _ _ _ _ _ _ rfl) (cell_new _ _ _ _ _ _ rfl)) (row_one _ _ _ _) (by unfold maxLen; omega) (by omega) (by have := HZ7.out; simp; omega) ?_; intro v8 w8 ho8 hg8 hn8; have hs8 := And.intro (far_keep hg8 HL7.out HVR.out (HSS.out _ HA7.out).1) (far_keep hg8 HL7.out HVR.out (HSS.out _ HA7.out).2))
          | (go_simp; go_at_call 125; refine (hC _ ?_).mono ?_; (first | exact HKA.out | exact bdrew HKA.out); rintro e w7 ⟨v7, rfl, ho7, hz7, hb7⟩; obtain ⟨A7, c7, rfl⟩ := own_form0 ho7; have HZ9 := hide hz7; clear hz7; have HB7 := hide (step (bdrew HKA.out) hb7); have HZ7 := hide (Nat.le_trans BW.out.size HB7.out.size); have HA7 := hide (step (bdrew (brefl wa)) hb7); have HL7 := hide (Nat.lt_of_lt_of_le ZA.out HA7.out.size); simp only []))
      have HB7 := HB7.out
      have HOa := own_below HO.out (balloc HB7 (.cells #[.slice A7 t.rows[kk].cs.length c7, .bool t.rows[kk].wh] 84))
      have HSP : Hid (Spare 65 w7 w8) := (Spare.below (balloc (brefl w7) _)).trans (Spare.grow_own HOa hg8 (by decide))
      have HR8 : Hid (RowsOwnZ w8 wb.heap.size w8.heap.size (vs ++ [.slice A7 t.rows[kk].cs.length c7]) (t.rows.take (kk + 1))) := by
        rw [List.take_succ_eq_append_getElem hlt]
        have h1 := (HR.out.keep (fun b _ h => HB7.block b h)).spare HSP.out
        have h2 := own_spare (own_base ho7 (base' := wr.heap.size) (by simp; exact Nat.le_of_lt ZA.out)) HSP.out
        have h3 := Nat.le_trans HB7.size (Nat.le_trans (balloc (brefl w7) (.cells #[.slice A7 t.rows[kk].cs.length c7, .bool t.rows[kk].wh] 84)).size hg8.size)
        exact h1.snoc h2 HZ9.out BW.out.size h3 (Nat.le_refl _)
      have HO8 : Hid (w8.ownsRow wb.heap.size 84 2 v8 (kk + 1) (rowCells (vs ++ [.slice A7 t.rows[kk].cs.length c7]) (t.rows.take (kk + 1)))) := by
        rw [List.take_succ_eq_append_getElem hlt, rowCells_snoc _ _ _ _ HR.out.1.1]
        exact ho8
      have HB8 := hide (appB (step BW.out HB7) (own_below HO.out HB7) (Nat.le_refl _) hg8)
      clear hs8 ho8 hg8 hn8 ho7 HO HR HSS HOa HSP HL7 HA7 HZ7 HVR
      go_wp2_with fail
      go_roundg (t.rows.length - (kk + 1))
      case measure => omega
      case rel => exact ⟨kk + 1, v8, _, by omega, by omega, by go_num, rfl, HB8.out, HO8.out, HR8.out⟩
    · have hltz : ¬ (kk : Int) < (t.rows.length : Int) := by omega
      have hke : kk = t.rows.length := by omega
      subst hke
      have HRE : Hid (RowsAllZ wr wb.heap.size wr.heap.size (.slice Ar t.rows.length cr) vs t.rows) := by
        have h1 := HO.out
        have h2 := HR.out
        rw [List.take_length] at h1 h2
        exact ⟨Own.of h1 (Nat.le_refl _), h2⟩
      obtain ⟨b0, b1, b2, b3, b4, bf⟩ := HG.out
      obtain ⟨u0, u1, u2, u3, u4, uf⟩ := HU.out
      have b0 := keepW BW.out b0
      have b1 := keepW BW.out b1
      have b2 := keepW BW.out b2
      have b3 := keepW BW.out b3
      have b4 := keepW BW.out b4
      have zb := ZB.out
      have hbl : w.heap.size < wb.heap.size := by omega
      have hul : w.heap.size + 1 < wb.heap.size := by omega
      have bf : ∀ i, wr.frozen? ⟨w.heap.size, i, none⟩ = false := fun i => ((seenBk _ hbl BW.out).2.1 i).trans (bf i)
      have uf : ∀ i, wr.frozen? ⟨w.heap.size + 1, i, none⟩ = false := fun i => ((seenBk _ hul BW.out).2.1 i).trans (uf i)
      have u0 := keepW BW.out u0
      have u1 := keepW BW.out u1
      have u2 := keepW BW.out u2
      have u3 := keepW BW.out u3
      have u4 := keepW BW.out u4
      have HBW := hide (step KB BW.out)
      have hCC1 := hCC wr HBW.out
      have hsz := BW.out.size
      clear HO HR hr hCC zb
      go_wp2_with fail
      refine hCC1.mono ?_
      rintro e w1 ⟨vc, rfl, hoc, hb1⟩
      obtain ⟨Ac, cc, rfl⟩ := own_form0 hoc
      have b0 := keepW hb1 b0
      have b1 := keepW hb1 b1
      have b2 := keepW hb1 b2
      have b3 := keepW hb1 b3
      have b4 := keepW hb1 b4
      have hbl1 : w.heap.size < wr.heap.size := by omega
      have hul1 : w.heap.size + 1 < wr.heap.size := by omega
      have bf : ∀ i, w1.frozen? ⟨w.heap.size, i, none⟩ = false := fun i => ((seenBk _ hbl1 hb1).2.1 i).trans (bf i)
      have uf : ∀ i, w1.frozen? ⟨w.heap.size + 1, i, none⟩ = false := fun i => ((seenBk _ hul1 hb1).2.1 i).trans (uf i)
      have u0 := keepW hb1 u0
      have u1 := keepW hb1 u1
      have u2 := keepW hb1 u2
      have u3 := keepW hb1 u3
      have u4 := keepW hb1 u4
      have HRE1 : Hid (RowsAllZ w1 wb.heap.size w1.heap.size (.slice Ar t.rows.length cr) vs t.rows) := (HRE.out.keep (fun b _ h => hb1.block b h)).mono (Nat.le_refl _) hb1.size
      have HBW1 := hide (step HBW.out hb1)
      have HOC := hide hoc
      clear hoc hCC1
      go_wp2_with fail
      refine bodyPost_ret (v := .agg #[.slice Ac t.cols.length cc, .int .i64 t.head, .int .i64 t.foot, .slice Ar t.rows.length cr, .int .i64 t.gap]) (by simp [results, Tryd.results99, go_sem, *]) rfl ?_
      have zb := ZB.out
      have hkeep : ∀ W : World, (∀ b, wb.heap.size ≤ b → W.heap[b]? = w1.heap[b]?) → W.heap.size = w1.heap.size → Below w.heap.size w W → CopyPostZ t w (.returned (.agg #[.slice Ac t.cols.length cc, .int .i64 t.head, .int .i64 t.foot, .slice Ar t.rows.length cr, .int .i64 t.gap])) W := fun W h1 h2 h3 => by
        refine ⟨_, _, rfl, ⟨?_, vs, ?_⟩, h3⟩
        · rw [h2]
          exact ((Own.of HOC.out (Nat.le_refl _)).keep (fun b hb _ => h1 b (by omega))).mono (by omega) (Nat.le_refl _)
        · rw [h2]
          exact (HRE1.out.keep (fun b hb _ => h1 b hb)).mono (by omega) (Nat.le_refl _)
      refine hkeep _ (fun b hb => ?_) (by simp) ?_
      · (repeat' (with_reducible refine (heap_set _ _ _ _ ?_).trans ?_)) <;> first | rfl | (show b ≠ w.heap.size; omega) | (show b ≠ w.heap.size + 1; omega)
      · have h := HBW1.out
        (repeat' (with_reducible first | exact h | refine bset ?_ ?_ _)) <;> first | (simp; done) | (simp; omega)
set_option maxRecDepth 100000 in
set_option maxHeartbeats 4000000 in
/-- What is left, once it is known what the edit does. -/
theorem editZ1 (t : Tbl) (A : Option Addr) (c : Nat) (A' : Option Addr) (c' : Nat) (f : Nat) (caps : Array Value) (heg : ∀ args w, (callFunc f args).run Tryd.prog w = .ok (.enter f args) w) (g : Tbl × Bool) (w : World) (hok : tblOk t = true) (hw : Base w) (hc : Rd colR w A t.cols) (hr : Rd rowR w A' t.rows) (hcl : Lies colE w (.slice A t.cols.length c) t.cols) (hro : Rd rowO w A' t.rows)
    (hf : ∀ (w1 w2 : World) (Ac : Option Addr) (cc : Nat) (Ar : Option Addr) (cr : Nat), CopiedZ t w w1 w2 Ac cc Ar cr → Calls Tryd.prog f (#[.pointer (some ⟨w2.heap.size, 0, none⟩)] ++ caps) (w2.alloc (.cells #[.slice Ac t.cols.length cc, .int .i64 t.head, .int .i64 t.foot, .slice Ar t.rows.length cr, .int .i64 t.gap] 33)) (EdPost g w1.heap.size w2.heap.size (w2.alloc (.cells #[.slice Ac t.cols.length cc, .int .i64 t.head, .int .i64 t.foot, .slice Ar t.rows.length cr, .int .i64 t.gap] 33)))) :
    Calls Tryd.prog 64 #[.agg #[.slice A t.cols.length c, .int .i64 t.head, .int .i64 t.foot, .slice A' t.rows.length c', .int .i64 t.gap], .func (.func f) #[] caps] w (EdtPost g w) := by
  have hT := fun (W : World) (h : Below w.heap.size w W) => impl_TblOk t A c A' c' W (hw.below h) (hc.below h) (hr.below h)
  rw [hok] at hT
  have hCp := fun (W : World) (h : Below w.heap.size w W) => copiedZ t A c A' c' W (hcl.below h) (hro.below h) (small_of_ok hok)
  have HF := hide hf
  clear hok hc hr hcl hro hw hf
  go_enter Tryd.func64, Tryd.ntmps64
  go_wp2_with fail
  refine (hT _ (balloc (balloc (brefl _) _) _)).mono ?_
  rintro e w1 ⟨rfl, hb⟩
  obtain ⟨c0, f0, s0⟩ := seenBk w.heap.size (by first | (simp; omega) | simp [*]) hb
  obtain ⟨c1, f1, s1⟩ := seenBk (w.heap.size + 1) (by first | (simp; omega) | simp [*]) hb
  have HB := step (balloc (balloc (brefl w) _) _) hb
  go_wp2_with fail
  refine (hCp _ HB).mono ?_
  rintro e w2 ⟨vc, vr, rfl, hownZ, hb2⟩
  have hown := hownZ.own
  have u0 : w2.cell? ⟨w.heap.size + 1, 0, none⟩ = some (.slice none 0 0) := keepW hb2 (by simp [c1])
  have u1 : w2.cell? ⟨w.heap.size + 1, 1, none⟩ = some (.int .i64 0) := keepW hb2 (by simp [c1])
  have u2 : w2.cell? ⟨w.heap.size + 1, 2, none⟩ = some (.int .i64 0) := keepW hb2 (by simp [c1])
  have u3 : w2.cell? ⟨w.heap.size + 1, 3, none⟩ = some (.slice none 0 0) := keepW hb2 (by simp [c1])
  have u4 : w2.cell? ⟨w.heap.size + 1, 4, none⟩ = some (.int .i64 0) := keepW hb2 (by simp [c1])
  have uf : ∀ i, w2.frozen? ⟨w.heap.size + 1, i, none⟩ = false := fun i => ((seenBk _ s1 hb2).2.1 i).trans (by simp [f1])
  have hul : w.heap.size + 1 < w2.heap.size := Nat.lt_of_lt_of_le s1 hb2.size
  obtain ⟨Ac, cc, hvc⟩ := hown.1.form
  obtain ⟨Ar, cr, hvr⟩ : ∃ A c, vr = .slice A t.rows.length c := by obtain ⟨_, vs, hra⟩ := hown; exact hra.len
  subst hvc
  subst hvr
  have HB2 := hide (step HB hb2)
  have HS1 := hide (show w.heap.size + 2 ≤ w1.heap.size from s1)
  have hcall := HF.out w1 w2 Ac cc Ar cr ⟨hownZ, HB2.out, HS1.out, hb2.size⟩
  have hs12 := hb2.size
  have hs10 := HS1.out
  clear hown hownZ hb hb2 c0 c1 f0 f1 s0 s1 hT hCp
  go_wp2_with (go_at_fn f; refine hcall.mono ?_; rintro e w5 ⟨rfl, vc5, vr5, ho5, ⟨x0, x1, x2, x3, x4⟩, hb5⟩; obtain ⟨Ac5, cc5, hvc5⟩ := ho5.1.form; obtain ⟨Ar5, cr5, hvr5⟩ := (show ∃ A c, vr5 = .slice A g.1.rows.length c by obtain ⟨_, vs, hra⟩ := ho5; exact hra.len); subst hvc5; subst hvr5; have t0 : w5.cell? ⟨w.heap.size + 1, 0, none⟩ = some (.slice none 0 0) := (low_cell hb5 (by omega)).trans (keepW (balloc (brefl w2) _) u0); have t1 : w5.cell? ⟨w.heap.size + 1, 1, none⟩ = some (.int .i64 0) := (low_cell hb5 (by omega)).trans (keepW (balloc (brefl w2) _) u1); have t2 : w5.cell? ⟨w.heap.size + 1, 2, none⟩ = some (.int .i64 0) := (low_cell hb5 (by omega)).trans (keepW (balloc (brefl w2) _) u2); have t3 : w5.cell? ⟨w.heap.size + 1, 3, none⟩ = some (.slice none 0 0) := (low_cell hb5 (by omega)).trans (keepW (balloc (brefl w2) _) u3); have t4 : w5.cell? ⟨w.heap.size + 1, 4, none⟩ = some (.int .i64 0) := (low_cell hb5 (by omega)).trans (keepW (balloc (brefl w2) _) u4); have tf : ∀ i, w5.frozen? ⟨w.heap.size + 1, i, none⟩ = false := fun i => (low_frozen hb5 (by omega)).trans (((seenBk _ hul (balloc (brefl w2) _)).2.1 i).trans (uf i)))
  have hl5 : w2.heap.size ≤ w5.heap.size := Nat.le_trans (by simp) hb5.size
  have HB5 := hide (below_low (balloc HB2.out (.cells #[.slice Ac t.cols.length cc, .int .i64 t.head, .int .i64 t.foot, .slice Ar t.rows.length cr, .int .i64 t.gap] 33)) hb5 (by omega))
  refine bodyPost_ret (v := .tuple #[.agg #[.slice Ac5 g.1.cols.length cc5, .int .i64 g.1.head, .int .i64 g.1.foot, .slice Ar5 g.1.rows.length cr5, .int .i64 g.1.gap], .bool g.2]) (by simp [results, Tryd.results64, go_sem, *]) rfl ⟨_, _, rfl, (ho5.keep (fun b hb1 hb2 => ?_)).mono (by omega) (by first | (simp; done) | (simp; omega)), ?_⟩
  · refine (heap_set _ _ _ _ (show b ≠ w.heap.size + 1 by omega)).trans ?_
    refine (heap_set _ _ _ _ (show b ≠ w.heap.size + 1 by omega)).trans ?_
    refine (heap_set _ _ _ _ (show b ≠ w.heap.size + 1 by omega)).trans ?_
    refine (heap_set _ _ _ _ (show b ≠ w.heap.size + 1 by omega)).trans ?_
    exact heap_set _ _ _ _ (show b ≠ w.heap.size + 1 by omega)
  · have h := HB5.out
    (repeat' (with_reducible first | exact h | refine balloc ?_ _ | refine bset ?_ ?_ _)) <;> first | (simp; done) | (simp; omega)
end Go.Proofs.YtfcogogpioeggaaDoor
