import Derived.Test.YtfcogogpioeggaaDoorKd
namespace Go.Proofs.YtfcogogpioeggaaDoor
open Go.RowKit
/- The statements' own helpers: marking rows and tables: the walks. -/
set_option maxRecDepth 100000 in
set_option maxHeartbeats 1000000 in
theorem markRows0 (A : Option Addr) (c k : Nat) (w : World) : Calls Tryd.prog 61 #[.slice A 0 c, .int .i64 k] w fun e w' => e = .returned (.int .i64 k) ∧ w' = w := by
  go_enter Tryd.func61, Tryd.ntmps61
  go_wp2_with fail
  go_loopg [1, 5] 1 (fun gg s1 s5 wr => s1 = .int .i64 k ∧ s5 = .int .i64 0 ∧ wr = w)
  case atStart => exact ⟨rfl, rfl, rfl⟩
  case round =>
    obtain ⟨rfl, rfl, rfl⟩ := hrel
    go_wp2_with fail
    go_ret
    exact ⟨rfl, rfl⟩
theorem RowsAll.at {w : World} {lo hi : Nat} {vs : List Value} {rows : List TRow} {gr cap n : Nat} (h : RowsAll w lo hi (.slice (some ⟨gr, 0, none⟩) n cap) vs rows) (j : Nat) (hj : j < vs.length) (hj' : j < rows.length) :
    w.cell? ⟨gr, j * 2, none⟩ = some vs[j] ∧ w.cell? ⟨gr, j * 2 + 1, none⟩ = some (.bool rows[j].wh) ∧ (∀ i, w.frozen? ⟨gr, i, none⟩ = false) ∧ lo ≤ gr ∧ gr < hi := by
  rcases h.1 with ⟨h0, _⟩ | ⟨hn, gr', cr, e, b1, b2, b3⟩
  · omega
  · injection e with e e2 _; injection e with e; injection e with e; subst e
    rw [← e2] at b3
    have := b3.1
    have k0 := b3.cellAt (j * 2) (by omega)
    have k1 := b3.cellAt (j * 2 + 1) (by omega)
    obtain ⟨g0, g1⟩ := rowCells_get vs rows j hj hj'
    exact ⟨k0.trans g0, k1.trans g1, fun i => b3.frozenAt i, b1, b2⟩
theorem RowsAll.head {w : World} {lo hi : Nat} {vs : List Value} {rows : List TRow} {gr cap n : Nat} (h : RowsAll w lo hi (.slice (some ⟨gr, 0, none⟩) n cap) vs rows) (hpos : 0 < rows.length) : ∃ cur, w.heap[gr]? = some (.cells cur 84 (0, 0)) := by
  rcases h.1 with ⟨h0, _⟩ | ⟨hn, gr', cr, e, b1, b2, b3⟩
  · omega
  · exact own_type b3
theorem whole_eq (m l : Nat) : (((m : Int) + 11 * (l : Int)) % 3 == 0) = ((m + 11 * l) % 3 == 0) := by
  rw [Bool.eq_iff_iff]; simp; omega
set_option maxRecDepth 100000 in
set_option maxHeartbeats 2000000 in
theorem markRows1 (gr cap k : Nat) (rows : List TRow) (vs : List Value) (lo hi : Nat) (w : World) (h : RowsAll w lo hi (.slice (some ⟨gr, 0, none⟩) rows.length cap) vs rows) (hhw : hi ≤ w.heap.size) (hn : rows.length ≤ 1048576) (hs : ∀ r ∈ rows, r.cs.length ≤ 1048576) (hk : k ≤ 1000000000) :
    Calls Tryd.prog 61 #[.slice (some ⟨gr, 0, none⟩) rows.length cap, .int .i64 k] w fun e w' => e = .returned (.int .i64 (endR rows k : Nat)) ∧ RowsAll w' lo hi (.slice (some ⟨gr, 0, none⟩) rows.length cap) vs (markR rows k) ∧ Within lo hi w w' ∧ Spare 28 w w' := by
  have hvl := h.2.1
  have hs1 : Hid (∀ r ∈ rows, r.cs.length ≤ 1048576) := hs
  clear hs
  go_enter Tryd.func61, Tryd.ntmps61
  go_wp2_with fail
  go_loopg [1, 5] rows.length (fun gg s1 s5 wr => ∃ kk m : Nat, kk ≤ rows.length ∧ rows.length - kk ≤ gg ∧ s5 = .int .i64 kk ∧ s1 = .int .i64 m ∧ Aside (m = endR (rows.take kk) k) ∧ Aside (Within lo hi w wr) ∧ Aside (Spare 28 w wr) ∧ Aside (RowsAll wr lo hi (.slice (some ⟨gr, 0, none⟩) rows.length cap) vs (mix rows k kk)))
  case atStart => exact ⟨0, k, Nat.zero_le _, by omega, rfl, rfl, (show k = endR (rows.take 0) k from rfl), Within.refl _ _ _, Spare.refl _ _, (show RowsAll w lo hi _ vs (mix rows k 0) from h)⟩
  case round =>
    obtain ⟨kk, m, hkk, hg, rfl, rfl, HM, BW, BP, RA⟩ := hrel
    clear h
    by_cases hlt : kk < rows.length
    · have hltz : (kk : Int) < (rows.length : Int) := by omega
      have hj : kk < vs.length := by omega
      have hml := mix_length rows k kk hkk
      have hj' : kk < (mix rows k kk).length := by omega
      have hm : m ≤ 100000000000000 := by
        have h1 := endR_le rows k hs1.out kk hkk
        have := HM.out
        have : kk * 11534337 ≤ 1048576 * 11534337 := Nat.mul_le_mul_right _ (by omega)
        omega
      have hlen : rows[kk].cs.length ≤ 1048576 := hs1.out _ (List.getElem_mem hlt)
      obtain ⟨x0, x1, xf, b1, b2⟩ := RA.out.at kk hj hj'
      have hC := markCellsAt RA.out kk hj hj' (Nat.le_trans hhw BW.out.size) m (by omega) (by rw [mix_get rows k kk hlt]; exact hlen)
      rw [mix_get rows k kk hlt] at hC
      have hml2 : ∀ r, ((mix rows k kk).set kk r).length = rows.length := fun r => by rw [List.length_set]; exact hml
      have hst := mix_step rows k kk hlt
      have HST := hide hst
      have HML := hide hml
      have HML2 := hide hml2
      have hend := endR_succ rows k kk hlt
      have HE := hide hend
      clear hst hml hml2 hend hj' x1
      generalize hV : vs[kk] = V at x0 hC
      have HV := hide hV
      clear hV
      go_wp2_with fail
      refine hC.mono ?_
      rintro e w' ⟨rfl, RB, BB, BS⟩
      have hj2 : kk < ((mix rows k kk).set kk ⟨markL rows[kk].cs.length m, rows[kk].wh⟩).length := by rw [HML2.out]; exact hlt
      obtain ⟨_, x1, xf', _, _⟩ := RB.at kk hj hj2
      obtain ⟨cur, hcur⟩ := RB.head (by omega)
      have HCUR := hide hcur
      clear hcur
      have HRB := hide RB
      have hC2 := hide hj2
      clear hC RB x0 xf
      go_wp2_with fail
      go_roundg (rows.length - (kk + 1))
      case measure => omega
      case rel =>
        refine ⟨kk + 1, m + 11 * rows[kk].cs.length + 1, by omega, by omega, by go_num, by go_num, (show _ = endR (rows.take (kk + 1)) k from by rw [HE.out, ← HM.out]), (BW.out.trans BB).trans (Within.set _ b1 b2 _), (BP.out.trans BS).trans (Spare.grow (grow_set _ rfl _) HCUR.out (by decide)), (show RowsAll _ lo hi _ vs _ from ?_)⟩
        have h1 := HRB.out.whole kk hj hj2 ((m + 11 * rows[kk].cs.length) % 3 == 0)
        rw [whole_eq]
        have h2 := HST.out
        rw [← HM.out] at h2
        rw [List.getElem_set_self, List.set_set, h2] at h1
        exact h1
    · have hltz : ¬ (kk : Int) < (rows.length : Int) := by omega
      have HL := hide (show kk = rows.length by omega)
      go_wp2_with fail
      go_ret
      have h1 := RA.out
      rw [HL.out, mix_end] at h1
      exact ⟨by rw [HM.out, HL.out, List.take_length]; rfl, h1, BW.out, BP.out⟩
/-- A whole table of one's own. -/
def OwnTbl (w : World) (lo hi : Nat) (vc vr : Value) (t : Tbl) : Prop := Own w lo hi 28 2 vc t.cols.length (t.cols.flatMap colE) ∧ ∃ vs, RowsAll w lo hi vr vs t.rows
def SmallT (t : Tbl) : Prop := t.cols.length ≤ 1048576 ∧ t.rows.length ≤ 1048576 ∧ ∀ r ∈ t.rows, r.cs.length ≤ 1048576
def markT (t : Tbl) (k : Nat) : Tbl := ⟨markC t.cols.length k, t.head, t.foot, markR t.rows (k + 2 * t.cols.length), t.gap⟩
def endT (t : Tbl) (k : Nat) : Nat := endR t.rows (k + 2 * t.cols.length)
theorem RowsAll.len {w : World} {lo hi : Nat} {v : Value} {vs : List Value} {rows : List TRow} (h : RowsAll w lo hi v vs rows) : ∃ A c, v = .slice A rows.length c := h.1.form
theorem markRows (k : Nat) (rows : List TRow) (v : Value) (vs : List Value) (lo hi : Nat) (w : World) (h : RowsAll w lo hi v vs rows) (hhw : hi ≤ w.heap.size) (hn : rows.length ≤ 1048576) (hs : ∀ r ∈ rows, r.cs.length ≤ 1048576) (hk : k ≤ 1000000000) :
    Calls Tryd.prog 61 #[v, .int .i64 k] w fun e w' => e = .returned (.int .i64 (endR rows k : Nat)) ∧ RowsAll w' lo hi v vs (markR rows k) ∧ Within lo hi w w' ∧ Spare 28 w w' := by
  rcases h.1 with ⟨h0, _, A, c, e⟩ | ⟨hpos, g, c, e, h1, h2, h3⟩
  · obtain rfl : rows = [] := List.eq_nil_of_length_eq_zero h0
    rw [e]
    refine (markRows0 A c k w).mono ?_
    rintro e' w' ⟨rfl, rfl⟩
    exact ⟨rfl, e ▸ h, Within.refl _ _ _, Spare.refl _ _⟩
  · rw [e] at h ⊢
    exact markRows1 g c k rows vs lo hi w h hhw hn hs hk
theorem markColsO (k n : Nat) (v : Value) (X : List Value) (lo hi : Nat) (w : World) (h : Own w lo hi 28 2 v n X) (hn : n ≤ 1048576) (hk : k ≤ 1000000) :
    Calls Tryd.prog 60 #[v, .int .i64 k] w fun e w' => e = .returned (.int .i64 ((k + 2 * n : Nat) : Int)) ∧ Own w' lo hi 28 2 v n ((markC n k).flatMap colE) ∧ (w' = w ∨ ∃ g, 0 < n ∧ (∃ c, v = .slice (some ⟨g, 0, none⟩) n c) ∧ w.grownBy w' (some g) ∧ lo ≤ g ∧ g < hi) := by
  rcases h with ⟨h0, _, A, c, e⟩ | ⟨hpos, g, c, e, h1, h2, h3⟩
  · subst h0
    rw [e]
    refine (markCols0 A c k w).mono ?_
    rintro e' w' ⟨rfl, rfl⟩
    exact ⟨rfl, .inl ⟨rfl, rfl, A, c, rfl⟩, .inl rfl⟩
  · rw [e] at h3 ⊢
    refine (markCols g c n k X lo w h3 hn (by omega)).mono ?_
    rintro e' w' ⟨rfl, ho, hg⟩
    exact ⟨rfl, .inr ⟨hpos, g, c, rfl, h1, h2, ho⟩, .inr ⟨g, hpos, ⟨c, rfl⟩, hg, h1, h2⟩⟩
/-- Marking the columns leaves the rows as they were: their blocks are of other types. -/
theorem RowsAll.apart {w w' : World} {lo hi n : Nat} {v vc : Value} {vs : List Value} {rows : List TRow} {X : List Value} (h : RowsAll w lo hi v vs rows) (hc : Own w lo hi 28 2 vc n X) (hhw : hi ≤ w.heap.size)
    (hg : w' = w ∨ ∃ g, 0 < n ∧ (∃ c, vc = .slice (some ⟨g, 0, none⟩) n c) ∧ w.grownBy w' (some g) ∧ lo ≤ g ∧ g < hi) : RowsAll w' lo hi v vs rows := by
  rcases hg with rfl | ⟨g, hn, ⟨c, e⟩, hg, _, _⟩
  · exact h
  · obtain ⟨cur, hcur⟩ : ∃ cur, w.heap[g]? = some (.cells cur 28 (0, 0)) := by
      rcases hc with ⟨h0, _⟩ | ⟨_, g1, c1, e1, _, _, h3⟩
      · omega
      · rcases h3.2 with ⟨e2, _⟩ | ⟨g', cap, cur, e2, _, hh, _⟩
        · rw [e] at e2; cases e2
        · rw [e] at e2; injection e2 with e2; injection e2 with e2; injection e2 with e2; subst e2; exact ⟨cur, hh⟩
    have hne : ∀ (E : TypeId), E ≠ 28 → ∀ (b k n' : Nat) (u : Value) (Y : List Value) (lo' : Nat), w.ownsRow lo' E k u n' Y → u.ownBlock = some b → b < hi → w'.heap[b]? = w.heap[b]? := fun E hE b k n' u Y lo' ho hb hbh => by
      refine hg.block b (by omega) (fun e3 => ?_)
      injection e3 with e3
      subst e3
      rcases ho.2 with ⟨e4, _⟩ | ⟨g', cap, cur', e4, _, hh, _⟩
      · rw [e4] at hb; cases hb
      · rw [e4] at hb
        have e5 : g' = b := by simpa [Value.ownBlock] using hb
        subst e5
        rw [hcur] at hh; injection hh with hh; injection hh with _ hh; exact absurd hh.symm hE
    obtain ⟨h1, h2, h3, h4⟩ := h
    refine ⟨?_, h2, fun j a b => ?_, h4⟩
    · rcases h1 with h1 | ⟨hn1, gr, cr, rfl, b1, b2, b3⟩
      · exact .inl h1
      · exact .inr ⟨hn1, gr, cr, rfl, b1, b2, own_keep b3 fun k hk => by
          have e5 : gr = k := by simpa [Value.ownBlock] using hk
          exact hne _ (by decide) k _ _ _ _ _ b3 hk (by omega)⟩
    · rcases h3 j a b with h5 | ⟨hn1, gr, cr, e6, b1, b2, b3⟩
      · exact .inl h5
      · exact .inr ⟨hn1, gr, cr, e6, b1, b2, own_keep b3 fun k hk => by
          have e5 : gr = k := by rw [e6] at hk; simpa [Value.ownBlock] using hk
          exact hne _ (by decide) k _ _ _ _ _ b3 hk (by omega)⟩
set_option maxRecDepth 100000 in
set_option maxHeartbeats 1000000 in
theorem markTable (t : Tbl) (k : Nat) (vc vr : Value) (lo hi : Nat) (w : World) (h : OwnTbl w lo hi vc vr t) (hhw : hi ≤ w.heap.size) (hs : SmallT t) (hk : k ≤ 1000) :
    Calls Tryd.prog 25 #[.agg #[vc, .int .i64 t.head, .int .i64 t.foot, vr, .int .i64 t.gap], .int .i64 k] w fun e w' => e = .returned (.int .i64 (endT t k : Nat)) ∧ OwnTbl w' lo hi vc vr (markT t k) ∧ Within lo hi w w' := by
  obtain ⟨hc, vs, hr⟩ := h
  obtain ⟨hs1, hs2, hs3⟩ := hs
  obtain ⟨A, c, rfl⟩ := hc.form
  obtain ⟨A', c', rfl⟩ := hr.len
  have KB := balloc (brefl w) (.cells #[.slice A t.cols.length c, .int .i64 t.head, .int .i64 t.foot, .slice A' t.rows.length c', .int .i64 t.gap] 33)
  have hkeep : ∀ b, lo ≤ b → b < hi → (w.alloc (.cells #[.slice A t.cols.length c, .int .i64 t.head, .int .i64 t.foot, .slice A' t.rows.length c', .int .i64 t.gap] 33)).heap[b]? = w.heap[b]? := fun b _ h2 => KB.block b (by omega)
  have hc1 := hc.keep hkeep
  have hr1 := hr.keep hkeep
  have hhw1 := Nat.le_trans hhw KB.size
  have hM := markColsO k t.cols.length (.slice A t.cols.length c) _ lo hi _ hc1 hs1 (by omega)
  have HC1 := hide hc1
  have HR1 := hide hr1
  have HS3 := hide hs3
  clear hc hr hkeep hc1 hr1 hs3
  go_enter Tryd.func25, Tryd.ntmps25
  go_wp2_with fail
  refine hM.mono ?_
  rintro e w1 ⟨rfl, hc2, hg⟩
  have HR2 := hide (HR1.out.apart HC1.out hhw1 hg)
  have HW2 : Hid (Within lo hi w w1) := by
    refine Within.trans (Within.below KB) ?_
    rcases hg with rfl | ⟨g, _, _, h1, h2, h3⟩
    · exact Within.refl _ _ _
    · exact Within.grow h1 h2 h3
  have HS2 : Hid (hi ≤ w1.heap.size) := Nat.le_trans hhw HW2.out.size
  have hbt : w1.cell? ⟨w.heap.size, 3, none⟩ = some (.slice A' t.rows.length c') := by
    rcases hg with rfl | ⟨g, _, _, h1, h2, h3⟩
    · simp
    · refine (World.cell?_of_block (h1.block _ (by simp) (fun e => ?_))).trans (by simp)
      injection e with e
      have : w.heap.size = g := e
      omega
  have hN := markRows (k + 2 * t.cols.length) t.rows (.slice A' t.rows.length c') vs lo hi w1 HR2.out HS2.out hs2 HS3.out (by omega)
  have HC2 := hide hc2
  clear hM hg hc2
  go_wp2_with fail
  refine hN.mono ?_
  rintro e w2 ⟨rfl, hr3, hw3, hp3⟩
  have HR3 := hide hr3
  clear hr3 hN
  go_wp2_with fail
  go_ret
  refine ⟨rfl, ⟨?_, vs, ?_⟩, HW2.out.trans hw3⟩
  · show Own w2 lo hi 28 2 _ (markC t.cols.length k).length _
    rw [markC_length]
    exact HC2.out.spare hp3
  · exact HR3.out
end Go.Proofs.YtfcogogpioeggaaDoor
