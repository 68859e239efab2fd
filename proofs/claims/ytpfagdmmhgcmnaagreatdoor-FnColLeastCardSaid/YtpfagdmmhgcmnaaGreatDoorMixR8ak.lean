import Derived.Test.YtpfagdmmhgcmnaaGreatDoorMixR8af
namespace Go.Proofs.YtpfagdmmhgcmnaaGreatDoor
open Go.RowKit
/- The program's copy of a table. -/
def rowO : Rep TRow where
  sz := 2
  K := fun w x cs => ∃ v, cs = [v, .bool x.wh] ∧ Lies cellE w v x.cs ∧ x.cs.length ≤ 1048576
  len := by rintro w x cs ⟨v, rfl, _⟩; rfl
  below := by rintro w w1 x cs hb ⟨v, rfl, h, h2⟩; exact ⟨v, rfl, h.below hb, h2⟩
theorem RowsOwn.spare {w w' : World} {lo hi : Nat} {vs : List Value} {rows : List TRow} (h : RowsOwn w lo hi vs rows) (hs : Spare 52 w w') : RowsOwn w' lo hi vs rows :=
  ⟨h.1, fun j h1 h2 => (h.2.1 j h1 h2).spare hs, h.2.2⟩
theorem RowsOwn.snoc {w : World} {lo hi hi' : Nat} {vs : List Value} {rows : List TRow} {v : Value} {r : TRow} (h : RowsOwn w lo hi vs rows) (hv : w.ownsRow hi 52 11 v r.cs.length (r.cs.flatMap cellE)) (h1 : lo ≤ hi) (h2 : hi ≤ hi') (h3 : w.heap.size ≤ hi') :
    RowsOwn w lo hi' (vs ++ [v]) (rows ++ [r]) := by
  have hO := (Own.of hv h3).mono h1 (Nat.le_refl _)
  refine ⟨by simp [h.1], fun j a b => ?_, ?_⟩
  · rcases Nat.lt_or_ge j vs.length with hj | hj
    · have hj' : j < rows.length := by rw [← h.1]; exact hj
      rw [List.getElem_append_left hj, List.getElem_append_left hj']
      exact (h.2.1 j hj hj').mono (Nat.le_refl _) h2
    · have e : j = vs.length := by simp at a; omega
      have e' : j = rows.length := by rw [← h.1]; exact e
      have g1 : (vs ++ [v])[j] = v := by rw [List.getElem_append_right (by omega)]; simp
      have g2 : (rows ++ [r])[j] = r := by rw [List.getElem_append_right (by omega)]; simp
      rw [g1, g2]; exact hO
  · rw [List.pairwise_append]
    refine ⟨h.2.2, List.pairwise_singleton _ _, fun a ha b hb => ?_⟩
    rw [List.mem_singleton.1 hb]
    obtain ⟨i, hi1, rfl⟩ := List.getElem_of_mem ha
    intro g n c g' n' c' e1 e2 hn hn' e
    subst e
    have hA := h.2.1 i hi1 (by rw [← h.1]; exact hi1)
    rcases hA with ⟨h0, _, A, c0, e3⟩ | ⟨_, g1, c1, e3, b1, b2, _⟩
    · rw [e3] at e1; injection e1 with _ e1 _; omega
    · rw [e3] at e1; injection e1 with e1 _ _; injection e1 with e1; injection e1 with e1; subst e1
      have := own_lt hv (b := g1) (by rw [e2]; rfl)
      omega
theorem news2 {w : World} {b : Nat} {u0 u1 : Value} (h0 : w.cell? ⟨b, 0, none⟩ = some u0) (h1 : w.cell? ⟨b, 1, none⟩ = some u1) : ∀ j u, [u0, u1][j]? = some u → w.cell? ((⟨b, 0, none⟩ : Addr).add j) = some u := by
  intro j u hj
  have hadd : ∀ k, (⟨b, 0, none⟩ : Addr).add k = ⟨b, k, none⟩ := fun k => by rw [Addr.add_lit, Nat.zero_add]
  rw [hadd]
  match j, hj with
  | 0, hj => simp at hj; subst hj; exact h0
  | 1, hj => simp at hj; subst hj; exact h1
theorem row_one (A : Option Addr) (n c : Nat) (b : Bool) : ∀ u ∈ [Value.slice A n c, .bool b], u.oneCell' = true := by
  intro u hu
  simp only [List.mem_cons, List.not_mem_nil, or_false] at hu
  rcases hu with rfl | rfl <;> rfl
theorem far_keep {w w8 : World} {o : Obj} {v : Value} {B : Nat} (hg : (w.alloc o).grownBy w8 v.ownBlock) (hb : B < w.heap.size) (hv : ∀ b, v.ownBlock = some b → b < B) {i : Nat} {u : Value} (h : w.cell? ⟨B, i, none⟩ = some u) : w8.cell? ⟨B, i, none⟩ = some u := by
  have h1 := keepW (balloc (brefl w) o) h
  refine (World.cell?_of_block (hg.block B (by simp; omega) (fun e => ?_))).trans h1
  exact absurd (hv B e.symm) (Nat.lt_irrefl _)
theorem appB {w0 w w2 : World} {o : Obj} {v : Value} {base E k n : Nat} {xs : List Value} (hB : Below w0.heap.size w0 w) (ho : w.ownsRow base E k v n xs) (hbase : w0.heap.size ≤ base) (hg : (w.alloc o).grownBy w2 v.ownBlock) : Below w0.heap.size w0 w2 :=
  (balloc hB o).trans ⟨hg.os, hg.tape, hg.output, hg.size, fun k hk => hg.block k (by have := hB.size; simp; omega) (fun e => by have := (own_lt ho e.symm).1; omega)⟩
theorem own_spare {w w' : World} {lo : Nat} {E : TypeId} {k n : Nat} {v : Value} {X : List Value} (h : w.ownsRow lo E k v n X) (hs : Spare E w w') : w'.ownsRow lo E k v n X :=
  own_keep h fun b hb => by
    rcases h.2 with ⟨rfl, _⟩ | ⟨g, cap, cur, rfl, _, hh, _⟩
    · cases hb
    · have : g = b := by simpa [Value.ownBlock] using hb
      subst this; exact hs g cur hh
theorem RowsAll.mono {w : World} {lo hi lo' hi' : Nat} {v : Value} {vs : List Value} {rows : List TRow} (h : RowsAll w lo hi v vs rows) (hl : lo' ≤ lo) (hh : hi ≤ hi') : RowsAll w lo' hi' v vs rows := ⟨h.1.mono hl hh, h.2.mono hl hh⟩
theorem infoR : (Tryz.prog.info? 48).map (fun i => (i.zero, i.size, i.bytes)) = some (some (.agg #[.slice none 0 0, .bool false]), 2, 32) := by kernel_rfl
theorem undR : Tryz.prog.underlying 24 = some (.slice 48) := by kernel_rfl
theorem Spare.grow_own {E F : TypeId} {w w' : World} {base k n : Nat} {v : Value} {X : List Value} (ho : w.ownsRow base F k v n X) (hg : w.grownBy w' v.ownBlock) (hne : F ≠ E) : Spare E w w' := by
  rcases ho.2 with ⟨rfl, _⟩ | ⟨g, cap, cur, rfl, _, hh, _⟩
  · intro k cur e
    exact hg.block k (Array.getElem?_eq_some_iff.1 e).1 (by simp [Value.ownBlock])
  · exact Spare.grow hg hh hne
def CopyPost (t : Tbl) (w : World) (e : Ending) (w' : World) : Prop :=
  ∃ vc vr, e = .returned (.agg #[vc, .int .i64 t.head, .int .i64 t.foot, vr, .int .i64 t.gap]) ∧ OwnTbl w' w.heap.size w'.heap.size vc vr t ∧ Below w.heap.size w w'
set_option maxRecDepth 100000 in
set_option maxHeartbeats 4000000 in
theorem copied (t : Tbl) (A : Option Addr) (c : Nat) (A' : Option Addr) (c' : Nat) (w : World) (hc : Lies colE w (.slice A t.cols.length c) t.cols) (hr : Rd rowO w A' t.rows) (hs : SmallT t) :
    Calls Tryz.prog 138 #[.agg #[.slice A t.cols.length c, .int .i64 t.head, .int .i64 t.foot, .slice A' t.rows.length c', .int .i64 t.gap]] w (CopyPost t w) := by
  obtain ⟨hs1, hs2, hs3⟩ := hs
  have hCC := fun (W : World) (h : Below w.heap.size w W) => cloneCols _ t.cols W (hc.below h) hs1
  have l2 := hr.1
  clear hc hs3
  go_enter Tryz.func138, Tryz.ntmps138
  go_wp2_with fail
  obtain ⟨wb, hwb⟩ : ∃ W : World, W = (w.alloc (.cells #[.slice A t.cols.length c, .int .i64 t.head, .int .i64 t.foot, .slice A' t.rows.length c', .int .i64 t.gap] 26)).alloc (.cells #[.slice none 0 0, .int .i64 0, .int .i64 0, .slice none 0 0, .int .i64 0] 26) := ⟨_, rfl⟩
  rw [← hwb]
  have KB : Below w.heap.size w wb := hwb ▸ balloc (balloc (brefl w) _) _
  have b0 : wb.cell? ⟨w.heap.size, 0, none⟩ = some (.slice A t.cols.length c) := by rw [hwb]; simp
  have b1 : wb.cell? ⟨w.heap.size, 1, none⟩ = some (.int .i64 t.head) := by rw [hwb]; simp
  have b2 : wb.cell? ⟨w.heap.size, 2, none⟩ = some (.int .i64 t.foot) := by rw [hwb]; simp
  have b3 : wb.cell? ⟨w.heap.size, 3, none⟩ = some (.slice A' t.rows.length c') := by rw [hwb]; simp
  have b4 : wb.cell? ⟨w.heap.size, 4, none⟩ = some (.int .i64 t.gap) := by rw [hwb]; simp
  have bf : ∀ i, wb.frozen? ⟨w.heap.size, i, none⟩ = false := fun i => by rw [hwb]; simp
  have u0 : wb.cell? ⟨w.heap.size + 1, 0, none⟩ = some (.slice none 0 0) := by rw [hwb]; simp
  have u1 : wb.cell? ⟨w.heap.size + 1, 1, none⟩ = some (.int .i64 0) := by rw [hwb]; simp
  have u2 : wb.cell? ⟨w.heap.size + 1, 2, none⟩ = some (.int .i64 0) := by rw [hwb]; simp
  have u3 : wb.cell? ⟨w.heap.size + 1, 3, none⟩ = some (.slice none 0 0) := by rw [hwb]; simp
  have u4 : wb.cell? ⟨w.heap.size + 1, 4, none⟩ = some (.int .i64 0) := by rw [hwb]; simp
  have uf : ∀ i, wb.frozen? ⟨w.heap.size + 1, i, none⟩ = false := fun i => by rw [hwb]; simp
  have zb : wb.heap.size = w.heap.size + 2 := by rw [hwb]; simp
  have HG := hide (And.intro b0 (And.intro b1 (And.intro b2 (And.intro b3 (And.intro b4 bf)))))
  have HU := hide (And.intro u0 (And.intro u1 (And.intro u2 (And.intro u3 (And.intro u4 uf)))))
  have ZB := hide zb
  clear hwb zb b0 b1 b2 b3 b4 bf u0 u1 u2 u3 u4 uf
  go_loopg [3, 9] t.rows.length (fun gg s3 s9 wr => ∃ (kk : Nat) (vr : Value) (vs : List Value), kk ≤ t.rows.length ∧ t.rows.length - kk ≤ gg ∧ s9 = .int .i64 kk ∧ s3 = vr ∧ Aside (Below wb.heap.size wb wr) ∧ Aside (wr.ownsRow wb.heap.size 48 2 vr kk (rowCells vs (t.rows.take kk))) ∧ Aside (RowsOwn wr wb.heap.size wr.heap.size vs (t.rows.take kk)))
  case atStart => exact ⟨0, .slice none 0 0, [], Nat.zero_le _, by omega, rfl, rfl, brefl _, World.ownsRow_nil _ _ _ _, rfl, fun j h => absurd h (Nat.not_lt_zero _), List.Pairwise.nil⟩
  case round =>
    obtain ⟨kk, vr, vs, hkk, hg, rfl, rfl, BW, HO, HR⟩ := hrel
    obtain ⟨Ar, cr, rfl⟩ := own_form0 HO.out
    by_cases hlt : kk < t.rows.length
    · have hltz : (kk : Int) < (t.rows.length : Int) := by omega
      obtain ⟨b, o, d0, d1, rfl, hblt, ⟨v, hK, hL, hl5⟩, e0, e1⟩ := hr.at2 rfl (step KB BW.out) kk hlt
      simp only [List.cons.injEq, and_true] at hK
      obtain ⟨rfl, rfl⟩ := hK
      obtain ⟨Av, cv, rfl⟩ := hL.form
      have hC := fun (W : World) (h : Below wr.heap.size wr W) => cloneCells _ t.rows[kk].cs W (hL.below h) hl5
      clear hL hr
      go_wp2_with fail
      obtain ⟨wa, hwa⟩ : ∃ W : World, W = wr.alloc (.cells #[.slice Av t.rows[kk].cs.length cv, .bool t.rows[kk].wh] 48) := ⟨_, rfl⟩
      rw [← hwa]
      have KA : Below wr.heap.size wr wa := hwa ▸ balloc (brefl wr) _
      have k0 : wa.cell? ⟨wr.heap.size, 0, none⟩ = some (.slice Av t.rows[kk].cs.length cv) := by rw [hwa]; simp
      have k1 : wa.cell? ⟨wr.heap.size, 1, none⟩ = some (.bool t.rows[kk].wh) := by rw [hwa]; simp
      have HSS : Hid (∀ W : World, Below wa.heap.size wa W → W.cell? ⟨wr.heap.size, 0, none⟩ = some (.slice Av t.rows[kk].cs.length cv) ∧ W.cell? ⟨wr.heap.size, 1, none⟩ = some (.bool t.rows[kk].wh)) := fun W hB => ⟨keepW hB k0, keepW hB k1⟩
      have HKA := hide KA
      have ZA : Hid (wr.heap.size < wa.heap.size) := by show wr.heap.size < wa.heap.size; rw [hwa]; simp
      have HVR : Hid (∀ b, (Value.slice Ar kk cr).ownBlock = some b → b < wr.heap.size) := fun b hb => (own_lt HO.out hb).2
      clear hwa KA k0 k1 e0 e1
      obtain ⟨i0, hi, hz0, hz1, hz2⟩ := info_parts infoR
      go_region_held_law (fun W => W.cell? ⟨wr.heap.size, 0, none⟩ = some (.slice Av t.rows[kk].cs.length cv) ∧ W.cell? ⟨wr.heap.size, 1, none⟩ = some (.bool t.rows[kk].wh)) (first | with_reducible assumption | (refine HSS.out _ ?_; (repeat' (with_reducible first | exact brefl _ | refine bdrew ?_ | refine balloc ?_ _ | refine bset ?_ ?_ _ | refine step ?_ (by with_reducible assumption))) <;> first | (simp; done) | (simp; omega)))
        (first
          | (refine step_append_own _ rfl (.tmp 13) (.tmp 20) 24 rfl wb.heap.size 48 i0 _ 2 32 undR hi hz0 hz1 hz2 rfl (by decide) _ _ _ (by simp [Act.eval]) (own_below HO.out (balloc HB7.out _)) ⟨w7.heap.size, 0, none⟩ 1 1 [.slice A7 t.rows[kk].cs.length c7, .bool t.rows[kk].wh] (by simp [Act.eval]) rfl (news2 (cell_new _ _ _ _ _ _ rfl) (cell_new _ _ _ _ _ _ rfl)) (row_one _ _ _ _) (by unfold maxLen; omega) (by omega) (by have := HZ7.out; simp; omega) ?_; intro v8 w8 ho8 hg8 hn8; have hs8 := And.intro (far_keep hg8 HL7.out HVR.out (HSS.out _ HA7.out).1) (far_keep hg8 HL7.out HVR.out (HSS.out _ HA7.out).2))
          | (go_simp; go_at_call 162; refine (hC _ ?_).mono ?_; (first | exact HKA.out | exact bdrew HKA.out); rintro e w7 ⟨v7, rfl, ho7, hb7⟩; obtain ⟨A7, c7, rfl⟩ := own_form0 ho7; have HB7 := hide (step (bdrew HKA.out) hb7); have HZ7 := hide (Nat.le_trans BW.out.size HB7.out.size); have HA7 := hide (step (bdrew (brefl wa)) hb7); have HL7 := hide (Nat.lt_of_lt_of_le ZA.out HA7.out.size); simp only []))
      have HB7 := HB7.out
      have HOa := own_below HO.out (balloc HB7 (.cells #[.slice A7 t.rows[kk].cs.length c7, .bool t.rows[kk].wh] 48))
      have HSP : Hid (Spare 52 w7 w8) := (Spare.below (balloc (brefl w7) _)).trans (Spare.grow_own HOa hg8 (by decide))
      have HR8 : Hid (RowsOwn w8 wb.heap.size w8.heap.size (vs ++ [.slice A7 t.rows[kk].cs.length c7]) (t.rows.take (kk + 1))) := by
        rw [List.take_succ_eq_append_getElem hlt]
        have h1 := (HR.out.keep (fun b _ h => HB7.block b h)).spare HSP.out
        have h2 := own_spare (own_base ho7 (base' := wr.heap.size) (by simp; exact Nat.le_of_lt ZA.out)) HSP.out
        have h3 := Nat.le_trans HB7.size (Nat.le_trans (balloc (brefl w7) (.cells #[.slice A7 t.rows[kk].cs.length c7, .bool t.rows[kk].wh] 48)).size hg8.size)
        exact h1.snoc h2 BW.out.size h3 (Nat.le_refl _)
      have HO8 : Hid (w8.ownsRow wb.heap.size 48 2 v8 (kk + 1) (rowCells (vs ++ [.slice A7 t.rows[kk].cs.length c7]) (t.rows.take (kk + 1)))) := by
        rw [List.take_succ_eq_append_getElem hlt, rowCells_snoc _ _ _ _ HR.out.1]
        exact ho8
      have HB8 := hide (appB (step BW.out HB7) (own_below HO.out HB7) (Nat.le_refl _) hg8)
      clear hs8 ho8 hg8 hn8 ho7 HO HR HSS HOa HSP HL7 HA7 HZ7 HVR
      go_wp2_with fail
      go_roundg (t.rows.length - (kk + 1))
      case measure => omega
      case rel => exact ⟨kk + 1, v8, _, by omega, by omega, by go_num, rfl, HB8.out, HO8.out, HR8.out⟩
    · have hltz : ¬ (kk : Int) < (t.rows.length : Int) := by omega
      have hke : kk = t.rows.length := by omega
      subst hke
      have HRE : Hid (RowsAll wr wb.heap.size wr.heap.size (.slice Ar t.rows.length cr) vs t.rows) := by
        have h1 := HO.out
        have h2 := HR.out
        rw [List.take_length] at h1 h2
        exact ⟨Own.of h1 (Nat.le_refl _), h2⟩
      obtain ⟨b0, b1, b2, b3, b4, bf⟩ := HG.out
      obtain ⟨u0, u1, u2, u3, u4, uf⟩ := HU.out
      have b0 := keepW BW.out b0
      have b1 := keepW BW.out b1
      have b2 := keepW BW.out b2
      have b3 := keepW BW.out b3
      have b4 := keepW BW.out b4
      have zb := ZB.out
      have hbl : w.heap.size < wb.heap.size := by omega
      have hul : w.heap.size + 1 < wb.heap.size := by omega
      have bf : ∀ i, wr.frozen? ⟨w.heap.size, i, none⟩ = false := fun i => ((seenBk _ hbl BW.out).2.1 i).trans (bf i)
      have uf : ∀ i, wr.frozen? ⟨w.heap.size + 1, i, none⟩ = false := fun i => ((seenBk _ hul BW.out).2.1 i).trans (uf i)
      have u0 := keepW BW.out u0
      have u1 := keepW BW.out u1
      have u2 := keepW BW.out u2
      have u3 := keepW BW.out u3
      have u4 := keepW BW.out u4
      have HBW := hide (step KB BW.out)
      have hCC1 := hCC wr HBW.out
      have hsz := BW.out.size
      clear HO HR hr hCC zb
      go_wp2_with fail
      refine hCC1.mono ?_
      rintro e w1 ⟨vc, rfl, hoc, hb1⟩
      obtain ⟨Ac, cc, rfl⟩ := own_form0 hoc
      have b0 := keepW hb1 b0
      have b1 := keepW hb1 b1
      have b2 := keepW hb1 b2
      have b3 := keepW hb1 b3
      have b4 := keepW hb1 b4
      have hbl1 : w.heap.size < wr.heap.size := by omega
      have hul1 : w.heap.size + 1 < wr.heap.size := by omega
      have bf : ∀ i, w1.frozen? ⟨w.heap.size, i, none⟩ = false := fun i => ((seenBk _ hbl1 hb1).2.1 i).trans (bf i)
      have uf : ∀ i, w1.frozen? ⟨w.heap.size + 1, i, none⟩ = false := fun i => ((seenBk _ hul1 hb1).2.1 i).trans (uf i)
      have u0 := keepW hb1 u0
      have u1 := keepW hb1 u1
      have u2 := keepW hb1 u2
      have u3 := keepW hb1 u3
      have u4 := keepW hb1 u4
      have HRE1 : Hid (RowsAll w1 wb.heap.size w1.heap.size (.slice Ar t.rows.length cr) vs t.rows) := (HRE.out.keep (fun b _ h => hb1.block b h)).mono (Nat.le_refl _) hb1.size
      have HBW1 := hide (step HBW.out hb1)
      have HOC := hide hoc
      clear hoc hCC1
      go_wp2_with fail
      refine bodyPost_ret (v := .agg #[.slice Ac t.cols.length cc, .int .i64 t.head, .int .i64 t.foot, .slice Ar t.rows.length cr, .int .i64 t.gap]) (by simp [results, Tryz.results138, go_sem, *]) rfl ?_
      have zb := ZB.out
      have hkeep : ∀ W : World, (∀ b, wb.heap.size ≤ b → W.heap[b]? = w1.heap[b]?) → W.heap.size = w1.heap.size → Below w.heap.size w W → CopyPost t w (.returned (.agg #[.slice Ac t.cols.length cc, .int .i64 t.head, .int .i64 t.foot, .slice Ar t.rows.length cr, .int .i64 t.gap])) W := fun W h1 h2 h3 => by
        refine ⟨_, _, rfl, ⟨?_, vs, ?_⟩, h3⟩
        · rw [h2]
          exact ((Own.of HOC.out (Nat.le_refl _)).keep (fun b hb _ => h1 b (by omega))).mono (by omega) (Nat.le_refl _)
        · rw [h2]
          exact (HRE1.out.keep (fun b hb _ => h1 b hb)).mono (by omega) (Nat.le_refl _)
      refine hkeep _ (fun b hb => ?_) (by simp) ?_
      · (repeat' (with_reducible refine (heap_set _ _ _ _ ?_).trans ?_)) <;> first | rfl | (show b ≠ w.heap.size; omega) | (show b ≠ w.heap.size + 1; omega)
      · have h := HBW1.out
        (repeat' (with_reducible first | exact h | refine bset ?_ ?_ _)) <;> first | (simp; done) | (simp; omega)
end Go.Proofs.YtpfagdmmhgcmnaaGreatDoor

namespace Go.Proofs.YtpfagdmmhgcmnaaGreatDoor
open Go.RowKit
/- Regions that draw their order and end with a store into a cell that they load: S need not hold behind that last operation. -/
section
variable {P : Program} {ops : Array Oper} {Q : Exit → Act → World → Prop} {md : Region.Mode} {S : World → Prop} {L : Nat}
/-- Whatever order is picked from here on, and S holds behind every operation but the last. -/
def wpAnyT (P : Program) (md : Region.Mode) (ops : Array Oper) (Q : Exit → Act → World → Prop) (S : World → Prop) (L : Nat) : Nat → Array Bool → Act → World → Prop
  | 0, listed, a, w => Region.ready md ops listed = [] ∧ Q .normal a w
  | fuel + 1, listed, a, w =>
    (Region.ready md ops listed = [] → Q .normal a w) ∧
    ∀ i ∈ Region.ready md ops listed, wpOp P ops Q i (fun a' w' => (i ≠ L → S w') ∧ wpAnyT P md ops Q S L fuel (listed.setIfInBounds i true) a' w') a w
theorem wpAny_of_T : ∀ (fuel : Nat) (listed : Array Bool) (a : Act) (w : World), wpAnyT P md ops Q S L fuel listed a w → wpAny P md ops Q fuel listed a w
  | 0, _, _, _, h => h
  | fuel + 1, _, _, _, h => ⟨h.1, fun i hi => wpOp_mono (fun a' w' h' => wpAny_of_T fuel _ a' w' h'.2) (h.2 i hi)⟩
/-- Number L waits for number i. -/
def waitsOn (md : Region.Mode) (ops : Array Oper) (L i : Nat) : Bool := match ops[L]? with
  | some o => o.after.any fun e => Region.binds md e && e.on == i
  | none => false
theorem waitsOn_spec {i : Nat} (h : waitsOn md ops L i = true) : ∃ oL, ops[L]? = some oL ∧ ∃ e ∈ oL.after, Region.binds md e = true ∧ e.on = i := by
  unfold waitsOn at h
  split at h
  · rename_i o ho
    rw [Array.any_eq_true'] at h
    obtain ⟨e, he, h⟩ := h
    simp only [Bool.and_eq_true, beq_iff_eq] at h
    exact ⟨o, ho, e, he, h.1, h.2⟩
  · cases h
/-- Each waits for the one ahead of it. -/
def chainW (md : Region.Mode) (ops : Array Oper) : Nat → List Nat → Bool
  | _, [] => true
  | p, q :: r => waitsOn md ops q p && chainW md ops q r
theorem not_ready {listed : Array Bool} {j p : Nat} (hj : j ∈ Region.ready md ops listed) (hw : waitsOn md ops j p = true) (hp : listed.getD p true = false) : False := by
  obtain ⟨oj, hoj, e, he, hb, heq⟩ := waitsOn_spec hw
  obtain ⟨_, oj', hoj', hall⟩ := mem_ready.1 hj
  rw [hoj] at hoj'
  injection hoj' with e'
  subst e'
  have h1 := hall e he hb
  rw [heq] at h1
  rcases Nat.lt_or_ge p listed.size with h' | h'
  · simp [h'] at hp h1; rw [hp] at h1; cases h1
  · simp [Array.getElem?_eq_none h'] at h1
theorem not_in_chain {listed : Array Bool} {j : Nat} (hj : j ∈ Region.ready md ops listed) : ∀ (p : Nat) (r : List Nat), chainW md ops p r = true → listed.getD p true = false → (∀ q ∈ r, listed.getD q true = false) → j ∉ r
  | _, [], _, _, _ => by simp
  | p, q :: r, h, hp, hr => by
    unfold chainW at h
    rw [Bool.and_eq_true] at h
    intro hm
    rcases List.mem_cons.1 hm with rfl | hm
    · exact not_ready hj h.1 hp
    · exact not_in_chain hj q r h.2 (hr q (List.mem_cons_self ..)) (fun x hx => hr x (List.mem_cons_of_mem _ hx)) hm
theorem wpAnyT_first {i : Nat} {oi : Oper} {v : Value} {path : List Nat} (hi : ops[i]? = some oi) (hch : chainW md ops i path = true) (hLp : L ∈ path) (hsel : ∀ (j : Nat) (o : Oper) cs b, ops[j]? = some o → o.op ≠ .select cs b)
    (hQ : ∀ c a w, Q (.panic c) (a.put oi.dst v) w → Q (.panic c) a w) :
    ∀ (fuel : Nat) (listed : Array Bool) (a : Act) (w : World),
      (∀ j oj, ops[j]? = some oj → j ≠ i → listed.getD j true = false → (∀ e ∈ oj.after, Region.binds md e = true → e.on ≠ i) → oi.apart ops oj = true) →
      i ∈ Region.ready md ops listed → (∀ q ∈ path, listed.getD q true = false) → YieldsIf P ops S oi v a → S w →
      wpAnyT P md ops Q S L fuel (listed.setIfInBounds i true) (a.put oi.dst v) w → wpAnyT P md ops Q S L (fuel + 1) listed a w := by
  intro fuel
  induction fuel with
  | zero =>
    intro listed a w _ hr _ hy hS H
    refine ⟨fun h => (by rw [h] at hr; cases hr), fun j hj => ?_⟩
    by_cases hji : j = i
    · subst hji; exact hy.wpOp hi hS ⟨fun _ => hS, H⟩
    · have := ready_mono hj hji
      rw [H.1] at this
      cases this
  | succ fuel ih =>
    intro listed a w hfree hr hpa hy hS H
    refine ⟨fun h => (by rw [h] at hr; cases hr), fun j hj => ?_⟩
    by_cases hji : j = i
    · subst hji; exact hy.wpOp hi hS ⟨fun _ => hS, H⟩
    · have h1 := H.2 j (ready_mono hj hji)
      obtain ⟨hjun, oj, hoj, hall⟩ := mem_ready.1 hj
      have hnot : ∀ e ∈ oj.after, Region.binds md e = true → e.on ≠ i := fun e he hb heq => by
        have h1 := hall e he hb
        have h0 := (mem_ready.1 hr).1
        rw [heq] at h1
        rcases Nat.lt_or_ge i listed.size with h' | h'
        · simp [h'] at h0 h1; rw [h0] at h1; cases h1
        · simp [Array.getElem?_eq_none h'] at h1
      have hjp : j ∉ path := not_in_chain hj i path hch (mem_ready.1 hr).1 hpa
      have hjL : j ≠ L := fun e => hjp (e ▸ hLp)
      have hpa' : ∀ q ∈ path, (listed.setIfInBounds j true).getD q true = false := fun q hq => by
        have hne : j ≠ q := by rintro rfl; exact hjp hq
        rw [getD_set_ne true hne]; exact hpa q hq
      have h2 := wpOp_putIf hoj (hfree j oj hoj hji hjun hnot) (fun cs b => hsel i oi cs b hi) (fun cs b => hsel j oj cs b hoj) hQ hy h1
      have hfree' : ∀ k ok, ops[k]? = some ok → k ≠ i → (listed.setIfInBounds j true).getD k true = false →
          (∀ e ∈ ok.after, Region.binds md e = true → e.on ≠ i) → oi.apart ops ok = true := fun k ok hk hki hun hno => by
        refine hfree k ok hk hki ?_ hno
        by_cases hjk : j = k
        · subst hjk; exact hjun
        · rw [getD_set_ne true hjk] at hun; exact hun
      refine wpOp_mono (fun a' w' h3 => ⟨fun _ => h3.2.1 hjL, ih (listed.setIfInBounds j true) a' w' hfree' (ready_mono hr (Ne.symm hji)) hpa' h3.1 (h3.2.1 hjL) ?_⟩) h2
      rw [Array.setIfInBounds_comm _ _ hji]
      exact h3.2.2
theorem wpAnyT_take {i : Nat} {oi : Oper} {v : Value} {fuel : Nat} {listed : Array Bool} {a : Act} {w : World} (path : List Nat) (hi : ops[i]? = some oi)
    (hs : Region.noSelect ops = true) (hf : Region.free md ops listed i = true) (hr : (Region.ready md ops listed).contains i = true) (hch : chainW md ops i path = true) (hLp : path.contains L = true) (hpa : (path.all fun q => !listed.getD q true) = true)
    (hQ : ∀ c a w, Q (.panic c) (a.put oi.dst v) w → Q (.panic c) a w) (hy : YieldsIf P ops S oi v a) (hS : S w)
    (h : wpAnyT P md ops Q S L fuel (listed.setIfInBounds i true) (a.put oi.dst v) w) : wpAnyT P md ops Q S L (fuel + 1) listed a w :=
  wpAnyT_first (path := path) hi hch (by simpa using hLp) (Region.noSelect_spec hs) hQ fuel listed a w (Region.free_spec hi hf) (by simpa using hr) (fun q hq => by have := List.all_eq_true.1 hpa q hq; simpa using this) hy hS h
theorem wpAnyT_done {listed : Array Bool} {a : Act} {w : World} (hr : Region.ready md ops listed = []) (h : Q .normal a w) :
    ∀ fuel, wpAnyT P md ops Q S L fuel listed a w
  | 0 => ⟨hr, h⟩
  | _ + 1 => ⟨fun _ => h, by rw [hr]; simp⟩
/-- One operation alone may come up. -/
theorem wpAnyT_one {i : Nat} {o : Oper} {fuel : Nat} {listed : Array Bool} {a : Act} {w : World} (hr : Region.ready md ops listed = [i]) (ho : ops[i]? = some o)
    (h : ∀ K' : Act → World → Prop, Shut (∀ a w, (i ≠ L → S w) → wpAnyT P md ops Q S L fuel (listed.setIfInBounds i true) a w → K' a w) → if Region.wanted o (yielded ops a.tmps) = true then Oper.wp P o a w K' Q else K' (a.put o.dst undef) w) :
    wpAnyT P md ops Q S L (fuel + 1) listed a w := by
  refine And.intro (fun h0 => absurd (hr.symm.trans h0) (List.cons_ne_nil _ _)) ?_
  intro j hj
  rw [hr, List.mem_singleton] at hj
  subst hj
  exact wpOp_step ho (fun K' hK => h K' (fun a w h1 h2 => hK a w ⟨h1, h2⟩))
theorem wp_region_T {id : Nat} {a : Act} {w : World} (hm : P.follows .mixedOrders = true)
    (h : wpAnyT P .any ops Q S L ops.size (Array.replicate ops.size false) a w.drew) : (Code.region id ops true).wp P Q a w := wp_region_any hm (wpAny_of_T _ _ _ _ h)
end
end Go.Proofs.YtpfagdmmhgcmnaaGreatDoor
