import Derived.Test.YtfcogogpioeggaaDoorLc
namespace Go.Proofs.YtfcogogpioeggaaDoor
open Go.RowKit
/- The program's EdtRow. -/
/-- Each row's cells are of one's own. -/
def AllOwn (w : World) (lo hi : Nat) (vs : List Value) (rows : List TRow) : Prop :=
  vs.length = rows.length ∧ ∀ (j : Nat) (h : j < vs.length) (h' : j < rows.length), Own w lo hi 65 11 vs[j] rows[j].cs.length (rows[j].cs.flatMap cellE)
theorem AllOwn.mono {w : World} {lo hi lo' hi' : Nat} {vs : List Value} {rows : List TRow} (h : AllOwn w lo hi vs rows) (hl : lo' ≤ lo) (hh : hi ≤ hi') : AllOwn w lo' hi' vs rows := ⟨h.1, fun j a b => (h.2 j a b).mono hl hh⟩
theorem AllOwn.append {w : World} {lo hi : Nat} {vs vs' : List Value} {rows rows' : List TRow} (h : AllOwn w lo hi vs rows) (h' : AllOwn w lo hi vs' rows') : AllOwn w lo hi (vs ++ vs') (rows ++ rows') := by
  refine ⟨by simp [h.1, h'.1], fun j a b => ?_⟩
  have hl := h.1
  rcases Nat.lt_or_ge j vs.length with hj | hj
  · rw [List.getElem_append_left hj, List.getElem_append_left (by omega)]
    exact h.2 j hj (by omega)
  · have a' : j - vs.length < vs'.length := by simp at a; omega
    have e1 : (vs ++ vs')[j] = vs'[j - vs.length] := List.getElem_append_right hj
    have e2 : (rows ++ rows')[j] = rows'[j - vs.length]'(by rw [← h'.1]; exact a') := by
      rw [List.getElem_append_right (by omega)]
      congr 1; omega
    rw [e1, e2]
    exact h'.2 _ a' _
theorem AllOwn.take {w : World} {lo hi : Nat} {vs : List Value} {rows : List TRow} (h : AllOwn w lo hi vs rows) (j : Nat) : AllOwn w lo hi (vs.take j) (rows.take j) := by
  refine ⟨by simp [h.1], fun k a b => ?_⟩
  rw [List.getElem_take, List.getElem_take]
  exact h.2 k _ _
theorem AllOwn.drop {w : World} {lo hi : Nat} {vs : List Value} {rows : List TRow} (h : AllOwn w lo hi vs rows) (j : Nat) : AllOwn w lo hi (vs.drop j) (rows.drop j) := by
  refine ⟨by simp [h.1], fun k a b => ?_⟩
  rw [List.getElem_drop, List.getElem_drop]
  exact h.2 _ _ _
theorem AllOwn.nilRow (w : World) (lo hi : Nat) (b : Bool) : AllOwn w lo hi [Value.slice none 0 0] [⟨[], b⟩] := by
  refine ⟨rfl, fun j h _ => ?_⟩
  obtain rfl : j = 0 := by simp at h; omega
  exact .inl ⟨rfl, rfl, none, 0, rfl⟩
theorem AllOwn.keep {w w' : World} {lo hi : Nat} {vs : List Value} {rows : List TRow} (h : AllOwn w lo hi vs rows) (hk : ∀ b, lo ≤ b → b < hi → w'.heap[b]? = w.heap[b]?) : AllOwn w' lo hi vs rows :=
  ⟨h.1, fun j h1 h2 => (h.2 j h1 h2).keep hk⟩
theorem AllOwn.spare {w w' : World} {lo hi : Nat} {vs : List Value} {rows : List TRow} (h : AllOwn w lo hi vs rows) (hs : Spare 65 w w') : AllOwn w' lo hi vs rows :=
  ⟨h.1, fun j h1 h2 => (h.2 j h1 h2).spare hs⟩
theorem far_nil (u : Value) : Far u (.slice none 0 0) := fun _ _ _ _ _ _ _ e => by injection e with e; cases e
theorem far_ins {vs vs' : List Value} (h : (vs ++ vs').Pairwise Far) : (vs ++ [Value.slice none 0 0] ++ vs').Pairwise Far := by
  rw [List.pairwise_append] at h
  obtain ⟨h1, h2, h3⟩ := h
  rw [List.append_assoc, List.pairwise_append, List.pairwise_append]
  refine ⟨h1, ⟨List.pairwise_singleton _ _, h2, fun a ha b hb => ?_⟩, fun a ha b hb => ?_⟩
  · rw [List.mem_singleton.1 ha]
    exact (far_nil b).symm
  · rcases List.mem_append.1 hb with hb | hb
    · rw [List.mem_singleton.1 hb]; exact far_nil a
    · exact h3 a ha b hb
theorem rowCells_append (a b : List Value) (c d : List TRow) (h : a.length = c.length) : rowCells (a ++ b) (c ++ d) = rowCells a c ++ rowCells b d := by
  unfold rowCells
  rw [List.zip_append h, List.flatMap_append]
theorem rowCells_take (vs : List Value) (rows : List TRow) (j : Nat) : rowCells (vs.take j) (rows.take j) = (rowCells vs rows).take (j * 2) := by
  unfold rowCells
  rw [flat_take (fun p : Value × TRow => [p.1, .bool p.2.wh]) 2 (fun _ => rfl)]
  congr 1
  simp only [List.zip, List.take_zipWith]
theorem rowCells_drop (vs : List Value) (rows : List TRow) (j : Nat) : rowCells (vs.drop j) (rows.drop j) = (rowCells vs rows).drop (j * 2) := by
  unfold rowCells
  rw [flat_drop (fun p : Value × TRow => [p.1, .bool p.2.wh]) 2 (fun _ => rfl)]
  congr 1
  simp only [List.zip, List.drop_zipWith]
theorem rowCells_ins (vs : List Value) (rows : List TRow) (j : Nat) (h : vs.length = rows.length) : rowCells (vs.take j ++ [Value.slice none 0 0] ++ vs.drop j) (rows.take j ++ [TRow.mk [] false] ++ rows.drop j) = (rowCells vs rows).take (j * 2) ++ [.slice none 0 0, .bool false] ++ (rowCells vs rows).drop (j * 2) := by
  rw [rowCells_append _ _ _ _ (by simp [h]), rowCells_append _ _ _ _ (by simp [h]), rowCells_take, rowCells_drop]
  rfl
theorem rowCells_one (vs : List Value) : ∀ (rows : List TRow), (∀ v ∈ vs, ∃ A n c, v = .slice A n c) → ∀ u ∈ rowCells vs rows, u.oneCell' = true := by
  intro rows h u hu
  unfold rowCells at hu
  obtain ⟨p, hp, hu⟩ := List.mem_flatMap.1 hu
  obtain ⟨A, n, c, e⟩ := h p.1 (List.of_mem_zip hp).1
  simp only [List.mem_cons, List.not_mem_nil, or_false] at hu
  rcases hu with rfl | rfl
  · rw [e]; rfl
  · rfl
theorem RowsOwn.slices {w : World} {lo hi : Nat} {vs : List Value} {rows : List TRow} (h : RowsOwn w lo hi vs rows) : ∀ v ∈ vs, ∃ A n c, v = .slice A n c := by
  intro v hv
  obtain ⟨i, hi, rfl⟩ := List.getElem_of_mem hv
  obtain ⟨A, c, e⟩ := (h.2.1 i hi (by rw [← h.1]; exact hi)).form
  exact ⟨A, _, c, e⟩
/-- What insert asks of the rows of a table. -/
theorem RowsAll.row_own {w : World} {lo hi : Nat} {v : Value} {vs : List Value} {rows : List TRow} (h : RowsAll w lo hi v vs rows) (hpos : 0 < rows.length) : w.ownsRow lo 84 2 v rows.length (rowCells vs rows) := by
  rcases h.1 with ⟨h0, _⟩ | ⟨_, g, c, rfl, _, _, h3⟩
  · omega
  · exact h3
theorem row_edit (t : Tbl) (B1 : Nat) (at' : Int) (w : World) (hok : tblOk t = true) (b1 : w.cell? ⟨B1, 0, none⟩ = some (.int .i64 at'))
    (w1 w2 : World) (Ac : Option Addr) (cc : Nat) (Ar : Option Addr) (cr : Nat) (hcp : Copied t w w1 w2 Ac cc Ar cr) :
    Calls Tryd.prog 68 (#[.pointer (some ⟨w2.heap.size, 0, none⟩)] ++ #[.pointer (some ⟨B1, 0, none⟩)]) (w2.alloc (.cells #[.slice Ac t.cols.length cc, .int .i64 t.head, .int .i64 t.foot, .slice Ar t.rows.length cr, .int .i64 t.gap] 33)) (EdPost (edtRow t at') w1.heap.size w2.heap.size (w2.alloc (.cells #[.slice Ac t.cols.length cc, .int .i64 t.head, .int .i64 t.foot, .slice Ar t.rows.length cr, .int .i64 t.gap] 33))) := by
  have hcp' := hcp
  obtain ⟨hown, hB, hs1, hs2⟩ := hcp
  have hBX := balloc hB (.cells #[.slice Ac t.cols.length cc, .int .i64 t.head, .int .i64 t.foot, .slice Ar t.rows.length cr, .int .i64 t.gap] 33)
  have hlb : B1 < w.heap.size := World.block_lt_of_cell? w _ b1
  have b1 := keepW hBX b1
  have x1 : (w2.alloc (.cells #[.slice Ac t.cols.length cc, .int .i64 t.head, .int .i64 t.foot, .slice Ar t.rows.length cr, .int .i64 t.gap] 33)).cell? ⟨w2.heap.size, 1, none⟩ = some (.int .i64 t.head) := by simp
  have x2 : (w2.alloc (.cells #[.slice Ac t.cols.length cc, .int .i64 t.head, .int .i64 t.foot, .slice Ar t.rows.length cr, .int .i64 t.gap] 33)).cell? ⟨w2.heap.size, 2, none⟩ = some (.int .i64 t.foot) := by simp
  have x3 : (w2.alloc (.cells #[.slice Ac t.cols.length cc, .int .i64 t.head, .int .i64 t.foot, .slice Ar t.rows.length cr, .int .i64 t.gap] 33)).cell? ⟨w2.heap.size, 3, none⟩ = some (.slice Ar t.rows.length cr) := by simp
  have xf : (w2.alloc (.cells #[.slice Ac t.cols.length cc, .int .i64 t.head, .int .i64 t.foot, .slice Ar t.rows.length cr, .int .i64 t.gap] 33)).frozen? ⟨w2.heap.size, 3, none⟩ = false := by simp
  obtain ⟨e1, e2, e3, e4, e5⟩ := ok_ends hok
  have hpos : 0 < t.rows.length := by
    simp only [tblOk, inB, Bool.and_eq_true, decide_eq_true_eq] at hok
    omega
  cases h1 : inB at' t.head ((t.rows.length : Int) - t.foot) with
  | false =>
    rw [row_false hok (.inl h1)]
    refine (row_no1 w2.heap.size B1 _ cr Ar _ _ at' _ x1 x2 x3 b1 e5 e3 (by omega) h1).mono ?_
    rintro e w' ⟨rfl, rfl⟩
    exact ed_same hcp' rfl (bdrew (brefl _))
  | true =>
    by_cases h8 : t.rows.length = 8
    · rw [row_false hok (.inr h8)]
      refine (row_no2 w2.heap.size B1 _ cr Ar _ _ at' _ x1 x2 x3 b1 e5 e3 (by omega) h1 h8).mono ?_
      rintro e w' ⟨rfl, rfl⟩
      exact ed_same hcp' rfl (bdrew (brefl _))
    · have h1' := h1
      simp only [inB, Bool.and_eq_true, decide_eq_true_eq] at h1'
      obtain ⟨j, rfl⟩ := Int.eq_ofNat_of_zero_le (show (0 : Int) ≤ at' by omega)
      have hj : j ≤ t.rows.length := by omega
      rw [row_true hok h1 h8]
      obtain ⟨hcol, vs, hra⟩ := hown
      have hrow := hra.row_own hpos
      have hlt : ∀ b, (Value.slice Ar t.rows.length cr).ownBlock = some b → w1.heap.size ≤ b ∧ b < w2.heap.size := fun b hb => own_lt hrow hb
      refine (row_yes w2.heap.size B1 _ cr j w1.heap.size Ar _ _ (rowCells vs t.rows) _ x1 x2 x3 xf b1 e5 e3 (by omega) h1 h8 hj (own_alloc hrow _) (rowCells_one _ _ hra.2.slices) (by simp; omega) (fun b hb => by have := hlt b hb; omega) (fun b hb => by have := hlt b hb; omega)).mono ?_
      rintro e w' ⟨v', w7, ⟨rfl, rfl⟩, ho7, hg7⟩
      have hsz : w2.heap.size + 2 ≤ w7.heap.size := by have := hg7.size; simpa using this
      have hk : ∀ b, b < w2.heap.size + 1 → (∀ g, (Value.slice Ar t.rows.length cr).ownBlock = some g → b ≠ g) → w7.heap[b]? = (w2.alloc (.cells #[.slice Ac t.cols.length cc, .int .i64 t.head, .int .i64 t.foot, .slice Ar t.rows.length cr, .int .i64 t.gap] 33)).heap[b]? := fun b hb hne =>
        (hg7.block b (by simp; omega) (fun e => hne b e.symm rfl)).trans (heap_alloc_old _ _ (by simp; omega))
      have hsp : ∀ E, 84 ≠ E → Spare E (w2.alloc (.cells #[.slice Ac t.cols.length cc, .int .i64 t.head, .int .i64 t.foot, .slice Ar t.rows.length cr, .int .i64 t.gap] 33)) w7 := fun E hE => (Spare.below (balloc (brefl _) _)).trans (Spare.grow_own (own_alloc (own_alloc hrow _) _) hg7 hE)
      have hX : ∀ b, w1.heap.size ≤ b → b < w2.heap.size → (w2.alloc (.cells #[.slice Ac t.cols.length cc, .int .i64 t.head, .int .i64 t.foot, .slice Ar t.rows.length cr, .int .i64 t.gap] 33)).heap[b]? = w2.heap[b]? := fun b _ h => heap_alloc_old _ _ h
      have hset : ∀ (v : Value) b, w1.heap.size ≤ b → b < w2.heap.size → (w7.setCell ⟨w2.heap.size, 3, none⟩ v).heap[b]? = w7.heap[b]? := fun v b _ h => heap_set _ _ _ _ (show b ≠ w2.heap.size by omega)
      obtain ⟨A7, c7, rfl⟩ := own_form0 ho7
      have hC : Own (w7.setCell ⟨w2.heap.size, 3, none⟩ (.slice A7 (t.rows.length + 1) c7)) w1.heap.size w7.heap.size 28 2 (.slice Ac t.cols.length cc) t.cols.length (t.cols.flatMap colE) :=
        (((hcol.keep hX).spare (hsp _ (by decide))).keep (hset _)).mono (Nat.le_refl _) (by omega)
      have hA0 : AllOwn w2 w1.heap.size w2.heap.size vs t.rows := ⟨hra.2.1, hra.2.2.1⟩
      have hA : AllOwn (w7.setCell ⟨w2.heap.size, 3, none⟩ (.slice A7 (t.rows.length + 1) c7)) w1.heap.size w7.heap.size vs t.rows :=
        (((hA0.keep hX).spare (hsp _ (by decide))).keep (hset _)).mono (Nat.le_refl _) (by omega)
      have hI := ((hA.take j).append (AllOwn.nilRow _ _ _ false)).append (hA.drop j)
      have hP : (vs.take j ++ [Value.slice none 0 0] ++ vs.drop j).Pairwise Far := far_ins (by rw [List.take_append_drop]; exact hra.2.2.2)
      have hlen : (t.rows.take j ++ [TRow.mk [] false] ++ t.rows.drop j).length = t.rows.length + 1 := by simp; omega
      have hR : (w7.setCell ⟨w2.heap.size, 3, none⟩ (.slice A7 (t.rows.length + 1) c7)).ownsRow w1.heap.size 84 2 (.slice A7 (t.rows.length + 1) c7) (t.rows.take j ++ [TRow.mk [] false] ++ t.rows.drop j).length (rowCells (vs.take j ++ [Value.slice none 0 0] ++ vs.drop j) (t.rows.take j ++ [TRow.mk [] false] ++ t.rows.drop j)) := by
        rw [rowCells_ins _ _ _ hra.2.1, hlen]
        refine own_keep ho7 (fun b hb => heap_set _ _ _ _ (fun e => ?_))
        have e' : b = w2.heap.size := e
        subst e'
        obtain ⟨cur, hcur⟩ : ∃ cur, w7.heap[w2.heap.size]? = some (.cells cur 84 (0, 0)) := by
          rcases ho7.2 with ⟨e, _⟩ | ⟨g', cap, cur, e, _, hh, _⟩
          · rw [e] at hb; cases hb
          · rw [e] at hb
            have : g' = w2.heap.size := by simpa [Value.ownBlock] using hb
            subst this; exact ⟨cur, hh⟩
        have := (hk w2.heap.size (by omega) (fun g hg => by have := hlt g hg; omega)).trans (heap_alloc_new w2 _)
        rw [hcur] at this
        injection this with this; injection this with _ this; exact absurd this (by decide)
      refine ⟨rfl, _, _, ⟨hC.mono (Nat.le_refl _) (by simp), _, (Own.of hR (by simp)).mono (Nat.le_refl _) (Nat.le_refl _), ⟨hI.1, fun a b c => (hI.2 a b c).mono (Nat.le_refl _) (by simp), hP⟩⟩, ?_, ?_⟩
      · have hkx := hk w2.heap.size (by omega) (fun g hg => by have := hlt g hg; omega)
        have y := (W5.new w2 (.slice Ac t.cols.length cc) (.int .i64 t.head) (.int .i64 t.foot) (.slice Ar t.rows.length cr) (.int .i64 t.gap) 33).block hkx
        exact ⟨setO4 y.1 (by simp), setO4 y.2.1 (by simp), setO4 y.2.2.1 (by simp), setS4 y.2.2.2.1, setO4 y.2.2.2.2 (by simp)⟩
      · exact ⟨hg7.os, hg7.tape, hg7.output, by simp; omega, fun k hk1 => (heap_set _ _ _ _ (show k ≠ w2.heap.size by omega)).trans (hk k (by omega) (fun g hg => by have := hlt g hg; omega))⟩
end Go.Proofs.YtfcogogpioeggaaDoor
