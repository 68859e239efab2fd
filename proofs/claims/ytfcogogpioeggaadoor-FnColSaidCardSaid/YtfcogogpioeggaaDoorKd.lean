import Derived.Test.YtfcogogpioeggaaDoorKc
namespace Go.Proofs.YtfcogogpioeggaaDoor
open Go.RowKit
/- The statements' own helpers: marking rows and tables that a call has handed out. -/
/-- Nothing but blocks from lo to hi, and new ones. -/
structure Within (lo hi : Nat) (w w' : World) : Prop where
  os : w'.os = w.os
  tape : w'.tape = w.tape
  output : w'.output = w.output
  size : w.heap.size ≤ w'.heap.size
  block : ∀ k, k < w.heap.size → (k < lo ∨ hi ≤ k) → w'.heap[k]? = w.heap[k]?
theorem Within.refl (lo hi : Nat) (w : World) : Within lo hi w w := ⟨rfl, rfl, rfl, Nat.le_refl _, fun _ _ _ => rfl⟩
theorem Within.trans {lo hi : Nat} {w w1 w2 : World} (h : Within lo hi w w1) (h' : Within lo hi w1 w2) : Within lo hi w w2 :=
  ⟨h'.os.trans h.os, h'.tape.trans h.tape, h'.output.trans h.output, Nat.le_trans h.size h'.size, fun k hk hne => (h'.block k (Nat.lt_of_lt_of_le hk h.size) hne).trans (h.block k hk hne)⟩
theorem Within.grow {lo hi g : Nat} {w w' : World} (h : w.grownBy w' (some g)) (h1 : lo ≤ g) (h2 : g < hi) : Within lo hi w w' :=
  ⟨h.os, h.tape, h.output, h.size, fun k hk hne => h.block k hk (fun e => by injection e with e; omega)⟩
theorem Within.below {lo hi : Nat} {w w' : World} (h : Below w.heap.size w w') : Within lo hi w w' := ⟨h.os, h.tape, h.output, h.size, fun k hk _ => h.block k hk⟩
theorem Within.set {lo hi : Nat} (w : World) {a : Addr} (h1 : lo ≤ a.block) (h2 : a.block < hi) (u : Value) : Within lo hi w (w.setCell a u) := Within.grow (grow_set w rfl u) h1 h2

/-- Blocks of one type are as they were. -/
def Spare (E : TypeId) (w w' : World) : Prop := ∀ (k : Nat) (cur : Array Value), w.heap[k]? = some (.cells cur E (0, 0)) → w'.heap[k]? = w.heap[k]?
theorem Spare.refl (E : TypeId) (w : World) : Spare E w w := fun _ _ _ => rfl
theorem Spare.trans {E : TypeId} {w w1 w2 : World} (h : Spare E w w1) (h' : Spare E w1 w2) : Spare E w w2 := fun k cur e => by
  have h1 := h k cur e
  exact (h' k cur (h1.trans e)).trans h1
theorem Spare.grow {E F : TypeId} {w w' : World} {g : Nat} (hg : w.grownBy w' (some g)) {cur : Array Value} (ht : w.heap[g]? = some (.cells cur F (0, 0))) (hne : F ≠ E) : Spare E w w' := fun k c e =>
  hg.block k (Array.getElem?_eq_some_iff.1 e).1 (fun e2 => by
    injection e2 with e2
    subst e2
    rw [ht] at e; injection e with e; injection e with _ e; exact hne e)
theorem Spare.below {E : TypeId} {w w' : World} (h : Below w.heap.size w w') : Spare E w w' := fun k _ e => h.block k (Array.getElem?_eq_some_iff.1 e).1
theorem own_type {w : World} {lo : Nat} {E : TypeId} {k n n' g c : Nat} {X : List Value} (h : w.ownsRow lo E k (.slice (some ⟨g, 0, none⟩) n c) n' X) : ∃ cur, w.heap[g]? = some (.cells cur E (0, 0)) := by
  rcases h.2 with ⟨e, _⟩ | ⟨g', cap, cur, e, _, hh, _⟩
  · cases e
  · injection e with e1; injection e1 with e1; injection e1 with e1; subst e1; exact ⟨cur, hh⟩
theorem Own.spare {w w' : World} {lo hi : Nat} {E : TypeId} {k : Nat} {v : Value} {n : Nat} {xs : List Value} (h : Own w lo hi E k v n xs) (hs : Spare E w w') : Own w' lo hi E k v n xs := by
  rcases h with h | ⟨hn, g, c, rfl, h1, h2, h3⟩
  · exact .inl h
  · obtain ⟨cur, hcur⟩ := own_type h3
    exact .inr ⟨hn, g, c, rfl, h1, h2, own_keep h3 fun b e => by
      have : g = b := by simpa [Value.ownBlock] using e
      subst this; exact hs g cur hcur⟩

def Far (u v : Value) : Prop := ∀ g n c g' n' c', u = .slice (some ⟨g, 0, none⟩) n c → v = .slice (some ⟨g', 0, none⟩) n' c' → 0 < n → 0 < n' → g ≠ g'
def RowsOwn (w : World) (lo hi : Nat) (vs : List Value) (rows : List TRow) : Prop :=
  vs.length = rows.length ∧ (∀ (j : Nat) (h : j < vs.length) (h' : j < rows.length), Own w lo hi 65 11 vs[j] rows[j].cs.length (rows[j].cs.flatMap cellE)) ∧ vs.Pairwise Far
theorem RowsOwn.keep {w w' : World} {lo hi : Nat} {vs : List Value} {rows : List TRow} (h : RowsOwn w lo hi vs rows) (hk : ∀ b, lo ≤ b → b < hi → w'.heap[b]? = w.heap[b]?) : RowsOwn w' lo hi vs rows :=
  ⟨h.1, fun j h1 h2 => (h.2.1 j h1 h2).keep hk, h.2.2⟩
theorem RowsOwn.mono {w : World} {lo hi lo' hi' : Nat} {vs : List Value} {rows : List TRow} (h : RowsOwn w lo hi vs rows) (hl : lo' ≤ lo) (hh : hi ≤ hi') : RowsOwn w lo' hi' vs rows :=
  ⟨h.1, fun j h1 h2 => (h.2.1 j h1 h2).mono hl hh, h.2.2⟩
/-- Rows with their cells, of one's own. -/
def RowsAll (w : World) (lo hi : Nat) (v : Value) (vs : List Value) (rows : List TRow) : Prop :=
  Own w lo hi 84 2 v rows.length (rowCells vs rows) ∧ RowsOwn w lo hi vs rows
theorem rowCells_set (vs : List Value) : ∀ (rows : List TRow) (j : Nat) (r : TRow), j < vs.length → j < rows.length → rowCells vs (rows.set j r) = (rowCells vs rows).set (j * 2 + 1) (.bool r.wh) := by
  induction vs with
  | nil => intro rows j r h _; exact absurd h (Nat.not_lt_zero _)
  | cons v vs ih =>
    intro rows j r h1 h2
    cases rows with
    | nil => exact absurd h2 (Nat.not_lt_zero _)
    | cons q rows =>
      have e : ∀ (x : TRow) (ys : List TRow), rowCells (v :: vs) (x :: ys) = v :: .bool x.wh :: rowCells vs ys := fun _ _ => rfl
      cases j with
      | zero => simp [e]
      | succ j =>
        rw [List.set_cons_succ, e, e, ih rows j r (by simpa using h1) (by simpa using h2), show (j + 1) * 2 + 1 = j * 2 + 1 + 1 + 1 by omega]
        rfl
theorem Far.symm {u v : Value} (h : Far u v) : Far v u := fun g n c g' n' c' e1 e2 h1 h2 e => h g' n' c' g n c e2 e1 h2 h1 e.symm
theorem pair_far {vs : List Value} (h : vs.Pairwise Far) {i j : Nat} (hi : i < vs.length) (hj : j < vs.length) (hne : i ≠ j) : Far vs[i] vs[j] := by
  rcases Nat.lt_or_gt_of_ne hne with hlt | hlt
  · exact List.pairwise_iff_getElem.1 h i j hi hj hlt
  · exact (List.pairwise_iff_getElem.1 h j i hj hi hlt).symm
/-- One row's cells have been written anew. -/
theorem RowsAll.cells {w w' : World} {lo hi : Nat} {v : Value} {vs : List Value} {rows : List TRow} (h : RowsAll w lo hi v vs rows) (j : Nat) (hj : j < vs.length) (hj' : j < rows.length) (g c : Nat) (he : vs[j] = .slice (some ⟨g, 0, none⟩) rows[j].cs.length c)
    (hpos : 0 < rows[j].cs.length) (hg : w.grownBy w' (some g)) (cs' : List TCell) (hl : cs'.length = rows[j].cs.length) (hlo : lo ≤ g) (hhi : g < hi)
    (ho : w'.ownsRow lo 65 11 vs[j] cs'.length (cs'.flatMap cellE)) (hhw : hi ≤ w.heap.size) (hold : w.ownsRow lo 65 11 vs[j] rows[j].cs.length (rows[j].cs.flatMap cellE)) :
    RowsAll w' lo hi v vs (rows.set j ⟨cs', rows[j].wh⟩) := by
  obtain ⟨h1, h2, h3, h4⟩ := h
  have hne : ∀ b, b ≠ g → lo ≤ b → b < hi → w'.heap[b]? = w.heap[b]? := fun b hb h1 h2 => hg.block b (by omega) (fun e => hb (by injection e))
  have hgc : ∃ cur, w.heap[g]? = some (.cells cur 65 (0, 0)) := by
    rcases hold.2 with ⟨e, _⟩ | ⟨g', cap, cur, e, _, hh, _⟩
    · rw [he] at e; cases e
    · rw [he] at e; injection e with e1; injection e1 with e1; injection e1 with e1; subst e1; exact ⟨cur, hh⟩
  refine ⟨?_, by simpa using h2, fun i a b => ?_, h4⟩
  · have e1 : rowCells vs (rows.set j ⟨cs', rows[j].wh⟩) = rowCells vs rows := by
      rw [rowCells_set vs rows j _ hj hj']
      have := (rowCells_get vs rows j hj hj').2
      obtain ⟨hlt, he2⟩ := List.getElem?_eq_some_iff.1 this
      rw [show (Value.bool (TRow.mk cs' rows[j].wh).wh) = (rowCells vs rows)[j * 2 + 1] from he2.symm]
      exact List.set_getElem_self hlt
    rw [e1, List.length_set]
    rcases h1 with h1 | ⟨hn, gr, cr, rfl, b1, b2, b3⟩
    · exact .inl h1
    · refine .inr ⟨hn, gr, cr, rfl, b1, b2, own_keep b3 fun b hb => ?_⟩
      have e2 : gr = b := by simpa [Value.ownBlock] using hb
      subst e2
      refine hne _ (fun e => ?_) b1 b2
      subst e
      obtain ⟨cur, hcur⟩ := hgc
      rcases b3.2 with ⟨e, _⟩ | ⟨g', cap, cur', e, _, hh, _⟩
      · cases e
      · injection e with e1; injection e1 with e1; injection e1 with e1; subst e1
        rw [hcur] at hh; injection hh with hh; injection hh with _ hh; exact absurd hh (by decide)
  · by_cases hij : i = j
    · subst hij
      rw [List.getElem_set_self]
      exact .inr ⟨by show 0 < cs'.length; omega, g, c, by rw [he, hl], hlo, hhi, ho⟩
    · rw [List.getElem_set_ne (fun e => hij e.symm)]
      have h5 := h3 i a (by simpa using b)
      rcases h5 with h5 | ⟨hn, gi, ci, ei, b1, b2, b3⟩
      · exact .inl h5
      · refine .inr ⟨hn, gi, ci, ei, b1, b2, own_keep b3 fun b hb => ?_⟩
        rw [ei] at hb
        have e2 : gi = b := by simpa [Value.ownBlock] using hb
        subst e2
        exact hne _ (fun e => (pair_far h4 a hj hij) gi _ ci g _ c ei he hn hpos e) b1 b2
theorem RowsAll.keep {w w' : World} {lo hi : Nat} {v : Value} {vs : List Value} {rows : List TRow} (h : RowsAll w lo hi v vs rows) (hk : ∀ b, lo ≤ b → b < hi → w'.heap[b]? = w.heap[b]?) : RowsAll w' lo hi v vs rows := ⟨h.1.keep hk, h.2.keep hk⟩
/-- A row's mark has been written. -/
theorem RowsAll.whole {w : World} {lo hi : Nat} {vs : List Value} {rows : List TRow} {gr cap n : Nat} (h : RowsAll w lo hi (.slice (some ⟨gr, 0, none⟩) n cap) vs rows) (j : Nat) (hj : j < vs.length) (hj' : j < rows.length) (b : Bool) :
    RowsAll (w.setCell ⟨gr, j * 2 + 1, none⟩ (.bool b)) lo hi (.slice (some ⟨gr, 0, none⟩) n cap) vs (rows.set j ⟨rows[j].cs, b⟩) := by
  obtain ⟨h1, h2, h3, h4⟩ := h
  rcases h1 with ⟨h0, _⟩ | ⟨hn, gr', cr, e, b1, b2, b3⟩
  · omega
  · injection e with e e2 _; injection e with e; injection e with e; subst e; subst e2
    have hrow : ∃ cur, w.heap[gr]? = some (.cells cur 84 (0, 0)) := by
      rcases b3.2 with ⟨e, _⟩ | ⟨g', cap, cur', e, _, hh, _⟩
      · cases e
      · injection e with e1; injection e1 with e1; injection e1 with e1; subst e1; exact ⟨cur', hh⟩
    refine ⟨?_, by simpa using h2, fun i a b' => ?_, h4⟩
    · rw [rowCells_set vs rows j _ hj hj', List.length_set]
      exact .inr ⟨hn, gr, _, rfl, b1, b2, (b3.stored (j * 2 + 1) (.bool b)).1⟩
    · have e0 : (rows.set j ⟨rows[j].cs, b⟩)[i].cs = (rows[i]'(by simpa using b')).cs := by
        rw [List.getElem_set]
        split
        · rename_i e; subst e; rfl
        · rfl
      rw [e0]
      rcases h3 i a (by simpa using b') with h5 | ⟨hn5, gi, ci, ei, c1, c2, c3⟩
      · exact .inl h5
      · refine .inr ⟨hn5, gi, ci, ei, c1, c2, own_keep c3 fun k hk => heap_set _ _ _ _ (fun e => ?_)⟩
        rw [ei] at hk c3
        have e2 : gi = k := by simpa [Value.ownBlock] using hk
        obtain ⟨cur, hcur⟩ := hrow
        have e3 : k = gr := e
        subst e2
        subst e3
        rcases c3.2 with ⟨e, _⟩ | ⟨g', cap, cur', e, _, hh, _⟩
        · cases e
        · injection e with e1; injection e1 with e1; injection e1 with e1; subst e1
          rw [hcur] at hh; injection hh with hh; injection hh with _ hh; exact absurd hh (by decide)
def mix (rows : List TRow) (k kk : Nat) : List TRow := (markR rows k).take kk ++ rows.drop kk
theorem mix_length (rows : List TRow) (k kk : Nat) (h : kk ≤ rows.length) : (mix rows k kk).length = rows.length := by simp [mix, markR_length]; omega
theorem markR_get : ∀ (rows : List TRow) (k kk : Nat) (h : kk < rows.length) (h' : kk < (markR rows k).length), (markR rows k)[kk] = ⟨markL rows[kk].cs.length (endR (rows.take kk) k), (endR (rows.take kk) k + 11 * rows[kk].cs.length) % 3 == 0⟩
  | r :: rs, k, 0, _, _ => rfl
  | r :: rs, k, kk + 1, h, h' => by
    have := markR_get rs (k + 11 * r.cs.length + 1) kk (by simpa using h) (by simpa [markR] using h')
    simpa [markR, endR] using this
theorem endR_succ : ∀ (rows : List TRow) (k kk : Nat) (h : kk < rows.length), endR (rows.take (kk + 1)) k = endR (rows.take kk) k + 11 * rows[kk].cs.length + 1
  | r :: rs, k, 0, _ => rfl
  | r :: rs, k, kk + 1, h => by
    have := endR_succ rs (k + 11 * r.cs.length + 1) kk (by simpa using h)
    simpa [endR] using this
theorem endR_le (rows : List TRow) (k : Nat) (hs : ∀ r ∈ rows, r.cs.length ≤ 1048576) : ∀ kk, kk ≤ rows.length → endR (rows.take kk) k ≤ k + kk * 11534337
  | 0, _ => by simp [endR]
  | kk + 1, h => by
    rw [endR_succ rows k kk (by omega)]
    have h1 := endR_le rows k hs kk (by omega)
    have h2 := hs _ (List.getElem_mem (show kk < rows.length by omega))
    rw [Nat.succ_mul]; omega
theorem mix_get (rows : List TRow) (k kk : Nat) (h : kk < rows.length) (h' : kk < (mix rows k kk).length) : (mix rows k kk)[kk] = rows[kk] := by
  have : (mix rows k kk)[kk]? = some rows[kk] := by
    unfold mix
    rw [List.getElem?_append_right (by simp [markR_length]; omega)]
    simp [markR_length, Nat.min_eq_left (Nat.le_of_lt h)]
  obtain ⟨_, e⟩ := List.getElem?_eq_some_iff.1 this
  exact e
theorem mix_step (rows : List TRow) (k kk : Nat) (h : kk < rows.length) : (mix rows k kk).set kk ⟨markL rows[kk].cs.length (endR (rows.take kk) k), (endR (rows.take kk) k + 11 * rows[kk].cs.length) % 3 == 0⟩ = mix rows k (kk + 1) := by
  have h' : kk < (markR rows k).length := by rw [markR_length]; exact h
  unfold mix
  rw [← markR_get rows k kk h h', List.set_append_right _ _ (by simp [markR_length]; omega), List.take_succ_eq_append_getElem h', List.append_assoc]
  congr 1
  rw [show kk - ((markR rows k).take kk).length = 0 by simp [markR_length]; omega, List.drop_eq_getElem_cons h]
  rfl
theorem mix_end (rows : List TRow) (k : Nat) : mix rows k rows.length = markR rows k := by
  unfold mix
  rw [List.drop_length, List.append_nil, List.take_of_length_le (by rw [markR_length]; omega)]
set_option maxRecDepth 100000 in
set_option maxHeartbeats 1000000 in
theorem markCells0 (A : Option Addr) (c k : Nat) (w : World) : Calls Tryd.prog 97 #[.slice A 0 c, .int .i64 k] w fun e w' => e = .returned (.int .i64 k) ∧ w' = w := by
  go_enter Tryd.func97, Tryd.ntmps97
  go_wp2_with fail
  go_loopg [1, 5] 1 (fun gg s1 s5 wr => s1 = .int .i64 k ∧ s5 = .int .i64 0 ∧ wr = w)
  case atStart => exact ⟨rfl, rfl, rfl⟩
  case round =>
    obtain ⟨rfl, rfl, rfl⟩ := hrel
    go_wp2_with fail
    go_ret
    exact ⟨rfl, rfl⟩
set_option maxRecDepth 100000 in
set_option maxHeartbeats 1000000 in
theorem markCols0 (A : Option Addr) (c k : Nat) (w : World) : Calls Tryd.prog 60 #[.slice A 0 c, .int .i64 k] w fun e w' => e = .returned (.int .i64 k) ∧ w' = w := by
  go_enter Tryd.func60, Tryd.ntmps60
  go_wp2_with fail
  go_loopg [1, 5] 1 (fun gg s1 s5 wr => s1 = .int .i64 k ∧ s5 = .int .i64 0 ∧ wr = w)
  case atStart => exact ⟨rfl, rfl, rfl⟩
  case round =>
    obtain ⟨rfl, rfl, rfl⟩ := hrel
    go_wp2_with fail
    go_ret
    exact ⟨rfl, rfl⟩
theorem markCellsAt {w : World} {lo hi : Nat} {v : Value} {vs : List Value} {rows : List TRow} (h : RowsAll w lo hi v vs rows) (j : Nat) (hj : j < vs.length) (hj' : j < rows.length) (hhw : hi ≤ w.heap.size) (k : Nat) (hk : k ≤ 1000000000000000) (hn : rows[j].cs.length ≤ 1048576) :
    Calls Tryd.prog 97 #[vs[j], .int .i64 k] w fun e w' => e = .returned (.int .i64 ((k + 11 * rows[j].cs.length : Nat) : Int)) ∧ RowsAll w' lo hi v vs (rows.set j ⟨markL rows[j].cs.length k, rows[j].wh⟩) ∧ Within lo hi w w' ∧ Spare 28 w w' := by
  rcases h.2.2.1 j hj hj' with ⟨h0, _, A, c, e⟩ | ⟨hpos, g, c, e, h1, h2, h3⟩
  · rw [e]
    refine (markCells0 A c k w).mono ?_
    rintro e' w' ⟨rfl, rfl⟩
    have e2 : rows.set j ⟨markL rows[j].cs.length k, rows[j].wh⟩ = rows := by
      have : (⟨markL rows[j].cs.length k, rows[j].wh⟩ : TRow) = rows[j] := by
        have h5 : rows[j].cs = [] := List.eq_nil_of_length_eq_zero h0
        have h6 : ∀ r : TRow, r.cs = [] → (⟨markL r.cs.length k, r.wh⟩ : TRow) = r := fun r hr => by cases r; simp at hr; subst hr; rfl
        exact h6 _ h5
      rw [this]; exact List.set_getElem_self hj'
    rw [e2]
    exact ⟨by rw [h0]; rfl, h, Within.refl _ _ _, Spare.refl _ _⟩
  · have h3' := h3
    rw [e] at h3' ⊢
    refine (markCells g c _ k _ lo w h3' hn hk).mono ?_
    rintro e' w' ⟨rfl, ho, hg⟩
    obtain ⟨cur, hcur⟩ := own_type h3'
    refine ⟨rfl, h.cells j hj hj' g c e hpos hg _ (markL_length _ _) h1 h2 ?_ hhw h3, Within.grow hg h1 h2, Spare.grow hg hcur (by decide)⟩
    rw [e, markL_length]; exact ho
end Go.Proofs.YtfcogogpioeggaaDoor
