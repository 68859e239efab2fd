import Derived.Test.YtfcogogpioeggaaDoorB
namespace Go.Proofs.YtfcogogpioeggaaDoor
open Go.RowKit
/- Rows of the call's own: what their cells say, stores into them, and what they read as. -/
variable {α : Type}

def setL : List Value → Nat → List Value → List Value
  | X, _, [] => X
  | X, a, v :: vs => setL (X.set a v) (a + 1) vs
theorem setL_length : ∀ (vs X : List Value) (a : Nat), (setL X a vs).length = X.length
  | [], X, a => rfl
  | v :: vs, X, a => by rw [setL, setL_length vs]; simp
theorem setL_take : ∀ (vs X : List Value) (a : Nat), a + vs.length ≤ X.length → (setL X a vs).take (a + vs.length) = X.take a ++ vs
  | [], X, a, _ => by simp [setL]
  | v :: vs, X, a, h => by
    simp only [List.length_cons] at h ⊢
    rw [setL, show a + (vs.length + 1) = a + 1 + vs.length by omega, setL_take vs _ _ (by simp; omega)]
    have : a < X.length := by omega
    rw [List.take_succ_eq_append_getElem (by simpa using this), List.take_set_of_le (Nat.le_refl _)]
    simp
theorem setL_drop : ∀ (vs X : List Value) (a : Nat), (setL X a vs).drop (a + vs.length) = X.drop (a + vs.length)
  | [], X, a => rfl
  | v :: vs, X, a => by
    simp only [List.length_cons]
    rw [setL, show a + (vs.length + 1) = a + 1 + vs.length by omega, setL_drop vs, List.drop_set_of_lt (by omega)]

theorem flatMap_length (enc : α → List Value) (k : Nat) (hk : ∀ x, (enc x).length = k) (xs : List α) : (xs.flatMap enc).length = xs.length * k := by
  induction xs with
  | nil => simp
  | cons x xs ih => rw [List.flatMap_cons, List.length_append, ih, hk, List.length_cons, Nat.succ_mul]; omega
theorem flatMap_get (enc : α → List Value) (k : Nat) (hk : ∀ x, (enc x).length = k) : ∀ (xs : List α) (j i : Nat) (u : Value) (hj : j < xs.length), (enc xs[j])[i]? = some u → (xs.flatMap enc)[j * k + i]? = some u
  | x :: xs, 0, i, u, _, hu => by
    rw [List.flatMap_cons, Nat.zero_mul, Nat.zero_add]
    have hi : i < (enc x).length := (List.getElem?_eq_some_iff.1 hu).1
    rw [List.getElem?_append_left hi]; exact hu
  | x :: xs, j + 1, i, u, hj, hu => by
    rw [List.flatMap_cons, List.getElem?_append_right (by rw [hk, Nat.succ_mul]; omega), hk, show (j + 1) * k + i - k = j * k + i by rw [Nat.succ_mul]; omega]
    exact flatMap_get enc k hk xs j i u (by simpa using hj) hu

/-- What is owned reads as what it says. -/
theorem own_rd {enc : α → List Value} {k : Nat} {hk : ∀ x, (enc x).length = k} {w : World} {base : Nat} {E : TypeId} {v : Value} {xs : List α} (h : w.ownsRow base E k v xs.length (xs.flatMap enc)) : IsSl (flat k enc hk) w v xs := by
  rcases h.2 with ⟨rfl, h0⟩ | ⟨g, cap, cur, rfl, hb, hh, h1, h2, h3, h4⟩
  · have : xs = [] := List.eq_nil_of_length_eq_zero h0
    subst this
    exact ⟨none, 0, rfl, Nat.le_refl _, Rd.nil _ _ _⟩
  · refine ⟨some ⟨g, 0, none⟩, cap, rfl, h1, by simp only [maxLen] at h2; omega, fun hn => ⟨g, 0, rfl, (Array.getElem?_eq_some_iff.1 hh).1, fun j hj => ⟨enc xs[j], rfl, fun i u hu => ?_⟩⟩⟩
    have hlt : i < k := by have := (List.getElem?_eq_some_iff.1 hu).1; rw [hk] at this; exact this
    have hjk : j * k + i < xs.length * k := Nat.lt_of_lt_of_le (show j * k + i < (j + 1) * k by rw [Nat.succ_mul]; omega) (Nat.mul_le_mul_right _ hj)
    have e := h.cellAt (j * k + i) hjk
    rw [flatMap_get enc k hk xs j i u hj hu] at e
    have e0 : (0 : Nat) + j * (flat k enc hk).sz + i = j * k + i := by show 0 + j * k + i = _; omega
    rw [e0]; exact e

/-- Another block has been written, or none. -/
theorem own_keep {w w' : World} {base : Nat} {E : TypeId} {k n : Nat} {v : Value} {xs : List Value} (h : w.ownsRow base E k v n xs) (hk : ∀ b, v.ownBlock = some b → w'.heap[b]? = w.heap[b]?) : w'.ownsRow base E k v n xs := by
  refine ⟨h.1, ?_⟩
  rcases h.2 with h0 | ⟨g, cap, cur, rfl, hb, hh, r⟩
  · exact .inl h0
  · exact .inr ⟨g, cap, cur, rfl, hb, (hk g rfl).trans hh, r⟩
theorem own_lt {w : World} {base : Nat} {E : TypeId} {k n : Nat} {v : Value} {xs : List Value} (h : w.ownsRow base E k v n xs) {b : Nat} (hb : v.ownBlock = some b) : base ≤ b ∧ b < w.heap.size := h.lt b hb
theorem own_below {w w' : World} {base : Nat} {E : TypeId} {k n : Nat} {v : Value} {xs : List Value} (h : w.ownsRow base E k v n xs) (hb : Below w.heap.size w w') : w'.ownsRow base E k v n xs :=
  own_keep h fun b e => hb.block b (own_lt h e).2
theorem own_base {w : World} {base base' : Nat} {E : TypeId} {k n : Nat} {v : Value} {xs : List Value} (h : w.ownsRow base E k v n xs) (hb : base' ≤ base) : w.ownsRow base' E k v n xs := by
  refine ⟨h.1, ?_⟩
  rcases h.2 with h0 | ⟨g, cap, cur, rfl, hg, r⟩
  · exact .inl h0
  · exact .inr ⟨g, cap, cur, rfl, by omega, r⟩
theorem heap_set (w : World) (a : Addr) (u : Value) (k : Nat) (h : k ≠ a.block) : (w.setCell a u).heap[k]? = w.heap[k]? := Below.heap_setCell w a u k h

/-- One more element is stored. -/
theorem own_store2 {w : World} {base : Nat} {E : TypeId} {g n cap : Nat} {X : List Value} (h : w.ownsRow base E 2 (.slice (some ⟨g, 0, none⟩) n cap) n X) (a : Nat) (u0 u1 : Value) :
    ((w.setCell ⟨g, a, none⟩ u0).setCell ⟨g, a + 1, none⟩ u1).ownsRow base E 2 (.slice (some ⟨g, 0, none⟩) n cap) n (setL X a [u0, u1]) :=
  (((h.stored a u0).1).stored (a + 1) u1).1
theorem own_store11 {w : World} {base : Nat} {E : TypeId} {g n cap : Nat} {X : List Value} (h : w.ownsRow base E 11 (.slice (some ⟨g, 0, none⟩) n cap) n X) (a : Nat) (u0 u1 u2 u3 u4 u5 u6 u7 u8 u9 u10 : Value) :
    (((((((((((w.setCell ⟨g, a, none⟩ u0).setCell ⟨g, a + 1, none⟩ u1).setCell ⟨g, a + 2, none⟩ u2).setCell ⟨g, a + 3, none⟩ u3).setCell ⟨g, a + 4, none⟩ u4).setCell ⟨g, a + 5, none⟩ u5).setCell ⟨g, a + 6, none⟩ u6).setCell ⟨g, a + 7, none⟩ u7).setCell ⟨g, a + 8, none⟩ u8).setCell ⟨g, a + 9, none⟩ u9).setCell ⟨g, a + 10, none⟩ u10).ownsRow base E 11 (.slice (some ⟨g, 0, none⟩) n cap) n (setL X a [u0, u1, u2, u3, u4, u5, u6, u7, u8, u9, u10]) :=
  (((((((((((h.stored (a) u0).1.stored (a + 1) u1).1.stored (a + 2) u2).1.stored (a + 3) u3).1.stored (a + 4) u4).1.stored (a + 5) u5).1.stored (a + 6) u6).1.stored (a + 7) u7).1.stored (a + 8) u8).1.stored (a + 9) u9).1.stored (a + 10) u10).1

/-- Two rows of one's own that are two. -/
def Apart (a b : Value) : Prop := ∀ k, a.ownBlock = some k → b.ownBlock ≠ some k
def rowCells (vs : List Value) (rows : List TRow) : List Value := (vs.zip rows).flatMap fun p => [p.1, .bool p.2.wh]
/-- The cells of rows: each a row of the call's own. -/
def RowsIn (w : World) (base : Nat) (E : TypeId) (vs : List Value) (rows : List TRow) : Prop :=
  vs.length = rows.length ∧ (∀ (j : Nat) (h : j < vs.length) (h' : j < rows.length), w.ownsRow base E 11 vs[j] rows[j].cs.length (rows[j].cs.flatMap cellE)) ∧ vs.Pairwise Apart
theorem RowsIn.nil (w : World) (base : Nat) (E : TypeId) : RowsIn w base E [] [] := ⟨rfl, fun _ h => absurd h (Nat.not_lt_zero _), List.Pairwise.nil⟩
theorem RowsIn.keep {w w' : World} {base : Nat} {E : TypeId} {vs : List Value} {rows : List TRow} (h : RowsIn w base E vs rows) (hk : ∀ b, base ≤ b → b < w.heap.size → w'.heap[b]? = w.heap[b]?) : RowsIn w' base E vs rows :=
  ⟨h.1, fun j h1 h2 => own_keep (h.2.1 j h1 h2) fun b hb => hk b (own_lt (h.2.1 j h1 h2) hb).1 (own_lt (h.2.1 j h1 h2) hb).2, h.2.2⟩
theorem RowsIn.snoc {w : World} {base : Nat} {E : TypeId} {vs : List Value} {rows : List TRow} {v : Value} {r : TRow} (h : RowsIn w base E vs rows) (hv : w.ownsRow base E 11 v r.cs.length (r.cs.flatMap cellE)) (ha : ∀ a ∈ vs, Apart a v) : RowsIn w base E (vs ++ [v]) (rows ++ [r]) := by
  refine ⟨by simp [h.1], fun j h1 h2 => ?_, ?_⟩
  · rcases Nat.lt_or_ge j vs.length with hj | hj
    · have hj' : j < rows.length := by rw [← h.1]; exact hj
      rw [List.getElem_append_left hj, List.getElem_append_left hj']
      exact h.2.1 j hj hj'
    · have e : j = vs.length := by simp at h1; omega
      have e' : j = rows.length := by rw [← h.1]; exact e
      have g1 : (vs ++ [v])[j] = v := by rw [List.getElem_append_right (by omega)]; simp
      have g2 : (rows ++ [r])[j] = r := by rw [List.getElem_append_right (by omega)]; simp
      rw [g1, g2]; exact hv
  · rw [List.pairwise_append]
    exact ⟨h.2.2, List.pairwise_singleton _ _, fun a ha' b hb => by rw [List.mem_singleton.1 hb]; exact ha a ha'⟩
theorem rowCells_snoc (vs : List Value) (rows : List TRow) (v : Value) (r : TRow) (h : vs.length = rows.length) : rowCells (vs ++ [v]) (rows ++ [r]) = rowCells vs rows ++ [v, .bool r.wh] := by
  unfold rowCells
  rw [List.zip_append h, List.flatMap_append]; rfl
/-- Rows of one's own, with their cells. -/
def OwnRows (w : World) (base : Nat) (E F : TypeId) (v : Value) (rows : List TRow) : Prop :=
  ∃ vs, w.ownsRow base E 2 v rows.length (rowCells vs rows) ∧ RowsIn w base F vs rows ∧ ∀ a ∈ vs, Apart v a
theorem OwnRows.below {w w' : World} {base : Nat} {E F : TypeId} {v : Value} {rows : List TRow} (h : OwnRows w base E F v rows) (hb : Below w.heap.size w w') : OwnRows w' base E F v rows := by
  obtain ⟨vs, h1, h2, h3⟩ := h
  exact ⟨vs, own_below h1 hb, h2.keep fun b _ hlt => hb.block b hlt, h3⟩
theorem rowCells_get (vs : List Value) (rows : List TRow) : ∀ (j : Nat) (h1 : j < vs.length) (h2 : j < rows.length), (rowCells vs rows)[j * 2]? = some vs[j] ∧ (rowCells vs rows)[j * 2 + 1]? = some (.bool rows[j].wh) := by
  induction vs generalizing rows with
  | nil => intro j h; exact absurd h (Nat.not_lt_zero _)
  | cons v vs ih =>
    cases rows with
    | nil => intro j _ h; exact absurd h (Nat.not_lt_zero _)
    | cons r rows =>
      intro j h1 h2
      cases j with
      | zero => exact ⟨rfl, rfl⟩
      | succ j =>
        have := ih rows j (by simpa using h1) (by simpa using h2)
        have e : rowCells (v :: vs) (r :: rows) = v :: .bool r.wh :: rowCells vs rows := rfl
        rw [e, show (j + 1) * 2 = j * 2 + 1 + 1 by omega]
        exact this
theorem OwnRows.rd {w : World} {base : Nat} {E F : TypeId} {v : Value} {rows : List TRow} (h : OwnRows w base E F v rows) (hs : ∀ r ∈ rows, ∀ c ∈ r.cs, c.t.size ≤ 1048576) : IsSl rowR w v rows := by
  obtain ⟨vs, h1, h2, _⟩ := h
  rcases h1.2 with ⟨rfl, h0⟩ | ⟨g, cap, cur, rfl, hb, hh, k1, k2, k3, k4⟩
  · have : rows = [] := List.eq_nil_of_length_eq_zero h0
    subst this
    exact ⟨none, 0, rfl, Nat.le_refl _, Rd.nil _ _ _⟩
  · refine ⟨some ⟨g, 0, none⟩, cap, rfl, k1, by simp only [maxLen] at k2; omega, fun hn => ⟨g, 0, rfl, (Array.getElem?_eq_some_iff.1 hh).1, fun j hj => ?_⟩⟩
    have hv : j < vs.length := by rw [h2.1]; exact hj
    obtain ⟨g0, g1⟩ := rowCells_get vs rows j hv hj
    obtain ⟨A, c, e1, e2, e3⟩ := own_rd (enc := cellE) (k := 11) (hk := fun _ => rfl) (h2.2.1 j hv hj)
    refine ⟨[vs[j], .bool rows[j].wh], ⟨vs[j], rfl, A, c, e1, e2, e3.1, fun hn => ?_⟩, fun i u hu => ?_⟩
    · obtain ⟨b, o, ha, hlt, hc⟩ := e3.2 hn
      refine ⟨b, o, ha, hlt, fun i hi => ?_⟩
      obtain ⟨cs, hk, hcell⟩ := hc i hi
      exact ⟨cs, ⟨hk, hs _ (List.getElem_mem hj) _ (List.getElem_mem hi)⟩, hcell⟩
    · have e0 := h1.cellAt (j * 2) (by omega)
      have e1 := h1.cellAt (j * 2 + 1) (by omega)
      rw [g0] at e0
      rw [g1] at e1
      match i, hu with
      | 0, hu => simp at hu; subst hu; simpa [rowR] using e0
      | 1, hu => simp at hu; subst hu; simpa [rowR] using e1
end Go.Proofs.YtfcogogpioeggaaDoor
