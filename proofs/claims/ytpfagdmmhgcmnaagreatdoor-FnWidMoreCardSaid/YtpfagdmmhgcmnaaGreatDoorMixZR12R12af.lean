import Derived.Test.YtpfagdmmhgcmnaaGreatDoorMixZR12R12ae
import Derived.Deep.RegionHeld3
import Derived.Deep.AppendLies
import Derived.Deep.RegionHeldLaw
import Derived.Lib.SliceRun
import Derived.Shelf.Strings.Trim
import Derived.Shelf.Small.Utf8
import Derived.Shelf.Small.Strs
import Derived.Shelf.Strings.Search1
import Derived.Shelf.Strings.Search2
import Derived.Shelf.Strings.Search3
import Derived.Shelf.Strings.Count
import Derived.Shelf.LaysM
import Derived.Shelf.Strings.Shaped
import Derived.Shelf.Strings.Split
import Derived.Shelf.Strings.SplitShaped
import Derived.Shelf.Strings.Runes
import Derived.Shelf.Strings.AsciiSet
import Derived.Shelf.Bits.Mul64
import Derived.Shelf.Unicode.DecodeSlow
import Derived.Test.YtpfagdmmhgcmnaaGreatDoorProg
import Derived.Laws.CopyOwn
import Derived.Deep.CutRange
set_option linter.unusedVariables false
set_option linter.unusedSimpArgs false
namespace Go.Proofs.YtpfagdmmhgcmnaaGreatDoor
open Go.RowKit
/- Rows of one's own that may be empty, whole tables of one's own, and what marking makes of them: plain laws. -/
/-- A row of one's own among the blocks from lo to hi, or nothing at all. -/
theorem own_form0 {w : World} {base E k n : Nat} {v : Value} {xs : List Value} (h : w.ownsRow base E k v n xs) : ∃ A c, v = .slice A n c := by
  rcases h.2 with ⟨rfl, rfl⟩ | ⟨g, cap, cur, rfl, _⟩
  · exact ⟨none, 0, rfl⟩
  · exact ⟨_, _, rfl⟩
def Own (w : World) (lo hi : Nat) (E : TypeId) (k : Nat) (v : Value) (n : Nat) (xs : List Value) : Prop :=
  (n = 0 ∧ xs = [] ∧ ∃ A c, v = .slice A 0 c) ∨ (0 < n ∧ ∃ g c, v = .slice (some ⟨g, 0, none⟩) n c ∧ lo ≤ g ∧ g < hi ∧ w.ownsRow lo E k v n xs)
theorem Own.form {w : World} {lo hi : Nat} {E : TypeId} {k : Nat} {v : Value} {n : Nat} {xs : List Value} (h : Own w lo hi E k v n xs) : ∃ A c, v = .slice A n c := by
  rcases h with ⟨rfl, _, A, c, rfl⟩ | ⟨_, g, c, rfl, _⟩
  · exact ⟨A, c, rfl⟩
  · exact ⟨_, c, rfl⟩
theorem Own.keep {w w' : World} {lo hi : Nat} {E : TypeId} {k : Nat} {v : Value} {n : Nat} {xs : List Value} (h : Own w lo hi E k v n xs) (hk : ∀ b, lo ≤ b → b < hi → w'.heap[b]? = w.heap[b]?) : Own w' lo hi E k v n xs := by
  rcases h with h | ⟨hn, g, c, rfl, h1, h2, h3⟩
  · exact .inl h
  · exact .inr ⟨hn, g, c, rfl, h1, h2, own_keep h3 fun b e => by
      have : g = b := by simpa [Value.ownBlock] using e
      subst this; exact hk g h1 h2⟩
theorem Own.of {w : World} {lo hi : Nat} {E : TypeId} {k : Nat} {v : Value} {n : Nat} {xs : List Value} (h : w.ownsRow lo E k v n xs) (hh : w.heap.size ≤ hi) : Own w lo hi E k v n xs := by
  rcases Nat.eq_zero_or_pos n with rfl | hn
  · left
    refine ⟨rfl, List.eq_nil_of_length_eq_zero (by rw [h.1]; simp), ?_⟩
    exact own_form0 h
  · right
    rcases h.2 with ⟨_, h0⟩ | ⟨g, cap, cur, rfl, r⟩
    · omega
    · have := own_lt h (b := g) rfl
      exact ⟨hn, g, cap, rfl, this.1, by omega, h⟩
theorem Own.mono {w : World} {lo hi lo' hi' : Nat} {E : TypeId} {k : Nat} {v : Value} {n : Nat} {xs : List Value} (h : Own w lo hi E k v n xs) (hl : lo' ≤ lo) (hh : hi ≤ hi') : Own w lo' hi' E k v n xs := by
  rcases h with h | ⟨hn, g, c, rfl, h1, h2, h3⟩
  · exact .inl h
  · exact .inr ⟨hn, g, c, rfl, by omega, by omega, own_base h3 hl⟩
end Go.Proofs.YtpfagdmmhgcmnaaGreatDoor

namespace Go.Proofs.YtpfagdmmhgcmnaaGreatDoor
open Go.RowKit
/- The statements' own helpers: marking what a call has handed out. -/
end Go.Proofs.YtpfagdmmhgcmnaaGreatDoor

namespace Go.Proofs.YtpfagdmmhgcmnaaGreatDoor
open Go.RowKit
/- The statements' own helpers: marking rows and tables that a call has handed out. -/
/-- Nothing but blocks from lo to hi, and new ones. -/
structure Within (lo hi : Nat) (w w' : World) : Prop where
  os : w'.os = w.os
  tape : w'.tape = w.tape
  output : w'.output = w.output
  size : w.heap.size ≤ w'.heap.size
  block : ∀ k, k < w.heap.size → (k < lo ∨ hi ≤ k) → w'.heap[k]? = w.heap[k]?
theorem Within.refl (lo hi : Nat) (w : World) : Within lo hi w w := ⟨rfl, rfl, rfl, Nat.le_refl _, fun _ _ _ => rfl⟩
theorem Within.trans {lo hi : Nat} {w w1 w2 : World} (h : Within lo hi w w1) (h' : Within lo hi w1 w2) : Within lo hi w w2 :=
  ⟨h'.os.trans h.os, h'.tape.trans h.tape, h'.output.trans h.output, Nat.le_trans h.size h'.size, fun k hk hne => (h'.block k (Nat.lt_of_lt_of_le hk h.size) hne).trans (h.block k hk hne)⟩
theorem Within.grow {lo hi g : Nat} {w w' : World} (h : w.grownBy w' (some g)) (h1 : lo ≤ g) (h2 : g < hi) : Within lo hi w w' :=
  ⟨h.os, h.tape, h.output, h.size, fun k hk hne => h.block k hk (fun e => by injection e with e; omega)⟩
theorem Within.below {lo hi : Nat} {w w' : World} (h : Below w.heap.size w w') : Within lo hi w w' := ⟨h.os, h.tape, h.output, h.size, fun k hk _ => h.block k hk⟩
theorem Within.set {lo hi : Nat} (w : World) {a : Addr} (h1 : lo ≤ a.block) (h2 : a.block < hi) (u : Value) : Within lo hi w (w.setCell a u) := Within.grow (grow_set w rfl u) h1 h2
/-- Blocks of one type are as they were. -/
def Spare (E : TypeId) (w w' : World) : Prop := ∀ (k : Nat) (cur : Array Value), w.heap[k]? = some (.cells cur E (0, 0)) → w'.heap[k]? = w.heap[k]?
theorem Spare.refl (E : TypeId) (w : World) : Spare E w w := fun _ _ _ => rfl
theorem Spare.trans {E : TypeId} {w w1 w2 : World} (h : Spare E w w1) (h' : Spare E w1 w2) : Spare E w w2 := fun k cur e => by
  have h1 := h k cur e
  exact (h' k cur (h1.trans e)).trans h1
theorem Spare.grow {E F : TypeId} {w w' : World} {g : Nat} (hg : w.grownBy w' (some g)) {cur : Array Value} (ht : w.heap[g]? = some (.cells cur F (0, 0))) (hne : F ≠ E) : Spare E w w' := fun k c e =>
  hg.block k (Array.getElem?_eq_some_iff.1 e).1 (fun e2 => by
    injection e2 with e2
    subst e2
    rw [ht] at e; injection e with e; injection e with _ e; exact hne e)
theorem Spare.below {E : TypeId} {w w' : World} (h : Below w.heap.size w w') : Spare E w w' := fun k _ e => h.block k (Array.getElem?_eq_some_iff.1 e).1
theorem own_type {w : World} {lo : Nat} {E : TypeId} {k n n' g c : Nat} {X : List Value} (h : w.ownsRow lo E k (.slice (some ⟨g, 0, none⟩) n c) n' X) : ∃ cur, w.heap[g]? = some (.cells cur E (0, 0)) := by
  rcases h.2 with ⟨e, _⟩ | ⟨g', cap, cur, e, _, hh, _⟩
  · cases e
  · injection e with e1; injection e1 with e1; injection e1 with e1; subst e1; exact ⟨cur, hh⟩
theorem Own.spare {w w' : World} {lo hi : Nat} {E : TypeId} {k : Nat} {v : Value} {n : Nat} {xs : List Value} (h : Own w lo hi E k v n xs) (hs : Spare E w w') : Own w' lo hi E k v n xs := by
  rcases h with h | ⟨hn, g, c, rfl, h1, h2, h3⟩
  · exact .inl h
  · obtain ⟨cur, hcur⟩ := own_type h3
    exact .inr ⟨hn, g, c, rfl, h1, h2, own_keep h3 fun b e => by
      have : g = b := by simpa [Value.ownBlock] using e
      subst this; exact hs g cur hcur⟩
def Far (u v : Value) : Prop := ∀ g n c g' n' c', u = .slice (some ⟨g, 0, none⟩) n c → v = .slice (some ⟨g', 0, none⟩) n' c' → 0 < n → 0 < n' → g ≠ g'
def RowsOwn (w : World) (lo hi : Nat) (vs : List Value) (rows : List TRow) : Prop :=
  vs.length = rows.length ∧ (∀ (j : Nat) (h : j < vs.length) (h' : j < rows.length), Own w lo hi 52 11 vs[j] rows[j].cs.length (rows[j].cs.flatMap cellE)) ∧ vs.Pairwise Far
theorem RowsOwn.keep {w w' : World} {lo hi : Nat} {vs : List Value} {rows : List TRow} (h : RowsOwn w lo hi vs rows) (hk : ∀ b, lo ≤ b → b < hi → w'.heap[b]? = w.heap[b]?) : RowsOwn w' lo hi vs rows :=
  ⟨h.1, fun j h1 h2 => (h.2.1 j h1 h2).keep hk, h.2.2⟩
theorem RowsOwn.mono {w : World} {lo hi lo' hi' : Nat} {vs : List Value} {rows : List TRow} (h : RowsOwn w lo hi vs rows) (hl : lo' ≤ lo) (hh : hi ≤ hi') : RowsOwn w lo' hi' vs rows :=
  ⟨h.1, fun j h1 h2 => (h.2.1 j h1 h2).mono hl hh, h.2.2⟩
/-- Rows with their cells, of one's own. -/
def RowsAll (w : World) (lo hi : Nat) (v : Value) (vs : List Value) (rows : List TRow) : Prop :=
  Own w lo hi 48 2 v rows.length (rowCells vs rows) ∧ RowsOwn w lo hi vs rows
theorem rowCells_set (vs : List Value) : ∀ (rows : List TRow) (j : Nat) (r : TRow), j < vs.length → j < rows.length → rowCells vs (rows.set j r) = (rowCells vs rows).set (j * 2 + 1) (.bool r.wh) := by
  induction vs with
  | nil => intro rows j r h _; exact absurd h (Nat.not_lt_zero _)
  | cons v vs ih =>
    intro rows j r h1 h2
    cases rows with
    | nil => exact absurd h2 (Nat.not_lt_zero _)
    | cons q rows =>
      have e : ∀ (x : TRow) (ys : List TRow), rowCells (v :: vs) (x :: ys) = v :: .bool x.wh :: rowCells vs ys := fun _ _ => rfl
      cases j with
      | zero => simp [e]
      | succ j =>
        rw [List.set_cons_succ, e, e, ih rows j r (by simpa using h1) (by simpa using h2), show (j + 1) * 2 + 1 = j * 2 + 1 + 1 + 1 by omega]
        rfl
theorem Far.symm {u v : Value} (h : Far u v) : Far v u := fun g n c g' n' c' e1 e2 h1 h2 e => h g' n' c' g n c e2 e1 h2 h1 e.symm
theorem pair_far {vs : List Value} (h : vs.Pairwise Far) {i j : Nat} (hi : i < vs.length) (hj : j < vs.length) (hne : i ≠ j) : Far vs[i] vs[j] := by
  rcases Nat.lt_or_gt_of_ne hne with hlt | hlt
  · exact List.pairwise_iff_getElem.1 h i j hi hj hlt
  · exact (List.pairwise_iff_getElem.1 h j i hj hi hlt).symm
/-- One row's cells have been written anew. -/
theorem RowsAll.cells {w w' : World} {lo hi : Nat} {v : Value} {vs : List Value} {rows : List TRow} (h : RowsAll w lo hi v vs rows) (j : Nat) (hj : j < vs.length) (hj' : j < rows.length) (g c : Nat) (he : vs[j] = .slice (some ⟨g, 0, none⟩) rows[j].cs.length c)
    (hpos : 0 < rows[j].cs.length) (hg : w.grownBy w' (some g)) (cs' : List TCell) (hl : cs'.length = rows[j].cs.length) (hlo : lo ≤ g) (hhi : g < hi)
    (ho : w'.ownsRow lo 52 11 vs[j] cs'.length (cs'.flatMap cellE)) (hhw : hi ≤ w.heap.size) (hold : w.ownsRow lo 52 11 vs[j] rows[j].cs.length (rows[j].cs.flatMap cellE)) :
    RowsAll w' lo hi v vs (rows.set j ⟨cs', rows[j].wh⟩) := by
  obtain ⟨h1, h2, h3, h4⟩ := h
  have hne : ∀ b, b ≠ g → lo ≤ b → b < hi → w'.heap[b]? = w.heap[b]? := fun b hb h1 h2 => hg.block b (by omega) (fun e => hb (by injection e))
  have hgc : ∃ cur, w.heap[g]? = some (.cells cur 52 (0, 0)) := by
    rcases hold.2 with ⟨e, _⟩ | ⟨g', cap, cur, e, _, hh, _⟩
    · rw [he] at e; cases e
    · rw [he] at e; injection e with e1; injection e1 with e1; injection e1 with e1; subst e1; exact ⟨cur, hh⟩
  refine ⟨?_, by simpa using h2, fun i a b => ?_, h4⟩
  · have e1 : rowCells vs (rows.set j ⟨cs', rows[j].wh⟩) = rowCells vs rows := by
      rw [rowCells_set vs rows j _ hj hj']
      have := (rowCells_get vs rows j hj hj').2
      obtain ⟨hlt, he2⟩ := List.getElem?_eq_some_iff.1 this
      rw [show (Value.bool (TRow.mk cs' rows[j].wh).wh) = (rowCells vs rows)[j * 2 + 1] from he2.symm]
      exact List.set_getElem_self hlt
    rw [e1, List.length_set]
    rcases h1 with h1 | ⟨hn, gr, cr, rfl, b1, b2, b3⟩
    · exact .inl h1
    · refine .inr ⟨hn, gr, cr, rfl, b1, b2, own_keep b3 fun b hb => ?_⟩
      have e2 : gr = b := by simpa [Value.ownBlock] using hb
      subst e2
      refine hne _ (fun e => ?_) b1 b2
      subst e
      obtain ⟨cur, hcur⟩ := hgc
      rcases b3.2 with ⟨e, _⟩ | ⟨g', cap, cur', e, _, hh, _⟩
      · cases e
      · injection e with e1; injection e1 with e1; injection e1 with e1; subst e1
        rw [hcur] at hh; injection hh with hh; injection hh with _ hh; exact absurd hh (by decide)
  · by_cases hij : i = j
    · subst hij
      rw [List.getElem_set_self]
      exact .inr ⟨by show 0 < cs'.length; omega, g, c, by rw [he, hl], hlo, hhi, ho⟩
    · rw [List.getElem_set_ne (fun e => hij e.symm)]
      have h5 := h3 i a (by simpa using b)
      rcases h5 with h5 | ⟨hn, gi, ci, ei, b1, b2, b3⟩
      · exact .inl h5
      · refine .inr ⟨hn, gi, ci, ei, b1, b2, own_keep b3 fun b hb => ?_⟩
        rw [ei] at hb
        have e2 : gi = b := by simpa [Value.ownBlock] using hb
        subst e2
        exact hne _ (fun e => (pair_far h4 a hj hij) gi _ ci g _ c ei he hn hpos e) b1 b2
theorem RowsAll.keep {w w' : World} {lo hi : Nat} {v : Value} {vs : List Value} {rows : List TRow} (h : RowsAll w lo hi v vs rows) (hk : ∀ b, lo ≤ b → b < hi → w'.heap[b]? = w.heap[b]?) : RowsAll w' lo hi v vs rows := ⟨h.1.keep hk, h.2.keep hk⟩
/-- A row's mark has been written. -/
theorem RowsAll.whole {w : World} {lo hi : Nat} {vs : List Value} {rows : List TRow} {gr cap n : Nat} (h : RowsAll w lo hi (.slice (some ⟨gr, 0, none⟩) n cap) vs rows) (j : Nat) (hj : j < vs.length) (hj' : j < rows.length) (b : Bool) :
    RowsAll (w.setCell ⟨gr, j * 2 + 1, none⟩ (.bool b)) lo hi (.slice (some ⟨gr, 0, none⟩) n cap) vs (rows.set j ⟨rows[j].cs, b⟩) := by
  obtain ⟨h1, h2, h3, h4⟩ := h
  rcases h1 with ⟨h0, _⟩ | ⟨hn, gr', cr, e, b1, b2, b3⟩
  · omega
  · injection e with e e2 _; injection e with e; injection e with e; subst e; subst e2
    have hrow : ∃ cur, w.heap[gr]? = some (.cells cur 48 (0, 0)) := by
      rcases b3.2 with ⟨e, _⟩ | ⟨g', cap, cur', e, _, hh, _⟩
      · cases e
      · injection e with e1; injection e1 with e1; injection e1 with e1; subst e1; exact ⟨cur', hh⟩
    refine ⟨?_, by simpa using h2, fun i a b' => ?_, h4⟩
    · rw [rowCells_set vs rows j _ hj hj', List.length_set]
      exact .inr ⟨hn, gr, _, rfl, b1, b2, (b3.stored (j * 2 + 1) (.bool b)).1⟩
    · have e0 : (rows.set j ⟨rows[j].cs, b⟩)[i].cs = (rows[i]'(by simpa using b')).cs := by
        rw [List.getElem_set]
        split
        · rename_i e; subst e; rfl
        · rfl
      rw [e0]
      rcases h3 i a (by simpa using b') with h5 | ⟨hn5, gi, ci, ei, c1, c2, c3⟩
      · exact .inl h5
      · refine .inr ⟨hn5, gi, ci, ei, c1, c2, own_keep c3 fun k hk => heap_set _ _ _ _ (fun e => ?_)⟩
        rw [ei] at hk c3
        have e2 : gi = k := by simpa [Value.ownBlock] using hk
        obtain ⟨cur, hcur⟩ := hrow
        have e3 : k = gr := e
        subst e2
        subst e3
        rcases c3.2 with ⟨e, _⟩ | ⟨g', cap, cur', e, _, hh, _⟩
        · cases e
        · injection e with e1; injection e1 with e1; injection e1 with e1; subst e1
          rw [hcur] at hh; injection hh with hh; injection hh with _ hh; exact absurd hh (by decide)
end Go.Proofs.YtpfagdmmhgcmnaaGreatDoor

namespace Go.Proofs.YtpfagdmmhgcmnaaGreatDoor
open Go.RowKit
/- The statements' own helpers: marking rows and tables: the walks. -/
theorem RowsAll.at {w : World} {lo hi : Nat} {vs : List Value} {rows : List TRow} {gr cap n : Nat} (h : RowsAll w lo hi (.slice (some ⟨gr, 0, none⟩) n cap) vs rows) (j : Nat) (hj : j < vs.length) (hj' : j < rows.length) :
    w.cell? ⟨gr, j * 2, none⟩ = some vs[j] ∧ w.cell? ⟨gr, j * 2 + 1, none⟩ = some (.bool rows[j].wh) ∧ (∀ i, w.frozen? ⟨gr, i, none⟩ = false) ∧ lo ≤ gr ∧ gr < hi := by
  rcases h.1 with ⟨h0, _⟩ | ⟨hn, gr', cr, e, b1, b2, b3⟩
  · omega
  · injection e with e e2 _; injection e with e; injection e with e; subst e
    rw [← e2] at b3
    have := b3.1
    have k0 := b3.cellAt (j * 2) (by omega)
    have k1 := b3.cellAt (j * 2 + 1) (by omega)
    obtain ⟨g0, g1⟩ := rowCells_get vs rows j hj hj'
    exact ⟨k0.trans g0, k1.trans g1, fun i => b3.frozenAt i, b1, b2⟩
theorem RowsAll.head {w : World} {lo hi : Nat} {vs : List Value} {rows : List TRow} {gr cap n : Nat} (h : RowsAll w lo hi (.slice (some ⟨gr, 0, none⟩) n cap) vs rows) (hpos : 0 < rows.length) : ∃ cur, w.heap[gr]? = some (.cells cur 48 (0, 0)) := by
  rcases h.1 with ⟨h0, _⟩ | ⟨hn, gr', cr, e, b1, b2, b3⟩
  · omega
  · exact own_type b3
theorem RowsAll.len {w : World} {lo hi : Nat} {v : Value} {vs : List Value} {rows : List TRow} (h : RowsAll w lo hi v vs rows) : ∃ A c, v = .slice A rows.length c := h.1.form
/-- Marking the columns leaves the rows as they were: their blocks are of other types. -/
theorem RowsAll.apart {w w' : World} {lo hi n : Nat} {v vc : Value} {vs : List Value} {rows : List TRow} {X : List Value} (h : RowsAll w lo hi v vs rows) (hc : Own w lo hi 43 2 vc n X) (hhw : hi ≤ w.heap.size)
    (hg : w' = w ∨ ∃ g, 0 < n ∧ (∃ c, vc = .slice (some ⟨g, 0, none⟩) n c) ∧ w.grownBy w' (some g) ∧ lo ≤ g ∧ g < hi) : RowsAll w' lo hi v vs rows := by
  rcases hg with rfl | ⟨g, hn, ⟨c, e⟩, hg, _, _⟩
  · exact h
  · obtain ⟨cur, hcur⟩ : ∃ cur, w.heap[g]? = some (.cells cur 43 (0, 0)) := by
      rcases hc with ⟨h0, _⟩ | ⟨_, g1, c1, e1, _, _, h3⟩
      · omega
      · rcases h3.2 with ⟨e2, _⟩ | ⟨g', cap, cur, e2, _, hh, _⟩
        · rw [e] at e2; cases e2
        · rw [e] at e2; injection e2 with e2; injection e2 with e2; injection e2 with e2; subst e2; exact ⟨cur, hh⟩
    have hne : ∀ (E : TypeId), E ≠ 43 → ∀ (b k n' : Nat) (u : Value) (Y : List Value) (lo' : Nat), w.ownsRow lo' E k u n' Y → u.ownBlock = some b → b < hi → w'.heap[b]? = w.heap[b]? := fun E hE b k n' u Y lo' ho hb hbh => by
      refine hg.block b (by omega) (fun e3 => ?_)
      injection e3 with e3
      subst e3
      rcases ho.2 with ⟨e4, _⟩ | ⟨g', cap, cur', e4, _, hh, _⟩
      · rw [e4] at hb; cases hb
      · rw [e4] at hb
        have e5 : g' = b := by simpa [Value.ownBlock] using hb
        subst e5
        rw [hcur] at hh; injection hh with hh; injection hh with _ hh; exact absurd hh.symm hE
    obtain ⟨h1, h2, h3, h4⟩ := h
    refine ⟨?_, h2, fun j a b => ?_, h4⟩
    · rcases h1 with h1 | ⟨hn1, gr, cr, rfl, b1, b2, b3⟩
      · exact .inl h1
      · exact .inr ⟨hn1, gr, cr, rfl, b1, b2, own_keep b3 fun k hk => by
          have e5 : gr = k := by simpa [Value.ownBlock] using hk
          exact hne _ (by decide) k _ _ _ _ _ b3 hk (by omega)⟩
    · rcases h3 j a b with h5 | ⟨hn1, gr, cr, e6, b1, b2, b3⟩
      · exact .inl h5
      · exact .inr ⟨hn1, gr, cr, e6, b1, b2, own_keep b3 fun k hk => by
          have e5 : gr = k := by rw [e6] at hk; simpa [Value.ownBlock] using hk
          exact hne _ (by decide) k _ _ _ _ _ b3 hk (by omega)⟩
end Go.Proofs.YtpfagdmmhgcmnaaGreatDoor

namespace Go.Proofs.YtpfagdmmhgcmnaaGreatDoor
open Go.RowKit
/- The statements' own helpers: what was marked is found again. -/
theorem keepW {w w1 : World} (hb : Below w.heap.size w w1) {p : Addr} {v : Value} (h : w.cell? p = some v) : w1.cell? p = some v := (hb.cell (World.block_lt_of_cell? w _ h)).trans h
end Go.Proofs.YtpfagdmmhgcmnaaGreatDoor

namespace Go.Proofs.YtpfagdmmhgcmnaaGreatDoor
open Go.RowKit
/- The statements' own helpers: what was marked is found again: rows and tables. -/
/-- What is of one's own reads as what it says. -/
theorem Own.rd {α : Type} {enc : α → List Value} {k : Nat} {hk : ∀ x, (enc x).length = k} {w : World} {lo hi : Nat} {E : TypeId} {A : Option Addr} {n c : Nat} {xs : List α} (h : Own w lo hi E k (.slice A n c) xs.length (xs.flatMap enc)) : Rd (flat k enc hk) w A xs := by
  rcases h with ⟨h0, _⟩ | ⟨hn, g, c', e, h1, h2, h3⟩
  · obtain rfl : xs = [] := List.eq_nil_of_length_eq_zero h0
    exact Rd.nil _ _ _
  · obtain ⟨A1, c1, e1, _, hr⟩ := own_rd (enc := enc) (hk := hk) h3
    injection e1 with e1 _ _
    rw [e1]; exact hr
theorem cell_rd {w : World} {A : Option Addr} {xs : List TCell} (h : Rd (flat 11 cellE (fun _ => rfl)) w A xs) (hs : ∀ x ∈ xs, x.t.size ≤ 1048576) : Rd cellR w A xs := by
  refine ⟨h.1, fun hn => ?_⟩
  obtain ⟨b, o, e, hlt, hc⟩ := h.2 hn
  refine ⟨b, o, e, hlt, fun i hi => ?_⟩
  obtain ⟨cs, hK, hcell⟩ := hc i hi
  exact ⟨cs, ⟨hK, hs _ (List.getElem_mem hi)⟩, hcell⟩
def SizedC (rows : List TRow) : Prop := ∀ r ∈ rows, ∀ x ∈ r.cs, x.t.size ≤ 1048576
theorem Own.cap {w : World} {lo hi : Nat} {E : TypeId} {k : Nat} {v : Value} {n : Nat} {xs : List Value} (h : Own w lo hi E k v n xs) : ∃ A c, v = .slice A n c ∧ n ≤ c := by
  rcases h with ⟨rfl, _, A, c, rfl⟩ | ⟨_, g, c, rfl, _, _, h3⟩
  · exact ⟨A, c, rfl, Nat.zero_le _⟩
  · rcases h3.2 with ⟨e, _⟩ | ⟨g', cap, cur, e, _, _, h4, _⟩
    · cases e
    · injection e with _ _ e; subst e; exact ⟨_, _, rfl, h4⟩
theorem RowsAll.rd {w : World} {lo hi n c : Nat} {A : Option Addr} {vs : List Value} {rows : List TRow} (h : RowsAll w lo hi (.slice A n c) vs rows) (hs : SizedC rows) (hl : rows.length ≤ 9223372036854775807) : Rd rowR w A rows := by
  obtain ⟨h1, h2, h3, h4⟩ := h
  rcases h1 with ⟨h0, _⟩ | ⟨hn, g, c', e, b1, b2, b3⟩
  · obtain rfl : rows = [] := List.eq_nil_of_length_eq_zero h0
    exact Rd.nil _ _ _
  · injection e with e e2 _
    subst e
    subst e2
    refine ⟨hl, fun hne => ⟨g, 0, rfl, (own_lt b3 (b := g) rfl).2, fun j hj => ?_⟩⟩
    have hv : j < vs.length := by omega
    obtain ⟨g0, g1⟩ := rowCells_get vs rows j hv hj
    have h5 := h3 j hv hj
    obtain ⟨A1, c1, e1, e2⟩ := h5.cap
    rw [e1] at h5
    have hrd := cell_rd h5.rd (hs _ (List.getElem_mem hj))
    refine ⟨[vs[j], .bool rows[j].wh], ⟨vs[j], rfl, A1, c1, e1, e2, hrd⟩, fun i u hu => ?_⟩
    have hl := b3.1
    have e0 := b3.cellAt (j * 2) (by omega)
    have e1 := b3.cellAt (j * 2 + 1) (by omega)
    rw [g0] at e0
    rw [g1] at e1
    match i, hu with
    | 0, hu => simp at hu; subst hu; simpa [rowR] using e0
    | 1, hu => simp at hu; subst hu; simpa [rowR] using e1
end Go.Proofs.YtpfagdmmhgcmnaaGreatDoor

namespace Go.Proofs.YtpfagdmmhgcmnaaGreatDoor
open Go.RowKit
/- Copies of slices: slices.Clone at the two element types; what an argument's slice looks like. -/
/-- A slice of an argument: nil, or with an address, and its cells lie there. -/
def Lies {α : Type} (enc : α → List Value) (w : World) (v : Value) (xs : List α) : Prop :=
  (v = .slice none 0 0 ∧ xs = []) ∨ ∃ b o c, v = .slice (some ⟨b, o, none⟩) xs.length c ∧ b < w.heap.size ∧ ∀ j u, (xs.flatMap enc)[j]? = some u → w.cell? ((⟨b, o, none⟩ : Addr).add j) = some u
theorem Lies.below {α : Type} {enc : α → List Value} {w w' : World} {v : Value} {xs : List α} (h : Lies enc w v xs) (hb : Below w.heap.size w w') : Lies enc w' v xs := by
  rcases h with h | ⟨b, o, c, rfl, hlt, hc⟩
  · exact .inl h
  · exact .inr ⟨b, o, c, rfl, Nat.lt_of_lt_of_le hlt hb.size, fun j u hj => keepW hb (hc j u hj)⟩
theorem Lies.of {α : Type} {enc : α → List Value} {k : Nat} {w : World} {base : Nat} {E : TypeId} {v : Value} {xs : List α} (h : w.ownsRow base E k v xs.length (xs.flatMap enc)) : Lies enc w v xs := by
  rcases h.2 with ⟨rfl, h0⟩ | ⟨g, cap, cur, rfl, hb, hh, r⟩
  · exact .inl ⟨rfl, List.eq_nil_of_length_eq_zero h0⟩
  · refine .inr ⟨g, 0, cap, rfl, (own_lt h (b := g) rfl).2, fun j u hj => h.cells (g := g) rfl j u hj⟩
theorem Lies.form {α : Type} {enc : α → List Value} {w : World} {v : Value} {xs : List α} (h : Lies enc w v xs) : ∃ A c, v = .slice A xs.length c := by
  rcases h with ⟨rfl, rfl⟩ | ⟨b, o, c, rfl, _⟩
  · exact ⟨none, 0, rfl⟩
  · exact ⟨_, c, rfl⟩
section
variable {P : Program} (w : World)
end

theorem info_cloneCells : (Tryz.prog.info? 52).map (fun i => (i.zero, i.size, i.bytes)) = some (some (.agg #[.string ⟨#[]⟩, .int .i64 0, .int .i64 0, .int .i64 0, .int .i64 0, .int .i64 0, .int .i64 0, .int .i64 0, .int .i64 0, .int .i64 0, .int .i64 0]), 11, 96) := by kernel_rfl
theorem und_cloneCells : Tryz.prog.underlying 46 = some (.slice 52) := by kernel_rfl
theorem info_cloneCols : (Tryz.prog.info? 43).map (fun i => (i.zero, i.size, i.bytes)) = some (some (.agg #[.int .i64 0, .int .i64 0]), 2, 16) := by kernel_rfl
theorem und_cloneCols : Tryz.prog.underlying 23 = some (.slice 43) := by kernel_rfl
end Go.Proofs.YtpfagdmmhgcmnaaGreatDoor

/- Two of the shelf's tables of numbers at this program, in plain declarations (written by lay-plain.mjs). -/
namespace Go.Proofs
open Go.Shelf
def Tryz.lays264_ren : Go.Shelf.Ren := ⟨fun | 264 => 186 | n => n, fun | 53 => 150 | 46 => 166 | n => n, fun | n => n⟩
theorem Tryz.lays264 : Go.Proofs.Lays.n264 Tryz.prog Tryz.lays264_ren := {
  mixed := by kernel_rfl
  f264 := Tryz.func186.trans (congrArg some (by kernel_rfl))
  t46 := Tryz.underlying166
  a46 := Tryz.isAgg166
  z46 := Tryz.sizeOf166
  v46 := Tryz.zeroValue166
  t53 := Tryz.underlying150
  a53 := Tryz.isAgg150
  z53 := Tryz.sizeOf150
  v53 := Tryz.zeroValue150 }
end Go.Proofs

namespace Go.Proofs.YtpfagdmmhgcmnaaGreatDoor
open Go.RowKit
/- What is shared: sums, what may be shared, who comes ahead, slices.Repeat and Clone of numbers. -/
theorem sum_take (xs : List Int) (k : Nat) (h : k < xs.length) : sumI (xs.take (k + 1)) = sumI (xs.take k) + xs.getD k 0 := by
  rw [List.take_succ_eq_append_getElem h, sumI_append, sumI_cons, sumI_nil, List.getD_eq_getElem?_getD, List.getElem?_eq_getElem h]
  simp
theorem sum_bound {xs : List Int} {B : Int} (h : ∀ x ∈ xs, 0 ≤ x ∧ x ≤ B) (k : Nat) : 0 ≤ sumI (xs.take k) ∧ sumI (xs.take k) ≤ B * xs.length := by
  have h1 : ∀ x ∈ xs.take k, 0 ≤ x ∧ x ≤ B := fun x hx => h x (List.mem_of_mem_take hx)
  refine ⟨sumI_nonneg fun x hx => (h1 x hx).1, ?_⟩
  have h2 := sumI_le (l := xs.take k) (m := B) fun x hx => (h1 x hx).2
  rcases Nat.eq_zero_or_pos xs.length with z | z
  · have : xs = [] := List.eq_nil_of_length_eq_zero z
    subst this; simp [sumI_nil]
  · have hB : 0 ≤ B := by
      have := h xs[0] (List.getElem_mem z)
      omega
    have h3 : B * ((xs.take k).length : Int) ≤ B * xs.length := Int.mul_le_mul_of_nonneg_left (by simp; omega) hB
    omega
theorem int_at {xs : List Int} {P : Int → Prop} (h : ∀ x ∈ xs, P x) (k : Nat) (hk : k < xs.length) : P (xs.getD k 0) := by
  rw [List.getD_eq_getElem?_getD, List.getElem?_eq_getElem hk]
  exact h _ (List.getElem_mem hk)
set_option maxHeartbeats 1000000 in
theorem impl_sumOf (A : Option Addr) (c : Nat) (xs : List Int) (w : World) (hr : Rd intR w A xs) (hb : ∀ x ∈ xs, 0 ≤ x ∧ x ≤ 1000000) (hn : xs.length ≤ 1000000) :
    Calls Tryz.prog 112 #[.slice A xs.length c] w (fun e w' => e = .returned (.int .i64 (sumI xs)) ∧ w' = w) := by
  have HR := hide hr
  have HB := hide hb
  clear hr hb
  go_enter Tryz.func112, Tryz.ntmps112
  go_wp2_with fail
  go_loopg [3, 5, 8] xs.length (fun gg s3 s5 s8 wr => ∃ kk : Nat, kk ≤ xs.length ∧ xs.length - kk ≤ gg ∧ s3 = .int .i64 (sumI (xs.take kk)) ∧ s8 = .int .i64 kk ∧ wr = w)
  case atStart => exact ⟨0, Nat.zero_le _, by omega, by simp [sumI_nil], rfl, rfl⟩
  case round =>
    obtain ⟨kk, hkk, hg, rfl, rfl, rfl⟩ := hrel
    by_cases hlt : kk < xs.length
    · have hltz : (kk : Int) < (xs.length : Int) := by omega
      obtain ⟨b, o, rfl, hlb, hcell⟩ := rd_int HR.out (brefl _) kk hlt
      have hs := hide (sum_take xs kk hlt)
      have hb1 := sum_bound HB.out kk
      have hb2 := int_at HB.out kk hlt
      generalize sumI (xs.take kk) = s at hs hb1 ⊢
      generalize xs.getD kk 0 = y at hs hcell hb2
      have t1 : IntKind.i64.wrap (s + y) = s + y := by rw [IntKind.wrap_i64]; omega
      go_wp2_with fail
      go_roundg (xs.length - (kk + 1))
      case measure => omega
      case rel => exact ⟨kk + 1, by omega, by omega, by rw [hs.out], by go_num, rfl⟩
    · have hltz : ¬ (kk : Int) < (xs.length : Int) := by omega
      have hk : kk = xs.length := by omega
      have hs := hide (show sumI (xs.take kk) = sumI xs by rw [hk, List.take_length])
      clear hk
      go_wp2_with fail
      go_ret
      exact ⟨by rw [hs.out]; rfl, rfl⟩
set_option maxHeartbeats 1000000 in
theorem spec_l1Sum (A : Option Addr) (c : Nat) (xs : List Int) (w : World) (hr : Rd intR w A xs) (hb : ∀ x ∈ xs, 0 ≤ x ∧ x ≤ 1000000) (hn : xs.length ≤ 1000000) :
    Calls Tryz.prog 90 #[.slice A xs.length c] w (fun e w' => e = .returned (.int .i64 (sumI xs)) ∧ w' = w) := by
  have HR := hide hr
  have HB := hide hb
  clear hr hb
  go_enter Tryz.func90, Tryz.ntmps90
  go_wp2_with fail
  go_loopg [3, 4] xs.length (fun gg s3 s4 wr => ∃ kk : Nat, kk ≤ xs.length ∧ xs.length - kk ≤ gg ∧ s3 = .int .i64 (sumI (xs.take kk)) ∧ s4 = .int .i64 kk ∧ wr = w)
  case atStart => exact ⟨0, Nat.zero_le _, by omega, by simp [sumI_nil], rfl, rfl⟩
  case round =>
    obtain ⟨kk, hkk, hg, rfl, rfl, rfl⟩ := hrel
    by_cases hlt : kk < xs.length
    · have hltz : (kk : Int) < (xs.length : Int) := by omega
      obtain ⟨b, o, rfl, hlb, hcell⟩ := rd_int HR.out (brefl _) kk hlt
      have hs := hide (sum_take xs kk hlt)
      have hb1 := sum_bound HB.out kk
      have hb2 := int_at HB.out kk hlt
      generalize sumI (xs.take kk) = s at hs hb1 ⊢
      generalize xs.getD kk 0 = y at hs hcell hb2
      have t1 : IntKind.i64.wrap (s + y) = s + y := by rw [IntKind.wrap_i64]; omega
      go_wp2_with fail
      go_roundg (xs.length - (kk + 1))
      case measure => omega
      case rel => exact ⟨kk + 1, by omega, by omega, by rw [hs.out], by go_num, rfl⟩
    · have hltz : ¬ (kk : Int) < (xs.length : Int) := by omega
      have hk : kk = xs.length := by omega
      have hs := hide (show sumI (xs.take kk) = sumI xs by rw [hk, List.take_length])
      clear hk
      go_wp2_with fail
      go_ret
      exact ⟨by rw [hs.out]; rfl, rfl⟩
/-- What may be shared. -/
def ShrIn (total : Int) (ws : List Int) : Prop := (0 ≤ total ∧ total ≤ 100000) ∧ (∀ x ∈ ws, 0 ≤ x ∧ x ≤ 100000) ∧ ws.length ≤ 100
theorem impl_ShrOk1 (w : World) : Pred Tryz.prog 172 #[] intR one (fun x => !inB x 0 100000) w := by
  rintro W x cs hb rfl
  show Calls _ _ #[.int .i64 x] W _
  go_enter Tryz.func172, Tryz.ntmps172
  go_wp2_with (go_at_call 76; refine (impl_in _ _ _ _).mono ?_; rintro e w' ⟨rfl, rfl⟩)
  go_ret
  exact ⟨rfl, brefl _⟩
set_option maxHeartbeats 1000000 in
theorem impl_ShrOk (total : Int) (A : Option Addr) (c : Nat) (ws : List Int) (w : World) (hr : Rd intR w A ws) (h : ShrIn total ws) :
    Calls Tryz.prog 154 #[.int .i64 total, .slice A ws.length c] w fun e w' => e = .returned (.bool true) ∧ Below w.heap.size w w' := by
  have hany := any_int intR rfl (fun x => !inB x 0 100000) 172 #[] (enters_of Tryz.func172 (by kernel_rfl) rfl) A c ws w (impl_ShrOk1 w) hr
  have hno : (ws.any fun x => !inB x 0 100000) = false := by
    rw [List.any_eq_false]
    intro x hx
    have := h.2.1 x hx
    simp [inB]; omega
  rw [hno] at hany
  have hin1 : inB total 0 100000 = true := by simp [inB]; exact h.1
  have hl : ((ws.length : Nat) : Int) ≤ 100 := by have := h.2.2; omega
  clear hr h hno
  go_enter Tryz.func154, Tryz.ntmps154
  go_wp2_with (go_at_call 76; refine (impl_in _ _ _ _).mono ?_; rintro e w' ⟨rfl, rfl⟩)
  refine hany.mono ?_
  rintro e w' ⟨rfl, hb⟩
  go_wp2_with fail
  go_ret
  exact ⟨rfl, hb⟩
theorem impl_isNaN (x : Int) (w : World) : Calls Tryz.prog 176 #[.int .i64 x] w fun e w' => e = .returned (.bool false) ∧ w' = w := by
  go_enter Tryz.func176, Tryz.ntmps176
  go_wp2_with fail
  go_ret
  exact ⟨by simp, rfl⟩
theorem impl_Compare (x y : Int) (w : World) : Calls Tryz.prog 159 #[.int .i64 x, .int .i64 y] w fun e w' => e = .returned (.int .i64 (if x < y then -1 else if y < x then 1 else 0)) ∧ w' = w := by
  go_enter Tryz.func159, Tryz.ntmps159
  by_cases h1 : x < y
  · rw [if_pos h1]
    go_wp2_with (go_at_call 176; refine (impl_isNaN _ _).mono ?_; rintro e w' ⟨rfl, rfl⟩)
    go_ret
    exact ⟨rfl, rfl⟩
  · rw [if_neg h1]
    by_cases h2 : y < x
    · rw [if_pos h2]
      go_wp2_with (go_at_call 176; refine (impl_isNaN _ _).mono ?_; rintro e w' ⟨rfl, rfl⟩)
      go_ret
      exact ⟨rfl, rfl⟩
    · rw [if_neg h2]
      go_wp2_with (go_at_call 176; refine (impl_isNaN _ _).mono ?_; rintro e w' ⟨rfl, rfl⟩)
      go_ret
      exact ⟨rfl, rfl⟩
end Go.Proofs.YtpfagdmmhgcmnaaGreatDoor

namespace Go.Proofs.YtpfagdmmhgcmnaaGreatDoor
open Go.RowKit
/- What is shared: the order, slices.Repeat and Clone of numbers, ShrShare. -/
theorem lib_Mul64 (n : Nat) (hn : n < 18446744073709551616) (w : World) : Calls Tryz.prog 186 #[.int .u64 1, .int .u64 n] w fun e w' => e = .returned (.tuple #[.int .u64 0, .int .u64 n]) ∧ w' = w := by
  have h := Any.bits_Mul64 Tryz.lays264 1 n (by decide) hn w
  rw [Nat.one_mul, Nat.div_eq_of_lt hn, Nat.mod_eq_of_lt hn] at h
  exact h
theorem lib_Mul (n : Nat) (hn : n < 18446744073709551616) (w : World) : Calls Tryz.prog 174 #[.int .u64 1, .int .u64 n] w fun e w' => e = .returned (.tuple #[.int .u64 0, .int .u64 n]) ∧ w' = w := by
  have h := lib_Mul64 n hn w
  go_enter Tryz.func174, Tryz.ntmps174
  go_wp2_with (go_at_call 186; refine h.mono ?_; rintro e w' ⟨rfl, rfl⟩)
  exact bodyPost_ret (v := .tuple #[.int .u64 0, .int .u64 n]) (by simp [results, Tryz.results174, go_sem]) rfl ⟨rfl, rfl⟩
def onesV (k n : Nat) : List Value := List.replicate k (.int .i64 1) ++ List.replicate (n - k) (.int .i64 0)
theorem onesV_splice {k n j : Nat} (h : k + j ≤ n) : splice (onesV k n) k (List.replicate j (.int .i64 1)) = onesV (k + j) n := by
  unfold splice onesV
  rw [List.take_append_of_le_length (by simp), List.take_of_length_le (by simp), List.length_replicate, List.drop_append, List.drop_of_length_le (by simp), List.length_replicate, show k + j - k = j by omega, List.drop_replicate, List.nil_append, ← List.append_assoc, List.replicate_append_replicate, Nat.sub_sub]
theorem und_ints : Tryz.prog.underlying 28 = some (.slice 3) := by kernel_rfl
theorem info_ints : (Tryz.prog.info? 3).map (fun i => (i.zero, i.size, i.bytes)) = some (some (.int .i64 0), 1, 8) := by kernel_rfl
theorem size_ints : (Tryz.prog.info? 3).map (·.size) = some 1 := by kernel_rfl
theorem own_heap {w : World} {base g n : Nat} {X : List Value} (hb : base ≤ g) (hh : w.heap[g]? = some (.cells X.toArray 3 (0, 0))) (hl : X.length = n) (hn : n ≤ 1000000) : w.ownsRow base 3 1 (.slice (some ⟨g, 0, none⟩) n n) n X :=
  ⟨by rw [hl, Nat.mul_one], .inr ⟨g, n, X.toArray, rfl, hb, hh, Nat.le_refl _, by unfold maxLen; omega, by simp; omega, by simp [← hl]⟩⟩
set_option maxRecDepth 100000 in
set_option maxHeartbeats 4000000 in
theorem rep_ones (b n : Nat) (w : World) (hc : w.cell? ⟨b, 0, none⟩ = some (.int .i64 1)) (h1 : 1 ≤ n) (hn : n ≤ 1000000) :
    Calls Tryz.prog 156 #[.slice (some ⟨b, 0, none⟩) 1 1, .int .i64 n] w fun e w' => ∃ v, e = .returned v ∧ IOwn w' w.heap.size v (List.replicate n 1) ∧ Below w.heap.size w w' := by
  have hmul := lib_Mul n (by omega) w
  have hmk := make_eq (P := Tryz.prog) (z := .int .i64 0) (k := 1) (bytes := 8) und_ints info_ints n (by omega) (by omega)
  have t1 : IntKind.u64.wrap (n : Int) = (n : Int) := by rw [IntKind.wrap_u64]; omega
  have t2 : IntKind.i64.wrap (n : Int) = (n : Int) := by rw [IntKind.wrap_i64]; omega
  have e0 : madeCells (Value.int .i64 0).cells (n * 1) = (onesV 0 n).toArray := by
    unfold onesV madeCells
    refine Array.ext (by simp) fun i h1 h2 => ?_
    simp [Value.cells, Nat.mod_one]
  rw [e0] at hmk
  go_enter Tryz.func156, Tryz.ntmps156
  have e1 : splice (onesV 0 n) 0 [.int .i64 1] = onesV 1 n := onesV_splice (k := 0) (j := 1) (by omega)
  have E1 := hide e1
  have hgF : ∀ W : World, Hid ((W.alloc (.cells (onesV 0 n).toArray 3)).heap[W.heap.size]? = some (.cells (onesV 0 n).toArray 3 (0, 0))) := fun W => by show (W.heap.push _)[_]? = _; rw [Array.getElem?_push_size]
  clear e0 e1
  go_upto_region 7 with (go_at_call 174; refine hmul.mono ?_; rintro e w' ⟨rfl, rfl⟩)
  go_wp2_with (refine wpList_copy_splice rfl (.tmp 31) (.tmp 32) 28 28 rfl 3 und_ints size_ints (some ⟨w'.heap.size, 0, none⟩) (some ⟨b, 0, none⟩) n n 1 1 rfl rfl w'.heap.size 0 (onesV 0 n) 3 ?qg [.int .i64 1] ?qn ?qp ?qf ?q1 w'.heap.size w' (balloc (brefl _) _) (Nat.le_refl _) ?_)
  case qg => exact (hgF _).out
  case qn => simp only [List.length_singleton, Nat.min_def]; split <;> omega
  case qp =>
    intro j v hj
    have : j = 0 := by have := (List.getElem?_eq_some_iff.1 hj).1; simp at this; omega
    subst this; simp at hj; subst hj
    exact keepC (balloc (brefl _) _) hc
  case qf => simp [onesV]; omega
  case q1 => intro v hv; rw [List.mem_singleton.1 hv]; rfl
  intro w2 HG2 hB2
  have HG3 := HG2.out
  rw [E1.out] at HG3
  have HG4 := hide HG3
  clear HG2 HG3 hmul hmk E1 t1 t2
  obtain ⟨g, hg⟩ : ∃ g, g = w'.heap.size := ⟨_, rfl⟩
  rw [← hg] at HG4 hB2 ⊢
  have HGG := hide hg
  have HB2 := hide hB2
  clear hg hB2 hgF
  go_wp2_with fail
  go_loopg [8] n (fun gg s8 wr => ∃ k : Nat, s8 = .int .i64 k ∧ 1 ≤ k ∧ k ≤ n ∧ n - k ≤ gg ∧ Aside (wr.heap[g]? = some (.cells (onesV k n).toArray 3 (0, 0))) ∧ Aside (Below g w' wr))
  case atStart => exact ⟨1, rfl, Nat.le_refl _, h1, by omega, HG4.out, HB2.out⟩
  case round =>
    obtain ⟨k, rfl, hk1, hkn, hgg, HG, HB⟩ := hrel
    by_cases hlt : k < n
    · have hltz : (k : Int) < (n : Int) := by omega
      obtain ⟨m, hm⟩ : ∃ m, m = Nat.min k (n - k) := ⟨_, rfl⟩
      have hm1 : 1 ≤ m ∧ k + m ≤ n := by rw [hm]; simp only [Nat.min_def]; split <;> omega
      have s1 : Hid (wr.drew.heap[g]? = some (.cells (onesV k n).toArray 3 (0, 0))) := HG.out
      have s2 : Hid ((List.replicate m (Value.int .i64 1)).length = Nat.min k (n - k)) := by show _ = _; rw [List.length_replicate]; exact hm
      have hcell : ∀ j, j < k → wr.drew.cell? ⟨g, j, none⟩ = some (.int .i64 1) := fun j hj => by
        have e := s1.out
        unfold World.cell?
        simp only [e]
        have : (onesV k n)[j]? = some (.int .i64 1) := by unfold onesV; rw [List.getElem?_append_left (by simpa using hj)]; simp [hj]
        simpa using this
      have s3 : Hid (∀ j v, (List.replicate m (Value.int .i64 1))[j]? = some v → wr.drew.cell? ⟨g, j, none⟩ = some v) := fun j v hj => by
        have hjm : j < m := by have := (List.getElem?_eq_some_iff.1 hj).1; simpa using this
        rw [List.getElem?_replicate, if_pos hjm] at hj
        injection hj with hj
        subst hj
        exact hcell j (by have : m ≤ k := by rw [hm]; exact Nat.min_le_left _ _
                          omega)
      have s4 : Hid (k + (List.replicate m (Value.int .i64 1)).length ≤ (onesV k n).length) := by show _ ≤ _; simp [onesV]; omega
      have s5 : Hid (∀ v ∈ List.replicate m (Value.int .i64 1), v.oneCell' = true) := fun v hv => by rw [List.eq_of_mem_replicate hv]; rfl
      have s6 : Hid (Below g w' wr.drew) := HB.out.drew
      have s7 : Hid (splice (onesV k n) k (List.replicate m (.int .i64 1)) = onesV (k + m) n) := onesV_splice hm1.2
      have t3 : IntKind.i64.wrap ((k : Int) + (m : Int)) = ((k + m : Nat) : Int) := by rw [IntKind.wrap_i64]; omega
      have hkc : ¬ n = k := by omega
      have hm2 := hm1.1
      have hm3 := hm1.2
      clear hm hm1 HG HB hcell
      go_wp2_with fail
      go_region_law (refine step_copy_splice rfl (.tmp 41) (.tmp 44) 28 28 rfl 3 und_ints size_ints (some ⟨g, k, none⟩) (some ⟨g, 0, none⟩) (n - k) (n - k) k n (by simp [Act.eval, Act.put, *]) (by simp [Act.eval, Act.put, *]) g k (onesV k n) 3 s1.out (List.replicate m (.int .i64 1)) s2.out (fun _ => ⟨rfl, _, rfl, fun j v hj => by rw [Addr.add_lit, Nat.zero_add]; exact s3.out j v hj⟩) s4.out s5.out g w' s6.out (Nat.le_refl _) ?_; intro w4 hg4 hb4)
      clear s1 s2 s3 s4 s5 s6
      have HG5 := hg4.out
      rw [s7.out] at HG5
      have HG6 := hide HG5
      have HB6 := hide hb4
      clear hg4 hb4 HG5 s7
      go_wp2_with fail
      go_roundg (n - (k + m))
      case measure => omega
      case rel => exact ⟨k + m, by first | rfl | go_num, by omega, by omega, by omega, HG6.out, HB6.out⟩
    · have hltz : ¬ (k : Int) < (n : Int) := by omega
      have hk : k = n := by omega
      subst hk
      go_wp2_with fail
      go_ret
      refine ⟨_, rfl, ?_, ?_⟩
      · have e : (List.replicate k (1 : Int)).flatMap intE = onesV k k := by rw [flat_map]; simp [onesV]
        unfold IOwn
        rw [e, List.length_replicate]
        exact own_heap (by have := HGG.out; omega) HG.out (by simp [onesV]) (by omega)
      · have := HB.out; rw [HGG.out] at this; exact this
end Go.Proofs.YtpfagdmmhgcmnaaGreatDoor

namespace Go.Proofs.YtpfagdmmhgcmnaaGreatDoor
open Go.RowKit
/- What is shared: slices.Clone of numbers, who comes ahead, ShrShare. -/
theorem ints_one (xs : List Int) : ∀ u ∈ xs.flatMap intE, u.oneCell' = true := by
  intro u hu
  obtain ⟨x, _, h⟩ := List.mem_flatMap.1 hu
  simp only [intE, List.mem_cons, List.not_mem_nil, or_false] at h
  subst h; rfl
set_option maxRecDepth 100000 in
set_option maxHeartbeats 2000000 in
theorem cloneInts (v : Value) (xs : List Int) (w : World) (h : Lies intE w v xs) (hn : xs.length ≤ 1048576) :
    Calls Tryz.prog 155 #[v] w fun e w' => ∃ v', e = .returned v' ∧ IOwn w' w.heap.size v' xs ∧ Below w.heap.size w w' := by
  have q22 : ∀ (w : World) (a : Option Addr) (n c n' c' : Nat), (binOp .eql 28 (.slice a n c) (.slice none n' c')).run Tryz.prog w = .ok (.bool a.isNone) w := fun w a n c n' c' => Lib.run_eql_slice_nil w _ _ a n c n' c' und_ints
  rcases h with ⟨rfl, rfl⟩ | ⟨b, o, c, rfl, hlt, hc⟩
  · go_enter Tryz.func155, Tryz.ntmps155
    go_wp2_with fail
    go_ret
    exact ⟨_, rfl, IOwn.nil _ _, brefl _⟩
  · have HC := hide hc
    clear hc
    obtain ⟨i0, hi, hz0, hz1, hz2⟩ := info_parts info_ints
    go_enter Tryz.func155, Tryz.ntmps155
    go_wp2_with (at_builtin; refine wpList_append_own _ rfl _ _ 28 rfl w.heap.size 3 i0 _ 1 8 und_ints hi hz0 hz1 hz2 rfl (by decide) _ _ _ rfl (World.ownsRow_made w #[] 0 (Nat.le_refl _) (Nat.zero_le _) (by simp)) ⟨b, o, none⟩ xs.length c (xs.flatMap intE) rfl ?qc1 ?qc2 ?qc3 ?qc4 ?qc5 ?qc6 ?_)
    case qc1 => exact flatMap_length intE 1 (fun _ => rfl) xs
    case qc2 => exact fun j u hj => keepW (balloc (brefl _) _) (HC.out j u hj)
    case qc3 => exact ints_one xs
    case qc4 => unfold maxLen; omega
    case qc5 => omega
    case qc6 => simp
    intro v' w1 hown hgrow hnil
    go_wp2_with fail
    go_ret
    exact ⟨v', rfl, by simpa [IOwn] using hown, ((Below.refl _ w).alloc (Nat.le_refl _) _).grown hgrow (by simp) (by intro k hk; simp [Value.ownBlock] at hk; omega)⟩
theorem left_get (total sum : Int) (vs : List Int) (k : Nat) : (leftL total sum vs).getD k 0 = total * vs.getD k 0 % sum := by
  unfold leftL
  rw [List.getD_eq_getElem?_getD, List.getD_eq_getElem?_getD, List.getElem?_map]
  cases vs[k]? <;> simp
theorem mul_in {a b : Int} (ha : 0 ≤ a ∧ a ≤ 100000) (hb : 0 ≤ b ∧ b ≤ 100000) : 0 ≤ a * b ∧ a * b ≤ 10000000000 := by
  refine ⟨Int.mul_nonneg ha.1 hb.1, ?_⟩
  have h1 : a * b ≤ 100000 * b := Int.mul_le_mul_of_nonneg_right ha.2 hb.1
  omega
/-- Who comes ahead: the program's closure. -/
theorem shr_less (total sum : Int) (vs : List Int) (T Wb Sb b o c g n : Nat) (w : World) (ht : 0 ≤ total ∧ total ≤ 100000) (hv : ∀ x ∈ vs, 0 ≤ x ∧ x ≤ 100000) (hs : 0 < sum ∧ sum ≤ 100000000) (hn : vs.length = n)
    (cT : w.cell? ⟨T, 0, none⟩ = some (.int .i64 total)) (cW : w.cell? ⟨Wb, 0, none⟩ = some (.slice (some ⟨b, o, none⟩) n c)) (cS : w.cell? ⟨Sb, 0, none⟩ = some (.int .i64 sum))
    (hr : Rd intR w (some ⟨b, o, none⟩) vs) (nT : T ≠ g) (nW : Wb ≠ g) (nS : Sb ≠ g) (nb : b ≠ g) (hnn : n ≤ 1000) :
    CmpOk 158 #[.pointer (some ⟨T, 0, none⟩), .pointer (some ⟨Wb, 0, none⟩), .pointer (some ⟨Sb, 0, none⟩)] (leftL total sum vs) n g w := by
  intro W x y hG hx hy
  have keep : ∀ (B i : Nat) (v : Value), B ≠ g → w.cell? ⟨B, i, none⟩ = some v → W.cell? ⟨B, i, none⟩ = some v := fun B i v hB hc => by
    have hlt := World.block_lt_of_cell? w _ hc
    rw [World.cell?_of_block (hG.block B hlt (fun e => by injection e with e; exact hB e))]
    exact hc
  have dT := keep T 0 _ nT cT
  have dW := keep Wb 0 _ nW cW
  have dS := keep Sb 0 _ nS cS
  obtain ⟨b1, o1, e1, _, c1⟩ := rd_int hr (brefl _) x (by omega)
  obtain ⟨b2, o2, e2, _, c2⟩ := rd_int hr (brefl _) y (by omega)
  injection e1 with e1; injection e1 with e1 e1'; subst e1; subst e1'
  injection e2 with e2; injection e2 with e2 e2'; subst e2; subst e2'
  have d1 := keep _ _ _ nb c1
  have d2 := keep _ _ _ nb c2
  have hvx := int_at hv x (by omega)
  have hvy := int_at hv y (by omega)
  have hcz : cmpZ (leftL total sum vs) x y = (if total * vs.getD y 0 % sum < total * vs.getD x 0 % sum then -1 else if total * vs.getD x 0 % sum < total * vs.getD y 0 % sum then 1 else 0) := by
    unfold cmpZ; rw [left_get, left_get]
  rw [hcz]
  generalize vs.getD x 0 = p at d1 hvx ⊢
  generalize vs.getD y 0 = q at d2 hvy ⊢
  obtain ⟨m1, m2⟩ := mul_in ht hvx
  obtain ⟨m3, m4⟩ := mul_in ht hvy
  have hcmp := impl_Compare (total * q % sum) (total * p % sum)
  have r1 : (total * p).tmod sum = total * p % sum := Int.tmod_eq_emod_of_nonneg m1
  have r2 : (total * q).tmod sum = total * q % sum := Int.tmod_eq_emod_of_nonneg m3
  have l1 := Int.emod_nonneg (total * p) (show sum ≠ 0 by omega)
  have l2 := Int.emod_nonneg (total * q) (show sum ≠ 0 by omega)
  have u1 := Int.emod_lt_of_pos (total * p) hs.1
  have u2 := Int.emod_lt_of_pos (total * q) hs.1
  have t1 : IntKind.i64.wrap (total * p) = total * p := by rw [IntKind.wrap_i64]; omega
  have t2 : IntKind.i64.wrap (total * q) = total * q := by rw [IntKind.wrap_i64]; omega
  have hs0 : ¬ sum = 0 := by omega
  have hs1 : (sum == 0) = false := by simp; omega
  generalize hP : total * p = P at *
  generalize hQ : total * q = Q at *
  have t3 : IntKind.i64.wrap (P.tmod sum) = P % sum := by rw [r1, IntKind.wrap_i64]; omega
  have t4 : IntKind.i64.wrap (Q.tmod sum) = Q % sum := by rw [r2, IntKind.wrap_i64]; omega
  have z1 : (x : Int) < (n : Int) := by omega
  have z2 : (y : Int) < (n : Int) := by omega
  have HP := hide hP
  have HQ := hide hQ
  generalize (if Q % sum < P % sum then (-1 : Int) else if P % sum < Q % sum then 1 else 0) = cz at hcmp ⊢
  have HC := hide hcmp
  clear hr keep cT cW cS c1 c2 hG hcz m1 m2 m3 m4 l1 l2 u1 u2 hv hcmp hvx hvy ht
  show Calls _ _ #[.int .i64 (x : Int), .int .i64 (y : Int), .pointer (some ⟨T, 0, none⟩), .pointer (some ⟨Wb, 0, none⟩), .pointer (some ⟨Sb, 0, none⟩)] W _
  go_enter Tryz.func158, Tryz.ntmps158
  go_wp2_with fail
  go_quiet (first | (go_at_call 159; refine Calls.quiet_of_same (HC.out _)))
  go_wp2_with fail
  go_ret
  exact ⟨rfl, _, rfl⟩
end Go.Proofs.YtpfagdmmhgcmnaaGreatDoor
