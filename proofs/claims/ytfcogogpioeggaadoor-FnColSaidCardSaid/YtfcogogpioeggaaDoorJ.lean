import Derived.Test.YtfcogogpioeggaaDoorH
namespace Go.Proofs.YtfcogogpioeggaaDoor
open Go.RowKit
/- The grid: bounds of what is placed, and how a world grows by an append. -/
theorem free_le {L : List GCell} {c : GCell} {B : Nat} (hB : ∀ k : Nat, L.any (meets (atCol c k)) = true → k < B) : ∀ (m k : Nat), freeFrom L c m k ≤ max k B
  | 0, k => by simp [freeFrom]; omega
  | m + 1, k => by
    unfold freeFrom
    split
    · rename_i h
      have := free_le hB m (k + 1)
      have := hB k h
      omega
    · omega
theorem free_fuel {L : List GCell} {c : GCell} : ∀ (m k : Nat), freeFrom L c m k ≤ k + m
  | 0, k => by simp [freeFrom]
  | m + 1, k => by
    unfold freeFrom
    split
    · have := free_fuel (L := L) (c := c) m (k + 1); omega
    · omega
theorem free_hit {L : List GCell} {c : GCell} {m k : Nat} (h : L.any (meets (atCol c k)) = true) : freeFrom L c (m + 1) k = freeFrom L c m (k + 1) := by rw [freeFrom, if_pos h]
theorem free_stop {L : List GCell} {c : GCell} {k : Nat} (h : L.any (meets (atCol c k)) = false) : ∀ m, freeFrom L c m k = k
  | 0 => rfl
  | m + 1 => by rw [freeFrom, if_neg (by simp [h])]

/-- What holds of all that so many steps have placed. -/
def GIn (n : Nat) (S : List GCell × Int) : Prop :=
  S.1.length ≤ n ∧ (∀ x ∈ S.1, (0 ≤ x.row ∧ x.row ≤ 8) ∧ (0 ≤ x.col ∧ x.col + x.cols ≤ 4 * n) ∧ (-8 ≤ x.rows ∧ x.rows ≤ 8) ∧ (1 ≤ x.cols ∧ x.cols ≤ 4) ∧ (0 ≤ x.inn ∧ x.inn ≤ 8)) ∧ 1 ≤ S.2 ∧ S.2 ≤ 8 + 4 * n
theorem GIn.sm {n : Nat} {S : List GCell × Int} (h : GIn n S) (hn : n ≤ 1000) : ∀ x ∈ S.1, GSm x := by
  intro x hx
  obtain ⟨⟨a1, a2⟩, ⟨a3, a4⟩, ⟨a5, a6⟩, ⟨a7, a8⟩, a9, a10⟩ := h.2.1 x hx
  refine ⟨?_, ?_, ?_, ?_, ?_⟩ <;> constructor <;> omega
theorem GIn.le {n n' : Nat} {S : List GCell × Int} (h : GIn n S) (hn : n ≤ n') : GIn n' S := by
  refine ⟨by have := h.1; omega, fun x hx => ?_, h.2.2.1, by have := h.2.2.2; omega⟩
  obtain ⟨b1, ⟨b2, b3⟩, b4⟩ := h.2.1 x hx
  exact ⟨b1, ⟨b2, by omega⟩, b4⟩
theorem GIn.blocked {n : Nat} {S : List GCell × Int} (h : GIn n S) (c : GCell) (k : Nat) (hb : S.1.any (meets (atCol c k)) = true) : k < 4 * n := by
  obtain ⟨x, hx, hm⟩ := List.any_eq_true.1 hb
  have := (h.2.1 x hx).2.1.2
  unfold meets at hm
  rw [Bool.and_eq_true, Bool.and_eq_true] at hm
  have h2 := of_decide_eq_true hm.1.2
  simp only [atCol] at h2
  omega
theorem GIn.free {n : Nat} {S : List GCell × Int} (h : GIn n S) (c : GCell) (m : Nat) : freeFrom S.1 c m 0 ≤ 4 * n := by
  have := free_le (fun k hk => h.blocked c k hk) m 0
  omega
theorem GIn.step {n : Nat} {S : List GCell × Int} (h : GIn n S) (m : Nat) (t : Tbl) (r i : Nat) (x : TCell) (hr : r ≤ 8) (hi : i ≤ 8) (hc : 1 ≤ x.c ∧ x.c ≤ 4) (hs : -8 ≤ (cell0 t r i x).rows ∧ (cell0 t r i x).rows ≤ 8) :
    GIn (n + 1) (step1 m t r i x S) := by
  have hk := h.free (cell0 t r i x) m
  unfold step1
  generalize freeFrom S.1 (cell0 t r i x) m 0 = K at hk ⊢
  dsimp only
  refine ⟨by simp only [List.length_append, List.length_singleton]; have := h.1; omega, ?_, ?_, ?_⟩
  · intro y hy
    simp only [List.mem_append, List.mem_singleton] at hy
    rcases hy with hy | rfl
    · obtain ⟨b1, ⟨b2, b3⟩, b4⟩ := h.2.1 y hy
      exact ⟨b1, ⟨b2, by omega⟩, b4⟩
    · refine ⟨⟨?_, ?_⟩, ⟨?_, ?_⟩, hs, ?_, ?_, ?_⟩ <;> simp only [atCol, cell0] <;> omega
  · have := h.2.2.1; omega
  · have := h.2.2.2; omega
theorem GIn.zero (t : Tbl) (h : t.cols.length ≤ 8) : GIn 0 (grid0 t) := ⟨by simp [grid0], by simp [grid0], by simp only [grid0]; omega, by simp only [grid0]; omega⟩

/-- Behind an append. -/
theorem grown_seen {w w1 : World} {row : Option Nat} (hg : w.grownBy w1 row) (k : Nat) (hk : k < w.heap.size) (hne : row ≠ some k) :
    (∀ i, w1.cell? ⟨k, i, none⟩ = w.cell? ⟨k, i, none⟩) ∧ (∀ i, w1.frozen? ⟨k, i, none⟩ = w.frozen? ⟨k, i, none⟩) ∧ k < w1.heap.size := by
  have h := hg.block k hk (fun e => hne e.symm)
  exact ⟨fun i => World.cell?_of_block h, fun i => World.frozen?_of_block h, Nat.lt_of_lt_of_le hk hg.size⟩
theorem grown_below {w w1 : World} {row : Option Nat} {B : Nat} (hg : w.grownBy w1 row) (hB : B ≤ w.heap.size) (hne : ∀ k, row = some k → B ≤ k) : Below B w w1 :=
  ⟨hg.os, hg.tape, hg.output, hg.size, fun k hk => hg.block k (by omega) (fun e => by have := hne k e.symm; omega)⟩
theorem tblOk_parts {t : Tbl} (h : tblOk t = true) : (1 ≤ t.rows.length ∧ t.rows.length ≤ 8) ∧ t.cols.length ≤ 8 ∧ (0 ≤ t.gap ∧ t.gap ≤ 3) ∧ (0 ≤ t.head ∧ t.head ≤ t.rows.length) ∧ (0 ≤ t.foot ∧ t.foot ≤ t.rows.length - t.head) ∧
    (∀ x ∈ t.cols, colOk x = true) ∧ (∀ y ∈ t.rows, y.cs.length ≤ 5 ∧ ∀ x ∈ y.cs, cellOk x = true) := by
  simp only [tblOk, inB, Bool.and_eq_true, decide_eq_true_eq, List.all_eq_true] at h
  obtain ⟨⟨h1, h2⟩, h3, ⟨h4, h5⟩, ⟨h6, h7⟩, ⟨h8, h9⟩, h10, h11⟩ := h
  refine ⟨by omega, by omega, ⟨h4, h5⟩, ⟨h6, h7⟩, ⟨h8, h9⟩, h10, fun y hy => ?_⟩
  obtain ⟨k1, k2⟩ := h11 y hy
  exact ⟨by omega, k2⟩
theorem cellOk_parts {x : TCell} (h : cellOk x = true) : (1 ≤ x.c ∧ x.c ≤ 4) ∧ (1 ≤ x.r ∧ x.r ≤ 4) := by
  simp only [cellOk, inB, Bool.and_eq_true, decide_eq_true_eq] at h
  exact ⟨h.2.1, h.2.2.1⟩
theorem end_bounds {t : Tbl} (h : tblOk t = true) {r : Nat} (hr : r < t.rows.length) : (r : Int) < endOf t r ∧ endOf t r ≤ 8 := by
  obtain ⟨⟨_, h1⟩, _, _, ⟨h3, h4⟩, ⟨h5, h6⟩, _⟩ := tblOk_parts h
  unfold endOf
  split
  · omega
  · split <;> omega
theorem rows_bounds {t : Tbl} (h : tblOk t = true) {r : Nat} (hr : r < t.rows.length) (i : Nat) (x : TCell) (hx : 1 ≤ x.r ∧ x.r ≤ 4) : 1 ≤ (cell0 t r i x).rows ∧ (cell0 t r i x).rows ≤ 8 := by
  have := end_bounds h hr
  simp only [cell0]
  omega
theorem letter1 {f : World → Prop} {W : World} (h : ∀ wy, wy = W → f wy) : f W := h W rfl
theorem keepC {w w1 : World} (hb : Below w.heap.size w w1) {p : Addr} {v : Value} (h : w.cell? p = some v) : w1.cell? p = some v := (hb.cell (World.block_lt_of_cell? w _ h)).trans h
theorem keepF {w w1 : World} (hb : Below w.heap.size w w1) {k : Nat} (hk : k < w.heap.size) (h : ∀ i, w.frozen? ⟨k, i, none⟩ = false) : ∀ i, w1.frozen? ⟨k, i, none⟩ = false := fun i => ((seenBk k hk hb).2.1 i).trans (h i)
theorem max_int (ats : Array TypeId) (ty : TypeId) (k k' : IntKind) (x y : Int) : Builtin.max_ ats ty #[.int k x, .int k' y] = pure (.int k (max x y)) := by
  simp only [Builtin.max_, List.foldlM_cons, List.foldlM_nil, Builtin.max2, gt_iff_lt]
  have : (if x < y then y else x) = max x y := by split <;> omega
  rw [this]; rfl
theorem min_int (ats : Array TypeId) (ty : TypeId) (k k' : IntKind) (x y : Int) : Builtin.min_ ats ty #[.int k x, .int k' y] = pure (.int k (min x y)) := by
  simp only [Builtin.min_, List.foldlM_cons, List.foldlM_nil, Builtin.min2]
  have : (if y < x then y else x) = min x y := by split <;> omega
  rw [this]; rfl
/-- Behind 'append(v, x)': x was laid in a block of its own. -/
theorem app_keep {w w2 : World} {o : Obj} {v : Value} (hg : (w.alloc o).grownBy w2 v.ownBlock) (b : Nat) (hb : b < w.heap.size) (hne : v.ownBlock ≠ some b) :
    (∀ i, w2.cell? ⟨b, i, none⟩ = w.cell? ⟨b, i, none⟩) ∧ (∀ i, w2.frozen? ⟨b, i, none⟩ = w.frozen? ⟨b, i, none⟩) ∧ b < w2.heap.size := by
  have hs : b < (w.alloc o).heap.size := by simp; omega
  obtain ⟨h1, h2, h3⟩ := grown_seen hg b hs hne
  obtain ⟨k1, k2, _⟩ := seenBk b hb (balloc (brefl w) o)
  exact ⟨fun i => (h1 i).trans (k1 i), fun i => (h2 i).trans (k2 i), h3⟩
theorem app_below {w0 w w2 : World} {o : Obj} {v : Value} {base E k n : Nat} {xs : List Value} (hB : Below w0.heap.size w0 w) (ho : w.ownsRow base E k v n xs) (hbase : w0.heap.size ≤ base) (hg : (w.alloc o).grownBy w2 v.ownBlock) : Below w0.heap.size w0 w2 :=
  (balloc hB o).trans (grown_below hg (by have := hB.size; simp; omega) (fun b hb => by have := (own_lt ho hb).1; omega))
theorem own_form {w : World} {base E k n : Nat} {v : Value} {xs : List Value} (h : w.ownsRow base E k v n xs) : ∃ A c, v = .slice A n c := by
  rcases h.2 with ⟨rfl, rfl⟩ | ⟨g, cap, cur, rfl, _⟩
  · exact ⟨none, 0, rfl⟩
  · exact ⟨_, _, rfl⟩
theorem own_set {w : World} {base E k n : Nat} {v : Value} {xs : List Value} (h : w.ownsRow base E k v n xs) {a : Addr} (ha : a.block < base) (u : Value) : (w.setCell a u).ownsRow base E k v n xs :=
  own_keep h fun b hb => heap_set w a u b (by have := (own_lt h hb).1; omega)
theorem setO {w : World} {a b : Addr} {u v : Value} (h : w.cell? b = some v) (hne : a ≠ b) : (w.setCell a u).cell? b = some v := by rw [World.cell?_setCell_other (h := hne)]; exact h
theorem setS {w : World} {a : Addr} {u v : Value} (h : w.cell? a = some u) : (w.setCell a v).cell? a = some v := by rw [World.cell?_setCell_same (h := h)]
theorem setF {w : World} {a : Addr} {u : Value} {b : Nat} (h : ∀ i, w.frozen? ⟨b, i, none⟩ = false) : ∀ i, (w.setCell a u).frozen? ⟨b, i, none⟩ = false := fun i => by rw [World.frozen?_setCell]; exact h i
theorem step_facts {m : Nat} {t : Tbl} {r i q : Nat} {x : TCell} {S : List GCell × Int} (hk : freeFrom S.1 (cell0 t r i x) m 0 = q) :
    (step1 m t r i x S).1 = S.1 ++ [⟨r, q, min x.r (endOf t r - r), x.c, i⟩] ∧ (step1 m t r i x S).2 = max S.2 (q + x.c) := by
  unfold step1; rw [hk]; exact ⟨rfl, rfl⟩
theorem step_own {m : Nat} {t : Tbl} {r i q : Nat} {x : TCell} {S : List GCell × Int} (hk : freeFrom S.1 (cell0 t r i x) m 0 = q) {w : World} {base E : Nat} {v : Value}
    (h : w.ownsRow base E 5 v (S.1.length + 1) (S.1.flatMap gcE ++ [.int .i64 r, .int .i64 q, .int .i64 (min x.r (endOf t r - r)), .int .i64 x.c, .int .i64 i])) :
    w.ownsRow base E 5 v (step1 m t r i x S).1.length ((step1 m t r i x S).1.flatMap gcE) := by
  rw [(step_facts hk).1]
  simpa [gcE, List.flatMap_append] using h
theorem news5 {w : World} {b : Nat} {u0 u1 u2 u3 u4 : Value} (h0 : w.cell? ⟨b, 0, none⟩ = some u0) (h1 : w.cell? ⟨b, 1, none⟩ = some u1) (h2 : w.cell? ⟨b, 2, none⟩ = some u2) (h3 : w.cell? ⟨b, 3, none⟩ = some u3) (h4 : w.cell? ⟨b, 4, none⟩ = some u4) :
    ∀ j u, [u0, u1, u2, u3, u4][j]? = some u → w.cell? ((⟨b, 0, none⟩ : Addr).add j) = some u := by
  intro j u hj
  have hadd : ∀ k, (⟨b, 0, none⟩ : Addr).add k = ⟨b, k, none⟩ := fun k => by rw [Addr.add_lit, Nat.zero_add]
  rw [hadd]
  match j, hj with
  | 0, hj => simp at hj; subst hj; exact h0
  | 1, hj => simp at hj; subst hj; exact h1
  | 2, hj => simp at hj; subst hj; exact h2
  | 3, hj => simp at hj; subst hj; exact h3
  | 4, hj => simp at hj; subst hj; exact h4
theorem ints5 (k : IntKind) (a b c d e : Int) : ∀ u ∈ [Value.int k a, .int k b, .int k c, .int k d, .int k e], u.oneCell' = true := by
  intro u hu
  simp only [List.mem_cons, List.not_mem_nil, or_false] at hu
  rcases hu with rfl | rfl | rfl | rfl | rfl <;> rfl
theorem infoG : (Tryd.prog.info? 88).map (fun i => (i.zero, i.size, i.bytes)) = some (some (.agg #[.int .i64 0, .int .i64 0, .int .i64 0, .int .i64 0, .int .i64 0]), 5, 40) := by kernel_rfl
theorem undG : Tryd.prog.underlying 43 = some (.slice 88) := by kernel_rfl
end Go.Proofs.YtfcogogpioeggaaDoor
