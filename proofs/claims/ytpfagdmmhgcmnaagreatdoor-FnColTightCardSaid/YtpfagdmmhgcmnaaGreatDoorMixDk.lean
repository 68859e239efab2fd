import Derived.Test.YtpfagdmmhgcmnaaGreatDoorMixDh
import Derived.Test.YtpfagdmmhgcmnaaGreatDoorMixW
import Derived.Test.YtpfagdmmhgcmnaaGreatDoorMixT
set_option linter.unusedVariables false
set_option linter.unusedSimpArgs false
namespace Go.Proofs.YtpfagdmmhgcmnaaGreatDoor
open Go.RowKit
structure Kd (R : Nat) where
 P : Value → World → Prop
 mono : ∀ {v : Value} {W W' : World}, W.grownBy W' (some R) → P v W → P v W'
theorem grow_blk {W W' : World} {R X : Nat} (hg : W.grownBy W' (some R)) (hX : X ≠ R) (hl : X < W.heap.size) : W'.heap[X]? = W.heap[X]? := hg.block X hl (fun e => by injection e with e; omega)
def kAny (R : Nat) : Kd R := ⟨fun _ _ => True, fun _ _ => trivial⟩
def kVal (R : Nat) (u : Value) : Kd R := ⟨fun v _ => v = u, fun _ h => h⟩
def kInt (R : Nat) (p : Int → Prop) : Kd R := ⟨fun v _ => ∃ z : Int, v = .int .i64 z ∧ p z, fun _ h => h⟩
def kTab (R n : Nat) (p : Int → Prop) : Kd R :=
  ⟨fun v W => ∃ X, v = .slice (some ⟨X, 0, none⟩) n n ∧ (∀ j, j < n → ∃ z : Int, p z ∧ W.cell? ⟨X, j, none⟩ = some (.int .i64 z)) ∧ X ≠ R ∧ X < W.heap.size,
   fun hg ⟨X, h1, h2, h3, h4⟩ => ⟨X, h1, fun j hj => by obtain ⟨z, a, b⟩ := h2 j hj; exact ⟨z, a, (World.cell?_of_block (grow_blk hg h3 h4)).trans b⟩, h3, Nat.lt_of_lt_of_le h4 hg.size⟩⟩
def kElt (R : Nat) (p : Int → Prop) : Kd R :=
  ⟨fun v W => ∃ (X q : Nat) (z : Int), v = .pointer (some ⟨X, q, none⟩) ∧ p z ∧ W.cell? ⟨X, q, none⟩ = some (.int .i64 z) ∧ X ≠ R ∧ X < W.heap.size,
   fun hg ⟨X, q, z, h1, h2, h3, h4, h5⟩ => ⟨X, q, z, h1, h2, (World.cell?_of_block (grow_blk hg h4 h5)).trans h3, h4, Nat.lt_of_lt_of_le h5 hg.size⟩⟩
def colBd (x : TCol) : Prop := 0 ≤ x.k ∧ x.k ≤ 3 ∧ -1 ≤ x.n ∧ x.n ≤ 101
def kCol (R : Nat) : Kd R := ⟨fun v _ => ∃ x : TCol, v = .agg #[.int .i64 x.k, .int .i64 x.n] ∧ colBd x, fun _ h => h⟩
def kCols (R n : Nat) : Kd R :=
  ⟨fun v W => ∃ X, v = .slice (some ⟨X, 0, none⟩) n n ∧ (∀ j, j < n → ∃ x : TCol, colBd x ∧ W.cell? ⟨X, j * 2, none⟩ = some (.int .i64 x.k) ∧ W.cell? ⟨X, j * 2 + 1, none⟩ = some (.int .i64 x.n)) ∧ X ≠ R ∧ X < W.heap.size,
   fun hg ⟨X, h1, h2, h3, h4⟩ => ⟨X, h1, fun j hj => by obtain ⟨z, a, b, c⟩ := h2 j hj; exact ⟨z, a, (World.cell?_of_block (grow_blk hg h3 h4)).trans b, (World.cell?_of_block (grow_blk hg h3 h4)).trans c⟩, h3, Nat.lt_of_lt_of_le h4 hg.size⟩⟩
def kColP (R : Nat) : Kd R :=
  ⟨fun v W => ∃ (X q : Nat) (x : TCol), v = .pointer (some ⟨X, q, none⟩) ∧ colBd x ∧ W.cell? ⟨X, q, none⟩ = some (.int .i64 x.k) ∧ W.cell? ⟨X, q + 1, none⟩ = some (.int .i64 x.n) ∧ X ≠ R ∧ X < W.heap.size,
   fun hg ⟨X, q, x, h1, h2, h3, h3', h4, h5⟩ => ⟨X, q, x, h1, h2, (World.cell?_of_block (grow_blk hg h4 h5)).trans h3, (World.cell?_of_block (grow_blk hg h4 h5)).trans h3', h4, Nat.lt_of_lt_of_le h5 hg.size⟩⟩
def kCell (R : Nat) : Kd R := ⟨fun v _ => ∃ c : TCell, v = .agg #[.string c.t, .int .i64 c.c, .int .i64 c.r, .int .i64 c.top.s, .int .i64 c.top.w, .int .i64 c.right.s, .int .i64 c.right.w, .int .i64 c.bot.s, .int .i64 c.bot.w, .int .i64 c.left.s, .int .i64 c.left.w] ∧ cellBd c, fun _ h => h⟩
def kCell1 (R : Nat) : Kd R :=
  ⟨fun v W => ∃ (X : Nat) (c : TCell), v = .slice (some ⟨X, 0, none⟩) 1 1 ∧ cellBd c ∧ (∀ (j : Nat) (u : Value), (cellE c)[j]? = some u → W.cell? ⟨X, j, none⟩ = some u) ∧ X ≠ R ∧ X < W.heap.size,
   fun hg ⟨X, c, h1, h2, h3, h4, h5⟩ => ⟨X, c, h1, h2, fun j u hu => (World.cell?_of_block (grow_blk hg h4 h5)).trans (h3 j u hu), h4, Nat.lt_of_lt_of_le h5 hg.size⟩⟩
theorem kCell1_new (R : Nat) (W : World) (c : TCell) (T : TypeId) (hc : cellBd c) (hR : R < W.heap.size) :
  (kCell1 R).P (.slice (some ⟨W.heap.size, 0, none⟩) 1 1) (W.alloc (.cells #[.string c.t, .int .i64 c.c, .int .i64 c.r, .int .i64 c.top.s, .int .i64 c.top.w, .int .i64 c.right.s, .int .i64 c.right.w, .int .i64 c.bot.s, .int .i64 c.bot.w, .int .i64 c.left.s, .int .i64 c.left.w] T)) := by
 refine ⟨W.heap.size, c, rfl, hc, fun j u hu => ?_, by omega, by simp⟩
 exact cell_new _ _ _ _ _ _ (by simpa [cellE] using hu)
theorem news_of {w : World} {X : Nat} {xs : List Value} (h : ∀ (j : Nat) (u : Value), xs[j]? = some u → w.cell? ⟨X, j, none⟩ = some u) : ∀ (j : Nat) (u : Value), xs[j]? = some u → w.cell? ((⟨X, 0, none⟩ : Addr).add j) = some u := fun j u hu => by
 have : (⟨X, 0, none⟩ : Addr).add j = ⟨X, j, none⟩ := by simp [Addr.add]; intro e; exact e.symm
 rw [this]
 exact h j u hu
def gcnt (cost : Nat → Nat) (l : Array Bool) : Nat → Nat
 | 0 => 0
 | n + 1 => gcnt cost l n + if l.getD n false then cost n else 0
theorem gcnt_set {cost : Nat → Nat} {l : Array Bool} {i : Nat} (hl : l.getD i true = false) (hi : i < l.size) : ∀ n, gcnt cost (l.setIfInBounds i true) n = gcnt cost l n + if i < n then cost i else 0
 | 0 => by simp [gcnt]
 | n + 1 => by
  have hf : l.getD i false = false := by rw [getD_any hi false true]; exact hl
  have ht : (l.setIfInBounds i true).getD i false = true := by simp [Array.getD, hi]
  rw [gcnt, gcnt, gcnt_set hl hi n]
  by_cases e : i = n
  ·
   subst e; rw [ht, hf]; simp
  ·
   rw [getD_set_ne false e]
   have : (i < n + 1) = (i < n) := by simp; omega
   simp only [this]; omega
theorem gcnt_le (cost : Nat → Nat) (l : Array Bool) : ∀ n, gcnt cost l n ≤ gcnt cost (Array.replicate n true) n
 | n => by
  have : ∀ (m : Nat), m ≤ n → gcnt cost l m ≤ gcnt cost (Array.replicate n true) m := by
   intro m
   induction m with
   | zero => intro _; exact Nat.le_refl _
   | succ m ih =>
    intro hm
    have ht : (Array.replicate n true).getD m false = true := by simp [Array.getD, show m < n by omega]
    rw [gcnt, gcnt, ht]
    have := ih (by omega)
    split <;> simp <;> omega
  exact this n (Nat.le_refl _)
structure GMid {R : Nat} (K : Nat → Kd R) (cost : Nat → Nat) (dep : Nat → List Nat) (n m : Nat) (V : World) (N : Nat) (l : Array Bool) (vs : Nat → Value) (W : World) : Prop where
 size : l.size = n
 rdr : ∃ p, RdrOk W R p ∧ p ≤ N + gcnt cost l n
 grown : V.grownBy W (some R)
 held : ∀ j, l.getD j false = true → (K j).P (vs j) W
 clo : ∀ j, l.getD j false = true → (dep j).all (fun d => l.getD d false) = true
 last : ∀ j, m ≤ j → l.getD j false = false
section
variable {R : Nat} {K : Nat → Kd R} {cost : Nat → Nat} {dep : Nat → List Nat} {n m : Nat} {V : World} {N : Nat} {l : Array Bool} {vs : Nat → Value} {W W' : World}
theorem GMid.next (h : GMid K cost dep n m V N l vs W) {i : Nat} (hl : l.getD i true = false) (hm : i < m) (hi : i < n) (hd : (dep i).all (fun d => l.getD d false) = true) (v : Value)
  (hg : W.grownBy W' (some R)) (hr : ∀ p, RdrOk W R p → p ≤ N + gcnt cost l n → ∃ p', RdrOk W' R p' ∧ p' ≤ N + gcnt cost l n + cost i) (hF : (K i).P v W') : GMid K cost dep n m V N (l.setIfInBounds i true) (updV vs i v) W' := by
 have hi' : i < l.size := by rw [h.size]; exact hi
 obtain ⟨p, hp1, hp2⟩ := h.rdr
 obtain ⟨p', hp1', hp2'⟩ := hr p hp1 hp2
 have hup : ∀ (L : List Nat), L.all (fun d => l.getD d false) = true → L.all (fun d => (l.setIfInBounds i true).getD d false) = true := fun L hL => by
  rw [List.all_eq_true] at hL ⊢
  intro d hdL
  by_cases e : i = d
  ·
   subst e; simp [Array.getD, hi']
  ·
   rw [getD_set_ne false e]; exact hL d hdL
 refine ⟨by simpa using h.size, ⟨p', hp1', by rw [gcnt_set hl hi', if_pos hi]; omega⟩, grow_trans h.grown hg, fun j hj => ?_, fun j hj => ?_, fun j hj => by rw [getD_set_ne false (by omega)]; exact h.last j hj⟩
 ·
  unfold updV
  by_cases e : j = i
  ·
   subst e; rw [if_pos rfl]; exact hF
  ·
   rw [if_neg e]
   rw [getD_set_ne false (Ne.symm e)] at hj
   exact (K j).mono hg (h.held j hj)
 ·
  by_cases e : j = i
  ·
   subst e; exact hup _ hd
  ·
   rw [getD_set_ne false (Ne.symm e)] at hj
   exact hup _ (h.clo j hj)
theorem GMid.still (h : GMid K cost dep n m V N l vs W) {i : Nat} (hl : l.getD i true = false) (hm : i < m) (hi : i < n) (hd : (dep i).all (fun d => l.getD d false) = true) (v : Value) (hF : (K i).P v W) : GMid K cost dep n m V N (l.setIfInBounds i true) (updV vs i v) W :=
 h.next hl hm hi hd v (grow_refl W _) (fun p h1 h2 => ⟨p, h1, by omega⟩) hF
theorem GMid.made (h : GMid K cost dep n m V N l vs W) {i : Nat} (hl : l.getD i true = false) (hm : i < m) (hi : i < n) (hd : (dep i).all (fun d => l.getD d false) = true) (v : Value) (o : Obj) (hF : (K i).P v (W.alloc o)) : GMid K cost dep n m V N (l.setIfInBounds i true) (updV vs i v) (W.alloc o) :=
 h.next hl hm hi hd v (World.grownBy_alloc W _ _) (fun p h1 h2 => ⟨p, h1.below (balloc (brefl W) _), by omega⟩) hF
theorem GMid.picked (h : GMid K cost dep n m V N l vs W) {i : Nat} (hl : l.getD i true = false) (hm : i < m) (hi : i < n) (hd : (dep i).all (fun d => l.getD d false) = true) (v : Value) {p : Nat} (hp : p ≤ N + gcnt cost l n) (hg : W.grownBy W' (some R)) (hr : RdrOk W' R (p + cost i)) (hF : (K i).P v W') : GMid K cost dep n m V N (l.setIfInBounds i true) (updV vs i v) W' :=
 h.next hl hm hi hd v hg (fun _ _ _ => ⟨p + cost i, hr, by omega⟩) hF
theorem GMid.start (hr : RdrOk W R N) : GMid K cost dep n m W N (Array.replicate n false) vs W :=
 ⟨by simp, ⟨N, hr, by omega⟩, grow_refl _ _, fun j hj => by simp [Array.getD] at hj, fun j hj => by simp [Array.getD] at hj, fun j _ => by simp [Array.getD]⟩
theorem GMid.le (_h : GMid K cost dep n m V N l vs W) {c : Nat} (hc : gcnt cost (Array.replicate n true) n = c) : N + gcnt cost l n ≤ N + c := by
 have := gcnt_le cost l n
 omega
theorem all_mem {L : List Nat} {d : Nat} (h : L.all (fun d => l.getD d false) = true) (hd : d ∈ L) : l.getD d false = true := List.all_eq_true.1 h d hd
end
theorem kTab_new (R n : Nat) (p : Int → Prop) (W : World) (zs : List Int) (T : TypeId) (hn : zs.length = n) (hp : ∀ z ∈ zs, p z) (hR : R < W.heap.size) : (kTab R n p).P (.slice (some ⟨W.heap.size, 0, none⟩) n n) (W.alloc (.cells (zs.map (Value.int .i64)).toArray T)) := by
 refine ⟨W.heap.size, rfl, fun j hj => ?_, by omega, by simp⟩
 have hj' : j < zs.length := by omega
 exact ⟨zs[j], hp _ (List.getElem_mem hj'), cell_new _ _ _ _ _ _ (by simp [hj'])⟩
end Go.Proofs.YtpfagdmmhgcmnaaGreatDoor
namespace Go.Proofs.YtpfagdmmhgcmnaaGreatDoor
open Go.RowKit
theorem own_typed {w : World} {base : Nat} {E : TypeId} {k n : Nat} {v : Value} {xs : List Value} (h : w.ownsRow base E k v n xs) {b : Nat} (hb : v.ownBlock = some b) : ∃ cs, w.heap[b]? = some (.cells cs E (0, 0)) := by
 rcases h.2 with ⟨rfl, _⟩ | ⟨g, cap, cur, rfl, _, hh, _⟩
 ·
  cases hb
 ·
  have : g = b := by simpa [Value.ownBlock] using hb
  subst this
  exact ⟨cur, hh⟩
theorem own_two {w : World} {base base' : Nat} {E E' : TypeId} {k k' n n' : Nat} {v v' : Value} {xs xs' : List Value} (h : w.ownsRow base E k v n xs) (h' : w.ownsRow base' E' k' v' n' xs') (hne : E ≠ E') : Apart v v' := by
 intro b hb hb'
 obtain ⟨c, e⟩ := own_typed h hb
 obtain ⟨c', e'⟩ := own_typed h' hb'
 rw [e] at e'
 injection e' with e'
 injection e' with _ e'
 exact hne e'
theorem own_beside {w w' : World} {base : Nat} {E : TypeId} {k n : Nat} {v u : Value} {xs : List Value} (h : w.ownsRow base E k v n xs) (hg : w.grownBy w' u.ownBlock) (ha : Apart v u) : w'.ownsRow base E k v n xs :=
 own_keep h fun b hb => hg.block b (own_lt h hb).2 (fun e => ha b hb e.symm)
theorem OwnRows.beside {w w' : World} {base : Nat} {E F : TypeId} {v u : Value} {rows : List TRow} (h : OwnRows w base E F v rows) (hg : w.grownBy w' u.ownBlock) (ha : Apart v u) (hu : ∀ b, u.ownBlock = some b → ∃ cs E', w.heap[b]? = some (.cells cs E' (0, 0)) ∧ E' ≠ F) : OwnRows w' base E F v rows := by
 obtain ⟨vs, h1, h2, h3⟩ := h
 refine ⟨vs, own_beside h1 hg ha, ⟨h2.1, fun j a b => own_beside (h2.2.1 j a b) hg (fun k hk hk' => ?_), h2.2.2⟩, h3⟩
 obtain ⟨cs, e⟩ := own_typed (h2.2.1 j a b) hk
 obtain ⟨cs', E', e', hne⟩ := hu k hk'
 rw [e] at e'
 injection e' with e'
 injection e' with _ e'
 exact hne e'.symm
theorem own_grow {w w' : World} {base R : Nat} {E : TypeId} {k n : Nat} {v : Value} {xs : List Value} (h : w.ownsRow base E k v n xs) (hR : R < base) (hg : w.grownBy w' (some R)) : w'.ownsRow base E k v n xs :=
 own_keep h fun b hb => hg.block b (own_lt h hb).2 (fun e => by have := (own_lt h hb).1; injection e with e; omega)
theorem OwnRows.grow {w w' : World} {base R : Nat} {E F : TypeId} {v : Value} {rows : List TRow} (h : OwnRows w base E F v rows) (hR : R < base) (hg : w.grownBy w' (some R)) : OwnRows w' base E F v rows := by
 obtain ⟨vs, h1, h2, h3⟩ := h
 exact ⟨vs, own_grow h1 hR hg, ⟨h2.1, fun j a b => own_grow (h2.2.1 j a b) hR hg, h2.2.2⟩, h3⟩
theorem OwnRows.nil (w : World) (base : Nat) (E F : TypeId) : OwnRows w base E F (.slice none 0 0) [] :=
 ⟨[], ⟨by simp [rowCells], .inl ⟨rfl, rfl⟩⟩, RowsIn.nil _ _ _, fun a ha => by simp at ha⟩
theorem OwnRows.snoc {w w' : World} {base : Nat} {E F : TypeId} {v v' vx : Value} {rows : List TRow} {r : TRow} (hEF : E ≠ F) {vs : List Value} (h1 : w.ownsRow base E 2 v rows.length (rowCells vs rows)) (h2 : RowsIn w base F vs rows)
  (hx : w.ownsRow base F 11 vx r.cs.length (r.cs.flatMap cellE)) (ha : ∀ a ∈ vs, Apart a vx) (hg : w.grownBy w' v.ownBlock) (ho : w'.ownsRow base E 2 v' (rows.length + 1) (rowCells vs rows ++ [vx, .bool r.wh])) : OwnRows w' base E F v' (rows ++ [r]) := by
 have hk : ∀ {k n : Nat} {u : Value} {xs : List Value}, w.ownsRow base F k u n xs → w'.ownsRow base F k u n xs := fun h => own_beside h hg (own_two h h1 (Ne.symm hEF))
 have h2' : RowsIn w' base F vs rows := ⟨h2.1, fun j a b => hk (h2.2.1 j a b), h2.2.2⟩
 have h3 := h2'.snoc (hk hx) ha
 refine ⟨vs ++ [vx], by rw [rowCells_snoc _ _ _ _ h2.1, List.length_append, List.length_singleton]; exact ho, h3, fun a ha => ?_⟩
 obtain ⟨j, hj, rfl⟩ := List.getElem_of_mem ha
 exact own_two ho (h3.2.1 j hj (by rw [← h3.1]; exact hj)) hEF
def zeros5 : List Value := [.slice none 0 0, .int .i64 0, .int .i64 0, .slice none 0 0, .int .i64 0]
def tvals (vc vr : Value) (t : Tbl) : List Value := [vc, .int .i64 t.head, .int .i64 t.foot, vr, .int .i64 t.gap]
structure TSt (w W : World) (R N H T : Nat) (vc vr : Value) (t : Tbl) : Prop where
 rdr : RdrOk W R N
 grown : w.grownBy W (some R)
 pos : w.heap.size ≤ H ∧ R < w.heap.size ∧ H < T ∧ T < W.heap.size
 res : BlockAt W H zeros5
 blk : BlockAt W T (tvals vc vr t)
 cols : W.ownsRow (T + 1) 43 2 vc t.cols.length (t.cols.flatMap colE)
 rows : OwnRows W (T + 1) 48 52 vr t.rows
theorem TSt.pick {w W W' : World} {R N N' H T : Nat} {vc vr : Value} {t : Tbl} (h : TSt w W R N H T vc vr t) (hR : RdrOk W' R N') (hg : W.grownBy W' (some R)) : TSt w W' R N' H T vc vr t := by
 obtain ⟨p1, p2, p3, p4⟩ := h.pos
 exact ⟨hR, grow_trans h.grown hg, ⟨p1, p2, p3, Nat.lt_of_lt_of_le p4 hg.size⟩, h.res.keep (grow_blk hg (by omega) (by omega)), h.blk.keep (grow_blk hg (by omega) (by omega)), own_grow h.cols (by omega) hg, h.rows.grow (by omega) hg⟩
theorem TSt.alloc {w W : World} {R N H T : Nat} {vc vr : Value} {t : Tbl} (h : TSt w W R N H T vc vr t) (o : Obj) : TSt w (W.alloc o) R N H T vc vr t :=
 h.pick (h.rdr.below (balloc (brefl W) o)) (World.grownBy_alloc W o (some R))
theorem TSt.mono {w W : World} {R N N' H T : Nat} {vc vr : Value} {t : Tbl} (h : TSt w W R N H T vc vr t) (hN : N ≤ N') : TSt w W R N' H T vc vr t :=
 ⟨h.rdr.mono hN, h.grown, h.pos, h.res, h.blk, h.cols, h.rows⟩
theorem TSt.field {w W : World} {R N H T : Nat} {vc vr : Value} {t t' : Tbl} (h : TSt w W R N H T vc vr t) (k : Nat) (hk : k < 5) (v : Value) (e : (tvals vc vr t).set k v = tvals vc vr t') (hc : t'.cols = t.cols) (hr : t'.rows = t.rows) : TSt w (W.setCell ⟨T, k, none⟩ v) R N H T vc vr t' := by
 obtain ⟨p1, p2, p3, p4⟩ := h.pos
 refine ⟨rdr_set h.rdr (by show R < T; omega) _, grow_setN h.grown (by show _ ≤ T; omega) _, ⟨p1, p2, p3, by simpa using p4⟩, h.res.other (by show T ≠ H; omega) _, e ▸ h.blk.set (by exact hk) _, ?_, ?_⟩
 ·
  rw [hc]; exact own_setA h.cols (by show T < T + 1; omega) _
 ·
  rw [hr]; exact h.rows.set (by show T < T + 1; omega) _
theorem TSt.col {w W W' : World} {R N N' H T : Nat} {vc v' vr : Value} {t : Tbl} (h : TSt w W R N H T vc vr t) (hN : N ≤ N') (x : TCol) (hg : W.grownBy W' vc.ownBlock) (ho : W'.ownsRow (T + 1) 43 2 v' (t.cols.length + 1) (t.cols.flatMap colE ++ colE x)) :
  TSt w (W'.setCell ⟨T, 0, none⟩ v') R N' H T v' vr { t with cols := t.cols ++ [x] } := by
 obtain ⟨p1, p2, p3, p4⟩ := h.pos
 have hlow : ∀ b, b ≤ T → W'.heap[b]? = W.heap[b]? := fun b hb => hg.block b (by omega) (fun e => by have := (own_lt h.cols e.symm).1; omega)
 have hgw : w.grownBy W' (some R) := ⟨hg.os.trans h.grown.os, hg.tape.trans h.grown.tape, hg.output.trans h.grown.output, Nat.le_trans h.grown.size hg.size, fun k hk hne => (hlow k (by omega)).trans (h.grown.block k hk hne)⟩
 have hR := h.rdr.grow hg (fun g e => by have := (own_lt h.cols e).1; omega)
 refine ⟨(rdr_set hR (by show R < T; omega) _).mono hN, grow_setN hgw (by show _ ≤ T; omega) _, ⟨p1, p2, p3, by have := hg.size; simp; omega⟩, (h.res.keep (hlow H (by omega))).other (by show T ≠ H; omega) _, ?_, ?_, ?_⟩
 ·
  exact (h.blk.keep (hlow T (Nat.le_refl _))).set (k := 0) (by show 0 < 5; omega) v'
 ·
  refine own_setA ?_ (by show T < T + 1; omega) _
  simp only [List.length_append, List.length_singleton, List.flatMap_append, List.flatMap_singleton]
  exact ho
 ·
  refine OwnRows.set ?_ (by show T < T + 1; omega) _
  obtain ⟨vs, r1, r2, r3⟩ := h.rows
  exact h.rows.beside hg (own_two r1 h.cols (by decide)) (fun b hb => by obtain ⟨cs, e⟩ := own_typed h.cols hb; exact ⟨cs, _, e, by decide⟩)
def ColS1 (w : World) (R N H T : Nat) (vc vr : Value) (t : Tbl) (x : TCol) (v' : Value) (W : World) : Prop :=
 ∃ W0, TSt w W0 R N H T vc vr t ∧ W0.grownBy W vc.ownBlock ∧ W.ownsRow (T + 1) 43 2 v' (t.cols.length + 1) (t.cols.flatMap colE ++ colE x)
theorem ColS1.blk {w W : World} {R N H T : Nat} {vc vr v' : Value} {t : Tbl} {x : TCol} (h : ColS1 w R N H T vc vr t x v' W) : BlockAt W T (tvals vc vr t) := by
 obtain ⟨W0, h1, h2, _⟩ := h
 have := h1.pos
 exact h1.blk.keep (h2.block T (by omega) (fun e => by have := (own_lt h1.cols e.symm).1; omega))
theorem ColS1.done {w W : World} {R N N' H T : Nat} {vc vr v' : Value} {t : Tbl} {x : TCol} (h : ColS1 w R N H T vc vr t x v' W) (hN : N ≤ N') : TSt w (W.setCell ⟨T, 0, none⟩ v') R N' H T v' vr { t with cols := t.cols ++ [x] } := by
 obtain ⟨W0, h1, h2, h3⟩ := h
 exact h1.col hN x h2 h3
theorem own_sl {w : World} {base : Nat} {E : TypeId} {k n : Nat} {v : Value} {xs : List Value} (h : w.ownsRow base E k v n xs) : ∃ A c, v = .slice A n c := by
 rcases h.2 with ⟨rfl, rfl⟩ | ⟨g, cap, cur, rfl, _⟩
 ·
  exact ⟨_, _, rfl⟩
 ·
  exact ⟨_, _, rfl⟩
theorem ColS1.form {w W : World} {R N H T : Nat} {vc vr v' : Value} {t : Tbl} {x : TCol} (h : ColS1 w R N H T vc vr t x v' W) : ∃ A m c, v' = .slice A m c := by
 obtain ⟨W0, h1, h2, h3⟩ := h
 obtain ⟨A, c, e⟩ := own_sl h3
 exact ⟨A, _, c, e⟩
theorem TSt.row {w W W' : World} {R N N' H T : Nat} {vc v' vr vx : Value} {t : Tbl} {vs : List Value} (h : TSt w W R N H T vc vr t) (hN : N ≤ N') (x : TRow) (h1 : W.ownsRow (T + 1) 48 2 vr t.rows.length (rowCells vs t.rows)) (h2 : RowsIn W (T + 1) 52 vs t.rows)
  (hx : W.ownsRow (T + 1) 52 11 vx x.cs.length (x.cs.flatMap cellE)) (ha : ∀ a ∈ vs, Apart a vx) (hg : W.grownBy W' vr.ownBlock) (ho : W'.ownsRow (T + 1) 48 2 v' (t.rows.length + 1) (rowCells vs t.rows ++ [vx, .bool x.wh])) :
  TSt w (W'.setCell ⟨T, 3, none⟩ v') R N' H T vc v' { t with rows := t.rows ++ [x] } := by
 obtain ⟨p1, p2, p3, p4⟩ := h.pos
 have hlow : ∀ b, b ≤ T → W'.heap[b]? = W.heap[b]? := fun b hb => hg.block b (by omega) (fun e => by have := (own_lt h1 e.symm).1; omega)
 have hgw : w.grownBy W' (some R) := ⟨hg.os.trans h.grown.os, hg.tape.trans h.grown.tape, hg.output.trans h.grown.output, Nat.le_trans h.grown.size hg.size, fun k hk hne => (hlow k (by omega)).trans (h.grown.block k hk hne)⟩
 have hR := h.rdr.grow hg (fun g e => by have := (own_lt h1 e).1; omega)
 refine ⟨(rdr_set hR (by show R < T; omega) _).mono hN, grow_setN hgw (by show _ ≤ T; omega) _, ⟨p1, p2, p3, by have := hg.size; simp; omega⟩, (h.res.keep (hlow H (by omega))).other (by show T ≠ H; omega) _, ?_, ?_, ?_⟩
 ·
  exact (h.blk.keep (hlow T (Nat.le_refl _))).set (k := 3) (by show 3 < 5; omega) v'
 ·
  exact own_setA (own_beside h.cols hg (own_two h.cols h1 (by decide))) (by show T < T + 1; omega) _
 ·
  exact (OwnRows.snoc (by decide) h1 h2 hx ha hg ho).set (by show T < T + 1; omega) _
structure OwnT (W : World) (base : Nat) (vc vr : Value) (t : Tbl) : Prop where
 cols : W.ownsRow base 43 2 vc t.cols.length (t.cols.flatMap colE)
 rows : OwnRows W base 48 52 vr t.rows
theorem OwnT.setA {W : World} {base : Nat} {vc vr : Value} {t : Tbl} (h : OwnT W base vc vr t) {p : Addr} (hp : p.block < base) (u : Value) : OwnT (W.setCell p u) base vc vr t := ⟨own_setA h.cols hp u, h.rows.set hp u⟩
theorem OwnT.base {W : World} {base base' : Nat} {vc vr : Value} {t : Tbl} (h : OwnT W base vc vr t) (hb : base' ≤ base) : OwnT W base' vc vr t := ⟨own_base h.cols hb, h.rows.mono hb⟩
theorem OwnT.grow {W W' : World} {base R : Nat} {vc vr : Value} {t : Tbl} (h : OwnT W base vc vr t) (hR : R < base) (hg : W.grownBy W' (some R)) : OwnT W' base vc vr t := ⟨own_grow h.cols hR hg, h.rows.grow hR hg⟩
theorem OwnT.below {W W' : World} {base : Nat} {vc vr : Value} {t : Tbl} (h : OwnT W base vc vr t) (hb : Below W.heap.size W W') : OwnT W' base vc vr t := ⟨own_below h.cols hb, h.rows.below hb⟩
theorem put5 {w W : World} {R N H base : Nat} {vc vr : Value} {t : Tbl} (hr : RdrOk W R N) (hg : w.grownBy W (some R)) (ho : OwnT W base vc vr t) (hR : R < w.heap.size) (hH : w.heap.size ≤ H) (hb : H < base) (v0 v1 v2 v3 v4 : Value) :
  RdrOk (((((W.setCell ⟨H, 0, none⟩ v0).setCell ⟨H, 1, none⟩ v1).setCell ⟨H, 2, none⟩ v2).setCell ⟨H, 3, none⟩ v3).setCell ⟨H, 4, none⟩ v4) R N ∧ w.grownBy (((((W.setCell ⟨H, 0, none⟩ v0).setCell ⟨H, 1, none⟩ v1).setCell ⟨H, 2, none⟩ v2).setCell ⟨H, 3, none⟩ v3).setCell ⟨H, 4, none⟩ v4) (some R) ∧ OwnT (((((W.setCell ⟨H, 0, none⟩ v0).setCell ⟨H, 1, none⟩ v1).setCell ⟨H, 2, none⟩ v2).setCell ⟨H, 3, none⟩ v3).setCell ⟨H, 4, none⟩ v4) w.heap.size vc vr t := by
 have h1 := put_more (put_more (put_more (put_more (put_more (And.intro hr hg) hR hH 0 v0) hR hH 1 v1) hR hH 2 v2) hR hH 3 v3) hR hH 4 v4
 exact ⟨h1.1, h1.2, OwnT.base (OwnT.setA (OwnT.setA (OwnT.setA (OwnT.setA (OwnT.setA ho hb _) hb _) hb _) hb _) hb _) (by omega)⟩
theorem TSt.own {w W : World} {R N H T : Nat} {vc vr : Value} {t : Tbl} (h : TSt w W R N H T vc vr t) : OwnT W (T + 1) vc vr t := ⟨h.cols, h.rows⟩
theorem OwnT.rdc {W : World} {base n c : Nat} {A : Option Addr} {vr : Value} {t : Tbl} (h : OwnT W base (.slice A n c) vr t) : Rd colR W A t.cols := by
 obtain ⟨A', c', e, _, hr⟩ := own_rd (enc := colE) (k := 2) (hk := fun _ => rfl) h.cols
 injection e with e1 _ _
 rw [e1]; exact hr
theorem OwnT.rdr {W : World} {base n c : Nat} {A : Option Addr} {vc : Value} {t : Tbl} (h : OwnT W base vc (.slice A n c) t) (hs : ∀ r ∈ t.rows, ∀ c ∈ r.cs, c.t.size ≤ 1048576) : Rd rowR W A t.rows := by
 obtain ⟨A', c', e, _, hr⟩ := h.rows.rd hs
 injection e with e1 _ _
 rw [e1]; exact hr
theorem OwnT.form {W : World} {base : Nat} {vc vr : Value} {t : Tbl} (h : OwnT W base vc vr t) : (∃ A c, vc = .slice A t.cols.length c) ∧ ∃ A c, vr = .slice A t.rows.length c := by
 obtain ⟨vs, r1, _⟩ := h.rows
 exact ⟨own_sl h.cols, own_sl r1⟩
theorem own_plain (w : World) (base : Nat) (hb : base ≤ w.heap.size) : OwnT (w.alloc (.cells #[.slice none 0 0, .bool false] 48)) base (.slice none 0 0) (.slice (some ⟨w.heap.size, 0, none⟩) 1 1) ⟨[], 0, 0, [⟨[], false⟩], 0⟩ := by
 refine ⟨⟨by simp, .inl ⟨rfl, rfl⟩⟩, [.slice none 0 0], ⟨by simp [rowCells], .inr ⟨w.heap.size, 1, #[.slice none 0 0, .bool false], rfl, hb, heap_alloc_new w _, by simp, by simp [maxLen], by simp, by simp [rowCells]⟩⟩, ⟨rfl, fun j h1 h2 => ?_, List.pairwise_singleton _ _⟩, fun a ha b hb' => ?_⟩
 ·
  have : j = 0 := by simp at h1; omega
  subst this
  exact ⟨by simp, .inl ⟨rfl, rfl⟩⟩
 ·
  rw [List.mem_singleton.1 ha]; exact fun e => by cases e
structure XSt (W0 W : World) (R N X : Nat) (vx : Value) (wh : Bool) (cs : List TCell) : Prop where
 rdr : RdrOk W R N
 grown : W0.grownBy W (some R)
 pos : W0.heap.size ≤ X ∧ R < W0.heap.size ∧ X < W.heap.size
 blk : BlockAt W X [vx, .bool wh]
 own : W.ownsRow (X + 1) 52 11 vx cs.length (cs.flatMap cellE)
theorem XSt.pick {W0 W W' : World} {R N N' X : Nat} {vx : Value} {wh : Bool} {cs : List TCell} (h : XSt W0 W R N X vx wh cs) (hR : RdrOk W' R N') (hg : W.grownBy W' (some R)) : XSt W0 W' R N' X vx wh cs := by
 obtain ⟨p1, p2, p3⟩ := h.pos
 exact ⟨hR, grow_trans h.grown hg, ⟨p1, p2, Nat.lt_of_lt_of_le p3 hg.size⟩, h.blk.keep (grow_blk hg (by omega) (by omega)), own_grow h.own (by omega) hg⟩
theorem XSt.mono {W0 W : World} {R N N' X : Nat} {vx : Value} {wh : Bool} {cs : List TCell} (h : XSt W0 W R N X vx wh cs) (hN : N ≤ N') : XSt W0 W R N' X vx wh cs := ⟨h.rdr.mono hN, h.grown, h.pos, h.blk, h.own⟩
theorem XSt.new (W0 : World) (R N : Nat) (wh : Bool) (T0 : TypeId) (h : RdrOk W0 R N) : XSt W0 (W0.alloc (.cells #[.slice none 0 0, .bool wh] T0)) R N W0.heap.size (.slice none 0 0) wh [] :=
 ⟨h.below (balloc (brefl W0) _), World.grownBy_alloc _ _ _, ⟨Nat.le_refl _, h.lt, by simp⟩, BlockAt.new W0 [.slice none 0 0, .bool wh] T0, ⟨by simp, .inl ⟨rfl, rfl⟩⟩⟩
def CellS1 (W00 : World) (R N X : Nat) (vx : Value) (wh : Bool) (cs : List TCell) (x : TCell) (v' : Value) (W : World) : Prop :=
 ∃ W0, XSt W00 W0 R N X vx wh cs ∧ W0.grownBy W vx.ownBlock ∧ W.ownsRow (X + 1) 52 11 v' (cs.length + 1) (cs.flatMap cellE ++ cellE x)
theorem CellS1.blk {W00 W : World} {R N X : Nat} {vx v' : Value} {wh : Bool} {cs : List TCell} {x : TCell} (h : CellS1 W00 R N X vx wh cs x v' W) : BlockAt W X [vx, .bool wh] := by
 obtain ⟨W0, h1, h2, _⟩ := h
 have := h1.pos
 exact h1.blk.keep (h2.block X (by omega) (fun e => by have := (own_lt h1.own e.symm).1; omega))
theorem CellS1.form {W00 W : World} {R N X : Nat} {vx v' : Value} {wh : Bool} {cs : List TCell} {x : TCell} (h : CellS1 W00 R N X vx wh cs x v' W) : ∃ A m c, v' = .slice A m c := by
 obtain ⟨W0, h1, h2, h3⟩ := h
 obtain ⟨A, c, e⟩ := own_sl h3
 exact ⟨A, _, c, e⟩
theorem CellS1.done {W00 W : World} {R N N' X : Nat} {vx v' : Value} {wh : Bool} {cs : List TCell} {x : TCell} (h : CellS1 W00 R N X vx wh cs x v' W) (hN : N ≤ N') : XSt W00 (W.setCell ⟨X, 0, none⟩ v') R N' X v' wh (cs ++ [x]) := by
 obtain ⟨W0, h1, hg, ho⟩ := h
 obtain ⟨p1, p2, p3⟩ := h1.pos
 have hlow : ∀ b, b ≤ X → W.heap[b]? = W0.heap[b]? := fun b hb => hg.block b (by omega) (fun e => by have := (own_lt h1.own e.symm).1; omega)
 have hgw : W00.grownBy W (some R) := ⟨hg.os.trans h1.grown.os, hg.tape.trans h1.grown.tape, hg.output.trans h1.grown.output, Nat.le_trans h1.grown.size hg.size, fun k hk hne => (hlow k (by omega)).trans (h1.grown.block k hk hne)⟩
 have hR := h1.rdr.grow hg (fun g e => by have := (own_lt h1.own e).1; omega)
 refine ⟨(rdr_set hR (by show R < X; omega) _).mono hN, grow_setN hgw (by show _ ≤ X; omega) _, ⟨p1, p2, by have := hg.size; simp; omega⟩, ?_, ?_⟩
 ·
  exact (h1.blk.keep (hlow X (Nat.le_refl _))).set (k := 0) (by show 0 < 2; omega) v'
 ·
  refine own_setA ?_ (by show X < X + 1; omega) _
  simp only [List.length_append, List.length_singleton, List.flatMap_append, List.flatMap_singleton]
  exact ho
theorem TSt.with_row {w W0 W : World} {R N N' H T X : Nat} {vc vr vx : Value} {t : Tbl} {wh : Bool} {cs : List TCell} (h : TSt w W0 R N H T vc vr t) (hx : XSt W0 W R N' X vx wh cs) :
  TSt w W R N' H T vc vr t ∧ ∃ vs, W.ownsRow (T + 1) 48 2 vr t.rows.length (rowCells vs t.rows) ∧ RowsIn W (T + 1) 52 vs t.rows ∧ W.ownsRow (T + 1) 52 11 vx cs.length (cs.flatMap cellE) ∧ ∀ a ∈ vs, Apart a vx := by
 obtain ⟨p1, p2, p3, p4⟩ := h.pos
 obtain ⟨q1, q2, q3⟩ := hx.pos
 obtain ⟨vs, r1, r2, r3⟩ := h.rows
 refine ⟨h.pick hx.rdr hx.grown, vs, own_grow r1 (by omega) hx.grown, ⟨r2.1, fun j a b => own_grow (r2.2.1 j a b) (by omega) hx.grown, r2.2.2⟩, own_base hx.own (by omega), fun a ha b hb hb' => ?_⟩
 obtain ⟨j, hj, rfl⟩ := List.getElem_of_mem ha
 have h1 := (own_lt (r2.2.1 j hj (by rw [← r2.1]; exact hj)) hb).2
 have h2 := (own_lt hx.own hb').1
 omega
theorem TSt.new {w W : World} {R N H T : Nat} {gap : Int} (hr : RdrOk W R N) (hg : w.grownBy W (some R)) (hp : w.heap.size ≤ H ∧ R < w.heap.size ∧ H < T ∧ T < W.heap.size) (h1 : BlockAt W H zeros5) (h2 : BlockAt W T [.slice none 0 0, .int .i64 0, .int .i64 0, .slice none 0 0, .int .i64 gap]) :
  TSt w W R N H T (.slice none 0 0) (.slice none 0 0) ⟨[], 0, 0, [], gap⟩ :=
 ⟨hr, hg, hp, h1, h2, ⟨by simp, .inl ⟨rfl, rfl⟩⟩, OwnRows.nil _ _ _ _⟩
end Go.Proofs.YtpfagdmmhgcmnaaGreatDoor
