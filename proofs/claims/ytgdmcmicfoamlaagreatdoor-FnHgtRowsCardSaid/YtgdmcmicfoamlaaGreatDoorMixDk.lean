import Derived.Test.YtgdmcmicfoamlaaGreatDoorMixDh
set_option linter.unusedVariables false
set_option linter.unusedSimpArgs false
set_option maxHeartbeats 400000
set_option maxRecDepth 100000
namespace Go.Proofs.YtgdmcmicfoamlaaGreatDoor
open Go.RowKit
structure Kd (R : Nat) where
 P : Value → World → Prop
 mono : ∀ {v : Value} {W W' : World}, W.grownBy W' (some R) → P v W → P v W'
theorem Qm {W W' : World} {R X : Nat} (hg : W.grownBy W' (some R)) (hX : X ≠ R) (hl : X < W.heap.size) : W'.heap[X]? = W.heap[X]? := hg.block X hl (fun e => by injection e with e; omega)
def Zr0 (R : Nat) : Kd R := ⟨fun _ _ => True, fun _ _ => trivial⟩
def Zbv (R : Nat) (u : Value) : Kd R := ⟨fun v _ => v = u, fun _ h => h⟩
def Zla (R : Nat) (p : Int → Prop) : Kd R := ⟨fun v _ => ∃ z : Int, v = .int .i64 z ∧ p z, fun _ h => h⟩
def Zul (R n : Nat) (p : Int → Prop) : Kd R :=
 ⟨fun v W => ∃ X, v = .slice (some ⟨X, 0, none⟩) n n ∧ (∀ j, j < n → ∃ z : Int, p z ∧ W.cell? ⟨X, j, none⟩ = some (.int .i64 z)) ∧ X ≠ R ∧ X < W.heap.size,
  fun hg ⟨X, h1, h2, h3, h4⟩ => ⟨X, h1, fun j hj => by obtain ⟨z, a, b⟩ := h2 j hj; exact ⟨z, a, (World.cell?_of_block (Qm hg h3 h4)).trans b⟩, h3, Nat.lt_of_lt_of_le h4 hg.size⟩⟩
def Zvw (R : Nat) (p : Int → Prop) : Kd R :=
 ⟨fun v W => ∃ (X q : Nat) (z : Int), v = .pointer (some ⟨X, q, none⟩) ∧ p z ∧ W.cell? ⟨X, q, none⟩ = some (.int .i64 z) ∧ X ≠ R ∧ X < W.heap.size,
  fun hg ⟨X, q, z, h1, h2, h3, h4, h5⟩ => ⟨X, q, z, h1, h2, (World.cell?_of_block (Qm hg h4 h5)).trans h3, h4, Nat.lt_of_lt_of_le h5 hg.size⟩⟩
def Yo (x : Yq) : Prop := 0 ≤ x.k ∧ x.k ≤ 3 ∧ -1 ≤ x.n ∧ x.n ≤ 101
def Zsr (R : Nat) : Kd R := ⟨fun v _ => ∃ x : Yq, v = .agg #[.int .i64 x.k, .int .i64 x.n] ∧ Yo x, fun _ h => h⟩
def Zlt (R n : Nat) : Kd R :=
 ⟨fun v W => ∃ X, v = .slice (some ⟨X, 0, none⟩) n n ∧ (∀ j, j < n → ∃ x : Yq, Yo x ∧ W.cell? ⟨X, j * 2, none⟩ = some (.int .i64 x.k) ∧ W.cell? ⟨X, j * 2 + 1, none⟩ = some (.int .i64 x.n)) ∧ X ≠ R ∧ X < W.heap.size,
  fun hg ⟨X, h1, h2, h3, h4⟩ => ⟨X, h1, fun j hj => by obtain ⟨z, a, b, c⟩ := h2 j hj; exact ⟨z, a, (World.cell?_of_block (Qm hg h3 h4)).trans b, (World.cell?_of_block (Qm hg h3 h4)).trans c⟩, h3, Nat.lt_of_lt_of_le h4 hg.size⟩⟩
def Zv7 (R : Nat) : Kd R :=
 ⟨fun v W => ∃ (X q : Nat) (x : Yq), v = .pointer (some ⟨X, q, none⟩) ∧ Yo x ∧ W.cell? ⟨X, q, none⟩ = some (.int .i64 x.k) ∧ W.cell? ⟨X, q + 1, none⟩ = some (.int .i64 x.n) ∧ X ≠ R ∧ X < W.heap.size,
  fun hg ⟨X, q, x, h1, h2, h3, h3', h4, h5⟩ => ⟨X, q, x, h1, h2, (World.cell?_of_block (Qm hg h4 h5)).trans h3, (World.cell?_of_block (Qm hg h4 h5)).trans h3', h4, Nat.lt_of_lt_of_le h5 hg.size⟩⟩
def Zu9 (R : Nat) : Kd R := ⟨fun v _ => ∃ c : Qi, v = .agg #[.string c.t, .int .i64 c.c, .int .i64 c.r, .int .i64 c.top.s, .int .i64 c.top.w, .int .i64 c.right.s, .int .i64 c.right.w, .int .i64 c.bot.s, .int .i64 c.bot.w, .int .i64 c.left.s, .int .i64 c.left.w] ∧ Zbl c, fun _ h => h⟩
def Zow (R : Nat) : Kd R :=
 ⟨fun v W => ∃ (X : Nat) (c : Qi), v = .slice (some ⟨X, 0, none⟩) 1 1 ∧ Zbl c ∧ (∀ (j : Nat) (u : Value), (Qv c)[j]? = some u → W.cell? ⟨X, j, none⟩ = some u) ∧ X ≠ R ∧ X < W.heap.size,
  fun hg ⟨X, c, h1, h2, h3, h4, h5⟩ => ⟨X, c, h1, h2, fun j u hu => (World.cell?_of_block (Qm hg h4 h5)).trans (h3 j u hu), h4, Nat.lt_of_lt_of_le h5 hg.size⟩⟩
theorem Zkq (R : Nat) (W : World) (c : Qi) (T : TypeId) (hc : Zbl c) (hR : R < W.heap.size) :
 (Zow R).P (.slice (some ⟨W.heap.size, 0, none⟩) 1 1) (W.alloc (.cells #[.string c.t, .int .i64 c.c, .int .i64 c.r, .int .i64 c.top.s, .int .i64 c.top.w, .int .i64 c.right.s, .int .i64 c.right.w, .int .i64 c.bot.s, .int .i64 c.bot.w, .int .i64 c.left.s, .int .i64 c.left.w] T)) := by
 refine ⟨W.heap.size, c, rfl, hc, fun j u hu => ?_, by omega, by simp⟩
 exact Zj _ _ _ _ _ _ (by simpa [Qv] using hu)
theorem Zqw {w : World} {X : Nat} {xs : List Value} (h : ∀ (j : Nat) (u : Value), xs[j]? = some u → w.cell? ⟨X, j, none⟩ = some u) : ∀ (j : Nat) (u : Value), xs[j]? = some u → w.cell? ((⟨X, 0, none⟩ : Addr).add j) = some u := fun j u hu => by
 have : (⟨X, 0, none⟩ : Addr).add j = ⟨X, j, none⟩ := by simp [Addr.add]; intro e; exact e.symm
 rw [this]
 exact h j u hu
def Zfc (cost : Nat → Nat) (l : Array Bool) : Nat → Nat
 | 0 => 0
 | n + 1 => Zfc cost l n + if l.getD n false then cost n else 0
theorem Zoe {cost : Nat → Nat} {l : Array Bool} {i : Nat} (hl : l.getD i true = false) (hi : i < l.size) : ∀ n, Zfc cost (l.setIfInBounds i true) n = Zfc cost l n + if i < n then cost i else 0
 | 0 => by simp [Zfc]
 | n + 1 => by
  have hf : l.getD i false = false := by rw [Qa hi false true]; exact hl
  have ht : (l.setIfInBounds i true).getD i false = true := by simp [Array.getD, hi]
  rw [Zfc, Zfc, Zoe hl hi n]
  by_cases e : i = n
  · subst e; rw [ht, hf]; simp
  rw [getD_set_ne false e]
  have : (i < n + 1) = (i < n) := by simp; omega
  simp only [this]; omega
theorem Zuo (cost : Nat → Nat) (l : Array Bool) : ∀ n, Zfc cost l n ≤ Zfc cost (Array.replicate n true) n
 | n => by
  have : ∀ (m : Nat), m ≤ n → Zfc cost l m ≤ Zfc cost (Array.replicate n true) m := by
   intro m
   induction m with
   | zero => intro _; exact Nat.le_refl _
   | succ m ih =>
    intro hm
    have ht : (Array.replicate n true).getD m false = true := by simp [Array.getD, show m < n by omega]
    rw [Zfc, Zfc, ht]
    have := ih (by omega)
    split <;> simp <;> omega
  exact this n (Nat.le_refl _)
structure Zb6 {R : Nat} (K : Nat → Kd R) (cost : Nat → Nat) (dep : Nat → List Nat) (n m : Nat) (V : World) (N : Nat) (l : Array Bool) (vs : Nat → Value) (W : World) : Prop where
 size : l.size = n
 rdr : ∃ p, Qh W R p ∧ p ≤ N + Zfc cost l n
 grown : V.grownBy W (some R)
 held : ∀ j, l.getD j false = true → (K j).P (vs j) W
 clo : ∀ j, l.getD j false = true → (dep j).all (fun d => l.getD d false) = true
 last : ∀ j, m ≤ j → l.getD j false = false
section
variable {R : Nat} {K : Nat → Kd R} {cost : Nat → Nat} {dep : Nat → List Nat} {n m : Nat} {V : World} {N : Nat} {l : Array Bool} {vs : Nat → Value} {W W' : World}
theorem Zb6.next (h : Zb6 K cost dep n m V N l vs W) {i : Nat} (hl : l.getD i true = false) (hm : i < m) (hi : i < n) (hd : (dep i).all (fun d => l.getD d false) = true) (v : Value)
 (hg : W.grownBy W' (some R)) (hr : ∀ p, Qh W R p → p ≤ N + Zfc cost l n → ∃ p', Qh W' R p' ∧ p' ≤ N + Zfc cost l n + cost i) (hF : (K i).P v W') : Zb6 K cost dep n m V N (l.setIfInBounds i true) (Zd vs i v) W' := by
 have hi' : i < l.size := by rw [h.size]; exact hi
 obtain ⟨p, hp1, hp2⟩ := h.rdr
 obtain ⟨p', hp1', hp2'⟩ := hr p hp1 hp2
 have hup : ∀ (L : List Nat), L.all (fun d => l.getD d false) = true → L.all (fun d => (l.setIfInBounds i true).getD d false) = true := fun L hL => by
  rw [List.all_eq_true] at hL ⊢
  intro d hdL
  by_cases e : i = d
  · subst e; simp [Array.getD, hi']
  rw [getD_set_ne false e]; exact hL d hdL
 refine ⟨by simpa using h.size, ⟨p', hp1', by rw [Zoe hl hi', if_pos hi]; omega⟩, Zk h.grown hg, fun j hj => ?_, fun j hj => ?_, fun j hj => by rw [getD_set_ne false (by omega)]; exact h.last j hj⟩
 ·
  unfold Zd
  by_cases e : j = i
  · subst e; rw [if_pos rfl]; exact hF
  rw [if_neg e]
  rw [getD_set_ne false (Ne.symm e)] at hj
  exact (K j).mono hg (h.held j hj)
 by_cases e : j = i
 · subst e; exact hup _ hd
 rw [getD_set_ne false (Ne.symm e)] at hj
 exact hup _ (h.clo j hj)
theorem Zb6.still (h : Zb6 K cost dep n m V N l vs W) {i : Nat} (hl : l.getD i true = false) (hm : i < m) (hi : i < n) (hd : (dep i).all (fun d => l.getD d false) = true) (v : Value) (hF : (K i).P v W) : Zb6 K cost dep n m V N (l.setIfInBounds i true) (Zd vs i v) W :=
 h.next hl hm hi hd v (Jk W _) (fun p h1 h2 => ⟨p, h1, by omega⟩) hF
theorem Zb6.made (h : Zb6 K cost dep n m V N l vs W) {i : Nat} (hl : l.getD i true = false) (hm : i < m) (hi : i < n) (hd : (dep i).all (fun d => l.getD d false) = true) (v : Value) (o : Obj) (hF : (K i).P v (W.alloc o)) : Zb6 K cost dep n m V N (l.setIfInBounds i true) (Zd vs i v) (W.alloc o) :=
 h.next hl hm hi hd v (World.grownBy_alloc W _ _) (fun p h1 h2 => ⟨p, h1.below (Zc (Zf W) _), by omega⟩) hF
theorem Zb6.picked (h : Zb6 K cost dep n m V N l vs W) {i : Nat} (hl : l.getD i true = false) (hm : i < m) (hi : i < n) (hd : (dep i).all (fun d => l.getD d false) = true) (v : Value) {p : Nat} (hp : p ≤ N + Zfc cost l n) (hg : W.grownBy W' (some R)) (hr : Qh W' R (p + cost i)) (hF : (K i).P v W') : Zb6 K cost dep n m V N (l.setIfInBounds i true) (Zd vs i v) W' :=
 h.next hl hm hi hd v hg (fun _ _ _ => ⟨p + cost i, hr, by omega⟩) hF
theorem Zb6.start (hr : Qh W R N) : Zb6 K cost dep n m W N (Array.replicate n false) vs W :=
 ⟨by simp, ⟨N, hr, by omega⟩, Jk _ _, fun j hj => by simp [Array.getD] at hj, fun j hj => by simp [Array.getD] at hj, fun j _ => by simp [Array.getD]⟩
theorem Zb6.le (_h : Zb6 K cost dep n m V N l vs W) {c : Nat} (hc : Zfc cost (Array.replicate n true) n = c) : N + Zfc cost l n ≤ N + c := by
 have := Zuo cost l n
 omega
theorem Qw {L : List Nat} {d : Nat} (h : L.all (fun d => l.getD d false) = true) (hd : d ∈ L) : l.getD d false = true := List.all_eq_true.1 h d hd
end
theorem Zhr (R n : Nat) (p : Int → Prop) (W : World) (zs : List Int) (T : TypeId) (hn : zs.length = n) (hp : ∀ z ∈ zs, p z) (hR : R < W.heap.size) : (Zul R n p).P (.slice (some ⟨W.heap.size, 0, none⟩) n n) (W.alloc (.cells (zs.map (Value.int .i64)).toArray T)) := by
 refine ⟨W.heap.size, rfl, fun j hj => ?_, by omega, by simp⟩
 have hj' : j < zs.length := by omega
 exact ⟨zs[j], hp _ (List.getElem_mem hj'), Zj _ _ _ _ _ _ (by simp [hj'])⟩
end Go.Proofs.YtgdmcmicfoamlaaGreatDoor
namespace Go.Proofs.YtgdmcmicfoamlaaGreatDoor
open Go.RowKit
theorem Zdk {w : World} {base : Nat} {E : TypeId} {k n : Nat} {v : Value} {xs : List Value} (h : w.ownsRow base E k v n xs) {b : Nat} (hb : v.ownBlock = some b) : ∃ cs, w.heap[b]? = some (.cells cs E (0, 0)) := by
 rcases h.2 with ⟨rfl, _⟩ | ⟨g, cap, cur, rfl, _, hh, _⟩
 · cases hb
 have : g = b := by simpa [Value.ownBlock] using hb
 subst this
 exact ⟨cur, hh⟩
theorem Zcf {w : World} {base base' : Nat} {E E' : TypeId} {k k' n n' : Nat} {v v' : Value} {xs xs' : List Value} (h : w.ownsRow base E k v n xs) (h' : w.ownsRow base' E' k' v' n' xs') (hne : E ≠ E') : Za8 v v' := by
 intro b hb hb'
 obtain ⟨c, e⟩ := Zdk h hb
 obtain ⟨c', e'⟩ := Zdk h' hb'
 rw [e] at e'
 injection e' with e'
 injection e' with _ e'
 exact hne e'
theorem Zan {w w' : World} {base : Nat} {E : TypeId} {k n : Nat} {v u : Value} {xs : List Value} (h : w.ownsRow base E k v n xs) (hg : w.grownBy w' u.ownBlock) (ha : Za8 v u) : w'.ownsRow base E k v n xs :=
 Jl h fun b hb => hg.block b (Qo h hb).2 (fun e => ha b hb e.symm)
theorem Qu.beside {w w' : World} {base : Nat} {E F : TypeId} {v u : Value} {rows : List Jv} (h : Qu w base E F v rows) (hg : w.grownBy w' u.ownBlock) (ha : Za8 v u) (hu : ∀ b, u.ownBlock = some b → ∃ cs E', w.heap[b]? = some (.cells cs E' (0, 0)) ∧ E' ≠ F) : Qu w' base E F v rows := by
 obtain ⟨vs, h1, h2, h3⟩ := h
 refine ⟨vs, Zan h1 hg ha, ⟨h2.1, fun j a b => Zan (h2.2.1 j a b) hg (fun k hk hk' => ?_), h2.2.2⟩, h3⟩
 obtain ⟨cs, e⟩ := Zdk (h2.2.1 j a b) hk
 obtain ⟨cs', E', e', hne⟩ := hu k hk'
 rw [e] at e'
 injection e' with e'
 injection e' with _ e'
 exact hne e'.symm
theorem Zbu {w w' : World} {base R : Nat} {E : TypeId} {k n : Nat} {v : Value} {xs : List Value} (h : w.ownsRow base E k v n xs) (hR : R < base) (hg : w.grownBy w' (some R)) : w'.ownsRow base E k v n xs :=
 Jl h fun b hb => hg.block b (Qo h hb).2 (fun e => by have := (Qo h hb).1; injection e with e; omega)
theorem Qu.grow {w w' : World} {base R : Nat} {E F : TypeId} {v : Value} {rows : List Jv} (h : Qu w base E F v rows) (hR : R < base) (hg : w.grownBy w' (some R)) : Qu w' base E F v rows := by
 obtain ⟨vs, h1, h2, h3⟩ := h
 exact ⟨vs, Zbu h1 hR hg, ⟨h2.1, fun j a b => Zbu (h2.2.1 j a b) hR hg, h2.2.2⟩, h3⟩
theorem Qu.nil (w : World) (base : Nat) (E F : TypeId) : Qu w base E F (.slice none 0 0) [] :=
 ⟨[], ⟨by simp [Qj], .inl ⟨rfl, rfl⟩⟩, Zaf.nil _ _ _, fun a ha => by simp at ha⟩
theorem Qu.snoc {w w' : World} {base : Nat} {E F : TypeId} {v v' vx : Value} {rows : List Jv} {r : Jv} (hEF : E ≠ F) {vs : List Value} (h1 : w.ownsRow base E 2 v rows.length (Qj vs rows)) (h2 : Zaf w base F vs rows)
 (hx : w.ownsRow base F 11 vx r.cs.length (r.cs.flatMap Qv)) (ha : ∀ a ∈ vs, Za8 a vx) (hg : w.grownBy w' v.ownBlock) (ho : w'.ownsRow base E 2 v' (rows.length + 1) (Qj vs rows ++ [vx, .bool r.wh])) : Qu w' base E F v' (rows ++ [r]) := by
 have hk : ∀ {k n : Nat} {u : Value} {xs : List Value}, w.ownsRow base F k u n xs → w'.ownsRow base F k u n xs := fun h => Zan h hg (Zcf h h1 (Ne.symm hEF))
 have h2' : Zaf w' base F vs rows := ⟨h2.1, fun j a b => hk (h2.2.1 j a b), h2.2.2⟩
 have h3 := h2'.snoc (hk hx) ha
 refine ⟨vs ++ [vx], by rw [Zk9 _ _ _ _ h2.1, List.length_append, List.length_singleton]; exact ho, h3, fun a ha => ?_⟩
 obtain ⟨j, hj, rfl⟩ := List.getElem_of_mem ha
 exact Zcf ho (h3.2.1 j hj (by rw [← h3.1]; exact hj)) hEF
def Zec : List Value := [.slice none 0 0, .int .i64 0, .int .i64 0, .slice none 0 0, .int .i64 0]
def Zd9 (vc vr : Value) (t : Tbl) : List Value := [vc, .int .i64 t.head, .int .i64 t.foot, vr, .int .i64 t.gap]
structure TSt (w W : World) (R N H T : Nat) (vc vr : Value) (t : Tbl) : Prop where
 rdr : Qh W R N
 grown : w.grownBy W (some R)
 pos : w.heap.size ≤ H ∧ R < w.heap.size ∧ H < T ∧ T < W.heap.size
 res : Zh W H Zec
 blk : Zh W T (Zd9 vc vr t)
 cols : W.ownsRow (T + 1) 100 2 vc t.cols.length (t.cols.flatMap Zes)
 rows : Qu W (T + 1) 84 105 vr t.rows
theorem TSt.pick {w W W' : World} {R N N' H T : Nat} {vc vr : Value} {t : Tbl} (h : TSt w W R N H T vc vr t) (hR : Qh W' R N') (hg : W.grownBy W' (some R)) : TSt w W' R N' H T vc vr t := by
 obtain ⟨p1, p2, p3, p4⟩ := h.pos
 exact ⟨hR, Zk h.grown hg, ⟨p1, p2, p3, Nat.lt_of_lt_of_le p4 hg.size⟩, h.res.keep (Qm hg (by omega) (by omega)), h.blk.keep (Qm hg (by omega) (by omega)), Zbu h.cols (by omega) hg, h.rows.grow (by omega) hg⟩
theorem TSt.alloc {w W : World} {R N H T : Nat} {vc vr : Value} {t : Tbl} (h : TSt w W R N H T vc vr t) (o : Obj) : TSt w (W.alloc o) R N H T vc vr t :=
 h.pick (h.rdr.below (Zc (Zf W) o)) (World.grownBy_alloc W o (some R))
theorem TSt.mono {w W : World} {R N N' H T : Nat} {vc vr : Value} {t : Tbl} (h : TSt w W R N H T vc vr t) (hN : N ≤ N') : TSt w W R N' H T vc vr t :=
 ⟨h.rdr.mono hN, h.grown, h.pos, h.res, h.blk, h.cols, h.rows⟩
theorem TSt.field {w W : World} {R N H T : Nat} {vc vr : Value} {t t' : Tbl} (h : TSt w W R N H T vc vr t) (k : Nat) (hk : k < 5) (v : Value) (e : (Zd9 vc vr t).set k v = Zd9 vc vr t') (hc : t'.cols = t.cols) (hr : t'.rows = t.rows) : TSt w (W.setCell ⟨T, k, none⟩ v) R N H T vc vr t' := by
 obtain ⟨p1, p2, p3, p4⟩ := h.pos
 refine ⟨Js h.rdr (by show R < T; omega) _, Qs h.grown (by show _ ≤ T; omega) _, ⟨p1, p2, p3, by simpa using p4⟩, h.res.other (by show T ≠ H; omega) _, e ▸ h.blk.set (by exact hk) _, ?_, ?_⟩
 · rw [hc]; exact Zbt h.cols (by show T < T + 1; omega) _
 rw [hr]; exact h.rows.set (by show T < T + 1; omega) _
theorem TSt.col {w W W' : World} {R N N' H T : Nat} {vc v' vr : Value} {t : Tbl} (h : TSt w W R N H T vc vr t) (hN : N ≤ N') (x : Yq) (hg : W.grownBy W' vc.ownBlock) (ho : W'.ownsRow (T + 1) 100 2 v' (t.cols.length + 1) (t.cols.flatMap Zes ++ Zes x)) :
 TSt w (W'.setCell ⟨T, 0, none⟩ v') R N' H T v' vr { t with cols := t.cols ++ [x] } := by
 obtain ⟨p1, p2, p3, p4⟩ := h.pos
 have hlow : ∀ b, b ≤ T → W'.heap[b]? = W.heap[b]? := fun b hb => hg.block b (by omega) (fun e => by have := (Qo h.cols e.symm).1; omega)
 have hgw : w.grownBy W' (some R) := ⟨hg.os.trans h.grown.os, hg.tape.trans h.grown.tape, hg.output.trans h.grown.output, Nat.le_trans h.grown.size hg.size, fun k hk hne => (hlow k (by omega)).trans (h.grown.block k hk hne)⟩
 have hR := h.rdr.grow hg (fun g e => by have := (Qo h.cols e).1; omega)
 refine ⟨(Js hR (by show R < T; omega) _).mono hN, Qs hgw (by show _ ≤ T; omega) _, ⟨p1, p2, p3, by have := hg.size; simp; omega⟩, (h.res.keep (hlow H (by omega))).other (by show T ≠ H; omega) _, ?_, ?_, ?_⟩
 · exact (h.blk.keep (hlow T (Nat.le_refl _))).set (k := 0) (by show 0 < 5; omega) v'
 · refine Zbt ?_ (by show T < T + 1; omega) _
   simp only [List.length_append, List.length_singleton, List.flatMap_append, List.flatMap_singleton]
   exact ho
 refine Qu.set ?_ (by show T < T + 1; omega) _
 obtain ⟨vs, r1, r2, r3⟩ := h.rows
 exact h.rows.beside hg (Zcf r1 h.cols (by decide)) (fun b hb => by obtain ⟨cs, e⟩ := Zdk h.cols hb; exact ⟨cs, _, e, by decide⟩)
def Zjn (w : World) (R N H T : Nat) (vc vr : Value) (t : Tbl) (x : Yq) (v' : Value) (W : World) : Prop :=
 ∃ W0, TSt w W0 R N H T vc vr t ∧ W0.grownBy W vc.ownBlock ∧ W.ownsRow (T + 1) 100 2 v' (t.cols.length + 1) (t.cols.flatMap Zes ++ Zes x)
theorem Zjn.blk {w W : World} {R N H T : Nat} {vc vr v' : Value} {t : Tbl} {x : Yq} (h : Zjn w R N H T vc vr t x v' W) : Zh W T (Zd9 vc vr t) := by
 obtain ⟨W0, h1, h2, _⟩ := h
 have := h1.pos
 exact h1.blk.keep (h2.block T (by omega) (fun e => by have := (Qo h1.cols e.symm).1; omega))
theorem Zjn.done {w W : World} {R N N' H T : Nat} {vc vr v' : Value} {t : Tbl} {x : Yq} (h : Zjn w R N H T vc vr t x v' W) (hN : N ≤ N') : TSt w (W.setCell ⟨T, 0, none⟩ v') R N' H T v' vr { t with cols := t.cols ++ [x] } := by
 obtain ⟨W0, h1, h2, h3⟩ := h
 exact h1.col hN x h2 h3
theorem Zbs {w : World} {base : Nat} {E : TypeId} {k n : Nat} {v : Value} {xs : List Value} (h : w.ownsRow base E k v n xs) : ∃ A c, v = .slice A n c := by
 rcases h.2 with ⟨rfl, rfl⟩ | ⟨g, cap, cur, rfl, _⟩
 · exact ⟨_, _, rfl⟩
 exact ⟨_, _, rfl⟩
theorem Zjn.form {w W : World} {R N H T : Nat} {vc vr v' : Value} {t : Tbl} {x : Yq} (h : Zjn w R N H T vc vr t x v' W) : ∃ A m c, v' = .slice A m c := by
 obtain ⟨W0, h1, h2, h3⟩ := h
 obtain ⟨A, c, e⟩ := Zbs h3
 exact ⟨A, _, c, e⟩
theorem TSt.row {w W W' : World} {R N N' H T : Nat} {vc v' vr vx : Value} {t : Tbl} {vs : List Value} (h : TSt w W R N H T vc vr t) (hN : N ≤ N') (x : Jv) (h1 : W.ownsRow (T + 1) 84 2 vr t.rows.length (Qj vs t.rows)) (h2 : Zaf W (T + 1) 105 vs t.rows)
 (hx : W.ownsRow (T + 1) 105 11 vx x.cs.length (x.cs.flatMap Qv)) (ha : ∀ a ∈ vs, Za8 a vx) (hg : W.grownBy W' vr.ownBlock) (ho : W'.ownsRow (T + 1) 84 2 v' (t.rows.length + 1) (Qj vs t.rows ++ [vx, .bool x.wh])) :
 TSt w (W'.setCell ⟨T, 3, none⟩ v') R N' H T vc v' { t with rows := t.rows ++ [x] } := by
 obtain ⟨p1, p2, p3, p4⟩ := h.pos
 have hlow : ∀ b, b ≤ T → W'.heap[b]? = W.heap[b]? := fun b hb => hg.block b (by omega) (fun e => by have := (Qo h1 e.symm).1; omega)
 have hgw : w.grownBy W' (some R) := ⟨hg.os.trans h.grown.os, hg.tape.trans h.grown.tape, hg.output.trans h.grown.output, Nat.le_trans h.grown.size hg.size, fun k hk hne => (hlow k (by omega)).trans (h.grown.block k hk hne)⟩
 have hR := h.rdr.grow hg (fun g e => by have := (Qo h1 e).1; omega)
 refine ⟨(Js hR (by show R < T; omega) _).mono hN, Qs hgw (by show _ ≤ T; omega) _, ⟨p1, p2, p3, by have := hg.size; simp; omega⟩, (h.res.keep (hlow H (by omega))).other (by show T ≠ H; omega) _, ?_, ?_, ?_⟩
 · exact (h.blk.keep (hlow T (Nat.le_refl _))).set (k := 3) (by show 3 < 5; omega) v'
 · exact Zbt (Zan h.cols hg (Zcf h.cols h1 (by decide))) (by show T < T + 1; omega) _
 exact (Qu.snoc (by decide) h1 h2 hx ha hg ho).set (by show T < T + 1; omega) _
structure Ju (W : World) (base : Nat) (vc vr : Value) (t : Tbl) : Prop where
 cols : W.ownsRow base 100 2 vc t.cols.length (t.cols.flatMap Zes)
 rows : Qu W base 84 105 vr t.rows
theorem Ju.setA {W : World} {base : Nat} {vc vr : Value} {t : Tbl} (h : Ju W base vc vr t) {p : Addr} (hp : p.block < base) (u : Value) : Ju (W.setCell p u) base vc vr t := ⟨Zbt h.cols hp u, h.rows.set hp u⟩
theorem Ju.base {W : World} {base base' : Nat} {vc vr : Value} {t : Tbl} (h : Ju W base vc vr t) (hb : base' ≤ base) : Ju W base' vc vr t := ⟨Jw h.cols hb, h.rows.mono hb⟩
theorem Ju.grow {W W' : World} {base R : Nat} {vc vr : Value} {t : Tbl} (h : Ju W base vc vr t) (hR : R < base) (hg : W.grownBy W' (some R)) : Ju W' base vc vr t := ⟨Zbu h.cols hR hg, h.rows.grow hR hg⟩
theorem Ju.below {W W' : World} {base : Nat} {vc vr : Value} {t : Tbl} (h : Ju W base vc vr t) (hb : Below W.heap.size W W') : Ju W' base vc vr t := ⟨Qx h.cols hb, h.rows.below hb⟩
theorem Zle {w W : World} {R N H base : Nat} {vc vr : Value} {t : Tbl} (hr : Qh W R N) (hg : w.grownBy W (some R)) (ho : Ju W base vc vr t) (hR : R < w.heap.size) (hH : w.heap.size ≤ H) (hb : H < base) (v0 v1 v2 v3 v4 : Value) :
 Qh (((((W.setCell ⟨H, 0, none⟩ v0).setCell ⟨H, 1, none⟩ v1).setCell ⟨H, 2, none⟩ v2).setCell ⟨H, 3, none⟩ v3).setCell ⟨H, 4, none⟩ v4) R N ∧ w.grownBy (((((W.setCell ⟨H, 0, none⟩ v0).setCell ⟨H, 1, none⟩ v1).setCell ⟨H, 2, none⟩ v2).setCell ⟨H, 3, none⟩ v3).setCell ⟨H, 4, none⟩ v4) (some R) ∧ Ju (((((W.setCell ⟨H, 0, none⟩ v0).setCell ⟨H, 1, none⟩ v1).setCell ⟨H, 2, none⟩ v2).setCell ⟨H, 3, none⟩ v3).setCell ⟨H, 4, none⟩ v4) w.heap.size vc vr t := by
 have h1 := Ze (Ze (Ze (Ze (Ze (And.intro hr hg) hR hH 0 v0) hR hH 1 v1) hR hH 2 v2) hR hH 3 v3) hR hH 4 v4
 exact ⟨h1.1, h1.2, Ju.base (Ju.setA (Ju.setA (Ju.setA (Ju.setA (Ju.setA ho hb _) hb _) hb _) hb _) hb _) (by omega)⟩
theorem TSt.own {w W : World} {R N H T : Nat} {vc vr : Value} {t : Tbl} (h : TSt w W R N H T vc vr t) : Ju W (T + 1) vc vr t := ⟨h.cols, h.rows⟩
theorem Ju.rdc {W : World} {base n c : Nat} {A : Option Addr} {vr : Value} {t : Tbl} (h : Ju W base (.slice A n c) vr t) : Rd Zbz W A t.cols := by
 obtain ⟨A', c', e, _, hr⟩ := Zdz (enc := Zes) (k := 2) (hk := fun _ => rfl) h.cols
 injection e with e1 _ _
 rw [e1]; exact hr
theorem Ju.rdr {W : World} {base n c : Nat} {A : Option Addr} {vc : Value} {t : Tbl} (h : Ju W base vc (.slice A n c) t) (hs : ∀ r ∈ t.rows, ∀ c ∈ r.cs, c.t.size ≤ 1048576) : Rd Zbp W A t.rows := by
 obtain ⟨A', c', e, _, hr⟩ := h.rows.rd hs
 injection e with e1 _ _
 rw [e1]; exact hr
theorem Ju.form {W : World} {base : Nat} {vc vr : Value} {t : Tbl} (h : Ju W base vc vr t) : (∃ A c, vc = .slice A t.cols.length c) ∧ ∃ A c, vr = .slice A t.rows.length c := by
 obtain ⟨vs, r1, _⟩ := h.rows
 exact ⟨Zbs h.cols, Zbs r1⟩
theorem Zrm (w : World) (base : Nat) (hb : base ≤ w.heap.size) : Ju (w.alloc (.cells #[.slice none 0 0, .bool false] 84)) base (.slice none 0 0) (.slice (some ⟨w.heap.size, 0, none⟩) 1 1) ⟨[], 0, 0, [⟨[], false⟩], 0⟩ := by
 refine ⟨⟨by simp, .inl ⟨rfl, rfl⟩⟩, [.slice none 0 0], ⟨by simp [Qj], .inr ⟨w.heap.size, 1, #[.slice none 0 0, .bool false], rfl, hb, heap_alloc_new w _, by simp, by simp [maxLen], by simp, by simp [Qj]⟩⟩, ⟨rfl, fun j h1 h2 => ?_, List.pairwise_singleton _ _⟩, fun a ha b hb' => ?_⟩
 · have : j = 0 := by simp at h1; omega
   subst this
   exact ⟨by simp, .inl ⟨rfl, rfl⟩⟩
 rw [List.mem_singleton.1 ha]; exact fun e => by cases e
structure XSt (W0 W : World) (R N X : Nat) (vx : Value) (wh : Bool) (cs : List Qi) : Prop where
 rdr : Qh W R N
 grown : W0.grownBy W (some R)
 pos : W0.heap.size ≤ X ∧ R < W0.heap.size ∧ X < W.heap.size
 blk : Zh W X [vx, .bool wh]
 own : W.ownsRow (X + 1) 105 11 vx cs.length (cs.flatMap Qv)
theorem XSt.pick {W0 W W' : World} {R N N' X : Nat} {vx : Value} {wh : Bool} {cs : List Qi} (h : XSt W0 W R N X vx wh cs) (hR : Qh W' R N') (hg : W.grownBy W' (some R)) : XSt W0 W' R N' X vx wh cs := by
 obtain ⟨p1, p2, p3⟩ := h.pos
 exact ⟨hR, Zk h.grown hg, ⟨p1, p2, Nat.lt_of_lt_of_le p3 hg.size⟩, h.blk.keep (Qm hg (by omega) (by omega)), Zbu h.own (by omega) hg⟩
theorem XSt.mono {W0 W : World} {R N N' X : Nat} {vx : Value} {wh : Bool} {cs : List Qi} (h : XSt W0 W R N X vx wh cs) (hN : N ≤ N') : XSt W0 W R N' X vx wh cs := ⟨h.rdr.mono hN, h.grown, h.pos, h.blk, h.own⟩
theorem XSt.new (W0 : World) (R N : Nat) (wh : Bool) (T0 : TypeId) (h : Qh W0 R N) : XSt W0 (W0.alloc (.cells #[.slice none 0 0, .bool wh] T0)) R N W0.heap.size (.slice none 0 0) wh [] :=
 ⟨h.below (Zc (Zf W0) _), World.grownBy_alloc _ _ _, ⟨Nat.le_refl _, h.lt, by simp⟩, Zh.new W0 [.slice none 0 0, .bool wh] T0, ⟨by simp, .inl ⟨rfl, rfl⟩⟩⟩
def Zgn (W00 : World) (R N X : Nat) (vx : Value) (wh : Bool) (cs : List Qi) (x : Qi) (v' : Value) (W : World) : Prop :=
 ∃ W0, XSt W00 W0 R N X vx wh cs ∧ W0.grownBy W vx.ownBlock ∧ W.ownsRow (X + 1) 105 11 v' (cs.length + 1) (cs.flatMap Qv ++ Qv x)
theorem Zgn.blk {W00 W : World} {R N X : Nat} {vx v' : Value} {wh : Bool} {cs : List Qi} {x : Qi} (h : Zgn W00 R N X vx wh cs x v' W) : Zh W X [vx, .bool wh] := by
 obtain ⟨W0, h1, h2, _⟩ := h
 have := h1.pos
 exact h1.blk.keep (h2.block X (by omega) (fun e => by have := (Qo h1.own e.symm).1; omega))
theorem Zgn.form {W00 W : World} {R N X : Nat} {vx v' : Value} {wh : Bool} {cs : List Qi} {x : Qi} (h : Zgn W00 R N X vx wh cs x v' W) : ∃ A m c, v' = .slice A m c := by
 obtain ⟨W0, h1, h2, h3⟩ := h
 obtain ⟨A, c, e⟩ := Zbs h3
 exact ⟨A, _, c, e⟩
theorem Zgn.done {W00 W : World} {R N N' X : Nat} {vx v' : Value} {wh : Bool} {cs : List Qi} {x : Qi} (h : Zgn W00 R N X vx wh cs x v' W) (hN : N ≤ N') : XSt W00 (W.setCell ⟨X, 0, none⟩ v') R N' X v' wh (cs ++ [x]) := by
 obtain ⟨W0, h1, hg, ho⟩ := h
 obtain ⟨p1, p2, p3⟩ := h1.pos
 have hlow : ∀ b, b ≤ X → W.heap[b]? = W0.heap[b]? := fun b hb => hg.block b (by omega) (fun e => by have := (Qo h1.own e.symm).1; omega)
 have hgw : W00.grownBy W (some R) := ⟨hg.os.trans h1.grown.os, hg.tape.trans h1.grown.tape, hg.output.trans h1.grown.output, Nat.le_trans h1.grown.size hg.size, fun k hk hne => (hlow k (by omega)).trans (h1.grown.block k hk hne)⟩
 have hR := h1.rdr.grow hg (fun g e => by have := (Qo h1.own e).1; omega)
 refine ⟨(Js hR (by show R < X; omega) _).mono hN, Qs hgw (by show _ ≤ X; omega) _, ⟨p1, p2, by have := hg.size; simp; omega⟩, ?_, ?_⟩
 · exact (h1.blk.keep (hlow X (Nat.le_refl _))).set (k := 0) (by show 0 < 2; omega) v'
 refine Zbt ?_ (by show X < X + 1; omega) _
 simp only [List.length_append, List.length_singleton, List.flatMap_append, List.flatMap_singleton]
 exact ho
theorem TSt.with_row {w W0 W : World} {R N N' H T X : Nat} {vc vr vx : Value} {t : Tbl} {wh : Bool} {cs : List Qi} (h : TSt w W0 R N H T vc vr t) (hx : XSt W0 W R N' X vx wh cs) :
 TSt w W R N' H T vc vr t ∧ ∃ vs, W.ownsRow (T + 1) 84 2 vr t.rows.length (Qj vs t.rows) ∧ Zaf W (T + 1) 105 vs t.rows ∧ W.ownsRow (T + 1) 105 11 vx cs.length (cs.flatMap Qv) ∧ ∀ a ∈ vs, Za8 a vx := by
 obtain ⟨p1, p2, p3, p4⟩ := h.pos
 obtain ⟨q1, q2, q3⟩ := hx.pos
 obtain ⟨vs, r1, r2, r3⟩ := h.rows
 refine ⟨h.pick hx.rdr hx.grown, vs, Zbu r1 (by omega) hx.grown, ⟨r2.1, fun j a b => Zbu (r2.2.1 j a b) (by omega) hx.grown, r2.2.2⟩, Jw hx.own (by omega), fun a ha b hb hb' => ?_⟩
 obtain ⟨j, hj, rfl⟩ := List.getElem_of_mem ha
 have h1 := (Qo (r2.2.1 j hj (by rw [← r2.1]; exact hj)) hb).2
 have h2 := (Qo hx.own hb').1
 omega
theorem TSt.new {w W : World} {R N H T : Nat} {gap : Int} (hr : Qh W R N) (hg : w.grownBy W (some R)) (hp : w.heap.size ≤ H ∧ R < w.heap.size ∧ H < T ∧ T < W.heap.size) (h1 : Zh W H Zec) (h2 : Zh W T [.slice none 0 0, .int .i64 0, .int .i64 0, .slice none 0 0, .int .i64 gap]) :
 TSt w W R N H T (.slice none 0 0) (.slice none 0 0) ⟨[], 0, 0, [], gap⟩ :=
 ⟨hr, hg, hp, h1, h2, ⟨by simp, .inl ⟨rfl, rfl⟩⟩, Qu.nil _ _ _ _⟩
end Go.Proofs.YtgdmcmicfoamlaaGreatDoor
