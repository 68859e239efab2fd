import Derived.Test.YtpfagdmmhgcmnaaGreatDoorMixR8ak
import Derived.Laws.AppendOwnNone
namespace Go.Proofs.YtpfagdmmhgcmnaaGreatDoor
open Go.RowKit
/- The reference's copy of a table. -/
section
variable {P : Program} (w : World)
/-- append of an argument's slice, nil or not, onto a row of one's own. -/
theorem wp_append_any {α : Type} {o : Oper} {a : Act} {K : Act → World → Prop} {Q : Exit → Act → World → Prop} (s x : Operand) (t : TypeId)
    (ho : o.op = .call { callee := .builtin .append, args := #[s, x], argTypes := #[t, t] })
    (base : Nat) (e : TypeId) (i : TypeInfo) (z : Value) (size bytes : Nat) (ht : P.underlying t = some (.slice e)) (hi : P.info? e = some i) (hz : i.zero = some z)
    (hsize : i.size = size) (hby : i.bytes = bytes) (hzs : z.cells.size = size) (hsz : 0 < size)
    (v : Value) (n : Nat) (xs : List Value) (hs : a.eval s = v) (hown : w.ownsRow base e size v n xs)
    (enc : α → List Value) (ys : List α) (vx : Value) (hx : a.eval x = vx) (hL : Lies enc w vx ys) (hl : (ys.flatMap enc).length = ys.length * size) (h1 : ∀ u ∈ ys.flatMap enc, u.oneCell' = true)
    (h63 : n + ys.length ≤ maxLen) (hbytes : (n + ys.length) * bytes ≤ 140737488355328) (hbase : base ≤ w.heap.size)
    (h : ∀ v' w', w'.ownsRow base e size v' (n + ys.length) (xs ++ ys.flatMap enc) → w.grownBy w' v.ownBlock → K (a.put o.dst v') w') : o.wp P a w K Q := by
  rcases hL with ⟨rfl, rfl⟩ | ⟨b, o', c, rfl, _, hc⟩
  · have hrun := run_append_owned_none (P := P) w base t o.type e i size ht hi v n xs hown
    unfold Oper.wp
    simp [execOp, ho, resolve, invoke, builtin, hs, hx, hrun, Result.andThen]
    exact h v w (by simpa using hown) (grow_refl _ _)
  · exact wp_append_own w s x t ho base e i z size bytes ht hi hz hsize hby hzs hsz v n xs hs hown ⟨b, o', none⟩ ys.length c (ys.flatMap enc) hx hl hc h1 h63 hbytes hbase fun v' w' h2 h3 _ => h v' w' h2 h3
theorem step_append_any {α : Type} {ops : Array Oper} {o : Oper} {a : Act} {K : Act → World → Prop} {Q : Exit → Act → World → Prop} {E : Prop} (hgd : o.guard = none) (s x : Operand) (t : TypeId)
    (ho : o.op = .call { callee := .builtin .append, args := #[s, x], argTypes := #[t, t] })
    (base : Nat) (e : TypeId) (i : TypeInfo) (z : Value) (size bytes : Nat) (ht : P.underlying t = some (.slice e)) (hi : P.info? e = some i) (hz : i.zero = some z)
    (hsize : i.size = size) (hby : i.bytes = bytes) (hzs : z.cells.size = size) (hsz : 0 < size)
    (v : Value) (n : Nat) (xs : List Value) (hs : a.eval s = v) (hown : w.ownsRow base e size v n xs)
    (enc : α → List Value) (ys : List α) (vx : Value) (hx : a.eval x = vx) (hL : Lies enc w vx ys) (hl : (ys.flatMap enc).length = ys.length * size) (h1 : ∀ u ∈ ys.flatMap enc, u.oneCell' = true)
    (h63 : n + ys.length ≤ maxLen) (hbytes : (n + ys.length) * bytes ≤ 140737488355328) (hbase : base ≤ w.heap.size)
    (h : ∀ v' w', w'.ownsRow base e size v' (n + ys.length) (xs ++ ys.flatMap enc) → w.grownBy w' v.ownBlock → K (a.put o.dst v') w') :
    if Region.wanted o (yielded ops a.tmps) = true then Oper.wp P o a w K Q else E := by
  have hw : Region.wanted o (yielded ops a.tmps) = true := by simp [Region.wanted, hgd]
  rw [if_pos hw]
  exact wp_append_any w s x t ho base e i z size bytes ht hi hz hsize hby hzs hsz v n xs hs hown enc ys vx hx hL hl h1 h63 hbytes hbase h
end
/-- Behind an append onto a row that was just made: the old memory is as it was. -/
theorem made_below {w w2 : World} {W0 : World} {base E k n : Nat} {v : Value} {xs : List Value} (hB : Below W0.heap.size W0 w) (ho : w.ownsRow base E k v n xs) (hb : W0.heap.size ≤ base) (hg : w.grownBy w2 v.ownBlock) : Below W0.heap.size W0 w2 :=
  hB.trans ⟨hg.os, hg.tape, hg.output, hg.size, fun k hk => hg.block k (by have := hB.size; omega) (fun e => by have := (own_lt ho e.symm).1; omega)⟩
theorem far_at {W w8 : World} {v : Value} {g X i : Nat} {u : Value} (hg : W.grownBy w8 v.ownBlock) (hv : v.ownBlock = some g) (hne : X ≠ g) (h : W.cell? ⟨X, i, none⟩ = some u) : w8.cell? ⟨X, i, none⟩ = some u :=
  (World.cell?_of_block (hg.block X (World.block_lt_of_cell? W _ h) (fun e => hne (by rw [hv] at e; injection e)))).trans h
theorem far_fr {W w8 : World} {v : Value} {g X i : Nat} (hg : W.grownBy w8 v.ownBlock) (hv : v.ownBlock = some g) (hne : X ≠ g) (hlt : X < W.heap.size) (h : W.frozen? ⟨X, i, none⟩ = false) : w8.frozen? ⟨X, i, none⟩ = false :=
  (World.frozen?_of_block (hg.block X hlt (fun e => hne (by rw [hv] at e; injection e)))).trans h
theorem far_ty {W w8 : World} {v : Value} {g X : Nat} {cs : Array Value} {T : TypeId} (hg : W.grownBy w8 v.ownBlock) (hv : v.ownBlock = some g) (hne : X ≠ g) (h : W.heap[X]? = some (.cells cs T (0, 0))) : ∃ cs, w8.heap[X]? = some (.cells cs T (0, 0)) :=
  ⟨cs, (hg.block X (Array.getElem?_eq_some_iff.1 h).1 (fun e => hne (by rw [hv] at e; injection e))).trans h⟩
theorem own_ne {w : World} {base E k n X : Nat} {v : Value} {xs : List Value} {cs : Array Value} {T : TypeId} (h : w.ownsRow base E k v n xs) (hX : w.heap[X]? = some (.cells cs T (0, 0))) (hne : T ≠ E) : ∀ b, v.ownBlock = some b → b ≠ X := by
  intro b hb e
  subst e
  rcases h.2 with ⟨rfl, _⟩ | ⟨g, cap, cur, rfl, _, hh, _⟩
  · cases hb
  · have : g = b := by simpa [Value.ownBlock] using hb
    subst this
    rw [hX] at hh; injection hh with hh; injection hh with _ hh; exact hne hh
theorem own_setN {w : World} {base E k n : Nat} {v : Value} {xs : List Value} (h : w.ownsRow base E k v n xs) {a : Addr} (ha : ∀ b, v.ownBlock = some b → b ≠ a.block) (u : Value) : (w.setCell a u).ownsRow base E k v n xs :=
  own_keep h fun b hb => heap_set w a u b (ha b hb)
theorem new_ty (w : World) (cs : Array Value) (T : TypeId) (X : Nat) (hX : w.heap.size = X) : (w.alloc (.cells cs T)).heap[X]? = some (.cells cs T (0, 0)) := by
  subst hX; exact heap_alloc_new w _
theorem old_ty (w : World) (o : Obj) {X : Nat} {u : Obj} (h : w.heap[X]? = some u) : (w.alloc o).heap[X]? = some u := by
  show (w.heap.push o)[X]? = some u
  rw [Array.getElem?_push_lt (Array.getElem?_eq_some_iff.1 h).1]
  exact (Array.getElem?_eq_getElem _).symm.trans h
theorem made_at {base : Nat} {e : TypeId} {size : Nat} (w : World) (H : Nat) (hH : w.heap.size = H) (hb : base ≤ H := by omega) : (w.alloc (.cells #[] e)).ownsRow base e size (.slice (some ⟨H, 0, none⟩) 0 0) 0 [] := by
  subst hH
  exact World.ownsRow_made w #[] 0 hb (Nat.zero_le _) (by simp)
/-- Ways that come to one and the same goal, but for some letters: it is shown once. -/
theorem shareX {R : Nat → Option Addr → Nat → World → Prop} {F : Nat → Nat → Option Addr → Nat → World → Prop} {Q : Prop} (h : SharedW (∀ H X A c W, R X A c W → F H X A c W) → Q) (p : ∀ H X A c W, R X A c W → F H X A c W) : Q := h ⟨p⟩
theorem withR {R G : Prop} (r : R) (g : R → G) : G := g r
theorem setO4 {w : World} {a b : Addr} {u v : Value} (h : w.cell? b = some v) (hne : a ≠ b) : (w.setCell a u).cell? b = some v := by rw [World.cell?_setCell_other (h := hne)]; exact h
theorem setS4 {w : World} {a : Addr} {u v : Value} (h : w.cell? a = some u) : (w.setCell a v).cell? a = some v := by rw [World.cell?_setCell_same (h := h)]
/-- Three cells of old memory. -/
def Old3 (w : World) (b0 i0 b1 i1 i2 : Nat) (u0 u1 u2 : Value) : Prop := w.cell? ⟨b0, i0, none⟩ = some u0 ∧ w.cell? ⟨b1, i1, none⟩ = some u1 ∧ w.cell? ⟨b1, i2, none⟩ = some u2
theorem Old3.keep {w w' : World} {b0 i0 b1 i1 i2 : Nat} {u0 u1 u2 : Value} (h : Old3 w b0 i0 b1 i1 i2 u0 u1 u2) (hb : Below w.heap.size w w') : w'.cell? ⟨b0, i0, none⟩ = some u0 ∧ w'.cell? ⟨b1, i1, none⟩ = some u1 ∧ w'.cell? ⟨b1, i2, none⟩ = some u2 :=
  ⟨keepW hb h.1, keepW hb h.2.1, keepW hb h.2.2⟩
theorem far2 {w w8 : World} {o : Obj} {v : Value} {B : Nat} (hg : (w.alloc o).grownBy w8 v.ownBlock) (hb : B < w.heap.size) (hv : v.ownBlock ≠ some B) {i : Nat} {u : Value} (h : w.cell? ⟨B, i, none⟩ = some u) : w8.cell? ⟨B, i, none⟩ = some u := by
  have h1 := keepW (balloc (brefl w) o) h
  exact (World.cell?_of_block (hg.block B (by simp; omega) (fun e => hv e.symm))).trans h1
theorem far2f {w w8 : World} {o : Obj} {v : Value} {B : Nat} (hg : (w.alloc o).grownBy w8 v.ownBlock) (hb : B < w.heap.size) (hv : v.ownBlock ≠ some B) {i : Nat} (h : w.frozen? ⟨B, i, none⟩ = false) : w8.frozen? ⟨B, i, none⟩ = false := by
  have h1 := ((seenBk B hb (balloc (brefl w) o)).2.1 i).trans h
  exact (World.frozen?_of_block (hg.block B (by simp; omega) (fun e => hv e.symm))).trans h1
theorem far3 {w w7 w8 : World} {o : Obj} {v : Value} {b0 i0 b1 i1 i2 : Nat} {u0 u1 u2 : Value} (hg : (w7.alloc o).grownBy w8 v.ownBlock) (hb : Below w.heap.size w w7) (hv : ∀ b, b < b0 + 1 → v.ownBlock ≠ some b) (h : Old3 w b0 i0 b1 i1 i2 u0 u1 u2 ∧ b1 < b0) :
    w8.cell? ⟨b0, i0, none⟩ = some u0 ∧ w8.cell? ⟨b1, i1, none⟩ = some u1 ∧ w8.cell? ⟨b1, i2, none⟩ = some u2 := by
  obtain ⟨⟨h1, h2, h3⟩, h4⟩ := h
  have l1 := Nat.lt_of_lt_of_le (World.block_lt_of_cell? w _ h1) hb.size
  have l2 := Nat.lt_of_lt_of_le (World.block_lt_of_cell? w _ h2) hb.size
  exact ⟨far2 hg l1 (hv b0 (by omega)) (keepW hb h1), far2 hg l2 (hv b1 (by omega)) (keepW hb h2), far2 hg l2 (hv b1 (by omega)) (keepW hb h3)⟩
theorem hs9s {w : World} {X b0 i0 b1 i1 i2 : Nat} {u0 u1 u2 v : Value} (hx : ∀ b, b < b0 + 2 → b ≠ X) (h : w.cell? ⟨b0, i0, none⟩ = some u0 ∧ w.cell? ⟨b1, i1, none⟩ = some u1 ∧ w.cell? ⟨b1, i2, none⟩ = some u2) (hb : b1 < b0) :
    (w.setCell ⟨X, 3, none⟩ v).cell? ⟨b0, i0, none⟩ = some u0 ∧ (w.setCell ⟨X, 3, none⟩ v).cell? ⟨b1, i1, none⟩ = some u1 ∧ (w.setCell ⟨X, 3, none⟩ v).cell? ⟨b1, i2, none⟩ = some u2 := by
  have n0 := hx b0 (by omega)
  have n1 := hx b1 (by omega)
  exact ⟨setO4 h.1 (fun e => by injection e with e; omega), setO4 h.2.1 (fun e => by injection e with e; omega), setO4 h.2.2 (fun e => by injection e with e; omega)⟩
theorem growX {W w w9 : World} {o : Obj} {v : Value} {X base E k n : Nat} {xs : List Value} (h : W.grownBy w (some X)) (ho : (w.alloc o).ownsRow base E k v n xs) (hg : (w.alloc o).grownBy w9 v.ownBlock) (hb : W.heap.size ≤ base := by exact Nat.le_refl _) : W.grownBy w9 (some X) := by
  have h1 := grow_trans h (World.grownBy_alloc w o (some X))
  refine ⟨hg.os.trans h1.os, hg.tape.trans h1.tape, hg.output.trans h1.output, Nat.le_trans h1.size hg.size, fun k hk hne => ?_⟩
  exact (hg.block k (Nat.lt_of_lt_of_le hk h1.size) (fun e => by have := (own_lt ho e.symm).1; omega)).trans (h1.block k hk hne)
theorem below_grow {w W V : World} {X : Nat} (h : Below w.heap.size w W) (hg : W.grownBy V (some X)) (hX : w.heap.size ≤ X) : Below w.heap.size w V :=
  h.trans ⟨hg.os, hg.tape, hg.output, hg.size, fun k hk => hg.block k (by have := h.size; omega) (fun e => by injection e with e; omega)⟩
set_option maxRecDepth 100000 in
set_option maxHeartbeats 4000000 in
set_option linter.unusedSimpArgs false in
theorem l2Copy (t : Tbl) (A : Option Addr) (c : Nat) (A' : Option Addr) (c' : Nat) (w : World) (hc : Lies colE w (.slice A t.cols.length c) t.cols) (hr : Rd rowO w A' t.rows) (hs : SmallT t) :
    Calls Tryz.prog 87 #[.agg #[.slice A t.cols.length c, .int .i64 t.head, .int .i64 t.foot, .slice A' t.rows.length c', .int .i64 t.gap]] w (CopyPost t w) := by
  obtain ⟨hs1, hs2, hs3⟩ := hs
  have l2 := hr.1
  clear hs3
  go_enter Tryz.func87, Tryz.ntmps87
  go_wp2_with fail
  obtain ⟨wb, hwb⟩ : ∃ W : World, W = (w.alloc (.cells #[.slice A t.cols.length c, .int .i64 t.head, .int .i64 t.foot, .slice A' t.rows.length c', .int .i64 t.gap] 26)).alloc (.cells #[.slice none 0 0, .int .i64 0, .int .i64 0, .slice none 0 0, .int .i64 0] 26) := ⟨_, rfl⟩
  rw [← hwb]
  have KB : Below w.heap.size w wb := hwb ▸ balloc (balloc (brefl w) _) _
  have b0 : wb.cell? ⟨w.heap.size, 0, none⟩ = some (.slice A t.cols.length c) := by rw [hwb]; simp
  have b1 : wb.cell? ⟨w.heap.size, 1, none⟩ = some (.int .i64 t.head) := by rw [hwb]; simp
  have b2 : wb.cell? ⟨w.heap.size, 2, none⟩ = some (.int .i64 t.foot) := by rw [hwb]; simp
  have b3 : wb.cell? ⟨w.heap.size, 3, none⟩ = some (.slice A' t.rows.length c') := by rw [hwb]; simp
  have b4 : wb.cell? ⟨w.heap.size, 4, none⟩ = some (.int .i64 t.gap) := by rw [hwb]; simp
  have u0 : wb.cell? ⟨w.heap.size + 1, 0, none⟩ = some (.slice none 0 0) := by rw [hwb]; simp
  have u1 : wb.cell? ⟨w.heap.size + 1, 1, none⟩ = some (.int .i64 0) := by rw [hwb]; simp
  have u2 : wb.cell? ⟨w.heap.size + 1, 2, none⟩ = some (.int .i64 0) := by rw [hwb]; simp
  have u3 : wb.cell? ⟨w.heap.size + 1, 3, none⟩ = some (.slice none 0 0) := by rw [hwb]; simp
  have u4 : wb.cell? ⟨w.heap.size + 1, 4, none⟩ = some (.int .i64 0) := by rw [hwb]; simp
  have uf : ∀ i, wb.frozen? ⟨w.heap.size + 1, i, none⟩ = false := fun i => by rw [hwb]; simp
  have zb : wb.heap.size = w.heap.size + 2 := by rw [hwb]; simp
  have HCL := hide (hc.below KB)
  have HG := hide (And.intro b0 (And.intro b1 (And.intro b2 (And.intro b3 b4))))
  have HU := hide (And.intro u0 (And.intro u1 (And.intro u2 (And.intro u3 (And.intro u4 uf)))))
  have ZB := hide zb
  have HSS : Hid (∀ W : World, Below wb.heap.size wb W → W.cell? ⟨w.heap.size, 0, none⟩ = some (.slice A t.cols.length c) ∧ W.cell? ⟨w.heap.size, 1, none⟩ = some (.int .i64 t.head) ∧ W.cell? ⟨w.heap.size, 2, none⟩ = some (.int .i64 t.foot) ∧ W.cell? ⟨w.heap.size, 4, none⟩ = some (.int .i64 t.gap)) := fun W hB => ⟨keepW hB b0, keepW hB b1, keepW hB b2, keepW hB b4⟩
  clear hwb zb b0 b1 b2 b3 b4 u0 u1 u2 u3 u4 uf hc
  obtain ⟨i0, hi, hz0, hz1, hz2⟩ := info_parts info_cloneCols
  go_region_held_law (fun W => W.cell? ⟨w.heap.size, 0, none⟩ = some (.slice A t.cols.length c) ∧ W.cell? ⟨w.heap.size, 1, none⟩ = some (.int .i64 t.head) ∧ W.cell? ⟨w.heap.size, 2, none⟩ = some (.int .i64 t.foot) ∧ W.cell? ⟨w.heap.size, 4, none⟩ = some (.int .i64 t.gap)) (first | with_reducible assumption | (refine HSS.out _ ?_; (repeat' (with_reducible first | exact brefl _ | exact HB8.out | refine bdrew ?_ | refine balloc ?_ _ | refine bset ?_ ?_ _ | refine step ?_ (by with_reducible assumption))) <;> first | (simp; done) | (simp; omega)))
    (first
      | (refine step_append_any _ rfl (.tmp 5) (.tmp 7) 23 rfl wb.heap.size 43 i0 _ 2 16 und_cloneCols hi hz0 hz1 hz2 rfl (by decide) (.slice (some ⟨wb.heap.size, 0, none⟩) 0 0) 0 [] ?_ (World.ownsRow.drew (made_at wb wb.heap.size rfl)) colE t.cols _ (by (simp [Act.eval]; done)) (HCL.out.below (by (repeat' (with_reducible first | exact brefl _ | refine bdrew ?_ | refine balloc ?_ _)))) (flatMap_length colE 2 (fun _ => rfl) t.cols) (cols_one _) (by unfold maxLen; omega) (by omega) (Below.size (by (repeat' (with_reducible first | exact brefl _ | refine bdrew ?_ | refine balloc ?_ _)))) ?_; (focus (simp [Act.eval]; done)); intro v8 w8 ho8 hg8; have hb8 : Below wb.heap.size wb w8 := made_below (base := wb.heap.size) (E := 43) (k := 2) (by (repeat' (with_reducible first | exact brefl _ | refine bdrew ?_ | refine balloc ?_ _))) (World.ownsRow.drew (made_at wb wb.heap.size rfl)) (Nat.le_refl _) hg8; rw [Nat.zero_add] at ho8; obtain ⟨A8, c8, rfl⟩ := own_form0 ho8; have HO8 := hide ho8; have HB8 := hide hb8; clear ho8 hg8 hb8)
      | (refine step_append_any _ rfl (.tmp 5) (.tmp 7) 23 rfl wb.heap.size 43 i0 _ 2 16 und_cloneCols hi hz0 hz1 hz2 rfl (by decide) (.slice (some ⟨wb.heap.size, 0, none⟩) 0 0) 0 [] ?_ (World.ownsRow.drew ((made_at wb wb.heap.size rfl).alloc _)) colE t.cols _ (by (simp [Act.eval]; done)) (HCL.out.below (by (repeat' (with_reducible first | exact brefl _ | refine bdrew ?_ | refine balloc ?_ _)))) (flatMap_length colE 2 (fun _ => rfl) t.cols) (cols_one _) (by unfold maxLen; omega) (by omega) (Below.size (by (repeat' (with_reducible first | exact brefl _ | refine bdrew ?_ | refine balloc ?_ _)))) ?_; (focus (simp [Act.eval]; done)); intro v8 w8 ho8 hg8; have hb8 : Below wb.heap.size wb w8 := made_below (base := wb.heap.size) (E := 43) (k := 2) (by (repeat' (with_reducible first | exact brefl _ | refine bdrew ?_ | refine balloc ?_ _))) (World.ownsRow.drew ((made_at wb wb.heap.size rfl).alloc _)) (Nat.le_refl _) hg8; rw [Nat.zero_add] at ho8; obtain ⟨A8, c8, rfl⟩ := own_form0 ho8; have q0 : w8.cell? ⟨wb.heap.size + 1, 0, none⟩ = some (.slice none 0 0) := far_at hg8 rfl (by (simp; done)) (by (simp; done)); have q1 : w8.cell? ⟨wb.heap.size + 1, 1, none⟩ = some (.int .i64 0) := far_at hg8 rfl (by (simp; done)) (by (simp; done)); have q2 : w8.cell? ⟨wb.heap.size + 1, 2, none⟩ = some (.int .i64 0) := far_at hg8 rfl (by (simp; done)) (by (simp; done)); have q3 : w8.cell? ⟨wb.heap.size + 1, 3, none⟩ = some (.slice none 0 0) := far_at hg8 rfl (by (simp; done)) (by (simp; done)); have q4 : w8.cell? ⟨wb.heap.size + 1, 4, none⟩ = some (.int .i64 0) := far_at hg8 rfl (by (simp; done)) (by (simp; done)); have qf : ∀ i, w8.frozen? ⟨wb.heap.size + 1, i, none⟩ = false := fun i => far_fr hg8 rfl (by (simp; done)) (by first | (simp; done) | (simp; omega)) (by (simp; done)); have HX8 : Hid (∃ cs, w8.heap[wb.heap.size + 1]? = some (.cells cs 26 (0, 0))) := far_ty hg8 rfl (by (simp; done)) (new_ty (wb.alloc _) _ _ _ (by (simp; done))); have HO8 := hide ho8; have HB8 := hide hb8; clear ho8 hg8 hb8)
      | (refine step_append_any _ rfl (.tmp 5) (.tmp 7) 23 rfl wb.heap.size 43 i0 _ 2 16 und_cloneCols hi hz0 hz1 hz2 rfl (by decide) (.slice (some ⟨wb.heap.size + 1, 0, none⟩) 0 0) 0 [] ?_ (World.ownsRow.drew (made_at (wb.alloc (.cells #[.slice none 0 0, .int .i64 0, .int .i64 0, .slice none 0 0, .int .i64 0] 26)) (wb.heap.size + 1) (by simp))) colE t.cols _ (by (simp [Act.eval]; done)) (HCL.out.below (by (repeat' (with_reducible first | exact brefl _ | refine bdrew ?_ | refine balloc ?_ _)))) (flatMap_length colE 2 (fun _ => rfl) t.cols) (cols_one _) (by unfold maxLen; omega) (by omega) (Below.size (by (repeat' (with_reducible first | exact brefl _ | refine bdrew ?_ | refine balloc ?_ _)))) ?_; (focus (simp [Act.eval]; done)); intro v8 w8 ho8 hg8; have hb8 : Below wb.heap.size wb w8 := made_below (base := wb.heap.size) (E := 43) (k := 2) (by (repeat' (with_reducible first | exact brefl _ | refine bdrew ?_ | refine balloc ?_ _))) (World.ownsRow.drew (made_at (wb.alloc (.cells #[.slice none 0 0, .int .i64 0, .int .i64 0, .slice none 0 0, .int .i64 0] 26)) (wb.heap.size + 1) (by simp))) (Nat.le_refl _) hg8; rw [Nat.zero_add] at ho8; obtain ⟨A8, c8, rfl⟩ := own_form0 ho8; have q0 : w8.cell? ⟨wb.heap.size, 0, none⟩ = some (.slice none 0 0) := far_at hg8 rfl (by (simp; done)) (by (simp; done)); have q1 : w8.cell? ⟨wb.heap.size, 1, none⟩ = some (.int .i64 0) := far_at hg8 rfl (by (simp; done)) (by (simp; done)); have q2 : w8.cell? ⟨wb.heap.size, 2, none⟩ = some (.int .i64 0) := far_at hg8 rfl (by (simp; done)) (by (simp; done)); have q3 : w8.cell? ⟨wb.heap.size, 3, none⟩ = some (.slice none 0 0) := far_at hg8 rfl (by (simp; done)) (by (simp; done)); have q4 : w8.cell? ⟨wb.heap.size, 4, none⟩ = some (.int .i64 0) := far_at hg8 rfl (by (simp; done)) (by (simp; done)); have qf : ∀ i, w8.frozen? ⟨wb.heap.size, i, none⟩ = false := fun i => far_fr hg8 rfl (by (simp; done)) (by first | (simp; done) | (simp; omega)) (by (simp; done)); have HX8 : Hid (∃ cs, w8.heap[wb.heap.size]? = some (.cells cs 26 (0, 0))) := far_ty hg8 rfl (by (simp; done)) (old_ty (wb.alloc (.cells #[.slice none 0 0, .int .i64 0, .int .i64 0, .slice none 0 0, .int .i64 0] 26)) (.cells #[] 43) (new_ty wb #[.slice none 0 0, .int .i64 0, .int .i64 0, .slice none 0 0, .int .i64 0] 26 _ rfl)); have HO8 := hide ho8; have HB8 := hide hb8; clear ho8 hg8 hb8)
      | fail)
  all_goals
    clear hi hz0 hz1 hz2
    refine letterW ?_
    intro W hW
  obtain ⟨X, hX⟩ : ∃ X, X = w8.heap.size := ⟨_, rfl⟩; refine withR (R := W.cell? ⟨X, 0, none⟩ = some (.slice A8 t.cols.length c8) ∧ W.cell? ⟨X, 1, none⟩ = some (.int .i64 t.head) ∧ W.cell? ⟨X, 2, none⟩ = some (.int .i64 t.foot) ∧ W.cell? ⟨X, 3, none⟩ = some (.slice none 0 0) ∧ W.cell? ⟨X, 4, none⟩ = some (.int .i64 t.gap) ∧ (∀ i, W.frozen? ⟨X, i, none⟩ = false) ∧ wb.heap.size ≤ X ∧ X < W.heap.size ∧ Below wb.heap.size wb W ∧ W.ownsRow wb.heap.size 43 2 (.slice A8 t.cols.length c8) t.cols.length (t.cols.flatMap colE) ∧ (∀ b, (Value.slice A8 t.cols.length c8).ownBlock = some b → b ≠ X)) ?_ ?_; (focus (subst hW; subst hX; refine ⟨by simp, by simp, by simp, by simp, by simp, fun i => by simp, HB8.out.size, by simp, balloc HB8.out _, own_below HO8.out (balloc (brefl _) _), fun b hb => by have := (own_lt HO8.out hb).2; omega⟩)); intro YF; rw [← hX]; clear hW hX
  rotate_left
  obtain ⟨X, hX⟩ : ∃ X, X = wb.heap.size + 1 := ⟨_, rfl⟩; refine withR (R := W.cell? ⟨X, 0, none⟩ = some (.slice A8 t.cols.length c8) ∧ W.cell? ⟨X, 1, none⟩ = some (.int .i64 t.head) ∧ W.cell? ⟨X, 2, none⟩ = some (.int .i64 t.foot) ∧ W.cell? ⟨X, 3, none⟩ = some (.slice none 0 0) ∧ W.cell? ⟨X, 4, none⟩ = some (.int .i64 t.gap) ∧ (∀ i, W.frozen? ⟨X, i, none⟩ = false) ∧ wb.heap.size ≤ X ∧ X < W.heap.size ∧ Below wb.heap.size wb W ∧ W.ownsRow wb.heap.size 43 2 (.slice A8 t.cols.length c8) t.cols.length (t.cols.flatMap colE) ∧ (∀ b, (Value.slice A8 t.cols.length c8).ownBlock = some b → b ≠ X)) ?_ ?_; (focus (subst hW; subst hX; obtain ⟨cs8, hx8⟩ := HX8.out; have hne := own_ne HO8.out hx8 (by decide); have hlt8 := (Array.getElem?_eq_some_iff.1 hx8).1; refine ⟨setO4 (setO4 (setO4 (setO4 (setS4 q0) (by simp)) (by simp)) (by simp)) (by simp), setO4 (setO4 (setO4 (setS4 (setO4 q1 (by simp))) (by simp)) (by simp)) (by simp), setO4 (setO4 (setS4 (setO4 (setO4 q2 (by simp)) (by simp))) (by simp)) (by simp), setO4 (setS4 (setO4 (setO4 (setO4 q3 (by simp)) (by simp)) (by simp))) (by simp), setS4 (setO4 (setO4 (setO4 (setO4 q4 (by simp)) (by simp)) (by simp)) (by simp)), fun i => by simp [qf], by omega, by simpa using hlt8, bset (bset (bset (bset (bset HB8.out (by first | exact Nat.le_refl _ | exact Nat.le_succ _) _) (by first | exact Nat.le_refl _ | exact Nat.le_succ _) _) (by first | exact Nat.le_refl _ | exact Nat.le_succ _) _) (by first | exact Nat.le_refl _ | exact Nat.le_succ _) _) (by first | exact Nat.le_refl _ | exact Nat.le_succ _) _, own_setN (own_setN (own_setN (own_setN (own_setN HO8.out hne _) hne _) hne _) hne _) hne _, hne⟩)); intro YF; rw [← hX]; clear hW hX
  rotate_left
  obtain ⟨X, hX⟩ : ∃ X, X = wb.heap.size := ⟨_, rfl⟩; refine withR (R := W.cell? ⟨X, 0, none⟩ = some (.slice A8 t.cols.length c8) ∧ W.cell? ⟨X, 1, none⟩ = some (.int .i64 t.head) ∧ W.cell? ⟨X, 2, none⟩ = some (.int .i64 t.foot) ∧ W.cell? ⟨X, 3, none⟩ = some (.slice none 0 0) ∧ W.cell? ⟨X, 4, none⟩ = some (.int .i64 t.gap) ∧ (∀ i, W.frozen? ⟨X, i, none⟩ = false) ∧ wb.heap.size ≤ X ∧ X < W.heap.size ∧ Below wb.heap.size wb W ∧ W.ownsRow wb.heap.size 43 2 (.slice A8 t.cols.length c8) t.cols.length (t.cols.flatMap colE) ∧ (∀ b, (Value.slice A8 t.cols.length c8).ownBlock = some b → b ≠ X)) ?_ ?_; (focus (subst hW; subst hX; obtain ⟨cs8, hx8⟩ := HX8.out; have hne := own_ne HO8.out hx8 (by decide); have hlt8 := (Array.getElem?_eq_some_iff.1 hx8).1; refine ⟨setO4 (setO4 (setO4 (setO4 (setS4 q0) (by simp)) (by simp)) (by simp)) (by simp), setO4 (setO4 (setO4 (setS4 (setO4 q1 (by simp))) (by simp)) (by simp)) (by simp), setO4 (setO4 (setS4 (setO4 (setO4 q2 (by simp)) (by simp))) (by simp)) (by simp), setO4 (setS4 (setO4 (setO4 (setO4 q3 (by simp)) (by simp)) (by simp))) (by simp), setS4 (setO4 (setO4 (setO4 (setO4 q4 (by simp)) (by simp)) (by simp)) (by simp)), fun i => by simp [qf], by omega, by simpa using hlt8, bset (bset (bset (bset (bset HB8.out (by first | exact Nat.le_refl _ | exact Nat.le_succ _) _) (by first | exact Nat.le_refl _ | exact Nat.le_succ _) _) (by first | exact Nat.le_refl _ | exact Nat.le_succ _) _) (by first | exact Nat.le_refl _ | exact Nat.le_succ _) _) (by first | exact Nat.le_refl _ | exact Nat.le_succ _) _, own_setN (own_setN (own_setN (own_setN (own_setN HO8.out hne _) hne _) hne _) hne _) hne _, hne⟩)); intro YF; rw [← hX]; clear hW hX
  rotate_left
  all_goals
    clear HO8 HB8
    obtain ⟨x0, x1, x2, x3, x4, xf, hX1, hX2, BW0, hoc, hne⟩ := YF
    obtain ⟨z0, z1, z2, z3, z4⟩ := HG.out
    have y3 := keepW BW0 z3
    have hzb := ZB.out
    have hXw : ∀ b, b < w.heap.size + 2 → (b : Nat) ≠ X := fun b h e => by omega
    have HXW := hide hXw
    have HZB := hide hzb
    clear hzb
    clear z0 z1 z2 z3 z4 hXw
    go_wp2_with fail
    go_loopg [4] t.rows.length (fun gg s4 wr => ∃ (kk : Nat) (vr : Value) (vs : List Value), kk ≤ t.rows.length ∧ t.rows.length - kk ≤ gg ∧ s4 = .int .i64 kk ∧ Aside (W.grownBy wr (some X)) ∧ wr.cell? ⟨X, 0, none⟩ = some (.slice A8 t.cols.length c8) ∧ wr.cell? ⟨X, 1, none⟩ = some (.int .i64 t.head) ∧ wr.cell? ⟨X, 2, none⟩ = some (.int .i64 t.foot) ∧ wr.cell? ⟨X, 3, none⟩ = some vr ∧ wr.cell? ⟨X, 4, none⟩ = some (.int .i64 t.gap) ∧ (∀ i, wr.frozen? ⟨X, i, none⟩ = false) ∧ Aside (wr.ownsRow W.heap.size 48 2 vr kk (rowCells vs (t.rows.take kk))) ∧ Aside (RowsOwn wr W.heap.size wr.heap.size vs (t.rows.take kk)))
    case atStart => exact ⟨0, .slice none 0 0, [], Nat.zero_le _, by omega, rfl, grow_refl _ _, x0, x1, x2, x3, x4, xf, World.ownsRow_nil _ _ _ _, rfl, fun j h => absurd h (Nat.not_lt_zero _), List.Pairwise.nil⟩
    case round =>
      clear x0 x1 x2 x3 x4 xf
      obtain ⟨kk, vr, vs, hkk, hg, rfl, BW, x0, x1, x2, x3, x4, xf, HO, HR⟩ := hrel
      obtain ⟨Ar, cr, rfl⟩ := own_form0 HO.out
      have hXr : X < wr.heap.size := Nat.lt_of_lt_of_le hX2 BW.out.size
      have hwW : w.heap.size < W.heap.size := by have := BW0.size; have := HZB.out; omega
      have y3r : wr.cell? ⟨w.heap.size, 3, none⟩ = some (.slice A' t.rows.length c') := BW.out.cell y3 (by intro e; injection e with e; exact HXW.out w.heap.size (by omega) e)
      by_cases hlt : kk < t.rows.length
      · have hltz : (kk : Int) < (t.rows.length : Int) := by omega
        obtain ⟨b, o, d0, d1, rfl, hblt, ⟨v, hK, hL, hl5⟩, e0, e1⟩ := hr.at2 rfl (brefl w) kk hlt
        simp only [List.cons.injEq, and_true] at hK
        obtain ⟨rfl, rfl⟩ := hK
        obtain ⟨Av, cv, rfl⟩ := hL.form
        have hcell : ∀ {p : Addr} {u : Value}, p.block < w.heap.size → w.cell? p = some u → wr.cell? p = some u := fun hp hu => BW.out.cell (keepW (step KB BW0) hu) (by intro e; injection e with e; exact HXW.out _ (by omega) e)
        have e0 := hcell (by exact hblt) e0
        have e1 := hcell (by exact hblt) e1
        have hLr : Lies cellE wr (.slice Av t.rows[kk].cs.length cv) t.rows[kk].cs := by
          rcases hL with h | ⟨b', o', c2, he, hlt', hc'⟩
          · exact .inl h
          · refine .inr ⟨b', o', c2, he, Nat.lt_trans hlt' (Nat.lt_of_lt_of_le hwW BW.out.size), fun j u hj => hcell ?_ (hc' j u hj)⟩
            rw [Addr.add_lit]; exact hlt'
        have hwr : W.heap.size ≤ wr.heap.size := BW.out.size
        have HLR := hide hLr
        have HX3 := hide x3
        have HXF := hide xf
        have HXR := hide hXr
        have HWS := hide hwr
        have HVX : Hid (∀ b, b = X ∨ b < w.heap.size + 1 → (Value.slice Ar kk cr).ownBlock ≠ some b) := fun b hb e => by
          have := (own_lt HO.out e).1
          have := BW0.size
          have := HZB.out
          omega
        have HX0 := hide (And.intro x0 (And.intro x1 (And.intro x2 x4)))
        have HS5 : Hid (Old3 wr w.heap.size 3 b (o + kk * 2) (o + kk * 2 + 1) (.slice (some ⟨b, o, none⟩) t.rows.length c') (.slice Av t.rows[kk].cs.length cv) (.bool t.rows[kk].wh) ∧ b < w.heap.size) := ⟨⟨y3r, e0, e1⟩, hblt⟩
        obtain ⟨i0, hi, hz0, hz1, hz2⟩ := info_parts infoR
        obtain ⟨j0, hj, hj0, hj1, hj2⟩ := info_parts info_cloneCells
        clear hLr hcell hL x0 x1 x2 x4 hwr
        go_wp2_with fail
        refine wp_region_T (S := fun V => V.cell? ⟨X, 3, none⟩ = some (.slice Ar kk cr) ∧ V.cell? ⟨w.heap.size, 3, none⟩ = some (.slice (some ⟨b, o, none⟩) t.rows.length c') ∧ V.cell? ⟨b, o + kk * 2, none⟩ = some (.slice Av t.rows[kk].cs.length cv) ∧ V.cell? ⟨b, o + kk * 2 + 1, none⟩ = some (.bool t.rows[kk].wh)) (L := 20) (by kernel_rfl) ?_
        have hSd : (fun V : World => V.cell? ⟨X, 3, none⟩ = some (.slice Ar kk cr) ∧ V.cell? ⟨w.heap.size, 3, none⟩ = some (.slice (some ⟨b, o, none⟩) t.rows.length c') ∧ V.cell? ⟨b, o + kk * 2, none⟩ = some (.slice Av t.rows[kk].cs.length cv) ∧ V.cell? ⟨b, o + kk * 2 + 1, none⟩ = some (.bool t.rows[kk].wh)) wr.drew := ⟨HX3.out, HS5.out.1.keep (bdrew (brefl _))⟩
        refine' wpAnyT_take [1, 18, 20] (i := 0) (v := _) rfl (by kernel_rfl) (by kernel_rfl) (by kernel_rfl) (by kernel_rfl) (by kernel_rfl) (by kernel_rfl) (fun _ _ _ h => h) (Or.inl ⟨by rfl, ?hy0⟩) hSd ?_
        case hy0 => (intro w hSw; (try dsimp only at hSw); go_simp) <;> with_reducible rfl
        try simp only [Act.put, List.setIfInBounds_toArray, List.set_cons_zero, List.set_cons_succ]
        refine' wpAnyT_take [18, 20] (i := 1) (v := _) rfl (by kernel_rfl) (by kernel_rfl) (by kernel_rfl) (by kernel_rfl) (by kernel_rfl) (by kernel_rfl) (fun _ _ _ h => h) (Or.inl ⟨by rfl, ?hy1⟩) hSd ?_
        case hy1 => (intro w hSw; (try dsimp only at hSw); go_simp) <;> with_reducible rfl
        try simp only [Act.put, List.setIfInBounds_toArray, List.set_cons_zero, List.set_cons_succ]
        refine' wpAnyT_take [4, 6, 7, 8, 9, 16, 17, 18, 20] (i := 3) (v := _) rfl (by kernel_rfl) (by kernel_rfl) (by kernel_rfl) (by kernel_rfl) (by kernel_rfl) (by kernel_rfl) (fun _ _ _ h => h) (Or.inl ⟨by rfl, ?hy3⟩) hSd ?_
        case hy3 => (intro w hSw; (try dsimp only at hSw); go_simp) <;> with_reducible rfl
        try simp only [Act.put, List.setIfInBounds_toArray, List.set_cons_zero, List.set_cons_succ]
        refine' wpAnyT_take [6, 7, 8, 9, 16, 17, 18, 20] (i := 4) (v := _) rfl (by kernel_rfl) (by kernel_rfl) (by kernel_rfl) (by kernel_rfl) (by kernel_rfl) (by kernel_rfl) (fun _ _ _ h => h) (Or.inl ⟨by rfl, ?hy4⟩) hSd ?_
        case hy4 => (intro w hSw; (try dsimp only at hSw); go_simp) <;> with_reducible rfl
        try simp only [Act.put, List.setIfInBounds_toArray, List.set_cons_zero, List.set_cons_succ]
        refine' wpAnyT_take [6, 7, 8, 9, 16, 17, 18, 20] (i := 5) (v := _) rfl (by kernel_rfl) (by kernel_rfl) (by kernel_rfl) (by kernel_rfl) (by kernel_rfl) (by kernel_rfl) (fun _ _ _ h => h) (Or.inl ⟨by rfl, ?hy5⟩) hSd ?_
        case hy5 => (intro w hSw; (try dsimp only at hSw); go_simp) <;> with_reducible rfl
        try simp only [Act.put, List.setIfInBounds_toArray, List.set_cons_zero, List.set_cons_succ]
        refine' wpAnyT_take [7, 8, 9, 16, 17, 18, 20] (i := 6) (v := _) rfl (by kernel_rfl) (by kernel_rfl) (by kernel_rfl) (by kernel_rfl) (by kernel_rfl) (by kernel_rfl) (fun _ _ _ h => h) (Or.inl ⟨by rfl, ?hy6⟩) hSd ?_
        case hy6 => (intro w hSw; (try dsimp only at hSw); go_simp) <;> with_reducible rfl
        try simp only [Act.put, List.setIfInBounds_toArray, List.set_cons_zero, List.set_cons_succ]
        refine' wpAnyT_take [8, 9, 16, 17, 18, 20] (i := 7) (v := _) rfl (by kernel_rfl) (by kernel_rfl) (by kernel_rfl) (by kernel_rfl) (by kernel_rfl) (by kernel_rfl) (fun _ _ _ h => h) (Or.inl ⟨by rfl, ?hy7⟩) hSd ?_
        case hy7 => (intro w hSw; (try dsimp only at hSw); go_simp) <;> with_reducible rfl
        try simp only [Act.put, List.setIfInBounds_toArray, List.set_cons_zero, List.set_cons_succ]
        refine' wpAnyT_take [9, 16, 17, 18, 20] (i := 8) (v := _) rfl (by kernel_rfl) (by kernel_rfl) (by kernel_rfl) (by kernel_rfl) (by kernel_rfl) (by kernel_rfl) (fun _ _ _ h => h) (Or.inl ⟨by rfl, ?hy8⟩) hSd ?_
        case hy8 => (intro w hSw; (try dsimp only at hSw); go_simp) <;> with_reducible rfl
        try simp only [Act.put, List.setIfInBounds_toArray, List.set_cons_zero, List.set_cons_succ]
        refine' wpAnyT_take [11, 13, 14, 15, 16, 17, 18, 20] (i := 10) (v := _) rfl (by kernel_rfl) (by kernel_rfl) (by kernel_rfl) (by kernel_rfl) (by kernel_rfl) (by kernel_rfl) (fun _ _ _ h => h) (Or.inl ⟨by rfl, ?hy10⟩) hSd ?_
        case hy10 => (intro w hSw; (try dsimp only at hSw); go_simp) <;> with_reducible rfl
        try simp only [Act.put, List.setIfInBounds_toArray, List.set_cons_zero, List.set_cons_succ]
        refine' wpAnyT_take [13, 14, 15, 16, 17, 18, 20] (i := 11) (v := _) rfl (by kernel_rfl) (by kernel_rfl) (by kernel_rfl) (by kernel_rfl) (by kernel_rfl) (by kernel_rfl) (fun _ _ _ h => h) (Or.inl ⟨by rfl, ?hy11⟩) hSd ?_
        case hy11 => (intro w hSw; (try dsimp only at hSw); go_simp) <;> with_reducible rfl
        try simp only [Act.put, List.setIfInBounds_toArray, List.set_cons_zero, List.set_cons_succ]
        refine' wpAnyT_take [13, 14, 15, 16, 17, 18, 20] (i := 12) (v := _) rfl (by kernel_rfl) (by kernel_rfl) (by kernel_rfl) (by kernel_rfl) (by kernel_rfl) (by kernel_rfl) (fun _ _ _ h => h) (Or.inl ⟨by rfl, ?hy12⟩) hSd ?_
        case hy12 => (intro w hSw; (try dsimp only at hSw); go_simp) <;> with_reducible rfl
        try simp only [Act.put, List.setIfInBounds_toArray, List.set_cons_zero, List.set_cons_succ]
        refine' wpAnyT_take [14, 15, 16, 17, 18, 20] (i := 13) (v := _) rfl (by kernel_rfl) (by kernel_rfl) (by kernel_rfl) (by kernel_rfl) (by kernel_rfl) (by kernel_rfl) (fun _ _ _ h => h) (Or.inl ⟨by rfl, ?hy13⟩) hSd ?_
        case hy13 => (intro w hSw; (try dsimp only at hSw); go_simp) <;> with_reducible rfl
        try simp only [Act.put, List.setIfInBounds_toArray, List.set_cons_zero, List.set_cons_succ]
        refine' wpAnyT_take [15, 16, 17, 18, 20] (i := 14) (v := _) rfl (by kernel_rfl) (by kernel_rfl) (by kernel_rfl) (by kernel_rfl) (by kernel_rfl) (by kernel_rfl) (fun _ _ _ h => h) (Or.inl ⟨by rfl, ?hy14⟩) hSd ?_
        case hy14 => (intro w hSw; (try dsimp only at hSw); go_simp) <;> with_reducible rfl
        try simp only [Act.put, List.setIfInBounds_toArray, List.set_cons_zero, List.set_cons_succ]
        refine' wpAnyT_take [16, 17, 18, 20] (i := 15) (v := _) rfl (by kernel_rfl) (by kernel_rfl) (by kernel_rfl) (by kernel_rfl) (by kernel_rfl) (by kernel_rfl) (fun _ _ _ h => h) (Or.inl ⟨by rfl, ?hy15⟩) hSd ?_
        case hy15 => (intro w hSw; (try dsimp only at hSw); go_simp) <;> with_reducible rfl
        try simp only [Act.put, List.setIfInBounds_toArray, List.set_cons_zero, List.set_cons_succ]
        refine wpAnyT_one (i := 2) (by kernel_rfl) rfl (fun K hK => ?_)
        go_simp
        refine hK.out _ _ (fun _ => ⟨keepW (balloc (bdrew (brefl wr)) _) HX3.out, HS5.out.1.keep (balloc (bdrew (brefl wr)) _)⟩) ?_
        clear hK K
        try simp only [Act.put, List.setIfInBounds_toArray, List.set_cons_zero, List.set_cons_succ]
        refine wpAnyT_one (i := 9) (by kernel_rfl) rfl (fun K hK => ?_)
        refine step_append_any _ rfl (.tmp 25) (.tmp 31) 46 rfl wr.heap.size 52 j0 _ 11 96 und_cloneCells hj hj0 hj1 hj2 rfl (by decide) (.slice (some ⟨wr.heap.size, 0, none⟩) 0 0) 0 [] ?_ (World.ownsRow.drew (made_at wr wr.heap.size rfl)) cellE t.rows[kk].cs _ (by (simp [Act.eval]; done)) (HLR.out.below (by (repeat' (with_reducible first | exact brefl _ | refine bdrew ?_ | refine balloc ?_ _)))) (flatMap_length cellE 11 (fun _ => rfl) t.rows[kk].cs) (cells_one _) (by unfold maxLen; omega) (by omega) (Below.size (by (repeat' (with_reducible first | exact brefl _ | refine bdrew ?_ | refine balloc ?_ _)))) ?_
        (focus (simp [Act.eval]; done))
        intro v7 w7 ho7 hg7
        have hb7 : Below wr.heap.size wr w7 := made_below (base := wr.heap.size) (E := 52) (k := 11) (by (repeat' (with_reducible first | exact brefl _ | refine bdrew ?_ | refine balloc ?_ _))) (World.ownsRow.drew (made_at wr wr.heap.size rfl)) (Nat.le_refl _) hg7
        rw [Nat.zero_add] at ho7
        obtain ⟨A7, c7, rfl⟩ := own_form0 ho7
        have q3 := keepW hb7 HX3.out
        have HO7 := hide ho7
        have HB7 := hide hb7
        clear ho7 hg7 hb7
        have hS7 := fun _ : (9 : Nat) ≠ 20 => And.intro (keepW HB7.out HX3.out) (HS5.out.1.keep HB7.out)
        refine hK.out _ _ hS7 ?_
        clear hK K
        try simp only [Act.put, List.setIfInBounds_toArray, List.set_cons_zero, List.set_cons_succ]
        refine wpAnyT_one (i := 16) (by kernel_rfl) rfl (fun K hK => ?_)
        go_simp
        refine hK.out _ _ (fun _ => And.intro (keepW HB7.out HX3.out) (HS5.out.1.keep HB7.out)) ?_
        clear hK K
        try simp only [Act.put, List.setIfInBounds_toArray, List.set_cons_zero, List.set_cons_succ]
        refine wpAnyT_one (i := 17) (by kernel_rfl) rfl (fun K hK => ?_)
        go_simp
        refine hK.out _ _ (fun _ => And.intro (keepW (balloc HB7.out _) HX3.out) (HS5.out.1.keep (balloc HB7.out _))) ?_
        clear hK K
        try simp only [Act.put, List.setIfInBounds_toArray, List.set_cons_zero, List.set_cons_succ]
        refine wpAnyT_one (i := 18) (by kernel_rfl) rfl (fun K hK => ?_)
        refine step_append_own _ rfl (.tmp 24) (.tmp 40) 24 rfl W.heap.size 48 i0 _ 2 32 undR hi hz0 hz1 hz2 rfl (by decide) (.slice Ar kk cr) kk (rowCells vs (t.rows.take kk)) ?_ (own_below HO.out (balloc HB7.out _)) ⟨w7.heap.size, 0, none⟩ 1 1 [.slice A7 t.rows[kk].cs.length c7, .bool t.rows[kk].wh] (by (simp [Act.eval]; done)) rfl (news2 (cell_new _ _ _ _ _ _ rfl) (cell_new _ _ _ _ _ _ rfl)) (row_one _ _ _ _) (by unfold maxLen; omega) (by omega) (Nat.le_trans HWS.out (balloc HB7.out _).size) ?_
        (focus (simp [Act.eval]; done))
        intro v9 w9 ho9 hg9 hn9
        obtain ⟨A9, c9, rfl⟩ := own_form0 ho9
        have q3 : w9.cell? ⟨X, 3, none⟩ = some (.slice Ar kk cr) := far2 hg9 (Nat.lt_of_lt_of_le HXR.out HB7.out.size) (HVX.out _ (.inl rfl)) (keepW HB7.out HX3.out)
        have qf : ∀ i, w9.frozen? ⟨X, i, none⟩ = false := fun i => far2f hg9 (Nat.lt_of_lt_of_le HXR.out HB7.out.size) (HVX.out _ (.inl rfl)) (((seenBk X HXR.out HB7.out).2.1 i).trans (HXF.out i))
        have hs9 := far3 hg9 HB7.out (fun b h => HVX.out b (.inr h)) HS5.out
        have HO9 := hide ho9
        have HG9 := hide hg9
        have HS9 := hide hs9
        clear ho9 hg9 hn9
        refine hK.out _ _ (fun _ => And.intro q3 HS9.out) ?_
        clear hK K
        try simp only [Act.put, List.setIfInBounds_toArray, List.set_cons_zero, List.set_cons_succ]
        refine wpAnyT_one (i := 19) (by kernel_rfl) rfl (fun K hK => ?_)
        go_simp
        refine hK.out _ _ (fun _ => And.intro q3 HS9.out) ?_
        clear hK K
        try simp only [Act.put, List.setIfInBounds_toArray, List.set_cons_zero, List.set_cons_succ]
        refine wpAnyT_one (i := 20) (by kernel_rfl) rfl (fun K hK => ?_)
        go_simp
        refine hK.out _ _ (fun h => absurd rfl h) ?_
        clear hK K
        try simp only [Act.put, List.setIfInBounds_toArray, List.set_cons_zero, List.set_cons_succ]
        refine wpAnyT_done (by kernel_rfl) ?_ _
        have HB7 := HB7.out
        have HG9 := HG9.out
        have HOa := own_below HO.out (balloc HB7 (.cells #[.slice A7 t.rows[kk].cs.length c7, .bool t.rows[kk].wh] 48))
        have HSP : Hid (Spare 52 w7 w9) := (Spare.below (balloc (brefl w7) _)).trans (Spare.grow_own HOa HG9 (by decide))
        have hXW : ∀ b, W.heap.size ≤ b → b ≠ X := fun b h e => by omega
        have HR9 : Hid (RowsOwn (w9.setCell ⟨X, 3, none⟩ (.slice A9 (kk + 1) c9)) W.heap.size (w9.setCell ⟨X, 3, none⟩ (.slice A9 (kk + 1) c9)).heap.size (vs ++ [.slice A7 t.rows[kk].cs.length c7]) (t.rows.take (kk + 1))) := by
          rw [List.take_succ_eq_append_getElem hlt]
          have h1 := (HR.out.keep (fun b _ h => HB7.block b h)).spare HSP.out
          have h2 := own_spare HO7.out HSP.out
          have h3 := Nat.le_trans HB7.size (Nat.le_trans (balloc (brefl w7) (.cells #[.slice A7 t.rows[kk].cs.length c7, .bool t.rows[kk].wh] 48)).size HG9.size)
          have h4 := h1.snoc h2 HWS.out h3 (Nat.le_refl _)
          have h5 := h4.keep (w' := w9.setCell ⟨X, 3, none⟩ (.slice A9 (kk + 1) c9)) (fun b hb _ => heap_set _ _ _ _ (hXW b hb))
          have h6 : (w9.setCell ⟨X, 3, none⟩ (.slice A9 (kk + 1) c9)).heap.size = w9.heap.size := by simp
          show RowsOwn _ _ _ _ _
          rw [h6]; exact h5
        have HO9' : Hid ((w9.setCell ⟨X, 3, none⟩ (.slice A9 (kk + 1) c9)).ownsRow W.heap.size 48 2 (.slice A9 (kk + 1) c9) (kk + 1) (rowCells (vs ++ [.slice A7 t.rows[kk].cs.length c7]) (t.rows.take (kk + 1)))) := by
          rw [List.take_succ_eq_append_getElem hlt, rowCells_snoc _ _ _ _ HR.out.1]
          exact own_setA HO9.out hX2 _
        have HGX := hide (grow_trans (growX (grow_trans BW.out (grow_below HB7)) HOa HG9) (grow_set w9 (a := ⟨X, 3, none⟩) rfl (.slice A9 (kk + 1) c9)))
        have l7 := Nat.lt_of_lt_of_le HXR.out HB7.size
        have nX := HVX.out X (.inl rfl)
        obtain ⟨x0, x1, x2, x4⟩ := HX0.out
        have x0 := far2 HG9 l7 nX (keepW HB7 x0)
        have x1 := far2 HG9 l7 nX (keepW HB7 x1)
        have x2 := far2 HG9 l7 nX (keepW HB7 x2)
        have x4 := far2 HG9 l7 nX (keepW HB7 x4)
        have hs9l : W.heap.size ≤ w9.heap.size := Nat.le_trans HWS.out (Nat.le_trans HB7.size (Nat.le_trans (balloc (brefl w7) (.cells #[.slice A7 t.rows[kk].cs.length c7, .bool t.rows[kk].wh] 48)).size HG9.size))
        clear hS7 HOa HSP HG9 HB7 HO7 hr
        go_wp2_with fail
        go_roundg (t.rows.length - (kk + 1))
        case measure => omega
        case rel =>
          exact ⟨kk + 1, .slice A9 (kk + 1) c9, _, by omega, by omega, by go_num, HGX.out, setO4 x0 (by simp), setO4 x1 (by simp), setO4 x2 (by simp), setS4 q3, setO4 x4 (by simp), fun i => by simp [qf], HO9'.out, HR9.out⟩
      · have hltz : ¬ (kk : Int) < (t.rows.length : Int) := by omega
        have hke : kk = t.rows.length := by omega
        subst hke
        have hsz := BW.out.size
        have hzb := HZB.out
        have HRE : Hid (RowsAll wr W.heap.size wr.heap.size (.slice Ar t.rows.length cr) vs t.rows) := by
          have h1 := HO.out
          have h2 := HR.out
          rw [List.take_length] at h1 h2
          exact ⟨Own.of h1 (Nat.le_refl _), h2⟩
        have HOC : Hid (Own wr wb.heap.size wr.heap.size 43 2 (.slice A8 t.cols.length c8) t.cols.length (t.cols.flatMap colE)) :=
          Own.of (own_keep hoc (fun b hb => BW.out.block b (own_lt hoc hb).2 (fun e => by injection e with e; exact hne b hb e))) (Nat.le_refl _)
        obtain ⟨u0, u1, u2, u3, u4, uf⟩ := HU.out
        have hcell : ∀ {i : Nat} {u : Value}, wb.cell? ⟨w.heap.size + 1, i, none⟩ = some u → wr.cell? ⟨w.heap.size + 1, i, none⟩ = some u := fun hu => BW.out.cell (keepW BW0 hu) (by intro e; injection e with e; exact HXW.out (w.heap.size + 1) (by omega) e)
        have u0 := hcell u0
        have u1 := hcell u1
        have u2 := hcell u2
        have u3 := hcell u3
        have u4 := hcell u4
        have hfr : ∀ i, wr.frozen? ⟨w.heap.size + 1, i, none⟩ = false := fun i => by
          have h1 := ((seenBk (w.heap.size + 1) (by omega) BW0).2.1 i).trans (uf i)
          exact (World.frozen?_of_block (BW.out.block (w.heap.size + 1) (by have := BW0.size; omega) (fun e => by injection e with e; exact HXW.out (w.heap.size + 1) (by omega) e))).trans h1
        have HBE := hide (below_grow (step KB BW0) BW.out (by omega))
        clear hcell uf hr HO HR
        go_wp2_with fail
        refine bodyPost_ret (v := .agg #[.slice A8 t.cols.length c8, .int .i64 t.head, .int .i64 t.foot, .slice Ar t.rows.length cr, .int .i64 t.gap]) (by simp [results, Tryz.results87, go_sem, *]) rfl ?_
        have hW0 := BW0.size
        have hkeep : ∀ V : World, (∀ b, wb.heap.size ≤ b → V.heap[b]? = wr.heap[b]?) → V.heap.size = wr.heap.size → Below w.heap.size w V → CopyPost t w (.returned (.agg #[.slice A8 t.cols.length c8, .int .i64 t.head, .int .i64 t.foot, .slice Ar t.rows.length cr, .int .i64 t.gap])) V := fun V h1 h2 h3 => by
          refine ⟨_, _, rfl, ⟨?_, vs, ?_⟩, h3⟩
          · rw [h2]
            exact (HOC.out.keep (fun b hb _ => h1 b hb)).mono (by omega) (Nat.le_refl _)
          · rw [h2]
            exact (HRE.out.keep (fun b hb _ => h1 b (by omega))).mono (by omega) (Nat.le_refl _)
        refine hkeep _ (fun b hb => ?_) (by simp) ?_
        · (repeat' (with_reducible refine (heap_set _ _ _ _ ?_).trans ?_)) <;> first | rfl | (show b ≠ w.heap.size + 1; omega)
        · have h := HBE.out
          (repeat' (with_reducible first | exact h | refine bset ?_ ?_ _)) <;> first | (simp; done) | (simp; omega)
end Go.Proofs.YtpfagdmmhgcmnaaGreatDoor
