import Derived.Test.YtpfagdmmhgcmnaaGreatDoorMixDl
import Derived.Test.YtpfagdmmhgcmnaaGreatDoorMixV
import Derived.Test.YtpfagdmmhgcmnaaGreatDoorMixSa
set_option linter.unusedVariables false
set_option linter.unusedSimpArgs false
namespace Go.Proofs.YtpfagdmmhgcmnaaGreatDoor
open Go.RowKit
theorem run_append_where {P : Program} (w : World) (base : Nat) (t ty e : TypeId) (i : TypeInfo) (z : Value) (size bytes : Nat) (ht : P.underlying t = some (.slice e)) (hi : P.info? e = some i) (hz : i.zero = some z)
  (hsize : i.size = size) (hby : i.bytes = bytes) (hzs : z.cells.size = size) (hsz : 0 < size)
  (v : Value) (n : Nat) (xs : List Value) (hown : w.ownsRow base e size v n xs)
  (a : Addr) (m c : Nat) (news : List Value) (hl : news.length = m * size) (hnews : ∀ j u, news[j]? = some u → w.cell? (a.add j) = some u) (h1 : ∀ u ∈ news, u.oneCell' = true)
  (h63 : n + m ≤ maxLen) (hbytes : (n + m) * bytes ≤ 140737488355328) (hbase : base ≤ w.heap.size) :
  ∃ v' w', (Builtin.append_ #[t, t] ty #[v, .slice (some a) m c]).run P w = .ok v' w' ∧ w'.ownsRow base e size v' (n + m) (xs ++ news) ∧ w.grownBy w' v.ownBlock ∧ ∀ b, v'.ownBlock = some b → v.ownBlock = some b ∨ w.heap.size ≤ b := by
 obtain ⟨v', w', hr, ho, hg, _⟩ := run_append_own (P := P) w base t ty e i z size bytes ht hi hz hsize hby hzs hsz v n xs hown a m c news hl hnews h1 h63 hbytes hbase
 refine ⟨v', w', hr, ho, hg, fun b hb => ?_⟩
 have h63' : n + m ≤ 9223372036854775807 := by unfold maxLen at h63; omega
 rcases hown.2 with ⟨rfl, rfl⟩ | ⟨g, cap, cur, rfl, hbg, hh, hn, hcm, hcs, htk⟩
 ·
  have hx : xs = [] := List.eq_nil_of_length_eq_zero (by have := hown.1; omega)
  subst hx
  obtain ⟨v2, w2, hr2, ho2, _, _⟩ := run_append_own (P := P) w w.heap.size t ty e i z size bytes ht hi hz hsize hby hzs hsz (.slice none 0 0) 0 [] (World.ownsRow_nil _ _ _ _) a m c news hl hnews h1 h63 hbytes (Nat.le_refl _)
  rw [hr] at hr2
  injection hr2 with e1 e2
  subst e1; subst e2
  exact .inr (ho2.lt b hb).1
 ·
  subst hsize
  by_cases hroom : n + m ≤ cap
  ·
   have := run_append_room (P := P) w t ty e i ht hi g n cap cur hh a m c news hl hnews h1 hroom (by
    rw [hl, hcs, ← Nat.add_mul]
    exact Nat.mul_le_mul_right _ hroom)
   rw [hr] at this
   injection this with e1 _
   subst e1
   exact .inl hb
  ·
   have := run_append_grow (P := P) w t ty e i z ht hi hz ⟨g, 0, none⟩ n cap xs hown.1 (hown.cells (g := g) rfl) a m c news hl hnews (by omega) (by omega) (by rw [hby]; exact growslice_fits (by omega) hbytes)
   rw [hr] at this
   injection this with e1 _
   subst e1
   right
   have : w.heap.size = b := by simpa [Value.ownBlock] using hb
   omega
theorem wp_append_where {P : Program} (w : World) {o : Oper} {a : Act} {K : Act → World → Prop} {Q : Exit → Act → World → Prop} (s x : Operand) (t : TypeId)
  (ho : o.op = .call { callee := .builtin .append, args := #[s, x], argTypes := #[t, t] })
  (base : Nat) (e : TypeId) (i : TypeInfo) (z : Value) (size bytes : Nat) (ht : P.underlying t = some (.slice e)) (hi : P.info? e = some i) (hz : i.zero = some z)
  (hsize : i.size = size) (hby : i.bytes = bytes) (hzs : z.cells.size = size) (hsz : 0 < size)
  (v : Value) (n : Nat) (xs : List Value) (hs : a.eval s = v) (hown : w.ownsRow base e size v n xs)
  (ad : Addr) (m c : Nat) (news : List Value) (hx : a.eval x = .slice (some ad) m c) (hl : news.length = m * size) (hnews : ∀ j u, news[j]? = some u → w.cell? (ad.add j) = some u) (h1 : ∀ u ∈ news, u.oneCell' = true)
  (h63 : n + m ≤ maxLen) (hbytes : (n + m) * bytes ≤ 140737488355328) (hbase : base ≤ w.heap.size)
  (h : ∀ v' w', w'.ownsRow base e size v' (n + m) (xs ++ news) → w.grownBy w' v.ownBlock → (∀ b, v'.ownBlock = some b → v.ownBlock = some b ∨ w.heap.size ≤ b) → K (a.put o.dst v') w') : o.wp P a w K Q := by
 obtain ⟨v', w', hr, h2, h3, h4⟩ := run_append_where (P := P) w base t o.type e i z size bytes ht hi hz hsize hby hzs hsz v n xs hown ad m c news hl hnews h1 h63 hbytes hbase
 unfold Oper.wp execOp
 simp only [ho, resolve, invoke, builtin, Sem.run_bind, Sem.run_pure, Result.andThen_ok, List.map_toArray, List.map_cons, List.map_nil, hs, hx, hr]
 exact h v' w' h2 h3 h4
def Typed (W : World) (b : Nat) (E : TypeId) : Prop := ∃ cs, W.heap[b]? = some (.cells cs E (0, 0))
theorem Typed.ne {W : World} {b c : Nat} {E F : TypeId} (h : Typed W b E) (h' : Typed W c F) (hne : E ≠ F) : b ≠ c := by
 rintro rfl
 obtain ⟨cs, h⟩ := h
 obtain ⟨cs', h'⟩ := h'
 rw [h] at h'
 injection h' with h'
 injection h' with _ h'
 exact hne h'
theorem Typed.lt {W : World} {b : Nat} {E : TypeId} (h : Typed W b E) : b < W.heap.size := by
 obtain ⟨cs, h⟩ := h
 exact (Array.getElem?_eq_some_iff.1 h).1
theorem Typed.keep {W W' : World} {b : Nat} {E : TypeId} (h : Typed W b E) (hk : W'.heap[b]? = W.heap[b]?) : Typed W' b E := by
 obtain ⟨cs, h⟩ := h
 exact ⟨cs, hk.trans h⟩
theorem Typed.set {W : World} {b : Nat} {E : TypeId} (h : Typed W b E) (a : Addr) (u : Value) : Typed (W.setCell a u) b E := by
 by_cases e : b = a.block
 ·
  subst e
  obtain ⟨cs, h⟩ := h
  unfold Typed World.setCell
  split
  ·
   exact ⟨cs, by simp [Array.getElem?_modify, h]⟩
  ·
   exact ⟨cs.setIfInBounds a.off u, by simp [Array.getElem?_modify, h]⟩
 ·
  exact h.keep (heap_set W a u b e)
theorem Typed.new (W : World) (cs : Array Value) (E : TypeId) : Typed (W.alloc (.cells cs E)) W.heap.size E := ⟨cs, heap_alloc_new W _⟩
theorem own_block {w : World} {base : Nat} {E : TypeId} {k n : Nat} {v : Value} {xs : List Value} (h : w.ownsRow base E k v n xs) {b : Nat} (hb : v.ownBlock = some b) : Typed w b E := own_typed h hb
theorem own_past {w w' : World} {base : Nat} {E F : TypeId} {k n b : Nat} {v : Value} {xs : List Value} (h : w.ownsRow base E k v n xs) (hg : w.grownBy w' (some b)) (hb : Typed w b F) (hne : E ≠ F) : w'.ownsRow base E k v n xs :=
 own_keep h fun c hc => hg.block c (own_lt h hc).2 (fun e => (own_block h hc).ne hb hne (Option.some.inj e))
theorem OwnRows.past {w w' : World} {base : Nat} {E F G : TypeId} {v : Value} {rows : List TRow} {b : Nat} (h : OwnRows w base E F v rows) (hg : w.grownBy w' (some b)) (hb : Typed w b G) (h1 : E ≠ G) (h2 : F ≠ G) : OwnRows w' base E F v rows := by
 obtain ⟨vs, r1, r2, r3⟩ := h
 exact ⟨vs, own_past r1 hg hb h1, ⟨r2.1, fun j a c => own_past (r2.2.1 j a c) hg hb h2, r2.2.2⟩, r3⟩
theorem OwnT.past {W W' : World} {base b : Nat} {vc vr : Value} {t : Tbl} {G : TypeId} (h : OwnT W base vc vr t) (hg : W.grownBy W' (some b)) (hb : Typed W b G) (h1 : 43 ≠ G) (h2 : 48 ≠ G) (h3 : 52 ≠ G) : OwnT W' base vc vr t := ⟨own_past h.cols hg hb h1, h.rows.past hg hb h2 h3⟩
structure ASt (w W : World) (R N H T : Nat) (vc vr : Value) (t : Tbl) : Prop where
 rdr : RdrOk W R N
 grown : w.grownBy W (some R)
 pos : w.heap.size ≤ H ∧ R < w.heap.size ∧ H < T ∧ T < W.heap.size
 res : BlockAt W H zeros5
 blk : BlockAt W T (tvals vc vr t)
 typ : Typed W T 26
 own : OwnT W (H + 1) vc vr t
section
variable {w W W' : World} {R N N' H T : Nat} {vc vr v' : Value} {t t' : Tbl}
theorem ASt.pick (h : ASt w W R N H T vc vr t) (hR : RdrOk W' R N') (hg : W.grownBy W' (some R)) : ASt w W' R N' H T vc vr t := by
 obtain ⟨p1, p2, p3, p4⟩ := h.pos
 exact ⟨hR, grow_trans h.grown hg, ⟨p1, p2, p3, Nat.lt_of_lt_of_le p4 hg.size⟩, h.res.keep (grow_blk hg (by omega) (by omega)), h.blk.keep (grow_blk hg (by omega) (by omega)), h.typ.keep (grow_blk hg (by omega) (by omega)), h.own.grow (by omega) hg⟩
theorem ASt.alloc (h : ASt w W R N H T vc vr t) (o : Obj) : ASt w (W.alloc o) R N H T vc vr t :=
 h.pick (h.rdr.below (balloc (brefl W) o)) (World.grownBy_alloc W o (some R))
theorem ASt.mono (h : ASt w W R N H T vc vr t) (hN : N ≤ N') : ASt w W R N' H T vc vr t := ⟨h.rdr.mono hN, h.grown, h.pos, h.res, h.blk, h.typ, h.own⟩
theorem ASt.put (h : ASt w W R N H T vc vr t) (hN : N ≤ N') (k : Nat) (hk : k < 5) (v : Value) (vc' vr' : Value) (hg : ∃ row, W.grownBy W' row ∧ ∀ b, row = some b → H < b ∧ b ≠ T) (e : (tvals vc vr t).set k v = tvals vc' vr' t') (ho : OwnT W' (H + 1) vc' vr' t') :
  ASt w (W'.setCell ⟨T, k, none⟩ v) R N' H T vc' vr' t' := by
 obtain ⟨p1, p2, p3, p4⟩ := h.pos
 obtain ⟨row, hg, hb⟩ := hg
 have hlow : ∀ b, b ≤ H ∨ b = T → W'.heap[b]? = W.heap[b]? := fun b hb' => hg.block b (by omega) (fun e => by have := hb b e.symm; omega)
 have hgw : w.grownBy W' (some R) := ⟨hg.os.trans h.grown.os, hg.tape.trans h.grown.tape, hg.output.trans h.grown.output, Nat.le_trans h.grown.size hg.size, fun k hk hne => (hlow k (by omega)).trans (h.grown.block k hk hne)⟩
 have hR := h.rdr.grow hg (fun g e => by have := hb g e; omega)
 have hT : Typed W' T 26 := h.typ.keep (hlow T (Or.inr rfl))
 refine ⟨(rdr_set hR (by show R < T; omega) _).mono hN, grow_setN hgw (by show _ ≤ T; omega) _, ⟨p1, p2, p3, by have := hg.size; simp; omega⟩, (h.res.keep (hlow H (Or.inl (Nat.le_refl _)))).other (by show T ≠ H; omega) _, e ▸ (h.blk.keep (hlow T (Or.inr rfl))).set (by exact hk) _, hT.set _ _, ?_⟩
 exact ho.past (grow_set W' rfl v) hT (by decide) (by decide) (by decide)
theorem ASt.field (h : ASt w W R N H T vc vr t) (k : Nat) (hk : k < 5) (v : Value) (e : (tvals vc vr t).set k v = tvals vc vr t') (hc : t'.cols = t.cols) (hr : t'.rows = t.rows) : ASt w (W.setCell ⟨T, k, none⟩ v) R N H T vc vr t' :=
 h.put (Nat.le_refl _) k hk v vc vr ⟨none, grow_refl _ _, fun b e => by cases e⟩ e ⟨by rw [hc]; exact h.own.cols, by rw [hr]; exact h.own.rows⟩
theorem ASt.col (h : ASt w W R N H T vc vr t) (hN : N ≤ N') (x : TCol) (hg : W.grownBy W' vc.ownBlock) (ho : W'.ownsRow (H + 1) 43 2 v' (t.cols.length + 1) (t.cols.flatMap colE ++ colE x)) :
  ASt w (W'.setCell ⟨T, 0, none⟩ v') R N' H T v' vr { t with cols := t.cols ++ [x] } := by
 refine h.put hN 0 (by decide) v' v' vr ⟨_, hg, fun b e => ⟨(own_lt h.own.cols e).1, (own_block h.own.cols e).ne h.typ (by decide)⟩⟩ rfl ⟨?_, ?_⟩
 ·
  simp only [List.length_append, List.length_singleton, List.flatMap_append, List.flatMap_singleton]
  exact ho
 ·
  obtain ⟨vs, r1, r2, r3⟩ := h.own.rows
  exact h.own.rows.beside hg (own_two r1 h.own.cols (by decide)) (fun b hb => by obtain ⟨cs, e⟩ := own_typed h.own.cols hb; exact ⟨cs, _, e, by decide⟩)
end
theorem ASt.row {w W W' : World} {R N N' H T : Nat} {vc vr v' : Value} {t : Tbl} {vs : List Value} (h : ASt w W R N H T vc vr t) (hN : N ≤ N') (h1 : W.ownsRow (H + 1) 48 2 vr t.rows.length (rowCells vs t.rows)) (h2 : RowsIn W (H + 1) 52 vs t.rows) (hg : W.grownBy W' vr.ownBlock) (ho : W'.ownsRow (H + 1) 48 2 v' (t.rows.length + 1) (rowCells vs t.rows ++ [.slice none 0 0, .bool false])) :
  ASt w (W'.setCell ⟨T, 3, none⟩ v') R N' H T vc v' { t with rows := t.rows ++ [⟨[], false⟩] } := by
 refine h.put hN 3 (by decide) v' vc v' ⟨_, hg, fun b e => ⟨(own_lt h1 e).1, (own_block h1 e).ne h.typ (by decide)⟩⟩ rfl ⟨own_beside h.own.cols hg (own_two h.own.cols h1 (by decide)), ?_⟩
 exact OwnRows.snoc (r := ⟨[], false⟩) (vx := .slice none 0 0) (by decide) h1 h2 ⟨by simp, .inl ⟨rfl, rfl⟩⟩ (fun a ha b hb => by intro e; cases e) hg ho
theorem rowCells_setR (vs : List Value) : ∀ (rows : List TRow) (j : Nat) (r : TRow) (v' : Value) (_ : j < vs.length) (h2 : j < rows.length), r.wh = rows[j].wh → rowCells (vs.set j v') (rows.set j r) = (rowCells vs rows).set (j * 2) v' := by
 induction vs with
 | nil => intro rows j r v' h; exact absurd h (Nat.not_lt_zero _)
 | cons v vs ih =>
  intro rows j r v' h1 h2 hw
  cases rows with
  | nil => exact absurd h2 (Nat.not_lt_zero _)
  | cons q rows =>
   have e : ∀ (v : Value) (vs : List Value) (x : TRow) (ys : List TRow), rowCells (v :: vs) (x :: ys) = v :: .bool x.wh :: rowCells vs ys := fun _ _ _ _ => rfl
   cases j with
   | zero =>
    have hw' : r.wh = q.wh := hw
    simp [e, hw']
   | succ j =>
    rw [List.set_cons_succ, List.set_cons_succ, e, e, ih rows j r v' (by simpa using h1) (by simpa using h2) (by simpa using hw), show (j + 1) * 2 = j * 2 + 1 + 1 by omega]
    rfl
theorem OwnRows.grown {w w' : World} {base : Nat} {E F : TypeId} {g n cap : Nat} {v' : Value} {rows : List TRow} {vs : List Value} {j : Nat} (hEF : E ≠ F) (h1 : w.ownsRow base E 2 (.slice (some ⟨g, 0, none⟩) n cap) rows.length (rowCells vs rows)) (h2 : RowsIn w base F vs rows)
  (hj : j < vs.length) (hj' : j < rows.length) (c : TCell) (hg : w.grownBy w' vs[j].ownBlock) (ho : w'.ownsRow base F 11 v' (rows[j].cs.length + 1) (rows[j].cs.flatMap cellE ++ cellE c)) (hw : ∀ b, v'.ownBlock = some b → vs[j].ownBlock = some b ∨ w.heap.size ≤ b) :
  OwnRows (w'.setCell ⟨g, j * 2, none⟩ v') base E F (.slice (some ⟨g, 0, none⟩) n cap) (rows.set j ⟨rows[j].cs ++ [c], rows[j].wh⟩) := by
 have hn : n = rows.length := by obtain ⟨A, c, e⟩ := own_sl h1; injection e
 subst hn
 have h1' : w'.ownsRow base E 2 (.slice (some ⟨g, 0, none⟩) rows.length cap) rows.length (rowCells vs rows) := own_beside h1 hg (own_two h1 (h2.2.1 j hj hj') hEF)
 have hgt : Typed w' g E := own_block h1' (b := g) rfl
 have hgs : w'.grownBy (w'.setCell ⟨g, j * 2, none⟩ v') (some g) := grow_set w' rfl v'
 have hr1 := (h1'.stored (j * 2) v').1
 have hr1' := rowCells_setR vs rows j ⟨rows[j].cs ++ [c], rows[j].wh⟩ v' hj hj' rfl
 rw [← hr1'] at hr1
 have hap : ∀ (i : Nat) (hi : i < vs.length), i ≠ j → Apart vs[i] v' := by
  intro i hi hij b hb hb'
  rcases hw b hb' with h | h
  ·
   have hp := List.pairwise_iff_getElem.1 h2.2.2
   rcases Nat.lt_or_gt_of_ne hij with hlt | hgt
   ·
    exact hp i j hi hj hlt b hb h
   ·
    exact hp j i hj hi hgt b h hb
  ·
   have := (own_lt (h2.2.1 i hi (by rw [← h2.1]; exact hi)) hb).2
   omega
 have hbes : ∀ (i : Nat) (hi : i < vs.length) (hi' : i < rows.length), i ≠ j → (w'.setCell ⟨g, j * 2, none⟩ v').ownsRow base F 11 vs[i] rows[i].cs.length (rows[i].cs.flatMap cellE) := by
  intro i hi hi' hij
  have hp := List.pairwise_iff_getElem.1 h2.2.2
  have ha : Apart vs[i] vs[j] := by
   rcases Nat.lt_or_gt_of_ne hij with hlt | hgt
   ·
    exact hp i j hi hj hlt
   ·
    exact fun b hb hb' => hp j i hj hi hgt b hb' hb
  exact own_past (own_beside (h2.2.1 i hi hi') hg ha) hgs hgt (Ne.symm hEF)
 have hnew : (w'.setCell ⟨g, j * 2, none⟩ v').ownsRow base F 11 v' (rows[j].cs ++ [c]).length ((rows[j].cs ++ [c]).flatMap cellE) := by
  simp only [List.length_append, List.length_singleton, List.flatMap_append, List.flatMap_singleton]
  exact own_past ho hgs hgt (Ne.symm hEF)
 have hin : RowsIn (w'.setCell ⟨g, j * 2, none⟩ v') base F (vs.set j v') (rows.set j ⟨rows[j].cs ++ [c], rows[j].wh⟩) := by
  refine ⟨by simp [h2.1], fun i hi hi' => ?_, ?_⟩
  ·
   by_cases e : j = i
   ·
    subst e
    simp only [List.getElem_set_self]
    exact hnew
   ·
    simp only [List.getElem_set_ne e]
    exact hbes i (by simpa using hi) (by simpa using hi') (Ne.symm e)
  ·
   rw [List.pairwise_iff_getElem]
   intro a b ha hb hab
   have hp := List.pairwise_iff_getElem.1 h2.2.2
   by_cases ea : j = a
   ·
    subst ea
    rw [List.getElem_set_self, List.getElem_set_ne (by omega)]
    exact fun k hk hk' => hap b (by simpa using hb) (by omega) k hk' hk
   ·
    rw [List.getElem_set_ne ea]
    by_cases eb : j = b
    ·
     subst eb
     rw [List.getElem_set_self]
     exact hap a (by simpa using ha) (by omega)
    ·
     rw [List.getElem_set_ne eb]
     exact hp a b (by simpa using ha) (by simpa using hb) hab
 refine ⟨vs.set j v', by rw [List.length_set]; exact hr1, hin, fun a ha => ?_⟩
 obtain ⟨i, hi, rfl⟩ := List.getElem_of_mem ha
 exact own_two hr1 (hin.2.1 i hi (by rw [← hin.1]; exact hi)) hEF
theorem ASt.cell {w W W' : World} {R N N' H T g n cap : Nat} {vc v' : Value} {t : Tbl} {vs : List Value} {j : Nat} (h : ASt w W R N H T vc (.slice (some ⟨g, 0, none⟩) n cap) t) (hN : N ≤ N') (h1 : W.ownsRow (H + 1) 48 2 (.slice (some ⟨g, 0, none⟩) n cap) t.rows.length (rowCells vs t.rows)) (h2 : RowsIn W (H + 1) 52 vs t.rows)
  (hj : j < vs.length) (hj' : j < t.rows.length) (c : TCell) (hg : W.grownBy W' vs[j].ownBlock) (ho : W'.ownsRow (H + 1) 52 11 v' (t.rows[j].cs.length + 1) (t.rows[j].cs.flatMap cellE ++ cellE c)) (hw : ∀ b, v'.ownBlock = some b → vs[j].ownBlock = some b ∨ W.heap.size ≤ b) :
  ASt w (W'.setCell ⟨g, j * 2, none⟩ v') R N' H T vc (.slice (some ⟨g, 0, none⟩) n cap) { t with rows := t.rows.set j ⟨t.rows[j].cs ++ [c], t.rows[j].wh⟩ } := by
 obtain ⟨p1, p2, p3, p4⟩ := h.pos
 have hx := h2.2.1 j hj hj'
 have hlow : ∀ b, b ≤ H ∨ b = T → W'.heap[b]? = W.heap[b]? := fun b hb' => hg.block b (by omega) (fun e => by
  have h3 := (own_lt hx e.symm).1
  have h4 := (own_block hx e.symm).ne h.typ (by decide)
  omega)
 have hgw : w.grownBy W' (some R) := ⟨hg.os.trans h.grown.os, hg.tape.trans h.grown.tape, hg.output.trans h.grown.output, Nat.le_trans h.grown.size hg.size, fun k hk hne => (hlow k (by omega)).trans (h.grown.block k hk hne)⟩
 have hR := h.rdr.grow hg (fun g e => by have := (own_lt hx e).1; omega)
 have hg1 := own_lt h1 (b := g) rfl
 have hgT := (own_block h1 (b := g) rfl).ne h.typ (by decide)
 have hgt : Typed W' g 48 := own_block (own_beside h1 hg (own_two h1 hx (by decide))) (b := g) rfl
 refine ⟨(rdr_set hR (by show R < g; omega) _).mono hN, grow_setN hgw (by show _ ≤ g; omega) _, ⟨p1, p2, p3, by have := hg.size; simp; omega⟩, (h.res.keep (hlow H (Or.inl (Nat.le_refl _)))).other (by show g ≠ H; omega) _, (h.blk.keep (hlow T (Or.inr rfl))).other (by show g ≠ T; exact hgT) _, (h.typ.keep (hlow T (Or.inr rfl))).set _ _, ?_, OwnRows.grown (by decide) h1 h2 hj hj' c hg ho hw⟩
 exact own_past (own_beside h.own.cols hg (own_two h.own.cols hx (by decide))) (grow_set W' rfl v') hgt (by decide)
end Go.Proofs.YtpfagdmmhgcmnaaGreatDoor

namespace Go.Proofs.YtpfagdmmhgcmnaaGreatDoor
def stepCol (gap : Int) (need : GCell → Int) (span : Nat) (cols : List Int) (c : GCell) : List Int :=
 if c.cols = (span : Int) then
  if 0 < need c - winS cols c.col.toNat span - gap * ((span : Int) - 1) then
   addAt cols c.col.toNat (share (need c - winS cols c.col.toNat span - gap * ((span : Int) - 1)) ((cols.drop c.col.toNat).take span))
  else cols
 else cols
def madeS (gap : Int) (need : GCell → Int) (span : Nat) (cells : List GCell) (cols : List Int) : List Int := cells.foldl (stepCol gap need span) cols
def made (gap : Int) (need : GCell → Int) (cells : List GCell) (n : Nat) : List Int :=
 madeS gap need 4 cells (madeS gap need 3 cells (madeS gap need 2 cells (madeS gap need 1 cells (List.replicate n 0))))
def ColsIn (n : Nat) (cols : List Int) : Prop := cols.length = n ∧ ∀ x ∈ cols, 0 ≤ x ∧ x ≤ 30
def CellIn (n : Nat) (need : GCell → Int) (c : GCell) : Prop := 0 ≤ c.col ∧ 1 ≤ c.cols ∧ c.cols ≤ 4 ∧ c.col + c.cols ≤ n ∧ need c ≤ 30
theorem getD_in {n : Nat} {cols : List Int} (h : ColsIn n cols) (j : Nat) : 0 ≤ cols.getD j 0 ∧ cols.getD j 0 ≤ 30 := by
 rw [List.getD_eq_getElem?_getD]
 cases e : cols[j]? with
 | none => exact ⟨by simp, by simp⟩
 | some v => exact h.2 v (List.mem_of_getElem? e)
theorem winS_nonneg {n : Nat} {cols : List Int} (h : ColsIn n cols) (a k : Nat) : 0 ≤ winS cols a k :=
 sumI_nonneg fun x hx => (h.2 x (List.mem_of_mem_drop (List.mem_of_mem_take hx))).1
theorem win_length {n : Nat} {cols : List Int} (h : cols.length = n) {a k : Nat} (hk : a + k ≤ n) : ((cols.drop a).take k).length = k := by simp; omega
theorem step_spec {n : Nat} {gap : Int} {need : GCell → Int} {span : Nat} {cols : List Int} {c : GCell} (hg : 0 ≤ gap) (hs : 1 ≤ span) (h : ColsIn n cols) (hc : CellIn n need c) :
  ColsIn n (stepCol gap need span cols c) ∧ (∀ j, cols.getD j 0 ≤ (stepCol gap need span cols c).getD j 0) ∧ (c.cols = (span : Int) → need c ≤ winS (stepCol gap need span cols c) c.col.toNat span + gap * ((span : Int) - 1)) := by
 unfold stepCol
 by_cases e : c.cols = (span : Int)
 ·
  rw [if_pos e]
  obtain ⟨c1, c2, c3, c4, c5⟩ := hc
  have hk : c.col.toNat + span ≤ n := by omega
  by_cases hl : 0 < need c - winS cols c.col.toNat span - gap * ((span : Int) - 1)
  ·
   rw [if_pos hl]
   have hwl := win_length h.1 hk
   have hw0 : ∀ x ∈ (cols.drop c.col.toNat).take span, 0 ≤ x := fun x hx => (h.2 x (List.mem_of_mem_drop (List.mem_of_mem_take hx))).1
   have hne : (cols.drop c.col.toNat).take span ≠ [] := by intro e0; rw [e0] at hwl; simp at hwl; omega
   obtain ⟨s1, s2, s3⟩ := share_spec (total := need c - winS cols c.col.toNat span - gap * ((span : Int) - 1)) (by omega) hw0 hne
   generalize hsh : share (need c - winS cols c.col.toNat span - gap * ((span : Int) - 1)) ((cols.drop c.col.toNat).take span) = sh at s1 s2 s3 ⊢
   rw [hwl] at s1
   have hal : c.col.toNat + sh.length ≤ cols.length := by rw [h.1, s1]; exact hk
   have hwin := winS_add hal
   rw [s1, s2] at hwin
   have hgs : 0 ≤ gap * ((span : Int) - 1) := Int.mul_nonneg hg (by omega)
   have hge := addAt_ge s3 hal
   refine ⟨⟨by rw [addAt_length]; exact h.1, fun x hx => ?_⟩, hge, fun _ => by omega⟩
   obtain ⟨j, hj, rfl⟩ := List.getElem_of_mem hx
   have hjl : j < cols.length := by rw [addAt_length] at hj; exact hj
   have hgj : (addAt cols c.col.toNat sh)[j] = (addAt cols c.col.toNat sh).getD j 0 := by rw [List.getD_eq_getElem?_getD, List.getElem?_eq_getElem hj]; rfl
   rw [hgj]
   refine ⟨Int.le_trans (getD_in h j).1 (hge j), ?_⟩
   by_cases hin : c.col.toNat ≤ j ∧ j < c.col.toNat + sh.length
   ·
    -- one of the cell's own: no more than all of them
    have h1 : ∀ x ∈ ((addAt cols c.col.toNat sh).drop c.col.toNat).take span, 0 ≤ x := by
     intro x hx
     obtain ⟨i, hi, rfl⟩ := List.getElem_of_mem (List.mem_of_mem_drop (List.mem_of_mem_take hx))
     have : (addAt cols c.col.toNat sh)[i] = (addAt cols c.col.toNat sh).getD i 0 := by rw [List.getD_eq_getElem?_getD, List.getElem?_eq_getElem hi]; rfl
     rw [this]
     exact Int.le_trans (getD_in h i).1 (hge i)
    have h2 : (addAt cols c.col.toNat sh).getD j 0 ∈ ((addAt cols c.col.toNat sh).drop c.col.toNat).take span := by
     rw [← hgj]
     have hd : j - c.col.toNat < (((addAt cols c.col.toNat sh).drop c.col.toNat).take span).length := by simp [addAt_length]; omega
     have : (((addAt cols c.col.toNat sh).drop c.col.toNat).take span)[j - c.col.toNat] = (addAt cols c.col.toNat sh)[j] := by
      simp only [List.getElem_take, List.getElem_drop]
      congr 1
      omega
     rw [← this]
     exact List.getElem_mem hd
    have h3 := sumI_ge h1 _ h2
    have h4 : sumI (((addAt cols c.col.toNat sh).drop c.col.toNat).take span) = winS (addAt cols c.col.toNat sh) c.col.toNat span := rfl
    have h5 := winS_nonneg h c.col.toNat span
    omega
   ·
    rw [addAt_get sh cols _ j hal, if_neg hin]
    have := (getD_in h j).2
    omega
  ·
   rw [if_neg hl]
   exact ⟨h, fun _ => Int.le_refl _, fun _ => by omega⟩
 ·
  rw [if_neg e]
  exact ⟨h, fun _ => Int.le_refl _, fun h' => absurd h' e⟩
theorem madeS_spec {n : Nat} {gap : Int} {need : GCell → Int} {span : Nat} (hg : 0 ≤ gap) (hs : 1 ≤ span) : ∀ (cells : List GCell) (cols : List Int), ColsIn n cols → (∀ c ∈ cells, CellIn n need c) →
  ColsIn n (madeS gap need span cells cols) ∧ (∀ j, cols.getD j 0 ≤ (madeS gap need span cells cols).getD j 0) ∧ ∀ c ∈ cells, c.cols = (span : Int) → need c ≤ winS (madeS gap need span cells cols) c.col.toNat span + gap * ((span : Int) - 1)
 | [], cols, h, _ => ⟨h, fun _ => Int.le_refl _, fun c hc => by cases hc⟩
 | c :: cells, cols, h, hc => by
  obtain ⟨a1, a2, a3⟩ := step_spec (span := span) hg hs h (hc c (List.mem_cons_self ..))
  obtain ⟨b1, b2, b3⟩ := madeS_spec hg hs cells (stepCol gap need span cols c) a1 (fun d hd => hc d (List.mem_cons_of_mem _ hd))
  refine ⟨b1, fun j => Int.le_trans (a2 j) (b2 j), fun d hd he => ?_⟩
  rcases List.mem_cons.1 hd with rfl | hd
  ·
   obtain ⟨c1, c2, c3, c4, c5⟩ := hc d (List.mem_cons_self ..)
   have := winS_le (a1.1.trans b1.1.symm) b2 d.col.toNat span (by rw [a1.1]; omega)
   have := a3 he
   show need d ≤ winS (madeS gap need span cells (stepCol gap need span cols d)) d.col.toNat span + _
   omega
  ·
   exact b3 d hd he
theorem made_spec {n : Nat} {gap : Int} {need : GCell → Int} {cells : List GCell} (hg : 0 ≤ gap) (hc : ∀ c ∈ cells, CellIn n need c) :
  ColsIn n (made gap need cells n) ∧ ∀ c ∈ cells, need c ≤ winS (made gap need cells n) c.col.toNat c.cols.toNat + gap * (c.cols - 1) := by
 unfold made
 have h0 : ColsIn n (List.replicate n 0) := ⟨by simp, fun x hx => by rw [(List.mem_replicate.1 hx).2]; decide⟩
 obtain ⟨a1, a2, a3⟩ := madeS_spec (span := 1) hg (by decide) cells _ h0 hc
 obtain ⟨b1, b2, b3⟩ := madeS_spec (span := 2) hg (by decide) cells _ a1 hc
 obtain ⟨c1, c2, c3⟩ := madeS_spec (span := 3) hg (by decide) cells _ b1 hc
 obtain ⟨d1, d2, d3⟩ := madeS_spec (span := 4) hg (by decide) cells _ c1 hc
 refine ⟨d1, fun c hcm => ?_⟩
 obtain ⟨e1, e2, e3, e4, e5⟩ := hc c hcm
 have hk : ∀ k : Nat, c.cols = (k : Int) → c.col.toNat + k ≤ n := fun k hk => by omega
 obtain h | h | h | h : c.cols = 1 ∨ c.cols = 2 ∨ c.cols = 3 ∨ c.cols = 4 := by omega
 ·
  have := a3 c hcm h
  have w := winS_le (a1.1.trans d1.1.symm) (fun j => Int.le_trans (b2 j) (Int.le_trans (c2 j) (d2 j))) c.col.toNat 1 (by rw [a1.1]; exact hk 1 h)
  rw [h]; simp only [Int.toNat_one] at *; omega
 ·
  have := b3 c hcm h
  have w := winS_le (b1.1.trans d1.1.symm) (fun j => Int.le_trans (c2 j) (d2 j)) c.col.toNat 2 (by rw [b1.1]; exact hk 2 h)
  rw [h]; show _ ≤ winS _ _ 2 + _; omega
 ·
  have := c3 c hcm h
  have w := winS_le (c1.1.trans d1.1.symm) (fun j => d2 j) c.col.toNat 3 (by rw [c1.1]; exact hk 3 h)
  rw [h]; show _ ≤ winS _ _ 3 + _; omega
 ·
  have := d3 c hcm h
  rw [h]; show _ ≤ winS _ _ 4 + _; omega
end Go.Proofs.YtpfagdmmhgcmnaaGreatDoor
