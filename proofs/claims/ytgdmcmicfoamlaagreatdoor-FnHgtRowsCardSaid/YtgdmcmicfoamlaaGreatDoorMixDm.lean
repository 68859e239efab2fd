import Derived.Test.YtgdmcmicfoamlaaGreatDoorMixDl
import Derived.Test.YtgdmcmicfoamlaaGreatDoorMixO
set_option linter.unusedVariables false
set_option linter.unusedSimpArgs false
set_option maxHeartbeats 400000
set_option maxRecDepth 100000
namespace Go.Proofs.YtgdmcmicfoamlaaGreatDoor
open Go.RowKit
theorem Zil {P : Program} (w : World) (base : Nat) (t ty e : TypeId) (i : TypeInfo) (z : Value) (size bytes : Nat) (ht : P.underlying t = some (.slice e)) (hi : P.info? e = some i) (hz : i.zero = some z)
 (hsize : i.size = size) (hby : i.bytes = bytes) (hzs : z.cells.size = size) (hsz : 0 < size)
 (v : Value) (n : Nat) (xs : List Value) (hown : w.ownsRow base e size v n xs)
 (a : Addr) (m c : Nat) (news : List Value) (hl : news.length = m * size) (hnews : ∀ j u, news[j]? = some u → w.cell? (a.add j) = some u) (h1 : ∀ u ∈ news, u.oneCell' = true)
 (h63 : n + m ≤ maxLen) (hbytes : (n + m) * bytes ≤ 140737488355328) (hbase : base ≤ w.heap.size) :
 ∃ v' w', (Builtin.append_ #[t, t] ty #[v, .slice (some a) m c]).run P w = .ok v' w' ∧ w'.ownsRow base e size v' (n + m) (xs ++ news) ∧ w.grownBy w' v.ownBlock ∧ ∀ b, v'.ownBlock = some b → v.ownBlock = some b ∨ w.heap.size ≤ b := by
 obtain ⟨v', w', hr, ho, hg, _⟩ := run_append_own (P := P) w base t ty e i z size bytes ht hi hz hsize hby hzs hsz v n xs hown a m c news hl hnews h1 h63 hbytes hbase
 refine ⟨v', w', hr, ho, hg, fun b hb => ?_⟩
 have h63' : n + m ≤ 9223372036854775807 := by unfold maxLen at h63; omega
 rcases hown.2 with ⟨rfl, rfl⟩ | ⟨g, cap, cur, rfl, hbg, hh, hn, hcm, hcs, htk⟩
 ·
  have hx : xs = [] := List.eq_nil_of_length_eq_zero (by have := hown.1; omega)
  subst hx
  obtain ⟨v2, w2, hr2, ho2, _, _⟩ := run_append_own (P := P) w w.heap.size t ty e i z size bytes ht hi hz hsize hby hzs hsz (.slice none 0 0) 0 [] (World.ownsRow_nil _ _ _ _) a m c news hl hnews h1 h63 hbytes (Nat.le_refl _)
  rw [hr] at hr2
  injection hr2 with e1 e2
  subst e1; subst e2
  exact .inr (ho2.lt b hb).1
 subst hsize
 by_cases hroom : n + m ≤ cap
 ·
  have := run_append_room (P := P) w t ty e i ht hi g n cap cur hh a m c news hl hnews h1 hroom (by
   rw [hl, hcs, ← Nat.add_mul]
   exact Nat.mul_le_mul_right _ hroom)
  rw [hr] at this
  injection this with e1 _
  subst e1
  exact .inl hb
 have := run_append_grow (P := P) w t ty e i z ht hi hz ⟨g, 0, none⟩ n cap xs hown.1 (hown.cells (g := g) rfl) a m c news hl hnews (by omega) (by omega) (by rw [hby]; exact growslice_fits (by omega) hbytes)
 rw [hr] at this
 injection this with e1 _
 subst e1
 right
 have : w.heap.size = b := by simpa [Value.ownBlock] using hb
 omega
theorem Zi8 {P : Program} (w : World) {o : Oper} {a : Act} {K : Act → World → Prop} {Q : Exit → Act → World → Prop} (s x : Operand) (t : TypeId)
 (ho : o.op = .call { callee := .builtin .append, args := #[s, x], argTypes := #[t, t] })
 (base : Nat) (e : TypeId) (i : TypeInfo) (z : Value) (size bytes : Nat) (ht : P.underlying t = some (.slice e)) (hi : P.info? e = some i) (hz : i.zero = some z)
 (hsize : i.size = size) (hby : i.bytes = bytes) (hzs : z.cells.size = size) (hsz : 0 < size)
 (v : Value) (n : Nat) (xs : List Value) (hs : a.eval s = v) (hown : w.ownsRow base e size v n xs)
 (ad : Addr) (m c : Nat) (news : List Value) (hx : a.eval x = .slice (some ad) m c) (hl : news.length = m * size) (hnews : ∀ j u, news[j]? = some u → w.cell? (ad.add j) = some u) (h1 : ∀ u ∈ news, u.oneCell' = true)
 (h63 : n + m ≤ maxLen) (hbytes : (n + m) * bytes ≤ 140737488355328) (hbase : base ≤ w.heap.size)
 (h : ∀ v' w', w'.ownsRow base e size v' (n + m) (xs ++ news) → w.grownBy w' v.ownBlock → (∀ b, v'.ownBlock = some b → v.ownBlock = some b ∨ w.heap.size ≤ b) → K (a.put o.dst v') w') : o.wp P a w K Q := by
 obtain ⟨v', w', hr, h2, h3, h4⟩ := Zil (P := P) w base t o.type e i z size bytes ht hi hz hsize hby hzs hsz v n xs hown ad m c news hl hnews h1 h63 hbytes hbase
 unfold Oper.wp execOp
 simp only [ho, resolve, invoke, builtin, Sem.run_bind, Sem.run_pure, Result.andThen_ok, List.map_toArray, List.map_cons, List.map_nil, hs, hx, hr]
 exact h v' w' h2 h3 h4
def Jn (W : World) (b : Nat) (E : TypeId) : Prop := ∃ cs, W.heap[b]? = some (.cells cs E (0, 0))
theorem Jn.ne {W : World} {b c : Nat} {E F : TypeId} (h : Jn W b E) (h' : Jn W c F) (hne : E ≠ F) : b ≠ c := by
 rintro rfl
 obtain ⟨cs, h⟩ := h
 obtain ⟨cs', h'⟩ := h'
 rw [h] at h'
 injection h' with h'
 injection h' with _ h'
 exact hne h'
theorem Jn.lt {W : World} {b : Nat} {E : TypeId} (h : Jn W b E) : b < W.heap.size := by
 obtain ⟨cs, h⟩ := h
 exact (Array.getElem?_eq_some_iff.1 h).1
theorem Jn.keep {W W' : World} {b : Nat} {E : TypeId} (h : Jn W b E) (hk : W'.heap[b]? = W.heap[b]?) : Jn W' b E := by
 obtain ⟨cs, h⟩ := h
 exact ⟨cs, hk.trans h⟩
theorem Jn.set {W : World} {b : Nat} {E : TypeId} (h : Jn W b E) (a : Addr) (u : Value) : Jn (W.setCell a u) b E := by
 by_cases e : b = a.block
 ·
  subst e
  obtain ⟨cs, h⟩ := h
  unfold Jn World.setCell
  split
  · exact ⟨cs, by simp [Array.getElem?_modify, h]⟩
  exact ⟨cs.setIfInBounds a.off u, by simp [Array.getElem?_modify, h]⟩
 exact h.keep (Zak W a u b e)
theorem Jn.new (W : World) (cs : Array Value) (E : TypeId) : Jn (W.alloc (.cells cs E)) W.heap.size E := ⟨cs, heap_alloc_new W _⟩
theorem Jo {w : World} {base : Nat} {E : TypeId} {k n : Nat} {v : Value} {xs : List Value} (h : w.ownsRow base E k v n xs) {b : Nat} (hb : v.ownBlock = some b) : Jn w b E := Zdk h hb
theorem Zab {w w' : World} {base : Nat} {E F : TypeId} {k n b : Nat} {v : Value} {xs : List Value} (h : w.ownsRow base E k v n xs) (hg : w.grownBy w' (some b)) (hb : Jn w b F) (hne : E ≠ F) : w'.ownsRow base E k v n xs :=
 Jl h fun c hc => hg.block c (Qo h hc).2 (fun e => (Jo h hc).ne hb hne (Option.some.inj e))
theorem Qu.past {w w' : World} {base : Nat} {E F G : TypeId} {v : Value} {rows : List Jv} {b : Nat} (h : Qu w base E F v rows) (hg : w.grownBy w' (some b)) (hb : Jn w b G) (h1 : E ≠ G) (h2 : F ≠ G) : Qu w' base E F v rows := by
 obtain ⟨vs, r1, r2, r3⟩ := h
 exact ⟨vs, Zab r1 hg hb h1, ⟨r2.1, fun j a c => Zab (r2.2.1 j a c) hg hb h2, r2.2.2⟩, r3⟩
theorem Ju.past {W W' : World} {base b : Nat} {vc vr : Value} {t : Tbl} {G : TypeId} (h : Ju W base vc vr t) (hg : W.grownBy W' (some b)) (hb : Jn W b G) (h1 : 100 ≠ G) (h2 : 84 ≠ G) (h3 : 105 ≠ G) : Ju W' base vc vr t := ⟨Zab h.cols hg hb h1, h.rows.past hg hb h2 h3⟩
structure ASt (w W : World) (R N H T : Nat) (vc vr : Value) (t : Tbl) : Prop where
 rdr : Qh W R N
 grown : w.grownBy W (some R)
 pos : w.heap.size ≤ H ∧ R < w.heap.size ∧ H < T ∧ T < W.heap.size
 res : Zh W H Zec
 blk : Zh W T (Zd9 vc vr t)
 typ : Jn W T 26
 own : Ju W (H + 1) vc vr t
section
variable {w W W' : World} {R N N' H T : Nat} {vc vr v' : Value} {t t' : Tbl}
theorem ASt.pick (h : ASt w W R N H T vc vr t) (hR : Qh W' R N') (hg : W.grownBy W' (some R)) : ASt w W' R N' H T vc vr t := by
 obtain ⟨p1, p2, p3, p4⟩ := h.pos
 exact ⟨hR, Zk h.grown hg, ⟨p1, p2, p3, Nat.lt_of_lt_of_le p4 hg.size⟩, h.res.keep (Qm hg (by omega) (by omega)), h.blk.keep (Qm hg (by omega) (by omega)), h.typ.keep (Qm hg (by omega) (by omega)), h.own.grow (by omega) hg⟩
theorem ASt.alloc (h : ASt w W R N H T vc vr t) (o : Obj) : ASt w (W.alloc o) R N H T vc vr t :=
 h.pick (h.rdr.below (Zc (Zf W) o)) (World.grownBy_alloc W o (some R))
theorem ASt.mono (h : ASt w W R N H T vc vr t) (hN : N ≤ N') : ASt w W R N' H T vc vr t := ⟨h.rdr.mono hN, h.grown, h.pos, h.res, h.blk, h.typ, h.own⟩
theorem ASt.put (h : ASt w W R N H T vc vr t) (hN : N ≤ N') (k : Nat) (hk : k < 5) (v : Value) (vc' vr' : Value) (hg : ∃ row, W.grownBy W' row ∧ ∀ b, row = some b → H < b ∧ b ≠ T) (e : (Zd9 vc vr t).set k v = Zd9 vc' vr' t') (ho : Ju W' (H + 1) vc' vr' t') :
 ASt w (W'.setCell ⟨T, k, none⟩ v) R N' H T vc' vr' t' := by
 obtain ⟨p1, p2, p3, p4⟩ := h.pos
 obtain ⟨row, hg, hb⟩ := hg
 have hlow : ∀ b, b ≤ H ∨ b = T → W'.heap[b]? = W.heap[b]? := fun b hb' => hg.block b (by omega) (fun e => by have := hb b e.symm; omega)
 have hgw : w.grownBy W' (some R) := ⟨hg.os.trans h.grown.os, hg.tape.trans h.grown.tape, hg.output.trans h.grown.output, Nat.le_trans h.grown.size hg.size, fun k hk hne => (hlow k (by omega)).trans (h.grown.block k hk hne)⟩
 have hR := h.rdr.grow hg (fun g e => by have := hb g e; omega)
 have hT : Jn W' T 26 := h.typ.keep (hlow T (Or.inr rfl))
 refine ⟨(Js hR (by show R < T; omega) _).mono hN, Qs hgw (by show _ ≤ T; omega) _, ⟨p1, p2, p3, by have := hg.size; simp; omega⟩, (h.res.keep (hlow H (Or.inl (Nat.le_refl _)))).other (by show T ≠ H; omega) _, e ▸ (h.blk.keep (hlow T (Or.inr rfl))).set (by exact hk) _, hT.set _ _, ?_⟩
 exact ho.past (Qt W' rfl v) hT (by decide) (by decide) (by decide)
theorem ASt.field (h : ASt w W R N H T vc vr t) (k : Nat) (hk : k < 5) (v : Value) (e : (Zd9 vc vr t).set k v = Zd9 vc vr t') (hc : t'.cols = t.cols) (hr : t'.rows = t.rows) : ASt w (W.setCell ⟨T, k, none⟩ v) R N H T vc vr t' :=
 h.put (Nat.le_refl _) k hk v vc vr ⟨none, Jk _ _, fun b e => by cases e⟩ e ⟨by rw [hc]; exact h.own.cols, by rw [hr]; exact h.own.rows⟩
theorem ASt.col (h : ASt w W R N H T vc vr t) (hN : N ≤ N') (x : Yq) (hg : W.grownBy W' vc.ownBlock) (ho : W'.ownsRow (H + 1) 100 2 v' (t.cols.length + 1) (t.cols.flatMap Zes ++ Zes x)) :
 ASt w (W'.setCell ⟨T, 0, none⟩ v') R N' H T v' vr { t with cols := t.cols ++ [x] } := by
 refine h.put hN 0 (by decide) v' v' vr ⟨_, hg, fun b e => ⟨(Qo h.own.cols e).1, (Jo h.own.cols e).ne h.typ (by decide)⟩⟩ rfl ⟨?_, ?_⟩
 · simp only [List.length_append, List.length_singleton, List.flatMap_append, List.flatMap_singleton]
   exact ho
 obtain ⟨vs, r1, r2, r3⟩ := h.own.rows
 exact h.own.rows.beside hg (Zcf r1 h.own.cols (by decide)) (fun b hb => by obtain ⟨cs, e⟩ := Zdk h.own.cols hb; exact ⟨cs, _, e, by decide⟩)
end
theorem ASt.row {w W W' : World} {R N N' H T : Nat} {vc vr v' : Value} {t : Tbl} {vs : List Value} (h : ASt w W R N H T vc vr t) (hN : N ≤ N') (h1 : W.ownsRow (H + 1) 84 2 vr t.rows.length (Qj vs t.rows)) (h2 : Zaf W (H + 1) 105 vs t.rows) (hg : W.grownBy W' vr.ownBlock) (ho : W'.ownsRow (H + 1) 84 2 v' (t.rows.length + 1) (Qj vs t.rows ++ [.slice none 0 0, .bool false])) :
 ASt w (W'.setCell ⟨T, 3, none⟩ v') R N' H T vc v' { t with rows := t.rows ++ [⟨[], false⟩] } := by
 refine h.put hN 3 (by decide) v' vc v' ⟨_, hg, fun b e => ⟨(Qo h1 e).1, (Jo h1 e).ne h.typ (by decide)⟩⟩ rfl ⟨Zan h.own.cols hg (Zcf h.own.cols h1 (by decide)), ?_⟩
 exact Qu.snoc (r := ⟨[], false⟩) (vx := .slice none 0 0) (by decide) h1 h2 ⟨by simp, .inl ⟨rfl, rfl⟩⟩ (fun a ha b hb => by intro e; cases e) hg ho
theorem Zk3 (vs : List Value) : ∀ (rows : List Jv) (j : Nat) (r : Jv) (v' : Value) (_ : j < vs.length) (h2 : j < rows.length), r.wh = rows[j].wh → Qj (vs.set j v') (rows.set j r) = (Qj vs rows).set (j * 2) v' := by
 induction vs with
 | nil => intro rows j r v' h; exact absurd h (Nat.not_lt_zero _)
 | cons v vs ih =>
  intro rows j r v' h1 h2 hw
  cases rows with
  | nil => exact absurd h2 (Nat.not_lt_zero _)
  | cons q rows =>
   have e : ∀ (v : Value) (vs : List Value) (x : Jv) (ys : List Jv), Qj (v :: vs) (x :: ys) = v :: .bool x.wh :: Qj vs ys := fun _ _ _ _ => rfl
   cases j with
   | zero =>
    have hw' : r.wh = q.wh := hw
    simp [e, hw']
   | succ j =>
    rw [List.set_cons_succ, List.set_cons_succ, e, e, ih rows j r v' (by simpa using h1) (by simpa using h2) (by simpa using hw), show (j + 1) * 2 = j * 2 + 1 + 1 by omega]
    rfl
theorem Qu.grown {w w' : World} {base : Nat} {E F : TypeId} {g n cap : Nat} {v' : Value} {rows : List Jv} {vs : List Value} {j : Nat} (hEF : E ≠ F) (h1 : w.ownsRow base E 2 (.slice (some ⟨g, 0, none⟩) n cap) rows.length (Qj vs rows)) (h2 : Zaf w base F vs rows)
 (hj : j < vs.length) (hj' : j < rows.length) (c : Qi) (hg : w.grownBy w' vs[j].ownBlock) (ho : w'.ownsRow base F 11 v' (rows[j].cs.length + 1) (rows[j].cs.flatMap Qv ++ Qv c)) (hw : ∀ b, v'.ownBlock = some b → vs[j].ownBlock = some b ∨ w.heap.size ≤ b) :
 Qu (w'.setCell ⟨g, j * 2, none⟩ v') base E F (.slice (some ⟨g, 0, none⟩) n cap) (rows.set j ⟨rows[j].cs ++ [c], rows[j].wh⟩) := by
 have hn : n = rows.length := by obtain ⟨A, c, e⟩ := Zbs h1; injection e
 subst hn
 have h1' : w'.ownsRow base E 2 (.slice (some ⟨g, 0, none⟩) rows.length cap) rows.length (Qj vs rows) := Zan h1 hg (Zcf h1 (h2.2.1 j hj hj') hEF)
 have hgt : Jn w' g E := Jo h1' (b := g) rfl
 have hgs : w'.grownBy (w'.setCell ⟨g, j * 2, none⟩ v') (some g) := Qt w' rfl v'
 have hr1 := (h1'.stored (j * 2) v').1
 have hr1' := Zk3 vs rows j ⟨rows[j].cs ++ [c], rows[j].wh⟩ v' hj hj' rfl
 rw [← hr1'] at hr1
 have hap : ∀ (i : Nat) (hi : i < vs.length), i ≠ j → Za8 vs[i] v' := by
  intro i hi hij b hb hb'
  rcases hw b hb' with h | h
  · have hp := List.pairwise_iff_getElem.1 h2.2.2
    rcases Nat.lt_or_gt_of_ne hij with hlt | hgt
    · exact hp i j hi hj hlt b hb h
    exact hp j i hj hi hgt b h hb
  have := (Qo (h2.2.1 i hi (by rw [← h2.1]; exact hi)) hb).2
  omega
 have hbes : ∀ (i : Nat) (hi : i < vs.length) (hi' : i < rows.length), i ≠ j → (w'.setCell ⟨g, j * 2, none⟩ v').ownsRow base F 11 vs[i] rows[i].cs.length (rows[i].cs.flatMap Qv) := by
  intro i hi hi' hij
  have hp := List.pairwise_iff_getElem.1 h2.2.2
  have ha : Za8 vs[i] vs[j] := by
   rcases Nat.lt_or_gt_of_ne hij with hlt | hgt
   · exact hp i j hi hj hlt
   exact fun b hb hb' => hp j i hj hi hgt b hb' hb
  exact Zab (Zan (h2.2.1 i hi hi') hg ha) hgs hgt (Ne.symm hEF)
 have hnew : (w'.setCell ⟨g, j * 2, none⟩ v').ownsRow base F 11 v' (rows[j].cs ++ [c]).length ((rows[j].cs ++ [c]).flatMap Qv) := by
  simp only [List.length_append, List.length_singleton, List.flatMap_append, List.flatMap_singleton]
  exact Zab ho hgs hgt (Ne.symm hEF)
 have hin : Zaf (w'.setCell ⟨g, j * 2, none⟩ v') base F (vs.set j v') (rows.set j ⟨rows[j].cs ++ [c], rows[j].wh⟩) := by
  refine ⟨by simp [h2.1], fun i hi hi' => ?_, ?_⟩
  ·
   by_cases e : j = i
   · subst e
     simp only [List.getElem_set_self]
     exact hnew
   simp only [List.getElem_set_ne e]
   exact hbes i (by simpa using hi) (by simpa using hi') (Ne.symm e)
  rw [List.pairwise_iff_getElem]
  intro a b ha hb hab
  have hp := List.pairwise_iff_getElem.1 h2.2.2
  by_cases ea : j = a
  · subst ea
    rw [List.getElem_set_self, List.getElem_set_ne (by omega)]
    exact fun k hk hk' => hap b (by simpa using hb) (by omega) k hk' hk
  rw [List.getElem_set_ne ea]
  by_cases eb : j = b
  · subst eb
    rw [List.getElem_set_self]
    exact hap a (by simpa using ha) (by omega)
  rw [List.getElem_set_ne eb]
  exact hp a b (by simpa using ha) (by simpa using hb) hab
 refine ⟨vs.set j v', by rw [List.length_set]; exact hr1, hin, fun a ha => ?_⟩
 obtain ⟨i, hi, rfl⟩ := List.getElem_of_mem ha
 exact Zcf hr1 (hin.2.1 i hi (by rw [← hin.1]; exact hi)) hEF
theorem ASt.cell {w W W' : World} {R N N' H T g n cap : Nat} {vc v' : Value} {t : Tbl} {vs : List Value} {j : Nat} (h : ASt w W R N H T vc (.slice (some ⟨g, 0, none⟩) n cap) t) (hN : N ≤ N') (h1 : W.ownsRow (H + 1) 84 2 (.slice (some ⟨g, 0, none⟩) n cap) t.rows.length (Qj vs t.rows)) (h2 : Zaf W (H + 1) 105 vs t.rows)
 (hj : j < vs.length) (hj' : j < t.rows.length) (c : Qi) (hg : W.grownBy W' vs[j].ownBlock) (ho : W'.ownsRow (H + 1) 105 11 v' (t.rows[j].cs.length + 1) (t.rows[j].cs.flatMap Qv ++ Qv c)) (hw : ∀ b, v'.ownBlock = some b → vs[j].ownBlock = some b ∨ W.heap.size ≤ b) :
 ASt w (W'.setCell ⟨g, j * 2, none⟩ v') R N' H T vc (.slice (some ⟨g, 0, none⟩) n cap) { t with rows := t.rows.set j ⟨t.rows[j].cs ++ [c], t.rows[j].wh⟩ } := by
 obtain ⟨p1, p2, p3, p4⟩ := h.pos
 have hx := h2.2.1 j hj hj'
 have hlow : ∀ b, b ≤ H ∨ b = T → W'.heap[b]? = W.heap[b]? := fun b hb' => hg.block b (by omega) (fun e => by
  have h3 := (Qo hx e.symm).1
  have h4 := (Jo hx e.symm).ne h.typ (by decide)
  omega)
 have hgw : w.grownBy W' (some R) := ⟨hg.os.trans h.grown.os, hg.tape.trans h.grown.tape, hg.output.trans h.grown.output, Nat.le_trans h.grown.size hg.size, fun k hk hne => (hlow k (by omega)).trans (h.grown.block k hk hne)⟩
 have hR := h.rdr.grow hg (fun g e => by have := (Qo hx e).1; omega)
 have hg1 := Qo h1 (b := g) rfl
 have hgT := (Jo h1 (b := g) rfl).ne h.typ (by decide)
 have hgt : Jn W' g 84 := Jo (Zan h1 hg (Zcf h1 hx (by decide))) (b := g) rfl
 refine ⟨(Js hR (by show R < g; omega) _).mono hN, Qs hgw (by show _ ≤ g; omega) _, ⟨p1, p2, p3, by have := hg.size; simp; omega⟩, (h.res.keep (hlow H (Or.inl (Nat.le_refl _)))).other (by show g ≠ H; omega) _, (h.blk.keep (hlow T (Or.inr rfl))).other (by show g ≠ T; exact hgT) _, (h.typ.keep (hlow T (Or.inr rfl))).set _ _, ?_, Qu.grown (by decide) h1 h2 hj hj' c hg ho hw⟩
 exact Zab (Zan h.own.cols hg (Zcf h.own.cols hx (by decide))) (Qt W' rfl v') hgt (by decide)
end Go.Proofs.YtgdmcmicfoamlaaGreatDoor
namespace Go.Proofs.YtgdmcmicfoamlaaGreatDoor
theorem Znk (L : List Zl) (c : Zl) (n : Nat) : ∀ (m k : Nat), Zv L c m k = Zv L c (m + n) k ∨ (Zv L c m k = k + m ∧ k + m ≤ Zv L c (m + n) k)
 | 0, k => .inr ⟨rfl, by
  have : ∀ (j k : Nat), k ≤ Zv L c j k := fun j => by
   induction j with
   | zero => intro k; exact Nat.le_refl k
   | succ j ih => intro k; unfold Zv; split; exact Nat.le_trans (Nat.le_succ k) (ih (k + 1)); exact Nat.le_refl k
  exact this _ _⟩
 | m + 1, k => by
  rw [show m + 1 + n = (m + n) + 1 by omega]
  unfold Zv
  split
  · rcases Znk L c n m (k + 1) with h | ⟨h1, h2⟩
    · exact .inl h
    exact .inr ⟨by omega, by omega⟩
  exact .inl rfl
def Zd3 (S S' : List Zl × Int) : Prop := S = S' ∨ (90 ≤ S.2 ∧ 90 ≤ S'.2)
theorem Zd3.step {S S' : List Zl × Int} (h : Zd3 S S') (t : Tbl) (r i : Nat) (x : Qi) (hx : 0 ≤ x.c) : Zd3 (Zai 400 t r i x S) (Zai 90 t r i x S') := by
 rcases h with rfl | ⟨h1, h2⟩
 ·
  have hf := Znk S.1 (Jp t r i x) 310 90 0
  rw [show 90 + 310 = 400 from rfl] at hf
  rcases hf with h | ⟨h1, h2⟩
  · left; unfold Zai; rw [h]
  right
  simp only [Zai]
  rw [h1]
  constructor <;> omega
 right; simp only [Zai]; constructor <;> omega
theorem Zd3.cells (t : Tbl) (r : Nat) : ∀ (xs : List Qi) (i : Nat) {S S' : List Zl × Int}, (∀ x ∈ xs, 0 ≤ x.c) → Zd3 S S' → Zd3 (Jf 400 t r xs i S) (Jf 90 t r xs i S')
 | [], _, _, _, _, h => h
 | x :: xs, i, _, _, hx, h => Zd3.cells t r xs (i + 1) (fun y hy => hx y (List.mem_cons_of_mem _ hy)) (h.step t r i x (hx x (List.mem_cons_self ..)))
theorem Zd3.rows (t : Tbl) : ∀ (ys : List Jv) (r : Nat) {S S' : List Zl × Int}, (∀ y ∈ ys, ∀ x ∈ y.cs, 0 ≤ x.c) → Zd3 S S' → Zd3 (Yy 400 t ys r S) (Yy 90 t ys r S')
 | [], _, _, _, _, h => h
 | y :: ys, r, _, _, hx, h => Zd3.rows t ys (r + 1) (fun z hz => hx z (List.mem_cons_of_mem _ hz)) (Zd3.cells t r y.cs 0 (hx y (List.mem_cons_self ..)) h)
theorem Zo9 {t : Tbl} (h : Qn t = true) : Zd3 (Zp 400 t) (Zp 90 t) :=
 Zd3.rows t t.rows 0 (fun y hy x hx => by have := (Zag (((Zx h).2.2.2.2.2.2 y hy).2 x hx)).1.1; omega) (.inl rfl)
end Go.Proofs.YtgdmcmicfoamlaaGreatDoor
namespace Go.Proofs.YtgdmcmicfoamlaaGreatDoor
open Go.RowKit
theorem GIn.rows {m : Nat} {t : Tbl} (h : Qn t = true) : GIn 40 (Zp m t) := by
 obtain ⟨⟨p1, p2⟩, p3, _⟩ := Zx h
 have hcells : ∀ (r : Nat) (hr : r < t.rows.length) (xs : List Qi) (i n : Nat) (S : List Zl × Int), (∀ x ∈ xs, Zax x = true) → i + xs.length ≤ 5 → GIn n S → GIn (n + xs.length) (Jf m t r xs i S) := by
  intro r hr xs
  induction xs with
  | nil => intro i n S _ _ hS; exact hS
  | cons x xs ih =>
   intro i n S hx hi hS
   simp only [List.length_cons] at hi ⊢
   have hx0 := Zag (hx x (List.mem_cons_self ..))
   have hb := Zc2 h hr i x hx0.2
   have := ih (i + 1) (n + 1) _ (fun y hy => hx y (List.mem_cons_of_mem _ hy)) (by omega) (hS.step m t r i x (by omega) (by omega) hx0.1 ⟨by omega, by omega⟩)
   rw [show n + (xs.length + 1) = n + 1 + xs.length by omega]
   exact this
 have hrows : ∀ (k : Nat) (S : List Zl × Int), k ≤ t.rows.length → GIn (5 * (t.rows.length - k)) S → GIn (5 * t.rows.length) (Yy m t (t.rows.drop (t.rows.length - k)) (t.rows.length - k) S) := by
  intro k
  induction k with
  | zero => intro S _ hS; rw [Nat.sub_zero, List.drop_length]; exact hS
  | succ k ih =>
   intro S hk hS
   have hlt : t.rows.length - (k + 1) < t.rows.length := by omega
   rw [List.drop_eq_getElem_cons hlt, Yy]
   have hy := (Zx h).2.2.2.2.2.2 _ (List.getElem_mem hlt)
   have h1 := hcells _ hlt t.rows[t.rows.length - (k + 1)].cs 0 _ S hy.2 (by have := hy.1; omega) hS
   have h2 := h1.le (n' := 5 * (t.rows.length - k)) (by have := hy.1; omega)
   have h3 := ih _ (by omega) h2
   rw [show t.rows.length - k = t.rows.length - (k + 1) + 1 by omega] at h3
   exact h3
 have h0 := hrows t.rows.length (Zad t) (Nat.le_refl _) (by rw [Nat.sub_self]; exact GIn.zero t p3)
 rw [Nat.sub_self] at h0
 exact GIn.le h0 (by omega)
theorem Zvk (a b : Int) (A : Option Addr) (l c : Nat) (W : World) : (Instr.field 39 (.agg #[.int .i64 a, .int .i64 b, .slice A l c]) 1).run Tryz.prog W = .ok (.int .i64 b) W := by kernel_rfl
theorem Zmv (a b : Int) (W : World) : (Instr.field 100 (.agg #[.int .i64 a, .int .i64 b]) 0).run Tryz.prog W = .ok (.int .i64 a) W := by kernel_rfl
end Go.Proofs.YtgdmcmicfoamlaaGreatDoor
namespace Go.Proofs.YtgdmcmicfoamlaaGreatDoor
theorem Zf1 {α : Type} (p q : α → Bool) : ∀ (l : List α), l.countP (fun x => p x || q x) ≤ l.countP p + l.countP q
 | [] => Nat.le_refl _
 | x :: l => by
  have ih := Zf1 p q l
  simp only [List.countP_cons]
  cases p x <;> cases q x <;> simp <;> omega
theorem Zex {α : Type} (p q : α → Bool) : ∀ (l : List α), (∀ x ∈ l, p x = true → q x = true) → l.countP p ≤ l.countP q
 | [], _ => Nat.le_refl _
 | x :: l, h => by
  have ih := Zex p q l (fun y hy => h y (List.mem_cons_of_mem _ hy))
  have hx := h x (List.mem_cons_self ..)
  simp only [List.countP_cons]
  cases hp : p x <;> cases hq : q x <;> simp [hp, hq] at hx ⊢ <;> omega
theorem Zhq (lo hi : Int) : ∀ (n : Nat), ((List.range n).countP (fun k : Nat => decide (lo < (k : Int)) && decide ((k : Int) < hi)) : Int) ≤ max 0 (min (n : Int) hi - lo - 1)
 | 0 => by simp; omega
 | n + 1 => by
  have ih := Zhq lo hi n
  rw [List.range_succ, List.countP_append, List.countP_singleton]
  by_cases h1 : lo < (n : Int) <;> by_cases h2 : (n : Int) < hi <;> simp [h1, h2] <;> omega
def Zix (r : Int) (b : Zl) : Bool := decide (r < b.row + b.rows)
theorem Zf7 (c : Zl) (hc : c.cols ≤ 4) (n : Nat) : ∀ (L : List Zl), (∀ b ∈ L, b.cols ≤ 4) →
 (List.range n).countP (fun k : Nat => L.any (Yj (Zba c k))) ≤ 7 * L.countP (Zix c.row)
 | [], _ => by simp
 | b :: L, h => by
  have ih := Zf7 c hc n L (fun y hy => h y (List.mem_cons_of_mem _ hy))
  have hb := h b (List.mem_cons_self ..)
  have h1 := Zf1 (fun k : Nat => Yj (Zba c k) b) (fun k : Nat => L.any (Yj (Zba c k))) (List.range n)
  simp only [List.any_cons, List.countP_cons]
  have h2 : (List.range n).countP (fun k : Nat => Yj (Zba c k) b) ≤ 7 * (if Zix c.row b = true then 1 else 0) := by
   by_cases hn : Zix c.row b = true
   ·
    rw [if_pos hn]
    have h3 := Zhq (b.col - c.cols) (b.col + b.cols) n
    have h4 := Zex (fun k : Nat => Yj (Zba c k) b) (fun k : Nat => decide (b.col - c.cols < (k : Int)) && decide ((k : Int) < b.col + b.cols)) (List.range n) (fun k _ hk => by
     dsimp only [Yj, Zba] at hk
     simp only [Bool.and_eq_true, decide_eq_true_eq] at hk ⊢
     obtain ⟨⟨⟨_, _⟩, h5⟩, h6⟩ := hk
     constructor <;> omega)
    have h5 : max 0 (min (n : Int) (b.col + b.cols) - (b.col - c.cols) - 1) ≤ 7 := Int.max_le.2 ⟨by decide, by omega⟩
    omega
   rw [if_neg hn]
   have h4 := Zex (fun k : Nat => Yj (Zba c k) b) (fun _ => false) (List.range n) (fun k _ hk => by
    dsimp only [Yj, Zba] at hk
    simp only [Bool.and_eq_true, decide_eq_true_eq] at hk
    simp only [Zix, decide_eq_true_eq] at hn
    exact absurd hk.1.1.1 hn)
   simpa using h4
  omega
theorem free_spec (L : List Zl) (c : Zl) : ∀ (m k : Nat), k ≤ Zv L c m k ∧ ∀ j, k ≤ j → j < Zv L c m k → L.any (Yj (Zba c (j : Nat))) = true
 | 0, k => ⟨Nat.le_refl k, fun j h1 h2 => by simp only [Zv] at h2; omega⟩
 | m + 1, k => by
  unfold Zv
  split
  ·
   rename_i hb
   obtain ⟨h1, h2⟩ := free_spec L c m (k + 1)
   refine ⟨by omega, fun j h3 h4 => ?_⟩
   by_cases e : j = k
   · subst e; exact hb
   exact h2 j (by omega) h4
  exact ⟨Nat.le_refl k, fun j h1 h2 => by omega⟩
theorem Zll (L : List Zl) (c : Zl) (hc : c.cols ≤ 4) (hL : ∀ b ∈ L, b.cols ≤ 4) (m : Nat) : Zv L c m 0 ≤ 7 * L.countP (Zix c.row) := by
 have h := (free_spec L c m 0).2
 have h1 := Zf7 c hc (Zv L c m 0) L hL
 have h2 : (List.range (Zv L c m 0)).countP (fun k : Nat => L.any (Yj (Zba c k))) = Zv L c m 0 := by
  have : (List.range (Zv L c m 0)).countP (fun k : Nat => L.any (Yj (Zba c k))) = (List.range (Zv L c m 0)).length :=
   List.countP_eq_length.2 fun j hj => h j (Nat.zero_le j) (List.mem_range.1 hj)
  rw [this, List.length_range]
 omega
def Zb7 (k r : Int) : Nat := if r = k then 5 else 4
structure Zdg (k : Int) (r i : Nat) (S : List Zl × Int) : Prop where
 few : ∀ j : Int, S.1.countP (fun b => decide (b.row = j)) ≤ Zb7 k j
 here : S.1.countP (fun b => decide (b.row = (r : Int))) ≤ i
 each : ∀ b ∈ S.1, b.row ≤ r ∧ b.rows ≤ 3 ∧ b.cols ≤ 4
 wide : S.2 < 90
theorem Zdg.near {k : Int} {r i : Nat} {S : List Zl × Int} (h : Zdg k r i S) (hi : i < Zb7 k r) : S.1.countP (Zix r) ≤ 12 := by
 have h1 := Zex (Zix r) (fun b => decide (b.row = (r : Int)) || (decide (b.row = (r : Int) - 1) || decide (b.row = (r : Int) - 2))) S.1 (fun b hb hn => by
  have := h.each b hb
  simp only [Zix, decide_eq_true_eq] at hn
  simp only [Bool.or_eq_true, decide_eq_true_eq]
  omega)
 have h2 := Zf1 (fun b : Zl => decide (b.row = (r : Int))) (fun b => decide (b.row = (r : Int) - 1) || decide (b.row = (r : Int) - 2)) S.1
 have h3 := Zf1 (fun b : Zl => decide (b.row = (r : Int) - 1)) (fun b => decide (b.row = (r : Int) - 2)) S.1
 have h4 := h.few ((r : Int) - 1)
 have h5 := h.few ((r : Int) - 2)
 have h6 := h.here
 unfold Zb7 at hi h4 h5
 split at hi <;> split at h4 <;> split at h5 <;> omega
theorem Zdg.step {k : Int} {r i : Nat} {S : List Zl × Int} (h : Zdg k r i S) (hi : i < Zb7 k r) (m : Nat) (t : Tbl) (n : Nat) (x : Qi) (hx : x.c ≤ 4) (hr : x.r ≤ 3) : Zdg k r (i + 1) (Zai m t r n x S) := by
 have hn := h.near hi
 have hf := Zll S.1 (Jp t r n x) hx (fun b hb => (h.each b hb).2.2) m
 have hrow : (Jp t r n x).row = (r : Int) := rfl
 rw [hrow] at hf
 unfold Zai
 refine ⟨fun j => ?_, ?_, fun b hb => ?_, ?_⟩
 ·
  simp only [List.countP_append, List.countP_singleton]
  have h1 := h.few j
  by_cases e : j = (r : Int)
  · subst e
    have h2 := h.here
    have : (if (decide ((Zba (Jp t r n x) (Zv S.1 (Jp t r n x) m 0 : Nat)).row = (r : Int))) = true then 1 else 0) ≤ 1 := by split <;> omega
    omega
  rw [if_neg (fun e' => e (of_decide_eq_true e').symm)]
  omega
 · simp only [List.countP_append, List.countP_singleton]
   have h2 := h.here
   have : (if (decide ((Zba (Jp t r n x) (Zv S.1 (Jp t r n x) m 0 : Nat)).row = (r : Int))) = true then 1 else 0) ≤ 1 := by split <;> omega
   omega
 ·
  rcases List.mem_append.1 hb with hb | hb
  · exact h.each b hb
  rw [List.mem_singleton.1 hb]
  refine ⟨Int.le_refl _, ?_, hx⟩
  have : (Jp t r n x).rows = min x.r (Ja t r - r) := rfl
  show (Jp t r n x).rows ≤ 3
  rw [this]; omega
 have := h.wide
 show max S.2 _ < 90
 exact Int.max_lt.2 ⟨this, by omega⟩
theorem Zdg.cells {k : Int} (m : Nat) (t : Tbl) (r : Nat) : ∀ (xs : List Qi) (n i : Nat) {S : List Zl × Int}, Zdg k r i S → i + xs.length ≤ Zb7 k r → (∀ x ∈ xs, x.c ≤ 4 ∧ x.r ≤ 3) → Zdg k r (i + xs.length) (Jf m t r xs n S)
 | [], _, _, _, h, _, _ => h
 | x :: xs, n, i, S, h, hl, hx => by
  have hl' : i + (xs.length + 1) ≤ Zb7 k r := hl
  have h1 := h.step (by omega) m t n x (hx x (List.mem_cons_self ..)).1 (hx x (List.mem_cons_self ..)).2
  have h2 := Zdg.cells m t r xs (n + 1) (i + 1) h1 (by omega) (fun y hy => hx y (List.mem_cons_of_mem _ hy))
  rw [show i + (x :: xs).length = i + 1 + xs.length by simp only [List.length_cons]; omega]
  exact h2
theorem Zdg.next {k : Int} {r i : Nat} {S : List Zl × Int} (h : Zdg k r i S) : Zdg k (r + 1) 0 S :=
 ⟨h.few, by
  refine Nat.le_of_eq (List.countP_eq_zero.2 fun b hb e => ?_)
  have := (h.each b hb).1
  simp only [decide_eq_true_eq] at e
  omega, fun b hb => by have := h.each b hb; exact ⟨by omega, this.2⟩, h.wide⟩
theorem Zdg.rows {k : Int} (m : Nat) (t : Tbl) : ∀ (ys : List Jv) (r : Nat) {S : List Zl × Int}, Zdg k r 0 S → (∀ (j : Nat) (hj : j < ys.length), ys[j].cs.length ≤ Zb7 k ((r + j : Nat) : Int) ∧ ∀ x ∈ ys[j].cs, x.c ≤ 4 ∧ x.r ≤ 3) → (Yy m t ys r S).2 < 90
 | [], _, _, h, _ => h.wide
 | y :: ys, r, S, h, hy => by
  have h0 := hy 0 (by simp)
  have h1 := Zdg.cells m t r y.cs 0 0 h (by simpa using h0.1) h0.2
  exact Zdg.rows m t ys (r + 1) h1.next (fun j hj => by
   have := hy (j + 1) (by simpa using hj)
   rw [show r + 1 + j = r + (j + 1) by omega]
   simpa using this)
theorem Zn2 {t : Tbl} (h : Qn t = true) {k : Nat} (hy : ∀ (j : Nat) (hj : j < t.rows.length), t.rows[j].cs.length ≤ (if j = k then 5 else 4) ∧ ∀ x ∈ t.rows[j].cs, x.r ≠ 4) : Zp 400 t = Zp 90 t := by
 have h0 : Zdg (k : Int) 0 0 (Zad t) := ⟨fun j => by simp [Zad], by simp [Zad], fun b hb => by simp [Zad] at hb, by
  have := (Zx h).2.1
  show max (t.cols.length : Int) 1 < 90
  exact Int.max_lt.2 ⟨by omega, by decide⟩⟩
 have hlow : (Zp 90 t).2 < 90 := Zdg.rows 90 t t.rows 0 h0 (fun j hj => by
  refine ⟨?_, fun x hx => ?_⟩
  ·
   have := (hy j hj).1
   unfold Zb7
   rw [Nat.zero_add]
   by_cases e : j = k
   · rw [if_pos e] at this; rw [if_pos (by omega)]; exact this
   rw [if_neg e] at this; rw [if_neg (by omega)]; exact this
  have h1 := (Zag (((Zx h).2.2.2.2.2.2 _ (List.getElem_mem hj)).2 x hx))
  have h2 := (hy j hj).2 x hx
  have h3 := h1.1
  have h4 := h1.2.1
  exact ⟨by omega, by omega⟩)
 rcases Zo9 h with e | ⟨_, h2⟩
 · exact e
 omega
def Zc4 (L : List Zl) : Prop := L.Pairwise fun a b => Yj a b = false
theorem Zlu (L : List Zl) (c : Zl) : ∀ (m k : Nat), Zv L c m k < k + m → L.any (Yj (Zba c (Zv L c m k : Nat))) = false
 | 0, k, h => by simp only [Zv] at h; omega
 | m + 1, k, h => by
  unfold Zv at h ⊢
  split
  · rename_i hb
    rw [if_pos hb] at h
    exact Zlu L c m (k + 1) (by omega)
  rename_i hb
  exact Bool.eq_false_iff.2 hb
theorem Zc4.step {k : Int} {r i : Nat} {S : List Zl × Int} (ha : Zc4 S.1) (h : Zdg k r i S) (hi : i < Zb7 k r) {m : Nat} (hm : 84 < m) (t : Tbl) (n : Nat) (x : Qi) (hx : x.c ≤ 4) : Zc4 (Zai m t r n x S).1 := by
 have hn := h.near hi
 have hf := Zll S.1 (Jp t r n x) hx (fun b hb => (h.each b hb).2.2) m
 have hrow : (Jp t r n x).row = (r : Int) := rfl
 rw [hrow] at hf
 have hfree := Zlu S.1 (Jp t r n x) m 0 (by omega)
 unfold Zai
 refine List.pairwise_append.2 ⟨ha, List.pairwise_singleton .., fun a hl b hb => ?_⟩
 rw [List.mem_singleton.1 hb, Zj6]
 exact Bool.eq_false_iff.2 fun e => absurd (List.any_eq_true.2 ⟨a, hl, e⟩) (by rw [hfree]; decide)
theorem Zc4.cells {k : Int} {m : Nat} (hm : 84 < m) (t : Tbl) (r : Nat) : ∀ (xs : List Qi) (n i : Nat) {S : List Zl × Int}, Zc4 S.1 → Zdg k r i S → i + xs.length ≤ Zb7 k r → (∀ x ∈ xs, x.c ≤ 4 ∧ x.r ≤ 3) → Zc4 (Jf m t r xs n S).1
 | [], _, _, _, ha, _, _, _ => ha
 | x :: xs, n, i, S, ha, h, hl, hx => by
  have hl' : i + (xs.length + 1) ≤ Zb7 k r := hl
  have h0 := hx x (List.mem_cons_self ..)
  exact Zc4.cells hm t r xs (n + 1) (i + 1) (ha.step h (by omega) hm t n x h0.1) (h.step (by omega) m t n x h0.1 h0.2) (by omega) (fun y hy => hx y (List.mem_cons_of_mem _ hy))
theorem Zc4.rows {k : Int} {m : Nat} (hm : 84 < m) (t : Tbl) : ∀ (ys : List Jv) (r : Nat) {S : List Zl × Int}, Zc4 S.1 → Zdg k r 0 S → (∀ (j : Nat) (hj : j < ys.length), ys[j].cs.length ≤ Zb7 k ((r + j : Nat) : Int) ∧ ∀ x ∈ ys[j].cs, x.c ≤ 4 ∧ x.r ≤ 3) → Zc4 (Yy m t ys r S).1
 | [], _, _, ha, _, _ => ha
 | y :: ys, r, S, ha, h, hy => by
  have h0 := hy 0 (by simp)
  have h1 := Zdg.cells m t r y.cs 0 0 h (by simpa using h0.1) h0.2
  have h2 := Zc4.cells hm t r y.cs 0 0 ha h (by simpa using h0.1) h0.2
  exact Zc4.rows hm t ys (r + 1) h2 h1.next (fun j hj => by
   have := hy (j + 1) (by simpa using hj)
   rw [show r + 1 + j = r + (j + 1) by omega]
   simpa using this)
theorem Zmh {t : Tbl} (h : Qn t = true) {k : Nat} (hy : ∀ (j : Nat) (hj : j < t.rows.length), t.rows[j].cs.length ≤ (if j = k then 5 else 4) ∧ ∀ x ∈ t.rows[j].cs, x.r ≠ 4) :
 Zdg (k : Int) 0 0 (Zad t) ∧ ∀ (j : Nat) (hj : j < t.rows.length), t.rows[j].cs.length ≤ Zb7 k ((0 + j : Nat) : Int) ∧ ∀ x ∈ t.rows[j].cs, x.c ≤ 4 ∧ x.r ≤ 3 := by
 refine ⟨⟨fun j => by simp [Zad], by simp [Zad], fun b hb => by simp [Zad] at hb, by
  have := (Zx h).2.1
  show max (t.cols.length : Int) 1 < 90
  exact Int.max_lt.2 ⟨by omega, by decide⟩⟩, fun j hj => ⟨?_, fun x hx => ?_⟩⟩
 ·
  have := (hy j hj).1
  unfold Zb7
  rw [Nat.zero_add]
  by_cases e : j = k
  · rw [if_pos e] at this; rw [if_pos (by omega)]; exact this
  rw [if_neg e] at this; rw [if_neg (by omega)]; exact this
 have h1 := (Zag (((Zx h).2.2.2.2.2.2 _ (List.getElem_mem hj)).2 x hx))
 have h2 := (hy j hj).2 x hx
 have h3 := h1.1
 have h4 := h1.2.1
 exact ⟨by omega, by omega⟩
structure Zq5 where
 x : Int
 y : Int
 w : Int
 h : Int
def Zq5.has (r : Zq5) (x y : Nat) : Bool := (decide (r.x ≤ x) && decide ((x : Int) < r.x + r.w)) && (decide (r.y ≤ y) && decide ((y : Int) < r.y + r.h))
def Zq5.over (a b : Zq5) : Prop := a.x < b.x + b.w ∧ b.x < a.x + a.w ∧ a.y < b.y + b.h ∧ b.y < a.y + a.h
structure Zqi (nr nc : Int) (c : Zl) : Prop where
 row : 0 ≤ c.row
 rows : 1 ≤ c.rows
 down : c.row + c.rows ≤ nr
 col : 0 ≤ c.col
 cols : 1 ≤ c.cols
 right : c.col + c.cols ≤ nc
theorem Zqi.wider {nr nc nc' : Int} {c : Zl} (h : Zqi nr nc c) (hn : nc ≤ nc') : Zqi nr nc' c := ⟨h.row, h.rows, h.down, h.col, h.cols, Int.le_trans h.right hn⟩
def Zd8 (nr : Int) (S : List Zl × Int) : Prop := ∀ c ∈ S.1, Zqi nr S.2 c
theorem Zd8.step {nr : Int} {S : List Zl × Int} (h : Zd8 nr S) (m : Nat) (t : Tbl) (r n : Nat) (x : Qi) (hc : 1 ≤ x.c) (hr : 1 ≤ x.r) (he : (r : Int) < Ja t r ∧ Ja t r ≤ nr) : Zd8 nr (Zai m t r n x S) := by
 unfold Zai
 intro c hc'
 rcases List.mem_append.1 hc' with hc' | hc'
 · exact (h c hc').wider (Int.le_max_left ..)
 rw [List.mem_singleton.1 hc']
 have e : (Zba (Jp t r n x) (Zv S.1 (Jp t r n x) m 0 : Nat)).rows = min x.r (Ja t r - r) := rfl
 have e2 : (Zba (Jp t r n x) (Zv S.1 (Jp t r n x) m 0 : Nat)).row = (r : Int) := rfl
 refine ⟨by rw [e2]; omega, by rw [e]; omega, by rw [e, e2]; omega, ?_, hc, Int.le_max_right ..⟩
 exact Int.natCast_nonneg _
theorem Zd8.cells {nr : Int} (m : Nat) (t : Tbl) (r : Nat) (he : (r : Int) < Ja t r ∧ Ja t r ≤ nr) : ∀ (xs : List Qi) (n : Nat) {S : List Zl × Int}, Zd8 nr S → (∀ x ∈ xs, 1 ≤ x.c ∧ 1 ≤ x.r) → Zd8 nr (Jf m t r xs n S)
 | [], _, _, h, _ => h
 | x :: xs, n, _, h, hx => Zd8.cells m t r he xs (n + 1) (h.step m t r n x (hx x (List.mem_cons_self ..)).1 (hx x (List.mem_cons_self ..)).2 he) (fun y hy => hx y (List.mem_cons_of_mem _ hy))
theorem Zd8.rows {nr : Int} (m : Nat) (t : Tbl) : ∀ (ys : List Jv) (r : Nat) {S : List Zl × Int}, Zd8 nr S → (∀ j : Nat, j < ys.length → ((r + j : Nat) : Int) < Ja t (r + j : Nat) ∧ Ja t (r + j : Nat) ≤ nr) → (∀ y ∈ ys, ∀ x ∈ y.cs, 1 ≤ x.c ∧ 1 ≤ x.r) → Zd8 nr (Yy m t ys r S)
 | [], _, _, h, _, _ => h
 | y :: ys, r, _, h, he, hx => Zd8.rows m t ys (r + 1) (Zd8.cells m t r (he 0 (by simp)) y.cs 0 h (hx y (List.mem_cons_self ..)))
  (fun j hj => by have := he (j + 1) (by simpa using hj); rw [show r + 1 + j = r + (j + 1) by omega]; exact this)
  (fun z hz => hx z (List.mem_cons_of_mem _ hz))
theorem Zvr {t : Tbl} (h : Qn t = true) (r : Int) : Ja t r ≤ t.rows.length := by
 have h1 := (Zx h).2.2.2.1
 have h2 := (Zx h).2.2.2.2.1
 unfold Ja
 split
 · omega
 split <;> omega
theorem Zfv {t : Tbl} (h : Qn t = true) (m : Nat) : Zd8 t.rows.length (Zp m t) :=
 Zd8.rows m t t.rows 0 (fun c hc => by simp [Zad] at hc)
  (fun j hj => by rw [Nat.zero_add]; exact ⟨(Ze9 h hj).1, Zvr h j⟩)
  (fun y hy x hx => by have := Zag (((Zx h).2.2.2.2.2.2 y hy).2 x hx); exact ⟨this.1.1, this.2.1⟩)
theorem Zlr (m : Nat) (t : Tbl) (r : Nat) : ∀ (xs : List Qi) (n : Nat) (S : List Zl × Int), (Jf m t r xs n S).1.length = S.1.length + xs.length
 | [], _, _ => rfl
 | x :: xs, n, S => by
  show (Jf m t r xs (n + 1) (Zai m t r n x S)).1.length = _
  rw [Zlr m t r xs]
  have : (Zai m t r n x S).1.length = S.1.length + 1 := by simp [Zai]
  rw [this, List.length_cons]; omega
def Zih : List Jv → Nat
 | [] => 0
 | y :: ys => y.cs.length + Zih ys
theorem Zot (m : Nat) (t : Tbl) : ∀ (ys : List Jv) (r : Nat) (S : List Zl × Int), (Yy m t ys r S).1.length = S.1.length + Zih ys
 | [], _, _ => rfl
 | y :: ys, r, S => by
  show (Yy m t ys (r + 1) (Jf m t r y.cs 0 S)).1.length = _
  rw [Zot m t ys, Zlr]
  show _ = S.1.length + (y.cs.length + Zih ys)
  omega
theorem Zsu (m : Nat) (t : Tbl) : (Zp m t).1.length = Zih t.rows := by
 show (Yy m t t.rows 0 (Zad t)).1.length = _
 rw [Zot]; simp [Zad]
end Go.Proofs.YtgdmcmicfoamlaaGreatDoor
