import Derived.Test.YtfcogogpioeggaaDoorKs
import Derived.Lib.Overlaps
import Derived.Lib.AppendZerosOnto
import Derived.Laws.NewBlocks
namespace Go.Proofs.YtfcogogpioeggaaDoor
open Go.RowKit
/- An element is put into a row of one's own: plain laws. -/
theorem setL_eq : ∀ (vs X : List Value) (a : Nat), a + vs.length ≤ X.length → setL X a vs = X.take a ++ vs ++ X.drop (a + vs.length)
  | [], X, a, _ => by simp [setL]
  | v :: vs, X, a, h => by
    simp only [List.length_cons] at h ⊢
    rw [setL, setL_eq vs _ _ (by simp; omega)]
    have h1 : a < X.length := by omega
    rw [List.take_succ_eq_append_getElem (by simpa using h1), List.take_set_of_le (Nat.le_refl _), List.getElem_set_self, List.drop_set_of_lt (by omega)]
    simp only [List.append_assoc, List.cons_append, List.nil_append]
    rw [show a + (vs.length + 1) = a + 1 + vs.length by omega]
/-- Spare places of a row of one's own. -/
theorem own_more {w : World} {base : Nat} {E : TypeId} {k g n cap : Nat} {X : List Value} (h : w.ownsRow base E k (.slice (some ⟨g, 0, none⟩) n cap) n X) (hc : n + 1 ≤ cap) :
    ∃ Y, Y.length = k ∧ w.ownsRow base E k (.slice (some ⟨g, 0, none⟩) (n + 1) cap) (n + 1) (X ++ Y) := by
  have hx := h.1
  rcases h.2 with ⟨e, _⟩ | ⟨g', cap', cur, e, hb, hh, h1, h2, h3, h4⟩
  · cases e
  · injection e with e1 _ e2; injection e1 with e1; injection e1 with e1; subst e1; subst e2
    have hle : (n + 1) * k ≤ cap * k := Nat.mul_le_mul_right _ hc
    have hs : (n + 1) * k = n * k + k := Nat.succ_mul _ _
    refine ⟨(cur.toList.drop (n * k)).take k, by simp; omega, ?_⟩
    have e : cur.toList.take ((n + 1) * k) = X ++ (cur.toList.drop (n * k)).take k := by
      rw [hs, List.take_add, h4]
    exact ⟨by rw [← e, List.length_take]; simp; omega, .inr ⟨g, cap, cur, rfl, hb, hh, hc, h2, h3, e⟩⟩
theorem ins_shift {X Y news : List Value} {i n k : Nat} (hX : X.length = n * k) (hY : Y.length = k) (hn : news.length = k) (hi : i ≤ n) :
    setL (setL (X ++ Y) ((i + 1) * k) (X.drop (i * k))) (i * k) news = X.take (i * k) ++ news ++ X.drop (i * k) := by
  have hik : i * k ≤ n * k := Nat.mul_le_mul_right _ hi
  have hs : (i + 1) * k = i * k + k := Nat.succ_mul _ _
  rw [setL_eq (X.drop (i * k)) (X ++ Y) ((i + 1) * k) (by simp; omega), setL_eq news _ (i * k) (by simp; omega)]
  congr 1
  · congr 1
    rw [List.append_assoc, List.take_append_of_le_length (by simp; omega), List.take_take, Nat.min_eq_left (by omega), List.take_append_of_le_length (by omega)]
  · rw [hn, ← hs, List.append_assoc, List.drop_append, List.drop_of_length_le (by simp; omega), List.nil_append]
    have : ((i + 1) * k) - ((X ++ Y).take ((i + 1) * k)).length = 0 := by simp; omega
    have h2 : (X ++ Y).drop ((i + 1) * k + (X.drop (i * k)).length) = [] := List.drop_eq_nil_of_le (by simp; omega)
    rw [this, List.drop_zero, h2, List.append_nil]
theorem ins_grow {X Z news : List Value} {i n k : Nat} (hX : X.length = n * k) (hZ : Z.length = (n + 1 - i) * k) (hn : news.length = k) (hi : i ≤ n) :
    setL (setL (X.take (i * k) ++ Z) (i * k) news) ((i + 1) * k) (X.drop (i * k)) = X.take (i * k) ++ news ++ X.drop (i * k) := by
  have hik : i * k ≤ n * k := Nat.mul_le_mul_right _ hi
  have hs : (i + 1) * k = i * k + k := Nat.succ_mul _ _
  have hz : (n + 1 - i) * k = n * k + k - i * k := by rw [Nat.sub_mul, Nat.succ_mul]
  rw [setL_eq news _ (i * k) (by simp; omega), setL_eq (X.drop (i * k)) _ ((i + 1) * k) (by simp; omega)]
  have h1 : ((X.take (i * k) ++ Z).take (i * k) ++ news ++ (X.take (i * k) ++ Z).drop (i * k + news.length)).take ((i + 1) * k) = X.take (i * k) ++ news := by
    rw [List.take_append_of_le_length (by simp; omega), List.take_of_length_le (by simp; omega), List.take_append_of_le_length (by simp; omega), List.take_take, Nat.min_eq_left (Nat.le_refl _)]
  have h2 : ((X.take (i * k) ++ Z).take (i * k) ++ news ++ (X.take (i * k) ++ Z).drop (i * k + news.length)).drop ((i + 1) * k + (X.drop (i * k)).length) = [] := List.drop_eq_nil_of_le (by simp; omega)
  rw [h1, h2, List.append_nil]
/-- 'copy(dst, src)' at elements of k cells. -/
theorem run_copy_k {P : Program} (w : World) (dT sT ty elem : TypeId) (k b o dLen dCap : Nat) (a : Addr) (sLen sCap : Nat) (cs : List Value)
    (hu : P.underlying dT = some (.slice elem)) (hs : (P.info? elem).map (·.size) = some k) (hn : cs.length = Nat.min sLen dLen * k)
    (hsrc : ∀ j v, cs[j]? = some v → w.cell? (a.add j) = some v) (hc : ∀ j, j < cs.length → (w.cell? ⟨b, o + j, none⟩).isSome = true) (hf : ∀ j, j < cs.length → w.frozen? ⟨b, o + j, none⟩ = false) (h1 : ∀ v ∈ cs, v.oneCell' = true) :
    (Builtin.copy_ #[dT, sT] ty #[.slice (some ⟨b, o, none⟩) dLen dCap, .slice (some a) sLen sCap]).run P w = .ok (goInt (Nat.min sLen dLen)) (w.setCells b o cs) := by
  have hl := run_firstCells_some (P := P) w k (Nat.min sLen dLen) a sLen sCap cs hn hsrc
  have hst := run_storeCells_cells (P := P) b o cs 0 w (by simpa using hc) (by simpa using hf) h1
  cases hq : P.info? elem with
  | none => simp [hq] at hs
  | some i =>
    have hi : i.size = k := by simpa [hq] using hs
    simp [Builtin.copy_, run_underlying hu, Builtin.lenOf, sizeOf, typeInfo, hq, hi, hl, hst]
/-- THE OPERATION 'copy', where its run is known. -/
theorem wp_copy_run {P : Program} (w : World) {o : Oper} {a : Act} {K : Act → World → Prop} {Q : Exit → Act → World → Prop} (d s : Operand) (t t' : TypeId)
    (ho : o.op = .call { callee := .builtin .copy, args := #[d, s], argTypes := #[t, t'] }) (v u : Value) (hd : a.eval d = v) (hs : a.eval s = u) {v' : Value} {w' : World}
    (hr : (Builtin.copy_ #[t, t'] o.type #[v, u]).run P w = .ok v' w') (h : K (a.put o.dst v') w') : o.wp P a w K Q := by
  unfold Oper.wp execOp
  simp only [ho, resolve, invoke, builtin, Sem.run_bind, Sem.run_pure, Result.andThen_ok, List.map_toArray, List.map_cons, List.map_nil, hd, hs, hr]
  exact h
theorem wpList_copy_run {P : Program} (w : World) {ops : Array Oper} {rest : List Oper} {o : Oper} {a : Act} {Q : Exit → Act → World → Prop} (hgd : o.guard = none) (d s : Operand) (t t' : TypeId)
    (ho : o.op = .call { callee := .builtin .copy, args := #[d, s], argTypes := #[t, t'] }) (v u : Value) (hd : a.eval d = v) (hs : a.eval s = u) {v' : Value} {w' : World}
    (hr : (Builtin.copy_ #[t, t'] o.type #[v, u]).run P w = .ok v' w') (h : wpList P ops Q rest (a.put o.dst v') w') : wpList P ops Q (o :: rest) a w :=
  wpList_plain hgd fun _ hK => wp_copy_run w d s t t' ho v u hd hs hr (hK _ _ h)
theorem step_copy_run {P : Program} {ops : Array Oper} {o : Oper} {a : Act} {w : World} {K : Act → World → Prop} {Q : Exit → Act → World → Prop} {E : Prop}
    (hg : o.guard = none) (d x : Operand) (dT sT : TypeId) (hop : o.op = Op.call { callee := Callee.builtin Builtin.copy, args := #[d, x], argTypes := #[dT, sT] })
    (v u : Value) (hd : a.eval d = v) (hx : a.eval x = u) {v' : Value} {w' : World} (hr : (Builtin.copy_ #[dT, sT] o.type #[v, u]).run P w = .ok v' w') (hK : K (a.put o.dst v') w') :
    if Region.wanted o (yielded ops a.tmps) = true then Oper.wp P o a w K Q else E := by
  have hw : Region.wanted o (yielded ops a.tmps) = true := by simp [Region.wanted, hg]
  rw [if_pos hw]
  unfold Oper.wp
  simp [execOp, hop, resolve, invoke, builtin, hd, hx, hr, Result.andThen]
  exact hK
/-- A row of one's own has its cells. -/
theorem own_some {w : World} {base : Nat} {E : TypeId} {k g n cap : Nat} {X : List Value} (h : w.ownsRow base E k (.slice (some ⟨g, 0, none⟩) n cap) n X) {t : Nat} (ht : t < n * k) : (w.cell? ⟨g, t, none⟩).isSome = true := by
  have h1 := h.1
  have := h.cellAt t ht
  rw [List.getElem?_eq_getElem (by omega)] at this
  rw [this]; rfl
theorem own_get {w : World} {base : Nat} {E : TypeId} {k g n cap : Nat} {X : List Value} (h : w.ownsRow base E k (.slice (some ⟨g, 0, none⟩) n cap) n X) {t : Nat} {u : Value} (hu : X[t]? = some u) : w.cell? ⟨g, t, none⟩ = some u := by
  have h1 := h.1
  have ht := (List.getElem?_eq_some_iff.1 hu).1
  exact (h.cellAt t (by omega)).trans hu
theorem own_shape {w : World} {base : Nat} {E : TypeId} {k g n cap : Nat} {X : List Value} (h : w.ownsRow base E k (.slice (some ⟨g, 0, none⟩) n cap) n X) (hk : 0 < k) (hn : 0 < n) : ∃ kB, w.shape? g = some (E, kB) ∧ kB ≠ 0 := by
  rcases h.2 with ⟨e, _⟩ | ⟨g', cap', cur, e, hb, hh, h1, h2, h3, h4⟩
  · cases e
  · injection e with e1 _ e2; injection e1 with e1; injection e1 with e1; subst e1; subst e2
    have : 0 < cap * k := Nat.mul_pos (by omega) hk
    exact ⟨cur.size, by simp [World.shape?, hh], by omega⟩
/-- append onto a row of one's own: where the answer lies. -/
theorem run_append_at {P : Program} (w : World) (base : Nat) (t ty e : TypeId) (i : TypeInfo) (z : Value) (size bytes : Nat) (ht : P.underlying t = some (.slice e)) (hi : P.info? e = some i) (hz : i.zero = some z)
    (hsize : i.size = size) (hby : i.bytes = bytes) (hzs : z.cells.size = size) (hsz : 0 < size)
    (v : Value) (n : Nat) (xs : List Value) (hown : w.ownsRow base e size v n xs)
    (a : Addr) (m c : Nat) (news : List Value) (hl : news.length = m * size) (hnews : ∀ j u, news[j]? = some u → w.cell? (a.add j) = some u) (h1 : ∀ u ∈ news, u.oneCell' = true)
    (h63 : n + m ≤ maxLen) (hbytes : (n + m) * bytes ≤ 140737488355328) (hbase : base ≤ w.heap.size) :
    ∃ v' w', (Builtin.append_ #[t, t] ty #[v, .slice (some a) m c]).run P w = .ok v' w' ∧ w'.ownsRow base e size v' (n + m) (xs ++ news) ∧ w.grownBy w' v.ownBlock ∧ ∀ b, v'.ownBlock = some b → v.ownBlock = some b ∨ w.heap.size ≤ b := by
  obtain ⟨v', w', hr, ho, hg, _⟩ := run_append_own (P := P) w base t ty e i z size bytes ht hi hz hsize hby hzs hsz v n xs hown a m c news hl hnews h1 h63 hbytes hbase
  refine ⟨v', w', hr, ho, hg, fun b hb => ?_⟩
  have h63' : n + m ≤ 9223372036854775807 := by unfold maxLen at h63; omega
  rcases hown.2 with ⟨rfl, rfl⟩ | ⟨g, cap, cur, rfl, hbg, hh, hn, hcm, hcs, htk⟩
  · have hx : xs = [] := List.eq_nil_of_length_eq_zero (by have := hown.1; omega)
    subst hx
    obtain ⟨v2, w2, hr2, ho2, _, _⟩ := run_append_own (P := P) w w.heap.size t ty e i z size bytes ht hi hz hsize hby hzs hsz (.slice none 0 0) 0 [] (World.ownsRow_nil _ _ _ _) a m c news hl hnews h1 h63 hbytes (Nat.le_refl _)
    rw [hr] at hr2
    injection hr2 with e1 e2
    subst e1; subst e2
    exact .inr (ho2.lt b hb).1
  · subst hsize
    by_cases hroom : n + m ≤ cap
    · have := run_append_room (P := P) w t ty e i ht hi g n cap cur hh a m c news hl hnews h1 hroom (by
        rw [hl, hcs, ← Nat.add_mul]
        exact Nat.mul_le_mul_right _ hroom)
      rw [hr] at this
      injection this with e1 _
      subst e1
      exact .inl hb
    · have := run_append_grow (P := P) w t ty e i z ht hi hz ⟨g, 0, none⟩ n cap xs hown.1 (hown.cells (g := g) rfl) a m c news hl hnews (by omega) (by omega) (by rw [hby]; exact growslice_fits (by omega) hbytes)
      rw [hr] at this
      injection this with e1 _
      subst e1
      right
      have : w.heap.size = b := by simpa [Value.ownBlock] using hb
      omega
end Go.Proofs.YtfcogogpioeggaaDoor
