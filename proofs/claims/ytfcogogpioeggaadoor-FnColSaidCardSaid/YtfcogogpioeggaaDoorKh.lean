import Derived.Test.YtfcogogpioeggaaDoorKg
import Derived.Deep.AppendLies
import Derived.Deep.RegionHeldLaw
import Derived.Lib.SliceRun
namespace Go.Proofs.YtfcogogpioeggaaDoor
open Go.RowKit
/- Copies of slices: slices.Clone at the two element types; what an argument's slice looks like. -/
/-- A slice of an argument: nil, or with an address, and its cells lie there. -/
def Lies {α : Type} (enc : α → List Value) (w : World) (v : Value) (xs : List α) : Prop :=
  (v = .slice none 0 0 ∧ xs = []) ∨ ∃ b o c, v = .slice (some ⟨b, o, none⟩) xs.length c ∧ b < w.heap.size ∧ ∀ j u, (xs.flatMap enc)[j]? = some u → w.cell? ((⟨b, o, none⟩ : Addr).add j) = some u
theorem Lies.below {α : Type} {enc : α → List Value} {w w' : World} {v : Value} {xs : List α} (h : Lies enc w v xs) (hb : Below w.heap.size w w') : Lies enc w' v xs := by
  rcases h with h | ⟨b, o, c, rfl, hlt, hc⟩
  · exact .inl h
  · exact .inr ⟨b, o, c, rfl, Nat.lt_of_lt_of_le hlt hb.size, fun j u hj => keepW hb (hc j u hj)⟩
theorem Lies.of {α : Type} {enc : α → List Value} {k : Nat} {w : World} {base : Nat} {E : TypeId} {v : Value} {xs : List α} (h : w.ownsRow base E k v xs.length (xs.flatMap enc)) : Lies enc w v xs := by
  rcases h.2 with ⟨rfl, h0⟩ | ⟨g, cap, cur, rfl, hb, hh, r⟩
  · exact .inl ⟨rfl, List.eq_nil_of_length_eq_zero h0⟩
  · refine .inr ⟨g, 0, cap, rfl, (own_lt h (b := g) rfl).2, fun j u hj => h.cells (g := g) rfl j u hj⟩
theorem Lies.form {α : Type} {enc : α → List Value} {w : World} {v : Value} {xs : List α} (h : Lies enc w v xs) : ∃ A c, v = .slice A xs.length c := by
  rcases h with ⟨rfl, rfl⟩ | ⟨b, o, c, rfl, _⟩
  · exact ⟨none, 0, rfl⟩
  · exact ⟨_, c, rfl⟩
theorem cells_one (xs : List TCell) : ∀ u ∈ xs.flatMap cellE, u.oneCell' = true := by
  intro u hu
  obtain ⟨x, _, h⟩ := List.mem_flatMap.1 hu
  simp only [cellE, List.mem_cons, List.not_mem_nil, or_false] at h
  rcases h with rfl | rfl | rfl | rfl | rfl | rfl | rfl | rfl | rfl | rfl | rfl <;> rfl
theorem cols_one (xs : List TCol) : ∀ u ∈ xs.flatMap colE, u.oneCell' = true := by
  intro u hu
  obtain ⟨x, _, h⟩ := List.mem_flatMap.1 hu
  simp only [colE, List.mem_cons, List.not_mem_nil, or_false] at h
  rcases h with rfl | rfl <;> rfl
section
variable {P : Program} (w : World)
/-- append onto a row of one's own, as a step of a region that draws. -/
theorem step_append_own {ops : Array Oper} {o : Oper} {a : Act} {K : Act → World → Prop} {Q : Exit → Act → World → Prop} {E : Prop} (hgd : o.guard = none) (s x : Operand) (t : TypeId)
    (ho : o.op = .call { callee := .builtin .append, args := #[s, x], argTypes := #[t, t] })
    (base : Nat) (e : TypeId) (i : TypeInfo) (z : Value) (size bytes : Nat) (ht : P.underlying t = some (.slice e)) (hi : P.info? e = some i) (hz : i.zero = some z)
    (hsize : i.size = size) (hby : i.bytes = bytes) (hzs : z.cells.size = size) (hsz : 0 < size)
    (v : Value) (n : Nat) (xs : List Value) (hs : a.eval s = v) (hown : w.ownsRow base e size v n xs)
    (ad : Addr) (m c : Nat) (news : List Value) (hx : a.eval x = .slice (some ad) m c) (hl : news.length = m * size) (hnews : ∀ j u, news[j]? = some u → w.cell? (ad.add j) = some u) (h1 : ∀ u ∈ news, u.oneCell' = true)
    (h63 : n + m ≤ maxLen) (hbytes : (n + m) * bytes ≤ 140737488355328) (hbase : base ≤ w.heap.size)
    (h : ∀ v' w', w'.ownsRow base e size v' (n + m) (xs ++ news) → w.grownBy w' v.ownBlock → (v' = .slice none 0 0 ↔ v = .slice none 0 0 ∧ m = 0) → K (a.put o.dst v') w') :
    if Region.wanted o (yielded ops a.tmps) = true then Oper.wp P o a w K Q else E := by
  have hw : Region.wanted o (yielded ops a.tmps) = true := by simp [Region.wanted, hgd]
  rw [if_pos hw]
  exact wp_append_own w s x t ho base e i z size bytes ht hi hz hsize hby hzs hsz v n xs hs hown ad m c news hx hl hnews h1 h63 hbytes hbase h
end

theorem info_cloneCells : (Tryd.prog.info? 65).map (fun i => (i.zero, i.size, i.bytes)) = some (some (.agg #[.string ⟨#[]⟩, .int .i64 0, .int .i64 0, .int .i64 0, .int .i64 0, .int .i64 0, .int .i64 0, .int .i64 0, .int .i64 0, .int .i64 0, .int .i64 0]), 11, 96) := by kernel_rfl
theorem und_cloneCells : Tryd.prog.underlying 82 = some (.slice 65) := by kernel_rfl
set_option maxRecDepth 100000 in
set_option maxHeartbeats 2000000 in
theorem cloneCells (v : Value) (xs : List TCell) (w : World) (h : Lies cellE w v xs) (hn : xs.length ≤ 1048576) :
    Calls Tryd.prog 125 #[v] w fun e w' => ∃ v', e = .returned v' ∧ w'.ownsRow w.heap.size 65 11 v' xs.length (xs.flatMap cellE) ∧ Below w.heap.size w w' := by
  have q22 : ∀ (w : World) (a : Option Addr) (n c n' c' : Nat), (binOp .eql 82 (.slice a n c) (.slice none n' c')).run Tryd.prog w = .ok (.bool a.isNone) w := fun w a n c n' c' => Lib.run_eql_slice_nil w _ _ a n c n' c' und_cloneCells
  rcases h with ⟨rfl, rfl⟩ | ⟨b, o, c, rfl, hlt, hc⟩
  · go_enter Tryd.func125, Tryd.ntmps125
    go_wp2_with fail
    go_ret
    exact ⟨_, rfl, World.ownsRow_nil _ _ _ _, brefl _⟩
  · have HC := hide hc
    clear hc
    obtain ⟨i0, hi, hz0, hz1, hz2⟩ := info_parts info_cloneCells
    go_enter Tryd.func125, Tryd.ntmps125
    go_wp2_with (at_builtin; refine wpList_append_own _ rfl _ _ 82 rfl w.heap.size 65 i0 _ 11 96 und_cloneCells hi hz0 hz1 hz2 rfl (by decide) _ _ _ rfl (World.ownsRow_made w #[] 0 (Nat.le_refl _) (Nat.zero_le _) (by simp)) ⟨b, o, none⟩ xs.length c (xs.flatMap cellE) rfl ?qc1 ?qc2 ?qc3 ?qc4 ?qc5 ?qc6 ?_)
    case qc1 => exact flatMap_length cellE 11 (fun _ => rfl) xs
    case qc2 => exact fun j u hj => keepW (balloc (brefl _) _) (HC.out j u hj)
    case qc3 => exact cells_one xs
    case qc4 => unfold maxLen; omega
    case qc5 => omega
    case qc6 => simp
    intro v' w1 hown hgrow hnil
    go_wp2_with fail
    go_ret
    exact ⟨v', rfl, by simpa using hown, ((Below.refl _ w).alloc (Nat.le_refl _) _).grown hgrow (by simp) (by intro k hk; simp [Value.ownBlock] at hk; omega)⟩

theorem info_cloneCols : (Tryd.prog.info? 28).map (fun i => (i.zero, i.size, i.bytes)) = some (some (.agg #[.int .i64 0, .int .i64 0]), 2, 16) := by kernel_rfl
theorem und_cloneCols : Tryd.prog.underlying 30 = some (.slice 28) := by kernel_rfl
set_option maxRecDepth 100000 in
set_option maxHeartbeats 2000000 in
theorem cloneCols (v : Value) (xs : List TCol) (w : World) (h : Lies colE w v xs) (hn : xs.length ≤ 1048576) :
    Calls Tryd.prog 126 #[v] w fun e w' => ∃ v', e = .returned v' ∧ w'.ownsRow w.heap.size 28 2 v' xs.length (xs.flatMap colE) ∧ Below w.heap.size w w' := by
  have q22 : ∀ (w : World) (a : Option Addr) (n c n' c' : Nat), (binOp .eql 30 (.slice a n c) (.slice none n' c')).run Tryd.prog w = .ok (.bool a.isNone) w := fun w a n c n' c' => Lib.run_eql_slice_nil w _ _ a n c n' c' und_cloneCols
  rcases h with ⟨rfl, rfl⟩ | ⟨b, o, c, rfl, hlt, hc⟩
  · go_enter Tryd.func126, Tryd.ntmps126
    go_wp2_with fail
    go_ret
    exact ⟨_, rfl, World.ownsRow_nil _ _ _ _, brefl _⟩
  · have HC := hide hc
    clear hc
    obtain ⟨i0, hi, hz0, hz1, hz2⟩ := info_parts info_cloneCols
    go_enter Tryd.func126, Tryd.ntmps126
    go_wp2_with (at_builtin; refine wpList_append_own _ rfl _ _ 30 rfl w.heap.size 28 i0 _ 2 16 und_cloneCols hi hz0 hz1 hz2 rfl (by decide) _ _ _ rfl (World.ownsRow_made w #[] 0 (Nat.le_refl _) (Nat.zero_le _) (by simp)) ⟨b, o, none⟩ xs.length c (xs.flatMap colE) rfl ?qc1 ?qc2 ?qc3 ?qc4 ?qc5 ?qc6 ?_)
    case qc1 => exact flatMap_length colE 2 (fun _ => rfl) xs
    case qc2 => exact fun j u hj => keepW (balloc (brefl _) _) (HC.out j u hj)
    case qc3 => exact cols_one xs
    case qc4 => unfold maxLen; omega
    case qc5 => omega
    case qc6 => simp
    intro v' w1 hown hgrow hnil
    go_wp2_with fail
    go_ret
    exact ⟨v', rfl, by simpa using hown, ((Below.refl _ w).alloc (Nat.le_refl _) _).grown hgrow (by simp) (by intro k hk; simp [Value.ownBlock] at hk; omega)⟩
end Go.Proofs.YtfcogogpioeggaaDoor
