import Derived.Test.YtpfagdmmhgcmnaaGreatDoorMixTf
import Derived.Test.YtpfagdmmhgcmnaaGreatDoorMixTa
import Derived.Test.YtpfagdmmhgcmnaaGreatDoorMixDn
import Derived.Test.YtpfagdmmhgcmnaaGreatDoorMixO
set_option linter.unusedVariables false
set_option linter.unusedSimpArgs false
namespace Go.Proofs.YtpfagdmmhgcmnaaGreatDoor
open Go.RowKit
theorem wpList_append_int {w : World} {ops : Array Oper} {rest : List Oper} {o : Oper} {a : Act} {Q : Exit → Act → World → Prop} (hgd : o.guard = none) (s x : Operand)
  (ho : o.op = .call { callee := .builtin .append, args := #[s, x], argTypes := #[28, 28] }) (base : Nat) (v : Value) (xs : List Int) (hs : a.eval s = v) (hown : IOwn w base v xs)
  (ad : Addr) (c : Nat) (y : Int) (hx : a.eval x = .slice (some ad) 1 c) (hc : w.cell? ad = some (.int .i64 y)) (hn : xs.length ≤ 1000000) (hbase : base ≤ w.heap.size)
  (h : ∀ v' w', Hid (IOwn w' base v' (xs ++ [y])) → Hid (w.grownBy w' v.ownBlock) → Hid (∀ b, v'.ownBlock = some b → v.ownBlock = some b ∨ w.heap.size ≤ b) → wpList Tryz.prog ops Q rest (a.put o.dst v') w') : wpList Tryz.prog ops Q (o :: rest) a w := by
 obtain ⟨i0, hi, hz0, hz1, hz2⟩ := info_parts info_ints
 refine wpList_append_at hgd s x 28 ho base 3 i0 _ 1 8 und_ints hi hz0 hz1 hz2 rfl (by decide) v xs.length (xs.flatMap intE) hs hown ad 1 c [.int .i64 y] hx rfl (fun j u hj => ?_) (fun u hu => by rw [List.mem_singleton.1 hu]; rfl) (by unfold maxLen; omega) (by omega) hbase fun v' w' h1 h2 h3 => h v' w' (show IOwn _ _ _ _ from ?_) h2 h3
 ·
  have : j = 0 := by have := (List.getElem?_eq_some_iff.1 hj).1; simp at this; omega
  subst this; simp at hj; subst hj
  obtain ⟨b, o, sp⟩ := ad
  simpa [Addr.add] using hc
 ·
  unfold IOwn
  rw [List.length_append, List.flatMap_append]
  exact h1
def boolE (b : Bool) : List Value := [.bool b]
def boolR : Rep Bool := flat 1 boolE (fun _ => rfl)
theorem rd_bool {w W : World} {A : Option Addr} {xs : List Bool} (h : Rd boolR w A xs) (hb : Below w.heap.size w W) (k : Nat) (hk : k < xs.length) : ∃ b o, A = some ⟨b, o, none⟩ ∧ b < w.heap.size ∧ W.cell? ⟨b, o + k, none⟩ = some (.bool (xs.getD k false)) := by
 obtain ⟨b, o, c0, e, hlt, hK, hc⟩ := h.at1 rfl hb k hk
 have q : [c0] = [.bool xs[k]] := hK
 simp only [List.cons.injEq, and_true] at q
 subst q
 exact ⟨b, o, e, hlt, by rw [hc, List.getD_eq_getElem?_getD, List.getElem?_eq_getElem hk]; rfl⟩
theorem nextL_step (left : List Int) (got : List Bool) (i : Nat) (k : Int) (h : i < left.length) : nextL left got (left.length - i) i k = nextL left got (left.length - (i + 1)) (i + 1) (if got.getD i false = false ∧ (k < 0 ∨ left.getD i 0 > left.getD k.toNat 0) then i else k) := by
 rw [show left.length - i = (left.length - (i + 1)) + 1 by omega, nextL]
set_option maxRecDepth 100000 in
set_option maxHeartbeats 4000000 in
theorem spec_l4Next (A : Option Addr) (c : Nat) (A' : Option Addr) (c' : Nat) (left : List Int) (got : List Bool) (w : World) (hr : Rd intR w A left) (hg : Rd boolR w A' got) (hl : got.length = left.length) (hn : left.length ≤ 1000) :
  Calls Tryz.prog 161 #[.slice A left.length c, .slice A' left.length c'] w fun e w' => e = .returned (.int .i64 (next left got)) ∧ ∃ q, w' = w.drewN q := by
 have HR := hide hr
 have HG := hide hg
 have HL := hide hl
 clear hr hg hl
 go_enter Tryz.func161, Tryz.ntmps161
 go_wp2_with fail
 go_loopg [5, 6] left.length (fun gg s5 s6 wr => ∃ (i : Nat) (k : Int), s5 = .int .i64 k ∧ s6 = .int .i64 i ∧ i ≤ left.length ∧ left.length - i ≤ gg ∧ (k = -1 ∨ (0 ≤ k ∧ k < left.length)) ∧ Aside (∃ q, wr = w.drewN q) ∧ Aside (nextL left got (left.length - i) i k = next left got))
 case atStart => exact ⟨0, -1, rfl, rfl, Nat.zero_le _, by omega, .inl rfl, ⟨0, rfl⟩, (show Aside _ from rfl)⟩
 case round =>
  obtain ⟨i, k, rfl, rfl, hi, hgg, hk, HQ, HX⟩ := hrel
  by_cases hlt : i < left.length
  ·
   have hltz : (i : Int) < (left.length : Int) := by omega
   have hx := HX.out
   rw [nextL_step _ _ _ _ hlt] at hx
   obtain ⟨q0, hq0⟩ := HQ.out
   have HB : Hid (Below w.heap.size w wr) := by show Below _ _ _; rw [hq0]; exact bdrewN (brefl w) q0
   obtain ⟨b2, o2, e2, _, c2⟩ := rd_bool HG.out HB.out i (by rw [HL.out]; exact hlt)
   subst e2
   obtain ⟨b1, o1, e1, _, c1⟩ := rd_int HR.out HB.out i hlt
   subst e1
   have HQ0 := hide hq0
   clear HX hq0
   cases hb : got.getD i false with
   | true =>
    rw [hb] at c2 hx
    rw [if_neg (by simp)] at hx
    have HX2 := hide hx
    clear hx hb c1
    go_wp2_with fail
    go_quiet (fail)
    go_wp2_with fail
    go_roundg (left.length - (i + 1))
    case measure => omega
    case rel => exact ⟨i + 1, k, rfl, by go_num, by omega, by omega, hk, ⟨_, by rw [HQ0.out, World.drewN_drewN]⟩, HX2.out⟩
   | false =>
    rw [hb] at c2 hx
    rcases hk with rfl | ⟨hk0, hk1⟩
    ·
     rw [if_pos ⟨rfl, .inl (by decide)⟩] at hx
     have HX2 := hide hx
     clear hx hb c1
     go_wp2_with fail
     go_quiet (fail)
     go_wp2_with fail
     go_roundg (left.length - (i + 1))
     case measure => omega
     case rel => exact ⟨i + 1, i, rfl, by go_num, by omega, by omega, .inr ⟨by omega, by omega⟩, ⟨_, by rw [HQ0.out, World.drewN_drewN]⟩, HX2.out⟩
    ·
     obtain ⟨m, rfl⟩ := Int.eq_ofNat_of_zero_le hk0
     have hml : m < left.length := by omega
     obtain ⟨b3, o3, e3, _, c3⟩ := rd_int HR.out HB.out m hml
     injection e3 with e3; injection e3 with e3 e3'; subst e3; subst e3'
     rw [Int.toNat_natCast] at hx
     generalize left.getD i 0 = x at c1 hx
     generalize left.getD m 0 = y at c3 hx
     by_cases hxy : y < x
     ·
      rw [if_pos ⟨rfl, .inr hxy⟩] at hx
      have HX2 := hide hx
      have d1 : decide ((m : Int) < 0) = false := decide_eq_false (by omega)
      have d2 : decide (y < x) = true := decide_eq_true hxy
      clear hx hb
      go_wp2_with fail
      go_quiet (fail)
      go_wp2_with fail
      go_roundg (left.length - (i + 1))
      case measure => omega
      case rel => exact ⟨i + 1, i, rfl, by go_num, by omega, by omega, .inr ⟨by omega, by omega⟩, ⟨_, by rw [HQ0.out, World.drewN_drewN]⟩, HX2.out⟩
     ·
      rw [if_neg (fun h => by rcases h.2 with h | h <;> omega)] at hx
      have HX2 := hide hx
      have d1 : decide ((m : Int) < 0) = false := decide_eq_false (by omega)
      have d2 : decide (y < x) = false := decide_eq_false hxy
      clear hx hb
      go_wp2_with fail
      go_quiet (fail)
      go_wp2_with fail
      go_roundg (left.length - (i + 1))
      case measure => omega
      case rel => exact ⟨i + 1, m, rfl, by go_num, by omega, by omega, .inr ⟨by omega, by omega⟩, ⟨_, by rw [HQ0.out, World.drewN_drewN]⟩, HX2.out⟩
  ·
   have hltz : ¬ (i : Int) < (left.length : Int) := by omega
   have hx := HX.out
   rw [show left.length - i = 0 by omega] at hx
   have HX2 := hide hx
   clear hx HX
   go_wp2_with fail
   go_ret
   exact ⟨by rw [← HX2.out]; rfl, HQ.out⟩
end Go.Proofs.YtpfagdmmhgcmnaaGreatDoor

namespace Go.Proofs.YtpfagdmmhgcmnaaGreatDoor
open Go.RowKit
theorem rd_cells {w W : World} {b o : Nat} {xs : List Int} (h : Rd intR w (some ⟨b, o, none⟩) xs) (hb : Below w.heap.size w W) : ∀ j u, (xs.flatMap intE)[j]? = some u → W.cell? ((⟨b, o, none⟩ : Addr).add j) = some u := by
 intro j u hj
 have hjl : j < xs.length := by have := (List.getElem?_eq_some_iff.1 hj).1; rw [flatMap_length intE 1 (fun _ => rfl)] at this; omega
 obtain ⟨b', o', e, _, hc⟩ := rd_int h hb j hjl
 injection e with e; injection e with e1 e2; subst e1; subst e2
 rw [flat_get xs j hjl] at hj
 injection hj with hj
 subst hj
 rw [Addr.add_lit, hc, List.getD_eq_getElem?_getD, List.getElem?_eq_getElem hjl]; rfl
def BOwn (w : World) (base g n : Nat) (L : List Bool) : Prop := L.length = n ∧ w.ownsRow base 4 1 (.slice (some ⟨g, 0, none⟩) n n) n (L.flatMap boolE)
theorem flat_bools (xs : List Bool) : xs.flatMap boolE = xs.map Value.bool := by
 induction xs with
 | nil => rfl
 | cons x xs ih => rw [List.flatMap_cons, ih]; rfl
theorem BOwn.rd {w : World} {base g n : Nat} {L : List Bool} (h : BOwn w base g n L) : Rd boolR w (some ⟨g, 0, none⟩) L := by
 have h2 := h.2
 rw [← h.1] at h2
 obtain ⟨A, c', e, _, hr⟩ := own_rd (enc := boolE) (k := 1) (hk := fun _ => rfl) h2
 injection e with e1
 rw [e1]; exact hr
theorem BOwn.keep {w w' : World} {base g n : Nat} {L : List Bool} (h : BOwn w base g n L) (hk : w'.heap[g]? = w.heap[g]?) : BOwn w' base g n L :=
 ⟨h.1, own_keep h.2 fun b hb => by simp [Value.ownBlock] at hb; subst hb; exact hk⟩
theorem BOwn.cell {w : World} {base g n : Nat} {L : List Bool} (h : BOwn w base g n L) {j : Nat} (hj : j < n) : w.cell? ⟨g, j, none⟩ = some (.bool (L.getD j false)) := by
 have hl := h.1
 have := World.ownsRow.cellAt h.2 j (by omega)
 rw [this, flat_bools, List.getElem?_map, List.getElem?_eq_getElem (by omega), List.getD_eq_getElem?_getD, List.getElem?_eq_getElem (by omega)]
 rfl
theorem BOwn.frozen {w : World} {base g n : Nat} {L : List Bool} (h : BOwn w base g n L) (j : Nat) : w.frozen? ⟨g, j, none⟩ = false := World.ownsRow.frozenAt h.2 j
theorem BOwn.lt {w : World} {base g n : Nat} {L : List Bool} (h : BOwn w base g n L) : g < w.heap.size := (own_lt h.2 (b := g) rfl).2
theorem BOwn.store {w : World} {base g n : Nat} {L : List Bool} (h : BOwn w base g n L) (j : Nat) (y : Bool) : BOwn (w.setCell ⟨g, j, none⟩ (.bool y)) base g n (L.set j y) := by
 refine ⟨by simpa using h.1, ?_⟩
 have := (World.ownsRow.stored h.2 j (.bool y)).1
 rw [flat_bools, List.map_set, ← flat_bools]
 exact this
theorem und_bools : Tryz.prog.underlying 155 = some (.slice 4) := by kernel_rfl
theorem info_bools : (Tryz.prog.info? 4).map (fun i => (i.zero, i.size, i.bytes)) = some (some (.bool false), 1, 1) := by kernel_rfl
theorem made_bools (W : World) (base n : Nat) (hb : base ≤ W.heap.size) (hn : n ≤ 1000000) : BOwn (W.alloc (.cells (madeCells (Value.bool false).cells (n * 1)) 4)) base W.heap.size n (List.replicate n false) := by
 have h := made_own W base (Value.bool false).cells 1 n 4 hb (by omega)
 have e : (madeCells (Value.bool false).cells (n * 1)).toList = (List.replicate n false).flatMap boolE := by
  rw [flat_bools]
  refine List.ext_getElem (by simp [madeCells]) fun i h1 h2 => ?_
  simp [madeCells, Value.cells, Nat.mod_one]
 rw [e] at h
 exact ⟨by simp, h⟩
theorem IOwn.keep {w w' : World} {base : Nat} {v : Value} {xs : List Int} (h : IOwn w base v xs) {r : Option Nat} (hg : w.grownBy w' r) (hr : ∀ b, v.ownBlock = some b → r ≠ some b) : IOwn w' base v xs :=
 own_keep h fun b hb => hg.block b (own_lt h hb).2 (fun e => hr b hb e.symm)
theorem IOwn.lt {w : World} {base : Nat} {v : Value} {xs : List Int} (h : IOwn w base v xs) {b : Nat} (hb : v.ownBlock = some b) : base ≤ b ∧ b < w.heap.size := own_lt h hb
theorem next_range (left : List Int) (got : List Bool) : next left got = -1 ∨ ∃ m : Nat, next left got = m ∧ m < left.length := by
 rcases nextL_spec left got left.length 0 (-1) (by omega) (Or.inl ⟨rfl, fun j hj => by omega⟩) with ⟨h, _⟩ | ⟨m, h1, h2, _⟩
 ·
  exact .inl h
 ·
  exact .inr ⟨m, h1, h2⟩
theorem hand_none {left : List Int} {n : Nat} {got : List Bool} {out : List Int} (ho : 0 < out.length) (h : next left got = -1) : handL left (n + 1) got out = handL left n got out := by
 rw [handL, if_pos ho]; simp only [h]; rw [if_neg (by decide)]
theorem hand_some {left : List Int} {n m : Nat} {got : List Bool} {out : List Int} (ho : 0 < out.length) (h : next left got = m) : handL left (n + 1) got out = handL left n (got.set m true) (out.set m (out.getD m 0 + 1)) := by
 rw [handL, if_pos ho]; simp only [h]; rw [if_pos (by omega), Int.toNat_natCast]
def mixO (ws : List Int) (i : Nat) : List Int := List.replicate i 1 ++ ws.drop i
theorem mixO_set {ws : List Int} {i : Nat} (h : i < ws.length) : (mixO ws i).set i 1 = mixO ws (i + 1) := by
 unfold mixO
 rw [List.set_append_right _ _ (by simp), List.length_replicate, Nat.sub_self, List.drop_eq_getElem_cons h, List.set_cons_zero, ← List.replicate_append_replicate, List.append_assoc]
 rfl
theorem mixO_length {ws : List Int} {i : Nat} (h : i ≤ ws.length) : (mixO ws i).length = ws.length := by simp [mixO]; omega
theorem mixO_all (ws : List Int) : mixO ws ws.length = List.replicate ws.length 1 := by simp [mixO]
structure TwoSt (wc : World) (D n : Nat) (gl : List Bool) (wr : World) (u8 u9 : Value) (X Y : List Int) : Prop where
 b : Below wc.heap.size wc wr
 p : IOwn wr D u8 X
 f : IOwn wr D u9 Y
 g : BOwn wr D (D + 2) n gl
 n8 : u8.ownBlock ≠ some (D + 2)
 n9 : u9.ownBlock ≠ some (D + 2)
 apart : ∀ b, u8.ownBlock = some b → u9.ownBlock ≠ some b
theorem TwoSt.alloc {wc wr : World} {D n : Nat} {gl : List Bool} {u8 u9 : Value} {X Y : List Int} (h : TwoSt wc D n gl wr u8 u9 X Y) (o : Obj) : TwoSt wc D n gl (wr.alloc o) u8 u9 X Y :=
 ⟨balloc h.b o, h.p.below (balloc (brefl _) _), h.f.below (balloc (brefl _) _), h.g.keep ((balloc (brefl wr) o).block _ h.g.lt), h.n8, h.n9, h.apart⟩
theorem TwoSt.app8 {wc wr w' : World} {D n : Nat} {gl : List Bool} {u8 u9 v : Value} {X Y Z : List Int} (h : TwoSt wc D n gl wr u8 u9 X Y) (hD : D = wc.heap.size) (h1 : IOwn w' D v Z) (h2 : wr.grownBy w' u8.ownBlock) (h3 : ∀ b, v.ownBlock = some b → u8.ownBlock = some b ∨ wr.heap.size ≤ b) : TwoSt wc D n gl w' v u9 Z Y :=
 ⟨h.b.trans (grown_below h2 (by have := h.b.size; omega) (fun k hk => by have := (h.p.lt hk).1; omega)), h1, h.f.keep h2 (fun b hb e => h.apart b e hb), h.g.keep (h2.block _ h.g.lt (fun e => h.n8 e.symm)), fun e => by
   rcases h3 _ e with h4 | h4
   ·
    exact h.n8 h4
   ·
    have := h.g.lt; omega, h.n9, fun b hb e => by
   rcases h3 _ hb with h4 | h4
   ·
    exact h.apart b h4 e
   ·
    have := (h.f.lt e).2; omega⟩
theorem TwoSt.app9 {wc wr w' : World} {D n : Nat} {gl : List Bool} {u8 u9 v : Value} {X Y Z : List Int} (h : TwoSt wc D n gl wr u8 u9 X Y) (hD : D = wc.heap.size) (h1 : IOwn w' D v Z) (h2 : wr.grownBy w' u9.ownBlock) (h3 : ∀ b, v.ownBlock = some b → u9.ownBlock = some b ∨ wr.heap.size ≤ b) : TwoSt wc D n gl w' u8 v X Z :=
 ⟨h.b.trans (grown_below h2 (by have := h.b.size; omega) (fun k hk => by have := (h.f.lt hk).1; omega)), h.p.keep h2 (fun b hb e => h.apart b hb e), h1, h.g.keep (h2.block _ h.g.lt (fun e => h.n9 e.symm)), h.n8, fun e => by
   rcases h3 _ e with h4 | h4
   ·
    exact h.n9 h4
   ·
    have := h.g.lt; omega, fun b hb e => by
   rcases h3 _ e with h4 | h4
   ·
    exact h.apart b hb h4
   ·
    have := (h.p.lt hb).2; omega⟩
theorem TwoSt.drewN {wc wr : World} {D n : Nat} {gl : List Bool} {u8 u9 : Value} {X Y : List Int} (h : TwoSt wc D n gl wr u8 u9 X Y) (q : Nat) : TwoSt wc D n gl (wr.drewN q) u8 u9 X Y :=
 ⟨bdrewN h.b q, h.p.drewN q, h.f.drewN q, ⟨h.g.1, own_drewN h.g.2 q⟩, h.n8, h.n9, h.apart⟩
theorem TwoSt.setG {wc wr : World} {D n : Nat} {gl : List Bool} {u8 u9 : Value} {X Y : List Int} (h : TwoSt wc D n gl wr u8 u9 X Y) (hD : D = wc.heap.size) (j : Nat) (y : Bool) : TwoSt wc D n (gl.set j y) (wr.setCell ⟨D + 2, j, none⟩ (.bool y)) u8 u9 X Y :=
 ⟨bset h.b (by show wc.heap.size ≤ D + 2; omega) _, h.p.keep (grow_set wr (g := D + 2) rfl _) (fun b hb e => by injection e with e; subst e; exact h.n8 hb), h.f.keep (grow_set wr (g := D + 2) rfl _) (fun b hb e => by injection e with e; subst e; exact h.n9 hb), h.g.store j y, h.n8, h.n9, h.apart⟩
theorem TwoSt.setP {wc wr : World} {D n g c m : Nat} {gl : List Bool} {u9 : Value} {X Y : List Int} (h : TwoSt wc D n gl wr (.slice (some ⟨g, 0, none⟩) m c) u9 X Y) (hD : D = wc.heap.size) (j : Nat) (y : Int) : TwoSt wc D n gl (wr.setCell ⟨g, j, none⟩ (.int .i64 y)) (.slice (some ⟨g, 0, none⟩) m c) u9 (X.set j y) Y :=
 ⟨bset h.b (by have := (h.p.lt (b := g) rfl).1; show wc.heap.size ≤ g; omega) _, h.p.store j y, h.f.keep (grow_set wr (g := g) rfl _) (fun b hb e => by injection e with e; subst e; exact h.apart g rfl hb), h.g.keep (heap_set wr _ _ _ (fun e => h.n8 (by simp [Value.ownBlock]; exact e.symm))), h.n8, h.n9, h.apart⟩
theorem take_snoc {xs : List Int} {i : Nat} (h : i < xs.length) : xs.take i ++ [xs.getD i 0] = xs.take (i + 1) := by
 rw [List.take_succ_eq_append_getElem h, List.getD_eq_getElem?_getD, List.getElem?_eq_getElem h]; rfl
set_option maxRecDepth 100000 in
set_option maxHeartbeats 8000000 in
theorem spec_l4Share (total : Int) (A : Option Addr) (c : Nat) (ws : List Int) (w : World) (hr : Rd intR w A ws) (h : ShrIn total ws) (hn : 0 < ws.length) :
  Calls Tryz.prog 136 #[.int .i64 total, .slice A ws.length c] w (fun e w' => ∃ v, e = .returned v ∧ IOwn w' w.heap.size v (share total ws) ∧ Below w.heap.size w w') := by
 obtain ⟨b, o, e, hlb, _⟩ := hr.2 (by intro e; rw [e] at hn; simp at hn)
 subst e
 have HR := hide hr
 have HI := hide h
 have hln := h.2.2
 obtain ⟨n, hnn⟩ : ∃ n, n = ws.length := ⟨_, rfl⟩
 have HN := hide hnn
 rw [← hnn] at hn hln ⊢
 clear hr h hnn
 obtain ⟨i0, hi, hz0, hz1, hz2⟩ := info_parts info_ints
 go_enter Tryz.func136, Tryz.ntmps136
 go_upto_region 2 with (at_builtin; refine wpList_append_own _ rfl _ _ 28 rfl w.heap.size 3 i0 _ 1 8 und_ints hi hz0 hz1 hz2 rfl (by decide) _ _ _ rfl (World.ownsRow_made w #[] 0 (Nat.le_refl _) (Nat.zero_le _) (by simp)) ⟨b, o, none⟩ n c (ws.flatMap intE) rfl ?qc1 ?qc2 ?qc3 ?qc4 ?qc5 ?qc6 ?_)
 case qc1 => rw [flatMap_length intE 1 (fun _ => rfl), HN.out]
 case qc2 => exact rd_cells HR.out (balloc (brefl _) _)
 case qc3 => exact ints_one ws
 case qc4 => unfold maxLen; omega
 case qc5 => omega
 case qc6 => simp
 intro v' w1 hown hgrow _
 have HB1 := hide (((Below.refl _ w).alloc (Nat.le_refl _) (.cells #[] 3)).grown hgrow (by simp) (by intro k hk; simp [Value.ownBlock] at hk; omega))
 have hO1 : IOwn w1 w.heap.size v' ws := by
  unfold IOwn; rw [← HN.out]; simpa using hown
 obtain ⟨g5, c5, rfl, hg1, hg2, _, _⟩ := hO1.at (by rw [← HN.out]; exact hn)
 rw [← HN.out]
 rw [← HN.out] at hO1
 have hS1 := spec_l1Sum (some ⟨g5, 0, none⟩) c5 ws w1 hO1.at_rd (fun x hx => by have := HI.out.2.1 x hx; omega) (by have := HN.out; omega)
 rw [← HN.out] at hS1
 have HO1 := hide hO1
 generalize hsum : sumI ws = s at hS1
 have HS := hide hsum
 clear hsum hown hgrow hO1 hi hz0 hz1 hz2
 go_upto_if 19 with (go_at_call 90; refine hS1.mono ?_; rintro e w9 ⟨rfl, hw9⟩; obtain rfl := hw9.symm)
 clear hS1
 go_cut [6] from 19 to 28 (fun s6 wx => Below w.heap.size w wx ∧ IOwn wx w.heap.size (.slice (some ⟨g5, 0, none⟩) n c5) (ones ws))
 case first =>
  by_cases hz : s = 0
  ·
   have hz1 : (s == 0) = true := by simp [hz]
   have HO := hide (ones_zero (HS.out.trans hz))
   clear hz
   go_wp2_with fail
   go_loopg [6] n (fun gg s6 wr => ∃ i : Nat, s6 = .int .i64 i ∧ i ≤ n ∧ n - i ≤ gg ∧ Aside (Below w.heap.size w wr) ∧ Aside (IOwn wr w.heap.size (.slice (some ⟨g5, 0, none⟩) n c5) (mixO ws i)))
   case atStart => exact ⟨0, rfl, Nat.zero_le _, by omega, HB1.out, (show Aside _ from by show IOwn _ _ _ _; unfold mixO; simpa using HO1.out)⟩
   case round =>
    obtain ⟨i, rfl, hin, hgg, BW, HM⟩ := hrel
    by_cases hlt : i < n
    ·
     have hltz : (i : Int) < (n : Int) := by omega
     have hml := mixO_length (ws := ws) (i := i) (by have := HN.out; omega)
     have c1 := HM.out.cell (j := i) (by rw [hml, ← HN.out]; exact hlt)
     have f1 := HM.out.frozen i
     have hst := HM.out.store i 1
     rw [mixO_set (by have := HN.out; omega)] at hst
     generalize (mixO ws i).getD i 0 = y at c1
     have HST := hide hst
     clear hst hml
     go_wp2_with fail
     go_roundg (n - (i + 1))
     case measure => omega
     case rel => exact ⟨i + 1, by go_num, by omega, by omega, bset BW.out (by show w.heap.size ≤ g5; omega) _, HST.out⟩
    ·
     have hltz : ¬ (i : Int) < (n : Int) := by omega
     have hi : i = n := by omega
     subst hi
     have hM := HM.out
     rw [HN.out, mixO_all, ← HO.out, ← HN.out] at hM
     have HM2 := hide hM
     clear HM hM
     go_wp2_with fail
     go_meet
     case rel => exact ⟨BW.out, HM2.out⟩
  ·
   have hz1 : (s == 0) = false := by simp [hz]
   have HO := hide (ones_some (ws := ws) (by rw [HS.out]; exact hz))
   clear hz
   go_wp2_with fail
   go_meet
   case rel => exact ⟨HB1.out, by rw [HO.out]; exact HO1.out⟩
 case rest =>
 obtain ⟨hBc, hOc⟩ := hcut
 have hvl : (ones ws).length = n := by rw [ones_length, HN.out]
 have hvb := ones_in HI.out.2.1
 obtain ⟨hp1, _⟩ := ones_pos (ws := ws) (fun x hx => (HI.out.2.1 x hx).1) (by intro e; have := HN.out; rw [e] at this; simp at this; omega)
 have HSH : Hid (share total ws = shareW total (ones ws)) := rfl
 have ht := HI.out.1
 generalize ones ws = vs at hOc hvl hvb hp1 HSH
 have hsb := sum_bound (B := 100000) hvb vs.length
 rw [List.take_length, hvl] at hsb
 have hS2 := spec_l1Sum (some ⟨g5, 0, none⟩) c5 vs wc hOc.at_rd (fun x hx => by have := hvb x hx; omega) (by omega)
 rw [hvl] at hS2
 obtain ⟨S, hS⟩ : ∃ S, sumI vs = S := ⟨_, rfl⟩
 rw [hS] at hS2 hp1 hsb
 have hSle : S ≤ 100000000 := by have := hsb.2; omega
 have hmk := make_eq (P := Tryz.prog) (z := .bool false) (k := 1) (bytes := 1) und_bools info_bools n (by omega) (by omega)
 have HBC := hide hBc
 have HOC := hide hOc
 have HSS := hide hS
 have HVL := hide hvl
 have HVB := hide hvb
 have hgc : g5 < wc.heap.size := (hOc.lt (b := g5) rfl).2
 clear hBc hOc hS hvl hvb hsb HR HI HB1 HO1
 go_upto_region 8 with (go_at_call 90; refine hS2.mono ?_; rintro e w9 ⟨rfl, hw9⟩; obtain rfl := hw9.symm)
 clear hS2
 go_wp2_with fail
 generalize hW3 : ((wc.alloc _).alloc _).alloc _ = W3
 obtain ⟨D, hD⟩ : ∃ D, D = wc.heap.size := ⟨_, rfl⟩
 have FW : Hid (Below wc.heap.size wc W3 ∧ IOwn W3 D (.slice (some ⟨D, 0, none⟩) 0 0) [] ∧ IOwn W3 D (.slice (some ⟨D + 1, 0, none⟩) 0 0) [] ∧ BOwn W3 D (D + 2) n (List.replicate n false)) := by
  subst hW3; subst hD
  have e1 : (wc.alloc (.cells #[] 3)).heap.size = wc.heap.size + 1 := by simp
  have e2 : ((wc.alloc (.cells #[] 3)).alloc (.cells #[] 3)).heap.size = wc.heap.size + 1 + 1 := by simp
  have m1 : IOwn (wc.alloc (.cells #[] 3)) wc.heap.size (.slice (some ⟨wc.heap.size, 0, none⟩) 0 0) [] := World.ownsRow_made wc #[] 0 (Nat.le_refl _) (Nat.zero_le _) (by simp)
  have m2 : IOwn ((wc.alloc (.cells #[] 3)).alloc (.cells #[] 3)) wc.heap.size (.slice (some ⟨(wc.alloc (.cells #[] 3)).heap.size, 0, none⟩) 0 0) [] := World.ownsRow_made (wc.alloc (.cells #[] 3)) #[] 0 (by rw [e1]; omega) (Nat.zero_le _) (by simp)
  rw [e1] at m2
  have m3 := made_bools ((wc.alloc (.cells #[] 3)).alloc (.cells #[] 3)) wc.heap.size n (by rw [e2]; omega) (by omega)
  rw [Nat.mul_one, e2] at m3
  exact ⟨balloc (balloc (balloc (brefl _) _) _) _, (m1.below (balloc (brefl _) _)).below (balloc (brefl _) _), m2.below (balloc (brefl _) _), m3⟩
 rw [← hD]
 have hD2 : D + 1 + 1 = D + 2 := rfl
 rw [hD2]
 have HDD := hide hD
 have hgD : g5 < D := by omega
 clear hW3 hD hmk hD2 hgc
 have hpl : (partsL total S vs).length = n := by simp [partsL, HVL.out]
 have hll : (leftL total S vs).length = n := by simp [leftL, HVL.out]
 have HPL := hide hpl
 have HLL := hide hll
 clear hpl hll
 go_loopg [8, 9, 11] n (fun gg s8 s9 s11 wr => ∃ (i : Nat), s11 = .int .i64 i ∧ i ≤ n ∧ n - i ≤ gg ∧ Aside (TwoSt wc D n (List.replicate n false) wr s8 s9 ((partsL total S vs).take i) ((leftL total S vs).take i)))
 case atStart => exact ⟨0, rfl, Nat.zero_le _, by omega, (show Aside _ from by
  show TwoSt _ _ _ _ _ _ _ _ _
  rw [List.take_zero, List.take_zero]
  exact ⟨FW.out.1, FW.out.2.1, FW.out.2.2.1, FW.out.2.2.2, by simp [Value.ownBlock], by simp [Value.ownBlock], by intro b hb; simp [Value.ownBlock] at hb ⊢; omega⟩)⟩
 case round =>
  obtain ⟨i, rfl, hin, hgg, HT⟩ := hrel
  clear FW
  by_cases hlt : i < n
  ·
   have hltz : (i : Int) < (n : Int) := by omega
   have c0 := HOC.out.cell (j := i) (by rw [HVL.out]; exact hlt)
   have hp1' := parts_get total S vs i
   have hl1' := left_get total S vs i
   have hs1 := take_snoc (xs := partsL total S vs) (i := i) (by rw [HPL.out]; exact hlt)
   have hs2 := take_snoc (xs := leftL total S vs) (i := i) (by rw [HLL.out]; exact hlt)
   rw [hp1'] at hs1
   rw [hl1'] at hs2
   have hv := int_at HVB.out i (by rw [HVL.out]; exact hlt)
   generalize vs.getD i 0 = v at c0 hs1 hs2 hv
   have c1 := keepC HT.out.b c0
   have C0 := hide c0
   obtain ⟨m1, m2⟩ := mul_in ht hv
   have r1 : (total * v).tdiv S = total * v / S := Int.tdiv_eq_ediv_of_nonneg m1
   have r2 : (total * v).tmod S = total * v % S := Int.tmod_eq_emod_of_nonneg m1
   have u1 : 0 ≤ total * v / S := Int.ediv_nonneg m1 (by omega)
   have u2 : total * v / S ≤ total * v := Int.ediv_le_self _ m1
   have u3 := Int.emod_nonneg (total * v) (show S ≠ 0 by omega)
   have u4 := Int.emod_lt_of_pos (total * v) hp1
   have t1 : IntKind.i64.wrap (total * v) = total * v := by rw [IntKind.wrap_i64]; omega
   generalize hP : total * v = P at *
   have t2 : IntKind.i64.wrap (P.tdiv S) = P / S := by rw [r1, IntKind.wrap_i64]; omega
   have t3 : IntKind.i64.wrap (P.tmod S) = P.tmod S := by rw [r2, IntKind.wrap_i64]; omega
   have hs0 : (S == 0) = false := by rw [beq_eq_false_iff_ne]; omega
   have HPP := hide hP
   have HS1 := hide hs1
   rw [← r2] at hs2
   have HS2 := hide hs2
   have hil : ((partsL total S vs).take i).length ≤ 1000000 := by simp; omega
   have hil2 : ((leftL total S vs).take i).length ≤ 1000000 := by simp; omega
   have HIL := hide hil
   have HIL2 := hide hil2
   clear m1 m2 u1 u2 u3 u4 r1 r2 hv hs1 hs2 hp1' hl1' hil hil2 c0
   go_upto_region 15 with (at_builtin; refine wpList_append_int rfl (.tmp 42) (.tmp 51) rfl D u8 ((partsL total S vs).take i) rfl (HT.out.alloc _).p ⟨wr.heap.size, 0, none⟩ 1 (P / S) rfl (cell_new _ _ _ _ 0 _ rfl) HIL.out (by have := HT.out.b.size; have := HDD.out; simp; omega) ?_)
   intro v8 w4 H1 H2 H3
   have HT2 := hide (TwoSt.app8 (Z := (partsL total S vs).take (i + 1)) (HT.out.alloc (.cells #[.int .i64 (P / S)] 3)) HDD.out (by rw [← HS1.out]; exact H1.out) H2.out (by simpa using H3.out))
   have c2 := keepC HT2.out.b C0.out
   clear c1 HT H1 H2 H3
   go_wp2_with (at_builtin; refine wpList_append_int rfl (.tmp 53) (.tmp 62) rfl D u9 ((leftL total S vs).take i) rfl (HT2.out.alloc _).f ⟨w4.heap.size, 0, none⟩ 1 (P.tmod S) rfl (cell_new _ _ _ _ 0 _ rfl) HIL2.out (by have := HT2.out.b.size; have := HDD.out; simp; omega) ?_)
   intro v9 w5 H1 H2 H3
   have HT3 := hide (TwoSt.app9 (Z := (leftL total S vs).take (i + 1)) (HT2.out.alloc (.cells #[.int .i64 (P.tmod S)] 3)) HDD.out (by rw [← HS2.out]; exact H1.out) H2.out (by simpa using H3.out))
   clear c2 HT2 H1 H2 H3
   go_wp2_with fail
   go_roundg (n - (i + 1))
   case measure => omega
   case rel => exact ⟨i + 1, by go_num, by omega, by omega, HT3.out⟩
  ·
   have hltz : ¬ (i : Int) < (n : Int) := by omega
   have hi : i = n := by omega
   subst hi
   have hT := HT.out
   rw [List.take_of_length_le (by rw [HPL.out]; omega), List.take_of_length_le (by rw [HLL.out]; omega)] at hT
   obtain ⟨g8, c8, e8, h8a, h8b, _, _⟩ := hT.p.at (by rw [HPL.out]; exact hn)
   obtain ⟨g9, c9, e9, h9a, h9b, _, _⟩ := hT.f.at (by rw [HLL.out]; exact hn)
   subst e8
   subst e9
   rw [HPL.out] at hT ⊢
   rw [HLL.out] at hT ⊢
   have hpb : ∀ x ∈ partsL total S vs, 0 ≤ x ∧ x ≤ 1000000 := by
    intro x hx
    obtain ⟨y, hy, rfl⟩ := List.mem_map.1 hx
    have hv := HVB.out y hy
    obtain ⟨m1, m2⟩ := mul_in ht hv
    refine ⟨Int.ediv_nonneg m1 (by omega), ?_⟩
    have h1 := sumI_ge (fun z hz => (HVB.out z hz).1) y hy
    rw [HSS.out] at h1
    have h2 : total * y ≤ total * S := Int.mul_le_mul_of_nonneg_left h1 ht.1
    have h3 : total * y / S ≤ total * S / S := Int.ediv_le_ediv hp1 h2
    rw [Int.mul_ediv_cancel _ (by omega)] at h3
    omega
   obtain ⟨rb1, rb2⟩ := rest_bounds (total := total) (ws := vs) (by rw [HSS.out]; exact hp1)
   rw [HSS.out] at rb1 rb2
   rw [HVL.out] at rb2
   have hS3 := spec_l1Sum (some ⟨g8, 0, none⟩) c8 (partsL total S vs) wr hT.p.at_rd hpb (by rw [HPL.out]; omega)
   rw [HPL.out] at hS3
   have hsw : shareW total vs = handL (leftL total S vs) (total - sumI (partsL total S vs)).toNat (List.replicate i false) (partsL total S vs) := by
    unfold shareW
    rw [HSS.out]
    congr 1
    rw [List.map_const', HVL.out]
   have hps0 := (sum_bound (B := 1000000) hpb (partsL total S vs).length).1
   rw [List.take_length] at hps0
   generalize sumI (partsL total S vs) = ps at rb1 rb2 hsw hS3 hps0
   obtain ⟨r, hr⟩ := Int.eq_ofNat_of_zero_le (show 0 ≤ total - ps by omega)
   rw [hr, Int.toNat_natCast] at hsw
   have t1 : IntKind.i64.wrap (total - ps) = (r : Int) := by rw [IntKind.wrap_i64]; omega
   have hrl : r ≤ 100000 := by omega
   have HSW := hide (HSH.out.trans hsw)
   have HPB := hide hpb
   have HT2 := hide hT
   clear hsw hr rb1 rb2 hpb hps0 HT hT HSH
   go_upto_region 17 with (go_at_call 90; refine hS3.mono ?_; rintro e w9 ⟨rfl, hw9⟩; obtain rfl := hw9.symm)
   have HB0 := hide (fun x hx => ⟨(HPB.out x hx).1, by have := (HPB.out x hx).2; omega⟩ : ∀ x ∈ partsL total S vs, 0 ≤ x ∧ x ≤ 20000000 - (r : Int))
   go_loopg [12, 13] r (fun gg s12 s13 wr => ∃ (m : Nat) (gl : List Bool) (out : List Int), s12 = .int .i64 m ∧ m ≤ gg ∧ m ≤ 100000 ∧ Aside (TwoSt wc D i gl wr (.slice (some ⟨g8, 0, none⟩) i c8) (.slice (some ⟨g9, 0, none⟩) i c9) out (leftL total S vs)) ∧ Aside (out.length = i ∧ gl.length = i) ∧ Aside (∀ x ∈ out, 0 ≤ x ∧ x ≤ 20000000 - (m : Int)) ∧ Aside (handL (leftL total S vs) m gl out = share total ws))
   case atStart => exact ⟨r, List.replicate i false, _, rfl, Nat.le_refl _, hrl, HT2.out, (show Aside _ from ⟨HPL.out, by simp⟩), HB0.out, HSW.out.symm⟩
   case round =>
    obtain ⟨m, gl, out, rfl, hgm, hml, HT, HLN, HBD, HH⟩ := hrel
    clear HT2 HB0 HSW HPB
    by_cases hm : 0 < m
    ·
     obtain ⟨m, rfl⟩ : ∃ m', m = m' + 1 := ⟨m - 1, by omega⟩
     have hmz : (0 : Int) < ((m + 1 : Nat) : Int) := by omega
     have hiz : (0 : Int) < (i : Int) := by omega
     have hnx := spec_l4Next (some ⟨g9, 0, none⟩) c9 (some ⟨D + 2, 0, none⟩) i (leftL total S vs) gl wr HT.out.f.at_rd HT.out.g.rd (by rw [HLN.out.2, HLL.out]) (by rw [HLL.out]; omega)
     rw [HLL.out] at hnx
     have t1 : IntKind.i64.wrap (((m + 1 : Nat) : Int) - 1) = (m : Int) := by rw [IntKind.wrap_i64]; omega
     obtain ⟨mm, hmm⟩ : ∃ mm, mm = m + 1 := ⟨_, rfl⟩
     have hH := HH.out
     rcases next_range (leftL total S vs) gl with hz | ⟨k, hz, hk⟩
     ·
      rw [hand_none (by rw [HLN.out.1]; omega) hz] at hH
      rw [hz] at hnx
      rw [← hmm] at hmz t1 ⊢
      have HMM := hide hmm
      have HH2 := hide hH
      clear HH hH hz hmm
      go_wp2_with fail
      refine hnx.mono ?_
      rintro _ w' ⟨rfl, q, hw'⟩
      have HT3 := hide (HT.out.drewN q)
      rw [← hw'] at HT3
      clear hw' HT hnx
      go_wp2_with fail
      go_roundg m
      case measure => have := HMM.out; omega
      case rel => exact ⟨m, gl, out, rfl, Nat.le_refl _, by have := HMM.out; omega, HT3.out, HLN.out, (show Aside _ from fun x hx => ⟨(HBD.out x hx).1, by have := (HBD.out x hx).2; have := HMM.out; omega⟩), HH2.out⟩
     ·
      rw [HLL.out] at hk
      rw [hand_some (by rw [HLN.out.1]; omega) hz] at hH
      rw [hz] at hnx
      rw [← hmm] at hmz t1 ⊢
      have HMM := hide hmm
      clear HH hz hmm
      go_wp2_with fail
      refine hnx.mono ?_
      rintro _ w' ⟨rfl, q, hw'⟩
      have hT3 := HT.out.drewN q
      rw [← hw'] at hT3
      have c1 := hT3.g.cell (j := k) hk
      have f1 := hT3.g.frozen k
      have c2 := hT3.p.cell (j := k) (by rw [HLN.out.1]; exact hk)
      have f2 := hT3.p.frozen k
      have hx := int_at HBD.out k (by rw [HLN.out.1]; exact hk)
      have HT4 := hide ((hT3.setG HDD.out k true).setP HDD.out k (out.getD k 0 + 1))
      have n1 : ¬ D + 2 = g8 := fun e => hT3.n8 (by simp [Value.ownBlock]; exact e.symm)
      have n2 : ¬ g8 = D + 2 := fun e => n1 e.symm
      have HBD2 : Hid (∀ x ∈ out.set k (out.getD k 0 + 1), 0 ≤ x ∧ x ≤ 20000000 - (m : Int)) := fun y hy => by
       have := HMM.out
       rcases List.mem_or_eq_of_mem_set hy with hy | rfl
       ·
        have := HBD.out y hy; omega
       ·
        omega
      generalize gl.getD k false = bo at c1
      generalize hxx : out.getD k 0 = x at c2 hx hH HT4 HBD2
      have t2 : IntKind.i64.wrap (x + 1) = x + 1 := by rw [IntKind.wrap_i64]; omega
      have kz : (k : Int) < (i : Int) := by omega
      have HH2 := hide hH
      clear hw' HT hnx hT3 hx hH hxx
      go_wp2_with fail
      go_roundg m
      case measure => have := HMM.out; omega
      case rel => exact ⟨m, _, _, rfl, Nat.le_refl _, by have := HMM.out; omega, HT4.out, (show Aside _ from ⟨by rw [List.length_set]; exact HLN.out.1, by rw [List.length_set]; exact HLN.out.2⟩), HBD2.out, HH2.out⟩
    ·
     have hm0 : m = 0 := by omega
     subst hm0
     have hH := HH.out
     rw [handL] at hH
     have HH2 := hide hH
     clear HH hH
     go_wp2_with fail
     go_ret
     exact ⟨_, rfl, by rw [← HH2.out]; exact HT.out.p.base (by have := HDD.out; have := HBC.out.size; omega), step HBC.out HT.out.b⟩
end Go.Proofs.YtpfagdmmhgcmnaaGreatDoor

namespace Go.Proofs.YtpfagdmmhgcmnaaGreatDoor
open Go.RowKit
structure FS0 (w W : World) (R N b0 B : Nat) (vc vr : Value) (t : Tbl) : Prop where
 rdr : RdrOk W R N
 grown : w.grownBy W (some R)
 pos : b0 ≤ w.heap.size ∧ R < b0 ∧ w.heap.size ≤ B ∧ B + 1 < W.heap.size
 res : BlockAt W (B + 1) zeros5
 blk : BlockAt W B (tvals vc vr t)
 typ : Typed W B 26
 typ1 : Typed W (B + 1) 26
 rows : OwnRows W b0 48 52 vr t.rows
structure FSt (w W : World) (R N b0 B : Nat) (vc vr : Value) (t : Tbl) (xs : List TCol) : Prop extends FS0 w W R N b0 B vc vr t where
 cols : W.ownsRow (B + 1) 43 2 vc xs.length (xs.flatMap colE)
section
variable {w W W' : World} {R N N' b0 B : Nat} {vc vr v' : Value} {t : Tbl} {xs : List TCol}
theorem FSt.mono (h : FSt w W R N b0 B vc vr t xs) (hN : N ≤ N') : FSt w W R N' b0 B vc vr t xs := ⟨⟨h.rdr.mono hN, h.grown, h.pos, h.res, h.blk, h.typ, h.typ1, h.rows⟩, h.cols⟩
theorem FS0.put {row : Option Nat} (h : FS0 w W R N b0 B vc vr t) (hN : N ≤ N') (hg : W.grownBy W' row) (hrow : ∀ b, row = some b → w.heap.size ≤ b ∧ b ≠ B ∧ b ≠ B + 1 ∧ Typed W b 43) :
  FS0 w (W'.setCell ⟨B, 0, none⟩ v') R N' b0 B v' vr t := by
 obtain ⟨p1, p2, p3, p4⟩ := h.pos
 have hlow : ∀ b, b < w.heap.size ∨ b = B ∨ b = B + 1 → W'.heap[b]? = W.heap[b]? := fun b hb' => hg.block b (by omega) (fun e => by have := hrow b e.symm; omega)
 have hgw : w.grownBy W' (some R) := ⟨hg.os.trans h.grown.os, hg.tape.trans h.grown.tape, hg.output.trans h.grown.output, Nat.le_trans h.grown.size hg.size, fun k hk hne => (hlow k (by omega)).trans (h.grown.block k hk hne)⟩
 have hR := h.rdr.grow hg (fun g e => by have := hrow g e; omega)
 refine ⟨(rdr_set hR (by show R < B; omega) _).mono hN, grow_setN hgw (by show _ ≤ B; omega) _, ⟨p1, p2, p3, by have := hg.size; simp; omega⟩, (h.res.keep (hlow _ (by omega))).other (by show B ≠ B + 1; omega) _, (h.blk.keep (hlow B (by omega))).set (k := 0) (by show 0 < 5; omega) v', (h.typ.keep (hlow B (by omega))).set _ _, (h.typ1.keep (hlow _ (by omega))).set _ _, ?_⟩
 have h1 : OwnRows W' b0 48 52 vr t.rows := by
  cases row with
  | none =>
   obtain ⟨us, r1, r2, r3⟩ := h.rows
   exact ⟨us, own_keep r1 fun b hb => hg.block b (own_lt r1 hb).2 (by simp), r2.keep fun b _ hb => hg.block b hb (by simp), r3⟩
  | some b => exact h.rows.past hg (hrow b rfl).2.2.2 (by decide) (by decide)
 exact h1.past (grow_set W' rfl v') (h.typ.keep (hlow B (by omega))) (by decide) (by decide)
end
def FColS1 (w : World) (R N b0 B : Nat) (vc vr : Value) (t : Tbl) (xs : List TCol) (x : TCol) (v' : Value) (W : World) : Prop :=
 ∃ W0, FSt w W0 R N b0 B vc vr t xs ∧ W0.grownBy W vc.ownBlock ∧ W.ownsRow (B + 1) 43 2 v' (xs.length + 1) (xs.flatMap colE ++ colE x)
section
variable {w W : World} {R N N' b0 B : Nat} {vc vr v' : Value} {t : Tbl} {xs : List TCol} {x : TCol}
theorem FColS1.blk (h : FColS1 w R N b0 B vc vr t xs x v' W) : BlockAt W B (tvals vc vr t) := by
 obtain ⟨W0, h1, h2, _⟩ := h
 exact h1.blk.keep (h2.block B h1.typ.lt (fun e => (own_block h1.cols e.symm).ne h1.typ (by decide) rfl))
theorem FColS1.form (h : FColS1 w R N b0 B vc vr t xs x v' W) : ∃ A m c, v' = .slice A m c := by
 obtain ⟨W0, h1, h2, h3⟩ := h
 obtain ⟨A, c, e⟩ := own_sl h3
 exact ⟨A, _, c, e⟩
theorem FColS1.done (h : FColS1 w R N b0 B vc vr t xs x v' W) (hN : N ≤ N') : FSt w (W.setCell ⟨B, 0, none⟩ v') R N' b0 B v' vr t (xs ++ [x]) := by
 obtain ⟨W0, h1, h2, h3⟩ := h
 have hp := h1.pos
 refine ⟨h1.toFS0.put hN h2 (fun b e => ⟨by have := (own_lt h1.cols e).1; omega, (own_block h1.cols e).ne h1.typ (by decide), (own_block h1.cols e).ne h1.typ1 (by decide), own_block h1.cols e⟩), own_setA ?_ (by show B < B + 1; omega) _⟩
 simp only [List.length_append, List.length_singleton, List.flatMap_append, List.flatMap_singleton]
 exact h3
end
--TRACE
end Go.Proofs.YtpfagdmmhgcmnaaGreatDoor

namespace Go.Proofs.YtpfagdmmhgcmnaaGreatDoor
open Go.RowKit
theorem below_row {w W W' : World} {R : Nat} (hB : Below w.heap.size w W) (hg : W.grownBy W' (some R)) (hR : w.heap.size ≤ R) : Below w.heap.size w W' :=
 hB.trans ⟨hg.os, hg.tape, hg.output, hg.size, fun k hk => hg.block k (by have := hB.size; omega) (fun e => by injection e with e; omega)⟩
theorem any_sized {t : Tbl} (h : anyBd t) : ∀ r ∈ t.rows, ∀ c ∈ r.cs, c.t.size ≤ 1048576 := by
 obtain ⟨k, hk⟩ := h.cells
 intro r hr c hc
 obtain ⟨i, hi, rfl⟩ := List.getElem_of_mem hr
 exact Nat.le_trans ((hk i hi).2 c hc).1 (by decide)
def DrawT (w : World) (e : Ending) (w' : World) : Prop :=
 ∃ (t : Tbl) (vc vr : Value), e = .returned (.agg #[vc, .int .i64 t.head, .int .i64 t.foot, vr, .int .i64 t.gap]) ∧ anyBd t ∧ OwnT w' w.heap.size vc vr t ∧ Below w.heap.size w w'
theorem out5 {w W : World} {base : Nat} {vc vr : Value} {t : Tbl} (hB : Below w.heap.size w W) (ho : OwnT W base vc vr t) (hb : w.heap.size < base) (v0 v1 v2 v3 v4 : Value) :
  OwnT (((((W.setCell ⟨w.heap.size, 0, none⟩ v0).setCell ⟨w.heap.size, 1, none⟩ v1).setCell ⟨w.heap.size, 2, none⟩ v2).setCell ⟨w.heap.size, 3, none⟩ v3).setCell ⟨w.heap.size, 4, none⟩ v4) w.heap.size vc vr t ∧ Below w.heap.size w (((((W.setCell ⟨w.heap.size, 0, none⟩ v0).setCell ⟨w.heap.size, 1, none⟩ v1).setCell ⟨w.heap.size, 2, none⟩ v2).setCell ⟨w.heap.size, 3, none⟩ v3).setCell ⟨w.heap.size, 4, none⟩ v4) :=
 ⟨OwnT.base (OwnT.setA (OwnT.setA (OwnT.setA (OwnT.setA (OwnT.setA ho hb _) hb _) hb _) hb _) hb _) (by omega), bset (bset (bset (bset (bset hB (Nat.le_refl _) _) (Nat.le_refl _) _) (Nat.le_refl _) _) (Nat.le_refl _) _) (Nat.le_refl _) _⟩
theorem drawT {w W : World} {vc vr : Value} {t : Tbl} (h : OwnT W w.heap.size vc vr t ∧ Below w.heap.size w W) (hb : anyBd t) : DrawT w (.returned (.agg #[vc, .int .i64 t.head, .int .i64 t.foot, vr, .int .i64 t.gap])) W :=
 ⟨t, vc, vr, rfl, hb, h.1, h.2⟩
end Go.Proofs.YtpfagdmmhgcmnaaGreatDoor
namespace Go.Proofs.YtpfagdmmhgcmnaaGreatDoor
open Go.RowKit
structure BMid (vals : Nat → Value) (n : Nat) (V : World) (l : Array Bool) (vs : Nat → Value) (W : World) : Prop where
 size : l.size = n
 below : Below V.heap.size V W
 held : ∀ j, l.getD j false = true → vs j = vals j
section
variable {vals : Nat → Value} {n : Nat} {V : World} {l : Array Bool} {vs : Nat → Value} {W W' : World}
theorem BMid.next (h : BMid vals n V l vs W) (i : Nat) (v : Value) (hv : v = vals i) (hb : Below W.heap.size W W') : BMid vals n V (l.setIfInBounds i true) (updV vs i v) W' := by
 refine ⟨by simpa using h.size, step h.below hb, fun j hj => ?_⟩
 unfold updV
 by_cases e : j = i
 ·
  subst e; rw [if_pos rfl]; exact hv
 ·
  rw [if_neg e]
  rw [getD_set_ne false (Ne.symm e)] at hj
  exact h.held j hj
theorem BMid.still (h : BMid vals n V l vs W) (i : Nat) (v : Value) (hv : v = vals i) : BMid vals n V (l.setIfInBounds i true) (updV vs i v) W := h.next i v hv (brefl W)
theorem BMid.start : BMid vals n V (Array.replicate n false) vs V := ⟨by simp, brefl V, fun j hj => by simp [Array.getD] at hj⟩
end
end Go.Proofs.YtpfagdmmhgcmnaaGreatDoor

namespace Go.Proofs.YtpfagdmmhgcmnaaGreatDoor
open Go.RowKit
theorem laws_pwOk (w : World) (hw : Base w) : Calls Tryz.prog 20 #[] w fun e w' => e = .returned (.bool true) ∧ Below w.heap.size w w' := by
 have hT := impl_TxtOk ⟨#[97, 98, 32, 99]⟩ w (by decide) hw
 have ht : txOk ⟨#[97, 98, 32, 99]⟩ = true := by decide
 rw [ht] at hT
 go_enter Tryz.func20, Tryz.ntmps20
 go_wp2_with fail
 refine hT.mono ?_
 rintro e w' ⟨rfl, hb⟩
 go_wp2_with fail
 go_ret
 exact ⟨rfl, hb⟩
theorem BlockAt.below {W W' : World} {C : Nat} {cs : List Value} (h : BlockAt W C cs) (hC : C < W.heap.size) (hb : Below W.heap.size W W') : BlockAt W' C cs := h.keep (hb.block C hC)
set_option maxRecDepth 100000 in
set_option maxHeartbeats 4000000 in
theorem spec_DrawColLeast (A : Option Addr) (n c : Nat) (w : World) (h : BytesAt w A n c) : Calls Tryz.prog 15 #[.slice A n c] w (DrawT w) := by
 have HA := hide h
 clear h
 go_enter Tryz.func15, Tryz.ntmps15
 go_wp2_with fail
 refine (rdOpen A n c _ (HA.out.below (balloc (brefl w) _))).mono ?_
 rintro e W1 ⟨R, rfl, hR0, hR1, hb1⟩
 have hR0' : w.heap.size < R := by simp at hR0; omega
 have HB1 := hide (step (balloc (brefl w) (.cells #[.slice none 0 0, .int .i64 0, .int .i64 0, .slice none 0 0, .int .i64 0] 26)) hb1)
 have HZ1 := hide ((BlockAt.new w zeros5 26).keep (hb1.block w.heap.size (by simp)))
 have hRl := hR1.lt
 have HR1 := hide hR1
 clear hR0 hR1 hb1
 go_wp2_with fail
 refine (rdAnyTable R 0 16 _ HR1.out (by decide) (by decide) (by decide)).mono ?_
 rintro e W2 ⟨t, vc, vr, rfl, htb, hR2, hg2, hO2⟩
 obtain ⟨⟨Ac, kc, rfl⟩, Ar, kr, rfl⟩ := hO2.form
 have HT := hide htb
 have HB2 := hide (below_row HB1.out hg2 (by omega))
 have HZ2 := hide (HZ1.out.keep (grow_blk hg2 (by omega) (by omega)))
 have HO2 := hide hO2
 clear htb hR2 hg2 hO2
 have h0 : W2.cell? ⟨w.heap.size, 0, none⟩ = some (.slice none 0 0) := HZ2.out.1 0 _ rfl
 have h1 : W2.cell? ⟨w.heap.size, 1, none⟩ = some (.int .i64 0) := HZ2.out.1 1 _ rfl
 have h2 : W2.cell? ⟨w.heap.size, 2, none⟩ = some (.int .i64 0) := HZ2.out.1 2 _ rfl
 have h3 : W2.cell? ⟨w.heap.size, 3, none⟩ = some (.slice none 0 0) := HZ2.out.1 3 _ rfl
 have h4 : W2.cell? ⟨w.heap.size, 4, none⟩ = some (.int .i64 0) := HZ2.out.1 4 _ rfl
 have hf := HZ2.out.2
 go_wp2_with fail
 exact bodyPost_ret (v := .agg #[.slice Ac t.cols.length kc, .int .i64 t.head, .int .i64 t.foot, .slice Ar t.rows.length kr, .int .i64 t.gap]) (by simp [results, Tryz.results15, go_sem, *]) rfl (drawT (out5 HB2.out HO2.out (by omega) _ _ _ _ _) HT.out)
end Go.Proofs.YtpfagdmmhgcmnaaGreatDoor
