import Derived.Test.YtgdmcmicfoamlaaGreatDoorMixT
import Derived.Laws.IdiomStrings
import Derived.Deep.Slices
import Derived.ChangeSame
import Derived.Below
import Derived.Shelf.Vars
set_option linter.unusedVariables false
set_option linter.unusedSimpArgs false
set_option maxHeartbeats 2000000
set_option maxRecDepth 100000
namespace Go.Proofs.YtgdmcmicfoamlaaGreatDoor
open Go.RowKit
variable {α : Type}
theorem Zbh (enc : α → List Value) (k : Nat) (hk : ∀ x, (enc x).length = k) (xs : List α) : (xs.flatMap enc).length = xs.length * k := by
 induction xs with
 | nil => simp
 | cons x xs ih => rw [List.flatMap_cons, List.length_append, ih, hk, List.length_cons, Nat.succ_mul]; omega
theorem Zd2 (enc : α → List Value) (k : Nat) (hk : ∀ x, (enc x).length = k) : ∀ (xs : List α) (j i : Nat) (u : Value) (hj : j < xs.length), (enc xs[j])[i]? = some u → (xs.flatMap enc)[j * k + i]? = some u
 | x :: xs, 0, i, u, _, hu => by
  rw [List.flatMap_cons, Nat.zero_mul, Nat.zero_add]
  have hi : i < (enc x).length := (List.getElem?_eq_some_iff.1 hu).1
  rw [List.getElem?_append_left hi]; exact hu
 | x :: xs, j + 1, i, u, hj, hu => by
  rw [List.flatMap_cons, List.getElem?_append_right (by rw [hk, Nat.succ_mul]; omega), hk, show (j + 1) * k + i - k = j * k + i by rw [Nat.succ_mul]; omega]
  exact Zd2 enc k hk xs j i u (by simpa using hj) hu
theorem Zdz {enc : α → List Value} {k : Nat} {hk : ∀ x, (enc x).length = k} {w : World} {base : Nat} {E : TypeId} {v : Value} {xs : List α} (h : w.ownsRow base E k v xs.length (xs.flatMap enc)) : Zml (Zg9 k enc hk) w v xs := by
 rcases h.2 with ⟨rfl, h0⟩ | ⟨g, cap, cur, rfl, hb, hh, h1, h2, h3, h4⟩
 · have : xs = [] := List.eq_nil_of_length_eq_zero h0
   subst this
   exact ⟨none, 0, rfl, Nat.le_refl _, Rd.nil _ _ _⟩
 refine ⟨some ⟨g, 0, none⟩, cap, rfl, h1, by simp only [maxLen] at h2; omega, fun hn => ⟨g, 0, rfl, (Array.getElem?_eq_some_iff.1 hh).1, fun j hj => ⟨enc xs[j], rfl, fun i u hu => ?_⟩⟩⟩
 have hlt : i < k := by have := (List.getElem?_eq_some_iff.1 hu).1; rw [hk] at this; exact this
 have hjk : j * k + i < xs.length * k := Nat.lt_of_lt_of_le (show j * k + i < (j + 1) * k by rw [Nat.succ_mul]; omega) (Nat.mul_le_mul_right _ hj)
 have e := h.cellAt (j * k + i) hjk
 rw [Zd2 enc k hk xs j i u hj hu] at e
 have e0 : (0 : Nat) + j * (Zg9 k enc hk).sz + i = j * k + i := by show 0 + j * k + i = _; omega
 rw [e0]; exact e
theorem Jl {w w' : World} {base : Nat} {E : TypeId} {k n : Nat} {v : Value} {xs : List Value} (h : w.ownsRow base E k v n xs) (hk : ∀ b, v.ownBlock = some b → w'.heap[b]? = w.heap[b]?) : w'.ownsRow base E k v n xs := by
 refine ⟨h.1, ?_⟩
 rcases h.2 with h0 | ⟨g, cap, cur, rfl, hb, hh, r⟩
 · exact .inl h0
 exact .inr ⟨g, cap, cur, rfl, hb, (hk g rfl).trans hh, r⟩
theorem Qo {w : World} {base : Nat} {E : TypeId} {k n : Nat} {v : Value} {xs : List Value} (h : w.ownsRow base E k v n xs) {b : Nat} (hb : v.ownBlock = some b) : base ≤ b ∧ b < w.heap.size := h.lt b hb
theorem Qx {w w' : World} {base : Nat} {E : TypeId} {k n : Nat} {v : Value} {xs : List Value} (h : w.ownsRow base E k v n xs) (hb : Below w.heap.size w w') : w'.ownsRow base E k v n xs :=
 Jl h fun b e => hb.block b (Qo h e).2
theorem Jw {w : World} {base base' : Nat} {E : TypeId} {k n : Nat} {v : Value} {xs : List Value} (h : w.ownsRow base E k v n xs) (hb : base' ≤ base) : w.ownsRow base' E k v n xs := by
 refine ⟨h.1, ?_⟩
 rcases h.2 with h0 | ⟨g, cap, cur, rfl, hg, r⟩
 · exact .inl h0
 exact .inr ⟨g, cap, cur, rfl, by omega, r⟩
theorem Zak (w : World) (a : Addr) (u : Value) (k : Nat) (h : k ≠ a.block) : (w.setCell a u).heap[k]? = w.heap[k]? := Below.heap_setCell w a u k h
def Za8 (a b : Value) : Prop := ∀ k, a.ownBlock = some k → b.ownBlock ≠ some k
def Qj (vs : List Value) (rows : List Jv) : List Value := (vs.zip rows).flatMap fun p => [p.1, .bool p.2.wh]
def Zaf (w : World) (base : Nat) (E : TypeId) (vs : List Value) (rows : List Jv) : Prop :=
 vs.length = rows.length ∧ (∀ (j : Nat) (h : j < vs.length) (h' : j < rows.length), w.ownsRow base E 11 vs[j] rows[j].cs.length (rows[j].cs.flatMap Qv)) ∧ vs.Pairwise Za8
theorem Zaf.nil (w : World) (base : Nat) (E : TypeId) : Zaf w base E [] [] := ⟨rfl, fun _ h => absurd h (Nat.not_lt_zero _), List.Pairwise.nil⟩
theorem Zaf.keep {w w' : World} {base : Nat} {E : TypeId} {vs : List Value} {rows : List Jv} (h : Zaf w base E vs rows) (hk : ∀ b, base ≤ b → b < w.heap.size → w'.heap[b]? = w.heap[b]?) : Zaf w' base E vs rows :=
 ⟨h.1, fun j h1 h2 => Jl (h.2.1 j h1 h2) fun b hb => hk b (Qo (h.2.1 j h1 h2) hb).1 (Qo (h.2.1 j h1 h2) hb).2, h.2.2⟩
theorem Zaf.snoc {w : World} {base : Nat} {E : TypeId} {vs : List Value} {rows : List Jv} {v : Value} {r : Jv} (h : Zaf w base E vs rows) (hv : w.ownsRow base E 11 v r.cs.length (r.cs.flatMap Qv)) (ha : ∀ a ∈ vs, Za8 a v) : Zaf w base E (vs ++ [v]) (rows ++ [r]) := by
 refine ⟨by simp [h.1], fun j h1 h2 => ?_, ?_⟩
 ·
  rcases Nat.lt_or_ge j vs.length with hj | hj
  · have hj' : j < rows.length := by rw [← h.1]; exact hj
    rw [List.getElem_append_left hj, List.getElem_append_left hj']
    exact h.2.1 j hj hj'
  have e : j = vs.length := by simp at h1; omega
  have e' : j = rows.length := by rw [← h.1]; exact e
  have g1 : (vs ++ [v])[j] = v := by rw [List.getElem_append_right (by omega)]; simp
  have g2 : (rows ++ [r])[j] = r := by rw [List.getElem_append_right (by omega)]; simp
  rw [g1, g2]; exact hv
 rw [List.pairwise_append]
 exact ⟨h.2.2, List.pairwise_singleton _ _, fun a ha' b hb => by rw [List.mem_singleton.1 hb]; exact ha a ha'⟩
theorem Zk9 (vs : List Value) (rows : List Jv) (v : Value) (r : Jv) (h : vs.length = rows.length) : Qj (vs ++ [v]) (rows ++ [r]) = Qj vs rows ++ [v, .bool r.wh] := by
 unfold Qj
 rw [List.zip_append h, List.flatMap_append]; rfl
def Qu (w : World) (base : Nat) (E F : TypeId) (v : Value) (rows : List Jv) : Prop :=
 ∃ vs, w.ownsRow base E 2 v rows.length (Qj vs rows) ∧ Zaf w base F vs rows ∧ ∀ a ∈ vs, Za8 v a
theorem Qu.below {w w' : World} {base : Nat} {E F : TypeId} {v : Value} {rows : List Jv} (h : Qu w base E F v rows) (hb : Below w.heap.size w w') : Qu w' base E F v rows := by
 obtain ⟨vs, h1, h2, h3⟩ := h
 exact ⟨vs, Qx h1 hb, h2.keep fun b _ hlt => hb.block b hlt, h3⟩
theorem Zcg (vs : List Value) (rows : List Jv) : ∀ (j : Nat) (h1 : j < vs.length) (h2 : j < rows.length), (Qj vs rows)[j * 2]? = some vs[j] ∧ (Qj vs rows)[j * 2 + 1]? = some (.bool rows[j].wh) := by
 induction vs generalizing rows with
 | nil => intro j h; exact absurd h (Nat.not_lt_zero _)
 | cons v vs ih =>
  cases rows with
  | nil => intro j _ h; exact absurd h (Nat.not_lt_zero _)
  | cons r rows =>
   intro j h1 h2
   cases j with
   | zero => exact ⟨rfl, rfl⟩
   | succ j =>
    have := ih rows j (by simpa using h1) (by simpa using h2)
    have e : Qj (v :: vs) (r :: rows) = v :: .bool r.wh :: Qj vs rows := rfl
    rw [e, show (j + 1) * 2 = j * 2 + 1 + 1 by omega]
    exact this
theorem Qu.rd {w : World} {base : Nat} {E F : TypeId} {v : Value} {rows : List Jv} (h : Qu w base E F v rows) (hs : ∀ r ∈ rows, ∀ c ∈ r.cs, c.t.size ≤ 1048576) : Zml Zbp w v rows := by
 obtain ⟨vs, h1, h2, _⟩ := h
 rcases h1.2 with ⟨rfl, h0⟩ | ⟨g, cap, cur, rfl, hb, hh, k1, k2, k3, k4⟩
 · have : rows = [] := List.eq_nil_of_length_eq_zero h0
   subst this
   exact ⟨none, 0, rfl, Nat.le_refl _, Rd.nil _ _ _⟩
 refine ⟨some ⟨g, 0, none⟩, cap, rfl, k1, by simp only [maxLen] at k2; omega, fun hn => ⟨g, 0, rfl, (Array.getElem?_eq_some_iff.1 hh).1, fun j hj => ?_⟩⟩
 have hv : j < vs.length := by rw [h2.1]; exact hj
 obtain ⟨g0, g1⟩ := Zcg vs rows j hv hj
 obtain ⟨A, c, e1, e2, e3⟩ := Zdz (enc := Qv) (k := 11) (hk := fun _ => rfl) (h2.2.1 j hv hj)
 refine ⟨[vs[j], .bool rows[j].wh], ⟨vs[j], rfl, A, c, e1, e2, e3.1, fun hn => ?_⟩, fun i u hu => ?_⟩
 · obtain ⟨b, o, ha, hlt, hc⟩ := e3.2 hn
   refine ⟨b, o, ha, hlt, fun i hi => ?_⟩
   obtain ⟨cs, hk, hcell⟩ := hc i hi
   exact ⟨cs, ⟨hk, hs _ (List.getElem_mem hj) _ (List.getElem_mem hi)⟩, hcell⟩
 ·
  have e0 := h1.cellAt (j * 2) (by omega)
  have e1 := h1.cellAt (j * 2 + 1) (by omega)
  rw [g0] at e0
  rw [g1] at e1
  match i, hu with
  | 0, hu => simp at hu; subst hu; simpa [Zbp] using e0
  | 1, hu => simp at hu; subst hu; simpa [Zbp] using e1
theorem Jk (w : World) (r : Option Nat) : w.grownBy w r := World.grownBy.refl w r
theorem Zk {w w1 w2 : World} {r : Option Nat} (h : w.grownBy w1 r) (h' : w1.grownBy w2 r) : w.grownBy w2 r :=
 ⟨h'.os.trans h.os, h'.tape.trans h.tape, h'.output.trans h.output, Nat.le_trans h.size h'.size, fun k hk hne => (h'.block k (Nat.lt_of_lt_of_le hk h.size) hne).trans (h.block k hk hne)⟩
theorem Qd {w w1 : World} {r : Option Nat} (h : Below w.heap.size w w1) : w.grownBy w1 r := ⟨h.os, h.tape, h.output, h.size, fun k hk _ => h.block k hk⟩
theorem Qt (w : World) {g : Nat} {a : Addr} (ha : a.block = g) (u : Value) : w.grownBy (w.setCell a u) (some g) :=
 ⟨rfl, rfl, rfl, by simp, fun k _ hne => Zak w a u k (fun e => hne (by rw [e, ha]))⟩
end Go.Proofs.YtgdmcmicfoamlaaGreatDoor
namespace Go.Proofs.YtgdmcmicfoamlaaGreatDoor
open Go.RowKit
def gcE (c : Zl) : List Value := [.int .i64 c.row, .int .i64 c.col, .int .i64 c.rows, .int .i64 c.cols, .int .i64 c.inn]
def SmZ (n : Int) : Prop := -1000000 ≤ n ∧ n ≤ 1000000
def GSm (x : Zl) : Prop := SmZ x.row ∧ SmZ x.col ∧ SmZ x.rows ∧ SmZ x.cols ∧ SmZ x.inn
def gcR : Rep Zl where
 sz := 5
 K := fun _ x cs => cs = gcE x ∧ GSm x
 len := by rintro w x cs ⟨rfl, _⟩; rfl
 below := fun _ h => h
def Yj (a b : Zl) : Bool := decide (a.row < b.row + b.rows) && decide (b.row < a.row + a.rows) && decide (a.col < b.col + b.cols) && decide (b.col < a.col + a.cols)
def Zgu (t : Tbl) (r : Int) : Int := if r < t.head then 0 else if (t.rows.length : Int) - t.foot ≤ r then 2 else 1
def Ja (t : Tbl) (r : Int) : Int := if r < t.head then t.head else if (t.rows.length : Int) - t.foot ≤ r then t.rows.length else t.rows.length - t.foot
def Zba (c : Zl) (k : Int) : Zl := { c with col := k }
def Zv (L : List Zl) (c : Zl) : Nat → Nat → Nat
 | 0, k => k
 | n + 1, k => if L.any (Yj (Zba c k)) then Zv L c n (k + 1) else k
def Jp (t : Tbl) (r i : Nat) (x : Qi) : Zl := ⟨r, 0, min x.r (Ja t r - r), x.c, i⟩
def Zai (m : Nat) (t : Tbl) (r i : Nat) (x : Qi) (S : List Zl × Int) : List Zl × Int :=
 let k := Zv S.1 (Jp t r i x) m 0
 (S.1 ++ [Zba (Jp t r i x) k], max S.2 (k + x.c))
def Jf (m : Nat) (t : Tbl) (r : Nat) : List Qi → Nat → List Zl × Int → List Zl × Int
 | [], _, S => S
 | x :: xs, i, S => Jf m t r xs (i + 1) (Zai m t r i x S)
def Yy (m : Nat) (t : Tbl) : List Jv → Nat → List Zl × Int → List Zl × Int
 | [], _, S => S
 | y :: ys, r, S => Yy m t ys (r + 1) (Jf m t r y.cs 0 S)
def Zad (t : Tbl) : List Zl × Int := ([], max (t.cols.length : Int) 1)
def Zp (m : Nat) (t : Tbl) : List Zl × Int := Yy m t t.rows 0 (Zad t)
theorem Zp3 (a b : Zl) (w : World) (ha : GSm a) (hb : GSm b) :
 Calls Tryz.prog 89 #[.agg #[.int .i64 a.row, .int .i64 a.col, .int .i64 a.rows, .int .i64 a.cols, .int .i64 a.inn], .agg #[.int .i64 b.row, .int .i64 b.col, .int .i64 b.rows, .int .i64 b.cols, .int .i64 b.inn]] w fun e w' => e = .returned (.bool (Yj a b)) ∧ Below w.heap.size w w' := by
 obtain ⟨⟨a1, a2⟩, ⟨a3, a4⟩, ⟨a5, a6⟩, ⟨a7, a8⟩, _⟩ := ha
 obtain ⟨⟨b1, b2⟩, ⟨b3, b4⟩, ⟨b5, b6⟩, ⟨b7, b8⟩, _⟩ := hb
 unfold Yj
 go_enter Tryz.func89, Tryz.ntmps89
 by_cases h1 : a.row < b.row + b.rows
 ·
  by_cases h2 : b.row < a.row + a.rows
  ·
   by_cases h3 : a.col < b.col + b.cols
   · by_cases h4 : b.col < a.col + a.cols
     all_goals go_wp2_with fail
     all_goals go_ret
     all_goals exact ⟨by first | (simp [*]; done) | (simp [*]; omega), Zc (Zc (Zf _) _) _⟩
   go_wp2_with fail
   go_ret
   exact ⟨by first | (simp [*]; done) | (simp [*]; omega), Zc (Zc (Zf _) _) _⟩
  go_wp2_with fail
  go_ret
  exact ⟨by first | (simp [*]; done) | (simp [*]; omega), Zc (Zc (Zf _) _) _⟩
 go_wp2_with fail
 go_ret
 exact ⟨by first | (simp [*]; done) | (simp [*]; omega), Zc (Zc (Zf _) _) _⟩
theorem Zoy (a b : Zl) (w : World) (ha : GSm a) (hb : GSm b) :
 Calls Tryz.prog 188 #[.agg #[.int .i64 a.row, .int .i64 a.col, .int .i64 a.rows, .int .i64 a.cols, .int .i64 a.inn], .agg #[.int .i64 b.row, .int .i64 b.col, .int .i64 b.rows, .int .i64 b.cols, .int .i64 b.inn]] w fun e w' => e = .returned (.bool (Yj a b)) ∧ Below w.heap.size w w' := by
 obtain ⟨⟨a1, a2⟩, ⟨a3, a4⟩, ⟨a5, a6⟩, ⟨a7, a8⟩, _⟩ := ha
 obtain ⟨⟨b1, b2⟩, ⟨b3, b4⟩, ⟨b5, b6⟩, ⟨b7, b8⟩, _⟩ := hb
 unfold Yj
 go_enter Tryz.func188, Tryz.ntmps188
 by_cases h1 : a.row < b.row + b.rows
 ·
  by_cases h2 : b.row < a.row + a.rows
  ·
   by_cases h3 : a.col < b.col + b.cols
   · by_cases h4 : b.col < a.col + a.cols
     all_goals go_wp2_with fail
     all_goals go_ret
     all_goals exact ⟨by first | (simp [*]; done) | (simp [*]; omega), Zc (Zc (Zf _) _) _⟩
   go_wp2_with fail
   go_ret
   exact ⟨by first | (simp [*]; done) | (simp [*]; omega), Zc (Zc (Zf _) _) _⟩
  go_wp2_with fail
  go_ret
  exact ⟨by first | (simp [*]; done) | (simp [*]; omega), Zc (Zc (Zf _) _) _⟩
 go_wp2_with fail
 go_ret
 exact ⟨by first | (simp [*]; done) | (simp [*]; omega), Zc (Zc (Zf _) _) _⟩
theorem Zj6 (a b : Zl) : Yj a b = Yj b a := by
 unfold Yj; rw [Bool.eq_iff_iff]; simp only [Bool.and_eq_true, decide_eq_true_eq]
 constructor <;> rintro ⟨⟨⟨h1, h2⟩, h3⟩, h4⟩ <;> exact ⟨⟨⟨h2, h1⟩, h4⟩, h3⟩
theorem Zp2 (t : Tbl) (A : Option Addr) (c : Nat) (A' : Option Addr) (c' : Nat) (r : Int) (w : World) (hl : t.rows.length ≤ 1000000) (hf : SmZ t.foot) :
 Calls Tryz.prog 87 #[.agg #[.slice A t.cols.length c, .int .i64 t.head, .int .i64 t.foot, .slice A' t.rows.length c', .int .i64 t.gap], .int .i64 r] w fun e w' => e = .returned (.int .i64 (Zgu t r)) ∧ w' = w.alloc (.cells #[.slice A t.cols.length c, .int .i64 t.head, .int .i64 t.foot, .slice A' t.rows.length c', .int .i64 t.gap] 26) := by
 obtain ⟨f1, f2⟩ := hf
 unfold Zgu
 go_enter Tryz.func87, Tryz.ntmps87
 by_cases h1 : r < t.head
 · rw [if_pos h1]
   go_wp2_with fail
   go_ret
   exact ⟨rfl, rfl⟩
 rw [if_neg h1]
 by_cases h2 : (t.rows.length : Int) - t.foot ≤ r
 · rw [if_pos h2]
   go_wp2_with fail
   go_ret
   exact ⟨rfl, rfl⟩
 rw [if_neg h2]
 go_wp2_with fail
 go_ret
 exact ⟨rfl, rfl⟩
def Zs4 {α : Type} (P : Program) (g : Nat) (v : Value) (d : Rep α) (p : α → Bool) (w : World) : Prop :=
 ∀ (W : World) (x : α) (cs : List Value), Below w.heap.size w W → d.K W x cs → Calls P g #[v, agg cs] W fun e w' => e = .returned (.bool (p x)) ∧ Below W.heap.size W w'
variable {α : Type}
theorem Zms (d : Rep α) (hsz : d.sz = 5) (p : α → Bool) (g : Nat) (v : Value) (eg : ∀ args w, (callFunc g args).run Tryz.prog w = .ok (.enter g args) w) (A : Option Addr) (c : Nat) (xs : List α) (w : World)
 (hp : Zs4 Tryz.prog g v d p w) (hr : Rd d w A xs) :
 Calls Tryz.prog 98 #[.slice A xs.length c, .func (.func g) #[v] #[]] w fun e w' => e = .returned (.int .i64 (Zjy p xs)) ∧ Below w.heap.size w w' := by
 have hl := hr.1
 go_enter Tryz.func98, Tryz.ntmps98
 go_wp2
 go_loopg [5, 8] xs.length (fun gg _ s8 wr => ∃ kk : Nat, kk ≤ xs.length ∧ xs.length - kk ≤ gg ∧ s8 = .int .i64 kk ∧ Aside (Below w.heap.size w wr) ∧ Aside (∀ j (h : j < xs.length), j < kk → p xs[j] = false))
 case atStart => exact ⟨0, Nat.zero_le _, by omega, rfl, Below.refl _ w, fun j _ hj => absurd hj (Nat.not_lt_zero _)⟩
 obtain ⟨kk, hkk, hg, rfl, BW, AA⟩ := hrel
 by_cases hlt : kk < xs.length
 ·
  have hltz : (kk : Int) < (xs.length : Int) := by omega
  obtain ⟨b, o, c0, c1, c2, c3, c4, rfl, hblt, hK, h0, h1, h2, h3, h4⟩ := hr.at5 hsz BW.out kk hlt
  have hcall := hp wr _ _ BW.out hK
  clear hp hr
  cases hq : p xs[kk] with
  | true =>
   rw [hq] at hcall
   have Hq := Za hq; clear hq
   go_wp2_with (go_at_fn g; refine hcall.mono ?_; rintro e w' ⟨rfl, hb'⟩)
   go_ret
   exact ⟨by rw [Zfj p xs kk hlt Hq.out AA.out]; rfl, step BW.out hb'⟩
  | false =>
   rw [hq] at hcall
   have Hq := Za hq; clear hq
   go_wp2_with (go_at_fn g; refine hcall.mono ?_; rintro e w' ⟨rfl, hb'⟩)
   go_roundg (xs.length - (kk + 1))
   case measure => omega
   refine ⟨kk + 1, by omega, by omega, by go_num, step BW.out hb', (show Aside _ from fun j hj hjk => ?_)⟩
   by_cases e : j = kk
   · subst e; exact Hq.out
   exact AA.out j hj (by omega)
 have hltz : ¬ (kk : Int) < (xs.length : Int) := by omega
 have hkl : kk = xs.length := by omega
 have HK := Za hkl; clear hkl
 go_wp2
 go_ret
 exact ⟨by rw [Zep p xs (fun j h _ => AA.out j h (by have := HK.out; omega))]; rfl, BW.out⟩
theorem Zg5 (d : Rep α) (hsz : d.sz = 5) (p : α → Bool) (g : Nat) (v : Value) (eg : ∀ args w, (callFunc g args).run Tryz.prog w = .ok (.enter g args) w) (A : Option Addr) (c : Nat) (xs : List α) (w : World)
 (hp : Zs4 Tryz.prog g v d p w) (hr : Rd d w A xs) :
 Calls Tryz.prog 88 #[.slice A xs.length c, .func (.func g) #[v] #[]] w fun e w' => e = .returned (.bool (xs.any p)) ∧ Below w.heap.size w w' := by
 rw [← Zff p xs]
 go_enter Tryz.func88, Tryz.ntmps88
 go_wp2_with (go_at_call 98; refine (Zms d hsz p g v eg A c xs w hp hr).mono ?_; rintro e w' ⟨rfl, hb'⟩)
 go_ret
 exact ⟨rfl, hb'⟩
theorem Zir (a : Zl) (w : World) (ha : GSm a) : Zs4 Tryz.prog 89 (.agg #[.int .i64 a.row, .int .i64 a.col, .int .i64 a.rows, .int .i64 a.cols, .int .i64 a.inn]) gcR (Yj a) w := by
 rintro W x cs _ ⟨rfl, hx⟩
 exact Zp3 a x W ha hx
theorem Zmk {L : List Zl} {p : Zl → Bool} {k : Nat} (h : k < L.length) (hp : p L[k] = true) : L.any p = true := List.any_eq_true.2 ⟨_, List.getElem_mem h, hp⟩
theorem Ztd {L : List Zl} {p : Zl → Bool} (h : ∀ j (hj : j < L.length), p L[j] = false) : L.any p = false := by
 rw [Bool.eq_false_iff]
 intro hn
 obtain ⟨x, hx, hp⟩ := List.any_eq_true.1 hn
 obtain ⟨j, hj, rfl⟩ := List.mem_iff_getElem.1 hx
 rw [h j hj] at hp; cases hp
theorem Zse (L : List Zl) (A : Option Addr) (c : Nat) (a : Zl) (w : World) (hr : Rd gcR w A L) (ha : GSm a) :
 Calls Tryz.prog 134 #[.slice A L.length c, .agg #[.int .i64 a.row, .int .i64 a.col, .int .i64 a.rows, .int .i64 a.cols, .int .i64 a.inn]] w fun e w' => e = .returned (.bool (!L.any (Yj a))) ∧ Below w.heap.size w w' := by
 have hl := hr.1
 go_enter Tryz.func134, Tryz.ntmps134
 go_wp2
 go_loopg [5] L.length (fun gg s5 wr => ∃ kk : Nat, kk ≤ L.length ∧ L.length - kk ≤ gg ∧ s5 = .int .i64 kk ∧ Aside (Below w.heap.size w wr) ∧ Aside (∀ j (h : j < L.length), j < kk → Yj a L[j] = false) ∧
  wr.cell? ⟨w.heap.size, 0, none⟩ = some (.int .i64 a.row) ∧ wr.cell? ⟨w.heap.size, 1, none⟩ = some (.int .i64 a.col) ∧ wr.cell? ⟨w.heap.size, 2, none⟩ = some (.int .i64 a.rows) ∧ wr.cell? ⟨w.heap.size, 3, none⟩ = some (.int .i64 a.cols) ∧ wr.cell? ⟨w.heap.size, 4, none⟩ = some (.int .i64 a.inn) ∧ w.heap.size < wr.heap.size)
 case atStart => exact ⟨0, Nat.zero_le _, by omega, rfl, Zc (Zf w) _, fun j _ hj => absurd hj (Nat.not_lt_zero _), by simp, by simp, by simp, by simp, by simp, by simp⟩
 obtain ⟨kk, hkk, hg, rfl, BW, AA, g0, g1, g2, g3, g4, gl⟩ := hrel
 by_cases hlt : kk < L.length
 ·
  have hltz : (kk : Int) < (L.length : Int) := by omega
  obtain ⟨b, o, c0, c1, c2, c3, c4, rfl, hblt, hK, h0, h1, h2, h3, h4⟩ := hr.at5 rfl BW.out kk hlt
  obtain ⟨hK1, hK2⟩ := hK
  have hcall := fun (W : World) => Zoy L[kk] a W hK2 ha
  simp only [gcE, List.cons.injEq, and_true] at hK1
  obtain ⟨rfl, rfl, rfl, rfl, rfl⟩ := hK1
  rw [Zj6] at hcall
  clear hr
  cases hq : Yj a L[kk] with
  | true =>
   rw [hq] at hcall
   have Hq := Za hq; clear hq
   go_wp2_with fail
   go_still_tail 5, (by kernel_rfl)
   go_wp2_with fail
   refine (hcall _).mono ?_
   rintro e w' ⟨rfl, hb'⟩
   go_wp2_with fail
   go_ret
   exact ⟨by rw [Zmk hlt Hq.out]; rfl, step (Zt BW.out) hb'⟩
  | false =>
   rw [hq] at hcall
   have Hq := Za hq; clear hq
   go_wp2_with fail
   go_still_tail 5, (by kernel_rfl)
   go_wp2_with fail
   refine (hcall _).mono ?_
   rintro e w' ⟨rfl, hb'⟩
   obtain ⟨k0, l0, s0⟩ := Jc w.heap.size (by simpa using gl) hb'
   go_wp2_with fail
   go_roundg (L.length - (kk + 1))
   case measure => omega
   refine ⟨kk + 1, by omega, by omega, by go_num, step (Zt BW.out) hb', (show Aside _ from fun j hj hjk => ?_), by simp [*], by simp [*], by simp [*], by simp [*], by simp [*], s0⟩
   by_cases e : j = kk
   · subst e; exact Hq.out
   exact AA.out j hj (by omega)
 have hltz : ¬ (kk : Int) < (L.length : Int) := by omega
 have hkl : kk = L.length := by omega
 have HK := Za hkl; clear hkl
 go_wp2
 go_ret
 exact ⟨by rw [Ztd (fun j h => AA.out j h (by have := HK.out; omega))]; rfl, BW.out⟩
end Go.Proofs.YtgdmcmicfoamlaaGreatDoor
namespace Go.Proofs.YtgdmcmicfoamlaaGreatDoor
open Go.RowKit
theorem Zqz {L : List Zl} {c : Zl} {B : Nat} (hB : ∀ k : Nat, L.any (Yj (Zba c k)) = true → k < B) : ∀ (m k : Nat), Zv L c m k ≤ max k B
 | 0, k => by simp [Zv]; omega
 | m + 1, k => by
  unfold Zv
  split
  · rename_i h
    have := Zqz hB m (k + 1)
    have := hB k h
    omega
  omega
theorem Zoh {L : List Zl} {c : Zl} {m k : Nat} (h : L.any (Yj (Zba c k)) = true) : Zv L c (m + 1) k = Zv L c m (k + 1) := by rw [Zv, if_pos h]
theorem Zl3 {L : List Zl} {c : Zl} {k : Nat} (h : L.any (Yj (Zba c k)) = false) : ∀ m, Zv L c m k = k
 | 0 => rfl
 | m + 1 => by rw [Zv, if_neg (by simp [h])]
def GIn (n : Nat) (S : List Zl × Int) : Prop :=
 S.1.length ≤ n ∧ (∀ x ∈ S.1, (0 ≤ x.row ∧ x.row ≤ 8) ∧ (0 ≤ x.col ∧ x.col + x.cols ≤ 4 * n) ∧ (-8 ≤ x.rows ∧ x.rows ≤ 8) ∧ (1 ≤ x.cols ∧ x.cols ≤ 4) ∧ (0 ≤ x.inn ∧ x.inn ≤ 8)) ∧ 1 ≤ S.2 ∧ S.2 ≤ 8 + 4 * n
theorem GIn.sm {n : Nat} {S : List Zl × Int} (h : GIn n S) (hn : n ≤ 1000) : ∀ x ∈ S.1, GSm x := by
 intro x hx
 obtain ⟨⟨a1, a2⟩, ⟨a3, a4⟩, ⟨a5, a6⟩, ⟨a7, a8⟩, a9, a10⟩ := h.2.1 x hx
 refine ⟨?_, ?_, ?_, ?_, ?_⟩ <;> constructor <;> omega
theorem GIn.le {n n' : Nat} {S : List Zl × Int} (h : GIn n S) (hn : n ≤ n') : GIn n' S := by
 refine ⟨by have := h.1; omega, fun x hx => ?_, h.2.2.1, by have := h.2.2.2; omega⟩
 obtain ⟨b1, ⟨b2, b3⟩, b4⟩ := h.2.1 x hx
 exact ⟨b1, ⟨b2, by omega⟩, b4⟩
theorem GIn.blocked {n : Nat} {S : List Zl × Int} (h : GIn n S) (c : Zl) (k : Nat) (hb : S.1.any (Yj (Zba c k)) = true) : k < 4 * n := by
 obtain ⟨x, hx, hm⟩ := List.any_eq_true.1 hb
 have := (h.2.1 x hx).2.1.2
 unfold Yj at hm
 rw [Bool.and_eq_true, Bool.and_eq_true] at hm
 have h2 := of_decide_eq_true hm.1.2
 simp only [Zba] at h2
 omega
theorem GIn.free {n : Nat} {S : List Zl × Int} (h : GIn n S) (c : Zl) (m : Nat) : Zv S.1 c m 0 ≤ 4 * n := by
 have := Zqz (fun k hk => h.blocked c k hk) m 0
 omega
theorem GIn.step {n : Nat} {S : List Zl × Int} (h : GIn n S) (m : Nat) (t : Tbl) (r i : Nat) (x : Qi) (hr : r ≤ 8) (hi : i ≤ 8) (hc : 1 ≤ x.c ∧ x.c ≤ 4) (hs : -8 ≤ (Jp t r i x).rows ∧ (Jp t r i x).rows ≤ 8) :
 GIn (n + 1) (Zai m t r i x S) := by
 have hk := h.free (Jp t r i x) m
 unfold Zai
 generalize Zv S.1 (Jp t r i x) m 0 = K at hk ⊢
 dsimp only
 refine ⟨by simp only [List.length_append, List.length_singleton]; have := h.1; omega, ?_, ?_, ?_⟩
 ·
  intro y hy
  simp only [List.mem_append, List.mem_singleton] at hy
  rcases hy with hy | rfl
  · obtain ⟨b1, ⟨b2, b3⟩, b4⟩ := h.2.1 y hy
    exact ⟨b1, ⟨b2, by omega⟩, b4⟩
  refine ⟨⟨?_, ?_⟩, ⟨?_, ?_⟩, hs, ?_, ?_, ?_⟩ <;> simp only [Zba, Jp] <;> omega
 · have := h.2.2.1; omega
 have := h.2.2.2; omega
theorem GIn.zero (t : Tbl) (h : t.cols.length ≤ 8) : GIn 0 (Zad t) := ⟨by simp [Zad], by simp [Zad], by simp only [Zad]; omega, by simp only [Zad]; omega⟩
theorem Zo3 {w w1 : World} {row : Option Nat} (hg : w.grownBy w1 row) (k : Nat) (hk : k < w.heap.size) (hne : row ≠ some k) :
 (∀ i, w1.cell? ⟨k, i, none⟩ = w.cell? ⟨k, i, none⟩) ∧ (∀ i, w1.frozen? ⟨k, i, none⟩ = w.frozen? ⟨k, i, none⟩) ∧ k < w1.heap.size := by
 have h := hg.block k hk (fun e => hne e.symm)
 exact ⟨fun i => World.cell?_of_block h, fun i => World.frozen?_of_block h, Nat.lt_of_lt_of_le hk hg.size⟩
theorem Qg {w w1 : World} {row : Option Nat} {B : Nat} (hg : w.grownBy w1 row) (hB : B ≤ w.heap.size) (hne : ∀ k, row = some k → B ≤ k) : Below B w w1 :=
 ⟨hg.os, hg.tape, hg.output, hg.size, fun k hk => hg.block k (by omega) (fun e => by have := hne k e.symm; omega)⟩
theorem Zx {t : Tbl} (h : Qn t = true) : (1 ≤ t.rows.length ∧ t.rows.length ≤ 8) ∧ t.cols.length ≤ 8 ∧ (0 ≤ t.gap ∧ t.gap ≤ 3) ∧ (0 ≤ t.head ∧ t.head ≤ t.rows.length) ∧ (0 ≤ t.foot ∧ t.foot ≤ t.rows.length - t.head) ∧
 (∀ x ∈ t.cols, Zck x = true) ∧ (∀ y ∈ t.rows, y.cs.length ≤ 5 ∧ ∀ x ∈ y.cs, Zax x = true) := by
 simp only [Qn, inB, Bool.and_eq_true, decide_eq_true_eq, List.all_eq_true] at h
 obtain ⟨⟨h1, h2⟩, h3, ⟨h4, h5⟩, ⟨h6, h7⟩, ⟨h8, h9⟩, h10, h11⟩ := h
 refine ⟨by omega, by omega, ⟨h4, h5⟩, ⟨h6, h7⟩, ⟨h8, h9⟩, h10, fun y hy => ?_⟩
 obtain ⟨k1, k2⟩ := h11 y hy
 exact ⟨by omega, k2⟩
theorem Zag {x : Qi} (h : Zax x = true) : (1 ≤ x.c ∧ x.c ≤ 4) ∧ (1 ≤ x.r ∧ x.r ≤ 4) := by
 simp only [Zax, inB, Bool.and_eq_true, decide_eq_true_eq] at h
 exact ⟨h.2.1, h.2.2.1⟩
theorem Ze9 {t : Tbl} (h : Qn t = true) {r : Nat} (hr : r < t.rows.length) : (r : Int) < Ja t r ∧ Ja t r ≤ 8 := by
 obtain ⟨⟨_, h1⟩, _, _, ⟨h3, h4⟩, ⟨h5, h6⟩, _⟩ := Zx h
 unfold Ja
 split
 · omega
 split <;> omega
theorem Zc2 {t : Tbl} (h : Qn t = true) {r : Nat} (hr : r < t.rows.length) (i : Nat) (x : Qi) (hx : 1 ≤ x.r ∧ x.r ≤ 4) : 1 ≤ (Jp t r i x).rows ∧ (Jp t r i x).rows ≤ 8 := by
 have := Ze9 h hr
 simp only [Jp]
 omega
theorem Zhy {f : World → Prop} {W : World} (h : ∀ wy, wy = W → f wy) : f W := h W rfl
theorem Zo {w w1 : World} (hb : Below w.heap.size w w1) {p : Addr} {v : Value} (h : w.cell? p = some v) : w1.cell? p = some v := (hb.cell (World.block_lt_of_cell? w _ h)).trans h
theorem Zeq {w w1 : World} (hb : Below w.heap.size w w1) {k : Nat} (hk : k < w.heap.size) (h : ∀ i, w.frozen? ⟨k, i, none⟩ = false) : ∀ i, w1.frozen? ⟨k, i, none⟩ = false := fun i => ((Jc k hk hb).2.1 i).trans (h i)
theorem Zdc (ats : Array TypeId) (ty : TypeId) (k k' : IntKind) (x y : Int) : Builtin.max_ ats ty #[.int k x, .int k' y] = pure (.int k (max x y)) := by
 simp only [Builtin.max_, List.foldlM_cons, List.foldlM_nil, Builtin.max2, gt_iff_lt]
 have : (if x < y then y else x) = max x y := by split <;> omega
 rw [this]; rfl
theorem Zus (ats : Array TypeId) (ty : TypeId) (k k' : IntKind) (x y : Int) : Builtin.min_ ats ty #[.int k x, .int k' y] = pure (.int k (min x y)) := by
 simp only [Builtin.min_, List.foldlM_cons, List.foldlM_nil, Builtin.min2]
 have : (if y < x then y else x) = min x y := by split <;> omega
 rw [this]; rfl
theorem Zg8 {w w2 : World} {o : Obj} {v : Value} (hg : (w.alloc o).grownBy w2 v.ownBlock) (b : Nat) (hb : b < w.heap.size) (hne : v.ownBlock ≠ some b) :
 (∀ i, w2.cell? ⟨b, i, none⟩ = w.cell? ⟨b, i, none⟩) ∧ (∀ i, w2.frozen? ⟨b, i, none⟩ = w.frozen? ⟨b, i, none⟩) ∧ b < w2.heap.size := by
 have hs : b < (w.alloc o).heap.size := by simp; omega
 obtain ⟨h1, h2, h3⟩ := Zo3 hg b hs hne
 obtain ⟨k1, k2, _⟩ := Jc b hb (Zc (Zf w) o)
 exact ⟨fun i => (h1 i).trans (k1 i), fun i => (h2 i).trans (k2 i), h3⟩
theorem Zfy {w0 w w2 : World} {o : Obj} {v : Value} {base E k n : Nat} {xs : List Value} (hB : Below w0.heap.size w0 w) (ho : w.ownsRow base E k v n xs) (hbase : w0.heap.size ≤ base) (hg : (w.alloc o).grownBy w2 v.ownBlock) : Below w0.heap.size w0 w2 :=
 (Zc hB o).trans (Qg hg (by have := hB.size; simp; omega) (fun b hb => by have := (Qo ho hb).1; omega))
theorem Zbc {w : World} {base E k n : Nat} {v : Value} {xs : List Value} (h : w.ownsRow base E k v n xs) : ∃ A c, v = .slice A n c := by
 rcases h.2 with ⟨rfl, rfl⟩ | ⟨g, cap, cur, rfl, _⟩
 · exact ⟨none, 0, rfl⟩
 exact ⟨_, _, rfl⟩
theorem Za9 {w : World} {base E k n : Nat} {v : Value} {xs : List Value} (h : w.ownsRow base E k v n xs) {a : Addr} (ha : a.block < base) (u : Value) : (w.setCell a u).ownsRow base E k v n xs :=
 Jl h fun b hb => Zak w a u b (by have := (Qo h hb).1; omega)
theorem Zaa {w : World} {a b : Addr} {u v : Value} (h : w.cell? b = some v) (hne : a ≠ b) : (w.setCell a u).cell? b = some v := by rw [World.cell?_setCell_other (h := hne)]; exact h
theorem Zii {w : World} {a : Addr} {u v : Value} (h : w.cell? a = some u) : (w.setCell a v).cell? a = some v := by rw [World.cell?_setCell_same (h := h)]
theorem Zi6 {w : World} {a : Addr} {u : Value} {b : Nat} (h : ∀ i, w.frozen? ⟨b, i, none⟩ = false) : ∀ i, (w.setCell a u).frozen? ⟨b, i, none⟩ = false := fun i => by rw [World.frozen?_setCell]; exact h i
theorem Zdv {m : Nat} {t : Tbl} {r i q : Nat} {x : Qi} {S : List Zl × Int} (hk : Zv S.1 (Jp t r i x) m 0 = q) :
 (Zai m t r i x S).1 = S.1 ++ [⟨r, q, min x.r (Ja t r - r), x.c, i⟩] ∧ (Zai m t r i x S).2 = max S.2 (q + x.c) := by
 unfold Zai; rw [hk]; exact ⟨rfl, rfl⟩
theorem Zg4 {m : Nat} {t : Tbl} {r i q : Nat} {x : Qi} {S : List Zl × Int} (hk : Zv S.1 (Jp t r i x) m 0 = q) {w : World} {base E : Nat} {v : Value}
 (h : w.ownsRow base E 5 v (S.1.length + 1) (S.1.flatMap gcE ++ [.int .i64 r, .int .i64 q, .int .i64 (min x.r (Ja t r - r)), .int .i64 x.c, .int .i64 i])) :
 w.ownsRow base E 5 v (Zai m t r i x S).1.length ((Zai m t r i x S).1.flatMap gcE) := by
 rw [(Zdv hk).1]
 simpa [gcE, List.flatMap_append] using h
theorem Zq3 {w : World} {b : Nat} {u0 u1 u2 u3 u4 : Value} (h0 : w.cell? ⟨b, 0, none⟩ = some u0) (h1 : w.cell? ⟨b, 1, none⟩ = some u1) (h2 : w.cell? ⟨b, 2, none⟩ = some u2) (h3 : w.cell? ⟨b, 3, none⟩ = some u3) (h4 : w.cell? ⟨b, 4, none⟩ = some u4) :
 ∀ j u, [u0, u1, u2, u3, u4][j]? = some u → w.cell? ((⟨b, 0, none⟩ : Addr).add j) = some u := by
 intro j u hj
 have hadd : ∀ k, (⟨b, 0, none⟩ : Addr).add k = ⟨b, k, none⟩ := fun k => by rw [Addr.add_lit, Nat.zero_add]
 rw [hadd]
 match j, hj with
 | 0, hj => simp at hj; subst hj; exact h0
 | 1, hj => simp at hj; subst hj; exact h1
 | 2, hj => simp at hj; subst hj; exact h2
 | 3, hj => simp at hj; subst hj; exact h3
 | 4, hj => simp at hj; subst hj; exact h4
theorem Zql (k : IntKind) (a b c d e : Int) : ∀ u ∈ [Value.int k a, .int k b, .int k c, .int k d, .int k e], u.oneCell' = true := by
 intro u hu
 simp only [List.mem_cons, List.not_mem_nil, or_false] at hu
 rcases hu with rfl|rfl|rfl|rfl|rfl <;> rfl
theorem Zqv : (Tryz.prog.info? 43).map (fun i => (i.zero, i.size, i.bytes)) = some (some (.agg #[.int .i64 0, .int .i64 0, .int .i64 0, .int .i64 0, .int .i64 0]), 5, 40) := by kernel_rfl
theorem Zur : Tryz.prog.underlying 37 = some (.slice 43) := by kernel_rfl
theorem Zde {P : Program} {t e : TypeId} {z : Value} {k bytes : Nat} (ht : P.underlying t = some (.slice e)) (hinfo : (P.info? e).map (fun i => (i.zero, i.size, i.bytes)) = some (some z, k, bytes)) (n : Nat) (hn : bytes * n ≤ 281474976710656) (hm : n ≤ 9223372036854775807) :
 ∀ W : World, (Instr.makeSlice t (.int .i64 (n : Int)) (.int .i64 (n : Int))).run P W = .ok (.slice (some ⟨W.heap.size, 0, none⟩) n n) (W.alloc (.cells (madeCells z.cells (n * k)) e)) := by
 obtain ⟨i0, hi, hzz⟩ := Option.map_eq_some_iff.1 hinfo
 simp only [Prod.mk.injEq] at hzz
 obtain ⟨hz, rfl, rfl⟩ := hzz
 intro W
 have hb : (i0.bytes : Int) * (n : Int) ≤ 281474976710656 := by
  have h : ((i0.bytes * n : Nat) : Int) ≤ 281474976710656 := by omega
  rwa [Int.natCast_mul] at h
 have := run_make (P := P) W t e i0 z ht hi hz .i64 .i64 n n (by omega) (Int.le_refl _) hb (by omega)
 simpa using this
theorem Zol (W : World) (base : Nat) (z : Array Value) (k n : Nat) (e : TypeId) (hb : base ≤ W.heap.size) (hm : n ≤ 9223372036854775807) :
 (W.alloc (.cells (madeCells z (n * k)) e)).ownsRow base e k (.slice (some ⟨W.heap.size, 0, none⟩) n n) n (madeCells z (n * k)).toList :=
 World.ownsRow_lit W _ n hb (by simpa [maxLen] using hm) (size_madeCells _ _)
theorem Zbt {w : World} {base : Nat} {E : TypeId} {k n : Nat} {v : Value} {xs : List Value} (h : w.ownsRow base E k v n xs) {p : Addr} (hp : p.block < base) (u : Value) : (w.setCell p u).ownsRow base E k v n xs :=
 Jl h fun b e => Zak w p u b (by have := (Qo h e).1; omega)
theorem Zcs {w : World} {base : Nat} {E : TypeId} {k n : Nat} {v : Value} {xs : List Value} (h : w.ownsRow base E k v n xs) (o : Obj) : (w.alloc o).ownsRow base E k v n xs := Qx h (Zc (Zf _) o)
theorem Qu.mono {w : World} {base base' : Nat} {E F : TypeId} {v : Value} {rows : List Jv} (h : Qu w base E F v rows) (hb : base' ≤ base) : Qu w base' E F v rows := by
 obtain ⟨vs, h1, h2, h3⟩ := h
 exact ⟨vs, Jw h1 hb, ⟨h2.1, fun j a b => Jw (h2.2.1 j a b) hb, h2.2.2⟩, h3⟩
theorem Qu.set {w : World} {base : Nat} {E F : TypeId} {v : Value} {rows : List Jv} (h : Qu w base E F v rows) {p : Addr} (hp : p.block < base) (u : Value) : Qu (w.setCell p u) base E F v rows := by
 obtain ⟨vs, h1, h2, h3⟩ := h
 exact ⟨vs, Zbt h1 hp u, h2.keep fun b hb _ => Zak w p u b (by omega), h3⟩
theorem Zrj {w : World} {base E k n : Nat} {v : Value} {xs : List Value} (h : w.ownsRow base E k v n xs) : ∃ A c, v = .slice A n c := by
 rcases h.2 with ⟨rfl, rfl⟩ | ⟨g, cap, cur, rfl, _⟩
 · exact ⟨none, 0, rfl⟩
 exact ⟨_, _, rfl⟩
def Own (w : World) (lo hi : Nat) (E : TypeId) (k : Nat) (v : Value) (n : Nat) (xs : List Value) : Prop :=
 (n = 0 ∧ xs = [] ∧ ∃ A c, v = .slice A 0 c) ∨ (0 < n ∧ ∃ g c, v = .slice (some ⟨g, 0, none⟩) n c ∧ lo ≤ g ∧ g < hi ∧ w.ownsRow lo E k v n xs)
theorem Own.form {w : World} {lo hi : Nat} {E : TypeId} {k : Nat} {v : Value} {n : Nat} {xs : List Value} (h : Own w lo hi E k v n xs) : ∃ A c, v = .slice A n c := by
 rcases h with ⟨rfl, _, A, c, rfl⟩ | ⟨_, g, c, rfl, _⟩
 · exact ⟨A, c, rfl⟩
 exact ⟨_, c, rfl⟩
theorem Own.keep {w w' : World} {lo hi : Nat} {E : TypeId} {k : Nat} {v : Value} {n : Nat} {xs : List Value} (h : Own w lo hi E k v n xs) (hk : ∀ b, lo ≤ b → b < hi → w'.heap[b]? = w.heap[b]?) : Own w' lo hi E k v n xs := by
 rcases h with h | ⟨hn, g, c, rfl, h1, h2, h3⟩
 · exact .inl h
 exact .inr ⟨hn, g, c, rfl, h1, h2, Jl h3 fun b e => by
  have : g = b := by simpa [Value.ownBlock] using e
  subst this; exact hk g h1 h2⟩
theorem Own.of {w : World} {lo hi : Nat} {E : TypeId} {k : Nat} {v : Value} {n : Nat} {xs : List Value} (h : w.ownsRow lo E k v n xs) (hh : w.heap.size ≤ hi) : Own w lo hi E k v n xs := by
 rcases Nat.eq_zero_or_pos n with rfl | hn
 · left
   refine ⟨rfl, List.eq_nil_of_length_eq_zero (by rw [h.1]; simp), ?_⟩
   exact Zrj h
 right
 rcases h.2 with ⟨_, h0⟩ | ⟨g, cap, cur, rfl, r⟩
 · omega
 have := Qo h (b := g) rfl
 exact ⟨hn, g, cap, rfl, this.1, by omega, h⟩
theorem Own.mono {w : World} {lo hi lo' hi' : Nat} {E : TypeId} {k : Nat} {v : Value} {n : Nat} {xs : List Value} (h : Own w lo hi E k v n xs) (hl : lo' ≤ lo) (hh : hi ≤ hi') : Own w lo' hi' E k v n xs := by
 rcases h with h | ⟨hn, g, c, rfl, h1, h2, h3⟩
 · exact .inl h
 exact .inr ⟨hn, g, c, rfl, by omega, by omega, Jw h3 hl⟩
end Go.Proofs.YtgdmcmicfoamlaaGreatDoor
namespace Go.Proofs.YtgdmcmicfoamlaaGreatDoor
open Go.RowKit Go.WideShapes Go.ChangeShapes
section
variable {H : Type} {enc : TypeId × Value → H} {w : World} {base : Nat} {spare : Nat → Bool} {held : Bool} {fuel : Nat}
theorem Zs9 {w : World} {a : Addr} {v : Value} (h : w.cell? a = some v) : a.spot = none := by
 simp only [World.cell?] at h
 split at h
 · split at h
   · cases h
   rename_i h1; simpa using h1
 cases h
theorem Zrv (b o i : Nat) : (⟨b, o, none⟩ : Addr).add i = ⟨b, o + i, none⟩ := by
 unfold Addr.add; split <;> simp_all
theorem Zh1 {α : Type} {d d' : Rep α} {w : World} {A : Option Addr} {xs : List α} (hz : d'.sz = d.sz) (hk : ∀ x ∈ xs, ∀ cs, d.K w x cs → d'.K w x cs) (h : Rd d w A xs) : Rd d' w A xs :=
 ⟨h.1, fun hn => by
  obtain ⟨b, o, e, hlt, hc⟩ := h.2 hn
  refine ⟨b, o, e, hlt, fun j hj => ?_⟩
  obtain ⟨cs, hK, hcell⟩ := hc j hj
  rw [hz]
  exact ⟨cs, hk _ (List.getElem_mem hj) cs hK, hcell⟩⟩
end
end Go.Proofs.YtgdmcmicfoamlaaGreatDoor
