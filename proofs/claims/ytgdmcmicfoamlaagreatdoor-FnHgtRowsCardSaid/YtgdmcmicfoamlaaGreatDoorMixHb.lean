import Derived.Test.YtgdmcmicfoamlaaGreatDoorMixTk
set_option linter.unusedVariables false
set_option linter.unusedSimpArgs false
set_option maxHeartbeats 400000
set_option maxRecDepth 100000
namespace Go.Proofs.YtgdmcmicfoamlaaGreatDoor
open Go.RowKit
structure Ym (K : Nat → Value → World → Prop) (n m : Nat) (dep : Nat → List Nat) (pv : Nat → Value) (V : World) (R F : World → Value → World → Prop) (l : Array Bool) (vs : Nat → Value) (W : World) : Prop where
 size : l.size = n
 closed : ∀ j, l.getD j false = true → ∀ e ∈ dep j, l.getD e false = true
 opened : l.getD m false = false → Below V.heap.size V W ∧ ∀ j, j < m → l.getD j false = true → K j (vs j) W
 mid : l.getD m false = true → l.getD (n - 1) false = false → ∃ W1, Below V.heap.size V W1 ∧ (∀ j, j < m → K j (vs j) W1) ∧ R W1 (vs m) W
 done : l.getD (n - 1) false = true → ∃ W1 W2, Below V.heap.size V W1 ∧ (∀ j, j < m → K j (vs j) W1) ∧ R W1 (vs m) W2 ∧ F W2 (vs m) W
 still : ∀ j, m < j → j < n - 1 → l.getD j false = true → vs j = pv j
def Zi4 (n : Nat) (dep : Nat → List Nat) : Prop := ∀ L : Nat → Prop, (∀ j, L j → ∀ e ∈ dep j, L e) → L (n - 1) → ∀ j, j < n → L j
section
variable {K : Nat → Value → World → Prop} {n m : Nat} {dep : Nat → List Nat} {pv : Nat → Value} {V : World} {R F : World → Value → World → Prop} {l : Array Bool} {vs : Nat → Value} {W W' : World}
theorem Ym.start (vs : Nat → Value) : Ym K n m dep pv V R F (Array.replicate n false) vs V :=
 ⟨by simp, fun j hj => by simp [Array.getD] at hj, fun _ => ⟨Zf V, fun j _ hj => by simp [Array.getD] at hj⟩, fun h => by simp [Array.getD] at h, fun h => by simp [Array.getD] at h, fun j _ _ hj => by simp [Array.getD] at hj⟩
theorem Ym.isopen (h : Ym K n m dep pv V R F l vs W) (hL : Yt n m dep) {i : Nat} (hi : i < n) (him : i ≤ m) (hl : l.getD i true = false) : l.getD m false = false := by
 cases h9 : l.getD m false with
 | false => rfl
 | true =>
  have hm : m < n := by have := Zap h9; rw [h.size] at this; exact this
  rcases Nat.lt_or_eq_of_le him with hlt | rfl
  · have := hL (fun j => l.getD j false = true) h.closed hm h9 i hlt
    rw [Qa (by rw [h.size]; exact hi) false true, hl] at this
    cases this
  rw [Qa (by rw [h.size]; exact hi) false true, hl] at h9; cases h9
theorem Ym.nolast (h : Ym K n m dep pv V R F l vs W) (hQ : Zi4 n dep) {i : Nat} (hi : i < n) (hl : l.getD i true = false) : l.getD (n - 1) false = false := by
 cases h9 : l.getD (n - 1) false with
 | false => rfl
 | true =>
  have := hQ (fun j => l.getD j false = true) h.closed h9 i hi
  rw [Qa (by rw [h.size]; exact hi) false true, hl] at this
  cases this
theorem Ym.get (h : Ym K n m dep pv V R F l vs W) (hL : Yt n m dep) {i : Nat} (hi : i < n) (him : i ≤ m) (hl : l.getD i true = false) (j : Nat) (hjm : j < m) (hj : l.getD j false = true) : K j (vs j) W := (h.opened (h.isopen hL hi him hl)).2 j hjm hj
theorem Ym.below (h : Ym K n m dep pv V R F l vs W) (hL : Yt n m dep) {i : Nat} (hi : i < n) (him : i ≤ m) (hl : l.getD i true = false) : Below V.heap.size V W := (h.opened (h.isopen hL hi him hl)).1
theorem Ym.closed_set (h : Ym K n m dep pv V R F l vs W) (i : Nat) (hd : ∀ e ∈ dep i, l.getD e false = true) (hi : i < n) :
 ∀ j, (l.setIfInBounds i true).getD j false = true → ∀ e ∈ dep j, (l.setIfInBounds i true).getD e false = true := by
 intro j hj e he
 have hup : l.getD e false = true → (l.setIfInBounds i true).getD e false = true := fun h0 => by
  by_cases e1 : e = i
  · subst e1; simp [Array.getD, h.size, hi]
  rw [getD_set_ne false (Ne.symm e1)]; exact h0
 by_cases e2 : j = i
 · subst e2; exact hup (hd e he)
 rw [getD_set_ne false (Ne.symm e2)] at hj
 exact hup (h.closed j hj e he)
theorem Ym.next (h : Ym K n m dep pv V R F l vs W) (hL : Yt n m dep) (hQ : Zi4 n dep) (hS : Yw K) (i : Nat) (hi : i < n) (him : i < m) (hmn : m < n - 1) (hl : l.getD i true = false) (v : Value) (hd : ∀ e ∈ dep i, l.getD e false = true) (hb : Below W.heap.size W W') (hk : K i v W') :
 Ym K n m dep pv V R F (l.setIfInBounds i true) (Zd vs i v) W' := by
 have ho := h.isopen hL hi (Nat.le_of_lt him) hl
 have hn := h.nolast hQ hi hl
 obtain ⟨hB, hK⟩ := h.opened ho
 refine ⟨by simpa using h.size, h.closed_set i hd hi, fun _ => ⟨step hB hb, fun j hjm hj => ?_⟩, fun h9 => ?_, fun h9 => ?_, fun j hjm hjn hj => ?_⟩
 ·
  unfold Zd
  by_cases e : j = i
  · subst e; rw [if_pos rfl]; exact hk
  rw [if_neg e]
  rw [getD_set_ne false (Ne.symm e)] at hj
  exact hS j _ _ _ (hK j hjm hj) hb
 · rw [getD_set_ne false (by omega), ho] at h9; cases h9
 · rw [getD_set_ne false (by omega), hn] at h9; cases h9
 unfold Zd
 rw [if_neg (by omega)]
 rw [getD_set_ne false (by omega)] at hj
 exact h.still j hjm hjn hj
theorem Ym.read (h : Ym K n m dep pv V R F l vs W) (hL : Yt n m dep) (hQ : Zi4 n dep) (hS : Yw K) (i : Nat) (hi : i < n) (him : i < m) (hmn : m < n - 1) (hl : l.getD i true = false) (v : Value) (hd : ∀ e ∈ dep i, l.getD e false = true) (hk : K i v W) :
 Ym K n m dep pv V R F (l.setIfInBounds i true) (Zd vs i v) W := h.next hL hQ hS i hi him hmn hl v hd (Zf W) hk
theorem Ym.alone (h : Ym K n m dep pv V R F l vs W) (hQ : Zi4 n dep) (i : Nat) (hi : i < n - 1) (him : m < i) (hl : l.getD i true = false) (v : Value) (hv : v = pv i) (hd : ∀ e ∈ dep i, l.getD e false = true) :
 Ym K n m dep pv V R F (l.setIfInBounds i true) (Zd vs i v) W := by
 have hn := h.nolast hQ (show i < n by omega) hl
 refine ⟨by simpa using h.size, h.closed_set i hd (by omega), fun h9 => ?_, fun h9 h8 => ?_, fun h9 => ?_, fun j hjm hjn hj => ?_⟩
 ·
  rw [getD_set_ne false (by omega)] at h9
  obtain ⟨hB, hK⟩ := h.opened h9
  refine ⟨hB, fun j hjm hj => ?_⟩
  unfold Zd
  rw [if_neg (by omega)]
  rw [getD_set_ne false (by omega)] at hj
  exact hK j hjm hj
 ·
  rw [getD_set_ne false (by omega)] at h9
  obtain ⟨W1, h1, h2, h3⟩ := h.mid h9 hn
  refine ⟨W1, h1, fun j hj => ?_, ?_⟩
  · unfold Zd
    rw [if_neg (by omega)]
    exact h2 j hj
  unfold Zd
  rw [if_neg (by omega)]; exact h3
 · rw [getD_set_ne false (by omega), hn] at h9; cases h9
 unfold Zd
 by_cases e : j = i
 · subst e; rw [if_pos rfl]; exact hv
 rw [if_neg e]
 rw [getD_set_ne false (Ne.symm e)] at hj
 exact h.still j hjm hjn hj
theorem Ym.app (h : Ym K n m dep pv V R F l vs W) (hL : Yt n m dep) (hQ : Zi4 n dep) (hmn : m < n - 1) (hl : l.getD m true = false) (v : Value) (hd : ∀ e ∈ dep m, l.getD e false = true) (hR : R W v W') :
 Ym K n m dep pv V R F (l.setIfInBounds m true) (Zd vs m v) W' := by
 have hi : m < n := by omega
 have ho := h.isopen hL hi (Nat.le_refl m) hl
 have hn := h.nolast hQ hi hl
 obtain ⟨hB, hK⟩ := h.opened ho
 have hin : (l.setIfInBounds m true).getD m false = true := by simp [Array.getD, h.size, hi]
 have hall := hL (fun j => (l.setIfInBounds m true).getD j false = true) (h.closed_set m hd hi) hi hin
 refine ⟨by simpa using h.size, h.closed_set m hd hi, fun h9 => (by rw [hin] at h9; cases h9), fun _ _ => ⟨W, hB, fun j hj => ?_, ?_⟩, fun h9 => ?_, fun j hjm hjn hj => ?_⟩
 ·
  unfold Zd
  rw [if_neg (by omega)]
  have h9 := hall j hj
  rw [getD_set_ne false (by omega)] at h9
  exact hK j hj h9
 · unfold Zd
   rw [if_pos rfl]; exact hR
 · rw [getD_set_ne false (by omega), hn] at h9; cases h9
 unfold Zd
 rw [if_neg (by omega)]
 rw [getD_set_ne false (by omega)] at hj
 exact h.still j hjm hjn hj
theorem Ym.store (h : Ym K n m dep pv V R F l vs W) (hQ : Zi4 n dep) (hmn : m < n - 1) (hl : l.getD (n - 1) true = false) (hlm : l.getD m false = true) (v : Value) (hd : ∀ e ∈ dep (n - 1), l.getD e false = true) (hF : F W (vs m) W') :
 Ym K n m dep pv V R F (l.setIfInBounds (n - 1) true) (Zd vs (n - 1) v) W' := by
 have hi : n - 1 < n := by omega
 have hn := h.nolast hQ hi hl
 obtain ⟨W1, h1, h2, h3⟩ := h.mid hlm hn
 have hin : (l.setIfInBounds (n - 1) true).getD (n - 1) false = true := by simp [Array.getD, h.size, hi]
 refine ⟨by simpa using h.size, h.closed_set (n - 1) hd hi, fun h9 => ?_, fun _ h9 => (by rw [hin] at h9; cases h9), fun _ => ⟨W1, W, h1, fun j hj => ?_, ?_, ?_⟩, fun j hjm hjn hj => ?_⟩
 · rw [getD_set_ne false (by omega), hlm] at h9; cases h9
 · unfold Zd
   rw [if_neg (by omega)]
   exact h2 j hj
 · unfold Zd
   rw [if_neg (by omega)]; exact h3
 · unfold Zd
   rw [if_neg (by omega)]; exact hF
 unfold Zd
 rw [if_neg (by omega)]
 rw [getD_set_ne false (by omega)] at hj
 exact h.still j hjm hjn hj
theorem Ym.fin (h : Ym K n m dep pv V R F l vs W) (hmn : m < n - 1) (hall : ∀ j, j < n → l.getD j true = true) : ∃ W1 W2, Below V.heap.size V W1 ∧ (∀ j, j < m → K j (vs j) W1) ∧ R W1 (vs m) W2 ∧ F W2 (vs m) W := by
 have h9 := hall (n - 1) (by omega)
 rw [Qa (by rw [h.size]; omega) true false] at h9
 exact h.done h9
theorem Ym.at (h : Ym K n m dep pv V R F l vs W) (j : Nat) (hj : m < j) (hjn : j < n - 1) (hl : l.getD j false = true) : vs j = pv j := h.still j hj hjn hl
theorem Ym.held (h : Ym K n m dep pv V R F l vs W) (hmn : m < n - 1) (hl : l.getD (n - 1) true = false) (hQ : Zi4 n dep) (hlm : l.getD m false = true) : ∃ W1, Below V.heap.size V W1 ∧ (∀ j, j < m → K j (vs j) W1) ∧ R W1 (vs m) W :=
 h.mid hlm (h.nolast hQ (by omega) hl)
end
structure Zav (a : Nat) (mk : Nat → Bool) (K : Nat → Value → World → Prop) (n m : Nat) (dep : Nat → List Nat) (V : World) (R : World → Value → World → Prop) (st : Nat → Value) (l : Array Bool) (vs : Nat → Value) (W : World) : Prop where
 mid : Yp K n m dep V R st l vs W
 new : ∀ i j, i < m → j < m → i ≠ j → mk i = true → mk j = true → l.getD i false = true → l.getD j false = true → Za8 (vs i) (vs j)
 tie : l.getD m false = true → a < m → vs m = vs a
def Zwb (mk : Nat → Bool) (K : Nat → Value → World → Prop) : Prop := ∀ j v W, mk j = true → K j v W → ∀ b, v.ownBlock = some b → b < W.heap.size
section
variable {a0 : Nat} {mk : Nat → Bool} {K : Nat → Value → World → Prop} {n m : Nat} {dep : Nat → List Nat} {V : World} {R : World → Value → World → Prop} {st : Nat → Value} {l : Array Bool} {vs : Nat → Value} {W W' : World}
theorem Zav.start : Zav a0 mk K n m dep V R st (Array.replicate n false) st V := ⟨Yp.start, fun i j _ _ _ _ _ h => by simp [Array.getD] at h, fun h => by simp [Array.getD] at h⟩
theorem Zav.below (h : Zav a0 mk K n m dep V R st l vs W) (hL : Yt n m dep) {i : Nat} (hi : i < n) (him : i ≤ m) (hl : l.getD i true = false) : Below V.heap.size V W := h.mid.below hL hi him hl
theorem Zav.get (h : Zav a0 mk K n m dep V R st l vs W) (hL : Yt n m dep) {i : Nat} (hi : i < n) (him : i ≤ m) (hl : l.getD i true = false) (j : Nat) (hjm : j < m) (hj : l.getD j false = true) : K j (vs j) W := h.mid.get hL hi him hl j hjm hj
theorem Zav.next (h : Zav a0 mk K n m dep V R st l vs W) (hL : Yt n m dep) (hS : Yw K) (i : Nat) (hi : i < n) (him : i < m) (hmk : mk i = false) (hl : l.getD i true = false) (v : Value) (hd : ∀ e ∈ dep i, l.getD e false = true) (hb : Below W.heap.size W W') (hk : K i v W') :
 Zav a0 mk K n m dep V R st (l.setIfInBounds i true) (Zd vs i v) W' := by
 refine ⟨h.mid.next hL hS i hi him hl v hd hb hk, fun a b ha hb2 hab m1 m2 l1 l2 => ?_, fun h9 => by rw [getD_set_ne false (by omega), h.mid.isopen hL hi (Nat.le_of_lt him) hl] at h9; cases h9⟩
 have e1 : a ≠ i := by rintro rfl; rw [hmk] at m1; cases m1
 have e2 : b ≠ i := by rintro rfl; rw [hmk] at m2; cases m2
 unfold Zd
 rw [if_neg e1, if_neg e2]
 rw [getD_set_ne false (Ne.symm e1)] at l1
 rw [getD_set_ne false (Ne.symm e2)] at l2
 exact h.new a b ha hb2 hab m1 m2 l1 l2
theorem Zav.nextNew (h : Zav a0 mk K n m dep V R st l vs W) (hL : Yt n m dep) (hS : Yw K) (hW : Zwb mk K) (i : Nat) (hi : i < n) (him : i < m) (hl : l.getD i true = false) (v : Value) (hd : ∀ e ∈ dep i, l.getD e false = true) (hb : Below W.heap.size W W') (hk : K i v W') (hn : ∀ b, v.ownBlock = some b → W.heap.size ≤ b) :
 Zav a0 mk K n m dep V R st (l.setIfInBounds i true) (Zd vs i v) W' := by
 have hold : ∀ j, j < m → mk j = true → l.getD j false = true → Za8 (vs j) v := fun j hj hm hlj b hb1 hb2 => by
  have h1 := hW j (vs j) W hm (h.mid.get hL hi (Nat.le_of_lt him) hl j hj hlj) b hb1
  have h2 := hn b hb2
  omega
 refine ⟨h.mid.next hL hS i hi him hl v hd hb hk, fun a b ha hb2 hab m1 m2 l1 l2 => ?_, fun h9 => by rw [getD_set_ne false (by omega), h.mid.isopen hL hi (Nat.le_of_lt him) hl] at h9; cases h9⟩
 unfold Zd
 by_cases e1 : a = i
 · rw [if_pos e1, if_neg (by omega)]
   rw [getD_set_ne false (by omega)] at l2
   exact fun k hk1 hk2 => hold b hb2 m2 l2 k hk2 hk1
 rw [if_neg e1]
 rw [getD_set_ne false (Ne.symm e1)] at l1
 by_cases e2 : b = i
 · rw [if_pos e2]; exact hold a ha m1 l1
 rw [if_neg e2]
 rw [getD_set_ne false (Ne.symm e2)] at l2
 exact h.new a b ha hb2 hab m1 m2 l1 l2
theorem Zav.still (h : Zav a0 mk K n m dep V R st l vs W) (hL : Yt n m dep) (hS : Yw K) (i : Nat) (hi : i < n) (him : i < m) (hmk : mk i = false) (hl : l.getD i true = false) (v : Value) (hd : ∀ e ∈ dep i, l.getD e false = true) (hk : K i v W) :
 Zav a0 mk K n m dep V R st (l.setIfInBounds i true) (Zd vs i v) W := h.next hL hS i hi him hmk hl v hd (Zf W) hk
theorem Zav.apart (h : Zav a0 mk K n m dep V R st l vs W) (i j : Nat) (hi : i < m) (hj : j < m) (hij : i ≠ j) (m1 : mk i = true) (m2 : mk j = true) (l1 : l.getD i false = true) (l2 : l.getD j false = true) : Za8 (vs i) (vs j) := h.new i j hi hj hij m1 m2 l1 l2
theorem Zav.last (h : Zav a0 mk K n m dep V R st l vs W) (hL : Yt n m dep) (hm : m < n) (hl : l.getD m true = false) (hno : ∀ j, m < j → l.getD j false = true → m ∈ dep j) (v : Value) (hd : ∀ e ∈ dep m, l.getD e false = true) (hR : R W v W') (ht : a0 < m → v = vs a0) :
 Zav a0 mk K n m dep V R st (l.setIfInBounds m true) (Zd vs m v) W' := by
 refine ⟨h.mid.last hL hm hl hno v hd hR, fun a b ha hb hab m1 m2 l1 l2 => ?_, fun _ ha => by unfold Zd; rw [if_pos rfl, if_neg (by omega)]; exact ht ha⟩
 unfold Zd
 rw [if_neg (by omega), if_neg (by omega)]
 rw [getD_set_ne false (by omega)] at l1 l2
 exact h.new a b ha hb hab m1 m2 l1 l2
theorem Zav.tied (h : Zav a0 mk K n m dep V R st l vs W) (ha : a0 < m) (hm : m < n) (hall : ∀ j, j < n → l.getD j true = true) : vs m = vs a0 := by
 have h9 := hall m hm
 rw [Qa (by rw [h.mid.size]; exact hm) true false] at h9
 exact h.tie h9 ha
theorem Zav.all (h : Zav a0 mk K n m dep V R st l vs W) (hmn : m ≤ n) (hall : ∀ j, j < n → l.getD j true = true) (i j : Nat) (hi : i < m) (hj : j < m) (hij : i ≠ j) (m1 : mk i = true) (m2 : mk j = true) : Za8 (vs i) (vs j) :=
 h.new i j hi hj hij m1 m2 (by rw [Qa (by rw [h.mid.size]; omega) false true]; exact hall i (by omega)) (by rw [Qa (by rw [h.mid.size]; omega) false true]; exact hall j (by omega))
end
def Zoo (W : World) (Y : Nat) : Nat → List Value → World
 | _, [] => W
 | k, v :: vs => Zoo (W.setCell ⟨Y, k, none⟩ v) Y (k + 1) vs
def Zqj : List Value → Nat → List Value → List Value
 | cs, _, [] => cs
 | cs, k, v :: vs => Zqj (cs.set k v) (k + 1) vs
theorem Zj8 : ∀ (vs : List Value) (W : World) (Y k : Nat) (cs : List Value), Zh W Y cs → k + vs.length ≤ cs.length → Zh (Zoo W Y k vs) Y (Zqj cs k vs)
 | [], _, _, _, _, h, _ => h
 | v :: vs, W, Y, k, cs, h, hl => by
  rw [List.length_cons] at hl
  exact Zj8 vs _ Y (k + 1) _ (h.set (by omega) v) (by rw [List.length_set]; omega)
theorem Zh6 : ∀ (vs : List Value) (W : World) (Y k : Nat), W.grownBy (Zoo W Y k vs) (some Y)
 | [], W, _, _ => Jk W _
 | v :: vs, W, Y, k => Zk (Qt W rfl v) (Zh6 vs _ Y (k + 1))
theorem Zjk {E : TypeId} {b : Nat} : ∀ (vs : List Value) (W : World) (Y k : Nat), Jn W b E → Jn (Zoo W Y k vs) b E
 | [], _, _, _, h => h
 | v :: vs, W, Y, k, h => Zjk vs _ Y (k + 1) (h.set _ v)
theorem Zgo : ∀ (vs : List Value) (w W : World) (Y k : Nat), Below w.heap.size w W → w.heap.size ≤ Y → Below w.heap.size w (Zoo W Y k vs)
 | [], _, _, _, _, h, _ => h
 | v :: vs, w, W, Y, k, h, hY => Zgo vs w _ Y (k + 1) (Yi h hY v) hY
def Zit {α : Type} (d : Rep α) : Rep (List α) where
 sz := 1
 K := fun w xs cs => ∃ A c, cs = [.slice A xs.length c] ∧ Rd d w A xs
 len := by rintro w x cs ⟨A, c, rfl, _⟩; rfl
 below := by rintro w w1 x cs hb ⟨A, c, e, h⟩; exact ⟨A, c, e, h.below hb⟩
def Yh {α : Type} (w : World) (base : Nat) (F : TypeId) (k : Nat) (enc : α → List Value) (vs : List Value) (xss : List (List α)) : Prop :=
 vs.length = xss.length ∧ (∀ (j : Nat) (h : j < vs.length) (h' : j < xss.length), w.ownsRow base F k vs[j] xss[j].length (xss[j].flatMap enc)) ∧ vs.Pairwise Za8
def Ql {α : Type} (w : World) (base : Nat) (E F : TypeId) (k : Nat) (enc : α → List Value) (v : Value) (xss : List (List α)) : Prop :=
 ∃ vs, w.ownsRow base E 1 v xss.length vs ∧ Yh w base F k enc vs xss
section
variable {α : Type} {w w' : World} {base : Nat} {E F : TypeId} {k : Nat} {enc : α → List Value} {v : Value} {xss : List (List α)}
theorem Yh.nil : Yh w base F k enc [] ([] : List (List α)) := ⟨rfl, fun _ h => absurd h (Nat.not_lt_zero _), List.Pairwise.nil⟩
theorem Yh.keep {vs : List Value} (h : Yh w base F k enc vs xss) (hk : ∀ a ∈ vs, ∀ b, a.ownBlock = some b → w'.heap[b]? = w.heap[b]?) : Yh w' base F k enc vs xss :=
 ⟨h.1, fun j h1 h2 => Jl (h.2.1 j h1 h2) (hk _ (List.getElem_mem h1)), h.2.2⟩
theorem Yh.below {vs : List Value} (h : Yh w base F k enc vs xss) (hb : Below w.heap.size w w') : Yh w' base F k enc vs xss :=
 ⟨h.1, fun j h1 h2 => Qx (h.2.1 j h1 h2) hb, h.2.2⟩
theorem Yh.rebase {vs : List Value} {base' : Nat} (h : Yh w base F k enc vs xss) (hb : base' ≤ base) : Yh w base' F k enc vs xss :=
 ⟨h.1, fun j h1 h2 => Jw (h.2.1 j h1 h2) hb, h.2.2⟩
theorem Yh.snoc {vs : List Value} {u : Value} {ys : List α} (h : Yh w base F k enc vs xss) (hv : w.ownsRow base F k u ys.length (ys.flatMap enc)) (ha : ∀ a ∈ vs, Za8 a u) : Yh w base F k enc (vs ++ [u]) (xss ++ [ys]) := by
 refine ⟨by simp [h.1], fun j h1 h2 => ?_, ?_⟩
 ·
  rcases Nat.lt_or_ge j vs.length with hj | hj
  · have hj' : j < xss.length := by rw [← h.1]; exact hj
    rw [List.getElem_append_left hj]
    simp only [List.getElem_append_left hj']
    exact h.2.1 j hj hj'
  have e : j = vs.length := by simp at h1; omega
  have e' : j = xss.length := by rw [← h.1]; exact e
  have g1 : (vs ++ [u])[j] = u := by rw [List.getElem_append_right (by omega)]; simp
  have g2 : (xss ++ [ys])[j] = ys := by rw [List.getElem_append_right (by omega)]; simp
  rw [g1, g2]; exact hv
 rw [List.pairwise_append]
 exact ⟨h.2.2, List.pairwise_singleton _ _, fun a ha' b hb => by rw [List.mem_singleton.1 hb]; exact ha a ha'⟩
theorem Yh.set {vs : List Value} {u : Value} {ys : List α} {j : Nat} (h : Yh w base F k enc vs xss) (hj : j < vs.length) (hv : w.ownsRow base F k u ys.length (ys.flatMap enc)) (ha : ∀ i (hi : i < vs.length), i ≠ j → Za8 vs[i] u) : Yh w base F k enc (vs.set j u) (xss.set j ys) := by
 refine ⟨by simp [h.1], fun i h1 h2 => ?_, ?_⟩
 ·
  by_cases e : j = i
  · subst e
    simp only [List.getElem_set_self]; exact hv
  simp only [List.getElem_set_ne e]
  exact h.2.1 i (by simpa using h1) (by simpa using h2)
 rw [List.pairwise_iff_getElem]
 intro a b ha1 hb1 hab
 have hp := List.pairwise_iff_getElem.1 h.2.2
 by_cases ea : j = a
 · subst ea
   rw [List.getElem_set_self, List.getElem_set_ne (by omega)]
   exact fun k hk hk' => ha b (by simpa using hb1) (by omega) k hk' hk
 rw [List.getElem_set_ne ea]
 by_cases eb : j = b
 · subst eb
   rw [List.getElem_set_self]
   exact ha a (by simpa using ha1) (by omega)
 rw [List.getElem_set_ne eb]
 exact hp a b (by simpa using ha1) (by simpa using hb1) hab
theorem Yh.apart {vs : List Value} {u : Value} {N : Nat} (h : Yh w base F k enc vs xss) (hN : w.heap.size ≤ N) (hu : ∀ b, u.ownBlock = some b → N ≤ b) : ∀ a ∈ vs, Za8 a u := by
 intro a ha b hb hb'
 obtain ⟨i, hi, rfl⟩ := List.getElem_of_mem ha
 have := (Qo (h.2.1 i hi (by rw [← h.1]; exact hi)) hb).2
 have := hu b hb'
 omega
theorem Zob {n m : Nat} {xs ys : List Value} {base' : Nat} (h : w.ownsRow base E 1 v n xs) (h' : w.ownsRow base' E 1 v m ys) : ys = xs := by
 obtain ⟨_, _, e1⟩ := Zbc h
 obtain ⟨_, _, e2⟩ := Zbc h'
 have hnm : n = m := by rw [e1] at e2; injection e2
 subst hnm
 have l1 := h.1
 have l2 := h'.1
 rcases h.2 with ⟨rfl, h0⟩ | ⟨g, cap, cur, rfl, _⟩
 · rw [List.eq_nil_of_length_eq_zero (show xs.length = 0 by omega), List.eq_nil_of_length_eq_zero (show ys.length = 0 by omega)]
 refine List.ext_getElem (by omega) fun j h1 h2 => ?_
 have a := h.cellAt j (by omega)
 have b := h'.cellAt j (by omega)
 rw [a, List.getElem?_eq_getElem h2, List.getElem?_eq_getElem h1] at b
 injection b with b
 exact b.symm
theorem Ql.nil : Ql w base E F k enc (.slice none 0 0) ([] : List (List α)) := ⟨[], ⟨rfl, .inl ⟨rfl, rfl⟩⟩, Yh.nil⟩
theorem Ql.below (h : Ql w base E F k enc v xss) (hb : Below w.heap.size w w') : Ql w' base E F k enc v xss := by
 obtain ⟨vs, h1, h2⟩ := h
 exact ⟨vs, Qx h1 hb, h2.below hb⟩
theorem Ql.rebase {base' : Nat} (h : Ql w base E F k enc v xss) (hb : base' ≤ base) : Ql w base' E F k enc v xss := by
 obtain ⟨vs, h1, h2⟩ := h
 exact ⟨vs, Jw h1 hb, h2.rebase hb⟩
theorem Ql.form (h : Ql w base E F k enc v xss) : ∃ A c, v = .slice A xss.length c := by
 obtain ⟨vs, h1, _⟩ := h
 exact Zbc h1
theorem Ql.lt (h : Ql w base E F k enc v xss) {b : Nat} (hb : v.ownBlock = some b) : base ≤ b ∧ b < w.heap.size := by
 obtain ⟨vs, h1, _⟩ := h
 exact Qo h1 hb
theorem Ql.typed (h : Ql w base E F k enc v xss) {b : Nat} (hb : v.ownBlock = some b) : Jn w b E := by
 obtain ⟨vs, h1, _⟩ := h
 exact Jo h1 hb
theorem Ql.past {b : Nat} {G : TypeId} (h : Ql w base E F k enc v xss) (hg : w.grownBy w' (some b)) (hb : Jn w b G) (h1 : E ≠ G) (h2 : F ≠ G) : Ql w' base E F k enc v xss := by
 obtain ⟨vs, r1, r2⟩ := h
 exact ⟨vs, Zab r1 hg hb h1, r2.1, fun j a c => Zab (r2.2.1 j a c) hg hb h2, r2.2.2⟩
theorem Zf5 {n : Nat} {xs : List Value} {v u : Value} {m : Nat} (h : w.ownsRow base F k v n xs) (hg : w.grownBy w' u.ownBlock) (hu : ∀ b, u.ownBlock = some b → Jn w b E) (hne : F ≠ E) : w'.ownsRow base F k v n xs :=
 Jl h fun c hc => hg.block c (Qo h hc).2 (fun e => (Jo h hc).ne (hu c e.symm) hne rfl)
theorem Ql.snoc {vs : List Value} {u v' : Value} {ys : List α} (hne : F ≠ E) (h1 : w.ownsRow base E 1 v xss.length vs) (h2 : Yh w base F k enc vs xss) (hu : w.ownsRow base F k u ys.length (ys.flatMap enc)) (ha : ∀ a ∈ vs, Za8 a u)
 (hg : w.grownBy w' v.ownBlock) (h3 : w'.ownsRow base E 1 v' (xss.length + 1) (vs ++ [u])) : Ql w' base E F k enc v' (xss ++ [ys]) := by
 refine ⟨vs ++ [u], by rw [List.length_append]; exact h3, Yh.snoc ⟨h2.1, fun j a b => ?_, h2.2.2⟩ ?_ ha⟩
 · exact Zf5 (m := 0) (h2.2.1 j a b) hg (fun b hb => Jo h1 hb) hne
 exact Zf5 (m := 0) hu hg (fun b hb => Jo h1 hb) hne
theorem Ql.rd {hk : ∀ x, (enc x).length = k} (h : Ql w base E F k enc v xss) : Zml (Zit (Zg9 k enc hk)) w v xss := by
 obtain ⟨vs, h1, h2⟩ := h
 rcases h1.2 with ⟨rfl, h0⟩ | ⟨g, cap, cur, rfl, hb, hh, k1, k2, k3, k4⟩
 · have : xss = [] := List.eq_nil_of_length_eq_zero h0
   subst this
   exact ⟨none, 0, rfl, Nat.le_refl _, Rd.nil _ _ _⟩
 ·
  refine ⟨some ⟨g, 0, none⟩, cap, rfl, k1, by simp only [maxLen] at k2; omega, fun hn => ⟨g, 0, rfl, (Array.getElem?_eq_some_iff.1 hh).1, fun j hj => ?_⟩⟩
  have hv : j < vs.length := by rw [h2.1]; exact hj
  obtain ⟨A, c, e1, e2, e3⟩ := Zdz (enc := enc) (k := k) (hk := hk) (h2.2.1 j hv hj)
  refine ⟨[vs[j]], ⟨A, c, by rw [e1], e3⟩, fun i u hu => ?_⟩
  have e0 := h1.cellAt j (by omega)
  rw [List.getElem?_eq_getElem hv] at e0
  match i, hu with
  | 0, hu => simp at hu; subst hu; simpa [Zit] using e0
theorem Zjf {hk : ∀ x, (enc x).length = k} {A : Option Addr} {n c : Nat} (h : Ql w base E F k enc (.slice A n c) xss) : Rd (Zit (Zg9 k enc hk)) w A xss := by
 obtain ⟨_, _, e, _, r⟩ := h.rd (hk := hk)
 injection e with e; subst e; exact r
theorem Zf2 {d : Rep α} {A : Option Addr} (h : Rd (Zit d) w A xss) (hb : Below w.heap.size w w') (j : Nat) (hj : j < xss.length) : ∃ b o A2 c2, A = some ⟨b, o, none⟩ ∧ b < w.heap.size ∧ w'.cell? ⟨b, o + j, none⟩ = some (.slice A2 xss[j].length c2) ∧ Rd d w' A2 xss[j] := by
 obtain ⟨b, o, c0, rfl, hlt, ⟨A2, c2, e, hr⟩, hc⟩ := h.at1 rfl hb j hj
 injection e with e _
 subst e
 exact ⟨b, o, A2, c2, rfl, hlt, hc, hr⟩
end
theorem Zfp {α : Type} {w : World} {o : Oper} {a : Act} {K : Act → World → Prop} {Q : Exit → Act → World → Prop} (s x : Operand) (t E F : TypeId) (z : Value) (k : Nat) (enc : α → List Value) (hne : F ≠ E)
 (ht : Tryz.prog.underlying t = some (.slice E)) (hi : (Tryz.prog.info? E).map (fun i => (i.zero, i.size, i.bytes)) = some (some z, 1, 24)) (hz : z.cells.size = 1)
 (ho : o.op = .call { callee := .builtin .append, args := #[s, x], argTypes := #[t, t] }) (base : Nat) (v u : Value) (xss : List (List α)) (ys : List α) (hs : a.eval s = v) (hown : Ql w base E F k enc v xss)
 (hu : w.ownsRow base F k u ys.length (ys.flatMap enc)) (hua : ∀ vs, w.ownsRow base E 1 v xss.length vs → Yh w base F k enc vs xss → ∀ a ∈ vs, Za8 a u) (h1u : u.oneCell' = true)
 (ad : Addr) (c : Nat) (hx : a.eval x = .slice (some ad) 1 c) (hc : w.cell? ad = some u) (hn : xss.length ≤ 1000000) (hbase : base ≤ w.heap.size)
 (h : ∀ v' w', Ql w' base E F k enc v' (xss ++ [ys]) → w.grownBy w' v.ownBlock → K (a.put o.dst v') w') : o.wp Tryz.prog a w K Q := by
 obtain ⟨i0, hi, hz0, hz1, hz2⟩ := info_parts hi
 obtain ⟨vs, h1, h2⟩ := hown
 refine wp_append_own w s x t ho base E i0 _ 1 24 ht hi hz0 hz1 hz2 hz (by decide) v xss.length vs hs h1 ad 1 c [u] hx rfl (fun j y hj => ?_) (fun y hy => by rw [List.mem_singleton.1 hy]; exact h1u) (by unfold maxLen; omega) (by omega) hbase fun v' w' h3 h4 _ => h v' w' (Ql.snoc hne h1 h2 hu (hua vs h1 h2) h4 h3) h4
 have : j = 0 := by have := (List.getElem?_eq_some_iff.1 hj).1; simp at this; omega
 subst this; simp at hj; subst hj
 obtain ⟨b, o, sp⟩ := ad
 simpa [Addr.add] using hc
end Go.Proofs.YtgdmcmicfoamlaaGreatDoor
namespace Go.Proofs.YtgdmcmicfoamlaaGreatDoor
def Zbw (gap : Int) (need : Zl → Int) (span : Nat) (cols : List Int) (c : Zl) : List Int :=
 if c.cols = (span : Int) then
  if 0 < need c - Yk cols c.col.toNat span - gap * ((span : Int) - 1) then
   Qk cols c.col.toNat (Ye (need c - Yk cols c.col.toNat span - gap * ((span : Int) - 1)) ((cols.drop c.col.toNat).take span))
  else cols
 else cols
def Zda (gap : Int) (need : Zl → Int) (span : Nat) (cells : List Zl) (cols : List Int) : List Int := cells.foldl (Zbw gap need span) cols
def made (gap : Int) (need : Zl → Int) (cells : List Zl) (n : Nat) : List Int :=
 Zda gap need 4 cells (Zda gap need 3 cells (Zda gap need 2 cells (Zda gap need 1 cells (List.replicate n 0))))
def Zdr (n : Nat) (cols : List Int) : Prop := cols.length = n ∧ ∀ x ∈ cols, 0 ≤ x ∧ x ≤ 30
def Zas (n : Nat) (need : Zl → Int) (c : Zl) : Prop := 0 ≤ c.col ∧ 1 ≤ c.cols ∧ c.cols ≤ 4 ∧ c.col + c.cols ≤ n ∧ need c ≤ 30
theorem Zh2 {n : Nat} {cols : List Int} (h : Zdr n cols) (j : Nat) : 0 ≤ cols.getD j 0 ∧ cols.getD j 0 ≤ 30 := by
 rw [List.getD_eq_getElem?_getD]
 cases e : cols[j]? with
 | none => exact ⟨by simp, by simp⟩
 | some v => exact h.2 v (List.mem_of_getElem? e)
theorem Zfo {n : Nat} {cols : List Int} (h : Zdr n cols) (a k : Nat) : 0 ≤ Yk cols a k :=
 Zaj fun x hx => (h.2 x (List.mem_of_mem_drop (List.mem_of_mem_take hx))).1
theorem Zg0 {n : Nat} {cols : List Int} (h : cols.length = n) {a k : Nat} (hk : a + k ≤ n) : ((cols.drop a).take k).length = k := by simp; omega
theorem Zsg {n : Nat} {gap : Int} {need : Zl → Int} {span : Nat} {cols : List Int} {c : Zl} (hg : 0 ≤ gap) (hs : 1 ≤ span) (h : Zdr n cols) (hc : Zas n need c) :
 Zdr n (Zbw gap need span cols c) ∧ (∀ j, cols.getD j 0 ≤ (Zbw gap need span cols c).getD j 0) ∧ (c.cols = (span : Int) → need c ≤ Yk (Zbw gap need span cols c) c.col.toNat span + gap * ((span : Int) - 1)) := by
 unfold Zbw
 by_cases e : c.cols = (span : Int)
 ·
  rw [if_pos e]
  obtain ⟨c1, c2, c3, c4, c5⟩ := hc
  have hk : c.col.toNat + span ≤ n := by omega
  by_cases hl : 0 < need c - Yk cols c.col.toNat span - gap * ((span : Int) - 1)
  ·
   rw [if_pos hl]
   have hwl := Zg0 h.1 hk
   have hw0 : ∀ x ∈ (cols.drop c.col.toNat).take span, 0 ≤ x := fun x hx => (h.2 x (List.mem_of_mem_drop (List.mem_of_mem_take hx))).1
   have hne : (cols.drop c.col.toNat).take span ≠ [] := by intro e0; rw [e0] at hwl; simp at hwl; omega
   obtain ⟨s1, s2, s3⟩ := Zaz (total := need c - Yk cols c.col.toNat span - gap * ((span : Int) - 1)) (by omega) hw0 hne
   generalize hsh : Ye (need c - Yk cols c.col.toNat span - gap * ((span : Int) - 1)) ((cols.drop c.col.toNat).take span) = sh at s1 s2 s3 ⊢
   rw [hwl] at s1
   have hal : c.col.toNat + sh.length ≤ cols.length := by rw [h.1, s1]; exact hk
   have hwin := Znn hal
   rw [s1, s2] at hwin
   have hgs : 0 ≤ gap * ((span : Int) - 1) := Int.mul_nonneg hg (by omega)
   have hge := Zhl s3 hal
   refine ⟨⟨by rw [Jj]; exact h.1, fun x hx => ?_⟩, hge, fun _ => by omega⟩
   obtain ⟨j, hj, rfl⟩ := List.getElem_of_mem hx
   have hjl : j < cols.length := by rw [Jj] at hj; exact hj
   have hgj : (Qk cols c.col.toNat sh)[j] = (Qk cols c.col.toNat sh).getD j 0 := by rw [List.getD_eq_getElem?_getD, List.getElem?_eq_getElem hj]; rfl
   rw [hgj]
   refine ⟨Int.le_trans (Zh2 h j).1 (hge j), ?_⟩
   by_cases hin : c.col.toNat ≤ j ∧ j < c.col.toNat + sh.length
   ·
    -- one of the cell's own: no more than all of them
    have h1 : ∀ x ∈ ((Qk cols c.col.toNat sh).drop c.col.toNat).take span, 0 ≤ x := by
     intro x hx
     obtain ⟨i, hi, rfl⟩ := List.getElem_of_mem (List.mem_of_mem_drop (List.mem_of_mem_take hx))
     have : (Qk cols c.col.toNat sh)[i] = (Qk cols c.col.toNat sh).getD i 0 := by rw [List.getD_eq_getElem?_getD, List.getElem?_eq_getElem hi]; rfl
     rw [this]
     exact Int.le_trans (Zh2 h i).1 (hge i)
    have h2 : (Qk cols c.col.toNat sh).getD j 0 ∈ ((Qk cols c.col.toNat sh).drop c.col.toNat).take span := by
     rw [← hgj]
     have hd : j - c.col.toNat < (((Qk cols c.col.toNat sh).drop c.col.toNat).take span).length := by simp [Jj]; omega
     have : (((Qk cols c.col.toNat sh).drop c.col.toNat).take span)[j - c.col.toNat] = (Qk cols c.col.toNat sh)[j] := by
      simp only [List.getElem_take, List.getElem_drop]
      congr 1
      omega
     rw [← this]
     exact List.getElem_mem hd
    have h3 := Zby h1 _ h2
    have h4 : Zq (((Qk cols c.col.toNat sh).drop c.col.toNat).take span) = Yk (Qk cols c.col.toNat sh) c.col.toNat span := rfl
    have h5 := Zfo h c.col.toNat span
    omega
   rw [Zb1 sh cols _ j hal, if_neg hin]
   have := (Zh2 h j).2
   omega
  rw [if_neg hl]
  exact ⟨h, fun _ => Int.le_refl _, fun _ => by omega⟩
 rw [if_neg e]
 exact ⟨h, fun _ => Int.le_refl _, fun h' => absurd h' e⟩
theorem Zbk {n : Nat} {gap : Int} {need : Zl → Int} {span : Nat} (hg : 0 ≤ gap) (hs : 1 ≤ span) : ∀ (cells : List Zl) (cols : List Int), Zdr n cols → (∀ c ∈ cells, Zas n need c) →
 Zdr n (Zda gap need span cells cols) ∧ (∀ j, cols.getD j 0 ≤ (Zda gap need span cells cols).getD j 0) ∧ ∀ c ∈ cells, c.cols = (span : Int) → need c ≤ Yk (Zda gap need span cells cols) c.col.toNat span + gap * ((span : Int) - 1)
 | [], cols, h, _ => ⟨h, fun _ => Int.le_refl _, fun c hc => by cases hc⟩
 | c :: cells, cols, h, hc => by
  obtain ⟨a1, a2, a3⟩ := Zsg (span := span) hg hs h (hc c (List.mem_cons_self ..))
  obtain ⟨b1, b2, b3⟩ := Zbk hg hs cells (Zbw gap need span cols c) a1 (fun d hd => hc d (List.mem_cons_of_mem _ hd))
  refine ⟨b1, fun j => Int.le_trans (a2 j) (b2 j), fun d hd he => ?_⟩
  rcases List.mem_cons.1 hd with rfl | hd
  · obtain ⟨c1, c2, c3, c4, c5⟩ := hc d (List.mem_cons_self ..)
    have := Zg7 (a1.1.trans b1.1.symm) b2 d.col.toNat span (by rw [a1.1]; omega)
    have := a3 he
    show need d ≤ Yk (Zda gap need span cells (Zbw gap need span cols d)) d.col.toNat span + _
    omega
  exact b3 d hd he
theorem Zb3 {n : Nat} {gap : Int} {need : Zl → Int} {cells : List Zl} (hg : 0 ≤ gap) (hc : ∀ c ∈ cells, Zas n need c) :
 Zdr n (made gap need cells n) ∧ ∀ c ∈ cells, need c ≤ Yk (made gap need cells n) c.col.toNat c.cols.toNat + gap * (c.cols - 1) := by
 unfold made
 have h0 : Zdr n (List.replicate n 0) := ⟨by simp, fun x hx => by rw [(List.mem_replicate.1 hx).2]; decide⟩
 obtain ⟨a1, a2, a3⟩ := Zbk (span := 1) hg (by decide) cells _ h0 hc
 obtain ⟨b1, b2, b3⟩ := Zbk (span := 2) hg (by decide) cells _ a1 hc
 obtain ⟨c1, c2, c3⟩ := Zbk (span := 3) hg (by decide) cells _ b1 hc
 obtain ⟨d1, d2, d3⟩ := Zbk (span := 4) hg (by decide) cells _ c1 hc
 refine ⟨d1, fun c hcm => ?_⟩
 obtain ⟨e1, e2, e3, e4, e5⟩ := hc c hcm
 have hk : ∀ k : Nat, c.cols = (k : Int) → c.col.toNat + k ≤ n := fun k hk => by omega
 obtain h | h | h | h : c.cols = 1 ∨ c.cols = 2 ∨ c.cols = 3 ∨ c.cols = 4 := by omega
 · have := a3 c hcm h
   have w := Zg7 (a1.1.trans d1.1.symm) (fun j => Int.le_trans (b2 j) (Int.le_trans (c2 j) (d2 j))) c.col.toNat 1 (by rw [a1.1]; exact hk 1 h)
   rw [h]; simp only [Int.toNat_one] at *; omega
 · have := b3 c hcm h
   have w := Zg7 (b1.1.trans d1.1.symm) (fun j => Int.le_trans (c2 j) (d2 j)) c.col.toNat 2 (by rw [b1.1]; exact hk 2 h)
   rw [h]; show _ ≤ Yk _ _ 2 + _; omega
 · have := c3 c hcm h
   have w := Zg7 (c1.1.trans d1.1.symm) (fun j => d2 j) c.col.toNat 3 (by rw [c1.1]; exact hk 3 h)
   rw [h]; show _ ≤ Yk _ _ 3 + _; omega
 have := d3 c hcm h
 rw [h]; show _ ≤ Yk _ _ 4 + _; omega
end Go.Proofs.YtgdmcmicfoamlaaGreatDoor
