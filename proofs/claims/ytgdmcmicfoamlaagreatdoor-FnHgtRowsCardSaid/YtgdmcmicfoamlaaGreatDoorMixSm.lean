import Derived.Test.YtgdmcmicfoamlaaGreatDoorMixSa
set_option linter.unusedVariables false
set_option linter.unusedSimpArgs false
set_option maxHeartbeats 400000
set_option maxRecDepth 100000
namespace Go.Proofs.YtgdmcmicfoamlaaGreatDoor
instance (left : List Int) (x y : Nat) : Decidable (ltL left x y) := by unfold ltL; infer_instance
def swp (L : List Nat) (i j : Nat) : List Nat := (L.set i (L.getD j 0)).set j (L.getD i 0)
theorem Zpc (L : List Nat) (i j : Nat) : (swp L i j).length = L.length := by simp [swp]
def Zc9 (left : List Int) (a : Nat) : Nat → List Nat → List Nat
 | 0, L => L
 | j + 1, L => if a < j + 1 ∧ ltL left (L.getD (j + 1) 0) (L.getD j 0) then Zc9 left a j (swp L (j + 1) j) else L
def Zc6 (left : List Int) (a : Nat) : Nat → Nat → List Nat → List Nat
 | 0, _, L => L
 | k + 1, i, L => Zc6 left a k (i + 1) (Zc9 left a i L)
def Zdd (left : List Int) (a b : Nat) (L : List Nat) : List Nat := Zc6 left a (b - (a + 1)) (a + 1) L
theorem Zjs (A B : List Nat) (u x j : Nat) (h : j = A.length) : swp (A ++ u :: x :: B) (j + 1) j = A ++ x :: u :: B := by
 have e : A ++ u :: x :: B = (A ++ [u]) ++ x :: B := by simp
 have g1 : (A ++ u :: x :: B).getD j 0 = u := Zd6 _ _ _ _ _ h
 have g2 : (A ++ u :: x :: B).getD (j + 1) 0 = x := by rw [e]; exact Zd6 _ _ _ _ _ (by simp; omega)
 unfold swp
 rw [g1, g2, e, Zfx (A ++ [u]) B x u (j + 1) (by simp; omega)]
 have e2 : A ++ [u] ++ u :: B = A ++ u :: (u :: B) := by simp
 rw [e2, Zfx A (u :: B) u x j h]
theorem Zvm (A B : List Nat) (x u k : Nat) (h : k = A.length) : swp (A ++ x :: u :: B) k (k + 1) = A ++ u :: x :: B := by
 have e : A ++ x :: u :: B = (A ++ [x]) ++ u :: B := by simp
 have g1 : (A ++ x :: u :: B).getD k 0 = x := Zd6 _ _ _ _ _ h
 have g2 : (A ++ x :: u :: B).getD (k + 1) 0 = u := by rw [e]; exact Zd6 _ _ _ _ _ (by simp; omega)
 unfold swp
 rw [g1, g2, Zfx A (u :: B) x u k h]
 have e2 : A ++ u :: u :: B = (A ++ [u]) ++ u :: B := by simp
 rw [e2, Zfx (A ++ [u]) B u x (k + 1) (by simp; omega)]
 simp
theorem Zkt {S : List Nat} {m : Nat} (h : m < S.length) (x : Nat) : S.take (m + 1) ++ x :: S.drop (m + 1) = S.take m ++ S.getD m 0 :: x :: S.drop (m + 1) := by
 rw [List.take_succ_eq_append_getElem h, List.getD_eq_getElem?_getD, List.getElem?_eq_getElem h]
 simp only [List.append_assoc, List.cons_append, List.nil_append, Option.getD_some]
theorem Zkf (left : List Int) (P R S : List Nat) (x : Nat) (hS : S.Pairwise (Qz left)) (hx : ∀ y ∈ S, y < x) : ∀ (m : Nat), m ≤ S.length → (∀ k, m ≤ k → k < S.length → ltL left x (S.getD k 0)) →
 ∃ S', Zc9 left P.length (P.length + m) (P ++ (S.take m ++ x :: S.drop m) ++ R) = P ++ S' ++ R ∧ S'.Pairwise (Qz left) ∧ S'.Perm (x :: S)
 | 0, _, hk => by
  refine ⟨x :: S, ?_, ?_, List.Perm.refl _⟩
  ·
   have : ∀ L : List Nat, Zc9 left P.length (P.length + 0) L = L := by
    intro L
    cases h : P.length with
    | zero => rfl
    | succ p => rw [Nat.add_zero, Zc9, if_neg (by omega)]
   rw [this]; simp
  have := Zj2 (j := 0) hS hx (fun k hk _ => absurd hk (Nat.not_lt_zero _)) hk
  simpa using this
 | m + 1, hm, hk => by
  have hlt : m < S.length := by omega
  have e0 : P ++ (S.take (m + 1) ++ x :: S.drop (m + 1)) ++ R = (P ++ S.take m) ++ S.getD m 0 :: x :: (S.drop (m + 1) ++ R) := by
   rw [Zkt hlt]; simp
  have hl : P.length + m = (P ++ S.take m).length := by simp; omega
  have g1 : ((P ++ S.take m) ++ S.getD m 0 :: x :: (S.drop (m + 1) ++ R)).getD (P.length + m) 0 = S.getD m 0 := Zd6 _ _ _ _ _ hl
  have g2 : ((P ++ S.take m) ++ S.getD m 0 :: x :: (S.drop (m + 1) ++ R)).getD (P.length + m + 1) 0 = x := by
   have : (P ++ S.take m) ++ S.getD m 0 :: x :: (S.drop (m + 1) ++ R) = (P ++ S.take m ++ [S.getD m 0]) ++ x :: (S.drop (m + 1) ++ R) := by simp
   rw [this]; exact Zd6 _ _ _ _ _ (by simp; omega)
  rw [show P.length + (m + 1) = P.length + m + 1 by omega, Zc9, e0, g1, g2]
  by_cases hlt2 : ltL left x (S.getD m 0)
  ·
   rw [if_pos ⟨by omega, hlt2⟩, Zjs _ _ _ _ _ hl]
   have e1 : (P ++ S.take m) ++ x :: S.getD m 0 :: (S.drop (m + 1) ++ R) = P ++ (S.take m ++ x :: S.drop m) ++ R := by
    rw [List.drop_eq_getElem_cons hlt, List.getD_eq_getElem?_getD, List.getElem?_eq_getElem hlt]
    simp only [List.append_assoc, List.cons_append, Option.getD_some]
   rw [e1]
   refine Zkf left P R S x hS hx m (by omega) (fun k h1 h2 => ?_)
   rcases Nat.lt_or_eq_of_le h1 with h | rfl
   · exact hk k h h2
   exact hlt2
  rw [if_neg (fun h => hlt2 h.2)]
  refine ⟨S.take (m + 1) ++ x :: S.drop (m + 1), by rw [← e0], Zj2 hS hx (fun k h1 h2 => ?_) hk, Zj9 _⟩
  have := Zah hS (i := k) (j := m) (by omega) hlt
  unfold ltL at hlt2 ⊢
  omega
theorem Ziz (left : List Int) (P R : List Nat) : ∀ (T S : List Nat), S.Pairwise (Qz left) → (∀ y ∈ S, ∀ x ∈ T, y < x) → T.Pairwise (· < ·) →
 ∃ S', Zc6 left P.length T.length (P.length + S.length) (P ++ S ++ (T ++ R)) = P ++ S' ++ R ∧ S'.Pairwise (Qz left) ∧ S'.Perm (S ++ T)
 | [], S, hS, _, _ => ⟨S, by simp [Zc6], hS, by simp⟩
 | x :: T, S, hS, hx, hT => by
  obtain ⟨S1, e1, h1, p1⟩ := Zkf left P (T ++ R) S x hS (fun y hy => hx y hy x (List.mem_cons_self ..)) S.length (Nat.le_refl _) (fun k h1 h2 => by omega)
  have e0 : P ++ S ++ (x :: T ++ R) = P ++ (S.take S.length ++ x :: S.drop S.length) ++ (T ++ R) := by simp
  rw [List.length_cons, Zc6, e0, e1]
  have hl : P.length + S.length + 1 = P.length + S1.length := by rw [p1.length_eq]; simp; omega
  rw [hl]
  rw [List.pairwise_cons] at hT
  obtain ⟨S2, e2, h2, p2⟩ := Ziz left P R T S1 h1 (fun y hy z hz => by
   rcases List.mem_cons.1 (p1.mem_iff.1 hy) with rfl | hy
   · exact hT.1 z hz
   exact hx y hy z (List.mem_cons_of_mem _ hz)) hT.2
  refine ⟨S2, e2, h2, p2.trans ?_⟩
  refine (p1.append_right T).trans ?_
  have := (List.perm_middle (l₁ := S) (a := x) (l₂ := T)).symm
  simpa using this
theorem Ze5 (left : List Int) (P T R : List Nat) (hT : T.Pairwise (· < ·)) : ∃ S', Zdd left P.length (P.length + T.length) (P ++ T ++ R) = P ++ S' ++ R ∧ S'.Pairwise (Qz left) ∧ S'.Perm T := by
 unfold Zdd
 cases T with
 | nil => exact ⟨[], by simp [Zc6], List.Pairwise.nil, List.Perm.refl _⟩
 | cons x T =>
  rw [List.pairwise_cons] at hT
  obtain ⟨S', e, h, p⟩ := Ziz left P R T [x] (List.pairwise_singleton _ _) (fun y hy z hz => by rw [List.mem_singleton.1 hy]; exact hT.1 z hz) hT.2
  refine ⟨S', ?_, h, p⟩
  rw [List.length_singleton] at e
  rw [← e]
  congr 1
  · simp; omega
  simp
def bs (p : Nat → Bool) : Nat → Nat → Nat → Nat
 | 0, i, _ => i
 | f + 1, i, j => if i < j then (if p ((i + j) / 2) then bs p f ((i + j) / 2 + 1) j else bs p f i ((i + j) / 2)) else i
theorem Zf0 (p : Nat → Bool) : ∀ (f i j : Nat), i ≤ j → j - i ≤ f → i ≤ bs p f i j ∧ bs p f i j ≤ j ∧ (bs p f i j = i ∨ p (bs p f i j - 1) = true) ∧ (bs p f i j = j ∨ p (bs p f i j) = false)
 | 0, i, j, h1, h2 => ⟨Nat.le_refl _, h1, .inl rfl, .inl (by show i = j; omega)⟩
 | f + 1, i, j, h1, h2 => by
  rw [bs]
  by_cases h : i < j
  ·
   rw [if_pos h]
   cases hp : p ((i + j) / 2) with
   | true =>
    rw [if_pos rfl]
    obtain ⟨a1, a2, a3, a4⟩ := Zf0 p f ((i + j) / 2 + 1) j (by omega) (by omega)
    refine ⟨by omega, a2, .inr ?_, a4⟩
    rcases a3 with a3 | a3
    · rw [a3, Nat.add_sub_cancel]; exact hp
    exact a3
   | false =>
    rw [if_neg (by simp)]
    obtain ⟨a1, a2, a3, a4⟩ := Zf0 p f i ((i + j) / 2) (by omega) (by omega)
    refine ⟨a1, by omega, a3, .inr ?_⟩
    rcases a4 with a4 | a4
    · rw [a4]; exact hp
    exact a4
  rw [if_neg h]
  exact ⟨Nat.le_refl _, h1, .inl rfl, .inl (by omega)⟩
def shR (L : List Nat) (k : Nat) : Nat → List Nat
 | 0 => L
 | n + 1 => shR (swp L k (k + 1)) (k + 1) n
def shL (L : List Nat) (k : Nat) : Nat → List Nat
 | 0 => L
 | n + 1 => shL (swp L k (k - 1)) (k - 1) n
theorem Zov : ∀ (T P R : List Nat) (x : Nat), shR (P ++ x :: (T ++ R)) P.length T.length = P ++ (T ++ x :: R)
 | [], P, R, x => rfl
 | u :: T, P, R, x => by
  rw [List.length_cons, shR, List.cons_append, Zvm P (T ++ R) x u P.length rfl]
  have := Zov T (P ++ [u]) R x
  simp only [List.length_append, List.length_singleton] at this
  rw [show P ++ u :: x :: (T ++ R) = P ++ [u] ++ x :: (T ++ R) by simp, this]
  simp
theorem Zth (P R : List Nat) (x : Nat) : ∀ (n : Nat) (T : List Nat), T.length = n → shL (P ++ (T ++ x :: R)) (P.length + n) n = P ++ (x :: (T ++ R))
 | 0, T, h => by obtain rfl := List.eq_nil_of_length_eq_zero h; rfl
 | n + 1, T, h => by
  obtain ⟨T', u, rfl⟩ : ∃ L u, T = L ++ [u] := ⟨T.dropLast, T.getLast (by intro e; rw [e] at h; simp at h), (List.dropLast_concat_getLast _).symm⟩
  simp only [List.length_append, List.length_singleton, Nat.add_right_cancel_iff] at h
  have e1 : P ++ (T' ++ [u] ++ x :: R) = (P ++ T') ++ u :: x :: R := by simp
  rw [shL, e1, show P.length + (n + 1) - 1 = P.length + n by omega, show P.length + (n + 1) = P.length + n + 1 by omega, Zjs (P ++ T') R u x (P.length + n) (by simp; omega)]
  rw [show P ++ T' ++ x :: u :: R = P ++ (T' ++ x :: (u :: R)) by simp]
  have : shL (P ++ (T' ++ x :: (u :: R))) (P.length + n) n = P ++ (x :: (T' ++ (u :: R))) := by
   -- the row behind is longer
   clear e1
   exact shL_at P x n T' h (u :: R)
  rw [this]; simp
where
 shL_at (P : List Nat) (x : Nat) : ∀ (n : Nat) (T : List Nat), T.length = n → ∀ R : List Nat, shL (P ++ (T ++ x :: R)) (P.length + n) n = P ++ (x :: (T ++ R))
  | 0, T, h, R => by obtain rfl := List.eq_nil_of_length_eq_zero h; rfl
  | n + 1, T, h, R => by
   obtain ⟨T', u, rfl⟩ : ∃ L u, T = L ++ [u] := ⟨T.dropLast, T.getLast (by intro e; rw [e] at h; simp at h), (List.dropLast_concat_getLast _).symm⟩
   simp only [List.length_append, List.length_singleton, Nat.add_right_cancel_iff] at h
   have e1 : P ++ (T' ++ [u] ++ x :: R) = (P ++ T') ++ u :: x :: R := by simp
   rw [shL, e1, show P.length + (n + 1) - 1 = P.length + n by omega, show P.length + (n + 1) = P.length + n + 1 by omega, Zjs (P ++ T') R u x (P.length + n) (by simp; omega)]
   rw [show P ++ T' ++ x :: u :: R = P ++ (T' ++ x :: (u :: R)) by simp, shL_at P x n T' h (u :: R)]
   simp
def Zp6 (m : Nat) : Nat → Nat → Nat → List Nat → List Nat
 | 0, _, _, L => L
 | f + 1, i, j, L => if i = j then Zfi L (m - i) m i else if j < i then Zp6 m f (i - j) j (Zfi L (m - i) m j) else Zp6 m f i (j - i) (Zfi L (m - i) (m + j - i) i)
theorem Zik : ∀ (f : Nat) (P X Y R : List Nat), X.length + Y.length ≤ f → 0 < X.length → 0 < Y.length → Zp6 (P.length + X.length) f X.length Y.length (P ++ (X ++ (Y ++ R))) = P ++ (Y ++ (X ++ R))
 | 0, P, X, Y, R, h, hx, _ => by omega
 | f + 1, P, X, Y, R, h, hx, hy => by
  rw [Zp6, Nat.add_sub_cancel]
  by_cases e : X.length = Y.length
  · rw [if_pos e]
    have := Zfu X.length P X [] Y R P.length (P.length + X.length) rfl e.symm rfl (by simp)
    simpa using this
  rw [if_neg e]
  by_cases h2 : Y.length < X.length
  ·
   rw [if_pos h2]
   obtain ⟨X1, X2, rfl, h1⟩ : ∃ X1 X2, X = X1 ++ X2 ∧ X1.length = Y.length := ⟨X.take Y.length, X.drop Y.length, (List.take_append_drop _ _).symm, by simp; omega⟩
   have h3 := Zfu Y.length P X1 X2 Y R P.length (P.length + (X1 ++ X2).length) h1 rfl rfl (by simp; omega)
   have e1 : P ++ (X1 ++ X2 ++ (Y ++ R)) = P ++ (X1 ++ (X2 ++ (Y ++ R))) := by simp
   rw [e1, h3]
   have ih := Zik f (P ++ Y) X2 X1 R (by simp at h; omega) (by simp at h2; omega) (by omega)
   simp only [List.length_append] at ih ⊢
   rw [show X1.length + X2.length - Y.length = X2.length by omega, show P.length + (X1.length + X2.length) = P.length + Y.length + X2.length by omega]
   rw [show P ++ (Y ++ (X2 ++ (X1 ++ R))) = P ++ Y ++ (X2 ++ (X1 ++ R)) by simp]
   rw [← h1, h1, ← h1]
   rw [← h1] at ih
   rw [ih]; simp
  rw [if_neg h2]
  obtain ⟨Y1, Y2, rfl, h1⟩ : ∃ Y1 Y2, Y = Y1 ++ Y2 ∧ Y2.length = X.length := ⟨Y.take (Y.length - X.length), Y.drop (Y.length - X.length), (List.take_append_drop _ _).symm, by simp; omega⟩
  have h3 := Zfu X.length P X Y1 Y2 R P.length (P.length + X.length + (Y1 ++ Y2).length - X.length) rfl h1 rfl (by simp; omega)
  have e1 : P ++ (X ++ (Y1 ++ Y2 ++ R)) = P ++ (X ++ (Y1 ++ (Y2 ++ R))) := by simp
  rw [e1, h3]
  have ih := Zik f P Y2 Y1 (X ++ R) (by simp at h; omega) (by omega) (by simp at h2 e; omega)
  rw [h1] at ih
  simp only [List.length_append] at ih ⊢
  rw [show Y1.length + Y2.length - X.length = Y1.length by omega, ih]
  simp
def Zd7 (a m b : Nat) : Nat := if (a + b) / 2 < m then (a + b) / 2 + m - b else a
def Zeb (a m b : Nat) : Nat := if (a + b) / 2 < m then (a + b) / 2 else m
def Zkl (left : List Int) (n : Nat) (L : List Nat) (c : Nat) : Bool := !decide (ltL left (L.getD (n - 1 - c) 0) (L.getD c 0))
def Ztb (left : List Int) (a m b : Nat) (L : List Nat) : Nat := bs (Zkl left ((a + b) / 2 + m) L) (Zeb a m b - Zd7 a m b) (Zd7 a m b) (Zeb a m b)
def Zlg (left : List Int) (a : Nat) (L : List Nat) (h : Nat) : Bool := decide (ltL left (L.getD h 0) (L.getD a 0))
def Zgc (left : List Int) (m : Nat) (L : List Nat) (h : Nat) : Bool := !decide (ltL left (L.getD m 0) (L.getD h 0))
def Zj3 (a m b : Nat) (L : List Nat) : List Nat := Zp6 m (b - a) (m - a) (b - m) L
def Zgf (s m e : Nat) (L : List Nat) : List Nat := if s < m ∧ m < e then Zj3 s m e L else L
def Zcn (left : List Int) : Nat → Nat → Nat → Nat → List Nat → List Nat
 | 0, _, _, _, L => L
 | f + 1, a, m, b, L =>
  if m - a = 1 then shR L a (bs (Zlg left a L) (b - m) m b - 1 - a)
  else if b - m = 1 then shL L m (m - bs (Zgc left m L) (m - a) a m)
  else
   let s := Ztb left a m b L
   let e := (a + b) / 2 + m - s
   let L1 := Zgf s m e L
   let L2 := if a < s ∧ s < (a + b) / 2 then Zcn left f a s ((a + b) / 2) L1 else L1
   if (a + b) / 2 < e ∧ e < b then Zcn left f ((a + b) / 2) e b L2 else L2
theorem Zns (P U R : List Nat) (k : Nat) (h : k < U.length) : (P ++ (U ++ R)).getD (P.length + k) 0 = U.getD k 0 := by
 rw [List.getD_eq_getElem?_getD, List.getD_eq_getElem?_getD, List.getElem?_append_right (by omega), Nat.add_sub_cancel_left, List.getElem?_append_left h]
theorem Zjo {left : List Int} {A B : List Nat} (h : A = [] ∨ B = []) (hA : A.Pairwise (Qz left)) (hB : B.Pairwise (Qz left)) : (A ++ B).Pairwise (Qz left) := by
 rcases h with rfl|rfl
 · simpa using hB
 simpa using hA
theorem Zfz (left : List Int) : ∀ (f : Nat) (P U V R : List Nat), U.Pairwise (Qz left) → V.Pairwise (Qz left) → (∀ u ∈ U, ∀ v ∈ V, u < v) → 0 < U.length → 0 < V.length → U.length + V.length ≤ f →
 ∃ M, Zcn left f P.length (P.length + U.length) (P.length + U.length + V.length) (P ++ (U ++ (V ++ R))) = P ++ (M ++ R) ∧ M.Pairwise (Qz left) ∧ M.Perm (U ++ V)
 | 0, P, U, V, R, _, _, _, h1, _, h2 => by omega
 | f + 1, P, U, V, R, hU, hV, huv, hu0, hv0, hf => by
  have gU : ∀ k, k < U.length → (P ++ (U ++ (V ++ R))).getD (P.length + k) 0 = U.getD k 0 := fun k hk => Zns P U (V ++ R) k hk
  have gV : ∀ k, k < V.length → (P ++ (U ++ (V ++ R))).getD (P.length + U.length + k) 0 = V.getD k 0 := fun k hk => by
   have := Zns (P ++ U) V R k hk
   simpa using this
  rw [Zcn]
  by_cases c1 : P.length + U.length - P.length = 1
  ·
   rw [if_pos c1]
   have hu1 : U.length = 1 := by omega
   obtain ⟨x, rfl⟩ : ∃ x, U = [x] := List.length_eq_one_iff.1 hu1
   obtain ⟨b1, b2, b3, b4⟩ := Zf0 (Zlg left P.length (P ++ ([x] ++ (V ++ R)))) (P.length + [x].length + V.length - (P.length + [x].length)) (P.length + [x].length) (P.length + [x].length + V.length) (by omega) (by omega)
   generalize bs _ _ _ _ = i at b1 b2 b3 b4 ⊢
   obtain ⟨t, rfl⟩ : ∃ t, i = P.length + [x].length + t := ⟨i - (P.length + [x].length), by omega⟩
   have gx := gU 0 (by simp)
   rw [Nat.add_zero] at gx
   have hp : ∀ k, k < V.length → Zlg left P.length (P ++ ([x] ++ (V ++ R))) (P.length + [x].length + k) = decide (ltL left (V.getD k 0) x) := fun k hk => by
    unfold Zlg; rw [gV k hk, gx]; rfl
   have ht : t ≤ V.length := by omega
   have e1 : P.length + [x].length + t - 1 - P.length = (V.take t).length := by simp; omega
   have e2 : P ++ ([x] ++ (V ++ R)) = P ++ x :: (V.take t ++ (V.drop t ++ R)) := by
    rw [← List.append_assoc (V.take t), List.take_append_drop]; rfl
   rw [e1, e2, Zov (V.take t) P (V.drop t ++ R) x]
   refine ⟨V.take t ++ x :: V.drop t, by simp, Zr1 hV (fun y hy => huv x (by simp) y hy) (fun k k1 k2 => ?_) (fun k k1 k2 => ?_), ?_⟩
   ·
    rcases b3 with b3 | b3
    · omega
    obtain ⟨t', rfl⟩ : ∃ t', t = t' + 1 := ⟨t - 1, by omega⟩
    rw [show P.length + [x].length + (t' + 1) - 1 = P.length + [x].length + t' by omega, hp t' (by omega)] at b3
    have b3 := of_decide_eq_true b3
    have := Zah hV (i := k) (j := t') (by omega) (by omega)
    unfold ltL at b3 ⊢; omega
   · rcases b4 with b4 | b4
     · omega
     rw [hp t (by omega)] at b4
     have b4 := of_decide_eq_false b4
     have := Zah hV (i := t) (j := k) (by omega) (by omega)
     unfold ltL at b4 ⊢; omega
   exact Zj9 t
  rw [if_neg c1]
  by_cases c2 : P.length + U.length + V.length - (P.length + U.length) = 1
  ·
   rw [if_pos c2]
   have hv1 : V.length = 1 := by omega
   obtain ⟨y, rfl⟩ : ∃ x, V = [x] := List.length_eq_one_iff.1 hv1
   obtain ⟨b1, b2, b3, b4⟩ := Zf0 (Zgc left (P.length + U.length) (P ++ (U ++ ([y] ++ R)))) (P.length + U.length - P.length) P.length (P.length + U.length) (by omega) (by omega)
   generalize bs _ _ _ _ = i at b1 b2 b3 b4 ⊢
   obtain ⟨t, rfl⟩ : ∃ t, i = P.length + t := ⟨i - P.length, by omega⟩
   have gy := gV 0 (by simp)
   rw [Nat.add_zero] at gy
   have hp : ∀ k, k < U.length → Zgc left (P.length + U.length) (P ++ (U ++ ([y] ++ R))) (P.length + k) = !decide (ltL left y (U.getD k 0)) := fun k hk => by
    unfold Zgc; rw [gU k hk, gy]; rfl
   have ht : t ≤ U.length := by omega
   have e2 : P ++ (U ++ ([y] ++ R)) = (P ++ U.take t) ++ (U.drop t ++ y :: R) := by
    rw [List.append_assoc, ← List.append_assoc (U.take t), List.take_append_drop]; rfl
   have e3 : P.length + U.length = (P ++ U.take t).length + (U.length - t) := by simp; omega
   rw [show P.length + U.length - (P.length + t) = U.length - t by omega, e2, e3, Zth (P ++ U.take t) R y (U.length - t) (U.drop t) (by simp)]
   refine ⟨U.take t ++ y :: U.drop t, by simp, Zj2 hU (fun z hz => huv z hz y (by simp)) (fun k k1 k2 => ?_) (fun k k1 k2 => ?_), ?_⟩
   ·
    rcases b3 with b3 | b3
    · omega
    obtain ⟨t', rfl⟩ : ∃ t', t = t' + 1 := ⟨t - 1, by omega⟩
    rw [show P.length + (t' + 1) - 1 = P.length + t' by omega, hp t' (by omega)] at b3
    have b3 := of_decide_eq_false (Bool.not_eq_true' _ |>.mp b3)
    have := Zah hU (i := k) (j := t') (by omega) (by omega)
    unfold ltL at b3 ⊢; omega
   · rcases b4 with b4 | b4
     · omega
     rw [hp t (by omega)] at b4
     have b4 : ltL left y (U.getD t 0) := by simpa using b4
     have := Zah hU (i := t) (j := k) (by omega) (by omega)
     unfold ltL at b4 ⊢; omega
   exact (Zj9 t).trans (by simpa using (List.perm_append_comm (l₁ := [y]) (l₂ := U)))
  rw [if_neg c2]
  obtain ⟨h, hh⟩ : ∃ h, h = (U.length + V.length) / 2 := ⟨_, rfl⟩
  have hmid : (P.length + (P.length + U.length + V.length)) / 2 = P.length + h := by omega
  have hlo : Zd7 P.length (P.length + U.length) (P.length + U.length + V.length) = if h < U.length then P.length + (h - V.length) else P.length := by
   unfold Zd7; rw [hmid]
   by_cases q : h < U.length
   · rw [if_pos q, if_pos (by omega)]; omega
   rw [if_neg q, if_neg (by omega)]
  have hhi : Zeb P.length (P.length + U.length) (P.length + U.length + V.length) = if h < U.length then P.length + h else P.length + U.length := by
   unfold Zeb; rw [hmid]
   by_cases q : h < U.length
   · rw [if_pos q, if_pos (by omega)]
   rw [if_neg q, if_neg (by omega)]
  have hle : Zd7 P.length (P.length + U.length) (P.length + U.length + V.length) ≤ Zeb P.length (P.length + U.length) (P.length + U.length + V.length) := by
   rw [hlo, hhi]; split <;> omega
  obtain ⟨b1, b2, b3, b4⟩ := Zf0 (Zkl left ((P.length + (P.length + U.length + V.length)) / 2 + (P.length + U.length)) (P ++ (U ++ (V ++ R)))) (Zeb P.length (P.length + U.length) (P.length + U.length + V.length) - Zd7 P.length (P.length + U.length) (P.length + U.length + V.length)) _ _ hle (Nat.le_refl _)
  have hsd : Ztb left P.length (P.length + U.length) (P.length + U.length + V.length) (P ++ (U ++ (V ++ R))) = bs (Zkl left ((P.length + (P.length + U.length + V.length)) / 2 + (P.length + U.length)) (P ++ (U ++ (V ++ R)))) (Zeb P.length (P.length + U.length) (P.length + U.length + V.length) - Zd7 P.length (P.length + U.length) (P.length + U.length + V.length)) (Zd7 P.length (P.length + U.length) (P.length + U.length + V.length)) (Zeb P.length (P.length + U.length) (P.length + U.length + V.length)) := rfl
  rw [hlo, hhi] at b1 b2 b3 b4
  rw [hlo, hhi] at hsd
  rw [hsd]
  rw [hmid] at b1 b2 b3 b4
  rw [hmid]
  clear hsd hle hlo hhi
  generalize bs _ _ _ _ = st at b1 b2 b3 b4 ⊢
  obtain ⟨s, rfl⟩ : ∃ s, st = P.length + s := ⟨st - P.length, by split at b1 <;> omega⟩
  have hpc : ∀ c, c < U.length → c + 1 ≤ h → h - 1 - c < V.length → Zkl left (P.length + h + (P.length + U.length)) (P ++ (U ++ (V ++ R))) (P.length + c) = !decide (ltL left (V.getD (h - 1 - c) 0) (U.getD c 0)) := fun c q1 q2 q3 => by
   unfold Zkl
   rw [show P.length + h + (P.length + U.length) - 1 - (P.length + c) = P.length + U.length + (h - 1 - c) by omega, gV _ q3, gU c q1]
  have hs1 : h ≤ s + V.length := by split at b1 <;> omega
  have hs2 : s ≤ h := by split at b2 <;> omega
  have hs3 : s ≤ U.length := by split at b2 <;> omega
  have k1 : s = 0 ∨ h = s + V.length ∨ ¬ ltL left (V.getD (h - s) 0) (U.getD (s - 1) 0) := by
   rcases b3 with b3 | b3
   · split at b3 <;> omega
   by_cases z : s = 0
   · exact .inl z
   by_cases z2 : h = s + V.length
   · exact .inr (.inl z2)
   obtain ⟨s', rfl⟩ : ∃ s', s = s' + 1 := ⟨s - 1, by omega⟩
   rw [show P.length + (s' + 1) - 1 = P.length + s' by omega, hpc s' (by omega) (by omega) (by omega)] at b3
   refine .inr (.inr ?_)
   rw [show h - (s' + 1) = h - 1 - s' by omega, Nat.add_sub_cancel]
   simpa using b3
  have k2 : s = h ∨ s = U.length ∨ ltL left (V.getD (h - 1 - s) 0) (U.getD s 0) := by
   rcases b4 with b4 | b4
   · split at b4 <;> omega
   by_cases z : s = h
   · exact .inl z
   by_cases z2 : s = U.length
   · exact .inr (.inl z2)
   rw [hpc s (by omega) (by omega) (by omega)] at b4
   exact .inr (.inr (by simpa using b4))
  clear b1 b2 b3 b4 hpc
  obtain ⟨hA, hB⟩ := Zin hU hV hs1 hs2 hs3 k1 k2
  clear k1 k2
  obtain ⟨t, ht⟩ : ∃ t, t = h - s := ⟨_, rfl⟩
  rw [← ht] at hA hB
  have he : P.length + h + (P.length + U.length) - (P.length + s) = P.length + U.length + t := by omega
  dsimp only
  rw [he]
  have hrot : Zgf (P.length + s) (P.length + U.length) (P.length + U.length + t) (P ++ (U ++ (V ++ R))) = P ++ ((U.take s ++ V.take t) ++ ((U.drop s ++ V.drop t) ++ R)) := by
   unfold Zgf
   have lt : (U.take s).length = s := by simp; omega
   have ld : (U.drop s).length = U.length - s := by simp
   have lv : (V.take t).length = t := by simp; omega
   by_cases q : P.length + s < P.length + U.length ∧ P.length + U.length < P.length + U.length + t
   ·
    rw [if_pos q]
    unfold Zj3
    have h1 := Zik (P.length + U.length + t - (P.length + s)) (P ++ U.take s) (U.drop s) (V.take t) (V.drop t ++ R) (by omega) (by omega) (by omega)
    rw [List.length_append, lt, ld, lv, show P.length + s + (U.length - s) = P.length + U.length by omega] at h1
    have e0 : P ++ U.take s ++ (U.drop s ++ (V.take t ++ (V.drop t ++ R))) = P ++ (U ++ (V ++ R)) := by
     rw [← List.append_assoc (V.take t), List.take_append_drop, List.append_assoc, ← List.append_assoc (U.take s), List.take_append_drop]
    rw [e0] at h1
    rw [show P.length + U.length - (P.length + s) = U.length - s by omega, show P.length + U.length + t - (P.length + U.length) = t by omega, h1]
    simp
   rw [if_neg q]
   rcases Nat.lt_or_ge s U.length with q1 | q1
   · obtain rfl : t = 0 := by omega
     have : U.take s ++ (U.drop s ++ (V ++ R)) = U ++ (V ++ R) := by rw [← List.append_assoc, List.take_append_drop]
     simp [this]
   obtain rfl : s = U.length := by omega
   have : V.take t ++ (V.drop t ++ R) = V ++ R := by rw [← List.append_assoc, List.take_append_drop]
   simp [this]
  rw [hrot]
  have hUt : (U.take s).Pairwise (Qz left) := Zim hU s
  have hVt : (V.take t).Pairwise (Qz left) := Zim hV t
  have hUd : (U.drop s).Pairwise (Qz left) := Zij hU s
  have hVd : (V.drop t).Pairwise (Qz left) := Zij hV t
  have lt : (U.take s).length = s := by simp; omega
  have ld : (U.drop s).length = U.length - s := by simp
  have lv : (V.take t).length = t := by simp; omega
  have lw : (V.drop t).length = V.length - t := by simp
  have first : ∃ M1, (if P.length < P.length + s ∧ P.length + s < P.length + h then Zcn left f P.length (P.length + s) (P.length + h) (P ++ ((U.take s ++ V.take t) ++ ((U.drop s ++ V.drop t) ++ R))) else P ++ ((U.take s ++ V.take t) ++ ((U.drop s ++ V.drop t) ++ R))) = P ++ (M1 ++ ((U.drop s ++ V.drop t) ++ R)) ∧ M1.Pairwise (Qz left) ∧ M1.Perm (U.take s ++ V.take t) := by
   by_cases q : P.length < P.length + s ∧ P.length + s < P.length + h
   · rw [if_pos q]
     obtain ⟨M, e, m1, m2⟩ := Zfz left f P (U.take s) (V.take t) ((U.drop s ++ V.drop t) ++ R) hUt hVt (fun u hu v hv => huv u (List.mem_of_mem_take hu) v (List.mem_of_mem_take hv)) (by omega) (by omega) (by omega)
     rw [lt, lv, show P.length + s + t = P.length + h by omega] at e
     exact ⟨M, by rw [List.append_assoc]; exact e, m1, m2⟩
   rw [if_neg q]
   refine ⟨_, rfl, Zjo ?_ hUt hVt, List.Perm.refl _⟩
   rcases Nat.eq_zero_or_pos s with z | z
   · exact .inl (List.eq_nil_of_length_eq_zero (by omega))
   exact .inr (List.eq_nil_of_length_eq_zero (by omega))
  obtain ⟨M1, e1, m1, p1⟩ := first
  rw [e1]
  have lm : M1.length = h := by rw [p1.length_eq]; simp; omega
  have second : ∃ M2, (if P.length + h < P.length + U.length + t ∧ P.length + U.length + t < P.length + U.length + V.length then Zcn left f (P.length + h) (P.length + U.length + t) (P.length + U.length + V.length) (P ++ (M1 ++ ((U.drop s ++ V.drop t) ++ R))) else P ++ (M1 ++ ((U.drop s ++ V.drop t) ++ R))) = P ++ (M1 ++ (M2 ++ R)) ∧ M2.Pairwise (Qz left) ∧ M2.Perm (U.drop s ++ V.drop t) := by
   by_cases q : P.length + h < P.length + U.length + t ∧ P.length + U.length + t < P.length + U.length + V.length
   · rw [if_pos q]
     obtain ⟨M, e, m1, m2⟩ := Zfz left f (P ++ M1) (U.drop s) (V.drop t) R hUd hVd (fun u hu v hv => huv u (List.mem_of_mem_drop hu) v (List.mem_of_mem_drop hv)) (by omega) (by omega) (by omega)
     rw [List.length_append, lm, ld, lw, show P.length + h + (U.length - s) = P.length + U.length + t by omega, show P.length + U.length + t + (V.length - t) = P.length + U.length + V.length by omega] at e
     refine ⟨M, ?_, m1, m2⟩
     rw [show P ++ (M1 ++ ((U.drop s ++ V.drop t) ++ R)) = P ++ M1 ++ (U.drop s ++ (V.drop t ++ R)) by simp, e]
     simp
   rw [if_neg q]
   refine ⟨_, rfl, Zjo ?_ hUd hVd, List.Perm.refl _⟩
   rcases Nat.lt_or_ge s U.length with z | z
   · exact .inr (List.eq_nil_of_length_eq_zero (by omega))
   exact .inl (List.eq_nil_of_length_eq_zero (by omega))
  obtain ⟨M2, e2, m2, p2⟩ := second
  rw [e2]
  obtain ⟨r1, r2⟩ := Zvo hU hV huv hA hB m1 m2 p1 p2
  exact ⟨M1 ++ M2, by simp, r1, r2⟩
def Srt (left : List Int) (M : List Nat) (a len : Nat) : Prop := M.Pairwise (Qz left) ∧ M.Perm (List.range' a len)
def Zd1 (left : List Int) (k a n : Nat) (W : List Nat) : Prop := W.length = n - a ∧ ∀ q, a + q * k < n → Srt left ((W.drop (q * k)).take k) (a + q * k) (min k (n - (a + q * k)))
def Yv (left : List Int) (n : Nat) : Nat → Nat → List Nat → List Nat
 | 0, a, L => Zdd left a n L
 | f + 1, a, L => if a + 20 ≤ n then Yv left n f (a + 20) (Zdd left a (a + 20) L) else Zdd left a n L
def Zcl (left : List Int) (k n a : Nat) (L : List Nat) : List Nat := if a + k < n then Zcn left (2 * k) a (a + k) n L else L
def Yr (left : List Int) (k n : Nat) : Nat → Nat → List Nat → List Nat
 | 0, a, L => Zcl left k n a L
 | f + 1, a, L => if a + 2 * k ≤ n then Yr left k n f (a + 2 * k) (Zcn left (2 * k) a (a + k) (a + 2 * k) L) else Zcl left k n a L
def Za0 (left : List Int) (n : Nat) : Nat → Nat → List Nat → List Nat
 | 0, _, L => L
 | f + 1, k, L => if k < n then Za0 left n f (2 * k) (Yr left k n n 0 L) else L
def Zcx (left : List Int) (n : Nat) (L : List Nat) : List Nat := Za0 left n n 20 (Yv left n n 0 L)
theorem Zd1.one {left : List Int} {k a n : Nat} {M : List Nat} (h : Srt left M a (n - a)) (hk : n ≤ a + k) : Zd1 left k a n M := by
 have hl : M.length = n - a := by rw [h.2.length_eq]; simp
 refine ⟨hl, fun q hq => ?_⟩
 have hq0 : q = 0 := by
  rcases Nat.eq_zero_or_pos q with z | z
  · exact z
  have : k ≤ q * k := Nat.le_mul_of_pos_left k z
  omega
 subst hq0
 rw [Nat.zero_mul, List.drop_zero, List.take_of_length_le (by omega), Nat.add_zero, show min k (n - a) = n - a by omega]
 exact h
theorem Zd1.cons {left : List Int} {k a n : Nat} {M W : List Nat} (h : Srt left M a k) (hn : a + k ≤ n) (hW : Zd1 left k (a + k) n W) : Zd1 left k a n (M ++ W) := by
 have hl : M.length = k := by rw [h.2.length_eq]; simp
 refine ⟨by rw [List.length_append, hl, hW.1]; omega, fun q hq => ?_⟩
 cases q with
 | zero =>
  rw [Nat.zero_mul, List.drop_zero, List.take_append_of_le_length (by omega), List.take_of_length_le (by omega), Nat.add_zero, show min k (n - a) = k by omega]
  exact h
 | succ q =>
  have e : (q + 1) * k = k + q * k := by rw [Nat.succ_mul]; omega
  rw [e] at hq ⊢
  have := hW.2 q (by omega)
  rw [List.drop_append, List.drop_of_length_le (by omega), hl, Nat.add_sub_cancel_left, List.nil_append, ← Nat.add_assoc]
  exact this
theorem Zd1.split {left : List Int} {k a n : Nat} {W : List Nat} (h : Zd1 left k a n W) (hn : a + k ≤ n) (hk : 0 < k) : ∃ M W', W = M ++ W' ∧ Srt left M a k ∧ Zd1 left k (a + k) n W' := by
 refine ⟨W.take k, W.drop k, (List.take_append_drop _ _).symm, ?_, by rw [List.length_drop, h.1]; omega, fun q hq => ?_⟩
 · have := h.2 0 (by omega)
   rw [Nat.zero_mul, List.drop_zero, Nat.add_zero, show min k (n - a) = k by omega] at this
   exact this
 have := h.2 (q + 1) (by rw [Nat.succ_mul]; omega)
 rw [Nat.succ_mul, Nat.add_comm (q * k) k, ← List.drop_drop, ← Nat.add_assoc] at this
 exact this
theorem Zd1.all {left : List Int} {k a n : Nat} {W : List Nat} (h : Zd1 left k a n W) (hn : n ≤ a + k) (ha : a < n) : Srt left W a (n - a) := by
 have := h.2 0 (by omega)
 rw [Nat.zero_mul, List.drop_zero, Nat.add_zero, show min k (n - a) = n - a by omega, List.take_of_length_le (by rw [h.1]; omega)] at this
 exact this
theorem Zkr (a k : Nat) : (List.range' a k).Pairwise (· < ·) := List.pairwise_lt_range'
theorem Zfk (left : List Int) (n : Nat) : ∀ (f a : Nat) (P : List Nat), P.length = a → a ≤ n → n - a ≤ f → ∃ W, Yv left n f a (P ++ List.range' a (n - a)) = P ++ W ∧ Zd1 left 20 a n W
 | 0, a, P, hP, ha, hf => by
  subst hP
  have e : n - P.length = 0 := by omega
  rw [Yv, e]
  obtain ⟨S, h1, h2, h3⟩ := Ze5 left P (List.range' P.length 0) [] (Zkr _ _)
  rw [show n = P.length + (List.range' P.length 0).length by simp; omega]
  refine ⟨S, by simpa using h1, Zd1.one (by simp only [List.length_range', Nat.add_sub_cancel_left]; exact ⟨h2, h3⟩) (by simp)⟩
 | f + 1, a, P, hP, ha, hf => by
  subst hP
  rw [Yv]
  by_cases h20 : P.length + 20 ≤ n
  ·
   rw [if_pos h20]
   obtain ⟨S, h1, h2, h3⟩ := Ze5 left P (List.range' P.length 20) (List.range' (P.length + 20) (n - (P.length + 20))) (Zkr _ _)
   have e : List.range' P.length (n - P.length) = List.range' P.length 20 ++ List.range' (P.length + 20) (n - (P.length + 20)) := by
    rw [List.range'_append_1]; congr 1; omega
   rw [List.length_range'] at h1
   rw [e, ← List.append_assoc, h1]
   have hS : S.length = 20 := by rw [h3.length_eq]; simp
   obtain ⟨W, w1, w2⟩ := Zfk left n f (P.length + 20) (P ++ S) (by simp; omega) h20 (by omega)
   exact ⟨S ++ W, by rw [w1]; simp, Zd1.cons ⟨h2, h3⟩ h20 w2⟩
  rw [if_neg h20]
  obtain ⟨S, h1, h2, h3⟩ := Ze5 left P (List.range' P.length (n - P.length)) [] (Zkr _ _)
  rw [List.length_range', show P.length + (n - P.length) = n by omega] at h1
  exact ⟨S, by simpa using h1, Zd1.one ⟨h2, h3⟩ (by omega)⟩
theorem Srt.merge {left : List Int} {M U V : List Nat} {a k j : Nat} (hU : Srt left U a k) (hV : Srt left V (a + k) j) (h : M.Pairwise (Qz left)) (p : M.Perm (U ++ V)) : Srt left M a (k + j) :=
 ⟨h, p.trans ((hU.2.append hV.2).trans (by rw [List.range'_append_1]))⟩
theorem Srt.less {left : List Int} {U V : List Nat} {a k j : Nat} (hU : Srt left U a k) (hV : Srt left V (a + k) j) : ∀ u ∈ U, ∀ v ∈ V, u < v := by
 intro u hu v hv
 have h1 := List.mem_range'_1.1 (hU.2.mem_iff.1 hu)
 have h2 := List.mem_range'_1.1 (hV.2.mem_iff.1 hv)
 omega
theorem Zkg (left : List Int) (k n : Nat) (hk : 0 < k) : ∀ (f a : Nat) (P W : List Nat), P.length = a → a ≤ n → n - a ≤ f → Zd1 left k a n W → ∃ W', Yr left k n f a (P ++ W) = P ++ W' ∧ Zd1 left (2 * k) a n W' := by
 have tail : ∀ (a : Nat) (P W : List Nat), P.length = a → a ≤ n → n < a + 2 * k → Zd1 left k a n W → ∃ W', Zcl left k n a (P ++ W) = P ++ W' ∧ Zd1 left (2 * k) a n W' := by
  intro a P W hP ha h2 hW
  subst hP
  unfold Zcl
  by_cases h1 : P.length + k < n
  ·
   rw [if_pos h1]
   obtain ⟨U, V, rfl, hU, hV⟩ := hW.split (by omega) hk
   have hV2 := hV.all (by omega) h1
   have lU : U.length = k := by rw [hU.2.length_eq]; simp
   have lV : V.length = n - (P.length + k) := by rw [hV2.2.length_eq]; simp
   obtain ⟨M, e, m1, m2⟩ := Zfz left (2 * k) P U V [] hU.1 hV2.1 (hU.less hV2) (by omega) (by omega) (by omega)
   rw [lU, lV, show P.length + k + (n - (P.length + k)) = n by omega] at e
   refine ⟨M, by simpa using e, Zd1.one ?_ (by omega)⟩
   have := Srt.merge hU hV2 m1 m2
   rw [show k + (n - (P.length + k)) = n - P.length by omega] at this
   exact this
  rw [if_neg h1]
  refine ⟨W, rfl, ?_⟩
  rcases Nat.lt_or_ge P.length n with q | q
  · exact Zd1.one (hW.all (by omega) q) (by omega)
  exact ⟨hW.1, fun q' hq => by omega⟩
 intro f
 induction f with
 | zero =>
  intro a P W hP ha hf hW
  exact tail a P W hP ha (by omega) hW
 | succ f ih =>
  intro a P W hP ha hf hW
  rw [Yr]
  by_cases h1 : a + 2 * k ≤ n
  ·
   rw [if_pos h1]
   subst hP
   obtain ⟨U, W1, rfl, hU, hW1⟩ := hW.split (by omega) hk
   obtain ⟨V, W2, rfl, hV, hW2⟩ := hW1.split (by omega) hk
   have lU : U.length = k := by rw [hU.2.length_eq]; simp
   have lV : V.length = k := by rw [hV.2.length_eq]; simp
   obtain ⟨M, e, m1, m2⟩ := Zfz left (2 * k) P U V W2 hU.1 hV.1 (hU.less hV) (by omega) (by omega) (by omega)
   rw [lU, lV, show P.length + k + k = P.length + 2 * k by omega] at e
   rw [e]
   have hM := Srt.merge hU hV m1 m2
   rw [show k + k = 2 * k by omega] at hM
   have lM : M.length = 2 * k := by rw [hM.2.length_eq]; simp
   rw [show P.length + k + k = P.length + 2 * k by omega] at hW2
   obtain ⟨W', e', r'⟩ := ih (P.length + 2 * k) (P ++ M) W2 (by simp; omega) h1 (by omega) hW2
   exact ⟨M ++ W', by rw [← List.append_assoc, e']; simp, Zd1.cons hM h1 r'⟩
  rw [if_neg h1]
  exact tail a P W hP ha (by omega) hW
theorem Zf6 (left : List Int) (n : Nat) (hn : 0 < n) : ∀ (f k : Nat) (L : List Nat), 0 < k → n ≤ k + f → Zd1 left k 0 n L → Srt left (Za0 left n f k L) 0 n
 | 0, k, L, hk, hf, h => by
  have := h.all (by omega) hn
  exact this
 | f + 1, k, L, hk, hf, h => by
  rw [Za0]
  by_cases h1 : k < n
  · rw [if_pos h1]
    obtain ⟨W', e, r⟩ := Zkg left k n hk n 0 [] L rfl (Nat.zero_le _) (by omega) h
    rw [List.nil_append, List.nil_append] at e
    rw [e]
    exact Zf6 left n hn f (2 * k) W' (by omega) (by omega) r
  rw [if_neg h1]
  exact h.all (by omega) hn
theorem Zn4 (left : List Int) (n : Nat) : (Zcx left n (List.range n)).Pairwise (Qz left) ∧ (Zcx left n (List.range n)).Perm (List.range n) := by
 rcases Nat.eq_zero_or_pos n with rfl | hn
 · exact ⟨List.Pairwise.nil, List.Perm.refl _⟩
 obtain ⟨W, e, r⟩ := Zfk left n n 0 [] rfl (Nat.zero_le _) (by omega)
 unfold Zcx
 rw [List.nil_append, List.nil_append, Nat.sub_zero, ← List.range_eq_range'] at e
 rw [e]
 have := Zf6 left n hn n 20 W (by decide) (by omega) r
 rw [List.range_eq_range']
 exact this
end Go.Proofs.YtgdmcmicfoamlaaGreatDoor
