
set_option linter.unusedVariables false
set_option linter.unusedSimpArgs false
set_option maxHeartbeats 400000
set_option maxRecDepth 100000
namespace Go.Proofs.YtgdmcmicfoamlaaGreatDoor
def Zq (l : List Int) : Int := l.foldl (· + ·) 0
def Zd0 (ws : List Int) : List Int := if Zq ws = 0 then ws.map (fun _ => 1) else ws
def Qz (left : List Int) (i j : Nat) : Prop := left.getD i 0 > left.getD j 0 ∨ (left.getD i 0 = left.getD j 0 ∧ i < j)
def Zhp (left : List Int) (got : List Bool) : Nat → Nat → Int → Int
 | 0, _, k => k
 | n + 1, i, k => Zhp left got n (i + 1) (if got.getD i false = false ∧ (k < 0 ∨ left.getD i 0 > left.getD k.toNat 0) then i else k)
def next (left : List Int) (got : List Bool) : Int := Zhp left got left.length 0 (-1)
def Zdy (left : List Int) : Nat → List Bool → List Int → List Int
 | 0, _, out => out
 | n + 1, got, out =>
  if 0 < out.length then
   let k := next left got
   if 0 ≤ k then Zdy left n (got.set k.toNat true) (out.set k.toNat (out.getD k.toNat 0 + 1)) else Zdy left n got out
  else out
def Qc (total sum : Int) (ws : List Int) : List Int := ws.map fun w => total * w / sum
def Jx (total sum : Int) (ws : List Int) : List Int := ws.map fun w => total * w % sum
def Zgr (total : Int) (ws : List Int) : List Int :=
 Zdy (Jx total (Zq ws) ws) (total - Zq (Qc total (Zq ws) ws)).toNat (ws.map fun _ => false) (Qc total (Zq ws) ws)
def Ye (total : Int) (ws : List Int) : List Int := Zgr total (Zd0 ws)
def Zat (out : List Int) : List Nat → List Int
 | [] => out
 | i :: is => Zat (out.set i (out.getD i 0 + 1)) is
theorem Zdb : ∀ (is : List Nat) (out : List Int), (Zat out is).length = out.length
 | [], _ => rfl
 | i :: is, out => by rw [Zat, Zdb is]; simp
theorem Zmz (out : List Int) (a b : List Nat) : Zat out (a ++ b) = Zat (Zat out a) b := by
 induction a generalizing out with
 | nil => rfl
 | cons i a ih => exact ih _
theorem Zgg (left : List Int) (got : List Bool) : ∀ (n i : Nat) (k : Int), i + n = left.length →
 (k = -1 ∧ (∀ j, j < i → got.getD j false = true) ∨ ∃ m : Nat, k = m ∧ m < i ∧ got.getD m false = false ∧ ∀ j, j < i → got.getD j false = false → j ≠ m → Qz left m j) →
 (Zhp left got n i k = -1 ∧ (∀ j, j < left.length → got.getD j false = true) ∨ ∃ m : Nat, Zhp left got n i k = m ∧ m < left.length ∧ got.getD m false = false ∧ ∀ j, j < left.length → got.getD j false = false → j ≠ m → Qz left m j)
 | 0, i, k, h, hk => by
  have : i = left.length := by omega
  subst this
  exact hk
 | n + 1, i, k, h, hk => by
  rw [Zhp]
  refine Zgg left got n (i + 1) _ (by omega) ?_
  cases hg : got.getD i false with
  | true =>
   rw [if_neg (by simp)]
   rcases hk with ⟨h1, h2⟩ | ⟨m, h1, h2, h3, h4⟩
   · exact Or.inl ⟨h1, fun j hj => by
      rcases Nat.lt_or_ge j i with h' | h'
      · exact h2 j h'
      have : j = i := by omega
      rw [this]; exact hg⟩
   refine Or.inr ⟨m, h1, by omega, h3, fun j hj hj2 hj3 => ?_⟩
   rcases Nat.lt_or_ge j i with h' | h'
   · exact h4 j h' hj2 hj3
   have : j = i := by omega
   rw [this, hg] at hj2; cases hj2
  | false =>
   rcases hk with ⟨h1, h2⟩ | ⟨m, h1, h2, h3, h4⟩
   · subst h1
     rw [if_pos ⟨rfl, Or.inl (by decide)⟩]
     refine Or.inr ⟨i, rfl, by omega, hg, fun j hj hj2 hj3 => ?_⟩
     rw [h2 j (by omega)] at hj2; cases hj2
   subst h1
   by_cases hm : left.getD i 0 > left.getD m 0
   ·
    rw [if_pos ⟨rfl, Or.inr (by simpa using hm)⟩]
    refine Or.inr ⟨i, rfl, by omega, hg, fun j hj hj2 hj3 => ?_⟩
    by_cases e : j = m
    · subst e; exact Or.inl hm
    rcases h4 j (by omega) hj2 e with h5 | h5
    · exact Or.inl (by omega)
    exact Or.inl (by omega)
   rw [if_neg (fun h => by
    rcases h.2 with h | h
    · omega
    exact hm (by rwa [Int.toNat_natCast] at h))]
   refine Or.inr ⟨m, rfl, by omega, h3, fun j hj hj2 hj3 => ?_⟩
   rcases Nat.lt_or_ge j i with h' | h'
   · exact h4 j h' hj2 hj3
   have e : j = i := by omega
   subst e
   rcases Int.lt_or_eq_of_le (show left.getD j 0 ≤ left.getD m 0 by omega) with h5 | h5
   · exact Or.inl h5
   exact Or.inr ⟨h5.symm, h2⟩
theorem Zea {left : List Int} {i j : Nat} (h : Qz left i j) (h' : Qz left j i) : False := by
 unfold Qz at h h'
 omega
def Zs6 (got : List Bool) (ord : List Nat) (k : Nat) (n : Nat) : Prop := got.length = n ∧ ∀ (p : Nat) (h : p < ord.length), got.getD ord[p] false = decide (p < k)
theorem Zon {left : List Int} {got : List Bool} {ord : List Nat} (hs : ord.Pairwise (Qz left)) (hp : ord.Perm (List.range left.length)) {k : Nat} (hk : k < ord.length) (hg : Zs6 got ord k left.length) : next left got = (ord[k] : Int) := by
 have hmem : ∀ j, j < left.length → ∃ (p : Nat) (h : p < ord.length), ord[p] = j := fun j hj => List.getElem_of_mem (hp.mem_iff.2 (List.mem_range.2 hj))
 have hlt : ∀ (p : Nat) (h : p < ord.length), ord[p] < left.length := fun p h => List.mem_range.1 (hp.mem_iff.1 (List.getElem_mem h))
 rcases Zgg left got left.length 0 (-1) (by omega) (Or.inl ⟨rfl, fun j hj => by omega⟩) with ⟨_, h2⟩ | ⟨m, h1, h2, h3, h4⟩
 · have := h2 ord[k] (hlt k hk)
   rw [hg.2 k hk] at this
   simp at this
 rw [next, h1]
 obtain ⟨p, hpl, rfl⟩ := hmem m h2
 rw [hg.2 p hpl] at h3
 have hpk : ¬ p < k := by simpa using h3
 rcases Nat.lt_or_eq_of_le (Nat.not_lt.1 hpk) with hlt' | rfl
 ·
  exfalso
  have h5 := (List.pairwise_iff_getElem.1 hs) k p hk hpl hlt'
  have hne : ord[k] ≠ ord[p] := by
   intro e
   rw [e] at h5
   exact Zea h5 h5
  exact Zea h5 (h4 ord[k] (hlt k hk) (by rw [hg.2 k hk]; simp) hne)
 rfl
theorem Zls {left : List Int} {ord : List Nat} (hs : ord.Pairwise (Qz left)) (hp : ord.Perm (List.range left.length)) : ∀ (n k : Nat) (got : List Bool) (out : List Int), out.length = left.length → k + n ≤ ord.length → Zs6 got ord k left.length →
 Zdy left n got out = Zat out ((ord.drop k).take n)
 | 0, k, got, out, _, _, _ => by simp [Zdy, Zat]
 | n + 1, k, got, out, ho, hk, hg => by
  have hkl : k < ord.length := by omega
  have hnx := Zon hs hp hkl hg
  have hkl2 : ord[k] < left.length := List.mem_range.1 (hp.mem_iff.1 (List.getElem_mem hkl))
  rw [Zdy, if_pos (by omega)]
  simp only [hnx]
  rw [if_pos (by omega), List.drop_eq_getElem_cons hkl, List.take_succ_cons, Zat, Int.toNat_natCast]
  refine Zls hs hp n (k + 1) _ _ (by simpa using ho) (by omega) ⟨by simpa using hg.1, fun p hpl => ?_⟩
  by_cases e : p = k
  · subst e
    simp [List.getD_eq_getElem?_getD, hg.1, hkl2]
  have hne : ord[k] ≠ ord[p] := by
   intro e'
   rcases Nat.lt_or_gt_of_ne e with h' | h'
   · have h5 := (List.pairwise_iff_getElem.1 hs) p k hpl hkl h'
     rw [e'] at h5; exact Zea h5 h5
   have h5 := (List.pairwise_iff_getElem.1 hs) k p hkl hpl h'
   rw [e'] at h5; exact Zea h5 h5
  have := hg.2 p hpl
  rw [List.getD_eq_getElem?_getD, List.getElem?_set_ne hne, ← List.getD_eq_getElem?_getD, this]
  have : (p < k + 1) = (p < k) := by simp; omega
  simp only [this]
theorem Zgs {total : Int} {ws : List Int} {ord : List Nat} (hs : ord.Pairwise (Qz (Jx total (Zq ws) ws))) (hp : ord.Perm (List.range ws.length)) (hn : (total - Zq (Qc total (Zq ws) ws)).toNat ≤ ws.length) :
 Zgr total ws = Zat (Qc total (Zq ws) ws) (ord.take (total - Zq (Qc total (Zq ws) ws)).toNat) := by
 have hl : (Jx total (Zq ws) ws).length = ws.length := by simp [Jx]
 have hol : ord.length = ws.length := by rw [hp.length_eq]; simp
 unfold Zgr
 rw [Zls hs (by rw [hl]; exact hp) _ 0 _ _ (by simp [Qc, Jx]) (by omega) ⟨by simp [Jx], fun p h => ?_⟩, List.drop_zero]
 simp [List.getD_eq_getElem?_getD, List.getElem?_map]
 cases ws[ord[p]]? <;> rfl
theorem Zrt (l : List Int) : ∀ a : Int, l.foldl (· + ·) a = a + Zq l := by
 unfold Zq
 induction l with
 | nil => intro a; simp
 | cons x l ih => intro a; rw [List.foldl_cons, List.foldl_cons, ih, ih (0 + x)]; omega
theorem Jz : Zq [] = 0 := rfl
theorem Qy (x : Int) (l : List Int) : Zq (x :: l) = x + Zq l := by
 show (x :: l).foldl (· + ·) 0 = _
 rw [List.foldl_cons, Zrt]; omega
theorem Zc1 (a b : List Int) : Zq (a ++ b) = Zq a + Zq b := by
 induction a with
 | nil => simp [Jz]
 | cons x a ih => rw [List.cons_append, Qy, Qy, ih]; omega
theorem Zaj {l : List Int} (h : ∀ x ∈ l, 0 ≤ x) : 0 ≤ Zq l := by
 induction l with
 | nil => simp [Jz]
 | cons x l ih =>
  rw [Qy]
  have h1 := h x (List.mem_cons_self ..)
  have h2 := ih fun y hy => h y (List.mem_cons_of_mem _ hy)
  omega
theorem Zd4 {l : List Int} {m : Int} (h : ∀ x ∈ l, x ≤ m) : Zq l ≤ m * l.length := by
 induction l with
 | nil => simp [Jz]
 | cons x l ih =>
  rw [Qy, List.length_cons]
  have h1 := h x (List.mem_cons_self ..)
  have h2 := ih fun y hy => h y (List.mem_cons_of_mem _ hy)
  have h3 : m * ((l.length + 1 : Nat) : Int) = m * l.length + m := by rw [Int.natCast_add, Int.mul_add]; simp
  omega
theorem Zsk {l : List Int} : ∀ {i : Nat} (_ : i < l.length) (x : Int), Zq (l.set i x) = Zq l - l.getD i 0 + x := by
 induction l with
 | nil => intro i h; exact absurd h (Nat.not_lt_zero _)
 | cons y l ih =>
  intro i h x
  cases i with
  | zero => simp only [List.set_cons_zero, Qy, List.getD_cons_zero]; omega
  | succ i => simp only [List.set_cons_succ, Qy, List.getD_cons_succ]; rw [ih (by simpa using h)]; omega
theorem Zby {l : List Int} (h : ∀ x ∈ l, 0 ≤ x) : ∀ x ∈ l, x ≤ Zq l := by
 induction l with
 | nil => intro x hx; cases hx
 | cons y l ih =>
  rw [Qy]
  have h1 := h y (List.mem_cons_self ..)
  have h2 := Zaj fun z hz => h z (List.mem_cons_of_mem _ hz)
  intro x hx
  rcases List.mem_cons.1 hx with rfl | hx
  · omega
  have := ih (fun z hz => h z (List.mem_cons_of_mem _ hz)) x hx
  omega
theorem Zlw {total sum : Int} (hs : 0 < sum) : ∀ ws : List Int, sum * Zq (Qc total sum ws) ≤ total * Zq ws ∧ total * Zq ws ≤ sum * Zq (Qc total sum ws) + (sum - 1) * ws.length
 | [] => by simp [Qc, Jz]
 | w :: ws => by
  have ih := Zlw (total := total) hs ws
  unfold Qc at ih ⊢
  rw [List.map_cons, Qy, Qy, Int.mul_add, Int.mul_add, List.length_cons]
  have h1 := Int.mul_ediv_add_emod (total * w) sum
  have h2 := Int.emod_nonneg (total * w) (show sum ≠ 0 by omega)
  have h3 := Int.emod_lt_of_pos (total * w) hs
  have h4 : (sum - 1) * ((ws.length + 1 : Nat) : Int) = (sum - 1) * ws.length + (sum - 1) := by rw [Int.natCast_add, Int.mul_add]; simp
  omega
theorem Zc3 {total : Int} {ws : List Int} (hs : 0 < Zq ws) : Zq (Qc total (Zq ws) ws) ≤ total ∧ total - Zq (Qc total (Zq ws) ws) < ws.length := by
 obtain ⟨h1, h2⟩ := Zlw (total := total) hs ws
 have hpos : 0 < ws.length := by
  cases ws with
  | nil => simp [Jz] at hs
  | cons x l => simp
 generalize Zq (Qc total (Zq ws) ws) = p at h1 h2 ⊢
 generalize Zq ws = s at hs h1 h2 ⊢
 have h3 : s * p ≤ s * total := by rw [Int.mul_comm s total]; exact h1
 have h4 := Int.le_of_mul_le_mul_left h3 hs
 refine ⟨h4, ?_⟩
 rcases Int.lt_or_le (total - p) ws.length with h | h
 · exact h
 exfalso
 have h5 : s * (total - p) ≤ (s - 1) * ws.length := by rw [Int.mul_sub, Int.mul_comm s total]; omega
 have h6 : s * (ws.length : Int) ≤ s * (total - p) := Int.mul_le_mul_of_nonneg_left h (by omega)
 have h7 : (s - 1) * (ws.length : Int) = s * ws.length - ws.length := by rw [Int.sub_mul]; simp
 omega
theorem Zlk : ∀ (is : List Nat) (out : List Int), (∀ i ∈ is, i < out.length) → Zq (Zat out is) = Zq out + is.length
 | [], out, _ => by simp [Zat]
 | i :: is, out, h => by
  have hi := h i (List.mem_cons_self ..)
  rw [Zat, Zlk is _ (fun j hj => by simpa using h j (List.mem_cons_of_mem _ hj)), Zsk hi, List.length_cons]
  omega
theorem Zjp : ∀ (is : List Nat) (out : List Int) (j : Nat), out.getD j 0 ≤ (Zat out is).getD j 0
 | [], _, _ => Int.le_refl _
 | i :: is, out, j => by
  rw [Zat]
  refine Int.le_trans ?_ (Zjp is _ j)
  simp only [List.getD_eq_getElem?_getD, List.getElem?_set]
  by_cases e : i = j
  · subst e
    by_cases h : i < out.length
    · simp [h]; omega
    simp [h]
  simp [e]
theorem Zjh (left : List Int) : ∃ ord : List Nat, ord.Pairwise (Qz left) ∧ ord.Perm (List.range left.length) := by
 have hdec : ∀ i j, Decidable (Qz left i j) := fun i j => by unfold Qz; infer_instance
 let le : Nat → Nat → Bool := fun i j => !decide (Qz left j i)
 have htot : ∀ a b, (le a b || le b a) = true := by
  intro a b
  simp only [le, Bool.or_eq_true, Bool.not_eq_true', decide_eq_false_iff_not]
  unfold Qz
  omega
 have htr : ∀ a b c, le a b = true → le b c = true → le a c = true := by
  intro a b c
  simp only [le, Bool.not_eq_true', decide_eq_false_iff_not]
  unfold Qz
  omega
 refine ⟨(List.range left.length).mergeSort le, ?_, List.mergeSort_perm _ _⟩
 have h1 := List.pairwise_mergeSort (le := le) htr htot (List.range left.length)
 have h2 : ((List.range left.length).mergeSort le).Nodup := (List.mergeSort_perm _ _).nodup_iff.2 List.nodup_range
 refine (h1.and h2).imp ?_
 rintro a b ⟨h3, h4⟩
 simp only [le, Bool.not_eq_true', decide_eq_false_iff_not] at h3
 unfold Qz at h3 ⊢
 have h5 : a ≠ b := h4
 omega
theorem Zfq (ws : List Int) : (Zd0 ws).length = ws.length := by unfold Zd0; split <;> simp
theorem Zjt {ws : List Int} (h : ∀ x ∈ ws, 0 ≤ x) (hn : ws ≠ []) : 0 < Zq (Zd0 ws) ∧ ∀ x ∈ Zd0 ws, 0 ≤ x := by
 unfold Zd0
 split
 ·
  rename_i h0
  constructor
  ·
   have : ∀ l : List Int, Zq (l.map fun _ => 1) = l.length := by
    intro l
    induction l with
    | nil => rfl
    | cons y l ih => rw [List.map_cons, Qy, ih, List.length_cons]; omega
   rw [this]
   have := List.length_pos_iff.2 hn
   omega
  intro x hx
  obtain ⟨y, _, rfl⟩ := List.mem_map.1 hx
  decide
 rename_i h0
 exact ⟨by have := Zaj h; omega, h⟩
theorem Zaz {total : Int} {ws : List Int} (ht : 0 ≤ total) (h : ∀ x ∈ ws, 0 ≤ x) (hn : ws ≠ []) :
 (Ye total ws).length = ws.length ∧ Zq (Ye total ws) = total ∧ (∀ x ∈ Ye total ws, 0 ≤ x) := by
 obtain ⟨h1, h2⟩ := Zjt h hn
 have hl := Zfq ws
 unfold Ye
 generalize Zd0 ws = vs at h1 h2 hl ⊢
 obtain ⟨hb1, hb2⟩ := Zc3 (total := total) h1
 obtain ⟨ord, ho1, ho2⟩ := Zjh (Jx total (Zq vs) vs)
 have hll : (Jx total (Zq vs) vs).length = vs.length := by simp [Jx]
 rw [hll] at ho2
 have hlen : ord.length = vs.length := by rw [ho2.length_eq]; simp
 rw [Zgs ho1 ho2 (by omega)]
 have hpl : (Qc total (Zq vs) vs).length = vs.length := by simp [Qc]
 have hp0 : ∀ x ∈ Qc total (Zq vs) vs, 0 ≤ x := by
  intro x hx
  obtain ⟨y, hy, rfl⟩ := List.mem_map.1 hx
  exact Int.ediv_nonneg (Int.mul_nonneg ht (h2 y hy)) (by omega)
 refine ⟨by rw [Zdb, hpl, hl], ?_, ?_⟩
 · rw [Zlk _ _ (fun i hi => by rw [hpl]; exact List.mem_range.1 (ho2.mem_iff.1 (List.mem_of_mem_take hi))), List.length_take, hlen]
   omega
 intro x hx
 obtain ⟨i, hi, rfl⟩ := List.getElem_of_mem hx
 have := Zjp (List.take (total - Zq (Qc total (Zq vs) vs)).toNat ord) (Qc total (Zq vs) vs) i
 rw [List.getD_eq_getElem?_getD, List.getD_eq_getElem?_getD, List.getElem?_eq_getElem hi, Option.getD_some] at this
 refine Int.le_trans ?_ this
 rw [Zdb] at hi
 rw [List.getElem?_eq_getElem hi]
 exact hp0 _ (List.getElem_mem hi)
def Qk (cols : List Int) (a : Nat) : List Int → List Int
 | [] => cols
 | x :: xs => Qk (cols.set a (cols.getD a 0 + x)) (a + 1) xs
theorem Jj : ∀ (xs cols : List Int) (a : Nat), (Qk cols a xs).length = cols.length
 | [], _, _ => rfl
 | x :: xs, cols, a => by rw [Qk, Jj xs]; simp
theorem Zb1 : ∀ (xs cols : List Int) (a j : Nat), a + xs.length ≤ cols.length → (Qk cols a xs).getD j 0 = cols.getD j 0 + if a ≤ j ∧ j < a + xs.length then xs.getD (j - a) 0 else 0
 | [], cols, a, j, _ => by rw [Qk, if_neg (by simp only [List.length_nil]; omega)]; omega
 | x :: xs, cols, a, j, h => by
  simp only [List.length_cons] at h ⊢
  rw [Qk, Zb1 xs _ _ _ (by simp; omega)]
  by_cases e : j = a
  · subst e
    rw [if_neg (by omega), if_pos (by omega), Nat.sub_self, List.getD_cons_zero]
    simp only [List.getD_eq_getElem?_getD, List.getElem?_set]
    simp [show j < cols.length by omega]
  have h1 : (cols.set a (cols.getD a 0 + x)).getD j 0 = cols.getD j 0 := by
   simp only [List.getD_eq_getElem?_getD]
   rw [List.getElem?_set_ne (Ne.symm e)]
  rw [h1]
  by_cases h2 : a + 1 ≤ j ∧ j < a + 1 + xs.length
  · rw [if_pos h2, if_pos (by omega), show j - a = j - (a + 1) + 1 by omega, List.getD_cons_succ]
  rw [if_neg h2, if_neg (by omega)]
theorem Zgl (xs : List Int) (y : Int) : ∀ (cols : List Int) (a : Nat), Qk cols a (xs ++ [y]) = (Qk cols a xs).set (a + xs.length) ((Qk cols a xs).getD (a + xs.length) 0 + y) := by
 induction xs with
 | nil => intro cols a; simp [Qk]
 | cons x xs ih =>
  intro cols a
  rw [List.cons_append, Qk, ih, Qk, List.length_cons, show a + (xs.length + 1) = a + 1 + xs.length by omega]
theorem Zn1 {l : List Int} (h : ∀ x ∈ l, 0 ≤ x) (i : Nat) : 0 ≤ l.getD i 0 := by
 rw [List.getD_eq_getElem?_getD]
 cases e : l[i]? with
 | none => exact Int.le_refl _
 | some v => exact h v (List.mem_of_getElem? e)
theorem Zhl {xs cols : List Int} {a : Nat} (hx : ∀ x ∈ xs, 0 ≤ x) (h : a + xs.length ≤ cols.length) (j : Nat) : cols.getD j 0 ≤ (Qk cols a xs).getD j 0 := by
 rw [Zb1 xs cols a j h]
 split
 · have := Zn1 hx (j - a); omega
 omega
def Yk (cols : List Int) (a n : Nat) : Int := Zq ((cols.drop a).take n)
theorem Zct (cols : List Int) (a n : Nat) (h : a + n < cols.length) : Yk cols a (n + 1) = Yk cols a n + cols.getD (a + n) 0 := by
 unfold Yk
 have hl : n < (cols.drop a).length := by simp; omega
 rw [List.take_succ_eq_append_getElem hl, Zc1, Qy, Jz, List.getD_eq_getElem?_getD, List.getElem?_eq_getElem h]
 simp
theorem Zen (cols : List Int) (a : Nat) : Yk cols a 0 = 0 := by simp [Yk, Jz]
theorem Zg7 {c d : List Int} (hl : c.length = d.length) (h : ∀ j, c.getD j 0 ≤ d.getD j 0) (a : Nat) : ∀ n, a + n ≤ c.length → Yk c a n ≤ Yk d a n
 | 0, _ => by rw [Zen, Zen]; omega
 | n + 1, hn => by
  rw [Zct c a n (by omega), Zct d a n (by omega)]
  have := Zg7 hl h a n (by omega)
  have := h (a + n)
  omega
theorem Znn {xs cols : List Int} {a : Nat} (h : a + xs.length ≤ cols.length) : Yk (Qk cols a xs) a xs.length = Yk cols a xs.length + Zq xs := by
 have : ∀ n, n ≤ xs.length → Yk (Qk cols a xs) a n = Yk cols a n + Zq (xs.take n) := by
  intro n
  induction n with
  | zero => intro _; simp [Zen, Jz]
  | succ n ih =>
   intro hn
   rw [Zct _ a n (by rw [Jj]; omega), Zct _ a n (by omega), ih (by omega), Zb1 xs cols a (a + n) h, if_pos (by omega), List.take_succ_eq_append_getElem (by omega), Zc1, Qy, Jz, Nat.add_sub_cancel_left, List.getD_eq_getElem?_getD (l := xs), List.getElem?_eq_getElem (show n < xs.length by omega)]
   simp
   omega
 rw [this xs.length (Nat.le_refl _), List.take_length]
theorem Zsf {a b : List Int} (h : a.Perm b) : Zq a = Zq b := by
 induction h with
 | nil => rfl
 | cons x _ ih => rw [Qy, Qy, ih]
 | swap x y l => rw [Qy, Qy, Qy, Qy]; omega
 | trans _ _ h1 h2 => exact h1.trans h2
theorem Zp1 (l : List Int) : (List.range l.length).map (fun i => l.getD i 0) = l := by
 refine List.ext_getElem (by simp) fun i h1 h2 => ?_
 simp [List.getD_eq_getElem?_getD, h2]
theorem Znp {total sum : Int} : ∀ ws : List Int, sum * Zq (Qc total sum ws) + Zq (Jx total sum ws) = total * Zq ws
 | [] => by simp [Qc, Jx, Jz]
 | w :: ws => by
  have ih := Znp (total := total) (sum := sum) ws
  unfold Qc Jx at ih ⊢
  rw [List.map_cons, List.map_cons, Qy, Qy, Qy, Int.mul_add, Int.mul_add]
  have h1 := Int.mul_ediv_add_emod (total * w) sum
  omega
theorem Zm9 {total : Int} {ws : List Int} {ord : List Nat} (hs : 0 < Zq ws) (ho : ord.Pairwise (Qz (Jx total (Zq ws) ws))) (hp : ord.Perm (List.range ws.length)) :
 ∀ i ∈ ord.take (total - Zq (Qc total (Zq ws) ws)).toNat, 0 < (Jx total (Zq ws) ws).getD i 0 := by
 have hls := Znp (total := total) (sum := Zq ws) ws
 have hrb := Zc3 (total := total) hs
 have hll : (Jx total (Zq ws) ws).length = ws.length := by simp [Jx]
 have hbd : ∀ x ∈ Jx total (Zq ws) ws, 0 ≤ x ∧ x ≤ Zq ws - 1 := by
  intro x hx
  obtain ⟨y, _, rfl⟩ := List.mem_map.1 hx
  have h2 := Int.emod_nonneg (total * y) (show Zq ws ≠ 0 by omega)
  have h3 := Int.emod_lt_of_pos (total * y) hs
  omega
 generalize hL : Jx total (Zq ws) ws = L at ho hls hll hbd ⊢
 generalize Zq (Qc total (Zq ws) ws) = p at hls hrb ⊢
 generalize Zq ws = s at hs hls hbd
 have hgd : ∀ i, 0 ≤ L.getD i 0 ∧ L.getD i 0 ≤ s - 1 := by
  intro i
  rw [List.getD_eq_getElem?_getD]
  cases e : L[i]? with
  | none => exact ⟨by simp, by show (0 : Int) ≤ s - 1; omega⟩
  | some v => exact hbd v (List.mem_of_getElem? e)
 have hsum : Zq (ord.map fun i => L.getD i 0) = Zq L := by
  have h1 := hp.map (fun i => L.getD i 0)
  rw [Zsf h1, ← hll, Zp1]
 intro i hi
 rcases Int.lt_or_eq_of_le (hgd i).1 with h | h
 · exact h
 exfalso
 obtain ⟨k, hk, rfl⟩ := List.getElem_of_mem hi
 have hkn : k < (total - p).toNat ∧ k < ord.length := by simp at hk; omega
 rw [List.getElem_take] at h
 have hz : ∀ j (hj : j < ord.length), k ≤ j → L.getD ord[j] 0 = 0 := by
  intro j hj hkj
  rcases Nat.lt_or_eq_of_le hkj with h1 | rfl
  · have h2 := (List.pairwise_iff_getElem.1 ho) k j hkn.2 hj h1
    have h3 := (hgd ord[j]).1
    unfold Qz at h2
    omega
  exact h.symm
 have hsplit : Zq (ord.map fun i => L.getD i 0) = Zq ((ord.take k).map fun i => L.getD i 0) + Zq ((ord.drop k).map fun i => L.getD i 0) := by
  rw [← Zc1, ← List.map_append, List.take_append_drop]
 have hd : Zq ((ord.drop k).map fun i => L.getD i 0) = 0 := by
  have : ∀ x ∈ (ord.drop k).map (fun i => L.getD i 0), x = 0 := by
   intro x hx
   obtain ⟨y, hy, rfl⟩ := List.mem_map.1 hx
   obtain ⟨j, hj, rfl⟩ := List.getElem_of_mem hy
   have hj' : k + j < ord.length := by simp at hj; omega
   rw [List.getElem_drop]
   exact hz (k + j) hj' (by omega)
  have hle := Zd4 (m := 0) (fun x hx => by rw [this x hx]; exact Int.le_refl _)
  have hge := Zaj (fun x hx => by rw [this x hx]; exact Int.le_refl _)
  omega
 have ht := Zd4 (l := (ord.take k).map fun i => L.getD i 0) (m := s - 1) (fun x hx => by
  obtain ⟨y, _, rfl⟩ := List.mem_map.1 hx
  exact (hgd y).2)
 have hlen : (((ord.take k).map fun i => L.getD i 0).length : Int) = k := by simp; omega
 rw [hlen] at ht
 -- all that is left over is s times what remains
 have h5 : Zq L = s * (total - p) := by rw [Int.mul_sub, Int.mul_comm s total]; omega
 have h6 : (k : Int) + 1 ≤ total - p := by omega
 have h7 : s * ((k : Int) + 1) ≤ s * (total - p) := Int.mul_le_mul_of_nonneg_left h6 (by omega)
 have h8 : (s - 1) * (k : Int) = s * k - k := by rw [Int.sub_mul]; simp
 have h9 : s * ((k : Int) + 1) = s * k + s := by rw [Int.mul_add]; simp
 omega
theorem Zkc : ∀ (is : List Nat) (out : List Int) (j : Nat), j ∉ is → (Zat out is).getD j 0 = out.getD j 0
 | [], _, _, _ => rfl
 | i :: is, out, j, h => by
  rw [Zat, Zkc is _ j (fun h' => h (List.mem_cons_of_mem _ h'))]
  simp only [List.getD_eq_getElem?_getD]
  have hne : i ≠ j := by
   rintro rfl
   exact h (List.mem_cons_self ..)
  rw [List.getElem?_set_ne hne]
theorem Zke {total : Int} {ws : List Int} (hs : 0 < Zq ws) {i : Nat} (hi : ws.getD i 0 = 0) : (Ye total ws).getD i 0 = 0 := by
 unfold Ye Zd0
 rw [if_neg (by omega)]
 obtain ⟨ord, ho1, ho2⟩ := Zjh (Jx total (Zq ws) ws)
 have hll : (Jx total (Zq ws) ws).length = ws.length := by simp [Jx]
 rw [hll] at ho2
 have hrb := Zc3 (total := total) hs
 rw [Zgs ho1 ho2 (by omega)]
 have hm : ∀ (f : Int → Int), f 0 = 0 → (ws.map f).getD i 0 = 0 := by
  intro f hf
  rw [List.getD_eq_getElem?_getD] at hi ⊢
  rw [List.getElem?_map]
  cases e : ws[i]? with
  | none => rfl
  | some v => rw [e] at hi; have : v = 0 := hi; subst this; exact hf
 rw [Zkc _ _ _ (fun hmem => ?_)]
 · exact hm _ (by simp)
 have := Zm9 hs ho1 ho2 i hmem
 rw [show (Jx total (Zq ws) ws).getD i 0 = 0 from hm _ (by simp)] at this
 omega
def ltL (left : List Int) (x y : Nat) : Prop := left.getD x 0 > left.getD y 0
theorem Zfl {left : List Int} {a b : Nat} (h : ltL left a b) : Qz left a b := Or.inl h
theorem Zew {left : List Int} {a b : Nat} (h : ¬ ltL left b a) (hab : a < b) : Qz left a b := by unfold ltL at h; unfold Qz; omega
theorem Zah {left : List Int} {S : List Nat} (h : S.Pairwise (Qz left)) {i j : Nat} (hij : i ≤ j) (hj : j < S.length) : left.getD (S.getD j 0) 0 ≤ left.getD (S.getD i 0) 0 := by
 rcases Nat.lt_or_eq_of_le hij with h1 | rfl
 ·
  have h2 := (List.pairwise_iff_getElem.1 h) i j (by omega) hj h1
  have e1 : S.getD i 0 = S[i] := by rw [List.getD_eq_getElem?_getD, List.getElem?_eq_getElem (show i < S.length by omega)]; rfl
  have e2 : S.getD j 0 = S[j] := by rw [List.getD_eq_getElem?_getD, List.getElem?_eq_getElem hj]; rfl
  rw [e1, e2]
  unfold Qz at h2
  omega
 exact Int.le_refl _
theorem Zej {S : List Nat} {j y : Nat} (h : y ∈ S.take j) : ∃ k, k < j ∧ k < S.length ∧ y = S.getD k 0 := by
 obtain ⟨k, hk, rfl⟩ := List.getElem_of_mem h
 have h1 : k < j ∧ k < S.length := by simp at hk; omega
 refine ⟨k, h1.1, h1.2, ?_⟩
 rw [List.getElem_take, List.getD_eq_getElem?_getD, List.getElem?_eq_getElem h1.2]; rfl
theorem Zed {S : List Nat} {j y : Nat} (h : y ∈ S.drop j) : ∃ k, j ≤ k ∧ k < S.length ∧ y = S.getD k 0 := by
 obtain ⟨k, hk, rfl⟩ := List.getElem_of_mem h
 have h1 : j + k < S.length := by simp at hk; omega
 refine ⟨j + k, by omega, h1, ?_⟩
 rw [List.getElem_drop, List.getD_eq_getElem?_getD, List.getElem?_eq_getElem h1]; rfl
theorem Zim {α : Type} {R : α → α → Prop} {S : List α} (h : S.Pairwise R) (j : Nat) : (S.take j).Pairwise R := h.sublist (List.take_sublist _ _)
theorem Zij {α : Type} {R : α → α → Prop} {S : List α} (h : S.Pairwise R) (j : Nat) : (S.drop j).Pairwise R := h.sublist (List.drop_sublist _ _)
theorem Zgt {α : Type} {R : α → α → Prop} {S : List α} (h : S.Pairwise R) (j : Nat) : ∀ a ∈ S.take j, ∀ b ∈ S.drop j, R a b := by
 rw [← List.take_append_drop j S, List.pairwise_append] at h
 exact h.2.2
theorem Zjl {left : List Int} {S : List Nat} {x j : Nat} (hS : S.Pairwise (Qz left)) (h1 : ∀ k, k < j → k < S.length → Qz left (S.getD k 0) x) (h2 : ∀ k, j ≤ k → k < S.length → Qz left x (S.getD k 0)) :
 (S.take j ++ x :: S.drop j).Pairwise (Qz left) := by
 rw [List.pairwise_append, List.pairwise_cons]
 refine ⟨Zim hS j, ⟨fun b hb => ?_, Zij hS j⟩, fun a ha b hb => ?_⟩
 · obtain ⟨k, k1, k2, rfl⟩ := Zed hb
   exact h2 k k1 k2
 rcases List.mem_cons.1 hb with rfl | hb
 · obtain ⟨k, k1, k2, rfl⟩ := Zej ha
   exact h1 k k1 k2
 exact Zgt hS j a ha b hb
theorem Zj9 {S : List Nat} {x : Nat} (j : Nat) : (S.take j ++ x :: S.drop j).Perm (x :: S) := by
 have h := (List.perm_middle (l₁ := S.take j) (a := x) (l₂ := S.drop j))
 rw [List.take_append_drop] at h
 exact h
theorem Zj2 {left : List Int} {S : List Nat} {x j : Nat} (hS : S.Pairwise (Qz left)) (hx : ∀ y ∈ S, y < x) (h1 : ∀ k, k < j → k < S.length → ¬ ltL left x (S.getD k 0)) (h2 : ∀ k, j ≤ k → k < S.length → ltL left x (S.getD k 0)) :
 (S.take j ++ x :: S.drop j).Pairwise (Qz left) :=
 Zjl hS (fun k hk hl => Zew (h1 k hk hl) (hx _ (by
  rw [List.getD_eq_getElem?_getD, List.getElem?_eq_getElem hl]; exact List.getElem_mem hl))) (fun k hk hl => Zfl (h2 k hk hl))
theorem Zr1 {left : List Int} {V : List Nat} {x i : Nat} (hV : V.Pairwise (Qz left)) (hx : ∀ y ∈ V, x < y) (h1 : ∀ k, k < i → k < V.length → ltL left (V.getD k 0) x) (h2 : ∀ k, i ≤ k → k < V.length → ¬ ltL left (V.getD k 0) x) :
 (V.take i ++ x :: V.drop i).Pairwise (Qz left) :=
 Zjl hV (fun k hk hl => Zfl (h1 k hk hl)) (fun k hk hl => Zew (h2 k hk hl) (hx _ (by
  rw [List.getD_eq_getElem?_getD, List.getElem?_eq_getElem hl]; exact List.getElem_mem hl)))
theorem Zvo {left : List Int} {U V M1 M2 : List Nat} {s t : Nat} (hU : U.Pairwise (Qz left)) (hV : V.Pairwise (Qz left)) (huv : ∀ u ∈ U, ∀ v ∈ V, u < v)
 (h1 : ∀ i j, i < s → i < U.length → t ≤ j → j < V.length → ¬ ltL left (V.getD j 0) (U.getD i 0)) (h2 : ∀ i j, i < t → i < V.length → s ≤ j → j < U.length → ltL left (V.getD i 0) (U.getD j 0))
 (hM1 : M1.Pairwise (Qz left)) (hM2 : M2.Pairwise (Qz left)) (p1 : M1.Perm (U.take s ++ V.take t)) (p2 : M2.Perm (U.drop s ++ V.drop t)) :
 (M1 ++ M2).Pairwise (Qz left) ∧ (M1 ++ M2).Perm (U ++ V) := by
 have gm : ∀ {L : List Nat} {k : Nat}, k < L.length → L.getD k 0 ∈ L := fun {L k} hl => by
  rw [List.getD_eq_getElem?_getD, List.getElem?_eq_getElem hl]; exact List.getElem_mem hl
 refine ⟨List.pairwise_append.2 ⟨hM1, hM2, fun a ha b hb => ?_⟩, ?_⟩
 ·
  rcases List.mem_append.1 (p1.mem_iff.1 ha) with ha | ha <;> rcases List.mem_append.1 (p2.mem_iff.1 hb) with hb | hb
  · exact Zgt hU s a ha b hb
  · obtain ⟨i, i1, i2, rfl⟩ := Zej ha
    obtain ⟨j, j1, j2, rfl⟩ := Zed hb
    exact Zew (h1 i j i1 i2 j1 j2) (huv _ (gm i2) _ (gm j2))
  · obtain ⟨i, i1, i2, rfl⟩ := Zej ha
    obtain ⟨j, j1, j2, rfl⟩ := Zed hb
    exact Zfl (h2 i j i1 i2 j1 j2)
  exact Zgt hV t a ha b hb
 have h3 := p1.append p2
 refine h3.trans ?_
 have e1 : (U.take s ++ V.take t ++ (U.drop s ++ V.drop t)).Perm (U.take s ++ U.drop s ++ (V.take t ++ V.drop t)) := by
  rw [List.append_assoc, List.append_assoc]
  refine List.Perm.append_left _ ?_
  rw [← List.append_assoc, ← List.append_assoc]
  exact List.Perm.append_right _ List.perm_append_comm
 rw [List.take_append_drop, List.take_append_drop] at e1
 exact e1
theorem Zin {left : List Int} {U V : List Nat} {s h : Nat} (hU : U.Pairwise (Qz left)) (hV : V.Pairwise (Qz left)) (hs1 : h ≤ s + V.length) (hs2 : s ≤ h) (hs3 : s ≤ U.length)
 (hlo : s = 0 ∨ h = s + V.length ∨ ¬ ltL left (V.getD (h - s) 0) (U.getD (s - 1) 0)) (hhi : s = h ∨ s = U.length ∨ ltL left (V.getD (h - 1 - s) 0) (U.getD s 0)) :
 (∀ i j, i < s → i < U.length → h - s ≤ j → j < V.length → ¬ ltL left (V.getD j 0) (U.getD i 0)) ∧ (∀ i j, i < h - s → i < V.length → s ≤ j → j < U.length → ltL left (V.getD i 0) (U.getD j 0)) := by
 constructor
 ·
  intro i j i1 i2 j1 j2
  rcases hlo with h0 | h0 | h0
  · omega
  · omega
  have m1 := Zah hU (i := i) (j := s - 1) (by omega) (by omega)
  have m2 := Zah hV (i := h - s) (j := j) (by omega) j2
  unfold ltL at h0 ⊢
  omega
 intro i j i1 i2 j1 j2
 rcases hhi with h0 | h0 | h0
 · omega
 · omega
 have m1 := Zah hU (i := s) (j := j) j1 j2
 have m2 := Zah hV (i := i) (j := h - 1 - s) (by omega) (by omega)
 unfold ltL at h0 ⊢
 omega
section
variable {α : Type}
theorem Zfx (A B : List α) (x y : α) (n : Nat) (h : n = A.length) : (A ++ x :: B).set n y = A ++ y :: B := by
 subst h
 rw [List.set_append_right _ _ (Nat.le_refl _), Nat.sub_self, List.set_cons_zero]
theorem Zd6 (A B : List α) (x d : α) (n : Nat) (h : n = A.length) : (A ++ x :: B).getD n d = x := by
 subst h
 rw [List.getD_eq_getElem?_getD, List.getElem?_append_right (Nat.le_refl _), Nat.sub_self]
 rfl
variable [Inhabited α]
def Zfi (zs : List α) (a b : Nat) : Nat → List α
 | 0 => zs
 | n + 1 => ((Zfi zs a b n).set (a + n) ((Zfi zs a b n).getD (b + n) default)).set (b + n) ((Zfi zs a b n).getD (a + n) default)
theorem Zfu : ∀ (n : Nat) (P X Q Y R : List α) (a b : Nat), X.length = n → Y.length = n → a = P.length → b = P.length + n + Q.length → Zfi (P ++ (X ++ (Q ++ (Y ++ R)))) a b n = P ++ (Y ++ (Q ++ (X ++ R)))
 | 0, P, X, Q, Y, R, a, b, hX, hY, _, _ => by
  obtain rfl := List.eq_nil_of_length_eq_zero hX
  obtain rfl := List.eq_nil_of_length_eq_zero hY
  rfl
 | n + 1, P, X, Q, Y, R, a, b, hX, hY, ha, hb => by
  obtain ⟨X', x, rfl⟩ : ∃ L x, X = L ++ [x] := ⟨X.dropLast, X.getLast (by intro e; rw [e] at hX; simp at hX), (List.dropLast_concat_getLast _).symm⟩
  obtain ⟨Y', y, rfl⟩ : ∃ L x, Y = L ++ [x] := ⟨Y.dropLast, Y.getLast (by intro e; rw [e] at hY; simp at hY), (List.dropLast_concat_getLast _).symm⟩
  simp only [List.length_append, List.length_singleton, Nat.add_right_cancel_iff] at hX hY
  have ih := Zfu n P X' ([x] ++ Q) Y' ([y] ++ R) a b hX hY ha (by simp; omega)
  have e0 : P ++ (X' ++ [x] ++ (Q ++ (Y' ++ [y] ++ R))) = P ++ (X' ++ ([x] ++ Q ++ (Y' ++ ([y] ++ R)))) := by simp
  rw [e0, Zfi, ih]
  have e1 : P ++ (Y' ++ ([x] ++ Q ++ (X' ++ ([y] ++ R)))) = (P ++ Y') ++ x :: (Q ++ (X' ++ (y :: R))) := by simp
  have e2 : P ++ (Y' ++ ([x] ++ Q ++ (X' ++ ([y] ++ R)))) = (P ++ Y' ++ [x] ++ Q ++ X') ++ y :: R := by simp
  have g1 : (P ++ (Y' ++ ([x] ++ Q ++ (X' ++ ([y] ++ R))))).getD (b + n) default = y := by rw [e2]; exact Zd6 _ _ _ _ _ (by simp; omega)
  have g2 : (P ++ (Y' ++ ([x] ++ Q ++ (X' ++ ([y] ++ R))))).getD (a + n) default = x := by rw [e1]; exact Zd6 _ _ _ _ _ (by simp; omega)
  rw [g1, g2, e1, Zfx _ _ _ _ _ (by simp; omega)]
  have e3 : P ++ Y' ++ y :: (Q ++ (X' ++ y :: R)) = (P ++ Y' ++ [y] ++ Q ++ X') ++ y :: R := by simp
  rw [e3, Zfx _ _ _ _ _ (by simp; omega)]
  simp
end
end Go.Proofs.YtgdmcmicfoamlaaGreatDoor
