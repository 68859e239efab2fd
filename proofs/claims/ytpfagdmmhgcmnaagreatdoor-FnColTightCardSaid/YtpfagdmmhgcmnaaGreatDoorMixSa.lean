
set_option linter.unusedVariables false
set_option linter.unusedSimpArgs false
namespace Go.Proofs.YtpfagdmmhgcmnaaGreatDoor
def sumI (l : List Int) : Int := l.foldl (· + ·) 0
def ones (ws : List Int) : List Int := if sumI ws = 0 then ws.map (fun _ => 1) else ws
def ahead (left : List Int) (i j : Nat) : Prop := left.getD i 0 > left.getD j 0 ∨ (left.getD i 0 = left.getD j 0 ∧ i < j)
def nextL (left : List Int) (got : List Bool) : Nat → Nat → Int → Int
 | 0, _, k => k
 | n + 1, i, k => nextL left got n (i + 1) (if got.getD i false = false ∧ (k < 0 ∨ left.getD i 0 > left.getD k.toNat 0) then i else k)
def next (left : List Int) (got : List Bool) : Int := nextL left got left.length 0 (-1)
def handL (left : List Int) : Nat → List Bool → List Int → List Int
 | 0, _, out => out
 | n + 1, got, out =>
  if 0 < out.length then
   let k := next left got
   if 0 ≤ k then handL left n (got.set k.toNat true) (out.set k.toNat (out.getD k.toNat 0 + 1)) else handL left n got out
  else out
def partsL (total sum : Int) (ws : List Int) : List Int := ws.map fun w => total * w / sum
def leftL (total sum : Int) (ws : List Int) : List Int := ws.map fun w => total * w % sum
def shareW (total : Int) (ws : List Int) : List Int :=
 handL (leftL total (sumI ws) ws) (total - sumI (partsL total (sumI ws) ws)).toNat (ws.map fun _ => false) (partsL total (sumI ws) ws)
def share (total : Int) (ws : List Int) : List Int := shareW total (ones ws)
def plus1 (out : List Int) : List Nat → List Int
 | [] => out
 | i :: is => plus1 (out.set i (out.getD i 0 + 1)) is
theorem plus1_length : ∀ (is : List Nat) (out : List Int), (plus1 out is).length = out.length
 | [], _ => rfl
 | i :: is, out => by rw [plus1, plus1_length is]; simp
theorem plus1_append (out : List Int) (a b : List Nat) : plus1 out (a ++ b) = plus1 (plus1 out a) b := by
 induction a generalizing out with
 | nil => rfl
 | cons i a ih => exact ih _
theorem nextL_spec (left : List Int) (got : List Bool) : ∀ (n i : Nat) (k : Int), i + n = left.length →
  (k = -1 ∧ (∀ j, j < i → got.getD j false = true) ∨ ∃ m : Nat, k = m ∧ m < i ∧ got.getD m false = false ∧ ∀ j, j < i → got.getD j false = false → j ≠ m → ahead left m j) →
  (nextL left got n i k = -1 ∧ (∀ j, j < left.length → got.getD j false = true) ∨ ∃ m : Nat, nextL left got n i k = m ∧ m < left.length ∧ got.getD m false = false ∧ ∀ j, j < left.length → got.getD j false = false → j ≠ m → ahead left m j)
 | 0, i, k, h, hk => by
  have : i = left.length := by omega
  subst this
  exact hk
 | n + 1, i, k, h, hk => by
  rw [nextL]
  refine nextL_spec left got n (i + 1) _ (by omega) ?_
  cases hg : got.getD i false with
  | true =>
   rw [if_neg (by simp)]
   rcases hk with ⟨h1, h2⟩ | ⟨m, h1, h2, h3, h4⟩
   ·
    exact Or.inl ⟨h1, fun j hj => by
     rcases Nat.lt_or_ge j i with h' | h'
     ·
      exact h2 j h'
     ·
      have : j = i := by omega
      rw [this]; exact hg⟩
   ·
    refine Or.inr ⟨m, h1, by omega, h3, fun j hj hj2 hj3 => ?_⟩
    rcases Nat.lt_or_ge j i with h' | h'
    ·
     exact h4 j h' hj2 hj3
    ·
     have : j = i := by omega
     rw [this, hg] at hj2; cases hj2
  | false =>
   rcases hk with ⟨h1, h2⟩ | ⟨m, h1, h2, h3, h4⟩
   ·
    subst h1
    rw [if_pos ⟨rfl, Or.inl (by decide)⟩]
    refine Or.inr ⟨i, rfl, by omega, hg, fun j hj hj2 hj3 => ?_⟩
    rw [h2 j (by omega)] at hj2; cases hj2
   ·
    subst h1
    by_cases hm : left.getD i 0 > left.getD m 0
    ·
     rw [if_pos ⟨rfl, Or.inr (by simpa using hm)⟩]
     refine Or.inr ⟨i, rfl, by omega, hg, fun j hj hj2 hj3 => ?_⟩
     by_cases e : j = m
     ·
      subst e; exact Or.inl hm
     ·
      rcases h4 j (by omega) hj2 e with h5 | h5
      ·
       exact Or.inl (by omega)
      ·
       exact Or.inl (by omega)
    ·
     rw [if_neg (fun h => by
      rcases h.2 with h | h
      ·
       omega
      ·
       exact hm (by rwa [Int.toNat_natCast] at h))]
     refine Or.inr ⟨m, rfl, by omega, h3, fun j hj hj2 hj3 => ?_⟩
     rcases Nat.lt_or_ge j i with h' | h'
     ·
      exact h4 j h' hj2 hj3
     ·
      have e : j = i := by omega
      subst e
      rcases Int.lt_or_eq_of_le (show left.getD j 0 ≤ left.getD m 0 by omega) with h5 | h5
      ·
       exact Or.inl h5
      ·
       exact Or.inr ⟨h5.symm, h2⟩
theorem ahead_asymm {left : List Int} {i j : Nat} (h : ahead left i j) (h' : ahead left j i) : False := by
 unfold ahead at h h'
 omega
def GotAre (got : List Bool) (ord : List Nat) (k : Nat) (n : Nat) : Prop := got.length = n ∧ ∀ (p : Nat) (h : p < ord.length), got.getD ord[p] false = decide (p < k)
theorem next_of_ord {left : List Int} {got : List Bool} {ord : List Nat} (hs : ord.Pairwise (ahead left)) (hp : ord.Perm (List.range left.length)) {k : Nat} (hk : k < ord.length) (hg : GotAre got ord k left.length) : next left got = (ord[k] : Int) := by
 have hmem : ∀ j, j < left.length → ∃ (p : Nat) (h : p < ord.length), ord[p] = j := fun j hj => List.getElem_of_mem (hp.mem_iff.2 (List.mem_range.2 hj))
 have hlt : ∀ (p : Nat) (h : p < ord.length), ord[p] < left.length := fun p h => List.mem_range.1 (hp.mem_iff.1 (List.getElem_mem h))
 rcases nextL_spec left got left.length 0 (-1) (by omega) (Or.inl ⟨rfl, fun j hj => by omega⟩) with ⟨_, h2⟩ | ⟨m, h1, h2, h3, h4⟩
 ·
  have := h2 ord[k] (hlt k hk)
  rw [hg.2 k hk] at this
  simp at this
 ·
  rw [next, h1]
  obtain ⟨p, hpl, rfl⟩ := hmem m h2
  rw [hg.2 p hpl] at h3
  have hpk : ¬ p < k := by simpa using h3
  rcases Nat.lt_or_eq_of_le (Nat.not_lt.1 hpk) with hlt' | rfl
  ·
   exfalso
   have h5 := (List.pairwise_iff_getElem.1 hs) k p hk hpl hlt'
   have hne : ord[k] ≠ ord[p] := by
    intro e
    rw [e] at h5
    exact ahead_asymm h5 h5
   exact ahead_asymm h5 (h4 ord[k] (hlt k hk) (by rw [hg.2 k hk]; simp) hne)
  ·
   rfl
theorem handL_ord {left : List Int} {ord : List Nat} (hs : ord.Pairwise (ahead left)) (hp : ord.Perm (List.range left.length)) : ∀ (n k : Nat) (got : List Bool) (out : List Int), out.length = left.length → k + n ≤ ord.length → GotAre got ord k left.length →
  handL left n got out = plus1 out ((ord.drop k).take n)
 | 0, k, got, out, _, _, _ => by simp [handL, plus1]
 | n + 1, k, got, out, ho, hk, hg => by
  have hkl : k < ord.length := by omega
  have hnx := next_of_ord hs hp hkl hg
  have hkl2 : ord[k] < left.length := List.mem_range.1 (hp.mem_iff.1 (List.getElem_mem hkl))
  rw [handL, if_pos (by omega)]
  simp only [hnx]
  rw [if_pos (by omega), List.drop_eq_getElem_cons hkl, List.take_succ_cons, plus1, Int.toNat_natCast]
  refine handL_ord hs hp n (k + 1) _ _ (by simpa using ho) (by omega) ⟨by simpa using hg.1, fun p hpl => ?_⟩
  by_cases e : p = k
  ·
   subst e
   simp [List.getD_eq_getElem?_getD, hg.1, hkl2]
  ·
   have hne : ord[k] ≠ ord[p] := by
    intro e'
    rcases Nat.lt_or_gt_of_ne e with h' | h'
    ·
     have h5 := (List.pairwise_iff_getElem.1 hs) p k hpl hkl h'
     rw [e'] at h5; exact ahead_asymm h5 h5
    ·
     have h5 := (List.pairwise_iff_getElem.1 hs) k p hkl hpl h'
     rw [e'] at h5; exact ahead_asymm h5 h5
   have := hg.2 p hpl
   rw [List.getD_eq_getElem?_getD, List.getElem?_set_ne hne, ← List.getD_eq_getElem?_getD, this]
   have : (p < k + 1) = (p < k) := by simp; omega
   simp only [this]
theorem shareW_ord {total : Int} {ws : List Int} {ord : List Nat} (hs : ord.Pairwise (ahead (leftL total (sumI ws) ws))) (hp : ord.Perm (List.range ws.length)) (hn : (total - sumI (partsL total (sumI ws) ws)).toNat ≤ ws.length) :
  shareW total ws = plus1 (partsL total (sumI ws) ws) (ord.take (total - sumI (partsL total (sumI ws) ws)).toNat) := by
 have hl : (leftL total (sumI ws) ws).length = ws.length := by simp [leftL]
 have hol : ord.length = ws.length := by rw [hp.length_eq]; simp
 unfold shareW
 rw [handL_ord hs (by rw [hl]; exact hp) _ 0 _ _ (by simp [partsL, leftL]) (by omega) ⟨by simp [leftL], fun p h => ?_⟩, List.drop_zero]
 simp [List.getD_eq_getElem?_getD, List.getElem?_map]
 cases ws[ord[p]]? <;> rfl
theorem sumI_from (l : List Int) : ∀ a : Int, l.foldl (· + ·) a = a + sumI l := by
 unfold sumI
 induction l with
 | nil => intro a; simp
 | cons x l ih => intro a; rw [List.foldl_cons, List.foldl_cons, ih, ih (0 + x)]; omega
theorem sumI_nil : sumI [] = 0 := rfl
theorem sumI_cons (x : Int) (l : List Int) : sumI (x :: l) = x + sumI l := by
 show (x :: l).foldl (· + ·) 0 = _
 rw [List.foldl_cons, sumI_from]; omega
theorem sumI_append (a b : List Int) : sumI (a ++ b) = sumI a + sumI b := by
 induction a with
 | nil => simp [sumI_nil]
 | cons x a ih => rw [List.cons_append, sumI_cons, sumI_cons, ih]; omega
theorem sumI_nonneg {l : List Int} (h : ∀ x ∈ l, 0 ≤ x) : 0 ≤ sumI l := by
 induction l with
 | nil => simp [sumI_nil]
 | cons x l ih =>
  rw [sumI_cons]
  have h1 := h x (List.mem_cons_self ..)
  have h2 := ih fun y hy => h y (List.mem_cons_of_mem _ hy)
  omega
theorem sumI_le {l : List Int} {m : Int} (h : ∀ x ∈ l, x ≤ m) : sumI l ≤ m * l.length := by
 induction l with
 | nil => simp [sumI_nil]
 | cons x l ih =>
  rw [sumI_cons, List.length_cons]
  have h1 := h x (List.mem_cons_self ..)
  have h2 := ih fun y hy => h y (List.mem_cons_of_mem _ hy)
  have h3 : m * ((l.length + 1 : Nat) : Int) = m * l.length + m := by rw [Int.natCast_add, Int.mul_add]; simp
  omega
theorem sumI_set {l : List Int} : ∀ {i : Nat} (_ : i < l.length) (x : Int), sumI (l.set i x) = sumI l - l.getD i 0 + x := by
 induction l with
 | nil => intro i h; exact absurd h (Nat.not_lt_zero _)
 | cons y l ih =>
  intro i h x
  cases i with
  | zero => simp only [List.set_cons_zero, sumI_cons, List.getD_cons_zero]; omega
  | succ i => simp only [List.set_cons_succ, sumI_cons, List.getD_cons_succ]; rw [ih (by simpa using h)]; omega
theorem sumI_ge {l : List Int} (h : ∀ x ∈ l, 0 ≤ x) : ∀ x ∈ l, x ≤ sumI l := by
 induction l with
 | nil => intro x hx; cases hx
 | cons y l ih =>
  rw [sumI_cons]
  have h1 := h y (List.mem_cons_self ..)
  have h2 := sumI_nonneg fun z hz => h z (List.mem_cons_of_mem _ hz)
  intro x hx
  rcases List.mem_cons.1 hx with rfl | hx
  ·
   omega
  ·
   have := ih (fun z hz => h z (List.mem_cons_of_mem _ hz)) x hx
   omega
theorem parts_sum {total sum : Int} (hs : 0 < sum) : ∀ ws : List Int, sum * sumI (partsL total sum ws) ≤ total * sumI ws ∧ total * sumI ws ≤ sum * sumI (partsL total sum ws) + (sum - 1) * ws.length
 | [] => by simp [partsL, sumI_nil]
 | w :: ws => by
  have ih := parts_sum (total := total) hs ws
  unfold partsL at ih ⊢
  rw [List.map_cons, sumI_cons, sumI_cons, Int.mul_add, Int.mul_add, List.length_cons]
  have h1 := Int.mul_ediv_add_emod (total * w) sum
  have h2 := Int.emod_nonneg (total * w) (show sum ≠ 0 by omega)
  have h3 := Int.emod_lt_of_pos (total * w) hs
  have h4 : (sum - 1) * ((ws.length + 1 : Nat) : Int) = (sum - 1) * ws.length + (sum - 1) := by rw [Int.natCast_add, Int.mul_add]; simp
  omega
theorem rest_bounds {total : Int} {ws : List Int} (hs : 0 < sumI ws) : sumI (partsL total (sumI ws) ws) ≤ total ∧ total - sumI (partsL total (sumI ws) ws) < ws.length := by
 obtain ⟨h1, h2⟩ := parts_sum (total := total) hs ws
 have hpos : 0 < ws.length := by
  cases ws with
  | nil => simp [sumI_nil] at hs
  | cons x l => simp
 generalize sumI (partsL total (sumI ws) ws) = p at h1 h2 ⊢
 generalize sumI ws = s at hs h1 h2 ⊢
 have h3 : s * p ≤ s * total := by rw [Int.mul_comm s total]; exact h1
 have h4 := Int.le_of_mul_le_mul_left h3 hs
 refine ⟨h4, ?_⟩
 rcases Int.lt_or_le (total - p) ws.length with h | h
 ·
  exact h
 ·
  exfalso
  have h5 : s * (total - p) ≤ (s - 1) * ws.length := by rw [Int.mul_sub, Int.mul_comm s total]; omega
  have h6 : s * (ws.length : Int) ≤ s * (total - p) := Int.mul_le_mul_of_nonneg_left h (by omega)
  have h7 : (s - 1) * (ws.length : Int) = s * ws.length - ws.length := by rw [Int.sub_mul]; simp
  omega
theorem plus1_sum : ∀ (is : List Nat) (out : List Int), (∀ i ∈ is, i < out.length) → sumI (plus1 out is) = sumI out + is.length
 | [], out, _ => by simp [plus1]
 | i :: is, out, h => by
  have hi := h i (List.mem_cons_self ..)
  rw [plus1, plus1_sum is _ (fun j hj => by simpa using h j (List.mem_cons_of_mem _ hj)), sumI_set hi, List.length_cons]
  omega
theorem plus1_ge : ∀ (is : List Nat) (out : List Int) (j : Nat), out.getD j 0 ≤ (plus1 out is).getD j 0
 | [], _, _ => Int.le_refl _
 | i :: is, out, j => by
  rw [plus1]
  refine Int.le_trans ?_ (plus1_ge is _ j)
  simp only [List.getD_eq_getElem?_getD, List.getElem?_set]
  by_cases e : i = j
  ·
   subst e
   by_cases h : i < out.length
   ·
    simp [h]; omega
   ·
    simp [h]
  ·
   simp [e]
theorem ord_exists (left : List Int) : ∃ ord : List Nat, ord.Pairwise (ahead left) ∧ ord.Perm (List.range left.length) := by
 have hdec : ∀ i j, Decidable (ahead left i j) := fun i j => by unfold ahead; infer_instance
 let le : Nat → Nat → Bool := fun i j => !decide (ahead left j i)
 have htot : ∀ a b, (le a b || le b a) = true := by
  intro a b
  simp only [le, Bool.or_eq_true, Bool.not_eq_true', decide_eq_false_iff_not]
  unfold ahead
  omega
 have htr : ∀ a b c, le a b = true → le b c = true → le a c = true := by
  intro a b c
  simp only [le, Bool.not_eq_true', decide_eq_false_iff_not]
  unfold ahead
  omega
 refine ⟨(List.range left.length).mergeSort le, ?_, List.mergeSort_perm _ _⟩
 have h1 := List.pairwise_mergeSort (le := le) htr htot (List.range left.length)
 have h2 : ((List.range left.length).mergeSort le).Nodup := (List.mergeSort_perm _ _).nodup_iff.2 List.nodup_range
 refine (h1.and h2).imp ?_
 rintro a b ⟨h3, h4⟩
 simp only [le, Bool.not_eq_true', decide_eq_false_iff_not] at h3
 unfold ahead at h3 ⊢
 have h5 : a ≠ b := h4
 omega
theorem ones_length (ws : List Int) : (ones ws).length = ws.length := by unfold ones; split <;> simp
theorem ones_pos {ws : List Int} (h : ∀ x ∈ ws, 0 ≤ x) (hn : ws ≠ []) : 0 < sumI (ones ws) ∧ ∀ x ∈ ones ws, 0 ≤ x := by
 unfold ones
 split
 ·
  rename_i h0
  constructor
  ·
   have : ∀ l : List Int, sumI (l.map fun _ => 1) = l.length := by
    intro l
    induction l with
    | nil => rfl
    | cons y l ih => rw [List.map_cons, sumI_cons, ih, List.length_cons]; omega
   rw [this]
   have := List.length_pos_iff.2 hn
   omega
  ·
   intro x hx
   obtain ⟨y, _, rfl⟩ := List.mem_map.1 hx
   decide
 ·
  rename_i h0
  exact ⟨by have := sumI_nonneg h; omega, h⟩
theorem share_spec {total : Int} {ws : List Int} (ht : 0 ≤ total) (h : ∀ x ∈ ws, 0 ≤ x) (hn : ws ≠ []) :
  (share total ws).length = ws.length ∧ sumI (share total ws) = total ∧ (∀ x ∈ share total ws, 0 ≤ x) := by
 obtain ⟨h1, h2⟩ := ones_pos h hn
 have hl := ones_length ws
 unfold share
 generalize ones ws = vs at h1 h2 hl ⊢
 obtain ⟨hb1, hb2⟩ := rest_bounds (total := total) h1
 obtain ⟨ord, ho1, ho2⟩ := ord_exists (leftL total (sumI vs) vs)
 have hll : (leftL total (sumI vs) vs).length = vs.length := by simp [leftL]
 rw [hll] at ho2
 have hlen : ord.length = vs.length := by rw [ho2.length_eq]; simp
 rw [shareW_ord ho1 ho2 (by omega)]
 have hpl : (partsL total (sumI vs) vs).length = vs.length := by simp [partsL]
 have hp0 : ∀ x ∈ partsL total (sumI vs) vs, 0 ≤ x := by
  intro x hx
  obtain ⟨y, hy, rfl⟩ := List.mem_map.1 hx
  exact Int.ediv_nonneg (Int.mul_nonneg ht (h2 y hy)) (by omega)
 refine ⟨by rw [plus1_length, hpl, hl], ?_, ?_⟩
 ·
  rw [plus1_sum _ _ (fun i hi => by rw [hpl]; exact List.mem_range.1 (ho2.mem_iff.1 (List.mem_of_mem_take hi))), List.length_take, hlen]
  omega
 ·
  intro x hx
  obtain ⟨i, hi, rfl⟩ := List.getElem_of_mem hx
  have := plus1_ge (List.take (total - sumI (partsL total (sumI vs) vs)).toNat ord) (partsL total (sumI vs) vs) i
  rw [List.getD_eq_getElem?_getD, List.getD_eq_getElem?_getD, List.getElem?_eq_getElem hi, Option.getD_some] at this
  refine Int.le_trans ?_ this
  rw [plus1_length] at hi
  rw [List.getElem?_eq_getElem hi]
  exact hp0 _ (List.getElem_mem hi)
def addAt (cols : List Int) (a : Nat) : List Int → List Int
 | [] => cols
 | x :: xs => addAt (cols.set a (cols.getD a 0 + x)) (a + 1) xs
theorem addAt_length : ∀ (xs cols : List Int) (a : Nat), (addAt cols a xs).length = cols.length
 | [], _, _ => rfl
 | x :: xs, cols, a => by rw [addAt, addAt_length xs]; simp
theorem addAt_get : ∀ (xs cols : List Int) (a j : Nat), a + xs.length ≤ cols.length → (addAt cols a xs).getD j 0 = cols.getD j 0 + if a ≤ j ∧ j < a + xs.length then xs.getD (j - a) 0 else 0
 | [], cols, a, j, _ => by rw [addAt, if_neg (by simp only [List.length_nil]; omega)]; omega
 | x :: xs, cols, a, j, h => by
  simp only [List.length_cons] at h ⊢
  rw [addAt, addAt_get xs _ _ _ (by simp; omega)]
  by_cases e : j = a
  ·
   subst e
   rw [if_neg (by omega), if_pos (by omega), Nat.sub_self, List.getD_cons_zero]
   simp only [List.getD_eq_getElem?_getD, List.getElem?_set]
   simp [show j < cols.length by omega]
  ·
   have h1 : (cols.set a (cols.getD a 0 + x)).getD j 0 = cols.getD j 0 := by
    simp only [List.getD_eq_getElem?_getD]
    rw [List.getElem?_set_ne (Ne.symm e)]
   rw [h1]
   by_cases h2 : a + 1 ≤ j ∧ j < a + 1 + xs.length
   ·
    rw [if_pos h2, if_pos (by omega), show j - a = j - (a + 1) + 1 by omega, List.getD_cons_succ]
   ·
    rw [if_neg h2, if_neg (by omega)]
theorem addAt_snoc (xs : List Int) (y : Int) : ∀ (cols : List Int) (a : Nat), addAt cols a (xs ++ [y]) = (addAt cols a xs).set (a + xs.length) ((addAt cols a xs).getD (a + xs.length) 0 + y) := by
 induction xs with
 | nil => intro cols a; simp [addAt]
 | cons x xs ih =>
  intro cols a
  rw [List.cons_append, addAt, ih, addAt, List.length_cons, show a + (xs.length + 1) = a + 1 + xs.length by omega]
theorem getD_nonneg {l : List Int} (h : ∀ x ∈ l, 0 ≤ x) (i : Nat) : 0 ≤ l.getD i 0 := by
 rw [List.getD_eq_getElem?_getD]
 cases e : l[i]? with
 | none => exact Int.le_refl _
 | some v => exact h v (List.mem_of_getElem? e)
theorem addAt_ge {xs cols : List Int} {a : Nat} (hx : ∀ x ∈ xs, 0 ≤ x) (h : a + xs.length ≤ cols.length) (j : Nat) : cols.getD j 0 ≤ (addAt cols a xs).getD j 0 := by
 rw [addAt_get xs cols a j h]
 split
 ·
  have := getD_nonneg hx (j - a); omega
 ·
  omega
def winS (cols : List Int) (a n : Nat) : Int := sumI ((cols.drop a).take n)
theorem winS_succ (cols : List Int) (a n : Nat) (h : a + n < cols.length) : winS cols a (n + 1) = winS cols a n + cols.getD (a + n) 0 := by
 unfold winS
 have hl : n < (cols.drop a).length := by simp; omega
 rw [List.take_succ_eq_append_getElem hl, sumI_append, sumI_cons, sumI_nil, List.getD_eq_getElem?_getD, List.getElem?_eq_getElem h]
 simp
theorem winS_zero (cols : List Int) (a : Nat) : winS cols a 0 = 0 := by simp [winS, sumI_nil]
theorem winS_le {c d : List Int} (hl : c.length = d.length) (h : ∀ j, c.getD j 0 ≤ d.getD j 0) (a : Nat) : ∀ n, a + n ≤ c.length → winS c a n ≤ winS d a n
 | 0, _ => by rw [winS_zero, winS_zero]; omega
 | n + 1, hn => by
  rw [winS_succ c a n (by omega), winS_succ d a n (by omega)]
  have := winS_le hl h a n (by omega)
  have := h (a + n)
  omega
theorem winS_add {xs cols : List Int} {a : Nat} (h : a + xs.length ≤ cols.length) : winS (addAt cols a xs) a xs.length = winS cols a xs.length + sumI xs := by
 have : ∀ n, n ≤ xs.length → winS (addAt cols a xs) a n = winS cols a n + sumI (xs.take n) := by
  intro n
  induction n with
  | zero => intro _; simp [winS_zero, sumI_nil]
  | succ n ih =>
   intro hn
   rw [winS_succ _ a n (by rw [addAt_length]; omega), winS_succ _ a n (by omega), ih (by omega), addAt_get xs cols a (a + n) h, if_pos (by omega), List.take_succ_eq_append_getElem (by omega), sumI_append, sumI_cons, sumI_nil, Nat.add_sub_cancel_left, List.getD_eq_getElem?_getD (l := xs), List.getElem?_eq_getElem (show n < xs.length by omega)]
   simp
   omega
 rw [this xs.length (Nat.le_refl _), List.take_length]
end Go.Proofs.YtpfagdmmhgcmnaaGreatDoor

namespace Go.Proofs.YtpfagdmmhgcmnaaGreatDoor
def ltL (left : List Int) (x y : Nat) : Prop := left.getD x 0 > left.getD y 0
theorem ahead_of_lt {left : List Int} {a b : Nat} (h : ltL left a b) : ahead left a b := Or.inl h
theorem ahead_of_not {left : List Int} {a b : Nat} (h : ¬ ltL left b a) (hab : a < b) : ahead left a b := by unfold ltL at h; unfold ahead; omega
theorem sorted_mono {left : List Int} {S : List Nat} (h : S.Pairwise (ahead left)) {i j : Nat} (hij : i ≤ j) (hj : j < S.length) : left.getD (S.getD j 0) 0 ≤ left.getD (S.getD i 0) 0 := by
 rcases Nat.lt_or_eq_of_le hij with h1 | rfl
 ·
  have h2 := (List.pairwise_iff_getElem.1 h) i j (by omega) hj h1
  have e1 : S.getD i 0 = S[i] := by rw [List.getD_eq_getElem?_getD, List.getElem?_eq_getElem (show i < S.length by omega)]; rfl
  have e2 : S.getD j 0 = S[j] := by rw [List.getD_eq_getElem?_getD, List.getElem?_eq_getElem hj]; rfl
  rw [e1, e2]
  unfold ahead at h2
  omega
 ·
  exact Int.le_refl _
theorem mem_take_getD {S : List Nat} {j y : Nat} (h : y ∈ S.take j) : ∃ k, k < j ∧ k < S.length ∧ y = S.getD k 0 := by
 obtain ⟨k, hk, rfl⟩ := List.getElem_of_mem h
 have h1 : k < j ∧ k < S.length := by simp at hk; omega
 refine ⟨k, h1.1, h1.2, ?_⟩
 rw [List.getElem_take, List.getD_eq_getElem?_getD, List.getElem?_eq_getElem h1.2]; rfl
theorem mem_drop_getD {S : List Nat} {j y : Nat} (h : y ∈ S.drop j) : ∃ k, j ≤ k ∧ k < S.length ∧ y = S.getD k 0 := by
 obtain ⟨k, hk, rfl⟩ := List.getElem_of_mem h
 have h1 : j + k < S.length := by simp at hk; omega
 refine ⟨j + k, by omega, h1, ?_⟩
 rw [List.getElem_drop, List.getD_eq_getElem?_getD, List.getElem?_eq_getElem h1]; rfl
theorem pair_take {α : Type} {R : α → α → Prop} {S : List α} (h : S.Pairwise R) (j : Nat) : (S.take j).Pairwise R := h.sublist (List.take_sublist _ _)
theorem pair_drop {α : Type} {R : α → α → Prop} {S : List α} (h : S.Pairwise R) (j : Nat) : (S.drop j).Pairwise R := h.sublist (List.drop_sublist _ _)
theorem pair_cross {α : Type} {R : α → α → Prop} {S : List α} (h : S.Pairwise R) (j : Nat) : ∀ a ∈ S.take j, ∀ b ∈ S.drop j, R a b := by
 rw [← List.take_append_drop j S, List.pairwise_append] at h
 exact h.2.2
theorem put_sorted {left : List Int} {S : List Nat} {x j : Nat} (hS : S.Pairwise (ahead left)) (h1 : ∀ k, k < j → k < S.length → ahead left (S.getD k 0) x) (h2 : ∀ k, j ≤ k → k < S.length → ahead left x (S.getD k 0)) :
  (S.take j ++ x :: S.drop j).Pairwise (ahead left) := by
 rw [List.pairwise_append, List.pairwise_cons]
 refine ⟨pair_take hS j, ⟨fun b hb => ?_, pair_drop hS j⟩, fun a ha b hb => ?_⟩
 ·
  obtain ⟨k, k1, k2, rfl⟩ := mem_drop_getD hb
  exact h2 k k1 k2
 ·
  rcases List.mem_cons.1 hb with rfl | hb
  ·
   obtain ⟨k, k1, k2, rfl⟩ := mem_take_getD ha
   exact h1 k k1 k2
  ·
   exact pair_cross hS j a ha b hb
theorem put_perm {S : List Nat} {x : Nat} (j : Nat) : (S.take j ++ x :: S.drop j).Perm (x :: S) := by
 have h := (List.perm_middle (l₁ := S.take j) (a := x) (l₂ := S.drop j))
 rw [List.take_append_drop] at h
 exact h
theorem put_last {left : List Int} {S : List Nat} {x j : Nat} (hS : S.Pairwise (ahead left)) (hx : ∀ y ∈ S, y < x) (h1 : ∀ k, k < j → k < S.length → ¬ ltL left x (S.getD k 0)) (h2 : ∀ k, j ≤ k → k < S.length → ltL left x (S.getD k 0)) :
  (S.take j ++ x :: S.drop j).Pairwise (ahead left) :=
 put_sorted hS (fun k hk hl => ahead_of_not (h1 k hk hl) (hx _ (by
  rw [List.getD_eq_getElem?_getD, List.getElem?_eq_getElem hl]; exact List.getElem_mem hl))) (fun k hk hl => ahead_of_lt (h2 k hk hl))
theorem put_first {left : List Int} {V : List Nat} {x i : Nat} (hV : V.Pairwise (ahead left)) (hx : ∀ y ∈ V, x < y) (h1 : ∀ k, k < i → k < V.length → ltL left (V.getD k 0) x) (h2 : ∀ k, i ≤ k → k < V.length → ¬ ltL left (V.getD k 0) x) :
  (V.take i ++ x :: V.drop i).Pairwise (ahead left) :=
 put_sorted hV (fun k hk hl => ahead_of_lt (h1 k hk hl)) (fun k hk hl => ahead_of_not (h2 k hk hl) (hx _ (by
  rw [List.getD_eq_getElem?_getD, List.getElem?_eq_getElem hl]; exact List.getElem_mem hl)))
theorem halves {left : List Int} {U V M1 M2 : List Nat} {s t : Nat} (hU : U.Pairwise (ahead left)) (hV : V.Pairwise (ahead left)) (huv : ∀ u ∈ U, ∀ v ∈ V, u < v)
  (h1 : ∀ i j, i < s → i < U.length → t ≤ j → j < V.length → ¬ ltL left (V.getD j 0) (U.getD i 0)) (h2 : ∀ i j, i < t → i < V.length → s ≤ j → j < U.length → ltL left (V.getD i 0) (U.getD j 0))
  (hM1 : M1.Pairwise (ahead left)) (hM2 : M2.Pairwise (ahead left)) (p1 : M1.Perm (U.take s ++ V.take t)) (p2 : M2.Perm (U.drop s ++ V.drop t)) :
  (M1 ++ M2).Pairwise (ahead left) ∧ (M1 ++ M2).Perm (U ++ V) := by
 have gm : ∀ {L : List Nat} {k : Nat}, k < L.length → L.getD k 0 ∈ L := fun {L k} hl => by
  rw [List.getD_eq_getElem?_getD, List.getElem?_eq_getElem hl]; exact List.getElem_mem hl
 refine ⟨List.pairwise_append.2 ⟨hM1, hM2, fun a ha b hb => ?_⟩, ?_⟩
 ·
  rcases List.mem_append.1 (p1.mem_iff.1 ha) with ha | ha <;> rcases List.mem_append.1 (p2.mem_iff.1 hb) with hb | hb
  ·
   exact pair_cross hU s a ha b hb
  ·
   obtain ⟨i, i1, i2, rfl⟩ := mem_take_getD ha
   obtain ⟨j, j1, j2, rfl⟩ := mem_drop_getD hb
   exact ahead_of_not (h1 i j i1 i2 j1 j2) (huv _ (gm i2) _ (gm j2))
  ·
   obtain ⟨i, i1, i2, rfl⟩ := mem_take_getD ha
   obtain ⟨j, j1, j2, rfl⟩ := mem_drop_getD hb
   exact ahead_of_lt (h2 i j i1 i2 j1 j2)
  ·
   exact pair_cross hV t a ha b hb
 ·
  have h3 := p1.append p2
  refine h3.trans ?_
  have e1 : (U.take s ++ V.take t ++ (U.drop s ++ V.drop t)).Perm (U.take s ++ U.drop s ++ (V.take t ++ V.drop t)) := by
   rw [List.append_assoc, List.append_assoc]
   refine List.Perm.append_left _ ?_
   rw [← List.append_assoc, ← List.append_assoc]
   exact List.Perm.append_right _ List.perm_append_comm
  rw [List.take_append_drop, List.take_append_drop] at e1
  exact e1
theorem halves_of_search {left : List Int} {U V : List Nat} {s h : Nat} (hU : U.Pairwise (ahead left)) (hV : V.Pairwise (ahead left)) (hs1 : h ≤ s + V.length) (hs2 : s ≤ h) (hs3 : s ≤ U.length)
  (hlo : s = 0 ∨ h = s + V.length ∨ ¬ ltL left (V.getD (h - s) 0) (U.getD (s - 1) 0)) (hhi : s = h ∨ s = U.length ∨ ltL left (V.getD (h - 1 - s) 0) (U.getD s 0)) :
  (∀ i j, i < s → i < U.length → h - s ≤ j → j < V.length → ¬ ltL left (V.getD j 0) (U.getD i 0)) ∧ (∀ i j, i < h - s → i < V.length → s ≤ j → j < U.length → ltL left (V.getD i 0) (U.getD j 0)) := by
 constructor
 ·
  intro i j i1 i2 j1 j2
  rcases hlo with h0 | h0 | h0
  ·
   omega
  ·
   omega
  ·
   have m1 := sorted_mono hU (i := i) (j := s - 1) (by omega) (by omega)
   have m2 := sorted_mono hV (i := h - s) (j := j) (by omega) j2
   unfold ltL at h0 ⊢
   omega
 ·
  intro i j i1 i2 j1 j2
  rcases hhi with h0 | h0 | h0
  ·
   omega
  ·
   omega
  ·
   have m1 := sorted_mono hU (i := s) (j := j) j1 j2
   have m2 := sorted_mono hV (i := i) (j := h - 1 - s) (by omega) (by omega)
   unfold ltL at h0 ⊢
   omega
section
variable {α : Type}
theorem set_mid (A B : List α) (x y : α) (n : Nat) (h : n = A.length) : (A ++ x :: B).set n y = A ++ y :: B := by
 subst h
 rw [List.set_append_right _ _ (Nat.le_refl _), Nat.sub_self, List.set_cons_zero]
theorem get_mid (A B : List α) (x d : α) (n : Nat) (h : n = A.length) : (A ++ x :: B).getD n d = x := by
 subst h
 rw [List.getD_eq_getElem?_getD, List.getElem?_append_right (Nat.le_refl _), Nat.sub_self]
 rfl
variable [Inhabited α]
def swapN (zs : List α) (a b : Nat) : Nat → List α
 | 0 => zs
 | n + 1 => ((swapN zs a b n).set (a + n) ((swapN zs a b n).getD (b + n) default)).set (b + n) ((swapN zs a b n).getD (a + n) default)
theorem swapN_app : ∀ (n : Nat) (P X Q Y R : List α) (a b : Nat), X.length = n → Y.length = n → a = P.length → b = P.length + n + Q.length → swapN (P ++ (X ++ (Q ++ (Y ++ R)))) a b n = P ++ (Y ++ (Q ++ (X ++ R)))
 | 0, P, X, Q, Y, R, a, b, hX, hY, _, _ => by
  obtain rfl := List.eq_nil_of_length_eq_zero hX
  obtain rfl := List.eq_nil_of_length_eq_zero hY
  rfl
 | n + 1, P, X, Q, Y, R, a, b, hX, hY, ha, hb => by
  obtain ⟨X', x, rfl⟩ : ∃ L x, X = L ++ [x] := ⟨X.dropLast, X.getLast (by intro e; rw [e] at hX; simp at hX), (List.dropLast_concat_getLast _).symm⟩
  obtain ⟨Y', y, rfl⟩ : ∃ L x, Y = L ++ [x] := ⟨Y.dropLast, Y.getLast (by intro e; rw [e] at hY; simp at hY), (List.dropLast_concat_getLast _).symm⟩
  simp only [List.length_append, List.length_singleton, Nat.add_right_cancel_iff] at hX hY
  have ih := swapN_app n P X' ([x] ++ Q) Y' ([y] ++ R) a b hX hY ha (by simp; omega)
  have e0 : P ++ (X' ++ [x] ++ (Q ++ (Y' ++ [y] ++ R))) = P ++ (X' ++ ([x] ++ Q ++ (Y' ++ ([y] ++ R)))) := by simp
  rw [e0, swapN, ih]
  have e1 : P ++ (Y' ++ ([x] ++ Q ++ (X' ++ ([y] ++ R)))) = (P ++ Y') ++ x :: (Q ++ (X' ++ (y :: R))) := by simp
  have e2 : P ++ (Y' ++ ([x] ++ Q ++ (X' ++ ([y] ++ R)))) = (P ++ Y' ++ [x] ++ Q ++ X') ++ y :: R := by simp
  have g1 : (P ++ (Y' ++ ([x] ++ Q ++ (X' ++ ([y] ++ R))))).getD (b + n) default = y := by rw [e2]; exact get_mid _ _ _ _ _ (by simp; omega)
  have g2 : (P ++ (Y' ++ ([x] ++ Q ++ (X' ++ ([y] ++ R))))).getD (a + n) default = x := by rw [e1]; exact get_mid _ _ _ _ _ (by simp; omega)
  rw [g1, g2, e1, set_mid _ _ _ _ _ (by simp; omega)]
  have e3 : P ++ Y' ++ y :: (Q ++ (X' ++ y :: R)) = (P ++ Y' ++ [y] ++ Q ++ X') ++ y :: R := by simp
  rw [e3, set_mid _ _ _ _ _ (by simp; omega)]
  simp
end
end Go.Proofs.YtpfagdmmhgcmnaaGreatDoor
