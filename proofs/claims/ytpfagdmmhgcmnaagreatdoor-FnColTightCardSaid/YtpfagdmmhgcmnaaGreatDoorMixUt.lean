import Derived.Test.YtpfagdmmhgcmnaaGreatDoorMixSk
import Derived.Test.YtpfagdmmhgcmnaaGreatDoorMixTj
set_option linter.unusedVariables false
set_option linter.unusedSimpArgs false
namespace Go.Proofs.YtpfagdmmhgcmnaaGreatDoor
open Go.RowKit
def GCell.has (c : GCell) (r k : Int) : Bool := decide (c.row ≤ r ∧ r < c.row + c.rows ∧ c.col ≤ k ∧ k < c.col + c.cols)
def atL (L : List GCell) (r k : Int) : Int := match L.findIdx? (fun c => c.has r k) with | some i => i | none => -1
def chg (f : Nat → Int) : Nat → List Int × Int
 | 0 => ([], -1)
 | k + 1 => (if 0 ≤ f k ∧ f k ≠ (chg f k).2 then (chg f k).1 ++ [f k] else (chg f k).1, f k)
theorem chg_spec (f : Nat → Int) : ∀ n, (∀ x, x ∈ (chg f n).1 ↔ 0 ≤ x ∧ ∃ k < n, f k = x) ∧ (0 ≤ (chg f n).2 → (chg f n).2 ∈ (chg f n).1)
 | 0 => ⟨fun x => by simp [chg], fun h => absurd h (by simp [chg])⟩
 | n + 1 => by
  obtain ⟨h1, h2⟩ := chg_spec f n
  have key : ∀ x, x ∈ (chg f (n + 1)).1 ↔ 0 ≤ x ∧ ∃ k < n + 1, f k = x := by
   intro x
   show x ∈ (if 0 ≤ f n ∧ f n ≠ (chg f n).2 then (chg f n).1 ++ [f n] else (chg f n).1) ↔ _
   split
   ·
    rename_i hc
    rw [List.mem_append, List.mem_singleton, h1]
    constructor
    ·
     rintro (⟨h3, k, hk, rfl⟩ | rfl)
     ·
      exact ⟨h3, k, by omega, rfl⟩
     ·
      exact ⟨hc.1, n, by omega, rfl⟩
    ·
     rintro ⟨h3, k, hk, rfl⟩
     by_cases e : k = n
     ·
      exact .inr (by rw [e])
     ·
      exact .inl ⟨h3, k, by omega, rfl⟩
   ·
    rename_i hc
    rw [h1]
    constructor
    ·
     rintro ⟨h3, k, hk, rfl⟩; exact ⟨h3, k, by omega, rfl⟩
    ·
     rintro ⟨h3, k, hk, rfl⟩
     by_cases e : k = n
     ·
      subst e
      have h4 : f k = (chg f k).2 := Classical.byContradiction fun h => hc ⟨h3, h⟩
      have h5 := (h1 _).1 (h2 (by omega))
      rw [← h4] at h5
      exact h5
     ·
      exact ⟨h3, k, by omega, rfl⟩
  exact ⟨key, fun h => (key _).2 ⟨h, n, by omega, rfl⟩⟩
def mostL (need : GCell → Int) (j : Nat) (cells : List GCell) (a : Int) : Int := cells.foldl (fun x c => if c.col = (j : Int) then max x (need c) else x) a
theorem mostL_ge (need : GCell → Int) (j : Nat) : ∀ (cells : List GCell) (a : Int), a ≤ mostL need j cells a ∧ ∀ c ∈ cells, c.col = (j : Int) → need c ≤ mostL need j cells a
 | [], a => ⟨Int.le_refl _, fun c hc => by cases hc⟩
 | c :: cells, a => by
  obtain ⟨h1, h2⟩ := mostL_ge need j cells (if c.col = (j : Int) then max a (need c) else a)
  have h3 : mostL need j (c :: cells) a = mostL need j cells (if c.col = (j : Int) then max a (need c) else a) := rfl
  rw [h3]
  refine ⟨Int.le_trans (by split <;> omega) h1, fun d hd he => ?_⟩
  rcases List.mem_cons.1 hd with rfl | hd
  ·
   rw [if_pos he] at h1 ⊢; exact Int.le_trans (Int.le_max_right ..) h1
  ·
   exact h2 d hd he
theorem mostL_is (need : GCell → Int) (j : Nat) : ∀ (cells : List GCell) (a : Int), mostL need j cells a = a ∨ ∃ c ∈ cells, c.col = (j : Int) ∧ mostL need j cells a = need c
 | [], a => .inl rfl
 | c :: cells, a => by
  have h3 : mostL need j (c :: cells) a = mostL need j cells (if c.col = (j : Int) then max a (need c) else a) := rfl
  rw [h3]
  rcases mostL_is need j cells (if c.col = (j : Int) then max a (need c) else a) with h | ⟨d, hd, he, h⟩
  ·
   by_cases e : c.col = (j : Int)
   ·
    rw [if_pos e] at h ⊢
    by_cases h5 : a ≤ need c
    ·
     exact .inr ⟨c, List.mem_cons_self .., e, by omega⟩
    ·
     exact .inl (by omega)
   ·
    rw [if_neg e] at h ⊢; exact .inl h
  ·
   exact .inr ⟨d, List.mem_cons_of_mem _ hd, he, h⟩
def mostI (need : GCell → Int) (cells : List GCell) (is : List Int) (a : Int) : Int := is.foldl (fun x i => max x (need (cells.getD i.toNat default))) a
theorem mostI_ge (need : GCell → Int) (cells : List GCell) : ∀ (is : List Int) (a : Int), a ≤ mostI need cells is a ∧ ∀ i ∈ is, need (cells.getD i.toNat default) ≤ mostI need cells is a
 | [], a => ⟨Int.le_refl _, fun c hc => by cases hc⟩
 | i :: is, a => by
  obtain ⟨h1, h2⟩ := mostI_ge need cells is (max a (need (cells.getD i.toNat default)))
  have h3 : mostI need cells (i :: is) a = mostI need cells is (max a (need (cells.getD i.toNat default))) := rfl
  rw [h3]
  refine ⟨by omega, fun d hd => ?_⟩
  rcases List.mem_cons.1 hd with rfl | hd
  ·
   omega
  ·
   exact h2 d hd
theorem mostI_is (need : GCell → Int) (cells : List GCell) : ∀ (is : List Int) (a : Int), mostI need cells is a = a ∨ ∃ i ∈ is, mostI need cells is a = need (cells.getD i.toNat default)
 | [], a => .inl rfl
 | i :: is, a => by
  have h3 : mostI need cells (i :: is) a = mostI need cells is (max a (need (cells.getD i.toNat default))) := rfl
  rw [h3]
  rcases mostI_is need cells is (max a (need (cells.getD i.toNat default))) with h | ⟨d, hd, h⟩
  ·
   by_cases h5 : a ≤ need (cells.getD i.toNat default)
   ·
    exact .inr ⟨i, List.mem_cons_self .., by omega⟩
   ·
    exact .inl (by omega)
  ·
   exact .inr ⟨d, List.mem_cons_of_mem _ hd, h⟩
def colL (cells : List GCell) (nr : Nat) (j : Int) : List Int := (chg (fun r => atL cells r j) nr).1
theorem has_meets {a b : GCell} {r k : Int} (h1 : a.has r k = true) (h2 : b.has r k = true) : meets a b = true := by
 simp only [GCell.has, decide_eq_true_eq] at h1 h2
 simp only [meets, Bool.and_eq_true, decide_eq_true_eq]
 omega
theorem colL_mem {cells : List GCell} {nr : Nat} {nc j : Int} (hA : ApartL cells) (hin : ∀ c ∈ cells, CellG nr nc c) (x : Int) :
  x ∈ colL cells nr j ↔ ∃ (i : Nat) (hi : i < cells.length), x = i ∧ cells[i].col ≤ j ∧ j < cells[i].col + cells[i].cols := by
 unfold colL
 rw [(chg_spec _ nr).1]
 constructor
 ·
  rintro ⟨h0, r, hr, rfl⟩
  unfold atL at h0 ⊢
  cases e : cells.findIdx? (fun c => c.has r j) with
  | none => rw [e] at h0; exact absurd h0 (by decide)
  | some i =>
   obtain ⟨hi, h1, _⟩ := List.findIdx?_eq_some_iff_getElem.1 e
   simp only [GCell.has, decide_eq_true_eq] at h1
   exact ⟨i, hi, rfl, h1.2.2.1, h1.2.2.2⟩
 ·
  rintro ⟨i, hi, rfl, h1, h2⟩
  have hc := hin _ (List.getElem_mem hi)
  have c1 := hc.row
  have c2 := hc.rows
  have c3 := hc.down
  refine ⟨by omega, cells[i].row.toNat, by omega, ?_⟩
  have hr : ((cells[i].row.toNat : Nat) : Int) = cells[i].row := by omega
  have hhas : cells[i].has cells[i].row j = true := by simp only [GCell.has, decide_eq_true_eq]; omega
  show atL cells ((cells[i].row.toNat : Nat) : Int) j = i
  rw [hr]
  unfold atL
  cases e : cells.findIdx? (fun c => c.has cells[i].row j) with
  | none =>
   rw [List.findIdx?_eq_none_iff] at e
   have := e _ (List.getElem_mem hi)
   rw [hhas] at this; cases this
  | some q =>
   obtain ⟨hq, g1, _⟩ := List.findIdx?_eq_some_iff_getElem.1 e
   have hP := List.pairwise_iff_getElem.1 hA
   have hm := has_meets g1 hhas
   have hm2 := has_meets hhas g1
   show (q : Int) = i
   rcases Nat.lt_trichotomy q i with h | h | h
   ·
    exact absurd hm (by simpa using hP q i hq hi h)
   ·
    omega
   ·
    exact absurd hm2 (by simpa using hP i q hi hq h)
theorem most_eq {cells : List GCell} {nr : Nat} {nc : Int} {j : Nat} (need : GCell → Int) (hA : ApartL cells) (hin : ∀ c ∈ cells, CellG nr nc c) (h1 : ∀ c ∈ cells, c.cols = 1) (a : Int) :
  mostI need cells (colL cells nr j) a = mostL need j cells a := by
 have gI := mostI_ge need cells (colL cells nr j) a
 have gL := mostL_ge need j cells a
 have hget : ∀ (i : Nat) (hi : i < cells.length), cells.getD ((i : Int)).toNat default = cells[i] := fun i hi => by
  rw [Int.toNat_natCast, List.getD_eq_getElem?_getD, List.getElem?_eq_getElem hi]; rfl
 refine Int.le_antisymm ?_ ?_
 ·
  rcases mostI_is need cells (colL cells nr j) a with h | ⟨x, hx, h⟩
  ·
   rw [h]; exact gL.1
  ·
   obtain ⟨i, hi, rfl, h2, h3⟩ := (colL_mem hA hin x).1 hx
   rw [h, hget i hi]
   have := h1 _ (List.getElem_mem hi)
   exact gL.2 _ (List.getElem_mem hi) (by omega)
 ·
  rcases mostL_is need j cells a with h | ⟨c, hc, he, h⟩
  ·
   rw [h]; exact gI.1
  ·
   obtain ⟨i, hi, rfl⟩ := List.getElem_of_mem hc
   have := h1 _ (List.getElem_mem hi)
   have := gI.2 i ((colL_mem hA hin _).2 ⟨i, hi, rfl, by omega, by omega⟩)
   rw [hget i hi] at this
   rw [h]; exact this
theorem step_one {n : Nat} {gap : Int} {need : GCell → Int} {cols : List Int} {c : GCell} (h : ColsIn n cols) (hc : CellIn n need c) (h1 : c.cols = 1) :
  stepCol gap need 1 cols c = cols.set c.col.toNat (max (cols.getD c.col.toNat 0) (need c)) := by
 obtain ⟨c1, c2, c3, c4, c5⟩ := hc
 have hk : c.col.toNat < cols.length := by rw [h.1]; omega
 have hw : winS cols c.col.toNat 1 = cols.getD c.col.toNat 0 := by rw [winS_succ _ _ _ (by simpa using hk), winS_zero]; simp
 unfold stepCol
 rw [if_pos (by simpa using h1), hw]
 have e0 : gap * (((1 : Nat) : Int) - 1) = 0 := by simp
 rw [e0]
 by_cases hl : 0 < need c - cols.getD c.col.toNat 0 - 0
 ·
  rw [if_pos hl]
  have hne : (cols.drop c.col.toNat).take 1 ≠ [] := by
   intro e
   have := congrArg List.length e
   simp at this; omega
  obtain ⟨s1, s2, s3⟩ := share_spec (total := need c - cols.getD c.col.toNat 0 - 0) (by omega) (fun x hx => (h.2 x (List.mem_of_mem_drop (List.mem_of_mem_take hx))).1) hne
  generalize share (need c - cols.getD c.col.toNat 0 - 0) ((cols.drop c.col.toNat).take 1) = sh at s1 s2 s3 ⊢
  have s1' : sh.length = 1 := by rw [s1]; simp; omega
  obtain ⟨v, rfl⟩ := List.length_eq_one_iff.1 s1'
  have hv : v = need c - cols.getD c.col.toNat 0 := by rw [sumI_cons, sumI_nil] at s2; omega
  apply List.ext_getElem (by rw [addAt_length]; simp)
  intro j g1 g2
  have hj : j < cols.length := by rw [addAt_length] at g1; exact g1
  have e1 : (addAt cols c.col.toNat [v])[j] = (addAt cols c.col.toNat [v]).getD j 0 := by rw [List.getD_eq_getElem?_getD, List.getElem?_eq_getElem g1]; rfl
  rw [e1, addAt_get _ _ _ _ (by simp; omega), List.getElem_set]
  have e2 : cols.getD j 0 = cols[j] := by rw [List.getD_eq_getElem?_getD, List.getElem?_eq_getElem hj]; rfl
  by_cases e : c.col.toNat = j
  ·
   rw [if_pos e, if_pos (by simp; omega)]
   have : j - c.col.toNat = 0 := by omega
   rw [this, List.getD_cons_zero, hv, e]
   rw [e] at hl
   omega
  ·
   rw [if_neg e, if_neg (by simp; omega), e2, Int.add_zero]
 ·
  rw [if_neg hl]
  have : max (cols.getD c.col.toNat 0) (need c) = cols.getD c.col.toNat 0 := by omega
  rw [this, List.getD_eq_getElem?_getD, List.getElem?_eq_getElem hk]
  simp
theorem madeS_one {n : Nat} {gap : Int} {need : GCell → Int} (hg : 0 ≤ gap) : ∀ (cells : List GCell) (cols : List Int), ColsIn n cols → (∀ c ∈ cells, CellIn n need c ∧ c.cols = 1) →
  ∀ j < n, (madeS gap need 1 cells cols).getD j 0 = mostL need j cells (cols.getD j 0)
 | [], cols, _, _, j, _ => rfl
 | c :: cells, cols, h, hc, j, hj => by
  obtain ⟨hc1, hc2⟩ := hc c (List.mem_cons_self ..)
  have hs := (step_spec (gap := gap) (span := 1) hg (by decide) h hc1).1
  show (madeS gap need 1 cells (stepCol gap need 1 cols c)).getD j 0 = mostL need j cells (if c.col = (j : Int) then max (cols.getD j 0) (need c) else cols.getD j 0)
  rw [madeS_one hg cells _ hs (fun d hd => hc d (List.mem_cons_of_mem _ hd)) j hj, step_one h hc1 hc2]
  congr 1
  obtain ⟨c1, _, _, c4, _⟩ := hc1
  by_cases e : c.col = (j : Int)
  ·
   rw [if_pos e]
   have : c.col.toNat = j := by omega
   rw [this]
   simp [List.getD_eq_getElem?_getD, h.1, hj]
  ·
   rw [if_neg e]
   have : c.col.toNat ≠ j := by omega
   simp [List.getD_eq_getElem?_getD, List.getElem?_set_ne this]
theorem madeS_skip {gap : Int} {need : GCell → Int} {span : Nat} (hs : span ≠ 1) : ∀ (cells : List GCell) (cols : List Int), (∀ c ∈ cells, c.cols = 1) → madeS gap need span cells cols = cols
 | [], _, _ => rfl
 | c :: cells, cols, h => by
  have h1 := h c (List.mem_cons_self ..)
  show madeS gap need span cells (stepCol gap need span cols c) = cols
  have : stepCol gap need span cols c = cols := by unfold stepCol; rw [if_neg (by rw [h1]; omega)]
  rw [this]
  exact madeS_skip hs cells cols (fun d hd => h d (List.mem_cons_of_mem _ hd))
theorem made_one {n : Nat} {gap : Int} {need : GCell → Int} {cells : List GCell} (hg : 0 ≤ gap) (hc : ∀ c ∈ cells, CellIn n need c ∧ c.cols = 1) : ∀ j < n, (made gap need cells n).getD j 0 = mostL need j cells 0 := by
 intro j hj
 have h0 : ColsIn n (List.replicate n 0) := ⟨by simp, fun x hx => by rw [(List.mem_replicate.1 hx).2]; decide⟩
 unfold made
 have h1 : ∀ c ∈ cells, c.cols = 1 := fun c h => (hc c h).2
 rw [madeS_skip (by decide) _ _ h1, madeS_skip (by decide) _ _ h1, madeS_skip (by decide) _ _ h1, madeS_one hg cells _ h0 hc j hj]
 simp [List.getD_eq_getElem?_getD, hj]
end Go.Proofs.YtpfagdmmhgcmnaaGreatDoor

namespace Go.Proofs.YtpfagdmmhgcmnaaGreatDoor
open Go.RowKit
def PosC (x : GCell) : Prop := (0 ≤ x.row ∧ x.row ≤ 1000000) ∧ (0 ≤ x.col ∧ x.col ≤ 1000000) ∧ (0 ≤ x.rows ∧ x.rows ≤ 1000000) ∧ (0 ≤ x.cols ∧ x.cols ≤ 1000000)
def gcN : Rep GCell where
 sz := 5
 K := fun _ x cs => cs = gcE x ∧ PosC x
 len := by rintro w x cs ⟨rfl, _⟩; rfl
 below := fun _ h => h
theorem gcN_of {w : World} {A : Option Addr} {xs : List GCell} (h : Rd gcR w A xs) (hp : ∀ x ∈ xs, PosC x) : Rd gcN w A xs :=
 rd_mono (d := gcR) (d' := gcN) rfl (fun a ha cs h => ⟨h.1, hp a ha⟩) h
set_option maxHeartbeats 2000000 in
theorem impl_has (x : GCell) (r k : Int) (w : World) (hx : PosC x) (hr : 0 ≤ r ∧ r ≤ 1000000) (hk : 0 ≤ k ∧ k ≤ 1000000) :
  Calls Tryz.prog 115 #[.agg #[.int .i64 x.row, .int .i64 x.col, .int .i64 x.rows, .int .i64 x.cols, .int .i64 x.inn], .int .i64 r, .int .i64 k] w fun e w' => e = .returned (.bool (x.has r k)) ∧ Below w.heap.size w w' := by
 have h1 := fun (W : World) => impl_among r x.row x.rows W hr hx.1 hx.2.2.1
 have h2 := fun (W : World) => impl_among k x.col x.cols W hk hx.2.1 hx.2.2.2
 obtain ⟨b1, hb1⟩ : ∃ b, decide (x.row ≤ r ∧ r < x.row + x.rows) = b := ⟨_, rfl⟩
 obtain ⟨b2, hb2⟩ : ∃ b, decide (x.col ≤ k ∧ k < x.col + x.cols) = b := ⟨_, rfl⟩
 rw [hb1] at h1
 rw [hb2] at h2
 have hh : x.has r k = (b1 && b2) := by
  rw [← hb1, ← hb2]
  unfold GCell.has
  rw [Bool.eq_iff_iff, Bool.and_eq_true, decide_eq_true_iff, decide_eq_true_iff, decide_eq_true_iff]
  constructor
  ·
   rintro ⟨a, b, c, d⟩; exact ⟨⟨a, b⟩, c, d⟩
  ·
   rintro ⟨⟨a, b⟩, c, d⟩; exact ⟨a, b, c, d⟩
 rw [hh]
 clear hb1 hb2 hh hx hr hk
 cases b1 with
 | false =>
  go_enter Tryz.func115, Tryz.ntmps115
  go_wp2_with (go_at_call 113; refine (h1 _).mono ?_; rintro e w9 ⟨rfl, hw9⟩; obtain rfl := hw9.symm)
  go_ret
  exact ⟨rfl, balloc (brefl _) _⟩
 | true =>
  go_enter Tryz.func115, Tryz.ntmps115
  go_wp2_with fail
  refine (h1 _).mono ?_
  rintro e w9 ⟨rfl, hw9⟩
  obtain rfl := hw9.symm
  go_wp2_with fail
  refine (h2 _).mono ?_
  rintro e w9 ⟨rfl, hw9⟩
  obtain rfl := hw9.symm
  go_wp2_with fail
  go_ret
  exact ⟨by simp, balloc (brefl _) _⟩
set_option maxHeartbeats 2000000 in
theorem pred_at (r k : Int) (Br Bk : Nat) (w : World) (hr : 0 ≤ r ∧ r ≤ 1000000) (hk : 0 ≤ k ∧ k ≤ 1000000) (h1 : w.cell? ⟨Br, 0, none⟩ = some (.int .i64 r)) (h2 : w.cell? ⟨Bk, 0, none⟩ = some (.int .i64 k)) :
  Pred Tryz.prog 114 #[.pointer (some ⟨Br, 0, none⟩), .pointer (some ⟨Bk, 0, none⟩)] gcN agg (fun c => c.has r k) w := by
 rintro W x cs hb ⟨rfl, hx⟩
 show Calls _ _ #[.agg #[.int .i64 x.row, .int .i64 x.col, .int .i64 x.rows, .int .i64 x.cols, .int .i64 x.inn], .pointer (some ⟨Br, 0, none⟩), .pointer (some ⟨Bk, 0, none⟩)] W _
 have g1 := keepW hb h1
 have g2 := keepW hb h2
 obtain ⟨V, hV⟩ : ∃ V, V = W.alloc (.cells #[.int .i64 x.row, .int .i64 x.col, .int .i64 x.rows, .int .i64 x.cols, .int .i64 x.inn] 39) := ⟨_, rfl⟩
 have eV : Below W.heap.size W V := by rw [hV]; exact balloc (brefl _) _
 have hK : BlockAt V W.heap.size [.int .i64 x.row, .int .i64 x.col, .int .i64 x.rows, .int .i64 x.cols, .int .i64 x.inn] := by rw [hV]; exact BlockAt.new W _ _
 have y1 := keepW eV g1
 have y2 := keepW eV g2
 have z0 := hK.1 0 _ rfl
 have z1 := hK.1 1 _ rfl
 have z2 := hK.1 2 _ rfl
 have z3 := hK.1 3 _ rfl
 have z4 := hK.1 4 _ rfl
 have HH := hide (impl_has x r k V hx hr hk)
 have HE := hide eV
 have HV := hide hV
 clear h1 h2 g1 g2 eV hK hx hV
 go_enter Tryz.func114, Tryz.ntmps114
 go_upto_region 1 with fail
 rw [← HV.out]
 go_wp2_with fail
 refine (HH.out).mono ?_
 rintro e w9 ⟨rfl, hb9⟩
 go_wp2_with fail
 go_ret
 exact ⟨rfl, step HE.out hb9⟩
theorem idx_at (xs : List GCell) (r k : Int) : idxZ (fun c : GCell => c.has r k) xs = atL xs r k := rfl
set_option maxHeartbeats 2000000 in
theorem impl_GrdAt (gr : Int) (n : Int) (cells : List GCell) (GA : Option Addr) (gc : Nat) (r k : Int) (w : World) (hG : Rd gcN w GA cells) (hr : 0 ≤ r ∧ r ≤ 1000000) (hk : 0 ≤ k ∧ k ≤ 1000000) :
  Calls Tryz.prog 73 #[.agg #[.int .i64 gr, .int .i64 n, .slice GA cells.length gc], .int .i64 r, .int .i64 k] w fun e w' => e = .returned (.int .i64 (atL cells r k)) ∧ Below w.heap.size w w' := by
 obtain ⟨V, hV⟩ : ∃ V, V = ((w.alloc (.cells #[.int .i64 gr, .int .i64 n, .slice GA cells.length gc] 35)).alloc (.cells #[.int .i64 r] 3)).alloc (.cells #[.int .i64 k] 3) := ⟨_, rfl⟩
 have hB : Below w.heap.size w V := by rw [hV]; exact balloc (balloc (balloc (brefl _) _) _) _
 have h1 : V.cell? ⟨w.heap.size + 1, 0, none⟩ = some (.int .i64 r) := by
  have q := (BlockAt.new (w.alloc (.cells #[.int .i64 gr, .int .i64 n, .slice GA cells.length gc] 35)) [.int .i64 r] 3).1 0 _ rfl
  have e1 : (w.alloc (.cells #[.int .i64 gr, .int .i64 n, .slice GA cells.length gc] 35)).heap.size = w.heap.size + 1 := by simp
  rw [e1] at q
  rw [hV]; exact keepW (balloc (brefl _) _) q
 have h2 : V.cell? ⟨w.heap.size + 1 + 1, 0, none⟩ = some (.int .i64 k) := by
  have q := (BlockAt.new ((w.alloc (.cells #[.int .i64 gr, .int .i64 n, .slice GA cells.length gc] 35)).alloc (.cells #[.int .i64 r] 3)) [.int .i64 k] 3).1 0 _ rfl
  have e1 : ((w.alloc (.cells #[.int .i64 gr, .int .i64 n, .slice GA cells.length gc] 35)).alloc (.cells #[.int .i64 r] 3)).heap.size = w.heap.size + 1 + 1 := by simp
  rw [e1] at q
  rw [hV]; exact q
 have hI := idx_GrdCell gcN rfl (fun c => c.has r k) 114 #[.pointer (some ⟨w.heap.size + 1, 0, none⟩), .pointer (some ⟨w.heap.size + 1 + 1, 0, none⟩)] (enters_of Tryz.func114 (by kernel_rfl) rfl) GA gc cells V (pred_at r k _ _ V hr hk h1 h2) (hG.below hB)
 rw [idx_at] at hI
 have HB := hide hB
 have HV := hide hV
 have hmf := @run_mkf Tryz.prog
 clear hG hB h1 h2 hV
 generalize atL cells r k = z at hI ⊢
 go_enter Tryz.func73, Tryz.ntmps73
 go_wp2_with fail
 rw [← HV.out]
 refine hI.mono ?_
 rintro e w9 ⟨rfl, hb9⟩
 go_wp2_with fail
 go_ret
 exact ⟨rfl, step HB.out hb9⟩
theorem chg_length (f : Nat → Int) : ∀ n, (chg f n).1.length ≤ n
 | 0 => Nat.le_refl _
 | n + 1 => by
  have := chg_length f n
  show (if 0 ≤ f n ∧ f n ≠ (chg f n).2 then (chg f n).1 ++ [f n] else (chg f n).1).length ≤ _
  split
  ·
   rw [List.length_append, List.length_singleton]; omega
  ·
   omega
set_option maxRecDepth 100000 in
set_option maxHeartbeats 4000000 in
theorem impl_changes (n : Nat) (F : Nat) (caps : Array Value) (f : Nat → Int) (w : World) (hn : n ≤ 1000) (heg : ∀ args w, (callFunc F args).run Tryz.prog w = .ok (.enter F args) w)
  (hF : ∀ (W : World) (k : Nat), Below w.heap.size w W → k < n → Calls Tryz.prog F (#[.int .i64 k] ++ caps) W fun e w' => e = .returned (.int .i64 (f k)) ∧ Below W.heap.size W w') :
  Calls Tryz.prog 71 #[.int .i64 n, .func (.func F) #[] caps] w fun e w' => ∃ v, e = .returned v ∧ IOwn w' w.heap.size v (chg f n).1 ∧ Below w.heap.size w w' := by
 have HF := hide hF
 clear hF
 go_enter Tryz.func71, Tryz.ntmps71
 go_wp2_with fail
 go_loopg [5, 6, 7, 8, 10] n (fun gg s5 s6 s7 s8 s10 wr => ∃ j : Nat, j ≤ n ∧ n - j ≤ gg ∧ s10 = .int .i64 j ∧ s6 = .int .i64 (chg f j).2 ∧ Aside (IOwn wr w.heap.size s5 (chg f j).1) ∧ Aside (Below w.heap.size w wr))
 case atStart => exact ⟨0, Nat.zero_le _, by omega, rfl, rfl, IOwn.nil _ _, brefl _⟩
 case round =>
  obtain ⟨j, hj, hgg, rfl, rfl, HO, HB⟩ := hrel
  by_cases hlt : j < n
  ·
   have hltz : (j : Int) < (n : Int) := by omega
   have hcall := HF.out wr j HB.out hlt
   have hs1 : (chg f (j + 1)).1 = if 0 ≤ f j ∧ f j ≠ (chg f j).2 then (chg f j).1 ++ [f j] else (chg f j).1 := rfl
   have hs2 : (chg f (j + 1)).2 = f j := rfl
   have hl := chg_length f j
   obtain ⟨X, hX⟩ : ∃ X, (chg f j).1 = X := ⟨_, rfl⟩
   obtain ⟨ah, hah⟩ : ∃ a, (chg f j).2 = a := ⟨_, rfl⟩
   obtain ⟨y, hy⟩ : ∃ y, f j = y := ⟨_, rfl⟩
   have HO2 : Hid (IOwn wr w.heap.size u5 X) := by have := HO.out; rw [hX] at this; exact this
   rw [hX, hah, hy] at hs1
   rw [hX] at hl
   rw [hy] at hs2 hcall
   rw [hah]
   have HS1 := hide hs1
   have HS2 := hide hs2
   have hlen : X.length ≤ 1000000 := by omega
   have HLN := hide hlen
   clear hs1 hs2 hl hX hah hy HO hlen
   go_wp2_with fail
   refine hcall.mono ?_
   rintro e w5 ⟨rfl, hb5⟩
   have HB5 := hide (step HB.out hb5)
   have HO5 := hide (HO2.out.below hb5)
   clear hcall hb5
   by_cases h1 : 0 ≤ y ∧ y ≠ ah
   ·
    have hs1 := HS1.out
    rw [if_pos h1] at hs1
    have HS3 := hide hs1
    have g1 : y ≥ 0 := h1.1
    have g2 : (y != ah) = true := by simpa using h1.2
    have g3 : 0 ≤ y := h1.1
    clear hs1 h1
    go_wp2_with (at_builtin; refine wpList_append_int rfl (.tmp 23) (.tmp 25) rfl w.heap.size _ X rfl (HO5.out.below (balloc (brefl _) _)) ⟨w5.heap.size, 0, none⟩ 1 y rfl (cell_new _ _ _ _ 0 _ rfl) HLN.out (by have := HB5.out.size; simp; omega) ?_)
    intro v' w6 H1 H2 H3
    have HB6 : Hid (Below w.heap.size w w6) := (balloc HB5.out (.cells #[.int .i64 y] 3)).trans (grown_below H2.out (by have := HB5.out.size; simp; omega) (fun b hb => (HO5.out.lt hb).1))
    rw [← HS3.out] at H1
    clear H2 H3 HB5 HO5 HO2 HB
    go_wp2_with fail
    go_roundg (n - (j + 1))
    case measure => omega
    case rel => exact ⟨j + 1, by omega, by omega, by go_num, by rw [HS2.out], H1.out, HB6.out⟩
   ·
    have hs1 := HS1.out
    rw [if_neg h1] at hs1
    have HS3 := hide hs1
    by_cases g0 : 0 ≤ y
    ·
     have g1 : y ≥ 0 := g0
     have g2 : (y != ah) = false := by
      have : y = ah := Classical.byContradiction fun h => h1 ⟨g0, h⟩
      simp [this]
     clear hs1 h1
     go_wp2_with fail
     go_roundg (n - (j + 1))
     case measure => omega
     case rel => exact ⟨j + 1, by omega, by omega, by go_num, by rw [HS2.out], (show Aside _ from by rw [HS3.out]; exact HO5.out), HB5.out⟩
    ·
     have g1 : ¬ y ≥ 0 := g0
     clear hs1 h1
     go_wp2_with fail
     go_roundg (n - (j + 1))
     case measure => omega
     case rel => exact ⟨j + 1, by omega, by omega, by go_num, by rw [HS2.out], (show Aside _ from by rw [HS3.out]; exact HO5.out), HB5.out⟩
  ·
   have hltz : ¬ (j : Int) < (n : Int) := by omega
   have hjn := hide (show j = n by omega)
   go_wp2_with fail
   go_ret
   exact ⟨_, rfl, by rw [← hjn.out]; exact HO.out, HB.out⟩
set_option maxHeartbeats 2000000 in
theorem grdCol_at (gr n : Int) (cells : List GCell) (GA : Option Addr) (gc : Nat) (k : Int) (j Bg Bk : Nat) (w : World) (hG : Rd gcN w GA cells) (hj : j ≤ 1000) (hk : 0 ≤ k ∧ k ≤ 1000000) (hB : BlockAt w Bg [.int .i64 gr, .int .i64 n, .slice GA cells.length gc]) (h2 : w.cell? ⟨Bk, 0, none⟩ = some (.int .i64 k)) :
  Calls Tryz.prog 72 #[.int .i64 j, .pointer (some ⟨Bg, 0, none⟩), .pointer (some ⟨Bk, 0, none⟩)] w fun e w' => e = .returned (.int .i64 (atL cells j k)) ∧ Below w.heap.size w w' := by
 have y0 := hB.1 0 _ rfl
 have y1 := hB.1 1 _ rfl
 have y2 := hB.1 2 _ rfl
 have HA := hide (impl_GrdAt gr n cells GA gc j k w hG (by omega) hk)
 clear hG hB
 generalize atL cells j k = z at HA ⊢
 go_enter Tryz.func72, Tryz.ntmps72
 go_wp2_with fail
 refine (HA.out).mono ?_
 rintro e w9 ⟨rfl, hb9⟩
 go_wp2_with fail
 go_ret
 exact ⟨rfl, hb9⟩
set_option maxHeartbeats 4000000 in
theorem impl_GrdCol (gr : Nat) (n : Int) (cells : List GCell) (GA : Option Addr) (gc : Nat) (k : Int) (w : World) (hG : Rd gcN w GA cells) (hgr : gr ≤ 8) (hk : 0 ≤ k ∧ k ≤ 1000000) :
  Calls Tryz.prog 28 #[.agg #[.int .i64 gr, .int .i64 n, .slice GA cells.length gc], .int .i64 k] w fun e w' => ∃ v, e = .returned v ∧ IOwn w' w.heap.size v (colL cells gr k) ∧ Below w.heap.size w w' := by
 obtain ⟨V, hV⟩ : ∃ V, V = (w.alloc (.cells #[.int .i64 gr, .int .i64 n, .slice GA cells.length gc] 35)).alloc (.cells #[.int .i64 k] 3) := ⟨_, rfl⟩
 have hB : Below w.heap.size w V := by rw [hV]; exact balloc (balloc (brefl _) _) _
 have hK : BlockAt V w.heap.size [.int .i64 gr, .int .i64 n, .slice GA cells.length gc] := by
  rw [hV]; exact (BlockAt.new w [.int .i64 gr, .int .i64 n, .slice GA cells.length gc] 35).keep ((balloc (brefl _) _).block w.heap.size (by simp))
 have h2 : V.cell? ⟨w.heap.size + 1, 0, none⟩ = some (.int .i64 k) := by
  have q := (BlockAt.new (w.alloc (.cells #[.int .i64 gr, .int .i64 n, .slice GA cells.length gc] 35)) [.int .i64 k] 3).1 0 _ rfl
  have e1 : (w.alloc (.cells #[.int .i64 gr, .int .i64 n, .slice GA cells.length gc] 35)).heap.size = w.heap.size + 1 := by simp
  rw [e1] at q
  rw [hV]; exact q
 have hzV : V.heap.size = w.heap.size + 2 := by rw [hV]; simp
 have hC := impl_changes gr 72 #[.pointer (some ⟨w.heap.size, 0, none⟩), .pointer (some ⟨w.heap.size + 1, 0, none⟩)] (fun r => atL cells r k) V (by omega) (enters_of Tryz.func72 (by kernel_rfl) rfl)
  (fun W j hb hj => grdCol_at gr n cells GA gc k j _ _ W ((hG.below hB).below hb) (by omega) hk (hK.keep (hb.block _ (by omega))) (keepW hb h2))
 have y0 := hK.1 0 _ rfl
 have hmax := max_int
 have hmin := min_int
 have hm1 : max (gr : Int) 0 = gr := by omega
 have hm2 : min (gr : Int) 8 = gr := by omega
 have HB := hide hB
 have HV := hide hV
 have HZ := hide hzV
 have hmf := @run_mkf Tryz.prog
 have e0 : (chg (fun r => atL cells r k) gr).1 = colL cells gr k := rfl
 rw [e0] at hC
 generalize colL cells gr k = Z at hC ⊢
 clear hG hB hK h2 hV hzV e0
 go_enter Tryz.func28, Tryz.ntmps28
 go_upto_region 1 with fail
 rw [← HV.out]
 go_wp2_with fail
 refine hC.mono ?_
 rintro e w9 ⟨v, rfl, hI, hb9⟩
 have HI := hide (hI.base HB.out.size)
 have HB9 := hide (step HB.out hb9)
 clear hI hb9 hC
 go_wp2_with fail
 go_ret
 exact ⟨_, rfl, HI.out, HB9.out⟩
end Go.Proofs.YtpfagdmmhgcmnaaGreatDoor

namespace Go.Proofs.YtpfagdmmhgcmnaaGreatDoor
open Go.RowKit
theorem OwnRows.renew {w w' : World} {base : Nat} {E F : TypeId} {g n cap : Nat} {v' : Value} {rows : List TRow} {vs : List Value} {j : Nat} (hEF : E ≠ F) (h1 : w.ownsRow base E 2 (.slice (some ⟨g, 0, none⟩) n cap) rows.length (rowCells vs rows)) (h2 : RowsIn w base F vs rows)
  (hj : j < vs.length) (hj' : j < rows.length) (r : TRow) (hwh : r.wh = rows[j].wh) (hb : Below w.heap.size w w') (ho : w'.ownsRow base F 11 v' r.cs.length (r.cs.flatMap cellE)) (hw : ∀ b, v'.ownBlock = some b → w.heap.size ≤ b) :
  OwnRows (w'.setCell ⟨g, j * 2, none⟩ v') base E F (.slice (some ⟨g, 0, none⟩) n cap) (rows.set j r) := by
 have hn : n = rows.length := by obtain ⟨A, c, e⟩ := own_sl h1; injection e
 subst hn
 have h1' : w'.ownsRow base E 2 (.slice (some ⟨g, 0, none⟩) rows.length cap) rows.length (rowCells vs rows) := own_below h1 hb
 have hgt : Typed w' g E := own_block h1' (b := g) rfl
 have hgs : w'.grownBy (w'.setCell ⟨g, j * 2, none⟩ v') (some g) := grow_set w' rfl v'
 have hr1 := (h1'.stored (j * 2) v').1
 have hr1' := rowCells_setR vs rows j r v' hj hj' hwh
 rw [← hr1'] at hr1
 have hap : ∀ (i : Nat) (hi : i < vs.length), i ≠ j → Apart vs[i] v' := by
  intro i hi hij b hb0 hb'
  have h := hw b hb'
  have := (own_lt (h2.2.1 i hi (by rw [← h2.1]; exact hi)) hb0).2
  omega
 have hbes : ∀ (i : Nat) (hi : i < vs.length) (hi' : i < rows.length), i ≠ j → (w'.setCell ⟨g, j * 2, none⟩ v').ownsRow base F 11 vs[i] rows[i].cs.length (rows[i].cs.flatMap cellE) := by
  intro i hi hi' hij
  exact own_past (own_below (h2.2.1 i hi hi') hb) hgs hgt (Ne.symm hEF)
 have hnew : (w'.setCell ⟨g, j * 2, none⟩ v').ownsRow base F 11 v' r.cs.length (r.cs.flatMap cellE) := own_past ho hgs hgt (Ne.symm hEF)
 have hin : RowsIn (w'.setCell ⟨g, j * 2, none⟩ v') base F (vs.set j v') (rows.set j r) := by
  refine ⟨by simp [h2.1], fun i hi hi' => ?_, ?_⟩
  ·
   by_cases e : j = i
   ·
    subst e
    simp only [List.getElem_set_self]
    exact hnew
   ·
    simp only [List.getElem_set_ne e]
    exact hbes i (by simpa using hi) (by simpa using hi') (Ne.symm e)
  ·
   rw [List.pairwise_iff_getElem]
   intro a b ha hb9 hab
   have hp := List.pairwise_iff_getElem.1 h2.2.2
   by_cases ea : j = a
   ·
    subst ea
    rw [List.getElem_set_self, List.getElem_set_ne (by omega)]
    exact fun k hk hk' => hap b (by simpa using hb9) (by omega) k hk' hk
   ·
    rw [List.getElem_set_ne ea]
    by_cases eb : j = b
    ·
     subst eb
     rw [List.getElem_set_self]
     exact hap a (by simpa using ha) (by omega)
    ·
     rw [List.getElem_set_ne eb]
     exact hp a b (by simpa using ha) (by simpa using hb9) hab
 refine ⟨vs.set j v', by rw [List.length_set]; exact hr1, hin, fun a ha => ?_⟩
 obtain ⟨i, hi, rfl⟩ := List.getElem_of_mem ha
 exact own_two hr1 (hin.2.1 i hi (by rw [← hin.1]; exact hi)) hEF
theorem cells_set : ∀ (cs : List TCell) (q : Nat) (z : Int) (_ : q < cs.length), (cs.flatMap cellE).set (q * 11 + 1) (.int .i64 z) = (cs.set q { cs.getD q default with c := z }).flatMap cellE
 | [], q, z, h => absurd h (Nat.not_lt_zero _)
 | x :: cs, 0, z, _ => by simp [cellE]
 | x :: cs, q + 1, z, h => by
  have ih := cells_set cs q z (by simpa using h)
  have e1 : (x :: cs).flatMap cellE = cellE x ++ cs.flatMap cellE := by simp
  have hl : (cellE x).length = 11 := rfl
  rw [e1, List.set_append_right _ _ (by rw [hl]; omega), hl, show (q + 1) * 11 + 1 - 11 = q * 11 + 1 by omega, ih]
  simp
theorem rowCells_same (vs : List Value) (rows : List TRow) (j : Nat) (r : TRow) (h1 : j < vs.length) (h2 : j < rows.length) (hw : r.wh = rows[j].wh) : rowCells vs (rows.set j r) = rowCells vs rows := by
 have e1 := rowCells_setR vs rows j r vs[j] h1 h2 hw
 have e2 := rowCells_setR vs rows j rows[j] vs[j] h1 h2 rfl
 rw [List.set_getElem_self] at e1 e2
 rw [List.set_getElem_self] at e2
 rw [e1, ← e2]
theorem OwnRows.colsSet {w : World} {base : Nat} {E F : TypeId} {v : Value} {rows : List TRow} {vs : List Value} {j gc n cap q : Nat} (hEF : E ≠ F) (h1 : w.ownsRow base E 2 v rows.length (rowCells vs rows)) (h2 : RowsIn w base F vs rows)
  (hj : j < vs.length) (hj' : j < rows.length) (hv : vs[j] = .slice (some ⟨gc, 0, none⟩) n cap) (hq : q < rows[j].cs.length) (z : Int) :
  OwnRows (w.setCell ⟨gc, q * 11 + 1, none⟩ (.int .i64 z)) base E F v (rows.set j ⟨rows[j].cs.set q { rows[j].cs.getD q default with c := z }, rows[j].wh⟩) := by
 have hx := h2.2.1 j hj hj'
 rw [hv] at hx
 have hn : n = rows[j].cs.length := by obtain ⟨A, c, e⟩ := own_sl hx; injection e
 subst hn
 have hgc : Typed w gc F := own_block hx (b := gc) rfl
 have hgs : w.grownBy (w.setCell ⟨gc, q * 11 + 1, none⟩ (.int .i64 z)) (some gc) := grow_set w rfl _
 have hst := (hx.stored (q * 11 + 1) (.int .i64 z)).1
 rw [cells_set _ q z hq] at hst
 have hp := List.pairwise_iff_getElem.1 h2.2.2
 refine ⟨vs, ?_, ⟨by simp [h2.1], fun i hi hi' => ?_, h2.2.2⟩, fun a ha => ?_⟩
 ·
  have hc : ∀ r : TRow, r.wh = rows[j].wh → rowCells vs (rows.set j r) = rowCells vs rows := fun r hr => rowCells_same vs rows j r hj hj' hr
  rw [List.length_set, hc]
  ·
   exact own_past h1 hgs hgc hEF
  ·
   rfl
 ·
  by_cases e : j = i
  ·
   subst e
   rw [List.getElem_set_self, hv]
   simp only [List.length_set]
   exact hst
  ·
   rw [List.getElem_set_ne e]
   have hi2 : i < rows.length := by simpa using hi'
   refine own_keep (h2.2.1 i hi hi2) fun b hb => hgs.block b (own_lt (h2.2.1 i hi hi2) hb).2 (fun e9 => ?_)
   injection e9 with e9
   subst e9
   have hvb : vs[j].ownBlock = some b := by rw [hv]; rfl
   rcases Nat.lt_or_gt_of_ne e with hlt | hgt
   ·
    exact hp j i hj hi hlt b hvb hb
   ·
    exact hp i j hi hj hgt b hb hvb
 ·
  obtain ⟨i, hi, rfl⟩ := List.getElem_of_mem ha
  exact own_two h1 (h2.2.1 i hi (by rw [← h2.1]; exact hi)) hEF
end Go.Proofs.YtpfagdmmhgcmnaaGreatDoor

namespace Go.Proofs.YtpfagdmmhgcmnaaGreatDoor
open Go.RowKit
structure TabM (W : World) (base T : Nat) (vc vr : Value) (t : Tbl) (rows : List TRow) : Prop where
 cols : W.ownsRow base 43 2 vc t.cols.length (t.cols.flatMap colE)
 rows : OwnRows W base 48 52 vr rows
 blk : BlockAt W T (tvals vc vr t)
 typ : Typed W T 26
theorem TabM.new {W : World} {base : Nat} {vc vr : Value} {t : Tbl} (h : OwnT W base vc vr t) : TabM (W.alloc (.cells #[vc, .int .i64 t.head, .int .i64 t.foot, vr, .int .i64 t.gap] 26)) base W.heap.size vc vr t t.rows :=
 ⟨own_below h.cols (balloc (brefl _) _), h.rows.below (balloc (brefl _) _), BlockAt.new W (tvals vc vr t) _, Typed.new W _ _⟩
theorem TabM.below {W W' : World} {base T : Nat} {vc vr : Value} {t : Tbl} {rows : List TRow} (h : TabM W base T vc vr t rows) (hb : Below W.heap.size W W') : TabM W' base T vc vr t rows :=
 ⟨own_below h.cols hb, h.rows.below hb, h.blk.keep (hb.block T h.typ.lt), h.typ.keep (hb.block T h.typ.lt)⟩
theorem TabM.past {W W' : World} {base T g G : Nat} {vc vr : Value} {t : Tbl} {rows rows' : List TRow} (h : TabM W base T vc vr t rows) (hg : W.grownBy W' (some g)) (hT : Typed W g G) (h1 : 43 ≠ G) (h2 : 26 ≠ G) (hr : OwnRows W' base 48 52 vr rows') : TabM W' base T vc vr t rows' := by
 have hk : W'.heap[T]? = W.heap[T]? := hg.block T h.typ.lt (fun e => h.typ.ne hT h2 (Option.some.inj e))
 exact ⟨own_past h.cols hg hT h1, hr, h.blk.keep hk, h.typ.keep hk⟩
theorem TabM.form {W : World} {base T : Nat} {vc vr : Value} {t : Tbl} {rows : List TRow} (h : TabM W base T vc vr t rows) : (∃ A c, vc = .slice A t.cols.length c) ∧ ∃ A c, vr = .slice A rows.length c := by
 obtain ⟨A, c, e⟩ := own_sl h.cols
 obtain ⟨us, r1, _⟩ := h.rows
 obtain ⟨B, d, e'⟩ := own_sl r1
 exact ⟨⟨A, c, e⟩, B, d, e'⟩
theorem TabM.rdc {W : World} {base T n c : Nat} {A : Option Addr} {vr : Value} {t : Tbl} {rows : List TRow} (h : TabM W base T (.slice A n c) vr t rows) : Rd colR W A t.cols := by
 obtain ⟨_, _, e, _, r⟩ := own_rd (enc := colE) (hk := fun _ => rfl) h.cols
 injection e with e; subst e; exact r
theorem TabM.rdr {W : World} {base T n c : Nat} {A : Option Addr} {vc : Value} {t : Tbl} {rows : List TRow} (h : TabM W base T vc (.slice A n c) t rows) (hs : ∀ r ∈ rows, ∀ c ∈ r.cs, c.t.size ≤ 1048576) : Rd rowR W A rows := by
 obtain ⟨_, _, e, _, r⟩ := h.rows.rd hs
 injection e with e; subst e; exact r
theorem TabM.row {W : World} {base T n c j : Nat} {A : Option Addr} {vc : Value} {t : Tbl} {rows : List TRow} (h : TabM W base T vc (.slice A n c) t rows) (hj : j < rows.length) :
  ∃ g Aj cj, A = some ⟨g, 0, none⟩ ∧ W.cell? ⟨g, j * 2, none⟩ = some (.slice Aj rows[j].cs.length cj) ∧ W.frozen? ⟨g, j * 2, none⟩ = false ∧ Lies cellE W (.slice Aj rows[j].cs.length cj) rows[j].cs ∧ Typed W g 48 ∧ base ≤ g := by
 obtain ⟨us, r1, r2, r3⟩ := h.rows
 have hu : j < us.length := by rw [r2.1]; exact hj
 rcases r1.2 with ⟨_, h0⟩ | ⟨g, cap, cur, e, hb, hh, _⟩
 ·
  omega
 obtain ⟨_, _, e9⟩ := own_sl r1
 injection e9 with _ e9 _
 subst e9
 injection e with e1 e2 e3
 subst e1
 have hc := r1.cellAt (j * 2) (by omega)
 rw [(rowCells_get us rows j hu hj).1] at hc
 have ho := r2.2.1 j hu hj
 obtain ⟨Aj, cj, ej⟩ := own_sl ho
 rw [ej] at hc ho
 exact ⟨g, Aj, cj, rfl, hc, r1.frozenAt _, Lies.of ho, ⟨cur, hh⟩, hb⟩
theorem TabM.renew {W W' : World} {base T n c j g : Nat} {vc v' : Value} {t : Tbl} {rows : List TRow} (h : TabM W base T vc (.slice (some ⟨g, 0, none⟩) n c) t rows) (hj : j < rows.length) (hb : Below W.heap.size W W') (hbase : base ≤ W.heap.size)
  (ho : W'.ownsRow W.heap.size 52 11 v' rows[j].cs.length (rows[j].cs.flatMap cellE)) : TabM (W'.setCell ⟨g, j * 2, none⟩ v') base T vc (.slice (some ⟨g, 0, none⟩) n c) t rows := by
 obtain ⟨us, r1, r2, r3⟩ := h.rows
 have hu : j < us.length := by rw [r2.1]; exact hj
 have hg : Typed W g 48 := own_block r1 rfl
 have h9 := OwnRows.renew (E := 48) (F := 52) (by decide) r1 r2 hu hj rows[j] rfl hb (own_base ho hbase) (fun b hb => (own_lt ho hb).1)
 rw [List.set_getElem_self] at h9
 exact (h.below hb).past (grow_set W' rfl v') (hg.keep (hb.block g hg.lt)) (by decide) (by decide) h9
theorem TabM.cols1 {W : World} {base T n c j q : Nat} {A : Option Addr} {vc : Value} {t : Tbl} {rows : List TRow} (h : TabM W base T vc (.slice A n c) t rows) (hj : j < rows.length) (hq : q < rows[j].cs.length) :
  ∃ g gc cj, A = some ⟨g, 0, none⟩ ∧ W.cell? ⟨g, j * 2, none⟩ = some (.slice (some ⟨gc, 0, none⟩) rows[j].cs.length cj) ∧ (W.cell? ⟨gc, q * 11 + 1, none⟩ = some (.int .i64 rows[j].cs[q].c) ∧ W.cell? ⟨gc, q * 11 + 2, none⟩ = some (.int .i64 rows[j].cs[q].r)) ∧ (∀ i, W.frozen? ⟨gc, i, none⟩ = false) ∧ (base ≤ gc ∧ gc < W.heap.size) ∧ gc ≠ T ∧ gc ≠ g ∧
   ∀ z : Int, TabM (W.setCell ⟨gc, q * 11 + 1, none⟩ (.int .i64 z)) base T vc (.slice A n c) t (rows.set j ⟨rows[j].cs.set q { rows[j].cs.getD q default with c := z }, rows[j].wh⟩) := by
 obtain ⟨g, Aj, cj, eA, h1, h2, h3, h4, h5⟩ := h.row hj
 obtain ⟨us, r1, r2, r3⟩ := h.rows
 have hu : j < us.length := by rw [r2.1]; exact hj
 have ho := r2.2.1 j hu hj
 have hc := h1
 subst eA
 obtain ⟨_, _, e9⟩ := own_sl r1
 injection e9 with _ e9 _
 subst e9
 have hc2 := r1.cellAt (j * 2) (by omega)
 rw [(rowCells_get us rows j hu hj).1, hc] at hc2
 injection hc2 with hc2
 rw [← hc2] at ho
 have ho2 := ho
 rcases ho.2 with ⟨_, h0⟩ | ⟨gc, cap, cur, e, hb, hh, _⟩
 ·
  omega
 injection e with e1 e2 e3
 subst e1
 have hgc : Typed W gc 52 := ⟨cur, hh⟩
 have hcc : W.cell? ⟨gc, q * 11 + 1, none⟩ = some (.int .i64 rows[j].cs[q].c) := by
  rw [ho2.cellAt _ (by omega)]
  exact flatMap_get cellE 11 (fun _ => rfl) _ q 1 _ hq rfl
 have hcr : W.cell? ⟨gc, q * 11 + 2, none⟩ = some (.int .i64 rows[j].cs[q].r) := by
  rw [ho2.cellAt _ (by omega)]
  exact flatMap_get cellE 11 (fun _ => rfl) _ q 2 _ hq rfl
 refine ⟨g, gc, cj, rfl, h1, ⟨hcc, hcr⟩, ho2.frozenAt, ⟨hb, hgc.lt⟩, hgc.ne h.typ (by decide), hgc.ne h4 (by decide), fun z => ?_⟩
 have h9 := OwnRows.colsSet (E := 48) (F := 52) (by decide) r1 r2 hu hj hc2.symm hq z
 exact h.past (grow_set W rfl _) hgc (by decide) (by decide) h9
def mapTo {α : Type} (f : α → α) (k : Nat) (L : List α) : List α := (L.take k).map f ++ L.drop k
theorem mapTo_length {α : Type} (f : α → α) (k : Nat) (L : List α) : (mapTo f k L).length = L.length := by simp [mapTo]; omega
theorem mapTo_zero {α : Type} (f : α → α) (L : List α) : mapTo f 0 L = L := by simp [mapTo]
theorem mapTo_all {α : Type} (f : α → α) (L : List α) : mapTo f L.length L = L.map f := by simp [mapTo]
theorem mapTo_get {α : Type} (f : α → α) (k : Nat) (L : List α) (h : k < L.length) (h' : k < (mapTo f k L).length) : (mapTo f k L)[k] = L[k] := by
 simp only [mapTo]
 rw [List.getElem_append_right (by simp; omega)]
 simp [Nat.min_eq_left (Nat.le_of_lt h)]
theorem mapTo_set {α : Type} (f : α → α) (k : Nat) (L : List α) (h : k < L.length) : (mapTo f k L).set k (f L[k]) = mapTo f (k + 1) L := by
 apply List.ext_getElem (by simp [mapTo]; omega)
 intro i h1 h2
 have hi : i < L.length := by rw [mapTo_length] at h2; exact h2
 rw [List.getElem_set]
 simp only [mapTo, List.getElem_append, List.length_map, List.length_take, List.getElem_map, List.getElem_take, List.getElem_drop]
 by_cases e : k = i
 ·
  subst e
  rw [if_pos rfl, dif_pos (by omega)]
 ·
  rw [if_neg e]
  by_cases l : i < k
  ·
   rw [dif_pos (by omega), dif_pos (by omega)]
  ·
   rw [dif_neg (by omega), dif_neg (by omega)]
   congr 1
   omega
end Go.Proofs.YtpfagdmmhgcmnaaGreatDoor

namespace Go.Proofs.YtpfagdmmhgcmnaaGreatDoor
open Go.RowKit
structure BMidS (vals : Nat → Value) (n : Nat) (dep : Nat → List Nat) (V : World) (ad : Addr) (sv : Value) (l : Array Bool) (vs : Nat → Value) (W : World) : Prop where
 mid : ∃ W1, BMid vals n V l vs W1 ∧ W = if l.getD (n - 1) false = true then W1.setCell ad sv else W1
 closed : ∀ j, l.getD j false = true → ∀ e ∈ dep j, l.getD e false = true
def LastD (n : Nat) (dep : Nat → List Nat) : Prop := ∀ L : Nat → Prop, (∀ j, L j → ∀ e ∈ dep j, L e) → L (n - 1) → ∀ j, j < n → L j
section
variable {vals : Nat → Value} {n : Nat} {dep : Nat → List Nat} {V : World} {ad : Addr} {sv : Value} {l : Array Bool} {vs : Nat → Value} {W W' : World}
theorem BMidS.start (hn : 0 < n) : BMidS vals n dep V ad sv (Array.replicate n false) vs V :=
 ⟨⟨V, BMid.start, by rw [if_neg]; simp [Array.getD]⟩, fun j hj => by simp [Array.getD] at hj⟩
theorem BMidS.size (h : BMidS vals n dep V ad sv l vs W) : l.size = n := by obtain ⟨W1, h1, _⟩ := h.mid; exact h1.size
theorem BMidS.open (h : BMidS vals n dep V ad sv l vs W) (hL : LastD n dep) {i : Nat} (hi : i < n) (hl : l.getD i true = false) : BMid vals n V l vs W := by
 obtain ⟨W1, h1, h2⟩ := h.mid
 have : ¬ l.getD (n - 1) false = true := fun h9 => by
  have := hL (fun j => l.getD j false = true) h.closed h9 i hi
  rw [getD_any (by rw [h1.size]; exact hi) false true, hl] at this
  cases this
 rw [if_neg this] at h2
 rw [h2]; exact h1
theorem BMidS.closed_set (h : BMidS vals n dep V ad sv l vs W) (i : Nat) (hd : ∀ e ∈ dep i, l.getD e false = true) (hi : i < n) :
  ∀ j, (l.setIfInBounds i true).getD j false = true → ∀ e ∈ dep j, (l.setIfInBounds i true).getD e false = true := by
 intro j hj e he
 have hup : l.getD e false = true → (l.setIfInBounds i true).getD e false = true := fun h0 => by
  by_cases e1 : e = i
  ·
   subst e1; simp [Array.getD, h.size, hi]
  ·
   rw [getD_set_ne false (Ne.symm e1)]; exact h0
 by_cases e2 : j = i
 ·
  subst e2; exact hup (hd e he)
 ·
  rw [getD_set_ne false (Ne.symm e2)] at hj
  exact hup (h.closed j hj e he)
theorem BMidS.next (h : BMidS vals n dep V ad sv l vs W) (hL : LastD n dep) (i : Nat) (hi : i < n - 1) (hl : l.getD i true = false) (v : Value) (hv : v = vals i) (hd : ∀ e ∈ dep i, l.getD e false = true) (hb : Below W.heap.size W W') :
  BMidS vals n dep V ad sv (l.setIfInBounds i true) (updV vs i v) W' := by
 have ho := h.open hL (by omega) hl
 refine ⟨⟨W', ho.next i v hv hb, ?_⟩, h.closed_set i hd (by omega)⟩
 rw [if_neg]
 rw [getD_set_ne false (by omega)]
 intro h9
 have := hL (fun j => l.getD j false = true) h.closed h9 i (by omega)
 rw [getD_any (by rw [h.size]; omega) false true, hl] at this
 cases this
theorem BMidS.still (h : BMidS vals n dep V ad sv l vs W) (hL : LastD n dep) (i : Nat) (hi : i < n - 1) (hl : l.getD i true = false) (v : Value) (hv : v = vals i) (hd : ∀ e ∈ dep i, l.getD e false = true) :
  BMidS vals n dep V ad sv (l.setIfInBounds i true) (updV vs i v) W := h.next hL i hi hl v hv hd (brefl W)
theorem BMidS.last (h : BMidS vals n dep V ad sv l vs W) (hL : LastD n dep) (i : Nat) (hi : i + 1 = n) (hl : l.getD i true = false) (v : Value) (hv : v = vals i) (hd : ∀ e ∈ dep i, l.getD e false = true) :
  BMidS vals n dep V ad sv (l.setIfInBounds i true) (updV vs i v) (W.setCell ad sv) := by
 have ho := h.open hL (by omega) hl
 refine ⟨⟨W, ho.still i v hv, ?_⟩, h.closed_set i hd (by omega)⟩
 rw [if_pos]
 have : n - 1 = i := by omega
 rw [this]
 simp [Array.getD, ho.size]; omega
theorem BMidS.fin (h : BMidS vals n dep V ad sv l vs W) (hn : 0 < n) (hall : ∀ j, j < n → l.getD j true = true) : ∃ W1, BMid vals n V l vs W1 ∧ W = W1.setCell ad sv := by
 obtain ⟨W1, h1, h2⟩ := h.mid
 have h9 := hall (n - 1) (by omega)
 rw [getD_any (by rw [h1.size]; omega) true false] at h9
 rw [if_pos h9] at h2
 exact ⟨W1, h1, h2⟩
theorem dep_nil : ∀ e ∈ ([] : List Nat), l.getD e false = true := fun _ h => by cases h
theorem dep_cons {a : Nat} {xs : List Nat} (h : l.getD a false = true) (ht : ∀ e ∈ xs, l.getD e false = true) : ∀ e ∈ a :: xs, l.getD e false = true := List.forall_mem_cons.2 ⟨h, ht⟩
end
end Go.Proofs.YtpfagdmmhgcmnaaGreatDoor
