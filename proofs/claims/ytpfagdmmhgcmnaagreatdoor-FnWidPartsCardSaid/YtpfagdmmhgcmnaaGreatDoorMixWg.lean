import Derived.Test.YtpfagdmmhgcmnaaGreatDoorMixWb
import Derived.Test.YtpfagdmmhgcmnaaGreatDoorMixTq
import Derived.Test.YtpfagdmmhgcmnaaGreatDoorMixTj
import Derived.Test.YtpfagdmmhgcmnaaGreatDoorMixG1
set_option linter.unusedVariables false
set_option linter.unusedSimpArgs false
namespace Go.Proofs.YtpfagdmmhgcmnaaGreatDoor
open Go.RowKit
def widColsL (m : Nat) (t : Tbl) (width : Int) : List Int := if tblOk t = true ∧ 0 ≤ width ∧ width ≤ 300 then widths (kindT t) (numT t) width t.gap (leastL t (gridL m t).1 (gridL m t).2.toNat) (wishL t (gridL m t).1 (gridL m t).2.toNat) else []
theorem said_kind {t : Tbl} (h : tblOk t = true) (k : Nat) : kindT t k = 0 ∨ kindT t k = 1 ∨ kindT t k = 2 := by
 unfold kindT saidOf
 split
 ·
  rename_i hi
  have hlt : (k : Int).toNat < t.cols.length := by omega
  rw [List.getD_eq_getElem?_getD, List.getElem?_eq_getElem hlt]
  have hc := (tblOk_parts h).2.2.2.2.2.1 _ (List.getElem_mem hlt)
  simp only [Option.getD_some]
  unfold colOk at hc
  split at hc
  ·
   exact .inl ‹_›
  ·
   split at hc
   ·
    exact .inr (.inl ‹_›)
   ·
    split at hc
    ·
     exact .inr (.inr ‹_›)
    ·
     cases hc
 ·
  exact .inl rfl
theorem widCols_ok {t : Tbl} (h : tblOk t = true) {k : Nat} (hy : GoodRows t k) {width : Int} (hw : 0 ≤ width ∧ width ≤ 300) : ∃ n : Nat, (gridL 400 t).2 = n ∧ (1 ≤ n ∧ n ≤ 90) ∧ (colLeastL 400 t).length = n ∧ (colWishL 400 t).length = n ∧
  widColsL 400 t width = widths (kindT t) (numT t) width t.gap (colLeastL 400 t) (colWishL 400 t) ∧ (widColsL 400 t width).length = n ∧ (∀ x ∈ widColsL 400 t width, 0 ≤ x ∧ x ≤ 300) ∧ ∀ x ∈ colLeastL 400 t, 0 ≤ x ∧ x ≤ 60 := by
 obtain ⟨n, hn, hn1, hcell, hcl⟩ := grid_need h hy 400 leastT_in
 obtain ⟨n', hn', _, hcell2, _⟩ := grid_need h hy 400 wishT_in
 have hnn : n = n' := by omega
 subst hnn
 have hg := (tblOk_parts h).2.2.1
 have e1 : colLeastL 400 t = leastL t (gridL 400 t).1 n := by unfold colLeastL; rw [if_pos h, hn]; rfl
 have e2 : colWishL 400 t = wishL t (gridL 400 t).1 n := by unfold colWishL; rw [if_pos h, hn]; rfl
 have e3 : widColsL 400 t width = widths (kindT t) (numT t) width t.gap (colLeastL 400 t) (colWishL 400 t) := by unfold widColsL; rw [if_pos ⟨h, hw⟩, e1, e2, hn]; rfl
 obtain ⟨l1, l2⟩ := leastL_in h hg.1 (fun x hx => (hcell x hx).1)
 obtain ⟨l3, _⟩ := wishL_in h hg.1 (fun x hx => (hcell x hx).1) (fun x hx => (hcell2 x hx).1)
 rw [← e1] at l1 l2
 rw [← e2] at l3
 obtain ⟨w1, w2, w3, w4, w5⟩ := widths_spec (kind := kindT t) (nn := numT t) (width := width) (gap := t.gap) (least := colLeastL 400 t) (wish := colWishL 400 t) (said_kind h)
 refine ⟨n, hn, hn1, l1, l3, e3, by rw [e3, w1, l1], ?_, l2⟩
 rw [e3]
 generalize widths (kindT t) (numT t) width t.gap (colLeastL 400 t) (colWishL 400 t) = Z at w1 w2 w3 w4 w5 ⊢
 have h0 : ∀ x ∈ Z, 0 ≤ x := by
  intro x hx
  obtain ⟨j, hj, rfl⟩ := List.getElem_of_mem hx
  have a1 := w2 j
  have a2 := int_at l2 j (by omega)
  have a3 : Z.getD j 0 = Z[j] := by rw [List.getD_eq_getElem?_getD, List.getElem?_eq_getElem hj]; rfl
  omega
 have hup : Z = colLeastL 400 t ∨ sumI Z ≤ 300 := by
  by_cases hle : width - wideL (colLeastL 400 t) t.gap ≤ 0
  ·
   exact .inl (w4 hle)
  ·
   obtain ⟨b1, b2⟩ := w5 (by omega)
   by_cases ha : ∀ j, j < (colLeastL 400 t).length → kindT t j = 1
   ·
    exact .inl (b1 ha)
   ·
    refine .inr ?_
    have : ∃ j, j < (colLeastL 400 t).length ∧ kindT t j ≠ 1 := Classical.byContradiction fun hno => ha fun j hj => Classical.byContradiction fun hq => hno ⟨j, hj, hq⟩
    have := b2 this
    have hm := Int.mul_nonneg hg.1 (show 0 ≤ max (((colLeastL 400 t).length : Int) - 1) 0 by omega)
    omega
 intro x hx
 refine ⟨h0 x hx, ?_⟩
 rcases hup with rfl | hs
 ·
  have := l2 x hx; omega
 ·
  have := sumI_ge h0 x hx; omega
theorem widCols_two {t : Tbl} {k : Nat} (hy : GoodRows t k) (width : Int) : widColsL 90 t width = widColsL 400 t width := by
 unfold widColsL
 split
 ·
  rename_i h
  rw [grid_one h.1 hy]
 ·
  rfl
set_option maxHeartbeats 1000000 in
theorem impl_widthOk (t : Tbl) (A : Option Addr) (c : Nat) (A' : Option Addr) (c' : Nat) (width : Int) (w : World) (hw : Base w) (hc : Rd colR w A t.cols) (hr : Rd rowR w A' t.rows) :
  Calls Tryz.prog 92 #[.agg #[.slice A t.cols.length c, .int .i64 t.head, .int .i64 t.foot, .slice A' t.rows.length c', .int .i64 t.gap], .int .i64 width] w fun e w' => e = .returned (.bool (tblOk t && inB width 0 300)) ∧ Below w.heap.size w w' := by
 have hT := fun (W : World) (h : Below w.heap.size w W) => impl_TblOk t A c A' c' W (hw.below h) (hc.below h) (hr.below h)
 clear hw hc hr
 cases hok : tblOk t with
 | false =>
  rw [hok] at hT
  go_enter Tryz.func92, Tryz.ntmps92
  go_wp2_with fail
  refine (hT _ (balloc (brefl _) _)).mono ?_
  rintro e w1 ⟨rfl, hb⟩
  go_wp2_with fail
  go_ret
  exact ⟨rfl, step (balloc (brefl _) _) hb⟩
 | true =>
  rw [hok] at hT
  obtain ⟨b, hb0⟩ : ∃ b, inB width 0 300 = b := ⟨_, rfl⟩
  have hI := fun (W : World) => impl_in width 0 300 W
  rw [hb0] at hI ⊢
  clear hb0
  go_enter Tryz.func92, Tryz.ntmps92
  go_wp2_with fail
  refine (hT _ (balloc (brefl _) _)).mono ?_
  rintro e w1 ⟨rfl, hb⟩
  go_wp2_with (go_at_call 76; refine (hI _).mono ?_; rintro e w' ⟨rfl, rfl⟩)
  go_ret
  exact ⟨by simp, step (balloc (brefl _) _) hb⟩
set_option maxRecDepth 100000 in
set_option maxHeartbeats 8000000 in
theorem impl_WidCols (t : Tbl) (A : Option Addr) (c : Nat) (A' : Option Addr) (c' : Nat) (width : Int) (w : World) (hw : Base w) (hc : Rd colR w A t.cols) (hr : Rd rowR w A' t.rows) {k : Nat} (hy : GoodRows t k) :
  Calls Tryz.prog 41 #[.agg #[.slice A t.cols.length c, .int .i64 t.head, .int .i64 t.foot, .slice A' t.rows.length c', .int .i64 t.gap], .int .i64 width] w fun e w' => ∃ v, e = .returned v ∧ IOwn w' w.heap.size v (widColsL 400 t width) ∧ Below w.heap.size w w' := by
 have hT := fun (W : World) (h : Below w.heap.size w W) => impl_widthOk t A c A' c' width W (hw.below h) (hc.below h) (hr.below h)
 by_cases hq : tblOk t = true ∧ 0 ≤ width ∧ width ≤ 300
 ·
  have hb1 : (tblOk t && inB width 0 300) = true := by rw [hq.1]; simp [inB]; omega
  rw [hb1] at hT
  obtain ⟨hok, hwd⟩ := hq
  have hG := fun (W : World) (h : Below w.heap.size w W) => impl_GrdOf t A c A' c' W (hw.below h) (hc.below h) (hr.below h)
  have hgr : gridOf 400 t = ⟨t.rows.length, (gridL 400 t).2, (gridL 400 t).1⟩ := by unfold gridOf; rw [if_pos hok]
  rw [hgr] at hG
  obtain ⟨n, hn, hn1, hcell, hcl⟩ := grid_need hok hy 400 leastT_in
  obtain ⟨n', hn', _, hcell2, _⟩ := grid_need hok hy 400 wishT_in
  have hnn : n = n' := by omega
  subst hnn
  have hle := grid_cols_le 400 t
  have hsm : Hid (∀ x ∈ (gridL 400 t).1, GSm x) := (GIn.rows (m := 400) hok).sm (by omega)
  have hres : Hid (widColsL 400 t width = widths (kindT t) (numT t) width t.gap (leastL t (gridL 400 t).1 n) (wishL t (gridL 400 t).1 n)) := by show widColsL 400 t width = _; unfold widColsL; rw [if_pos ⟨hok, hwd⟩, hn]; rfl
  rw [hres.out]
  rw [hn] at hG hle
  have hL := fun (W : World) (h : Below w.heap.size w W) GA gc hg => impl_cols t A c A' c' t.rows.length n (gridL 400 t).1 GA gc width W hok (hw.below h) (hc.below h) (hr.below h) hg hn1 hcell hcell2 (by omega) (by omega) hwd
  clear hgr hok hc hr hw hres hy hn hcell hcell2 hcl hn' hle hb1
  generalize gridL 400 t = GG at hG hL hsm ⊢
  obtain ⟨GL, GN⟩ := GG
  dsimp only at hG hL hsm ⊢
  generalize widths (kindT t) (numT t) width t.gap (leastL t GL n) (wishL t GL n) = ZZ at hL ⊢
  go_enter Tryz.func41, Tryz.ntmps41
  go_wp2_with fail
  refine (hT _ (balloc (brefl _) _)).mono ?_
  rintro e w1 ⟨rfl, hb⟩
  obtain ⟨c0, f0, s0⟩ := seenBk w.heap.size (by first | (simp; omega) | simp [*]) hb
  have HB := hide (step (balloc (brefl w) _) hb)
  clear hT
  go_upto_region 3 with fail
  go_region_with (first
   | (go_at_call 21; refine (hG _ ?_).mono ?_; (first | exact HB.out | exact bdrew HB.out | exact bdrew (bdrew HB.out)); rintro e w2 ⟨GA, gc, rfl, hown, hb2⟩; obtain ⟨c2, f2, s2⟩ := seenBk w.heap.size (by first | (simp; omega) | simp [*]) hb2; have hrd := grd_rd hown hsm.out)
   | (go_at_call 93; refine (hL _ ?_ GA gc ?_).mono ?_; (first | exact step HB.out hb2 | exact step (bdrew HB.out) hb2 | exact bdrew (step HB.out hb2) | exact bdrew (step (bdrew HB.out) hb2)); (first | exact hrd | exact hrd.below (bdrew (brefl _))); rintro e w3 ⟨v, rfl, hI, hb3⟩))
  all_goals
   have hsz : w.heap.size ≤ w2.heap.size := Nat.le_trans HB.out.size hb2.size
   go_wp2_with fail
   go_ret
   refine ⟨_, rfl, ?_, ?_⟩
   ·
    first
     | exact hI.base hsz
     | exact (hI.base hsz).below (bdrew (brefl _))
   ·
    (repeat' (with_reducible first | exact HB.out | refine bdrew ?_ | refine step ?_ (by with_reducible assumption)))
 ·
  have hb1 : (tblOk t && inB width 0 300) = false := by
   rw [Bool.eq_false_iff]
   intro h9
   rw [Bool.and_eq_true] at h9
   have h8 := h9.2
   simp [inB] at h8
   exact hq ⟨h9.1, by omega, by omega⟩
  rw [hb1] at hT
  have hres : widColsL 400 t width = [] := by unfold widColsL; rw [if_neg hq]
  rw [hres]
  clear hres hc hr hw hy hb1 hq
  go_enter Tryz.func41, Tryz.ntmps41
  go_wp2_with fail
  refine (hT _ (balloc (brefl _) _)).mono ?_
  rintro e w1 ⟨rfl, hb⟩
  go_wp2_with fail
  go_ret
  exact ⟨_, rfl, IOwn.nil _ _, step (balloc (brefl _) _) hb⟩
theorem wideG_nil (gap : Int) : wideG gap [] = 0 := by
 unfold wideG
 have h0 : max (((([] : List Int).length : Nat) : Int) - 1) 0 = 0 := by decide
 rw [h0, sumI_nil, Int.mul_zero]; rfl
set_option maxHeartbeats 1000000 in
theorem impl_wide0 (A : Option Addr) (c : Nat) (gap : Int) (w : World) (hr : Rd intR w A []) :
  Calls Tryz.prog 65 #[.slice A 0 c, .int .i64 gap] w fun e w' => e = .returned (.int .i64 0) ∧ Below w.heap.size w w' := by
 have hS := impl_sumOf A c [] w hr (fun x hx => by cases hx) (by simp)
 have hmax := max_int
 rw [sumI_nil] at hS
 have h0 : max (-1 : Int) 0 = 0 := by omega
 have t0 : gap * 0 = 0 := Int.mul_zero gap
 clear hr
 go_enter Tryz.func65, Tryz.ntmps65
 go_wp2_with (go_at_call 112; refine hS.mono ?_; rintro e w9 ⟨rfl, hw9⟩; obtain rfl := hw9.symm)
 go_ret
 exact ⟨by first | rfl | simp, by first | exact brefl _ | exact balloc (brefl _) _ | exact bdrew (brefl _)⟩
set_option maxRecDepth 100000 in
set_option maxHeartbeats 4000000 in
theorem impl_WidTable (t : Tbl) (A : Option Addr) (c : Nat) (A' : Option Addr) (c' : Nat) (width : Int) (w : World) (hw : Base w) (hc : Rd colR w A t.cols) (hr : Rd rowR w A' t.rows) {k : Nat} (hy : GoodRows t k) :
  Calls Tryz.prog 40 #[.agg #[.slice A t.cols.length c, .int .i64 t.head, .int .i64 t.foot, .slice A' t.rows.length c', .int .i64 t.gap], .int .i64 width] w fun e w' => e = .returned (.int .i64 (wideG t.gap (widColsL 400 t width))) ∧ Below w.heap.size w w' := by
 have hL := fun (W : World) (h : Below w.heap.size w W) => impl_WidCols t A c A' c' width W (hw.below h) (hc.below h) (hr.below h) hy
 have hWD : ∀ (W : World) (A2 : Option Addr) (d2 : Nat), Rd intR W A2 (widColsL 400 t width) → Calls Tryz.prog 65 #[.slice A2 (widColsL 400 t width).length d2, .int .i64 t.gap] W fun e w' => e = .returned (.int .i64 (wideG t.gap (widColsL 400 t width))) ∧ Below W.heap.size W w' := by
  intro W A2 d2 h9
  by_cases hq : tblOk t = true ∧ 0 ≤ width ∧ width ≤ 300
  ·
   obtain ⟨n, _, h2, _, _, _, h3, h4, _⟩ := widCols_ok hq.1 hy hq.2
   exact impl_wide A2 d2 _ t.gap W h9 (fun x hx => by have := h4 x hx; omega) (by omega) (tblOk_parts hq.1).2.2.1
  ·
   have e0 : widColsL 400 t width = [] := by unfold widColsL; rw [if_neg hq]
   rw [e0] at h9 ⊢
   rw [wideG_nil]
   exact impl_wide0 A2 d2 t.gap W h9
 generalize widColsL 400 t width = X at hL hWD ⊢
 generalize wideG t.gap X = wd at hWD ⊢
 clear hw hc hr hy
 go_enter Tryz.func40, Tryz.ntmps40
 have HB := hide (balloc (brefl w) (.cells #[.slice A t.cols.length c, .int .i64 t.head, .int .i64 t.foot, .slice A' t.rows.length c', .int .i64 t.gap] 26))
 go_upto_region 1 with fail
 go_region_with (first
  | (go_at_call 41; refine (hL _ ?_).mono ?_; (first | exact HB.out | exact bdrew HB.out); rintro e w2 ⟨v, rfl, hI, hb2⟩; obtain ⟨c2, f2, s2⟩ := seenBk w.heap.size (by first | (simp; omega) | simp [*]) hb2; obtain ⟨A2, d2, rfl⟩ := hI.form; have hrd := irow_rd hI)
  | (go_at_call 65; refine (hWD _ A2 d2 ?_).mono ?_; (first | exact hrd | exact hrd.below (bdrew (brefl _))); rintro e w3 ⟨rfl, hb3⟩))
 all_goals
  go_wp2_with fail
  go_ret
  refine ⟨rfl, ?_⟩
  (repeat' (with_reducible first | exact HB.out | refine bdrew ?_ | refine step ?_ (by with_reducible assumption)))
end Go.Proofs.YtpfagdmmhgcmnaaGreatDoor

namespace Go.Proofs.YtpfagdmmhgcmnaaGreatDoor
open Go.RowKit
structure PMid (K : Nat → Value → World → Prop) (n m : Nat) (dep : Nat → List Nat) (V : World) (R : World → Value → World → Prop) (st : Nat → Value) (l : Array Bool) (vs : Nat → Value) (W : World) : Prop where
 size : l.size = n
 closed : ∀ j, l.getD j false = true → ∀ e ∈ dep j, l.getD e false = true
 opened : l.getD m false = false → Below V.heap.size V W ∧ ∀ j, j < m → l.getD j false = true → K j (vs j) W
 done : l.getD m false = true → ∃ W1, Below V.heap.size V W1 ∧ (∀ j, j < m → l.getD j false = true → K j (vs j) W1) ∧ R W1 (vs m) W
 after : ∀ j, m < j → l.getD j false = true → vs j = vs m
 stale : l.getD m false = false → ∀ j, m < j → vs j = st j
def LastP (n m : Nat) (dep : Nat → List Nat) : Prop := ∀ L : Nat → Prop, (∀ j, L j → ∀ e ∈ dep j, L e) → m < n → L m → ∀ j, j < m → L j
def StableP (K : Nat → Value → World → Prop) : Prop := ∀ j v W W', K j v W → Below W.heap.size W W' → K j v W'
section
variable {K : Nat → Value → World → Prop} {n m : Nat} {dep : Nat → List Nat} {V : World} {R : World → Value → World → Prop} {st : Nat → Value} {l : Array Bool} {vs : Nat → Value} {W W' : World}
theorem getD_over {l : Array Bool} {j : Nat} (h : l.getD j false = true) : j < l.size := by
 refine Nat.lt_of_not_le fun h9 => ?_
 simp [Array.getD, Nat.not_lt.2 h9] at h
theorem PMid.start : PMid K n m dep V R st (Array.replicate n false) st V :=
 ⟨by simp, fun j hj => by simp [Array.getD] at hj, fun _ => ⟨brefl V, fun j _ hj => by simp [Array.getD] at hj⟩, fun h => by simp [Array.getD] at h, fun j _ hj => by simp [Array.getD] at hj, fun _ _ _ => rfl⟩
theorem PMid.isopen (h : PMid K n m dep V R st l vs W) (hL : LastP n m dep) {i : Nat} (hi : i < n) (him : i ≤ m) (hl : l.getD i true = false) : l.getD m false = false := by
 cases h9 : l.getD m false with
 | false => rfl
 | true =>
  have hm : m < n := by have := getD_over h9; rw [h.size] at this; exact this
  rcases Nat.lt_or_eq_of_le him with hlt | rfl
  ·
   have := hL (fun j => l.getD j false = true) h.closed hm h9 i hlt
   rw [getD_any (by rw [h.size]; exact hi) false true, hl] at this
   cases this
  ·
   rw [getD_any (by rw [h.size]; exact hi) false true, hl] at h9; cases h9
theorem PMid.get (h : PMid K n m dep V R st l vs W) (hL : LastP n m dep) {i : Nat} (hi : i < n) (him : i ≤ m) (hl : l.getD i true = false) (j : Nat) (hjm : j < m) (hj : l.getD j false = true) : K j (vs j) W := (h.opened (h.isopen hL hi him hl)).2 j hjm hj
theorem PMid.below (h : PMid K n m dep V R st l vs W) (hL : LastP n m dep) {i : Nat} (hi : i < n) (him : i ≤ m) (hl : l.getD i true = false) : Below V.heap.size V W := (h.opened (h.isopen hL hi him hl)).1
theorem PMid.closed_set (h : PMid K n m dep V R st l vs W) (i : Nat) (hd : ∀ e ∈ dep i, l.getD e false = true) (hi : i < n) :
  ∀ j, (l.setIfInBounds i true).getD j false = true → ∀ e ∈ dep j, (l.setIfInBounds i true).getD e false = true := by
 intro j hj e he
 have hup : l.getD e false = true → (l.setIfInBounds i true).getD e false = true := fun h0 => by
  by_cases e1 : e = i
  ·
   subst e1; simp [Array.getD, h.size, hi]
  ·
   rw [getD_set_ne false (Ne.symm e1)]; exact h0
 by_cases e2 : j = i
 ·
  subst e2; exact hup (hd e he)
 ·
  rw [getD_set_ne false (Ne.symm e2)] at hj
  exact hup (h.closed j hj e he)
theorem PMid.next (h : PMid K n m dep V R st l vs W) (hL : LastP n m dep) (hS : StableP K) (i : Nat) (hi : i < n) (him : i < m) (hl : l.getD i true = false) (v : Value) (hd : ∀ e ∈ dep i, l.getD e false = true) (hb : Below W.heap.size W W') (hk : K i v W') :
  PMid K n m dep V R st (l.setIfInBounds i true) (updV vs i v) W' := by
 have ho := h.isopen hL hi (Nat.le_of_lt him) hl
 obtain ⟨hB, hK⟩ := h.opened ho
 refine ⟨by simpa using h.size, h.closed_set i hd hi, fun _ => ⟨step hB hb, fun j hjm hj => ?_⟩, fun h9 => ?_, fun j hjm hj => ?_, fun h9 j hjm => ?_⟩
 ·
  unfold updV
  by_cases e : j = i
  ·
   subst e; rw [if_pos rfl]; exact hk
  ·
   rw [if_neg e]
   rw [getD_set_ne false (Ne.symm e)] at hj
   exact hS j _ _ _ (hK j hjm hj) hb
 ·
  rw [getD_set_ne false (by omega), ho] at h9; cases h9
 ·
  unfold updV
  rw [if_neg (by omega), if_neg (by omega)]
  rw [getD_set_ne false (by omega)] at hj
  exact h.after j hjm hj
 ·
  unfold updV
  rw [if_neg (by omega)]
  exact h.stale ho j hjm
theorem PMid.getStale (h : PMid K n m dep V R st l vs W) (hL : LastP n m dep) {i : Nat} (hi : i < n) (him : i ≤ m) (hl : l.getD i true = false) (j : Nat) (hj : m < j) : vs j = st j := h.stale (h.isopen hL hi him hl) j hj
theorem PMid.still (h : PMid K n m dep V R st l vs W) (hL : LastP n m dep) (hS : StableP K) (i : Nat) (hi : i < n) (him : i < m) (hl : l.getD i true = false) (v : Value) (hd : ∀ e ∈ dep i, l.getD e false = true) (hk : K i v W) :
  PMid K n m dep V R st (l.setIfInBounds i true) (updV vs i v) W := h.next hL hS i hi him hl v hd (brefl W) hk
theorem PMid.last (h : PMid K n m dep V R st l vs W) (hL : LastP n m dep) (hm : m < n) (hl : l.getD m true = false) (hno : ∀ j, m < j → l.getD j false = true → m ∈ dep j) (v : Value) (hd : ∀ e ∈ dep m, l.getD e false = true) (hR : R W v W') :
  PMid K n m dep V R st (l.setIfInBounds m true) (updV vs m v) W' := by
 have ho := h.isopen hL hm (Nat.le_refl m) hl
 obtain ⟨hB, hK⟩ := h.opened ho
 have hin : (l.setIfInBounds m true).getD m false = true := by simp [Array.getD, h.size, hm]
 refine ⟨by simpa using h.size, h.closed_set m hd hm, fun h9 => (by rw [hin] at h9; cases h9), fun _ => ⟨W, hB, fun j hj hj2 => ?_, ?_⟩, fun j hjm hj => ?_, fun h9 => (by rw [hin] at h9; cases h9)⟩
 ·
  unfold updV
  rw [if_neg (by omega)]
  rw [getD_set_ne false (by omega)] at hj2
  exact hK j hj hj2
 ·
  unfold updV
  rw [if_pos rfl]; exact hR
 ·
  rw [getD_set_ne false (by omega)] at hj
  have := h.closed j hj m (hno j hjm hj)
  rw [ho] at this; cases this
theorem PMid.post (h : PMid K n m dep V R st l vs W) (i : Nat) (hi : i < n) (him : m < i) (hlm : l.getD m false = true) (hd : ∀ e ∈ dep i, l.getD e false = true) :
  PMid K n m dep V R st (l.setIfInBounds i true) (updV vs i (vs m)) W := by
 refine ⟨by simpa using h.size, h.closed_set i hd hi, fun h9 => ?_, fun _ => ?_, fun j hjm hj => ?_, fun h9 => (by rw [getD_set_ne false (by omega), hlm] at h9; cases h9)⟩
 ·
  rw [getD_set_ne false (by omega), hlm] at h9; cases h9
 ·
  obtain ⟨W1, h1, h2, h3⟩ := h.done hlm
  refine ⟨W1, h1, fun j hj hj2 => ?_, ?_⟩
  ·
   unfold updV
   rw [if_neg (by omega)]
   rw [getD_set_ne false (by omega)] at hj2
   exact h2 j hj hj2
  ·
   unfold updV
   rw [if_neg (by omega)]; exact h3
 ·
  unfold updV
  rw [if_neg (show m ≠ i by omega)]
  by_cases e : j = i
  ·
   rw [if_pos e]
  ·
   rw [if_neg e]
   rw [getD_set_ne false (Ne.symm e)] at hj
   exact h.after j hjm hj
theorem PMid.fin0 (h : PMid K n m dep V R st l vs W) (hm : n ≤ m) (hall : ∀ j, j < n → l.getD j true = true) : Below V.heap.size V W ∧ ∀ j, j < n → K j (vs j) W := by
 have ho : l.getD m false = false := by
  cases h9 : l.getD m false with
  | false => rfl
  | true => have := getD_over h9; rw [h.size] at this; omega
 obtain ⟨hB, hK⟩ := h.opened ho
 exact ⟨hB, fun j hj => hK j (by omega) (by rw [getD_any (by rw [h.size]; exact hj) false true]; exact hall j hj)⟩
theorem PMid.fin (h : PMid K n m dep V R st l vs W) (hm : m < n) (hall : ∀ j, j < n → l.getD j true = true) : ∃ W1, Below V.heap.size V W1 ∧ (∀ j, j < m → K j (vs j) W1) ∧ R W1 (vs m) W ∧ ∀ j, m < j → j < n → vs j = vs m := by
 have h9 := hall m hm
 rw [getD_any (by rw [h.size]; exact hm) true false] at h9
 obtain ⟨W1, h1, h2, h3⟩ := h.done h9
 have hall2 : ∀ j, j < n → l.getD j false = true := fun j hj => by rw [getD_any (by rw [h.size]; exact hj) false true]; exact hall j hj
 exact ⟨W1, h1, fun j hj => h2 j hj (hall2 j (by omega)), h3, fun j hj hjn => h.after j hj (hall2 j hjn)⟩
theorem lastP_none (h : n ≤ m) : LastP n m dep := fun _ _ h1 => by omega
end
theorem wp_append_int {w : World} {o : Oper} {a : Act} {K : Act → World → Prop} {Q : Exit → Act → World → Prop} (s x : Operand)
  (ho : o.op = .call { callee := .builtin .append, args := #[s, x], argTypes := #[28, 28] }) (base : Nat) (v : Value) (xs : List Int) (hs : a.eval s = v) (hown : IOwn w base v xs)
  (ad : Addr) (c : Nat) (y : Int) (hx : a.eval x = .slice (some ad) 1 c) (hc : w.cell? ad = some (.int .i64 y)) (hn : xs.length ≤ 1000000) (hbase : base ≤ w.heap.size)
  (h : ∀ v' w', IOwn w' base v' (xs ++ [y]) → w.grownBy w' v.ownBlock → K (a.put o.dst v') w') : o.wp Tryz.prog a w K Q := by
 obtain ⟨i0, hi, hz0, hz1, hz2⟩ := info_parts info_ints
 refine wp_append_own w s x 28 ho base 3 i0 _ 1 8 und_ints hi hz0 hz1 hz2 rfl (by decide) v xs.length (xs.flatMap intE) hs hown ad 1 c [.int .i64 y] hx rfl (fun j u hj => ?_) (fun u hu => by rw [List.mem_singleton.1 hu]; rfl) (by unfold maxLen; omega) (by omega) hbase fun v' w' h1 h2 _ => h v' w' (show IOwn _ _ _ _ from ?_) h2
 ·
  have : j = 0 := by have := (List.getElem?_eq_some_iff.1 hj).1; simp at this; omega
  subst this; simp at hj; subst hj
  obtain ⟨b, o, sp⟩ := ad
  simpa [Addr.add] using hc
 ·
  unfold IOwn
  rw [List.length_append, List.flatMap_append]
  exact h1
end Go.Proofs.YtpfagdmmhgcmnaaGreatDoor

namespace Go.Proofs.YtpfagdmmhgcmnaaGreatDoor
open Go.RowKit
set_option maxRecDepth 100000 in
set_option maxHeartbeats 4000000 in
theorem laws_pwInts (A : Option Addr) (c : Nat) (A' : Option Addr) (c' : Nat) (xs : List Int) (w : World) (hr : Rd intR w A xs) (hr' : Rd intR w A' xs) (hn : xs.length ≤ 1000000) :
  Calls Tryz.prog 17 #[.slice A xs.length c, .slice A' xs.length c'] w fun e w' => e = .returned (.bool true) ∧ ∃ q, w' = w.drewN q := by
 have HR := hide hr
 have HR' := hide hr'
 clear hr hr'
 go_enter Tryz.func17, Tryz.ntmps17
 go_wp2_with fail
 go_loopg [5] xs.length (fun gg s5 wr => ∃ j : Nat, j ≤ xs.length ∧ xs.length - j ≤ gg ∧ s5 = .int .i64 j ∧ Aside (∃ q, wr = w.drewN q))
 case atStart => exact ⟨0, Nat.zero_le _, by omega, rfl, (show Aside _ from ⟨0, rfl⟩)⟩
 case round =>
  obtain ⟨j, hj, hgg, rfl, HQ⟩ := hrel
  obtain ⟨q, hq⟩ := HQ.out
  have hbw : Below w.heap.size w wr := by rw [hq]; exact bdrewN (brefl _) _
  by_cases hlt : j < xs.length
  ·
   have hltz : (j : Int) < (xs.length : Int) := by omega
   obtain ⟨b, o, rfl, hlb, hc⟩ := rd_int HR.out hbw j hlt
   obtain ⟨b', o', rfl, hlb', hc'⟩ := rd_int HR'.out hbw j hlt
   generalize xs.getD j 0 = y at hc hc'
   have HQ' := hide hq
   clear hq hbw HQ
   go_wp2_with fail
   go_quiet (fail)
   go_wp2_with fail
   go_roundg (xs.length - (j + 1))
   case measure => omega
   case rel => exact ⟨j + 1, by omega, by omega, by go_num, (show Aside _ from ⟨_, by rw [HQ'.out, World.drewN_drewN]⟩)⟩
  ·
   have hltz : ¬ (j : Int) < (xs.length : Int) := by omega
   have HQ' := hide hq
   clear hq hbw HQ
   go_wp2_with fail
   go_ret
   exact ⟨rfl, q, HQ'.out⟩
end Go.Proofs.YtpfagdmmhgcmnaaGreatDoor

namespace Go.Proofs.YtpfagdmmhgcmnaaGreatDoor
open Go.RowKit
theorem laws_pwOk (w : World) (hw : Base w) : Calls Tryz.prog 20 #[] w fun e w' => e = .returned (.bool true) ∧ Below w.heap.size w w' := by
 have hT := impl_TxtOk ⟨#[97, 98, 32, 99]⟩ w (by decide) hw
 have ht : txOk ⟨#[97, 98, 32, 99]⟩ = true := by decide
 rw [ht] at hT
 go_enter Tryz.func20, Tryz.ntmps20
 go_wp2_with fail
 refine hT.mono ?_
 rintro e w' ⟨rfl, hb⟩
 go_wp2_with fail
 go_ret
 exact ⟨rfl, hb⟩
theorem BlockAt.below {W W' : World} {C : Nat} {cs : List Value} (h : BlockAt W C cs) (hC : C < W.heap.size) (hb : Below W.heap.size W W') : BlockAt W' C cs := h.keep (hb.block C hC)
end Go.Proofs.YtpfagdmmhgcmnaaGreatDoor

namespace Go.Proofs.YtpfagdmmhgcmnaaGreatDoor
open Go.RowKit
set_option maxRecDepth 100000 in
set_option maxHeartbeats 4000000 in
theorem spec_l4UpTo (total : Int) (base : Nat) (A : Option Addr) (c : Nat) (ws : List Int) (w : World) (hI : IOwn w base (.slice A ws.length c) ws) (h : ShrIn total ws) (hn : 0 < ws.length) :
  Calls Tryz.prog 132 #[.int .i64 total, .slice A ws.length c] w fun e w' => ∃ v, e = .returned (.tuple #[v, .int .i64 (upToL total ws).2]) ∧ IOwn w' w.heap.size v (upToL total ws).1 ∧ Below w.heap.size w w' := by
 obtain ⟨g, rfl⟩ : ∃ g, A = some ⟨g, 0, none⟩ := by
  obtain ⟨g, c2, e2, _, hgl, _⟩ := hI.at hn
  injection e2 with e2 _ _
  exact ⟨g, e2⟩
 have hSUM := spec_l1Sum (some ⟨g, 0, none⟩) c ws w (irow_rd hI) (fun x hx => by have := h.2.1 x hx; omega) (by have := h.2.2; omega)
 have hSH := spec_l4Share total (some ⟨g, 0, none⟩) c ws w (irow_rd hI) h hn
 have ht := h.1
 obtain ⟨s1, s2⟩ := sum_le 100000 ws h.2.1
 have hl := h.2.2
 have HR := hide (irow_rd hI)
 obtain ⟨s, hs⟩ : ∃ s, sumI ws = s := ⟨_, rfl⟩
 rw [hs] at hSUM s1 s2
 have t1 : IntKind.i64.wrap (total - s) = total - s := by rw [IntKind.wrap_i64]; omega
 by_cases hle : s ≤ total
 ·
  have hup : upToL total ws = (ws, total - s) := by unfold upToL; rw [hs, if_pos hle]
  rw [hup]
  have hz : total ≥ s := hle
  obtain ⟨i0, hi, hz0, hz1, hz2⟩ := info_parts info_ints
  obtain ⟨n, hnn⟩ : ∃ n, n = ws.length := ⟨_, rfl⟩
  have HN := hide hnn
  rw [← hnn] at hSUM hn hl ⊢
  clear hI h hs hup hSH hnn
  go_enter Tryz.func132, Tryz.ntmps132
  go_wp2_with fail
  refine hSUM.mono ?_
  rintro e w9 ⟨rfl, hw9⟩
  obtain rfl := hw9.symm
  clear hSUM
  go_wp2_with (first
   | (at_builtin; refine wpList_append_own _ rfl _ _ 28 rfl w.heap.size 3 i0 _ 1 8 und_ints hi hz0 hz1 hz2 rfl (by decide) _ _ _ rfl (World.ownsRow_made w #[] 0 (Nat.le_refl _) (Nat.zero_le _) (by simp)) ⟨g, 0, none⟩ n c (ws.flatMap intE) rfl ?qc1 ?qc2 ?qc3 ?qc4 ?qc5 ?qc6 ?_))
  case qc1 => rw [flatMap_length intE 1 (fun _ => rfl), HN.out]
  case qc2 => exact rd_cells HR.out (balloc (brefl _) _)
  case qc3 => exact ints_one ws
  case qc4 => unfold maxLen; omega
  case qc5 => omega
  case qc6 => simp
  intro v' w1 hown hgrow _
  have HB1 := hide (((Below.refl _ w).alloc (Nat.le_refl _) (.cells #[] 3)).grown hgrow (by simp) (by intro k hk; simp [Value.ownBlock] at hk; omega))
  have hO1 : IOwn w1 w.heap.size v' ws := by
   unfold IOwn; rw [← HN.out]; simpa using hown
  have HO1 := hide hO1
  clear hown hgrow hO1 hi hz0 hz1 hz2
  go_wp2_with fail
  exact bodyPost_ret (v := .tuple #[v', .int .i64 (total - s)]) (by simp [results, Tryz.results132, go_sem, *]) rfl ⟨_, rfl, HO1.out, HB1.out⟩
 ·
  have hup : upToL total ws = (share total ws, 0) := by unfold upToL; rw [hs, if_neg hle]
  rw [hup]
  have hz : ¬ total ≥ s := hle
  clear hI h hs hup
  go_enter Tryz.func132, Tryz.ntmps132
  go_upto_region 4 with (go_at_call 90; refine hSUM.mono ?_; rintro e w9 ⟨rfl, hw9⟩; obtain rfl := hw9.symm)
  go_wp2_with fail
  refine hSH.mono ?_
  rintro e w3 ⟨v, rfl, hO, hb3⟩
  have HO := hide hO
  have HB3 := hide hb3
  clear hSH hSUM hO hb3
  go_wp2_with fail
  exact bodyPost_ret (v := .tuple #[v, .int .i64 0]) (by simp [results, Tryz.results132, go_sem, *]) rfl ⟨_, rfl, HO.out, HB3.out⟩
theorem ofKind_succ (f : Nat → Int) (q : Int) (n : Nat) : ofKind f q (n + 1) = ofKind f q n ++ [if f n = q then 1 else 0] := by
 unfold ofKind
 rw [List.range_succ, List.map_append]
 rfl
set_option maxRecDepth 100000 in
set_option maxHeartbeats 4000000 in
theorem spec_l6Of (t : Tbl) (A : Option Addr) (c : Nat) (A' : Option Addr) (c' : Nat) (n : Nat) (q : Int) (w : World) (hc : Rd colR w A t.cols) (hn : n ≤ 1000) :
  Calls Tryz.prog 135 #[.agg #[.slice A t.cols.length c, .int .i64 t.head, .int .i64 t.foot, .slice A' t.rows.length c', .int .i64 t.gap], .int .i64 q, .int .i64 n] w fun e w' => ∃ v, e = .returned v ∧ IOwn w' w.heap.size v (ofKind (kindT t) q n) ∧ Below w.heap.size w w' := by
 have hS := fun (W : World) (h : Below w.heap.size w W) (k : Nat) => spec_l5Said t A c A' c' k W (hc.below h) (by omega)
 obtain ⟨V, hV⟩ : ∃ V, V = (w.alloc (.cells #[.slice A t.cols.length c, .int .i64 t.head, .int .i64 t.foot, .slice A' t.rows.length c', .int .i64 t.gap] 26)).alloc (.cells #[] 3) := ⟨_, rfl⟩
 have m1 : IOwn V (w.heap.size + 1) (.slice (some ⟨w.heap.size + 1, 0, none⟩) 0 0) [] := by
  have e1 : (w.alloc (.cells #[.slice A t.cols.length c, .int .i64 t.head, .int .i64 t.foot, .slice A' t.rows.length c', .int .i64 t.gap] 26)).heap.size = w.heap.size + 1 := by simp
  have m0 : IOwn ((w.alloc (.cells #[.slice A t.cols.length c, .int .i64 t.head, .int .i64 t.foot, .slice A' t.rows.length c', .int .i64 t.gap] 26)).alloc (.cells #[] 3)) (w.heap.size + 1) (.slice (some ⟨(w.alloc (.cells #[.slice A t.cols.length c, .int .i64 t.head, .int .i64 t.foot, .slice A' t.rows.length c', .int .i64 t.gap] 26)).heap.size, 0, none⟩) 0 0) [] := World.ownsRow_made (w.alloc (.cells #[.slice A t.cols.length c, .int .i64 t.head, .int .i64 t.foot, .slice A' t.rows.length c', .int .i64 t.gap] 26)) #[] 0 (by simp) (Nat.zero_le _) (by simp)
  rw [e1] at m0
  rw [hV]; exact m0
 have hB : Below w.heap.size w V := by rw [hV]; exact balloc (balloc (brefl _) _) _
 have hK : BlockAt V w.heap.size [.slice A t.cols.length c, .int .i64 t.head, .int .i64 t.foot, .slice A' t.rows.length c', .int .i64 t.gap] := by
  rw [hV]; exact (BlockAt.new w [.slice A t.cols.length c, .int .i64 t.head, .int .i64 t.foot, .slice A' t.rows.length c', .int .i64 t.gap] 26).keep ((balloc (brefl _) _).block w.heap.size (by simp))
 have hzV : V.heap.size = w.heap.size + 2 := by rw [hV]; simp
 have HM1 := hide m1
 have HB := hide hB
 have HK := hide hK
 have HV := hide hV
 have HZ := hide hzV
 clear m1 hB hK hV hc hzV
 have hfc := fieldC
 go_enter Tryz.func135, Tryz.ntmps135
 go_wp2_with fail
 rw [← HV.out]
 go_loopg [7, 8] n (fun gg s7 s8 wr => ∃ j : Nat, j ≤ n ∧ n - j ≤ gg ∧ s8 = .int .i64 j ∧ Aside (IOwn wr (w.heap.size + 1) s7 (ofKind (kindT t) q j)) ∧ Aside (Below w.heap.size w wr) ∧ Aside (BlockAt wr w.heap.size [.slice A t.cols.length c, .int .i64 t.head, .int .i64 t.foot, .slice A' t.rows.length c', .int .i64 t.gap]) ∧ w.heap.size + 2 ≤ wr.heap.size)
 case atStart => exact ⟨0, Nat.zero_le _, by omega, rfl, HM1.out, HB.out, HK.out, by rw [HZ.out]; exact Nat.le_refl _⟩
 case round =>
  obtain ⟨j, hj, hgg, rfl, HO, HBW, HKW, hsz⟩ := hrel
  by_cases hlt : j < n
  ·
   have hltz : (j : Int) < (n : Int) := by omega
   have y0 := HKW.out.1 0 _ rfl
   have y1 := HKW.out.1 1 _ rfl
   have y2 := HKW.out.1 2 _ rfl
   have y3 := HKW.out.1 3 _ rfl
   have y4 := HKW.out.1 4 _ rfl
   have hSj := hS wr HBW.out j
   have HSU := hide (ofKind_succ (kindT t) q j)
   obtain ⟨k0, hk0⟩ : ∃ k0, (saidOf t j).k = k0 := ⟨_, rfl⟩
   have hk1 : kindT t j = k0 := hk0
   rw [hk0] at hSj
   have HK1 := hide hk1
   have hol : (ofKind (kindT t) q j).length ≤ 1000000 := by unfold ofKind; simp; omega
   have HOL := hide hol
   clear hk0 hk1 hol
   go_wp2_with fail
   refine hSj.mono ?_
   rintro e w5 ⟨rfl, hb5⟩
   have HB5 := hide (step HBW.out hb5)
   have HO5 := hide (HO.out.below hb5)
   have HK5 := hide (HKW.out.keep (hb5.block w.heap.size (by omega)))
   have hsz5 : w.heap.size + 2 ≤ w5.heap.size := Nat.le_trans hsz hb5.size
   clear y0 y1 y2 y3 y4 hSj hb5
   by_cases h1 : k0 = q
   ·
    have h1z : (k0 == q) = true := by simp [h1]
    have HS2 := hide (show ofKind (kindT t) q j ++ [(1 : Int)] = ofKind (kindT t) q (j + 1) by rw [HSU.out, HK1.out, if_pos h1])
    go_wp2_with (at_builtin; refine wpList_append_int rfl (.tmp 21) (.tmp 22) rfl (w.heap.size + 1) _ (ofKind (kindT t) q j) rfl (HO5.out.below (balloc (brefl _) _)) ⟨w5.heap.size, 0, none⟩ 1 1 rfl (cell_new _ _ _ _ 0 _ rfl) HOL.out (by simp; omega) ?_)
    intro v' w6 H1 H2 H3
    have HB6 : Hid (Below w.heap.size w w6) := (balloc HB5.out (.cells #[.int .i64 1] 3)).trans (grown_below H2.out (by simp; omega) (fun b hb => by have := (HO5.out.lt hb).1; omega))
    have HK6 := hide ((HK5.out.keep ((balloc (brefl w5) (.cells #[.int .i64 1] 3)).block w.heap.size (by omega))).keep (H2.out.block w.heap.size (by simp; omega) (fun e => by have := (HO5.out.lt e.symm).1; omega)))
    have hsz6 : w.heap.size + 2 ≤ w6.heap.size := by have := H2.out.size; simp at this; omega
    rw [HS2.out] at H1
    clear H2 H3 HB5 HO5 HK5 HO HBW HKW HS2 HSU HOL
    go_wp2_with fail
    go_roundg (n - (j + 1))
    case measure => omega
    case rel => exact ⟨j + 1, by omega, by omega, by go_num, H1.out, HB6.out, HK6.out, hsz6⟩
   ·
    have h1z : (k0 == q) = false := by simp [h1]
    have HS2 := hide (show ofKind (kindT t) q j ++ [(0 : Int)] = ofKind (kindT t) q (j + 1) by rw [HSU.out, HK1.out, if_neg h1])
    go_wp2_with (at_builtin; refine wpList_append_int rfl (.tmp 24) (.tmp 25) rfl (w.heap.size + 1) _ (ofKind (kindT t) q j) rfl (HO5.out.below (balloc (brefl _) _)) ⟨w5.heap.size, 0, none⟩ 1 0 rfl (cell_new _ _ _ _ 0 _ rfl) HOL.out (by simp; omega) ?_)
    intro v' w6 H1 H2 H3
    have HB6 : Hid (Below w.heap.size w w6) := (balloc HB5.out (.cells #[.int .i64 0] 3)).trans (grown_below H2.out (by simp; omega) (fun b hb => by have := (HO5.out.lt hb).1; omega))
    have HK6 := hide ((HK5.out.keep ((balloc (brefl w5) (.cells #[.int .i64 0] 3)).block w.heap.size (by omega))).keep (H2.out.block w.heap.size (by simp; omega) (fun e => by have := (HO5.out.lt e.symm).1; omega)))
    have hsz6 : w.heap.size + 2 ≤ w6.heap.size := by have := H2.out.size; simp at this; omega
    rw [HS2.out] at H1
    clear H2 H3 HB5 HO5 HK5 HO HBW HKW HS2 HSU HOL
    go_wp2_with fail
    go_roundg (n - (j + 1))
    case measure => omega
    case rel => exact ⟨j + 1, by omega, by omega, by go_num, H1.out, HB6.out, HK6.out, hsz6⟩
  ·
   have hltz : ¬ (j : Int) < (n : Int) := by omega
   have hjn := hide (show j = n by omega)
   go_wp2_with fail
   go_ret
   exact ⟨_, rfl, by rw [← hjn.out]; exact HO.out.base (by omega), HBW.out⟩
set_option linter.unusedSimpArgs false in
set_option maxRecDepth 100000 in
set_option maxHeartbeats 40000000 in
theorem spec_l6Add (A : Option Addr) (c : Nat) (A' : Option Addr) (c' n : Nat) (X Y : List Int) (w : World) (hr : Rd intR w A X) (hr' : Rd intR w A' Y) (hl : X.length = n) (hl2 : Y.length = n) (hn : n ≤ 1000) (hx : ∀ x ∈ X, 0 ≤ x ∧ x ≤ 1000000) (hy : ∀ x ∈ Y, 0 ≤ x ∧ x ≤ 1000000) :
  Calls Tryz.prog 134 #[.slice A n c, .slice A' n c'] w fun e w' => ∃ v, e = .returned v ∧ IOwn w' w.heap.size v (addAt X 0 Y) ∧ Below w.heap.size w w' := by
 have hZ : ∀ j, (addAt X 0 Y).getD j 0 = X.getD j 0 + Y.getD j 0 := addAt_get0 (by omega)
 have hZl : (addAt X 0 Y).length = n := by rw [addAt_length, hl]
 generalize addAt X 0 Y = Z at hZ hZl ⊢
 have m1 : IOwn (w.alloc (.cells #[] 3)) w.heap.size (.slice (some ⟨w.heap.size, 0, none⟩) 0 0) [] := World.ownsRow_made w #[] 0 (Nat.le_refl _) (Nat.zero_le _) (by simp)
 have HR := hide hr
 have HR' := hide hr'
 have HX := hide hx
 have HY := hide hy
 have HZ := hide hZ
 have HZL := hide hZl
 have HL := hide hl
 have HL2 := hide hl2
 have HM1 := hide m1
 clear hr hr' hx hy hZ hZl hl hl2 m1
 go_enter Tryz.func134, Tryz.ntmps134
 go_wp2_with fail
 go_loopg [5, 6] n (fun gg s5 s6 wr => ∃ jj : Nat, jj ≤ n ∧ n - jj ≤ gg ∧ s6 = .int .i64 jj ∧ Aside (IOwn wr w.heap.size s5 (Z.take jj)) ∧ Aside (Below w.heap.size w wr))
 case atStart => exact ⟨0, Nat.zero_le _, by omega, rfl, (show Aside _ from by rw [List.take_zero]; exact HM1.out), balloc (brefl _) _⟩
 case round =>
  obtain ⟨jj, hj, hgg, rfl, HO, HB⟩ := hrel
  by_cases hlt : jj < n
  ·
   have hltz : (jj : Int) < (n : Int) := by omega
   obtain ⟨b, o, rfl, hlb, hc1⟩ := rd_int HR.out HB.out jj (by rw [HL.out]; exact hlt)
   obtain ⟨b2, o2, rfl, hlb2, hc2⟩ := rd_int HR'.out HB.out jj (by rw [HL2.out]; exact hlt)
   have hx0 := int_at HX.out jj (by rw [HL.out]; exact hlt)
   have hy0 := int_at HY.out jj (by rw [HL2.out]; exact hlt)
   have hz0 := HZ.out jj
   have hsn : Z.take jj ++ [Z.getD jj 0] = Z.take (jj + 1) := take_snoc (by rw [HZL.out]; exact hlt)
   rw [hz0] at hsn
   generalize X.getD jj 0 = x at hc1 hx0 hsn
   generalize Y.getD jj 0 = y at hc2 hy0 hsn
   have t1 : IntKind.i64.wrap (x + y) = x + y := by rw [IntKind.wrap_i64]; omega
   have HSN := hide hsn
   clear hsn hz0 hx0 hy0
   go_wp2_with fail
   have HOD : Hid (IOwn wr.drew w.heap.size u5 (Z.take jj)) := HO.out.below (bdrew (brefl _))
   have HBD := hide (bdrew HB.out)
   have ed := bdrew (brefl wr)
   have q1 := keepW ed hc1
   have q2 := keepW ed hc2
   have hzl : (Z.take jj).length ≤ 1000000 := by simp; omega
   have HOW : Hid (∀ W, Below wr.drew.heap.size wr.drew W → IOwn W w.heap.size u5 (Z.take jj) ∧ w.heap.size ≤ W.heap.size) := fun W h => ⟨HOD.out.below h, Nat.le_trans HBD.out.size h.size⟩
   clear ed hc1 hc2
   obtain ⟨KF, hKF⟩ : ∃ f : Nat → Value → World → Prop, f = (fun j v W => match j with | 0 => v = u5 | 1 => v = .slice (some ⟨b, o, none⟩) n c | 2 => v = .int .i64 ↑jj | 3 => v = .pointer (some ⟨b, o + jj, none⟩) | 4 => v = .int .i64 x | 5 => v = .slice (some ⟨b2, o2, none⟩) n c' | 6 => v = .int .i64 ↑jj | 7 => v = .pointer (some ⟨b2, o2 + jj, none⟩) | 8 => v = .int .i64 y | 9 => v = .int .i64 (x + y) | 10 => ∃ B10, v = .slice (some ⟨B10, 0, none⟩) 1 1 ∧ W.cell? ⟨B10, 0, none⟩ = some (.int .i64 (x + y)) | _ => True) := ⟨_, rfl⟩
   have k0 : ∀ v W, KF 0 v W ↔ (v = u5) := fun v W => by rw [hKF]; first | done | exact Iff.rfl
   have k1 : ∀ v W, KF 1 v W ↔ (v = .slice (some ⟨b, o, none⟩) n c) := fun v W => by rw [hKF]; first | done | exact Iff.rfl
   have k2 : ∀ v W, KF 2 v W ↔ (v = .int .i64 ↑jj) := fun v W => by rw [hKF]; first | done | exact Iff.rfl
   have k3 : ∀ v W, KF 3 v W ↔ (v = .pointer (some ⟨b, o + jj, none⟩)) := fun v W => by rw [hKF]; first | done | exact Iff.rfl
   have k4 : ∀ v W, KF 4 v W ↔ (v = .int .i64 x) := fun v W => by rw [hKF]; first | done | exact Iff.rfl
   have k5 : ∀ v W, KF 5 v W ↔ (v = .slice (some ⟨b2, o2, none⟩) n c') := fun v W => by rw [hKF]; first | done | exact Iff.rfl
   have k6 : ∀ v W, KF 6 v W ↔ (v = .int .i64 ↑jj) := fun v W => by rw [hKF]; first | done | exact Iff.rfl
   have k7 : ∀ v W, KF 7 v W ↔ (v = .pointer (some ⟨b2, o2 + jj, none⟩)) := fun v W => by rw [hKF]; first | done | exact Iff.rfl
   have k8 : ∀ v W, KF 8 v W ↔ (v = .int .i64 y) := fun v W => by rw [hKF]; first | done | exact Iff.rfl
   have k9 : ∀ v W, KF 9 v W ↔ (v = .int .i64 (x + y)) := fun v W => by rw [hKF]; first | done | exact Iff.rfl
   have k10 : ∀ v W, KF 10 v W ↔ (∃ B10, v = .slice (some ⟨B10, 0, none⟩) 1 1 ∧ W.cell? ⟨B10, 0, none⟩ = some (.int .i64 (x + y))) := fun v W => by rw [hKF]; first | done | exact Iff.rfl
   have HST : StableP KF := by
    rw [hKF]
    intro j v W W9 h hb
    by_cases hjn : j < 13
    ·
     obtain rfl | rfl | rfl | rfl | rfl | rfl | rfl | rfl | rfl | rfl | rfl | rfl | rfl : j = 0 ∨ j = 1 ∨ j = 2 ∨ j = 3 ∨ j = 4 ∨ j = 5 ∨ j = 6 ∨ j = 7 ∨ j = 8 ∨ j = 9 ∨ j = 10 ∨ j = 11 ∨ j = 12 := by omega
     ·
      exact h
     ·
      exact h
     ·
      exact h
     ·
      exact h
     ·
      exact h
     ·
      exact h
     ·
      exact h
     ·
      exact h
     ·
      exact h
     ·
      exact h
     ·
      obtain ⟨B10, hv, h⟩ := h
      exact ⟨B10, hv, (keepW hb h)⟩
     ·
      exact trivial
     ·
      exact trivial
    ·
     match j, h with
     | 0, h => exact absurd (by decide) hjn
     | 1, h => exact absurd (by decide) hjn
     | 2, h => exact absurd (by decide) hjn
     | 3, h => exact absurd (by decide) hjn
     | 4, h => exact absurd (by decide) hjn
     | 5, h => exact absurd (by decide) hjn
     | 6, h => exact absurd (by decide) hjn
     | 7, h => exact absurd (by decide) hjn
     | 8, h => exact absurd (by decide) hjn
     | 9, h => exact absurd (by decide) hjn
     | 10, h => exact absurd (by decide) hjn
     | 11, h => exact absurd (by decide) hjn
     | 12, h => exact absurd (by decide) hjn
     | _ + 13, h => exact h
   clear hKF
   obtain ⟨dep, hdep⟩ : ∃ f : Nat → List Nat, f = (fun j => match j with | 3 => [1, 2] | 4 => [3] | 7 => [5, 6] | 8 => [7] | 9 => [4, 8] | 10 => [9] | 11 => [0, 10] | 12 => [11] | _ => []) := ⟨_, rfl⟩
   have d0 : dep 0 = [] := congrFun hdep 0
   have d1 : dep 1 = [] := congrFun hdep 1
   have d2 : dep 2 = [] := congrFun hdep 2
   have d3 : dep 3 = [1, 2] := congrFun hdep 3
   have d4 : dep 4 = [3] := congrFun hdep 4
   have d5 : dep 5 = [] := congrFun hdep 5
   have d6 : dep 6 = [] := congrFun hdep 6
   have d7 : dep 7 = [5, 6] := congrFun hdep 7
   have d8 : dep 8 = [7] := congrFun hdep 8
   have d9 : dep 9 = [4, 8] := congrFun hdep 9
   have d10 : dep 10 = [9] := congrFun hdep 10
   have d11 : dep 11 = [0, 10] := congrFun hdep 11
   have d12 : dep 12 = [11] := congrFun hdep 12
   clear hdep
   have HLD : LastP 13 11 dep := by
    intro L hc _ k11
    have k10 : L 10 := hc 11 k11 10 (by rw [d11]; simp)
    have k9 : L 9 := hc 10 k10 9 (by rw [d10]; simp)
    have k8 : L 8 := hc 9 k9 8 (by rw [d9]; simp)
    have k7 : L 7 := hc 8 k8 7 (by rw [d8]; simp)
    have k6 : L 6 := hc 7 k7 6 (by rw [d7]; simp)
    have k5 : L 5 := hc 7 k7 5 (by rw [d7]; simp)
    have k4 : L 4 := hc 9 k9 4 (by rw [d9]; simp)
    have k3 : L 3 := hc 4 k4 3 (by rw [d4]; simp)
    have k2 : L 2 := hc 3 k3 2 (by rw [d3]; simp)
    have k1 : L 1 := hc 3 k3 1 (by rw [d3]; simp)
    have k0 : L 0 := hc 11 k11 0 (by rw [d11]; simp)
    intro j hj
    obtain rfl | rfl | rfl | rfl | rfl | rfl | rfl | rfl | rfl | rfl | rfl : j = 0 ∨ j = 1 ∨ j = 2 ∨ j = 3 ∨ j = 4 ∨ j = 5 ∨ j = 6 ∨ j = 7 ∨ j = 8 ∨ j = 9 ∨ j = 10 := by omega
    all_goals assumption
   obtain ⟨st, hst⟩ : ∃ f : Nat → Value, f = (fun j => match j with | 0 => u14 | 1 => u15 | 2 => u16 | 3 => u17 | 4 => u18 | 5 => u19 | 6 => u20 | 7 => u21 | 8 => u22 | 9 => u23 | 10 => u24 | 11 => u25 | 12 => u5 | _ => undef) := ⟨_, rfl⟩
   have st0 : st 0 = u14 := congrFun hst 0
   have st1 : st 1 = u15 := congrFun hst 1
   have st2 : st 2 = u16 := congrFun hst 2
   have st3 : st 3 = u17 := congrFun hst 3
   have st4 : st 4 = u18 := congrFun hst 4
   have st5 : st 5 = u19 := congrFun hst 5
   have st6 : st 6 = u20 := congrFun hst 6
   have st7 : st 7 = u21 := congrFun hst 7
   have st8 : st 8 = u22 := congrFun hst 8
   have st9 : st 9 = u23 := congrFun hst 9
   have st10 : st 10 = u24 := congrFun hst 10
   have st11 : st 11 = u25 := congrFun hst 11
   have st12 : st 12 = u5 := congrFun hst 12
   refine wp_region_inv (fun l a W => ∃ vs : Nat → Value, a = ⟨List.toArray (.slice (some ⟨b, o, none⟩) n c :: .slice (some ⟨b2, o2, none⟩) n c' :: undef :: undef :: .slice none 0 0 :: vs 12 :: .int .i64 ↑jj :: .slice (some ⟨w.heap.size, 0, none⟩) 0 0 :: .int .i64 ↑jj :: .slice (some ⟨b, o, none⟩) n c :: .int .i64 ↑n :: .bool true :: u12 :: u13 :: vs 0 :: vs 1 :: vs 2 :: vs 3 :: vs 4 :: vs 5 :: vs 6 :: vs 7 :: vs 8 :: vs 9 :: vs 10 :: vs 11 :: undef :: []), []⟩ ∧ PMid KF 13 11 dep (wr.drew) (fun W v W2 => IOwn W2 w.heap.size v (Z.take jj ++ [x + y]) ∧ W.grownBy W2 u5.ownBlock) st l vs W) (by kernel_rfl) ?top ?start ?step ?fin
   case top =>
    clear k0 k1 k2 k3 k4 k5 k6 k7 k8 k9 k10 d0 d1 d2 d3 d4 d5 d6 d7 d8 d9 d10 d11 d12 hst st0 st1 st2 st3 st4 st5 st6 st7 st8 st9 st10 st11 st12
    intro j o ho e he
    have hj : j < 13 := (Array.getElem?_eq_some_iff.1 ho).1
    have hA : (o.after.all fun e => decide (e.on < j)) = true := by
     obtain rfl | rfl | rfl | rfl | rfl | rfl | rfl | rfl | rfl | rfl | rfl | rfl | rfl : j = 0 ∨ j = 1 ∨ j = 2 ∨ j = 3 ∨ j = 4 ∨ j = 5 ∨ j = 6 ∨ j = 7 ∨ j = 8 ∨ j = 9 ∨ j = 10 ∨ j = 11 ∨ j = 12 := by omega
     all_goals
      simp only [List.getElem?_toArray, List.getElem?_cons_zero, List.getElem?_cons_succ, Option.some.injEq] at ho
      subst ho
      first | decide | kernel_rfl | simp
    simpa using Array.all_eq_true'.1 hA e he
   case start => exact ⟨st, by rw [hst]; first | done | rfl, PMid.start⟩
   case step =>
    rintro l a W i o ho hl hpre hsz ⟨vs, rfl, hM0⟩ K hK
    have hi : i < 13 := (Array.getElem?_eq_some_iff.1 ho).1
    obtain rfl | rfl | rfl | rfl | rfl | rfl | rfl | rfl | rfl | rfl | rfl | rfl | rfl : i = 0 ∨ i = 1 ∨ i = 2 ∨ i = 3 ∨ i = 4 ∨ i = 5 ∨ i = 6 ∨ i = 7 ∨ i = 8 ∨ i = 9 ∨ i = 10 ∨ i = 11 ∨ i = 12 := by omega
    ·
     simp only [List.getElem?_toArray, List.getElem?_cons_zero, List.getElem?_cons_succ, Option.some.injEq] at ho
     subst ho
     have hMB := hM0.below HLD hi (by decide) hl
     have hMG := hM0.get HLD hi (by decide) hl
     have v12 : vs 12 = u5 := (hM0.getStale HLD hi (by decide) hl 12 (by decide)).trans st12
     have hdp : ∀ e ∈ dep 0, l.getD e false = true := by rw [d0]; exact dep_nil
     have e := k0
     clear k0 k1 k2 k3 k4 k5 k6 k7 k8 k9 k10 d0 d1 d2 d3 d4 d5 d6 d7 d8 d9 d10 d11 d12 hst st0 st1 st2 st3 st4 st5 st6 st7 st8 st9 st10 st11 st12
     rw [v12]
     go_simp
     exact hK.out _ _ ⟨updV vs 0 (u5), (by simp [updV, v12]), hM0.still HLD HST 0 (by decide) (by decide) hl _ hdp ((e _ _).2 rfl)⟩
    ·
     simp only [List.getElem?_toArray, List.getElem?_cons_zero, List.getElem?_cons_succ, Option.some.injEq] at ho
     subst ho
     have hMB := hM0.below HLD hi (by decide) hl
     have hMG := hM0.get HLD hi (by decide) hl
     have hdp : ∀ e ∈ dep 1, l.getD e false = true := by rw [d1]; exact dep_nil
     have e := k1
     clear k0 k1 k2 k3 k4 k5 k6 k7 k8 k9 k10 d0 d1 d2 d3 d4 d5 d6 d7 d8 d9 d10 d11 d12 hst st0 st1 st2 st3 st4 st5 st6 st7 st8 st9 st10 st11 st12
     go_simp
     exact hK.out _ _ ⟨updV vs 1 (.slice (some ⟨b, o, none⟩) n c), rfl, hM0.still HLD HST 1 (by decide) (by decide) hl _ hdp ((e _ _).2 rfl)⟩
    ·
     simp only [List.getElem?_toArray, List.getElem?_cons_zero, List.getElem?_cons_succ, Option.some.injEq] at ho
     subst ho
     have hMB := hM0.below HLD hi (by decide) hl
     have hMG := hM0.get HLD hi (by decide) hl
     have hdp : ∀ e ∈ dep 2, l.getD e false = true := by rw [d2]; exact dep_nil
     have e := k2
     clear k0 k1 k2 k3 k4 k5 k6 k7 k8 k9 k10 d0 d1 d2 d3 d4 d5 d6 d7 d8 d9 d10 d11 d12 hst st0 st1 st2 st3 st4 st5 st6 st7 st8 st9 st10 st11 st12
     go_simp
     exact hK.out _ _ ⟨updV vs 2 (.int .i64 ↑jj), rfl, hM0.still HLD HST 2 (by decide) (by decide) hl _ hdp ((e _ _).2 rfl)⟩
    ·
     simp only [List.getElem?_toArray, List.getElem?_cons_zero, List.getElem?_cons_succ, Option.some.injEq] at ho
     subst ho
     have hMB := hM0.below HLD hi (by decide) hl
     have hMG := hM0.get HLD hi (by decide) hl
     have v1 : vs 1 = .slice (some ⟨b, o, none⟩) n c := (k1 _ _).1 (hMG 1 (by decide) (hpre ⟨1, .data⟩ (by simp) rfl))
     have v2 : vs 2 = .int .i64 ↑jj := (k2 _ _).1 (hMG 2 (by decide) (hpre ⟨2, .data⟩ (by simp) rfl))
     have hdp : ∀ e ∈ dep 3, l.getD e false = true := by rw [d3]; exact (dep_cons (hpre ⟨1, .data⟩ (by simp) rfl) (dep_cons (hpre ⟨2, .data⟩ (by simp) rfl) dep_nil))
     have e := k3
     clear k0 k1 k2 k3 k4 k5 k6 k7 k8 k9 k10 d0 d1 d2 d3 d4 d5 d6 d7 d8 d9 d10 d11 d12 hst st0 st1 st2 st3 st4 st5 st6 st7 st8 st9 st10 st11 st12
     rw [v1, v2]
     go_simp
     exact hK.out _ _ ⟨updV vs 3 (.pointer (some ⟨b, o + jj, none⟩)), (by simp [updV, v1, v2]), hM0.still HLD HST 3 (by decide) (by decide) hl _ hdp ((e _ _).2 rfl)⟩
    ·
     simp only [List.getElem?_toArray, List.getElem?_cons_zero, List.getElem?_cons_succ, Option.some.injEq] at ho
     subst ho
     have hMB := hM0.below HLD hi (by decide) hl
     have hMG := hM0.get HLD hi (by decide) hl
     have v3 : vs 3 = .pointer (some ⟨b, o + jj, none⟩) := (k3 _ _).1 (hMG 3 (by decide) (hpre ⟨3, .data⟩ (by simp) rfl))
     have hdp : ∀ e ∈ dep 4, l.getD e false = true := by rw [d4]; exact (dep_cons (hpre ⟨3, .data⟩ (by simp) rfl) dep_nil)
     have e := k4
     clear k0 k1 k2 k3 k4 k5 k6 k7 k8 k9 k10 d0 d1 d2 d3 d4 d5 d6 d7 d8 d9 d10 d11 d12 hst st0 st1 st2 st3 st4 st5 st6 st7 st8 st9 st10 st11 st12
     have x0 := keepW hMB q1
     rw [v3]
     go_simp
     exact hK.out _ _ ⟨updV vs 4 (.int .i64 x), (by simp [updV, v3]), hM0.still HLD HST 4 (by decide) (by decide) hl _ hdp ((e _ _).2 rfl)⟩
    ·
     simp only [List.getElem?_toArray, List.getElem?_cons_zero, List.getElem?_cons_succ, Option.some.injEq] at ho
     subst ho
     have hMB := hM0.below HLD hi (by decide) hl
     have hMG := hM0.get HLD hi (by decide) hl
     have hdp : ∀ e ∈ dep 5, l.getD e false = true := by rw [d5]; exact dep_nil
     have e := k5
     clear k0 k1 k2 k3 k4 k5 k6 k7 k8 k9 k10 d0 d1 d2 d3 d4 d5 d6 d7 d8 d9 d10 d11 d12 hst st0 st1 st2 st3 st4 st5 st6 st7 st8 st9 st10 st11 st12
     go_simp
     exact hK.out _ _ ⟨updV vs 5 (.slice (some ⟨b2, o2, none⟩) n c'), rfl, hM0.still HLD HST 5 (by decide) (by decide) hl _ hdp ((e _ _).2 rfl)⟩
    ·
     simp only [List.getElem?_toArray, List.getElem?_cons_zero, List.getElem?_cons_succ, Option.some.injEq] at ho
     subst ho
     have hMB := hM0.below HLD hi (by decide) hl
     have hMG := hM0.get HLD hi (by decide) hl
     have hdp : ∀ e ∈ dep 6, l.getD e false = true := by rw [d6]; exact dep_nil
     have e := k6
     clear k0 k1 k2 k3 k4 k5 k6 k7 k8 k9 k10 d0 d1 d2 d3 d4 d5 d6 d7 d8 d9 d10 d11 d12 hst st0 st1 st2 st3 st4 st5 st6 st7 st8 st9 st10 st11 st12
     go_simp
     exact hK.out _ _ ⟨updV vs 6 (.int .i64 ↑jj), rfl, hM0.still HLD HST 6 (by decide) (by decide) hl _ hdp ((e _ _).2 rfl)⟩
    ·
     simp only [List.getElem?_toArray, List.getElem?_cons_zero, List.getElem?_cons_succ, Option.some.injEq] at ho
     subst ho
     have hMB := hM0.below HLD hi (by decide) hl
     have hMG := hM0.get HLD hi (by decide) hl
     have v5 : vs 5 = .slice (some ⟨b2, o2, none⟩) n c' := (k5 _ _).1 (hMG 5 (by decide) (hpre ⟨5, .data⟩ (by simp) rfl))
     have v6 : vs 6 = .int .i64 ↑jj := (k6 _ _).1 (hMG 6 (by decide) (hpre ⟨6, .data⟩ (by simp) rfl))
     have hdp : ∀ e ∈ dep 7, l.getD e false = true := by rw [d7]; exact (dep_cons (hpre ⟨5, .data⟩ (by simp) rfl) (dep_cons (hpre ⟨6, .data⟩ (by simp) rfl) dep_nil))
     have e := k7
     clear k0 k1 k2 k3 k4 k5 k6 k7 k8 k9 k10 d0 d1 d2 d3 d4 d5 d6 d7 d8 d9 d10 d11 d12 hst st0 st1 st2 st3 st4 st5 st6 st7 st8 st9 st10 st11 st12
     rw [v5, v6]
     go_simp
     exact hK.out _ _ ⟨updV vs 7 (.pointer (some ⟨b2, o2 + jj, none⟩)), (by simp [updV, v5, v6]), hM0.still HLD HST 7 (by decide) (by decide) hl _ hdp ((e _ _).2 rfl)⟩
    ·
     simp only [List.getElem?_toArray, List.getElem?_cons_zero, List.getElem?_cons_succ, Option.some.injEq] at ho
     subst ho
     have hMB := hM0.below HLD hi (by decide) hl
     have hMG := hM0.get HLD hi (by decide) hl
     have v7 : vs 7 = .pointer (some ⟨b2, o2 + jj, none⟩) := (k7 _ _).1 (hMG 7 (by decide) (hpre ⟨7, .data⟩ (by simp) rfl))
     have hdp : ∀ e ∈ dep 8, l.getD e false = true := by rw [d8]; exact (dep_cons (hpre ⟨7, .data⟩ (by simp) rfl) dep_nil)
     have e := k8
     clear k0 k1 k2 k3 k4 k5 k6 k7 k8 k9 k10 d0 d1 d2 d3 d4 d5 d6 d7 d8 d9 d10 d11 d12 hst st0 st1 st2 st3 st4 st5 st6 st7 st8 st9 st10 st11 st12
     have x0 := keepW hMB q2
     rw [v7]
     go_simp
     exact hK.out _ _ ⟨updV vs 8 (.int .i64 y), (by simp [updV, v7]), hM0.still HLD HST 8 (by decide) (by decide) hl _ hdp ((e _ _).2 rfl)⟩
    ·
     simp only [List.getElem?_toArray, List.getElem?_cons_zero, List.getElem?_cons_succ, Option.some.injEq] at ho
     subst ho
     have hMB := hM0.below HLD hi (by decide) hl
     have hMG := hM0.get HLD hi (by decide) hl
     have v4 : vs 4 = .int .i64 x := (k4 _ _).1 (hMG 4 (by decide) (hpre ⟨4, .data⟩ (by simp) rfl))
     have v8 : vs 8 = .int .i64 y := (k8 _ _).1 (hMG 8 (by decide) (hpre ⟨8, .data⟩ (by simp) rfl))
     have hdp : ∀ e ∈ dep 9, l.getD e false = true := by rw [d9]; exact (dep_cons (hpre ⟨4, .data⟩ (by simp) rfl) (dep_cons (hpre ⟨8, .data⟩ (by simp) rfl) dep_nil))
     have e := k9
     clear k0 k1 k2 k3 k4 k5 k6 k7 k8 k9 k10 d0 d1 d2 d3 d4 d5 d6 d7 d8 d9 d10 d11 d12 hst st0 st1 st2 st3 st4 st5 st6 st7 st8 st9 st10 st11 st12
     rw [v4, v8]
     go_simp
     exact hK.out _ _ ⟨updV vs 9 (.int .i64 (x + y)), (by simp [updV, v4, v8]), hM0.still HLD HST 9 (by decide) (by decide) hl _ hdp ((e _ _).2 rfl)⟩
    ·
     simp only [List.getElem?_toArray, List.getElem?_cons_zero, List.getElem?_cons_succ, Option.some.injEq] at ho
     subst ho
     have hMB := hM0.below HLD hi (by decide) hl
     have hMG := hM0.get HLD hi (by decide) hl
     have v9 : vs 9 = .int .i64 (x + y) := (k9 _ _).1 (hMG 9 (by decide) (hpre ⟨9, .data⟩ (by simp) rfl))
     have hdp : ∀ e ∈ dep 10, l.getD e false = true := by rw [d10]; exact (dep_cons (hpre ⟨9, .data⟩ (by simp) rfl) dep_nil)
     have e := k10
     clear k0 k1 k2 k3 k4 k5 k6 k7 k8 k9 k10 d0 d1 d2 d3 d4 d5 d6 d7 d8 d9 d10 d11 d12 hst st0 st1 st2 st3 st4 st5 st6 st7 st8 st9 st10 st11 st12
     rw [v9]
     go_simp
     exact hK.out _ _ ⟨updV vs 10 (.slice (some ⟨W.heap.size, 0, none⟩) 1 1), (by simp [updV, v9]), hM0.next HLD HST 10 (by decide) (by decide) hl _ hdp (balloc (brefl _) _) ((e _ _).2 ⟨_, rfl, (cell_new _ _ _ _ 0 _ rfl)⟩)⟩
    ·
     simp only [List.getElem?_toArray, List.getElem?_cons_zero, List.getElem?_cons_succ, Option.some.injEq] at ho
     subst ho
     have hMB := hM0.below HLD hi (by decide) hl
     have hMG := hM0.get HLD hi (by decide) hl
     have v0 : vs 0 = u5 := (k0 _ _).1 (hMG 0 (by decide) (hpre ⟨0, .data⟩ (by simp) rfl))
     obtain ⟨B10, v10, q10⟩ := (k10 _ _).1 (hMG 10 (by decide) (hpre ⟨10, .data⟩ (by simp) rfl))
     have hdp : ∀ e ∈ dep 11, l.getD e false = true := by rw [d11]; exact (dep_cons (hpre ⟨0, .data⟩ (by simp) rfl) (dep_cons (hpre ⟨10, .data⟩ (by simp) rfl) dep_nil))
     have hno : ∀ j, 11 < j → l.getD j false = true → 11 ∈ dep j := by
      intro j hj hj2
      have hjn : j < 13 := by have := getD_over hj2; rw [hM0.size] at this; exact this
      obtain rfl : j = 12 := by omega
      ·
       rw [d12]; simp
     clear k0 k1 k2 k3 k4 k5 k6 k7 k8 k9 k10 d0 d1 d2 d3 d4 d5 d6 d7 d8 d9 d10 d11 d12 hst st0 st1 st2 st3 st4 st5 st6 st7 st8 st9 st10 st11 st12
     rw [v0, v10]
     rw [if_pos (by simp [Region.wanted])]
     refine wp_append_int (.tmp 14) (.tmp 24) rfl w.heap.size u5 (Z.take jj) (by simp [Act.eval, v0]) (HOW.out W hMB).1 ⟨B10, 0, none⟩ 1 (x + y) (by simp [Act.eval, v10]) q10 hzl (HOW.out W hMB).2 ?_
     intro v9 W9 h2 h3
     exact hK.out _ _ ⟨updV vs 11 v9, by simp [updV, Act.put, v0, v10], hM0.last HLD (by decide) hl hno _ hdp ⟨h2, h3⟩⟩
    ·
     simp only [List.getElem?_toArray, List.getElem?_cons_zero, List.getElem?_cons_succ, Option.some.injEq] at ho
     subst ho
     have hdp : ∀ e ∈ dep 12, l.getD e false = true := by rw [d12]; exact (dep_cons (hpre ⟨11, .data⟩ (by simp) rfl) dep_nil)
     clear k0 k1 k2 k3 k4 k5 k6 k7 k8 k9 k10 d0 d1 d2 d3 d4 d5 d6 d7 d8 d9 d10 d11 d12 hst st0 st1 st2 st3 st4 st5 st6 st7 st8 st9 st10 st11 st12
     go_simp
     exact hK.out _ _ ⟨updV vs 12 (vs 11), by simp [updV], hM0.post 12 (by decide) (by decide) (hpre ⟨11, .data⟩ (by simp) rfl) hdp⟩
   case fin =>
    rintro l a W5 hall ⟨vs5, rfl, hM0⟩
    obtain ⟨W51, hMB, hMG, hMR, hMA⟩ := hM0.fin (by decide) hall
    have HBW := hide hMB
    have hv12 := hMA 12 (by decide) (by decide)
    rw [hv12]
    rw [HSN.out] at hMR
    have HM5 := hide hMR.1
    have HB5 : Hid (Below w.heap.size w W5) := (step HBD.out HBW.out).trans (grown_below hMR.2 (Nat.le_trans HBD.out.size HBW.out.size) (fun b hb => ((HOD.out.below HBW.out).lt hb).1))
    generalize vs5 11 = v11 at HM5 ⊢
    clear k0 k1 k2 k3 k4 k5 k6 k7 k8 k9 k10 d0 d1 d2 d3 d4 d5 d6 d7 d8 d9 d10 d11 d12 hst st0 st1 st2 st3 st4 st5 st6 st7 st8 st9 st10 st11 st12 HLD HST hMG hMA hMR hv12 hMB hall hM0 st HOW
    go_wp2_with fail
    go_roundg (n - (jj + 1))
    case measure => omega
    case rel => exact ⟨jj + 1, by omega, by omega, by go_num, HM5.out, HB5.out⟩
  ·
   have hltz : ¬ (jj : Int) < (n : Int) := by omega
   have HT := hide (show Z.take jj = Z from List.take_of_length_le (by rw [HZL.out]; omega))
   go_wp2_with fail
   go_ret
   exact ⟨_, rfl, by have := HO.out; rw [HT.out] at this; exact this, HB.out⟩
end Go.Proofs.YtpfagdmmhgcmnaaGreatDoor
