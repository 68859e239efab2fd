import Derived.Test.YtpfagdmmhgcmnaaGreatDoorMixZR12R12aw
import Derived.Test.YtpfagdmmhgcmnaaGreatDoorMixZR12R12au
import Derived.Test.YtpfagdmmhgcmnaaGreatDoorMixZR12R12ah
import Derived.Test.YtpfagdmmhgcmnaaGreatDoorMixZR12R12av
import Derived.Test.YtpfagdmmhgcmnaaGreatDoorMixZR12R12ar
set_option linter.unusedVariables false
set_option linter.unusedSimpArgs false
namespace Go.Proofs.YtpfagdmmhgcmnaaGreatDoor
open Go.RowKit
/- How wide columns are, and the table: WidCols and WidTable on the program's side. -/
def widColsL (m : Nat) (t : Tbl) (width : Int) : List Int := if tblOk t = true ∧ 0 ≤ width ∧ width ≤ 300 then widths (kindT t) (numT t) width t.gap (leastL t (gridL m t).1 (gridL m t).2.toNat) (wishL t (gridL m t).1 (gridL m t).2.toNat) else []
theorem said_kind {t : Tbl} (h : tblOk t = true) (k : Nat) : kindT t k = 0 ∨ kindT t k = 1 ∨ kindT t k = 2 := by
  unfold kindT saidOf
  split
  · rename_i hi
    have hlt : (k : Int).toNat < t.cols.length := by omega
    rw [List.getD_eq_getElem?_getD, List.getElem?_eq_getElem hlt]
    have hc := (tblOk_parts h).2.2.2.2.2.1 _ (List.getElem_mem hlt)
    simp only [Option.getD_some]
    unfold colOk at hc
    split at hc
    · exact .inl ‹_›
    · split at hc
      · exact .inr (.inl ‹_›)
      · split at hc
        · exact .inr (.inr ‹_›)
        · cases hc
  · exact .inl rfl
/-- What the laws want to know of widths. -/
theorem widCols_ok {t : Tbl} (h : tblOk t = true) {k : Nat} (hy : GoodRows t k) {width : Int} (hw : 0 ≤ width ∧ width ≤ 300) : ∃ n : Nat, (gridL 400 t).2 = n ∧ (1 ≤ n ∧ n ≤ 90) ∧ (colLeastL 400 t).length = n ∧ (colWishL 400 t).length = n ∧
    widColsL 400 t width = widths (kindT t) (numT t) width t.gap (colLeastL 400 t) (colWishL 400 t) ∧ (widColsL 400 t width).length = n ∧ (∀ x ∈ widColsL 400 t width, 0 ≤ x ∧ x ≤ 300) ∧ ∀ x ∈ colLeastL 400 t, 0 ≤ x ∧ x ≤ 60 := by
  obtain ⟨n, hn, hn1, hcell, hcl⟩ := grid_need h hy 400 leastT_in
  obtain ⟨n', hn', _, hcell2, _⟩ := grid_need h hy 400 wishT_in
  have hnn : n = n' := by omega
  subst hnn
  have hg := (tblOk_parts h).2.2.1
  have e1 : colLeastL 400 t = leastL t (gridL 400 t).1 n := by unfold colLeastL; rw [if_pos h, hn]; rfl
  have e2 : colWishL 400 t = wishL t (gridL 400 t).1 n := by unfold colWishL; rw [if_pos h, hn]; rfl
  have e3 : widColsL 400 t width = widths (kindT t) (numT t) width t.gap (colLeastL 400 t) (colWishL 400 t) := by unfold widColsL; rw [if_pos ⟨h, hw⟩, e1, e2, hn]; rfl
  obtain ⟨l1, l2⟩ := leastL_in h hg.1 (fun x hx => (hcell x hx).1)
  obtain ⟨l3, _⟩ := wishL_in h hg.1 (fun x hx => (hcell x hx).1) (fun x hx => (hcell2 x hx).1)
  rw [← e1] at l1 l2
  rw [← e2] at l3
  obtain ⟨w1, w2, w3, w4, w5⟩ := widths_spec (kind := kindT t) (nn := numT t) (width := width) (gap := t.gap) (least := colLeastL 400 t) (wish := colWishL 400 t) (said_kind h)
  refine ⟨n, hn, hn1, l1, l3, e3, by rw [e3, w1, l1], ?_, l2⟩
  rw [e3]
  generalize widths (kindT t) (numT t) width t.gap (colLeastL 400 t) (colWishL 400 t) = Z at w1 w2 w3 w4 w5 ⊢
  have h0 : ∀ x ∈ Z, 0 ≤ x := by
    intro x hx
    obtain ⟨j, hj, rfl⟩ := List.getElem_of_mem hx
    have a1 := w2 j
    have a2 := int_at l2 j (by omega)
    have a3 : Z.getD j 0 = Z[j] := by rw [List.getD_eq_getElem?_getD, List.getElem?_eq_getElem hj]; rfl
    omega
  have hup : Z = colLeastL 400 t ∨ sumI Z ≤ 300 := by
    by_cases hle : width - wideL (colLeastL 400 t) t.gap ≤ 0
    · exact .inl (w4 hle)
    · obtain ⟨b1, b2⟩ := w5 (by omega)
      by_cases ha : ∀ j, j < (colLeastL 400 t).length → kindT t j = 1
      · exact .inl (b1 ha)
      · refine .inr ?_
        have : ∃ j, j < (colLeastL 400 t).length ∧ kindT t j ≠ 1 := Classical.byContradiction fun hno => ha fun j hj => Classical.byContradiction fun hq => hno ⟨j, hj, hq⟩
        have := b2 this
        have hm := Int.mul_nonneg hg.1 (show 0 ≤ max (((colLeastL 400 t).length : Int) - 1) 0 by omega)
        omega
  intro x hx
  refine ⟨h0 x hx, ?_⟩
  rcases hup with rfl | hs
  · have := l2 x hx; omega
  · have := sumI_ge h0 x hx; omega
theorem widCols_two {t : Tbl} {k : Nat} (hy : GoodRows t k) (width : Int) : widColsL 90 t width = widColsL 400 t width := by
  unfold widColsL
  split
  · rename_i h
    rw [grid_one h.1 hy]
  · rfl
set_option maxHeartbeats 1000000 in
theorem impl_widthOk (t : Tbl) (A : Option Addr) (c : Nat) (A' : Option Addr) (c' : Nat) (width : Int) (w : World) (hw : Base w) (hc : Rd colR w A t.cols) (hr : Rd rowR w A' t.rows) :
    Calls Tryz.prog 92 #[.agg #[.slice A t.cols.length c, .int .i64 t.head, .int .i64 t.foot, .slice A' t.rows.length c', .int .i64 t.gap], .int .i64 width] w fun e w' => e = .returned (.bool (tblOk t && inB width 0 300)) ∧ Below w.heap.size w w' := by
  have hT := fun (W : World) (h : Below w.heap.size w W) => impl_TblOk t A c A' c' W (hw.below h) (hc.below h) (hr.below h)
  clear hw hc hr
  cases hok : tblOk t with
  | false =>
    rw [hok] at hT
    go_enter Tryz.func92, Tryz.ntmps92
    go_wp2_with fail
    refine (hT _ (balloc (brefl _) _)).mono ?_
    rintro e w1 ⟨rfl, hb⟩
    go_wp2_with fail
    go_ret
    exact ⟨rfl, step (balloc (brefl _) _) hb⟩
  | true =>
    rw [hok] at hT
    obtain ⟨b, hb0⟩ : ∃ b, inB width 0 300 = b := ⟨_, rfl⟩
    have hI := fun (W : World) => impl_in width 0 300 W
    rw [hb0] at hI ⊢
    clear hb0
    go_enter Tryz.func92, Tryz.ntmps92
    go_wp2_with fail
    refine (hT _ (balloc (brefl _) _)).mono ?_
    rintro e w1 ⟨rfl, hb⟩
    go_wp2_with (go_at_call 76; refine (hI _).mono ?_; rintro e w' ⟨rfl, rfl⟩)
    go_ret
    exact ⟨by simp, step (balloc (brefl _) _) hb⟩
set_option maxRecDepth 100000 in
set_option maxHeartbeats 8000000 in
theorem impl_WidCols (t : Tbl) (A : Option Addr) (c : Nat) (A' : Option Addr) (c' : Nat) (width : Int) (w : World) (hw : Base w) (hc : Rd colR w A t.cols) (hr : Rd rowR w A' t.rows) {k : Nat} (hy : GoodRows t k) :
    Calls Tryz.prog 41 #[.agg #[.slice A t.cols.length c, .int .i64 t.head, .int .i64 t.foot, .slice A' t.rows.length c', .int .i64 t.gap], .int .i64 width] w fun e w' => ∃ v, e = .returned v ∧ IOwn w' w.heap.size v (widColsL 400 t width) ∧ Below w.heap.size w w' := by
  have hT := fun (W : World) (h : Below w.heap.size w W) => impl_widthOk t A c A' c' width W (hw.below h) (hc.below h) (hr.below h)
  by_cases hq : tblOk t = true ∧ 0 ≤ width ∧ width ≤ 300
  · have hb1 : (tblOk t && inB width 0 300) = true := by rw [hq.1]; simp [inB]; omega
    rw [hb1] at hT
    obtain ⟨hok, hwd⟩ := hq
    have hG := fun (W : World) (h : Below w.heap.size w W) => impl_GrdOf t A c A' c' W (hw.below h) (hc.below h) (hr.below h)
    have hgr : gridOf 400 t = ⟨t.rows.length, (gridL 400 t).2, (gridL 400 t).1⟩ := by unfold gridOf; rw [if_pos hok]
    rw [hgr] at hG
    obtain ⟨n, hn, hn1, hcell, hcl⟩ := grid_need hok hy 400 leastT_in
    obtain ⟨n', hn', _, hcell2, _⟩ := grid_need hok hy 400 wishT_in
    have hnn : n = n' := by omega
    subst hnn
    have hle := grid_cols_le 400 t
    have hsm : Hid (∀ x ∈ (gridL 400 t).1, GSm x) := (GIn.rows (m := 400) hok).sm (by omega)
    have hres : Hid (widColsL 400 t width = widths (kindT t) (numT t) width t.gap (leastL t (gridL 400 t).1 n) (wishL t (gridL 400 t).1 n)) := by show widColsL 400 t width = _; unfold widColsL; rw [if_pos ⟨hok, hwd⟩, hn]; rfl
    rw [hres.out]
    rw [hn] at hG hle
    have hL := fun (W : World) (h : Below w.heap.size w W) GA gc hg => impl_cols t A c A' c' t.rows.length n (gridL 400 t).1 GA gc width W hok (hw.below h) (hc.below h) (hr.below h) hg hn1 hcell hcell2 (by omega) (by omega) hwd
    clear hgr hok hc hr hw hres hy hn hcell hcell2 hcl hn' hle hb1
    generalize gridL 400 t = GG at hG hL hsm ⊢
    obtain ⟨GL, GN⟩ := GG
    dsimp only at hG hL hsm ⊢
    generalize widths (kindT t) (numT t) width t.gap (leastL t GL n) (wishL t GL n) = ZZ at hL ⊢
    go_enter Tryz.func41, Tryz.ntmps41
    go_wp2_with fail
    refine (hT _ (balloc (brefl _) _)).mono ?_
    rintro e w1 ⟨rfl, hb⟩
    obtain ⟨c0, f0, s0⟩ := seenBk w.heap.size (by first | (simp; omega) | simp [*]) hb
    have HB := hide (step (balloc (brefl w) _) hb)
    clear hT
    go_upto_region 3 with fail
    go_region_with (first
      | (go_at_call 21; refine (hG _ ?_).mono ?_; (first | exact HB.out | exact bdrew HB.out | exact bdrew (bdrew HB.out)); rintro e w2 ⟨GA, gc, rfl, hown, hb2⟩; obtain ⟨c2, f2, s2⟩ := seenBk w.heap.size (by first | (simp; omega) | simp [*]) hb2; have hrd := grd_rd hown hsm.out)
      | (go_at_call 93; refine (hL _ ?_ GA gc ?_).mono ?_; (first | exact step HB.out hb2 | exact step (bdrew HB.out) hb2 | exact bdrew (step HB.out hb2) | exact bdrew (step (bdrew HB.out) hb2)); (first | exact hrd | exact hrd.below (bdrew (brefl _))); rintro e w3 ⟨v, rfl, hI, hb3⟩))
    all_goals
      have hsz : w.heap.size ≤ w2.heap.size := Nat.le_trans HB.out.size hb2.size
      go_wp2_with fail
      go_ret
      refine ⟨_, rfl, ?_, ?_⟩
      · first
          | exact hI.base hsz
          | exact (hI.base hsz).below (bdrew (brefl _))
      · (repeat' (with_reducible first | exact HB.out | refine bdrew ?_ | refine step ?_ (by with_reducible assumption)))
  · have hb1 : (tblOk t && inB width 0 300) = false := by
      rw [Bool.eq_false_iff]
      intro h9
      rw [Bool.and_eq_true] at h9
      have h8 := h9.2
      simp [inB] at h8
      exact hq ⟨h9.1, by omega, by omega⟩
    rw [hb1] at hT
    have hres : widColsL 400 t width = [] := by unfold widColsL; rw [if_neg hq]
    rw [hres]
    clear hres hc hr hw hy hb1 hq
    go_enter Tryz.func41, Tryz.ntmps41
    go_wp2_with fail
    refine (hT _ (balloc (brefl _) _)).mono ?_
    rintro e w1 ⟨rfl, hb⟩
    go_wp2_with fail
    go_ret
    exact ⟨_, rfl, IOwn.nil _ _, step (balloc (brefl _) _) hb⟩
theorem wideG_nil (gap : Int) : wideG gap [] = 0 := by
  unfold wideG
  have h0 : max (((([] : List Int).length : Nat) : Int) - 1) 0 = 0 := by decide
  rw [h0, sumI_nil, Int.mul_zero]; rfl
set_option maxHeartbeats 1000000 in
/-- Of no columns, whatever stands between. -/
theorem impl_wide0 (A : Option Addr) (c : Nat) (gap : Int) (w : World) (hr : Rd intR w A []) :
    Calls Tryz.prog 65 #[.slice A 0 c, .int .i64 gap] w fun e w' => e = .returned (.int .i64 0) ∧ Below w.heap.size w w' := by
  have hS := impl_sumOf A c [] w hr (fun x hx => by cases hx) (by simp)
  have hmax := max_int
  rw [sumI_nil] at hS
  have h0 : max (-1 : Int) 0 = 0 := by omega
  have t0 : gap * 0 = 0 := Int.mul_zero gap
  clear hr
  go_enter Tryz.func65, Tryz.ntmps65
  go_wp2_with (go_at_call 112; refine hS.mono ?_; rintro e w9 ⟨rfl, hw9⟩; obtain rfl := hw9.symm)
  go_ret
  exact ⟨by first | rfl | simp, by first | exact brefl _ | exact balloc (brefl _) _ | exact bdrew (brefl _)⟩
set_option maxRecDepth 100000 in
set_option maxHeartbeats 4000000 in
theorem impl_WidTable (t : Tbl) (A : Option Addr) (c : Nat) (A' : Option Addr) (c' : Nat) (width : Int) (w : World) (hw : Base w) (hc : Rd colR w A t.cols) (hr : Rd rowR w A' t.rows) {k : Nat} (hy : GoodRows t k) :
    Calls Tryz.prog 40 #[.agg #[.slice A t.cols.length c, .int .i64 t.head, .int .i64 t.foot, .slice A' t.rows.length c', .int .i64 t.gap], .int .i64 width] w fun e w' => e = .returned (.int .i64 (wideG t.gap (widColsL 400 t width))) ∧ Below w.heap.size w w' := by
  have hL := fun (W : World) (h : Below w.heap.size w W) => impl_WidCols t A c A' c' width W (hw.below h) (hc.below h) (hr.below h) hy
  have hWD : ∀ (W : World) (A2 : Option Addr) (d2 : Nat), Rd intR W A2 (widColsL 400 t width) → Calls Tryz.prog 65 #[.slice A2 (widColsL 400 t width).length d2, .int .i64 t.gap] W fun e w' => e = .returned (.int .i64 (wideG t.gap (widColsL 400 t width))) ∧ Below W.heap.size W w' := by
    intro W A2 d2 h9
    by_cases hq : tblOk t = true ∧ 0 ≤ width ∧ width ≤ 300
    · obtain ⟨n, _, h2, _, _, _, h3, h4, _⟩ := widCols_ok hq.1 hy hq.2
      exact impl_wide A2 d2 _ t.gap W h9 (fun x hx => by have := h4 x hx; omega) (by omega) (tblOk_parts hq.1).2.2.1
    · have e0 : widColsL 400 t width = [] := by unfold widColsL; rw [if_neg hq]
      rw [e0] at h9 ⊢
      rw [wideG_nil]
      exact impl_wide0 A2 d2 t.gap W h9
  generalize widColsL 400 t width = X at hL hWD ⊢
  generalize wideG t.gap X = wd at hWD ⊢
  clear hw hc hr hy
  go_enter Tryz.func40, Tryz.ntmps40
  have HB := hide (balloc (brefl w) (.cells #[.slice A t.cols.length c, .int .i64 t.head, .int .i64 t.foot, .slice A' t.rows.length c', .int .i64 t.gap] 26))
  go_upto_region 1 with fail
  go_region_with (first
    | (go_at_call 41; refine (hL _ ?_).mono ?_; (first | exact HB.out | exact bdrew HB.out); rintro e w2 ⟨v, rfl, hI, hb2⟩; obtain ⟨c2, f2, s2⟩ := seenBk w.heap.size (by first | (simp; omega) | simp [*]) hb2; obtain ⟨A2, d2, rfl⟩ := hI.form; have hrd := irow_rd hI)
    | (go_at_call 65; refine (hWD _ A2 d2 ?_).mono ?_; (first | exact hrd | exact hrd.below (bdrew (brefl _))); rintro e w3 ⟨rfl, hb3⟩))
  all_goals
    go_wp2_with fail
    go_ret
    refine ⟨rfl, ?_⟩
    (repeat' (with_reducible first | exact HB.out | refine bdrew ?_ | refine step ?_ (by with_reducible assumption)))
end Go.Proofs.YtpfagdmmhgcmnaaGreatDoor

namespace Go.Proofs.YtpfagdmmhgcmnaaGreatDoor
open Go.RowKit
/- A region that draws its order, of operations that read, of calls and operations that make memory, and of one that does more, the last of all (number m; none: m = n): of what each operation's slot holds a fact is told that outlives new memory. -/
structure PMid (K : Nat → Value → World → Prop) (n m : Nat) (dep : Nat → List Nat) (V : World) (R : World → Value → World → Prop) (st : Nat → Value) (l : Array Bool) (vs : Nat → Value) (W : World) : Prop where
  size : l.size = n
  closed : ∀ j, l.getD j false = true → ∀ e ∈ dep j, l.getD e false = true
  opened : l.getD m false = false → Below V.heap.size V W ∧ ∀ j, j < m → l.getD j false = true → K j (vs j) W
  done : l.getD m false = true → ∃ W1, Below V.heap.size V W1 ∧ (∀ j, j < m → l.getD j false = true → K j (vs j) W1) ∧ R W1 (vs m) W
  after : ∀ j, m < j → l.getD j false = true → vs j = vs m
  stale : l.getD m false = false → ∀ j, m < j → vs j = st j
/-- The last operation, if there is one, wants all ahead of it; behind it stand only such as hand its value on. -/
def LastP (n m : Nat) (dep : Nat → List Nat) : Prop := ∀ L : Nat → Prop, (∀ j, L j → ∀ e ∈ dep j, L e) → m < n → L m → ∀ j, j < m → L j
/-- What is told outlives new memory. -/
def StableP (K : Nat → Value → World → Prop) : Prop := ∀ j v W W', K j v W → Below W.heap.size W W' → K j v W'
section
variable {K : Nat → Value → World → Prop} {n m : Nat} {dep : Nat → List Nat} {V : World} {R : World → Value → World → Prop} {st : Nat → Value} {l : Array Bool} {vs : Nat → Value} {W W' : World}
theorem getD_over {l : Array Bool} {j : Nat} (h : l.getD j false = true) : j < l.size := by
  refine Nat.lt_of_not_le fun h9 => ?_
  simp [Array.getD, Nat.not_lt.2 h9] at h
theorem PMid.start : PMid K n m dep V R st (Array.replicate n false) st V :=
  ⟨by simp, fun j hj => by simp [Array.getD] at hj, fun _ => ⟨brefl V, fun j _ hj => by simp [Array.getD] at hj⟩, fun h => by simp [Array.getD] at h, fun j _ hj => by simp [Array.getD] at hj, fun _ _ _ => rfl⟩
theorem PMid.isopen (h : PMid K n m dep V R st l vs W) (hL : LastP n m dep) {i : Nat} (hi : i < n) (him : i ≤ m) (hl : l.getD i true = false) : l.getD m false = false := by
  cases h9 : l.getD m false with
  | false => rfl
  | true =>
    have hm : m < n := by have := getD_over h9; rw [h.size] at this; exact this
    rcases Nat.lt_or_eq_of_le him with hlt | rfl
    · have := hL (fun j => l.getD j false = true) h.closed hm h9 i hlt
      rw [getD_any (by rw [h.size]; exact hi) false true, hl] at this
      cases this
    · rw [getD_any (by rw [h.size]; exact hi) false true, hl] at h9; cases h9
theorem PMid.get (h : PMid K n m dep V R st l vs W) (hL : LastP n m dep) {i : Nat} (hi : i < n) (him : i ≤ m) (hl : l.getD i true = false) (j : Nat) (hjm : j < m) (hj : l.getD j false = true) : K j (vs j) W := (h.opened (h.isopen hL hi him hl)).2 j hjm hj
theorem PMid.below (h : PMid K n m dep V R st l vs W) (hL : LastP n m dep) {i : Nat} (hi : i < n) (him : i ≤ m) (hl : l.getD i true = false) : Below V.heap.size V W := (h.opened (h.isopen hL hi him hl)).1
theorem PMid.closed_set (h : PMid K n m dep V R st l vs W) (i : Nat) (hd : ∀ e ∈ dep i, l.getD e false = true) (hi : i < n) :
    ∀ j, (l.setIfInBounds i true).getD j false = true → ∀ e ∈ dep j, (l.setIfInBounds i true).getD e false = true := by
  intro j hj e he
  have hup : l.getD e false = true → (l.setIfInBounds i true).getD e false = true := fun h0 => by
    by_cases e1 : e = i
    · subst e1; simp [Array.getD, h.size, hi]
    · rw [getD_set_ne false (Ne.symm e1)]; exact h0
  by_cases e2 : j = i
  · subst e2; exact hup (hd e he)
  · rw [getD_set_ne false (Ne.symm e2)] at hj
    exact hup (h.closed j hj e he)
theorem PMid.next (h : PMid K n m dep V R st l vs W) (hL : LastP n m dep) (hS : StableP K) (i : Nat) (hi : i < n) (him : i < m) (hl : l.getD i true = false) (v : Value) (hd : ∀ e ∈ dep i, l.getD e false = true) (hb : Below W.heap.size W W') (hk : K i v W') :
    PMid K n m dep V R st (l.setIfInBounds i true) (updV vs i v) W' := by
  have ho := h.isopen hL hi (Nat.le_of_lt him) hl
  obtain ⟨hB, hK⟩ := h.opened ho
  refine ⟨by simpa using h.size, h.closed_set i hd hi, fun _ => ⟨step hB hb, fun j hjm hj => ?_⟩, fun h9 => ?_, fun j hjm hj => ?_, fun h9 j hjm => ?_⟩
  · unfold updV
    by_cases e : j = i
    · subst e; rw [if_pos rfl]; exact hk
    · rw [if_neg e]
      rw [getD_set_ne false (Ne.symm e)] at hj
      exact hS j _ _ _ (hK j hjm hj) hb
  · rw [getD_set_ne false (by omega), ho] at h9; cases h9
  · unfold updV
    rw [if_neg (by omega), if_neg (by omega)]
    rw [getD_set_ne false (by omega)] at hj
    exact h.after j hjm hj
  · unfold updV
    rw [if_neg (by omega)]
    exact h.stale ho j hjm
theorem PMid.getStale (h : PMid K n m dep V R st l vs W) (hL : LastP n m dep) {i : Nat} (hi : i < n) (him : i ≤ m) (hl : l.getD i true = false) (j : Nat) (hj : m < j) : vs j = st j := h.stale (h.isopen hL hi him hl) j hj
theorem PMid.still (h : PMid K n m dep V R st l vs W) (hL : LastP n m dep) (hS : StableP K) (i : Nat) (hi : i < n) (him : i < m) (hl : l.getD i true = false) (v : Value) (hd : ∀ e ∈ dep i, l.getD e false = true) (hk : K i v W) :
    PMid K n m dep V R st (l.setIfInBounds i true) (updV vs i v) W := h.next hL hS i hi him hl v hd (brefl W) hk
theorem PMid.last (h : PMid K n m dep V R st l vs W) (hL : LastP n m dep) (hm : m < n) (hl : l.getD m true = false) (hno : ∀ j, m < j → l.getD j false = true → m ∈ dep j) (v : Value) (hd : ∀ e ∈ dep m, l.getD e false = true) (hR : R W v W') :
    PMid K n m dep V R st (l.setIfInBounds m true) (updV vs m v) W' := by
  have ho := h.isopen hL hm (Nat.le_refl m) hl
  obtain ⟨hB, hK⟩ := h.opened ho
  have hin : (l.setIfInBounds m true).getD m false = true := by simp [Array.getD, h.size, hm]
  refine ⟨by simpa using h.size, h.closed_set m hd hm, fun h9 => (by rw [hin] at h9; cases h9), fun _ => ⟨W, hB, fun j hj hj2 => ?_, ?_⟩, fun j hjm hj => ?_, fun h9 => (by rw [hin] at h9; cases h9)⟩
  · unfold updV
    rw [if_neg (by omega)]
    rw [getD_set_ne false (by omega)] at hj2
    exact hK j hj hj2
  · unfold updV
    rw [if_pos rfl]; exact hR
  · rw [getD_set_ne false (by omega)] at hj
    have := h.closed j hj m (hno j hjm hj)
    rw [ho] at this; cases this
theorem PMid.post (h : PMid K n m dep V R st l vs W) (i : Nat) (hi : i < n) (him : m < i) (hlm : l.getD m false = true) (hd : ∀ e ∈ dep i, l.getD e false = true) :
    PMid K n m dep V R st (l.setIfInBounds i true) (updV vs i (vs m)) W := by
  refine ⟨by simpa using h.size, h.closed_set i hd hi, fun h9 => ?_, fun _ => ?_, fun j hjm hj => ?_, fun h9 => (by rw [getD_set_ne false (by omega), hlm] at h9; cases h9)⟩
  · rw [getD_set_ne false (by omega), hlm] at h9; cases h9
  · obtain ⟨W1, h1, h2, h3⟩ := h.done hlm
    refine ⟨W1, h1, fun j hj hj2 => ?_, ?_⟩
    · unfold updV
      rw [if_neg (by omega)]
      rw [getD_set_ne false (by omega)] at hj2
      exact h2 j hj hj2
    · unfold updV
      rw [if_neg (by omega)]; exact h3
  · unfold updV
    rw [if_neg (show m ≠ i by omega)]
    by_cases e : j = i
    · rw [if_pos e]
    · rw [if_neg e]
      rw [getD_set_ne false (Ne.symm e)] at hj
      exact h.after j hjm hj
theorem PMid.fin0 (h : PMid K n m dep V R st l vs W) (hm : n ≤ m) (hall : ∀ j, j < n → l.getD j true = true) : Below V.heap.size V W ∧ ∀ j, j < n → K j (vs j) W := by
  have ho : l.getD m false = false := by
    cases h9 : l.getD m false with
    | false => rfl
    | true => have := getD_over h9; rw [h.size] at this; omega
  obtain ⟨hB, hK⟩ := h.opened ho
  exact ⟨hB, fun j hj => hK j (by omega) (by rw [getD_any (by rw [h.size]; exact hj) false true]; exact hall j hj)⟩
theorem PMid.fin (h : PMid K n m dep V R st l vs W) (hm : m < n) (hall : ∀ j, j < n → l.getD j true = true) : ∃ W1, Below V.heap.size V W1 ∧ (∀ j, j < m → K j (vs j) W1) ∧ R W1 (vs m) W ∧ ∀ j, m < j → j < n → vs j = vs m := by
  have h9 := hall m hm
  rw [getD_any (by rw [h.size]; exact hm) true false] at h9
  obtain ⟨W1, h1, h2, h3⟩ := h.done h9
  have hall2 : ∀ j, j < n → l.getD j false = true := fun j hj => by rw [getD_any (by rw [h.size]; exact hj) false true]; exact hall j hj
  exact ⟨W1, h1, fun j hj => h2 j hj (hall2 j (by omega)), h3, fun j hj hjn => h.after j hj (hall2 j hjn)⟩
theorem lastP_none (h : n ≤ m) : LastP n m dep := fun _ _ h1 => by omega
end
/-- One number is appended to a row of one's own, within a region that draws its order. -/
theorem wp_append_int {w : World} {o : Oper} {a : Act} {K : Act → World → Prop} {Q : Exit → Act → World → Prop} (s x : Operand)
    (ho : o.op = .call { callee := .builtin .append, args := #[s, x], argTypes := #[28, 28] }) (base : Nat) (v : Value) (xs : List Int) (hs : a.eval s = v) (hown : IOwn w base v xs)
    (ad : Addr) (c : Nat) (y : Int) (hx : a.eval x = .slice (some ad) 1 c) (hc : w.cell? ad = some (.int .i64 y)) (hn : xs.length ≤ 1000000) (hbase : base ≤ w.heap.size)
    (h : ∀ v' w', IOwn w' base v' (xs ++ [y]) → w.grownBy w' v.ownBlock → K (a.put o.dst v') w') : o.wp Tryz.prog a w K Q := by
  obtain ⟨i0, hi, hz0, hz1, hz2⟩ := info_parts info_ints
  refine wp_append_own w s x 28 ho base 3 i0 _ 1 8 und_ints hi hz0 hz1 hz2 rfl (by decide) v xs.length (xs.flatMap intE) hs hown ad 1 c [.int .i64 y] hx rfl (fun j u hj => ?_) (fun u hu => by rw [List.mem_singleton.1 hu]; rfl) (by unfold maxLen; omega) (by omega) hbase fun v' w' h1 h2 _ => h v' w' (show IOwn _ _ _ _ from ?_) h2
  · have : j = 0 := by have := (List.getElem?_eq_some_iff.1 hj).1; simp at this; omega
    subst this; simp at hj; subst hj
    obtain ⟨b, o, sp⟩ := ad
    simpa [Addr.add] using hc
  · unfold IOwn
    rw [List.length_append, List.flatMap_append]
    exact h1
end Go.Proofs.YtpfagdmmhgcmnaaGreatDoor

namespace Go.Proofs.YtpfagdmmhgcmnaaGreatDoor
open Go.RowKit
/- ColLeast and ColWish on the reference's side. -/
end Go.Proofs.YtpfagdmmhgcmnaaGreatDoor

namespace Go.Proofs.YtpfagdmmhgcmnaaGreatDoor
open Go.RowKit
/- How wide a table is at least: ColFloor on the reference's side. -/
end Go.Proofs.YtpfagdmmhgcmnaaGreatDoor

namespace Go.Proofs.YtpfagdmmhgcmnaaGreatDoor
open Go.RowKit
/- Two rows of numbers compared, a row's sum: the laws' own. -/
end Go.Proofs.YtpfagdmmhgcmnaaGreatDoor

namespace Go.Proofs.YtpfagdmmhgcmnaaGreatDoor
open Go.RowKit
/- The draws of the laws over bytes: a table by itself. -/
theorem laws_pwOk (w : World) (hw : Base w) : Calls Tryz.prog 20 #[] w fun e w' => e = .returned (.bool true) ∧ Below w.heap.size w w' := by
  have hT := impl_TxtOk ⟨#[97, 98, 32, 99]⟩ w (by decide) hw
  have ht : txOk ⟨#[97, 98, 32, 99]⟩ = true := by decide
  rw [ht] at hT
  go_enter Tryz.func20, Tryz.ntmps20
  go_wp2_with fail
  refine hT.mono ?_
  rintro e w' ⟨rfl, hb⟩
  go_wp2_with fail
  go_ret
  exact ⟨rfl, hb⟩
theorem BlockAt.below {W W' : World} {C : Nat} {cs : List Value} (h : BlockAt W C cs) (hC : C < W.heap.size) (hb : Below W.heap.size W W') : BlockAt W' C cs := h.keep (hb.block C hC)
end Go.Proofs.YtpfagdmmhgcmnaaGreatDoor

namespace Go.Proofs.YtpfagdmmhgcmnaaGreatDoor
open Go.RowKit
/- How wide a drawn table is at least: the statement's own walk. -/
set_option maxRecDepth 100000 in
set_option maxHeartbeats 4000000 in
theorem impl_ColFloor2 (t : Tbl) (A : Option Addr) (c : Nat) (A' : Option Addr) (c' : Nat) (w : World) (hw : Base w) (hc : Rd colR w A t.cols) (hr : Rd rowR w A' t.rows) {k : Nat} (hy : GoodRows t k) :
    Calls Tryz.prog 37 #[.agg #[.slice A t.cols.length c, .int .i64 t.head, .int .i64 t.foot, .slice A' t.rows.length c', .int .i64 t.gap]] w fun e w' => e = .returned (.int .i64 (wideG t.gap (colLeastL 400 t))) ∧ Below w.heap.size w w' := by
  have hL := fun (W : World) (h : Below w.heap.size w W) => impl_ColLeast t A c A' c' W (hw.below h) (hc.below h) (hr.below h) hy
  have hWD : ∀ (W : World) (A2 : Option Addr) (d2 : Nat), Rd intR W A2 (colLeastL 400 t) → Calls Tryz.prog 65 #[.slice A2 (colLeastL 400 t).length d2, .int .i64 t.gap] W fun e w' => e = .returned (.int .i64 (wideG t.gap (colLeastL 400 t))) ∧ Below W.heap.size W w' := by
    intro W A2 d2 h9
    by_cases hq : tblOk t = true
    · obtain ⟨n, _, h2, h3, h4, _⟩ := colLeast_ok hq hy
      exact impl_wide A2 d2 _ t.gap W h9 (fun x hx => by have := h4 x hx; omega) (by omega) (tblOk_parts hq).2.2.1
    · have e0 : colLeastL 400 t = [] := by unfold colLeastL; rw [if_neg hq]
      rw [e0] at h9 ⊢
      rw [wideG_nil]
      exact impl_wide0 A2 d2 t.gap W h9
  generalize colLeastL 400 t = X at hL hWD ⊢
  generalize wideG t.gap X = wd at hWD ⊢
  clear hw hc hr hy
  go_enter Tryz.func37, Tryz.ntmps37
  have HB := hide (balloc (brefl w) (.cells #[.slice A t.cols.length c, .int .i64 t.head, .int .i64 t.foot, .slice A' t.rows.length c', .int .i64 t.gap] 26))
  go_upto_region 1 with fail
  go_region_with (first
    | (go_at_call 16; refine (hL _ ?_).mono ?_; (first | exact HB.out | exact bdrew HB.out); rintro e w2 ⟨v, rfl, hI, hb2⟩; obtain ⟨c2, f2, s2⟩ := seenBk w.heap.size (by first | (simp; omega) | simp [*]) hb2; obtain ⟨A2, d2, rfl⟩ := hI.form; have hrd := irow_rd hI)
    | (go_at_call 65; refine (hWD _ A2 d2 ?_).mono ?_; (first | exact hrd | exact hrd.below (bdrew (brefl _))); rintro e w3 ⟨rfl, hb3⟩))
  all_goals
    go_wp2_with fail
    go_ret
    refine ⟨rfl, ?_⟩
    (repeat' (with_reducible first | exact HB.out | refine bdrew ?_ | refine step ?_ (by with_reducible assumption)))
end Go.Proofs.YtpfagdmmhgcmnaaGreatDoor
