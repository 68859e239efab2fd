import Derived.Test.YtpfagdmmhgcmnaaGreatDoorMixZR9ar
import Derived.Test.YtpfagdmmhgcmnaaGreatDoorMixZR9au
set_option linter.unusedVariables false
set_option linter.unusedSimpArgs false
namespace Go.Proofs.YtpfagdmmhgcmnaaGreatDoor
/- How wide columns are, if a table may be so wide: plain. -/
/-- What each gets up to what it wants, and what is left. -/
def upToL (total : Int) (wants : List Int) : List Int × Int := if sumI wants ≤ total then (wants, total - sumI wants) else (share total wants, 0)
def wantsP (kind nn : Nat → Int) (width : Int) (cols : List Int) : List Int := cols.mapIdx fun k has => if kind k = 2 then max (width * nn k / 100 - has) 0 else 0
def wantsA (kind : Nat → Int) (wish cols : List Int) : List Int := cols.mapIdx fun k has => if kind k = 0 then max (wish.getD k 0 - has) 0 else 0
def ofKind (kind : Nat → Int) (q : Int) (n : Nat) : List Int := (List.range n).map fun k => if kind k = q then 1 else 0
def wideL (cols : List Int) (gap : Int) : Int := sumI cols + gap * max ((cols.length : Int) - 1) 0
def partW (kind nn : Nat → Int) (width gap : Int) (least : List Int) : List Int × Int :=
  ((addAt least 0 (upToL (width - wideL least gap) (wantsP kind nn width least)).1), (upToL (width - wideL least gap) (wantsP kind nn width least)).2)
def autoW (kind : Nat → Int) (wish : List Int) (x : List Int × Int) : List Int × Int :=
  ((addAt x.1 0 (upToL x.2 (wantsA kind wish x.1)).1), (upToL x.2 (wantsA kind wish x.1)).2)
def restW (kind : Nat → Int) (x : List Int × Int) : List Int :=
  if 0 < sumI (ofKind kind 0 x.1.length) then addAt x.1 0 (share x.2 (ofKind kind 0 x.1.length))
  else if 0 < sumI (ofKind kind 2 x.1.length) then addAt x.1 0 (share x.2 (ofKind kind 2 x.1.length)) else x.1
/-- How wide columns are. -/
def widths (kind nn : Nat → Int) (width gap : Int) (least wish : List Int) : List Int :=
  if width - wideL least gap ≤ 0 then least else restW kind (autoW kind wish (partW kind nn width gap least))
theorem sumI_addAt {xs cols : List Int} (h : xs.length = cols.length) : sumI (addAt cols 0 xs) = sumI cols + sumI xs := by
  have h1 := winS_add (cols := cols) (xs := xs) (a := 0) (by omega)
  have h2 : ∀ l : List Int, l.length = xs.length → winS l 0 xs.length = sumI l := by
    intro l hl
    unfold winS
    rw [List.drop_zero, ← hl, List.take_length]
  rw [h2 _ (by rw [addAt_length]; omega), h2 _ h.symm] at h1
  exact h1
theorem addAt_get0 {xs cols : List Int} (h : xs.length = cols.length) (j : Nat) : (addAt cols 0 xs).getD j 0 = cols.getD j 0 + xs.getD j 0 := by
  rw [addAt_get xs cols 0 j (by omega), Nat.sub_zero, Nat.zero_add]
  by_cases hj : j < xs.length
  · rw [if_pos ⟨Nat.zero_le _, hj⟩]
  · rw [if_neg (by omega)]
    have : xs.getD j 0 = 0 := by rw [List.getD_eq_getElem?_getD, List.getElem?_eq_none (by omega)]; rfl
    omega
/-- What upTo gives. -/
theorem upTo_spec {total : Int} {wants : List Int} (ht : 0 ≤ total) (h : ∀ x ∈ wants, 0 ≤ x) :
    (upToL total wants).1.length = wants.length ∧ (∀ x ∈ (upToL total wants).1, 0 ≤ x) ∧ sumI (upToL total wants).1 + (upToL total wants).2 = total ∧ 0 ≤ (upToL total wants).2 ∧ (∀ i, wants.getD i 0 = 0 → (upToL total wants).1.getD i 0 = 0) ∧ (sumI wants ≤ total → (upToL total wants).1 = wants) := by
  unfold upToL
  by_cases hle : sumI wants ≤ total
  · rw [if_pos hle]
    exact ⟨rfl, h, by show sumI wants + (total - sumI wants) = total; omega, by show 0 ≤ total - sumI wants; omega, fun i hi => hi, fun _ => rfl⟩
  · rw [if_neg hle]
    have hn : wants ≠ [] := by rintro rfl; simp [sumI_nil] at hle; omega
    obtain ⟨s1, s2, s3⟩ := share_spec ht h hn
    exact ⟨s1, s3, by show sumI (share total wants) + 0 = total; omega, Int.le_refl _, fun i hi => share_zero (by omega) hi, fun h' => absurd h' hle⟩
theorem wantsP_nonneg (kind nn : Nat → Int) (width : Int) (cols : List Int) : ∀ x ∈ wantsP kind nn width cols, 0 ≤ x := by
  intro x hx
  unfold wantsP at hx
  obtain ⟨i, hi, rfl⟩ := List.getElem_of_mem hx
  rw [List.getElem_mapIdx]
  split <;> omega
theorem wantsA_nonneg (kind : Nat → Int) (wish cols : List Int) : ∀ x ∈ wantsA kind wish cols, 0 ≤ x := by
  intro x hx
  unfold wantsA at hx
  obtain ⟨i, hi, rfl⟩ := List.getElem_of_mem hx
  rw [List.getElem_mapIdx]
  split <;> omega
theorem wantsP_length (kind nn : Nat → Int) (width : Int) (cols : List Int) : (wantsP kind nn width cols).length = cols.length := by simp [wantsP]
theorem wantsA_length (kind : Nat → Int) (wish cols : List Int) : (wantsA kind wish cols).length = cols.length := by simp [wantsA]
theorem wantsP_get (kind nn : Nat → Int) (width : Int) (cols : List Int) (k : Nat) (hk : k < cols.length) : (wantsP kind nn width cols).getD k 0 = if kind k = 2 then max (width * nn k / 100 - cols.getD k 0) 0 else 0 := by
  unfold wantsP
  simp [List.getD_eq_getElem?_getD, hk]
theorem wantsA_get (kind : Nat → Int) (wish cols : List Int) (k : Nat) (hk : k < cols.length) : (wantsA kind wish cols).getD k 0 = if kind k = 0 then max (wish.getD k 0 - cols.getD k 0) 0 else 0 := by
  unfold wantsA
  simp [List.getD_eq_getElem?_getD, hk]
theorem ofKind_get (kind : Nat → Int) (q : Int) (n k : Nat) : (ofKind kind q n).getD k 0 = if k < n ∧ kind k = q then 1 else 0 := by
  unfold ofKind
  simp only [List.getD_eq_getElem?_getD, List.getElem?_map]
  by_cases h : k < n
  · simp [h]
  · simp [h]
theorem ofKind_nonneg (kind : Nat → Int) (q : Int) (n : Nat) : ∀ x ∈ ofKind kind q n, 0 ≤ x := by
  intro x hx
  unfold ofKind at hx
  obtain ⟨k, _, rfl⟩ := List.mem_map.1 hx
  show 0 ≤ if kind k = q then (1 : Int) else 0
  split <;> decide
theorem ofKind_pos {kind : Nat → Int} {q : Int} {n k : Nat} (hk : k < n) (hq : kind k = q) : 0 < sumI (ofKind kind q n) := by
  have h := sumI_ge (ofKind_nonneg kind q n) 1 (by
    unfold ofKind
    exact List.mem_map.2 ⟨k, List.mem_range.2 hk, by rw [if_pos hq]⟩)
  omega
/-- The rest is shared among those of a kind. -/
theorem rest_spec {kind : Nat → Int} {q : Int} {x : List Int × Int} (ht : 0 ≤ x.2) (hq : 0 < sumI (ofKind kind q x.1.length)) :
    (addAt x.1 0 (share x.2 (ofKind kind q x.1.length))).length = x.1.length ∧ sumI (addAt x.1 0 (share x.2 (ofKind kind q x.1.length))) = sumI x.1 + x.2 ∧ (∀ j, x.1.getD j 0 ≤ (addAt x.1 0 (share x.2 (ofKind kind q x.1.length))).getD j 0) ∧
      ∀ j, kind j ≠ q → (addAt x.1 0 (share x.2 (ofKind kind q x.1.length))).getD j 0 = x.1.getD j 0 := by
  have hn : ofKind kind q x.1.length ≠ [] := by intro e; rw [e] at hq; simp [sumI_nil] at hq
  obtain ⟨s1, s2, s3⟩ := share_spec ht (ofKind_nonneg kind q x.1.length) hn
  have hl : (share x.2 (ofKind kind q x.1.length)).length = x.1.length := by rw [s1]; simp [ofKind]
  refine ⟨addAt_length _ _ _, by rw [sumI_addAt hl, s2], addAt_ge s3 (by omega), fun j hj => ?_⟩
  rw [addAt_get0 hl, share_zero hq (by rw [ofKind_get, if_neg (fun h => hj h.2)])]
  omega
theorem widths_spec {kind nn : Nat → Int} {width gap : Int} {least wish : List Int} (hkd : ∀ k, kind k = 0 ∨ kind k = 1 ∨ kind k = 2) :
    (widths kind nn width gap least wish).length = least.length ∧ (∀ j, least.getD j 0 ≤ (widths kind nn width gap least wish).getD j 0) ∧ (∀ j, kind j = 1 → (widths kind nn width gap least wish).getD j 0 = least.getD j 0) ∧
      (width - wideL least gap ≤ 0 → widths kind nn width gap least wish = least) ∧
      (0 < width - wideL least gap → ((∀ j, j < least.length → kind j = 1) → widths kind nn width gap least wish = least) ∧ ((∃ j, j < least.length ∧ kind j ≠ 1) → sumI (widths kind nn width gap least wish) = width - gap * max ((least.length : Int) - 1) 0)) := by
  unfold widths
  by_cases h0 : width - wideL least gap ≤ 0
  · rw [if_pos h0]
    exact ⟨rfl, fun _ => Int.le_refl _, fun _ _ => rfl, fun _ => rfl, fun h => by omega⟩
  · rw [if_neg h0]
    obtain ⟨p1, p2, p3, p4, p5, _⟩ := upTo_spec (total := width - wideL least gap) (by omega) (wantsP_nonneg kind nn width least)
    rw [wantsP_length] at p1
    have a1 : (partW kind nn width gap least).1.length = least.length := addAt_length _ _ _
    have a2 : ∀ j, least.getD j 0 ≤ (partW kind nn width gap least).1.getD j 0 := addAt_ge p2 (by omega)
    have a3 : sumI (partW kind nn width gap least).1 + (partW kind nn width gap least).2 = sumI least + (width - wideL least gap) := by
      show sumI (addAt least 0 _) + _ = _
      rw [sumI_addAt p1]
      show sumI least + sumI _ + (upToL (width - wideL least gap) (wantsP kind nn width least)).2 = _
      omega
    have a4 : ∀ j, kind j ≠ 2 → (partW kind nn width gap least).1.getD j 0 = least.getD j 0 := by
      intro j hj
      show (addAt least 0 _).getD j 0 = _
      rw [addAt_get0 p1]
      have : (upToL (width - wideL least gap) (wantsP kind nn width least)).1.getD j 0 = 0 := by
        by_cases hjl : j < least.length
        · exact p5 j (by rw [wantsP_get _ _ _ _ _ hjl, if_neg hj])
        · rw [List.getD_eq_getElem?_getD, List.getElem?_eq_none (by omega)]; rfl
      omega
    have a5 : 0 ≤ (partW kind nn width gap least).2 := p4
    generalize partW kind nn width gap least = x at a1 a2 a3 a4 a5 ⊢
    obtain ⟨q1, q2, q3, q4, q5, _⟩ := upTo_spec (total := x.2) a5 (wantsA_nonneg kind wish x.1)
    rw [wantsA_length] at q1
    have b1 : (autoW kind wish x).1.length = least.length := (addAt_length _ _ _).trans a1
    have b2 : ∀ j, least.getD j 0 ≤ (autoW kind wish x).1.getD j 0 := fun j => Int.le_trans (a2 j) (addAt_ge q2 (by omega) j)
    have b3 : sumI (autoW kind wish x).1 + (autoW kind wish x).2 = sumI least + (width - wideL least gap) := by
      show sumI (addAt x.1 0 _) + _ = _
      rw [sumI_addAt q1]
      show sumI x.1 + sumI _ + (upToL x.2 (wantsA kind wish x.1)).2 = _
      omega
    have b4 : ∀ j, kind j = 1 → (autoW kind wish x).1.getD j 0 = least.getD j 0 := by
      intro j hj
      show (addAt x.1 0 _).getD j 0 = _
      rw [addAt_get0 q1, a4 j (by omega)]
      have : (upToL x.2 (wantsA kind wish x.1)).1.getD j 0 = 0 := by
        by_cases hjl : j < x.1.length
        · exact q5 j (by rw [wantsA_get _ _ _ _ hjl, if_neg (by omega)])
        · rw [List.getD_eq_getElem?_getD, List.getElem?_eq_none (by omega)]; rfl
      omega
    have b5 : 0 ≤ (autoW kind wish x).2 := q4
    generalize autoW kind wish x = y at b1 b2 b3 b4 b5 ⊢
    have hw : sumI least + (width - wideL least gap) = width - gap * max ((least.length : Int) - 1) 0 := by unfold wideL; omega
    unfold restW
    by_cases k0 : 0 < sumI (ofKind kind 0 y.1.length)
    · rw [if_pos k0]
      obtain ⟨r1, r2, r3, r4⟩ := rest_spec (kind := kind) b5 k0
      refine ⟨r1.trans b1, fun j => Int.le_trans (b2 j) (r3 j), fun j hj => (r4 j (by omega)).trans (b4 j hj), fun h => by omega, fun _ => ⟨fun hall => ?_, fun _ => by rw [r2]; omega⟩⟩
      exfalso
      have : sumI (ofKind kind 0 y.1.length) ≤ 0 := by
        have := sumI_le (l := ofKind kind 0 y.1.length) (m := 0) (fun z hz => by
          unfold ofKind at hz
          obtain ⟨k, hk, rfl⟩ := List.mem_map.1 hz
          have := hall k (by have := List.mem_range.1 hk; omega)
          rw [if_neg (by omega)]; exact Int.le_refl _)
        omega
      omega
    · rw [if_neg k0]
      by_cases k2 : 0 < sumI (ofKind kind 2 y.1.length)
      · rw [if_pos k2]
        obtain ⟨r1, r2, r3, r4⟩ := rest_spec (kind := kind) b5 k2
        refine ⟨r1.trans b1, fun j => Int.le_trans (b2 j) (r3 j), fun j hj => (r4 j (by omega)).trans (b4 j hj), fun h => by omega, fun _ => ⟨fun hall => ?_, fun _ => by rw [r2]; omega⟩⟩
        exfalso
        have : sumI (ofKind kind 2 y.1.length) ≤ 0 := by
          have := sumI_le (l := ofKind kind 2 y.1.length) (m := 0) (fun z hz => by
            unfold ofKind at hz
            obtain ⟨k, hk, rfl⟩ := List.mem_map.1 hz
            have := hall k (by have := List.mem_range.1 hk; omega)
            rw [if_neg (by omega)]; exact Int.le_refl _)
          omega
        omega
      · rw [if_neg k2]
        have hno : ∀ j, j < least.length → kind j = 1 := by
          intro j hj
          rcases hkd j with h | h | h
          · exact absurd (ofKind_pos (n := y.1.length) (by omega) h) k0
          · exact h
          · exact absurd (ofKind_pos (n := y.1.length) (by omega) h) k2
        have hyl : y.1 = least := by
          refine List.ext_getElem b1 fun i h1 h2 => ?_
          have := b4 i (hno i h2)
          rw [List.getD_eq_getElem?_getD, List.getD_eq_getElem?_getD, List.getElem?_eq_getElem h1, List.getElem?_eq_getElem h2] at this
          exact this
        refine ⟨b1, b2, b4, fun h => by omega, fun _ => ⟨fun _ => hyl, fun ⟨j, hj, hj2⟩ => absurd (hno j hj) hj2⟩⟩
end Go.Proofs.YtpfagdmmhgcmnaaGreatDoor

namespace Go.Proofs.YtpfagdmmhgcmnaaGreatDoor
open Go.RowKit
/- How wide columns are: what is added, whom it goes to, what each gets up to what it wants. -/
def kindT (t : Tbl) (k : Nat) : Int := (saidOf t k).k
def numT (t : Tbl) (k : Nat) : Int := (saidOf t k).n
set_option maxRecDepth 100000 in
set_option maxHeartbeats 4000000 in
theorem impl_add (base base2 g c n g2 c2 : Nat) (X Y : List Int) (w : World) (hX : IOwn w base (.slice (some ⟨g, 0, none⟩) n c) X) (hY : IOwn w base2 (.slice (some ⟨g2, 0, none⟩) n c2) Y) (hl : X.length = n) (hl2 : Y.length = n) (hne : g ≠ g2) (hn : n ≤ 1000) (hb : base ≤ g)
    (hx : ∀ x ∈ X, 0 ≤ x ∧ x ≤ 1000000) (hy : ∀ x ∈ Y, 0 ≤ x ∧ x ≤ 1000000) :
    Calls Tryz.prog 126 #[.slice (some ⟨g, 0, none⟩) n c, .slice (some ⟨g2, 0, none⟩) n c2] w fun e w' => e = .returned (.tuple #[]) ∧ IOwn w' base (.slice (some ⟨g, 0, none⟩) n c) (addAt X 0 Y) ∧ w.grownBy w' (some g) := by
  have HX := hide hX
  have HY := hide hY
  have HL := hide hl
  have HL2 := hide hl2
  have HBX := hide hx
  have HBY := hide hy
  clear hX hY hl hl2 hx hy
  go_enter Tryz.func126, Tryz.ntmps126
  go_wp2_with fail
  go_loopg [4, 5, 8] n (fun gg s4 s5 s8 wr => ∃ j : Nat, j ≤ n ∧ n - j ≤ gg ∧ s8 = .int .i64 j ∧ Aside (IOwn wr base (.slice (some ⟨g, 0, none⟩) n c) (addAt X 0 (Y.take j))) ∧ Aside (IOwn wr base2 (.slice (some ⟨g2, 0, none⟩) n c2) Y) ∧ Aside (w.grownBy wr (some g)))
  case atStart => exact ⟨0, Nat.zero_le _, by omega, rfl, (show Aside _ from by show IOwn _ _ _ _; rw [List.take_zero]; exact HX.out), HY.out, grow_refl _ _⟩
  case round =>
    obtain ⟨j, hj, hgg, rfl, HM, HZ, HG⟩ := hrel
    by_cases hlt : j < n
    · have hltz : (j : Int) < (n : Int) := by omega
      have c0 := HZ.out.cell (j := j) (by rw [HL2.out]; exact hlt)
      have hxl : (addAt X 0 (Y.take j)).length = n := by rw [addAt_length]; exact HL.out
      have c1 := HM.out.cell (j := j) (by rw [hxl]; exact hlt)
      have f1 := HM.out.frozen j
      have hget := addAt_get (Y.take j) X 0 j (by rw [HL.out]; simp; omega)
      rw [if_neg (by simp; omega), Int.add_zero] at hget
      have hxb := int_at HBX.out j (by rw [HL.out]; exact hlt)
      have hyb := int_at HBY.out j (by rw [HL2.out]; exact hlt)
      have hsn := addAt_snoc (Y.take j) (Y.getD j 0) X 0
      rw [take_snoc (by rw [HL2.out]; exact hlt), List.length_take, HL2.out, Nat.min_eq_left (by omega), Nat.zero_add] at hsn
      rw [← hget] at hxb
      have hso := fun v => HZ.out.other (a := ⟨g, j, none⟩) hne v
      generalize Y.getD j 0 = y at c0 hyb hsn
      generalize (addAt X 0 (Y.take j)).getD j 0 = x at c1 hxb hsn
      have t1 : IntKind.i64.wrap (x + y) = x + y := by rw [IntKind.wrap_i64]; omega
      have HSN := hide hsn
      have HSO := hide hso
      clear hxl hget hxb hyb hsn hso
      go_wp2_with fail
      go_roundg (n - (j + 1))
      case measure => omega
      case rel => exact ⟨j + 1, by omega, by omega, by go_num, (show Aside _ from by rw [HSN.out]; exact HM.out.store j (x + y)), HSO.out _, grow_trans HG.out (grow_set _ rfl _)⟩
    · have hltz : ¬ (j : Int) < (n : Int) := by omega
      have hO := HM.out
      rw [List.take_of_length_le (by rw [HL2.out]; omega)] at hO
      have HO := hide hO
      clear hO
      go_wp2_with fail
      go_end0
      exact ⟨rfl, HO.out, HG.out⟩
theorem ofKind_fill (f : Nat → Int) (q : Int) (n : Nat) : (List.replicate n (0 : Int)).mapIdx (fun j x => if f j = q then 1 else x) = ofKind f q n := by
  unfold ofKind
  apply List.ext_getElem (by simp)
  intro i h1 h2
  simp
theorem anyKind (f : Nat → Int) (q : Int) (n : Nat) : ((List.range n).any fun j => decide (f j = q)) = decide (0 < sumI (ofKind f q n)) := by
  rw [Bool.eq_iff_iff, List.any_eq_true, decide_eq_true_iff]
  constructor
  · rintro ⟨j, hj, hq⟩
    exact ofKind_pos (List.mem_range.1 hj) (of_decide_eq_true hq)
  · intro h
    refine Classical.byContradiction fun hno => ?_
    have hz : ∀ x ∈ ofKind f q n, x = 0 := by
      intro x hx
      unfold ofKind at hx
      obtain ⟨k, hk, rfl⟩ := List.mem_map.1 hx
      rw [if_neg]
      intro hq
      exact hno ⟨k, hk, decide_eq_true hq⟩
    have : sumI (ofKind f q n) ≤ 0 * (ofKind f q n).length := sumI_le fun x hx => by rw [hz x hx]; decide
    omega
set_option linter.unusedSimpArgs false in
set_option maxRecDepth 100000 in
set_option maxHeartbeats 4000000 in
theorem impl_alike (t : Tbl) (A : Option Addr) (c : Nat) (A' : Option Addr) (c' : Nat) (n : Nat) (q : Int) (w : World) (hc : Rd colR w A t.cols) (hn : 1 ≤ n ∧ n ≤ 1000) :
    Calls Tryz.prog 128 #[.agg #[.slice A t.cols.length c, .int .i64 t.head, .int .i64 t.foot, .slice A' t.rows.length c', .int .i64 t.gap], .int .i64 n, .int .i64 q] w fun e w' => ∃ v, e = .returned (.tuple #[v, .bool (decide (0 < sumI (ofKind (kindT t) q n)))]) ∧ IOwn w' w.heap.size v (ofKind (kindT t) q n) ∧ Below w.heap.size w w' := by
  have hmk := make_eq (P := Tryz.prog) (z := .int .i64 0) (k := 1) (bytes := 8) und_ints info_ints n (by omega) (by omega)
  have m := made_ints (w.alloc (.cells #[.slice A t.cols.length c, .int .i64 t.head, .int .i64 t.foot, .slice A' t.rows.length c', .int .i64 t.gap] 26)) w.heap.size n (by simp) (by omega)
  rw [Nat.mul_one] at m
  have hz2 : ((w.alloc (.cells #[.slice A t.cols.length c, .int .i64 t.head, .int .i64 t.foot, .slice A' t.rows.length c', .int .i64 t.gap] 26)).alloc (.cells (madeCells #[Value.int .i64 0] n) 3)).heap.size = w.heap.size + 2 := by simp
  obtain ⟨V, hV⟩ : ∃ V, V = (w.alloc (.cells #[.slice A t.cols.length c, .int .i64 t.head, .int .i64 t.foot, .slice A' t.rows.length c', .int .i64 t.gap] 26)).alloc (.cells (madeCells #[Value.int .i64 0] n) 3) := ⟨_, rfl⟩
  have M : Hid (IOwn V w.heap.size (.slice (some ⟨w.heap.size + 1, 0, none⟩) n n) (List.replicate n 0)) := by
    have e1 : (w.alloc (.cells #[.slice A t.cols.length c, .int .i64 t.head, .int .i64 t.foot, .slice A' t.rows.length c', .int .i64 t.gap] 26)).heap.size = w.heap.size + 1 := by simp
    rw [e1] at m
    rw [hV]; exact m
  have hS := fun (W : World) (h : Below w.heap.size w W) (k : Nat) (hk : k ≤ 1000000) => impl_said t A c A' c' k W (hc.below h) (by omega) (by omega)
  have hB : Below w.heap.size w V := by rw [hV]; exact balloc (balloc (brefl _) _) _
  have hK : BlockAt V w.heap.size [.slice A t.cols.length c, .int .i64 t.head, .int .i64 t.foot, .slice A' t.rows.length c', .int .i64 t.gap] := by
    rw [hV]; exact (BlockAt.new w [.slice A t.cols.length c, .int .i64 t.head, .int .i64 t.foot, .slice A' t.rows.length c', .int .i64 t.gap] 26).keep ((balloc (brefl _) _).block w.heap.size (by simp))
  have hzV : V.heap.size = w.heap.size + 2 := by rw [hV]; exact hz2
  have HB := hide hB
  have HK := hide hK
  have HV := hide hV
  clear m hc hz2 hB hK hV
  have hfc := fieldC
  go_enter Tryz.func128, Tryz.ntmps128
  go_wp2_with fail
  rw [← HV.out]
  go_loopg [9, 10, 15] n (fun gg s9 s10 s15 wr => ∃ j : Nat, j ≤ n ∧ n - j ≤ gg ∧ s15 = .int .i64 j ∧ s9 = .bool ((List.range j).any fun k => decide (kindT t k = q)) ∧ Aside (IOwn wr w.heap.size (.slice (some ⟨w.heap.size + 1, 0, none⟩) n n) (fillM (fun k x => if kindT t k = q then 1 else x) j (List.replicate n 0))) ∧ Aside (Below w.heap.size w wr) ∧ Aside (BlockAt wr w.heap.size [.slice A t.cols.length c, .int .i64 t.head, .int .i64 t.foot, .slice A' t.rows.length c', .int .i64 t.gap]))
  case atStart => exact ⟨0, Nat.zero_le _, by omega, rfl, rfl, (show Aside _ from by rw [fillM_zero]; exact M.out), HB.out, HK.out⟩
  case round =>
    obtain ⟨j, hj, hgg, rfl, rfl, HM, HBW, HKW⟩ := hrel
    by_cases hlt : j < n
    · have hltz : (j : Int) < (n : Int) := by omega
      have y0 := HKW.out.1 0 _ rfl
      have y1 := HKW.out.1 1 _ rfl
      have y2 := HKW.out.1 2 _ rfl
      have y3 := HKW.out.1 3 _ rfl
      have y4 := HKW.out.1 4 _ rfl
      have hSj := hS wr HBW.out j (by omega)
      have hr1 : (List.range (j + 1)).any (fun k => decide (kindT t k = q)) = ((List.range j).any (fun k => decide (kindT t k = q)) || decide (kindT t j = q)) := by rw [List.range_succ, List.any_append]; simp
      have HR1 := hide hr1
      have hml : j < (fillM (fun k x => if kindT t k = q then 1 else x) j (List.replicate n (0 : Int))).length := by rw [fillM_length]; simp; omega
      obtain ⟨k0, hk0⟩ : ∃ k0, (saidOf t j).k = k0 := ⟨_, rfl⟩
      have hk1 : kindT t j = k0 := hk0
      rw [hk0] at hSj
      have HK1 := hide hk1
      clear hk0 hk1 hr1
      go_wp2_with fail
      refine hSj.mono ?_
      rintro e w5 ⟨rfl, hb5⟩
      have hwl : w.heap.size + 1 < wr.heap.size := by
        obtain ⟨g', c2, e, _, h2, _⟩ := HM.out.at (by omega)
        injection e with e; injection e with e; injection e with e; omega
      have HB5 := hide (step HBW.out hb5)
      have HM5 := hide (HM.out.below hb5)
      have HK5 := hide (HKW.out.keep (hb5.block w.heap.size (by omega)))
      clear y0 y1 y2 y3 y4 hSj hb5
      by_cases h1 : k0 = q
      · have h1z : (k0 == q) = true := by simp [h1]
        have cm := HM5.out.cell (j := j) hml
        have fm := HM5.out.frozen j
        have hst := HM5.out.store j (1 : Int)
        have hfs := fillM_set (fun k x => if kindT t k = q then (1 : Int) else x) j (List.replicate n 0) (by simp; omega)
        simp only [HK1.out, if_pos h1] at hfs
        rw [hfs] at hst
        have HST := hide hst
        have hkb := HK5.out.keep (heap_set w5 ⟨w.heap.size + 1, j, none⟩ (.int .i64 1) w.heap.size (by show w.heap.size ≠ w.heap.size + 1; omega))
        have HKB := hide hkb
        rw [fillM_at] at cm
        clear hst hfs hml hkb
        go_wp2_with fail
        go_roundg (n - (j + 1))
        case measure => omega
        case rel => exact ⟨j + 1, by omega, by omega, by go_num, by rw [HR1.out, HK1.out]; simp [h1], HST.out, (show Aside _ from bset HB5.out (by show w.heap.size ≤ w.heap.size + 1; omega) _), HKB.out⟩
      · have h1z : (k0 == q) = false := by simp [h1]
        have HSK := hide (fillM_skip (fun k x => if kindT t k = q then (1 : Int) else x) j (List.replicate n 0) (by simp only [HK1.out, if_neg h1]))
        clear hml
        go_wp2_with fail
        go_roundg (n - (j + 1))
        case measure => omega
        case rel => exact ⟨j + 1, by omega, by omega, by go_num, by rw [HR1.out, HK1.out]; simp [h1], (show Aside _ from by rw [HSK.out]; exact HM5.out), HB5.out, HK5.out⟩
    · have hltz : ¬ (j : Int) < (n : Int) := by omega
      have hjn : j = n := by omega
      have hO := HM.out
      rw [show fillM (fun k x => if kindT t k = q then (1 : Int) else x) j (List.replicate n 0) = ofKind (kindT t) q n by
        rw [← ofKind_fill, ← fillM_full, List.length_replicate, hjn]] at hO
      have hA := anyKind (kindT t) q n
      have HA := hide hA
      rw [hjn, HA.out]
      have HO := hide hO
      clear hO hA hjn
      go_wp2_with fail
      exact bodyPost_ret (v := .tuple #[.slice (some ⟨w.heap.size + 1, 0, none⟩) n n, .bool (decide (0 < sumI (ofKind (kindT t) q n)))]) (by simp [results, Tryz.results128, go_sem, *]) rfl ⟨_, rfl, HO.out, HBW.out⟩
set_option maxRecDepth 100000 in
set_option maxHeartbeats 4000000 in
theorem impl_ShrUpTo (total : Int) (base : Nat) (A : Option Addr) (c : Nat) (ws : List Int) (w : World) (hI : IOwn w base (.slice A ws.length c) ws) (h : ShrIn total ws) (hn : 0 < ws.length) :
    Calls Tryz.prog 124 #[.int .i64 total, .slice A ws.length c] w fun e w' => ∃ v, e = .returned (.tuple #[v, .int .i64 (upToL total ws).2]) ∧ IOwn w' w.heap.size v (upToL total ws).1 ∧ Below w.heap.size w w' := by
  have hOK := impl_ShrOk total A c ws w (irow_rd hI) h
  have hSUM := fun (W : World) (hb : Below w.heap.size w W) => impl_sumOf A c ws W ((irow_rd hI).below hb) (fun x hx => by have := h.2.1 x hx; omega) (by have := h.2.2; omega)
  have hSH := fun (W : World) (hb : Below w.heap.size w W) => impl_ShrShare total A c ws W ((irow_rd hI).below hb) h hn
  have hCL := fun (W : World) (hb : Below w.heap.size w W) => cloneInts (.slice A ws.length c) ws W (Lies.below (Lies.of hI) hb) (by have := h.2.2; omega)
  have ht := h.1
  obtain ⟨s1, s2⟩ := sum_le 100000 ws h.2.1
  have hl := h.2.2
  obtain ⟨s, hs⟩ : ∃ s, sumI ws = s := ⟨_, rfl⟩
  rw [hs] at hSUM s1 s2
  have t1 : IntKind.i64.wrap (total - s) = total - s := by rw [IntKind.wrap_i64]; omega
  by_cases hle : s ≤ total
  · have hup : upToL total ws = (ws, total - s) := by unfold upToL; rw [hs, if_pos hle]
    rw [hup]
    have hz : (total - s) ≥ 0 := by omega
    have hz2 : 0 ≤ total - s := by omega
    clear hI h hs hup hSH
    go_enter Tryz.func124, Tryz.ntmps124
    go_wp2_with fail
    refine hOK.mono ?_
    rintro e w1 ⟨rfl, hb1⟩
    have hS1 := hSUM w1 hb1
    have HC1 := hide (hCL w1 hb1)
    have HB1 := hide hb1
    clear hOK hSUM hCL hb1
    go_wp2_with fail
    refine hS1.mono ?_
    rintro e w2 ⟨rfl, hw2⟩
    obtain rfl := hw2.symm
    clear hS1
    have hC1 := HC1.out
    go_wp2_with fail
    refine hC1.mono ?_
    rintro e w3 ⟨v, rfl, hO, hb3⟩
    have HO := hide hO
    have HB3 := hide (step HB1.out hb3)
    have hs2 := HB1.out.size
    clear hC1 hO hb3
    go_wp2_with fail
    exact bodyPost_ret (v := .tuple #[v, .int .i64 (total - s)]) (by simp [results, Tryz.results124, go_sem, *]) rfl ⟨_, rfl, HO.out.base hs2, HB3.out⟩
  · have hup : upToL total ws = (share total ws, 0) := by unfold upToL; rw [hs, if_neg hle]
    rw [hup]
    have hz : ¬ (total - s) ≥ 0 := by omega
    have hz2 : ¬ 0 ≤ total - s := by omega
    clear hI h hs hup hCL
    go_enter Tryz.func124, Tryz.ntmps124
    go_wp2_with fail
    refine hOK.mono ?_
    rintro e w1 ⟨rfl, hb1⟩
    have hS1 := hSUM w1 hb1
    have HC1 := hide (hSH w1 hb1)
    have HB1 := hide hb1
    clear hOK hSUM hSH hb1
    go_wp2_with fail
    refine hS1.mono ?_
    rintro e w2 ⟨rfl, hw2⟩
    obtain rfl := hw2.symm
    clear hS1
    have hC1 := HC1.out
    go_wp2_with fail
    refine hC1.mono ?_
    rintro e w3 ⟨v, rfl, hO, hb3⟩
    have HO := hide hO
    have HB3 := hide (step HB1.out hb3)
    have hs2 := HB1.out.size
    clear hC1 hO hb3
    go_wp2_with fail
    exact bodyPost_ret (v := .tuple #[v, .int .i64 0]) (by simp [results, Tryz.results124, go_sem, *]) rfl ⟨_, rfl, HO.out.base hs2, HB3.out⟩
end Go.Proofs.YtpfagdmmhgcmnaaGreatDoor

namespace Go.Proofs.YtpfagdmmhgcmnaaGreatDoor
open Go.RowKit
/- How wide columns are: what each column wants, the program's closures. -/
theorem said_num {t : Tbl} (h : tblOk t = true) (i : Int) : 0 ≤ (saidOf t i).n ∧ (saidOf t i).n ≤ 100 := by
  unfold saidOf
  split
  · rename_i hi
    have hlt : i.toNat < t.cols.length := by omega
    rw [List.getD_eq_getElem?_getD, List.getElem?_eq_getElem hlt]
    have hc := (tblOk_parts h).2.2.2.2.2.1 _ (List.getElem_mem hlt)
    simp only [Option.getD_some]
    unfold colOk at hc
    split at hc
    · have : t.cols[i.toNat].n = 0 := by simpa using hc
      omega
    · split at hc
      · simp [inB] at hc; omega
      · split at hc
        · simp [inB] at hc; omega
        · cases hc
  · exact ⟨Int.le_refl _, by decide⟩
def wantsF (t : Tbl) (q : Int) (f : Nat → Int) (X : List Int) : List Int := X.mapIdx fun k has => if kindT t k = q then max (f k - has) 0 else 0
theorem wants_fill (t : Tbl) (q : Int) (f : Nat → Int) (X : List Int) (n : Nat) (h : X.length = n) : (List.replicate n (0 : Int)).mapIdx (fun k x => if kindT t k = q then max (f k - X.getD k 0) 0 else x) = wantsF t q f X := by
  unfold wantsF
  apply List.ext_getElem (by simp [h])
  intro i h1 h2
  have hi : i < X.length := by simpa using h2
  simp [List.getD_eq_getElem?_getD, hi]
set_option linter.unusedSimpArgs false in
set_option maxRecDepth 100000 in
set_option maxHeartbeats 8000000 in
theorem cols_wants (t : Tbl) (A : Option Addr) (c : Nat) (A' : Option Addr) (c' : Nat) (q : Int) (F : Nat) (caps : Array Value) (f : Nat → Int) (Bc Bt g cc n base : Nat) (X : List Int) (w : World) (hc : Rd colR w A t.cols)
    (hB : w.cell? ⟨Bc, 0, none⟩ = some (.slice (some ⟨g, 0, none⟩) n cc)) (hT : BlockAt w Bt [.slice A t.cols.length c, .int .i64 t.head, .int .i64 t.foot, .slice A' t.rows.length c', .int .i64 t.gap]) (hX : IOwn w base (.slice (some ⟨g, 0, none⟩) n cc) X) (hl : X.length = n) (hn : 1 ≤ n ∧ n ≤ 1000) (hx : ∀ x ∈ X, 0 ≤ x ∧ x ≤ 1000000)
    (heg : ∀ args w, (callFunc F args).run Tryz.prog w = .ok (.enter F args) w)
    (hF : ∀ (W : World) (k : Nat), Below w.heap.size w W → k < n → Calls Tryz.prog F (#[.int .i64 k] ++ caps) W fun e w' => e = .returned (.int .i64 (f k)) ∧ Below W.heap.size W w') (hf : ∀ k, k < n → 0 ≤ f k ∧ f k ≤ 1000000) :
    Calls Tryz.prog 123 #[.int .i64 q, .func (.func F) #[] caps, .pointer (some ⟨Bc, 0, none⟩), .pointer (some ⟨Bt, 0, none⟩)] w fun e w' => ∃ v, e = .returned v ∧ IOwn w' w.heap.size v (wantsF t q f X) ∧ Below w.heap.size w w' := by
  have hmk := make_eq (P := Tryz.prog) (z := .int .i64 0) (k := 1) (bytes := 8) und_ints info_ints n (by omega) (by omega)
  have m := made_ints w w.heap.size n (Nat.le_refl _) (by omega)
  rw [Nat.mul_one] at m
  obtain ⟨V, hV⟩ : ∃ V, V = w.alloc (.cells (madeCells #[Value.int .i64 0] n) 3) := ⟨_, rfl⟩
  have M : Hid (IOwn V w.heap.size (.slice (some ⟨w.heap.size, 0, none⟩) n n) (List.replicate n 0)) := by rw [hV]; exact m
  have hb1 : Below w.heap.size w V := by rw [hV]; exact balloc (brefl _) _
  have hS := fun (W : World) (h : Below w.heap.size w W) (k : Nat) (hk : k ≤ 1000000) => impl_said t A c A' c' k W (hc.below h) (by omega) (by omega)
  have hcl : Bc < w.heap.size := World.block_lt_of_cell? w _ hB
  have htl : Bt < w.heap.size := World.block_lt_of_cell? w _ (hT.1 0 _ rfl)
  have hB1 : V.cell? ⟨Bc, 0, none⟩ = some (.slice (some ⟨g, 0, none⟩) n cc) := keepW hb1 hB
  have hgl : g < w.heap.size := by
    obtain ⟨g', c2, e, _, h2, _⟩ := hX.at (by rw [hl]; omega)
    injection e with e; injection e with e; injection e with e; omega
  have HT := hide hT
  have HX := hide hX
  have HL := hide hl
  have HBX := hide hx
  have HF := hide hF
  have HFB := hide hf
  have HV := hide hV
  have HB1 := hide hb1
  clear hc hT hX hl hx hF hf m hV hb1
  have hfc := fieldC
  have hmax := max_int
  go_enter Tryz.func123, Tryz.ntmps123
  go_wp2_with fail
  rw [← HV.out]
  go_wp2_with fail
  go_loopg [8, 9, 15] n (fun gg s8 s9 s15 wr => ∃ j : Nat, j ≤ n ∧ n - j ≤ gg ∧ s15 = .int .i64 j ∧ Aside (IOwn wr w.heap.size (.slice (some ⟨w.heap.size, 0, none⟩) n n) (fillM (fun k x => if kindT t k = q then max (f k - X.getD k 0) 0 else x) j (List.replicate n 0))) ∧ Aside (Below w.heap.size w wr))
  case atStart => exact ⟨0, Nat.zero_le _, by omega, rfl, (show Aside _ from by rw [fillM_zero]; exact M.out), HB1.out⟩
  case round =>
    obtain ⟨j, hj, hgg, rfl, HM, HBW⟩ := hrel
    by_cases hlt : j < n
    · have hltz : (j : Int) < (n : Int) := by omega
      have hKW := HT.out.keep (HBW.out.block Bt htl)
      have y0 := hKW.1 0 _ rfl
      have y1 := hKW.1 1 _ rfl
      have y2 := hKW.1 2 _ rfl
      have y3 := hKW.1 3 _ rfl
      have y4 := hKW.1 4 _ rfl
      have cx := keepW HBW.out (HX.out.cell (j := j) (by rw [HL.out]; exact hlt))
      have hxb := int_at HBX.out j (by rw [HL.out]; exact hlt)
      have hfb := HFB.out j hlt
      have hSj := hS wr HBW.out j (by omega)
      have hml : j < (fillM (fun k x => if kindT t k = q then max (f k - X.getD k 0) 0 else x) j (List.replicate n (0 : Int))).length := by rw [fillM_length]; simp; omega
      obtain ⟨k0, hk0⟩ : ∃ k0, (saidOf t j).k = k0 := ⟨_, rfl⟩
      have hk1 : kindT t j = k0 := hk0
      rw [hk0] at hSj
      have HK1 := hide hk1
      have hfs := fillM_set (fun k x => if kindT t k = q then max (f k - X.getD k 0) (0 : Int) else x) j (List.replicate n 0) (by simp; omega)
      have hfk := fillM_skip (fun k x => if kindT t k = q then max (f k - X.getD k 0) (0 : Int) else x) j (List.replicate n 0)
      simp only [hk1] at hfs hfk
      obtain ⟨x, hxd⟩ : ∃ x, X.getD j 0 = x := ⟨_, rfl⟩
      rw [hxd] at cx hxb hfs
      have HFS := hide hfs
      have HFK := hide hfk
      clear hk0 hk1 hKW hxd hfs hfk
      go_wp2_with fail
      refine hSj.mono ?_
      rintro e w5 ⟨rfl, hb5⟩
      have hwl : w.heap.size < wr.heap.size := by
        obtain ⟨g', c2, e, _, h2, _⟩ := HM.out.at (by omega)
        injection e with e; injection e with e; injection e with e; omega
      have HB5 := hide (step HBW.out hb5)
      have HM5 := hide (HM.out.below hb5)
      clear y0 y1 y2 y3 y4 hSj hb5 cx
      by_cases h1 : k0 = q
      · have h1z : (k0 == q) = true := by simp [h1]
        have hcall := HF.out w5 j HB5.out hlt
        obtain ⟨y, hy⟩ : ∃ y, f j = y := ⟨_, rfl⟩
        rw [hy] at hcall hfb
        have HYY := hide hy
        clear hy
        go_wp2_with fail
        refine hcall.mono ?_
        rintro e w6 ⟨rfl, hb6⟩
        have HM6 := hide (HM5.out.below hb6)
        have HB6 := hide (step HB5.out hb6)
        have cm := HM6.out.cell (j := j) hml
        have fm := HM6.out.frozen j
        have hst := HM6.out.store j (max (y - x) 0)
        have hfs := HFS.out
        rw [if_pos h1, HYY.out] at hfs
        rw [hfs] at hst
        have HST := hide hst
        rw [fillM_at] at cm
        have t1 : IntKind.i64.wrap (y - x) = y - x := by rw [IntKind.wrap_i64]; omega
        clear hst hfs hml hcall hb6
        go_wp2_with fail
        go_roundg (n - (j + 1))
        case measure => omega
        case rel => exact ⟨j + 1, by omega, by omega, by go_num, HST.out, (show Aside _ from bset HB6.out (by show w.heap.size ≤ w.heap.size; omega) _)⟩
      · have h1z : (k0 == q) = false := by simp [h1]
        have HSK := hide (HFK.out (by rw [if_neg h1]))
        clear hml
        go_wp2_with fail
        go_roundg (n - (j + 1))
        case measure => omega
        case rel => exact ⟨j + 1, by omega, by omega, by go_num, (show Aside _ from by rw [HSK.out]; exact HM5.out), HB5.out⟩
    · have hltz : ¬ (j : Int) < (n : Int) := by omega
      have hjn : j = n := by omega
      have hO := HM.out
      rw [show fillM (fun k x => if kindT t k = q then max (f k - X.getD k 0) (0 : Int) else x) j (List.replicate n 0) = wantsF t q f X by
        rw [← wants_fill t q f X n HL.out, ← fillM_full, List.length_replicate, hjn]] at hO
      have HO := hide hO
      clear hO hjn
      go_wp2_with fail
      go_ret
      exact ⟨_, rfl, HO.out, HBW.out⟩
set_option maxRecDepth 100000 in
set_option maxHeartbeats 4000000 in
theorem cols_part (t : Tbl) (A : Option Addr) (c : Nat) (A' : Option Addr) (c' : Nat) (k Bw Bt : Nat) (width : Int) (w : World) (hok : tblOk t = true) (hc : Rd colR w A t.cols) (hW : w.cell? ⟨Bw, 0, none⟩ = some (.int .i64 width)) (hT : BlockAt w Bt [.slice A t.cols.length c, .int .i64 t.head, .int .i64 t.foot, .slice A' t.rows.length c', .int .i64 t.gap]) (hk : k ≤ 1000) (hw : 0 ≤ width ∧ width ≤ 300) :
    Calls Tryz.prog 125 #[.int .i64 k, .pointer (some ⟨Bw, 0, none⟩), .pointer (some ⟨Bt, 0, none⟩)] w fun e w' => e = .returned (.int .i64 (width * numT t k / 100)) ∧ Below w.heap.size w w' := by
  have hS := fun (W : World) (h : Below w.heap.size w W) => impl_said t A c A' c' k W (hc.below h) (by omega) (by omega)
  have hnm := said_num hok (k : Int)
  unfold numT
  have htl : Bt < w.heap.size := World.block_lt_of_cell? w _ (hT.1 0 _ rfl)
  have hwl : Bw < w.heap.size := World.block_lt_of_cell? w _ hW
  have y0 := hT.1 0 _ rfl
  have y1 := hT.1 1 _ rfl
  have y2 := hT.1 2 _ rfl
  have y3 := hT.1 3 _ rfl
  have y4 := hT.1 4 _ rfl
  obtain ⟨sd, hsd⟩ : ∃ sd, saidOf t (k : Int) = sd := ⟨_, rfl⟩
  rw [hsd] at hS hnm ⊢
  obtain ⟨P, hP⟩ : ∃ P, width * sd.n = P := ⟨_, rfl⟩
  have hP0 : 0 ≤ P ∧ P ≤ 30000 := by
    rw [← hP]
    refine ⟨Int.mul_nonneg hw.1 hnm.1, ?_⟩
    have h1 : width * sd.n ≤ 300 * sd.n := Int.mul_le_mul_of_nonneg_right hw.2 hnm.1
    omega
  have t1 : IntKind.i64.wrap (width * sd.n) = P := by rw [hP, IntKind.wrap_i64]; omega
  have t2 : IntKind.i64.wrap (P.tdiv 100) = P / 100 := by rw [Int.tdiv_eq_ediv_of_nonneg hP0.1, IntKind.wrap_i64]; omega
  rw [hP]
  clear hc hT hsd hP hnm hok
  have hfc := fieldC1
  go_enter Tryz.func125, Tryz.ntmps125
  go_upto_region 1 with fail
  go_region_with (go_at_call 68; refine (hS _ ?_).mono ?_; (first | exact brefl _ | exact bdrew (brefl _)); rintro e w2 ⟨rfl, hb2⟩; have x1 : w2.cell? ⟨Bw, 0, none⟩ = some (.int .i64 width) := keepW hb2 (by simp [*]))
  all_goals
    go_wp2_with fail
    go_ret
    refine ⟨rfl, ?_⟩
    (repeat' (with_reducible first | exact brefl _ | refine bdrew ?_ | refine step ?_ (by with_reducible assumption)))
set_option maxHeartbeats 2000000 in
theorem cols_wish (k Bw g3 c3 n base : Nat) (Y : List Int) (w : World) (hW : w.cell? ⟨Bw, 0, none⟩ = some (.slice (some ⟨g3, 0, none⟩) n c3)) (hY : IOwn w base (.slice (some ⟨g3, 0, none⟩) n c3) Y) (hl : Y.length = n) (hk : k < n) (hn : n ≤ 1000) :
    Calls Tryz.prog 127 #[.int .i64 k, .pointer (some ⟨Bw, 0, none⟩)] w fun e w' => e = .returned (.int .i64 (Y.getD k 0)) ∧ Below w.heap.size w w' := by
  have cy := hY.cell (j := k) (by rw [hl]; exact hk)
  generalize Y.getD k 0 = y at cy ⊢
  have hkz : (k : Int) < (n : Int) := by omega
  have h0 : (0 : Int) ≤ (k : Int) := by omega
  clear hY hl
  go_enter Tryz.func127, Tryz.ntmps127
  go_wp2_with fail
  go_ret
  exact ⟨rfl, brefl _⟩
end Go.Proofs.YtpfagdmmhgcmnaaGreatDoor

namespace Go.Proofs.YtpfagdmmhgcmnaaGreatDoor
open Go.RowKit
/- What the columns need at least: what the laws want to know of it. Plain. -/
def GoodRows (t : Tbl) (k : Nat) : Prop := ∀ (j : Nat) (hj : j < t.rows.length), t.rows[j].cs.length ≤ (if j = k then 5 else 4) ∧ ∀ x ∈ t.rows[j].cs, x.r ≠ 4
theorem anyBd.good {t : Tbl} (h : anyBd t) : ∃ k, GoodRows t k := by
  obtain ⟨k, hk⟩ := h.cells
  exact ⟨k, fun j hj => ⟨(hk j hj).1, fun x hx => ((hk j hj).2 x hx).2.2.2.2.2.1⟩⟩
/-- A window's numbers. -/
def someL (xs : List Int) (a k : Int) : List Int := (xs.drop a.toNat).take k.toNat
theorem someL_length {xs : List Int} {n : Nat} {a k : Int} (h : xs.length = n) (ha : 0 ≤ a) (hk : 0 ≤ k) (hn : a + k ≤ n) : (someL xs a k).length = k.toNat := by
  unfold someL
  simp
  omega
theorem wide_some {xs : List Int} {n : Nat} {a k gap : Int} (h : xs.length = n) (ha : 0 ≤ a) (hk : 1 ≤ k) (hn : a + k ≤ n) : wideG gap (someL xs a k) = winS xs a.toNat k.toNat + gap * (k - 1) := by
  unfold wideG
  rw [someL_length h ha (by omega) hn]
  have : max ((k.toNat : Int) - 1) 0 = k - 1 := by omega
  rw [this]
  rfl
theorem said_fixed {t : Tbl} (h : tblOk t = true) (i : Int) (hk : (saidOf t i).k = 1) : 0 ≤ (saidOf t i).n ∧ (saidOf t i).n ≤ 60 := by
  unfold saidOf at hk ⊢
  split at hk
  · rename_i hi
    rw [if_pos hi]
    have hlt : i.toNat < t.cols.length := by omega
    rw [List.getD_eq_getElem?_getD, List.getElem?_eq_getElem hlt] at hk ⊢
    have hc := (tblOk_parts h).2.2.2.2.2.1 _ (List.getElem_mem hlt)
    simp only [Option.getD_some] at hk ⊢
    unfold colOk at hc
    rw [if_neg (by omega), if_pos hk] at hc
    simpa [inB] using hc
  · exact absurd hk (by decide)
theorem mapIdx_getD (f : Nat → Int → Int) (xs : List Int) (j : Nat) (h : j < xs.length) : (xs.mapIdx f).getD j 0 = f j (xs.getD j 0) := by
  simp [List.getD_eq_getElem?_getD, h]
theorem saidN_in {t : Tbl} (h : tblOk t = true) (j : Nat) (x : Int) (hx : 0 ≤ x ∧ x ≤ 30) : x ≤ saidN t j x ∧ saidN t j x ≤ 60 ∧ ((saidOf t j).k = 1 → (saidOf t j).n ≤ saidN t j x) := by
  unfold saidN
  split
  · rename_i hk
    have := said_fixed h j hk
    exact ⟨Int.le_max_left .., Int.max_le.2 ⟨by omega, this.2⟩, fun _ => Int.le_max_right ..⟩
  · rename_i hk
    exact ⟨Int.le_refl _, by omega, fun h' => absurd h' hk⟩
theorem colLeast_ok {t : Tbl} (h : tblOk t = true) {k : Nat} (hy : GoodRows t k) : ∃ n : Nat, (gridL 400 t).2 = n ∧ (1 ≤ n ∧ n ≤ 90) ∧ (colLeastL 400 t).length = n ∧ (∀ x ∈ colLeastL 400 t, 0 ≤ x ∧ x ≤ 60) ∧
    (∀ c ∈ (gridL 400 t).1, CellAt t c ∧ (0 ≤ c.col ∧ 1 ≤ c.cols ∧ c.cols ≤ 4 ∧ c.col + c.cols ≤ n) ∧ leastT (textOf t c) ≤ wideG t.gap (someL (colLeastL 400 t) c.col c.cols)) ∧
    ∀ j < n, (saidOf t j).k = 1 → (saidOf t j).n ≤ (colLeastL 400 t).getD j 0 := by
  obtain ⟨n, hn, hn1, hcell, hcl⟩ := grid_need h hy 400 leastT_in
  have hg := (tblOk_parts h).2.2.1
  obtain ⟨⟨m1, m2⟩, m3⟩ := made_spec hg.1 (fun x hx => (hcell x hx).1)
  have hL : colLeastL 400 t = (made t.gap (fun c => leastT (textOf t c)) (gridL 400 t).1 n).mapIdx (saidN t) := by
    unfold colLeastL; rw [if_pos h, hn]; rfl
  generalize made t.gap (fun c => leastT (textOf t c)) (gridL 400 t).1 n = X at m1 m2 m3 hL
  have hlen : (colLeastL 400 t).length = n := by rw [hL, List.length_mapIdx, m1]
  have hat : ∀ j < n, X.getD j 0 ∈ X := fun j hj => by
    rw [List.getD_eq_getElem?_getD, List.getElem?_eq_getElem (by omega)]; exact List.getElem_mem _
  refine ⟨n, hn, hn1, hlen, fun x hx => ?_, fun c hc => ?_, fun j hj hk => ?_⟩
  · obtain ⟨j, hj, rfl⟩ := List.getElem_of_mem hx
    have hjn : j < n := by omega
    have e : (colLeastL 400 t)[j] = saidN t j (X.getD j 0) := by
      rw [← mapIdx_getD (saidN t) X j (by omega), ← hL, List.getD_eq_getElem?_getD, List.getElem?_eq_getElem hj]; rfl
    rw [e]
    have h1 := m2 _ (hat j hjn)
    have h2 := saidN_in h j _ h1
    omega
  · obtain ⟨⟨c1, c2, c3, c4, _⟩, hca, _⟩ := hcell c hc
    refine ⟨hca, ⟨c1, c2, c3, c4⟩, ?_⟩
    rw [wide_some hlen c1 c2 c4]
    have h1 := m3 c hc
    have h2 : winS X c.col.toNat c.cols.toNat ≤ winS (colLeastL 400 t) c.col.toNat c.cols.toNat := by
      refine winS_le (m1.trans hlen.symm) (fun j => ?_) _ _ (by omega)
      by_cases hj : j < n
      · rw [hL, mapIdx_getD _ _ _ (by omega)]
        exact (saidN_in h j _ (m2 _ (hat j hj))).1
      · simp [List.getD_eq_getElem?_getD, show X[j]? = none from by simp; omega, show (colLeastL 400 t)[j]? = none from by simp; omega]
    omega
  · rw [hL, mapIdx_getD _ _ _ (by omega)]
    exact (saidN_in h j _ (m2 _ (hat j hj))).2.2 hk
/-- Both sides have one list. -/
theorem colLeast_two {t : Tbl} {k : Nat} (hy : GoodRows t k) : colLeastL 90 t = colLeastL 400 t := by
  unfold colLeastL
  split
  · rename_i h
    rw [grid_one h hy]
  · rfl
end Go.Proofs.YtpfagdmmhgcmnaaGreatDoor
