import Derived.Test.YtpfagdmmhgcmnaaGreatDoorMixR8aw
import Derived.Test.YtpfagdmmhgcmnaaGreatDoorMixR8ah
import Derived.Test.YtpfagdmmhgcmnaaGreatDoorMixR8at
import Derived.Test.YtpfagdmmhgcmnaaGreatDoorMixR8ax
import Derived.Test.YtpfagdmmhgcmnaaGreatDoorMixR8am
import Derived.OpenShut
import Derived.ChangeSlices
namespace Go.Proofs.YtpfagdmmhgcmnaaGreatDoor
open Go.RowKit
/- What the columns need at least: what the laws want to know of it. Plain. -/
def GoodRows (t : Tbl) (k : Nat) : Prop := ∀ (j : Nat) (hj : j < t.rows.length), t.rows[j].cs.length ≤ (if j = k then 5 else 4) ∧ ∀ x ∈ t.rows[j].cs, x.r ≠ 4
theorem anyBd.good {t : Tbl} (h : anyBd t) : ∃ k, GoodRows t k := by
  obtain ⟨k, hk⟩ := h.cells
  exact ⟨k, fun j hj => ⟨(hk j hj).1, fun x hx => ((hk j hj).2 x hx).2.2.2.2.2.1⟩⟩
/-- A window's numbers. -/
def someL (xs : List Int) (a k : Int) : List Int := (xs.drop a.toNat).take k.toNat
theorem someL_length {xs : List Int} {n : Nat} {a k : Int} (h : xs.length = n) (ha : 0 ≤ a) (hk : 0 ≤ k) (hn : a + k ≤ n) : (someL xs a k).length = k.toNat := by
  unfold someL
  simp
  omega
theorem wide_some {xs : List Int} {n : Nat} {a k gap : Int} (h : xs.length = n) (ha : 0 ≤ a) (hk : 1 ≤ k) (hn : a + k ≤ n) : wideG gap (someL xs a k) = winS xs a.toNat k.toNat + gap * (k - 1) := by
  unfold wideG
  rw [someL_length h ha (by omega) hn]
  have : max ((k.toNat : Int) - 1) 0 = k - 1 := by omega
  rw [this]
  rfl
theorem said_fixed {t : Tbl} (h : tblOk t = true) (i : Int) (hk : (saidOf t i).k = 1) : 0 ≤ (saidOf t i).n ∧ (saidOf t i).n ≤ 60 := by
  unfold saidOf at hk ⊢
  split at hk
  · rename_i hi
    rw [if_pos hi]
    have hlt : i.toNat < t.cols.length := by omega
    rw [List.getD_eq_getElem?_getD, List.getElem?_eq_getElem hlt] at hk ⊢
    have hc := (tblOk_parts h).2.2.2.2.2.1 _ (List.getElem_mem hlt)
    simp only [Option.getD_some] at hk ⊢
    unfold colOk at hc
    rw [if_neg (by omega), if_pos hk] at hc
    simpa [inB] using hc
  · exact absurd hk (by decide)
theorem mapIdx_getD (f : Nat → Int → Int) (xs : List Int) (j : Nat) (h : j < xs.length) : (xs.mapIdx f).getD j 0 = f j (xs.getD j 0) := by
  simp [List.getD_eq_getElem?_getD, h]
theorem saidN_in {t : Tbl} (h : tblOk t = true) (j : Nat) (x : Int) (hx : 0 ≤ x ∧ x ≤ 30) : x ≤ saidN t j x ∧ saidN t j x ≤ 60 ∧ ((saidOf t j).k = 1 → (saidOf t j).n ≤ saidN t j x) := by
  unfold saidN
  split
  · rename_i hk
    have := said_fixed h j hk
    exact ⟨Int.le_max_left .., Int.max_le.2 ⟨by omega, this.2⟩, fun _ => Int.le_max_right ..⟩
  · rename_i hk
    exact ⟨Int.le_refl _, by omega, fun h' => absurd h' hk⟩
theorem colLeast_ok {t : Tbl} (h : tblOk t = true) {k : Nat} (hy : GoodRows t k) : ∃ n : Nat, (gridL 400 t).2 = n ∧ (1 ≤ n ∧ n ≤ 90) ∧ (colLeastL 400 t).length = n ∧ (∀ x ∈ colLeastL 400 t, 0 ≤ x ∧ x ≤ 60) ∧
    (∀ c ∈ (gridL 400 t).1, CellAt t c ∧ (0 ≤ c.col ∧ 1 ≤ c.cols ∧ c.cols ≤ 4 ∧ c.col + c.cols ≤ n) ∧ leastT (textOf t c) ≤ wideG t.gap (someL (colLeastL 400 t) c.col c.cols)) ∧
    ∀ j < n, (saidOf t j).k = 1 → (saidOf t j).n ≤ (colLeastL 400 t).getD j 0 := by
  obtain ⟨n, hn, hn1, hcell, hcl⟩ := grid_need h hy 400 leastT_in
  have hg := (tblOk_parts h).2.2.1
  obtain ⟨⟨m1, m2⟩, m3⟩ := made_spec hg.1 (fun x hx => (hcell x hx).1)
  have hL : colLeastL 400 t = (made t.gap (fun c => leastT (textOf t c)) (gridL 400 t).1 n).mapIdx (saidN t) := by
    unfold colLeastL; rw [if_pos h, hn]; rfl
  generalize made t.gap (fun c => leastT (textOf t c)) (gridL 400 t).1 n = X at m1 m2 m3 hL
  have hlen : (colLeastL 400 t).length = n := by rw [hL, List.length_mapIdx, m1]
  have hat : ∀ j < n, X.getD j 0 ∈ X := fun j hj => by
    rw [List.getD_eq_getElem?_getD, List.getElem?_eq_getElem (by omega)]; exact List.getElem_mem _
  refine ⟨n, hn, hn1, hlen, fun x hx => ?_, fun c hc => ?_, fun j hj hk => ?_⟩
  · obtain ⟨j, hj, rfl⟩ := List.getElem_of_mem hx
    have hjn : j < n := by omega
    have e : (colLeastL 400 t)[j] = saidN t j (X.getD j 0) := by
      rw [← mapIdx_getD (saidN t) X j (by omega), ← hL, List.getD_eq_getElem?_getD, List.getElem?_eq_getElem hj]; rfl
    rw [e]
    have h1 := m2 _ (hat j hjn)
    have h2 := saidN_in h j _ h1
    omega
  · obtain ⟨⟨c1, c2, c3, c4, _⟩, hca, _⟩ := hcell c hc
    refine ⟨hca, ⟨c1, c2, c3, c4⟩, ?_⟩
    rw [wide_some hlen c1 c2 c4]
    have h1 := m3 c hc
    have h2 : winS X c.col.toNat c.cols.toNat ≤ winS (colLeastL 400 t) c.col.toNat c.cols.toNat := by
      refine winS_le (m1.trans hlen.symm) (fun j => ?_) _ _ (by omega)
      by_cases hj : j < n
      · rw [hL, mapIdx_getD _ _ _ (by omega)]
        exact (saidN_in h j _ (m2 _ (hat j hj))).1
      · simp [List.getD_eq_getElem?_getD, show X[j]? = none from by simp; omega, show (colLeastL 400 t)[j]? = none from by simp; omega]
    omega
  · rw [hL, mapIdx_getD _ _ _ (by omega)]
    exact (saidN_in h j _ (m2 _ (hat j hj))).2.2 hk
/-- Both sides have one list. -/
theorem colLeast_two {t : Tbl} {k : Nat} (hy : GoodRows t k) : colLeastL 90 t = colLeastL 400 t := by
  unfold colLeastL
  split
  · rename_i h
    rw [grid_one h hy]
  · rfl
end Go.Proofs.YtpfagdmmhgcmnaaGreatDoor

namespace Go.Proofs.YtpfagdmmhgcmnaaGreatDoor
open Go.RowKit
/- How wide some columns are together: among, some, WidCell. -/
set_option maxHeartbeats 1000000 in
theorem impl_among (i a k : Int) (w : World) (hi : 0 ≤ i ∧ i ≤ 1000000) (ha : 0 ≤ a ∧ a ≤ 1000000) (hk : 0 ≤ k ∧ k ≤ 1000000) :
    Calls Tryz.prog 113 #[.int .i64 i, .int .i64 a, .int .i64 k] w fun e w' => e = .returned (.bool (decide (a ≤ i ∧ i < a + k))) ∧ w' = w := by
  have t1 : IntKind.u64.wrap i = i := by rw [IntKind.wrap_u64]; omega
  have t2 : IntKind.u64.wrap a = a := by rw [IntKind.wrap_u64]; omega
  have t3 : IntKind.u64.wrap k = k := by rw [IntKind.wrap_u64]; omega
  obtain ⟨q, hq⟩ : ∃ q, decide (a ≤ i ∧ i < a + k) = q := ⟨_, rfl⟩
  rw [hq]
  have HQ := hide hq
  clear hq
  by_cases h1 : a ≤ i
  · by_cases h2 : 0 < k
    · have t4 : IntKind.u64.wrap (i - a) = i - a := by rw [IntKind.wrap_u64]; omega
      by_cases h3 : i - a < k
      · have hd := hide (show q = true by rw [← HQ.out]; simp; omega)
        go_enter Tryz.func113, Tryz.ntmps113
        go_wp2_with fail
        go_ret
        exact ⟨by rw [hd.out]; try rfl, rfl⟩
      · have hd := hide (show q = false by rw [← HQ.out]; simp; omega)
        go_enter Tryz.func113, Tryz.ntmps113
        go_wp2_with fail
        go_ret
        exact ⟨by rw [hd.out]; try rfl, rfl⟩
    · have hd := hide (show q = false by rw [← HQ.out]; simp; omega)
      go_enter Tryz.func113, Tryz.ntmps113
      go_wp2_with fail
      go_ret
      exact ⟨by rw [hd.out]; try rfl, rfl⟩
  · have hd := hide (show q = false by rw [← HQ.out]; simp; omega)
    go_enter Tryz.func113, Tryz.ntmps113
    go_wp2_with fail
    go_ret
    exact ⟨by rw [hd.out]; try rfl, rfl⟩
theorem some_in {xs : List Int} {j : Nat} {a k : Int} (h : j < xs.length) (ha : 0 ≤ a) (h1 : a ≤ j ∧ (j : Int) < a + k) : someL (xs.take j) a k ++ [xs.getD j 0] = someL (xs.take (j + 1)) a k := by
  unfold someL
  have e : xs.getD j 0 = xs[j] := by rw [List.getD_eq_getElem?_getD, List.getElem?_eq_getElem h]; rfl
  rw [e, List.take_succ_eq_append_getElem h, List.drop_append_of_le_length (by simp; omega), List.take_of_length_le (l := (xs.take j).drop a.toNat) (by simp; omega), List.take_of_length_le (l := (xs.take j).drop a.toNat ++ [xs[j]]) (by simp; omega)]
theorem some_out {xs : List Int} {j : Nat} {a k : Int} (h : j < xs.length) (ha : 0 ≤ a) (hk : 0 ≤ k) (h1 : ¬ (a ≤ j ∧ (j : Int) < a + k)) : someL (xs.take (j + 1)) a k = someL (xs.take j) a k := by
  unfold someL
  rw [List.take_succ_eq_append_getElem h]
  by_cases h2 : a ≤ j
  · rw [List.drop_append_of_le_length (by simp; omega), List.take_append_of_le_length (by simp; omega)]
  · rw [List.drop_eq_nil_of_le (by simp; omega), List.drop_eq_nil_of_le (by simp; omega)]
set_option maxRecDepth 100000 in
set_option maxHeartbeats 4000000 in
theorem impl_some (A : Option Addr) (c : Nat) (xs : List Int) (a k : Int) (w : World) (hr : Rd intR w A xs) (hn : xs.length ≤ 1000) (ha : 0 ≤ a ∧ a ≤ 1000000) (hk : 0 ≤ k ∧ k ≤ 1000000) :
    Calls Tryz.prog 66 #[.slice A xs.length c, .int .i64 a, .int .i64 k] w fun e w' => ∃ v, e = .returned v ∧ IOwn w' w.heap.size v (someL xs a k) ∧ Below w.heap.size w w' := by
  have HR := hide hr
  clear hr
  go_enter Tryz.func66, Tryz.ntmps66
  go_wp2_with fail
  go_loopg [7, 8, 9, 12] xs.length (fun gg s7 s8 s9 s12 wr => ∃ j : Nat, j ≤ xs.length ∧ xs.length - j ≤ gg ∧ s12 = .int .i64 j ∧ Aside (IOwn wr w.heap.size s7 (someL (xs.take j) a k)) ∧ Aside (Below w.heap.size w wr))
  case atStart => exact ⟨0, Nat.zero_le _, by omega, rfl, (show Aside _ from by rw [List.take_zero]; simp only [someL, List.drop_nil, List.take_nil]; exact IOwn.nil _ _), brefl _⟩
  case round =>
    obtain ⟨j, hj, hgg, rfl, HO, HB⟩ := hrel
    by_cases hlt : j < xs.length
    · have hltz : (j : Int) < (xs.length : Int) := by omega
      obtain ⟨b, o, c0, e, hlb, hK, hc⟩ := HR.out.at1 rfl HB.out j hlt
      have q : [c0] = [.int .i64 xs[j]] := hK
      simp only [List.cons.injEq, and_true] at q
      subst q
      subst e
      have e1 : xs[j] = xs.getD j 0 := by rw [List.getD_eq_getElem?_getD, List.getElem?_eq_getElem hlt]; rfl
      rw [e1] at hc
      clear hK e1
      have hA := impl_among j a k wr (by omega) ha hk
      by_cases h1 : a ≤ j ∧ (j : Int) < a + k
      · have HS := hide (some_in (xs := xs) hlt ha.1 h1)
        have hd : decide (a ≤ (j : Int) ∧ (j : Int) < a + k) = true := by simp; omega
        rw [hd] at hA
        generalize xs.getD j 0 = y at hc HS
        have hlen : (someL (xs.take j) a k).length ≤ 1000000 := by unfold someL; simp; omega
        have HLN := hide hlen
        clear h1 hd hlen
        go_wp2_with (first
          | (go_at_call 113; refine hA.mono ?_; rintro e9 w9 ⟨rfl, hw9⟩; obtain rfl := hw9.symm)
          | (at_builtin; refine wpList_append_int rfl (.tmp 21) (.tmp 23) rfl w.heap.size _ (someL (xs.take j) a k) rfl (HO.out.below (balloc (brefl _) _)) ⟨wr.heap.size, 0, none⟩ 1 y rfl (cell_new _ _ _ _ 0 _ rfl) HLN.out (by have := HB.out.size; simp; omega) ?_))
        intro v' w4 H1 H2 H3
        have HB2 : Hid (Below w.heap.size w w4) := (balloc HB.out (.cells #[.int .i64 y] 3)).trans (grown_below H2.out (by have := HB.out.size; simp; omega) (fun b hb => (HO.out.lt hb).1))
        rw [HS.out] at H1
        clear H2 H3 HB HO HS HLN hA
        go_wp2_with fail
        go_roundg (xs.length - (j + 1))
        case measure => omega
        case rel => exact ⟨j + 1, by omega, by omega, by go_num, H1.out, HB2.out⟩
      · have HS := hide (some_out (xs := xs) hlt ha.1 hk.1 h1)
        have hd : decide (a ≤ (j : Int) ∧ (j : Int) < a + k) = false := by simpa using h1
        rw [hd] at hA
        clear h1 hd
        go_wp2_with (go_at_call 113; refine hA.mono ?_; rintro e9 w9 ⟨rfl, hw9⟩; obtain rfl := hw9.symm)
        go_roundg (xs.length - (j + 1))
        case measure => omega
        case rel => exact ⟨j + 1, by omega, by omega, by go_num, (show Aside _ from by rw [HS.out]; exact HO.out), HB.out⟩
    · have hltz : ¬ (j : Int) < (xs.length : Int) := by omega
      have HS := hide (show someL (xs.take j) a k = someL xs a k by rw [List.take_of_length_le (by omega)])
      go_wp2_with fail
      go_ret
      exact ⟨_, rfl, by rw [← HS.out]; exact HO.out, HB.out⟩
set_option maxHeartbeats 2000000 in
theorem impl_WidCell (A : Option Addr) (c : Nat) (xs : List Int) (gap : Int) (x : GCell) (w : World) (hr : Rd intR w A xs) (hb : ∀ y ∈ xs, 0 ≤ y ∧ y ≤ 1000000) (hn : xs.length ≤ 1000) (hg : 0 ≤ gap ∧ gap ≤ 3) (ha : 0 ≤ x.col ∧ x.col ≤ 1000000) (hk : 0 ≤ x.cols ∧ x.cols ≤ 1000000) :
    Calls Tryz.prog 22 #[.slice A xs.length c, .int .i64 gap, .agg #[.int .i64 x.row, .int .i64 x.col, .int .i64 x.rows, .int .i64 x.cols, .int .i64 x.inn]] w fun e w' => e = .returned (.int .i64 (wideG gap (someL xs x.col x.cols))) ∧ Below w.heap.size w w' := by
  have hS := fun (W : World) (h : Below w.heap.size w W) => impl_some A c xs x.col x.cols W (hr.below h) hn ha hk
  have hsb : Hid (∀ y ∈ someL xs x.col x.cols, 0 ≤ y ∧ y ≤ 1000000) := fun y hy => hb y (List.mem_of_mem_drop (List.mem_of_mem_take hy))
  have hsl : (someL xs x.col x.cols).length ≤ 1000 := by unfold someL; simp; omega
  generalize someL xs x.col x.cols = ys at hS hsb hsl ⊢
  clear hr hb
  go_enter Tryz.func22, Tryz.ntmps22
  go_wp2_with fail
  refine (hS _ (balloc (brefl _) _)).mono ?_
  rintro e w1 ⟨v, rfl, hO, hb1⟩
  obtain ⟨A2, c2, rfl⟩ := hO.form
  have hW := impl_wide A2 c2 ys gap w1 (irow_rd hO) hsb.out hsl hg
  have HB := hide (step (balloc (brefl w) _) hb1)
  clear hO hb1 hS
  go_wp2_with fail
  refine hW.mono ?_
  rintro e w2 ⟨rfl, hb2⟩
  go_wp2_with fail
  go_ret
  exact ⟨rfl, step HB.out hb2⟩
end Go.Proofs.YtpfagdmmhgcmnaaGreatDoor

namespace Go.Proofs.YtpfagdmmhgcmnaaGreatDoor
open Go.RowKit
/- Two rows of numbers compared, a row's sum: the laws' own. -/
set_option maxRecDepth 100000 in
set_option maxHeartbeats 4000000 in
theorem laws_pwInts (A : Option Addr) (c : Nat) (A' : Option Addr) (c' : Nat) (xs : List Int) (w : World) (hr : Rd intR w A xs) (hr' : Rd intR w A' xs) (hn : xs.length ≤ 1000000) :
    Calls Tryz.prog 17 #[.slice A xs.length c, .slice A' xs.length c'] w fun e w' => e = .returned (.bool true) ∧ ∃ q, w' = w.drewN q := by
  have HR := hide hr
  have HR' := hide hr'
  clear hr hr'
  go_enter Tryz.func17, Tryz.ntmps17
  go_wp2_with fail
  go_loopg [5] xs.length (fun gg s5 wr => ∃ j : Nat, j ≤ xs.length ∧ xs.length - j ≤ gg ∧ s5 = .int .i64 j ∧ Aside (∃ q, wr = w.drewN q))
  case atStart => exact ⟨0, Nat.zero_le _, by omega, rfl, (show Aside _ from ⟨0, rfl⟩)⟩
  case round =>
    obtain ⟨j, hj, hgg, rfl, HQ⟩ := hrel
    obtain ⟨q, hq⟩ := HQ.out
    have hbw : Below w.heap.size w wr := by rw [hq]; exact bdrewN (brefl _) _
    by_cases hlt : j < xs.length
    · have hltz : (j : Int) < (xs.length : Int) := by omega
      obtain ⟨b, o, rfl, hlb, hc⟩ := rd_int HR.out hbw j hlt
      obtain ⟨b', o', rfl, hlb', hc'⟩ := rd_int HR'.out hbw j hlt
      generalize xs.getD j 0 = y at hc hc'
      have HQ' := hide hq
      clear hq hbw HQ
      go_wp2_with fail
      go_quiet (fail)
      go_wp2_with fail
      go_roundg (xs.length - (j + 1))
      case measure => omega
      case rel => exact ⟨j + 1, by omega, by omega, by go_num, (show Aside _ from ⟨_, by rw [HQ'.out, World.drewN_drewN]⟩)⟩
    · have hltz : ¬ (j : Int) < (xs.length : Int) := by omega
      have HQ' := hide hq
      clear hq hbw HQ
      go_wp2_with fail
      go_ret
      exact ⟨rfl, q, HQ'.out⟩
set_option maxHeartbeats 1000000 in
theorem laws_pwSum (A : Option Addr) (c : Nat) (xs : List Int) (w : World) (hr : Rd intR w A xs) (hb : ∀ x ∈ xs, 0 ≤ x ∧ x ≤ 1000000) (hn : xs.length ≤ 1000000) :
    Calls Tryz.prog 39 #[.slice A xs.length c] w (fun e w' => e = .returned (.int .i64 (sumI xs)) ∧ w' = w) := by
  have HR := hide hr
  have HB := hide hb
  clear hr hb
  go_enter Tryz.func39, Tryz.ntmps39
  go_wp2_with fail
  go_loopg [3, 4] xs.length (fun gg s3 s4 wr => ∃ kk : Nat, kk ≤ xs.length ∧ xs.length - kk ≤ gg ∧ s3 = .int .i64 (sumI (xs.take kk)) ∧ s4 = .int .i64 kk ∧ wr = w)
  case atStart => exact ⟨0, Nat.zero_le _, by omega, by simp [sumI_nil], rfl, rfl⟩
  case round =>
    obtain ⟨kk, hkk, hg, rfl, rfl, rfl⟩ := hrel
    by_cases hlt : kk < xs.length
    · have hltz : (kk : Int) < (xs.length : Int) := by omega
      obtain ⟨b, o, rfl, hlb, hcell⟩ := rd_int HR.out (brefl _) kk hlt
      have hs := hide (sum_take xs kk hlt)
      have hb1 := sum_bound HB.out kk
      have hb2 := int_at HB.out kk hlt
      generalize sumI (xs.take kk) = s at hs hb1 ⊢
      generalize xs.getD kk 0 = y at hs hcell hb2
      have t1 : IntKind.i64.wrap (s + y) = s + y := by rw [IntKind.wrap_i64]; omega
      go_wp2_with fail
      go_roundg (xs.length - (kk + 1))
      case measure => omega
      case rel => exact ⟨kk + 1, by omega, by omega, by rw [hs.out], by go_num, rfl⟩
    · have hltz : ¬ (kk : Int) < (xs.length : Int) := by omega
      have hk : kk = xs.length := by omega
      have hs := hide (show sumI (xs.take kk) = sumI xs by rw [hk, List.take_length])
      clear hk
      go_wp2_with fail
      go_ret
      exact ⟨by rw [hs.out]; rfl, rfl⟩
end Go.Proofs.YtpfagdmmhgcmnaaGreatDoor

namespace Go.Proofs.YtpfagdmmhgcmnaaGreatDoor
open Go.RowKit
/- The draws of the laws over bytes: a table by itself. -/
theorem laws_pwOk (w : World) (hw : Base w) : Calls Tryz.prog 20 #[] w fun e w' => e = .returned (.bool true) ∧ Below w.heap.size w w' := by
  have hT := impl_TxtOk ⟨#[97, 98, 32, 99]⟩ w (by decide) hw
  have ht : txOk ⟨#[97, 98, 32, 99]⟩ = true := by decide
  rw [ht] at hT
  go_enter Tryz.func20, Tryz.ntmps20
  go_wp2_with fail
  refine hT.mono ?_
  rintro e w' ⟨rfl, hb⟩
  go_wp2_with fail
  go_ret
  exact ⟨rfl, hb⟩
theorem BlockAt.below {W W' : World} {C : Nat} {cs : List Value} (h : BlockAt W C cs) (hC : C < W.heap.size) (hb : Below W.heap.size W W') : BlockAt W' C cs := h.keep (hb.block C hC)
set_option maxRecDepth 100000 in
set_option maxHeartbeats 4000000 in
theorem spec_DrawColLeast (A : Option Addr) (n c : Nat) (w : World) (h : BytesAt w A n c) : Calls Tryz.prog 15 #[.slice A n c] w (DrawT w) := by
  have HA := hide h
  clear h
  go_enter Tryz.func15, Tryz.ntmps15
  go_wp2_with fail
  refine (rdOpen A n c _ (HA.out.below (balloc (brefl w) _))).mono ?_
  rintro e W1 ⟨R, rfl, hR0, hR1, hb1⟩
  have hR0' : w.heap.size < R := by simp at hR0; omega
  have HB1 := hide (step (balloc (brefl w) (.cells #[.slice none 0 0, .int .i64 0, .int .i64 0, .slice none 0 0, .int .i64 0] 26)) hb1)
  have HZ1 := hide ((BlockAt.new w zeros5 26).keep (hb1.block w.heap.size (by simp)))
  have hRl := hR1.lt
  have HR1 := hide hR1
  clear hR0 hR1 hb1
  go_wp2_with fail
  refine (rdAnyTable R 0 16 _ HR1.out (by decide) (by decide) (by decide)).mono ?_
  rintro e W2 ⟨t, vc, vr, rfl, htb, hR2, hg2, hO2⟩
  obtain ⟨⟨Ac, kc, rfl⟩, Ar, kr, rfl⟩ := hO2.form
  have HT := hide htb
  have HB2 := hide (below_row HB1.out hg2 (by omega))
  have HZ2 := hide (HZ1.out.keep (grow_blk hg2 (by omega) (by omega)))
  have HO2 := hide hO2
  clear htb hR2 hg2 hO2
  have h0 : W2.cell? ⟨w.heap.size, 0, none⟩ = some (.slice none 0 0) := HZ2.out.1 0 _ rfl
  have h1 : W2.cell? ⟨w.heap.size, 1, none⟩ = some (.int .i64 0) := HZ2.out.1 1 _ rfl
  have h2 : W2.cell? ⟨w.heap.size, 2, none⟩ = some (.int .i64 0) := HZ2.out.1 2 _ rfl
  have h3 : W2.cell? ⟨w.heap.size, 3, none⟩ = some (.slice none 0 0) := HZ2.out.1 3 _ rfl
  have h4 : W2.cell? ⟨w.heap.size, 4, none⟩ = some (.int .i64 0) := HZ2.out.1 4 _ rfl
  have hf := HZ2.out.2
  go_wp2_with fail
  exact bodyPost_ret (v := .agg #[.slice Ac t.cols.length kc, .int .i64 t.head, .int .i64 t.foot, .slice Ar t.rows.length kr, .int .i64 t.gap]) (by simp [results, Tryz.results15, go_sem, *]) rfl (drawT (out5 HB2.out HO2.out (by omega) _ _ _ _ _) HT.out)
set_option maxRecDepth 100000 in
set_option maxHeartbeats 4000000 in
theorem spec_DrawColFloor (A : Option Addr) (n c : Nat) (w : World) (h : BytesAt w A n c) : Calls Tryz.prog 36 #[.slice A n c] w (DrawT w) := by
  have HA := hide h
  clear h
  go_enter Tryz.func36, Tryz.ntmps36
  go_wp2_with fail
  refine (rdOpen A n c _ (HA.out.below (balloc (brefl w) _))).mono ?_
  rintro e W1 ⟨R, rfl, hR0, hR1, hb1⟩
  have hR0' : w.heap.size < R := by simp at hR0; omega
  have HB1 := hide (step (balloc (brefl w) (.cells #[.slice none 0 0, .int .i64 0, .int .i64 0, .slice none 0 0, .int .i64 0] 26)) hb1)
  have HZ1 := hide ((BlockAt.new w zeros5 26).keep (hb1.block w.heap.size (by simp)))
  have hRl := hR1.lt
  have HR1 := hide hR1
  clear hR0 hR1 hb1
  go_wp2_with fail
  refine (rdAnyTable R 0 16 _ HR1.out (by decide) (by decide) (by decide)).mono ?_
  rintro e W2 ⟨t, vc, vr, rfl, htb, hR2, hg2, hO2⟩
  obtain ⟨⟨Ac, kc, rfl⟩, Ar, kr, rfl⟩ := hO2.form
  have HT := hide htb
  have HB2 := hide (below_row HB1.out hg2 (by omega))
  have HZ2 := hide (HZ1.out.keep (grow_blk hg2 (by omega) (by omega)))
  have HO2 := hide hO2
  clear htb hR2 hg2 hO2
  have h0 : W2.cell? ⟨w.heap.size, 0, none⟩ = some (.slice none 0 0) := HZ2.out.1 0 _ rfl
  have h1 : W2.cell? ⟨w.heap.size, 1, none⟩ = some (.int .i64 0) := HZ2.out.1 1 _ rfl
  have h2 : W2.cell? ⟨w.heap.size, 2, none⟩ = some (.int .i64 0) := HZ2.out.1 2 _ rfl
  have h3 : W2.cell? ⟨w.heap.size, 3, none⟩ = some (.slice none 0 0) := HZ2.out.1 3 _ rfl
  have h4 : W2.cell? ⟨w.heap.size, 4, none⟩ = some (.int .i64 0) := HZ2.out.1 4 _ rfl
  have hf := HZ2.out.2
  go_wp2_with fail
  exact bodyPost_ret (v := .agg #[.slice Ac t.cols.length kc, .int .i64 t.head, .int .i64 t.foot, .slice Ar t.rows.length kr, .int .i64 t.gap]) (by simp [results, Tryz.results36, go_sem, *]) rfl (drawT (out5 HB2.out HO2.out (by omega) _ _ _ _ _) HT.out)
end Go.Proofs.YtpfagdmmhgcmnaaGreatDoor

namespace Go.Proofs.YtpfagdmmhgcmnaaGreatDoor
open Go.RowKit
/- What the columns of a drawn table need at least: the statement's own walk. -/
theorem colLeast_len {t : Tbl} {k : Nat} (hy : GoodRows t k) : (colLeastL 400 t).length ≤ 90 ∧ ∀ x ∈ colLeastL 400 t, 0 ≤ x ∧ x ≤ 60 := by
  cases h : tblOk t with
  | false => unfold colLeastL; rw [h]; exact ⟨Nat.zero_le _, fun x hx => by cases hx⟩
  | true =>
    obtain ⟨n, h1, h2, h3, h4, _⟩ := colLeast_ok h hy
    exact ⟨by omega, h4⟩
theorem text_size {t : Tbl} (h : ∀ r ∈ t.rows, ∀ c ∈ r.cs, c.t.size ≤ 1048576) {x : GCell} (hx : CellAt t x) : (textOf t x).size ≤ 1048576 := by
  have h1 : x.row.toNat < t.rows.length := by have := hx.1; omega
  have hrow : t.rows.getD x.row.toNat default ∈ t.rows := by
    rw [List.getD_eq_getElem?_getD, List.getElem?_eq_getElem h1]; exact List.getElem_mem h1
  have h2 : x.inn.toNat < (t.rows.getD x.row.toNat default).cs.length := by have := hx.2; omega
  refine h _ hrow _ ?_
  rw [List.getD_eq_getElem?_getD (l := (t.rows.getD x.row.toNat default).cs), List.getElem?_eq_getElem h2]; exact List.getElem_mem h2
set_option linter.unusedSimpArgs false in
set_option maxRecDepth 100000 in
set_option maxHeartbeats 40000000 in
theorem law_FnColLeast (A : Option Addr) (n c : Nat) (w : World) (hw : Base w) (h : BytesAt w A n c) :
    Calls Tryz.prog 3 #[.slice A n c] w fun e w' => e = .returned (.bool true) ∧ Below w.heap.size w w' := by
  have hD := spec_DrawColLeast A n c w h
  have HW := hide hw
  have hn1 := h.1
  clear h hw
  by_cases hb1 : (1048576 : Int) < n
  · clear hD
    go_enter Tryz.func3, Tryz.ntmps3
    go_wp2_with fail
    go_ret
    exact ⟨rfl, brefl w⟩
  go_enter Tryz.func3, Tryz.ntmps3
  go_wp2_with fail
  refine hD.mono ?_
  rintro e W1 ⟨t, vc, vr, rfl, htb, hO1, hB1⟩
  obtain ⟨⟨Ac, kc, rfl⟩, Ar, kr, rfl⟩ := hO1.form
  obtain ⟨k, hy⟩ := htb.good
  have hs1 : w.heap.size ≤ W1.heap.size := hB1.size
  have HY := hide hy
  obtain ⟨V1, hV1⟩ : ∃ V, V = W1.alloc (.cells #[.slice Ac t.cols.length kc, .int .i64 t.head, .int .i64 t.foot, .slice Ar t.rows.length kr, .int .i64 t.gap] 26) := ⟨_, rfl⟩
  have hK1 : BlockAt V1 W1.heap.size [.slice Ac t.cols.length kc, .int .i64 t.head, .int .i64 t.foot, .slice Ar t.rows.length kr, .int .i64 t.gap] := by rw [hV1]; exact BlockAt.new W1 _ _
  have hz1 : V1.heap.size = W1.heap.size + 1 := by rw [hV1]; simp
  have HB1 : Hid (Below w.heap.size w V1) := by rw [hV1]; exact balloc hB1 _
  have HC1 : Hid (Rd colR V1 Ac t.cols) := by rw [hV1]; exact hO1.rdc.below (balloc (brefl _) _)
  have HR1 : Hid (Rd rowR V1 Ar t.rows) := by rw [hV1]; exact (hO1.rdr (any_sized htb)).below (balloc (brefl _) _)
  have hE1 := impl_ColLeast t Ac kc Ar kr V1 (HW.out.below HB1.out) HC1.out HR1.out hy
  have hln := colLeast_len hy
  have htw := colLeast_two hy
  have HT := hide htb
  have HV := hide hV1
  clear hD htb hO1 hB1 hy hV1
  obtain ⟨L, hL⟩ : ∃ L, colLeastL 400 t = L := ⟨_, rfl⟩
  rw [hL] at hE1 hln htw
  have HL := hide hL
  have HLN := hide hln
  have f0 := hK1.1 0 _ rfl
  have f1 := hK1.1 1 _ rfl
  have f2 := hK1.1 2 _ rfl
  have f3 := hK1.1 3 _ rfl
  have f4 := hK1.1 4 _ rfl
  have HK1 := hide hK1
  clear hL hln hK1
  go_wp2_with fail
  rw [← HV.out]
  refine hE1.mono ?_
  rintro e W2 ⟨v, rfl, hI2, hb2⟩
  obtain ⟨AL, cL, rfl⟩ := hI2.form
  have HI2 := hide hI2
  have hK2 := HK1.out.below (by omega) hb2
  have HB2 := hide (step HB1.out hb2)
  have HC2 := hide (HC1.out.below hb2)
  have HR2 := hide (HR1.out.below hb2)
  have hz2 : W1.heap.size < W2.heap.size := by have := hb2.size; omega
  have hE2 := spec_ColLeast t Ac kc Ar kr W2 HC2.out HR2.out HY.out
  rw [htw] at hE2
  have g0 := hK2.1 0 _ rfl
  have g1 := hK2.1 1 _ rfl
  have g2 := hK2.1 2 _ rfl
  have g3 := hK2.1 3 _ rfl
  have g4 := hK2.1 4 _ rfl
  have HK2 := hide hK2
  clear f0 f1 f2 f3 f4 hI2 hb2 hE1 hK2 HV
  go_wp2_with fail
  refine hE2.mono ?_
  rintro e W3 ⟨v, rfl, hI3, hb3⟩
  obtain ⟨AM, cM, rfl⟩ := hI3.form
  have HI3 := hide (HI2.out.below hb3)
  have hP := laws_pwInts AL cL AM cM L W3 (irow_rd HI3.out) (irow_rd hI3) (by have := HLN.out.1; omega)
  have HB3 := hide (step HB2.out hb3)
  have HC3 := hide (HC2.out.below hb3)
  have HR3 := hide (HR2.out.below hb3)
  have HK3 := hide (HK2.out.below hz2 hb3)
  have hz3 : W1.heap.size < W3.heap.size := by have := hb3.size; omega
  clear g0 g1 g2 g3 g4 hI3 hb3 hE2 htw
  go_wp2_with fail
  refine hP.mono ?_
  rintro e W4 ⟨rfl, q, hq⟩
  have hb4 : Below W3.heap.size W3 W4 := by rw [hq]; exact bdrewN (brefl _) _
  have HI4 := hide (HI3.out.below hb4)
  have HB4 := hide (step HB3.out hb4)
  have HC4 := hide (HC3.out.below hb4)
  have HR4 := hide (HR3.out.below hb4)
  have hK4 := HK3.out.below hz3 hb4
  have hz4 : W1.heap.size < W4.heap.size := by have := hb4.size; omega
  have hO4 := spec_TblOk t Ac kc Ar kr W4 HC4.out HR4.out
  have g0 := hK4.1 0 _ rfl
  have g1 := hK4.1 1 _ rfl
  have g2 := hK4.1 2 _ rfl
  have g3 := hK4.1 3 _ rfl
  have g4 := hK4.1 4 _ rfl
  have HK4 := hide hK4
  clear hq hb4 hP hK4
  cases hok : tblOk t with
  | false =>
    rw [hok] at hO4
    have hnil : L = [] := by rw [← HL.out]; unfold colLeastL; rw [hok]; rfl
    have hl0 : L.length = 0 := by rw [hnil]; rfl
    rw [hl0]
    clear hok hnil
    go_wp2_with fail
    refine hO4.mono ?_
    rintro e W5 ⟨rfl, hb5⟩
    have HB5 := hide (step HB4.out hb5)
    have hPW := laws_pwOk W5 (HW.out.below HB5.out)
    clear g0 g1 g2 g3 g4 hO4 hb5
    go_wp2_with fail
    refine hPW.mono ?_
    rintro e W6 ⟨rfl, hb6⟩
    go_wp2_with fail
    go_ret
    exact ⟨rfl, step HB5.out hb6⟩
  | true =>
    rw [hok] at hO4
    obtain ⟨m, hm, hm1, hlm, hbd, hcells, hsaid⟩ := colLeast_ok hok HY.out
    rw [HL.out] at hlm hbd hcells hsaid
    have hsm : Hid (∀ x ∈ (gridL 400 t).1, GSm x) := (GIn.rows (m := 400) hok).sm (by omega)
    have hgr : gridOf 400 t = ⟨t.rows.length, (gridL 400 t).2, (gridL 400 t).1⟩ := by unfold gridOf; rw [if_pos hok]
    have HCS := hide hcells
    have HSA := hide hsaid
    have HBD := hide hbd
    have hgap := (tblOk_parts hok).2.2.1
    have HOK := hide hok
    clear hcells hsaid hbd hok
    go_wp2_with fail
    refine hO4.mono ?_
    rintro e W5 ⟨rfl, hb5⟩
    have HI5 := hide (HI4.out.below hb5)
    have HB5 := hide (step HB4.out hb5)
    have HC5 := hide (HC4.out.below hb5)
    have HR5 := hide (HR4.out.below hb5)
    have hK5 := HK4.out.below hz4 hb5
    have hz5 : W1.heap.size < W5.heap.size := by have := hb5.size; omega
    have hG := impl_GrdOf t Ac kc Ar kr W5 (HW.out.below HB5.out) HC5.out HR5.out
    rw [hgr, hm] at hG
    obtain ⟨GL, hGL⟩ : ∃ GL, (gridL 400 t).1 = GL := ⟨_, rfl⟩
    obtain ⟨_, _, _, _, hgl⟩ := grid_need HOK.out HY.out 400 leastT_in
    rw [hGL] at hG hsm HCS hgl
    have g0 := hK5.1 0 _ rfl
    have g1 := hK5.1 1 _ rfl
    have g2 := hK5.1 2 _ rfl
    have g3 := hK5.1 3 _ rfl
    have g4 := hK5.1 4 _ rfl
    have HK5 := hide hK5
    clear hO4 hb5 hK5 hGL hgr hm
    go_wp2_with fail
    refine hG.mono ?_
    rintro e W6 ⟨GA, gc, rfl, hown, hb6⟩
    dsimp only at hown ⊢
    have hrd6 := grd_rd hown hsm.out
    obtain ⟨V, hV⟩ : ∃ V, V = W6.alloc (.cells #[.int .i64 t.rows.length, .int .i64 m, .slice GA GL.length gc] 35) := ⟨_, rfl⟩
    have eV : Below W6.heap.size W6 V := by rw [hV]; exact balloc (brefl _) _
    have hzV : V.heap.size = W6.heap.size + 1 := by rw [hV]; simp
    have hz6 : W5.heap.size ≤ W6.heap.size := hb6.size
    have HG := hide (hrd6.below eV)
    have HI := hide ((HI5.out.below hb6).below eV)
    have HB := hide (step (step HB5.out hb6) eV)
    have HC := hide ((HC5.out.below hb6).below eV)
    have HR := hide ((HR5.out.below hb6).below eV)
    have hKT := (HK5.out.below hz5 hb6).below (by omega) eV
    have hKG : BlockAt V W6.heap.size [.int .i64 t.rows.length, .int .i64 m, .slice GA GL.length gc] := by rw [hV]; exact BlockAt.new W6 _ _
    have HKT := hide hKT
    have HKG := hide hKG
    have HV := hide hV
    clear g0 g1 g2 g3 g4 hb6 eV hown hrd6 hKT hKG hV hG
    go_wp2_with fail
    rw [← HV.out]
    clear HV
    have HHD := hide hgl
    clear hgl
    go_loopg [6] GL.length (fun gg s6 wr => ∃ jx : Nat, jx ≤ GL.length ∧ GL.length - jx ≤ gg ∧ s6 = .int .i64 jx ∧ Aside (Below V.heap.size V wr))
    case atStart => exact ⟨0, Nat.zero_le _, by omega, rfl, brefl _⟩
    case round =>
      obtain ⟨jx, hj, hgg, rfl, HBR⟩ := hrel
      have hKTr := HKT.out.below (by omega) HBR.out
      have hKGr := HKG.out.below (by omega) HBR.out
      have g2 := hKGr.1 2 _ rfl
      by_cases hlt : jx < GL.length
      · have hltz : (jx : Int) < (GL.length : Int) := by omega
        obtain ⟨gb, go, x0, x1, x2, x3, x4, rfl, hgbl, ⟨ex, hsmx⟩, k0, k1, k2, k3, k4⟩ := HG.out.at5 rfl HBR.out jx hlt
        have hcx := HCS.out _ (List.getElem_mem hlt)
        obtain ⟨x, hx⟩ : ∃ x, GL[jx] = x := ⟨_, rfl⟩
        rw [hx] at ex hcx
        have q : [x0, x1, x2, x3, x4] = [.int .i64 x.row, .int .i64 x.col, .int .i64 x.rows, .int .i64 x.cols, .int .i64 x.inn] := ex
        simp only [List.cons.injEq, and_true] at q
        obtain ⟨rfl, rfl, rfl, rfl, rfl⟩ := q
        have HCX := hide hcx
        have HKTr := hide hKTr
        have HKGr := hide hKGr
        clear ex hx hcx hsmx hKTr hKGr
        go_wp2_with fail
        have ed := bdrew (brefl wr)
        have HBD := hide (bdrew HBR.out)
        have z0 : wr.drew.cell? ⟨W1.heap.size, 0, none⟩ = some (.slice Ac t.cols.length kc) := keepW ed (HKTr.out.1 0 _ rfl)
        have z1 : wr.drew.cell? ⟨W1.heap.size, 1, none⟩ = some (.int .i64 t.head) := keepW ed (HKTr.out.1 1 _ rfl)
        have z2 : wr.drew.cell? ⟨W1.heap.size, 2, none⟩ = some (.int .i64 t.foot) := keepW ed (HKTr.out.1 2 _ rfl)
        have z3 : wr.drew.cell? ⟨W1.heap.size, 3, none⟩ = some (.slice Ar t.rows.length kr) := keepW ed (HKTr.out.1 3 _ rfl)
        have z4 : wr.drew.cell? ⟨W1.heap.size, 4, none⟩ = some (.int .i64 t.gap) := keepW ed (HKTr.out.1 4 _ rfl)
        have y2 := keepW ed g2
        have q0 := keepW ed k0
        have q1 := keepW ed k1
        have q2 := keepW ed k2
        have q3 := keepW ed k3
        have q4 := keepW ed k4
        have HWC : Hid (∀ W, Below wr.drew.heap.size wr.drew W → Calls Tryz.prog 22 #[.slice AL m cL, .int .i64 t.gap, .agg #[.int .i64 x.row, .int .i64 x.col, .int .i64 x.rows, .int .i64 x.cols, .int .i64 x.inn]] W fun e w' => e = .returned (.int .i64 (wideG t.gap (someL L x.col x.cols))) ∧ Below W.heap.size W w') := fun W h =>
          by rw [← hlm]; exact impl_WidCell AL cL L t.gap x W (irow_rd (HI.out.below (step HBD.out h))) (fun y hy => by have := HLN.out.2 y hy; omega) (by have := HLN.out.1; omega) hgap (by have := HCX.out.2.1; omega) (by have := HCX.out.2.1; omega)
        have HPT : Hid (∀ W, Below wr.drew.heap.size wr.drew W → Calls Tryz.prog 24 #[.agg #[.slice Ac t.cols.length kc, .int .i64 t.head, .int .i64 t.foot, .slice Ar t.rows.length kr, .int .i64 t.gap], .agg #[.int .i64 x.row, .int .i64 x.col, .int .i64 x.rows, .int .i64 x.cols, .int .i64 x.inn]] W fun e w' => e = .returned (.string (textOf t x)) ∧ Below W.heap.size W w') := fun W h =>
          laws_pwText t Ac kc Ar kr x W (HR.out.below (step HBD.out h)) HCX.out.1
        have hsz : (textOf t x).size ≤ 1048576 := text_size (any_sized HT.out) HCX.out.1
        have HTL : Hid (∀ W, Below wr.drew.heap.size wr.drew W → Calls Tryz.prog 23 #[.string (textOf t x)] W fun e w' => e = .returned (.int .i64 (leastT (textOf t x))) ∧ Below W.heap.size W w') := fun W h =>
          impl_TxtLeast (textOf t x) W hsz (HW.out.below (step HB.out (step HBD.out h)))
        have hle := HCX.out.2.2
        obtain ⟨wd, hwd⟩ : ∃ wd, wideG t.gap (someL L x.col x.cols) = wd := ⟨_, rfl⟩
        obtain ⟨tx, htx⟩ : ∃ tx, textOf t x = tx := ⟨_, rfl⟩
        obtain ⟨lt, hlt9⟩ : ∃ lt, leastT tx = lt := ⟨_, rfl⟩
        rw [hwd] at HWC hle
        rw [htx] at HPT HTL hle
        rw [hlt9] at HTL hle
        have hd : decide (wd < lt) = false := by simp; omega
        clear hwd htx hlt9 hsz hle ed k0 k1 k2 k3 k4 g2
        obtain ⟨vals, hvals⟩ : ∃ f : Nat → Value, f = (fun j => match j with | 0 => .slice AL m cL | 1 => .pointer (some ⟨W1.heap.size, 4, none⟩) | 2 => .int .i64 t.gap | 3 => .pointer (some ⟨W6.heap.size, 2, none⟩) | 4 => .slice (some ⟨gb, go, none⟩) GL.length gc | 5 => .int .i64 ↑jx | 6 => .pointer (some ⟨gb, go + jx * 5, none⟩) | 7 => .agg #[.int .i64 x.row, .int .i64 x.col, .int .i64 x.rows, .int .i64 x.cols, .int .i64 x.inn] | 8 => .int .i64 wd | 9 => .agg #[.slice Ac t.cols.length kc, .int .i64 t.head, .int .i64 t.foot, .slice Ar t.rows.length kr, .int .i64 t.gap] | 10 => .pointer (some ⟨W6.heap.size, 2, none⟩) | 11 => .slice (some ⟨gb, go, none⟩) GL.length gc | 12 => .int .i64 ↑jx | 13 => .pointer (some ⟨gb, go + jx * 5, none⟩) | 14 => .agg #[.int .i64 x.row, .int .i64 x.col, .int .i64 x.rows, .int .i64 x.cols, .int .i64 x.inn] | 15 => .string tx | 16 => .int .i64 lt | 17 => .bool false | _ => undef) := ⟨_, rfl⟩
        have e0 : vals 0 = .slice AL m cL := congrFun hvals 0
        have e1 : vals 1 = .pointer (some ⟨W1.heap.size, 4, none⟩) := congrFun hvals 1
        have e2 : vals 2 = .int .i64 t.gap := congrFun hvals 2
        have e3 : vals 3 = .pointer (some ⟨W6.heap.size, 2, none⟩) := congrFun hvals 3
        have e4 : vals 4 = .slice (some ⟨gb, go, none⟩) GL.length gc := congrFun hvals 4
        have e5 : vals 5 = .int .i64 ↑jx := congrFun hvals 5
        have e6 : vals 6 = .pointer (some ⟨gb, go + jx * 5, none⟩) := congrFun hvals 6
        have e7 : vals 7 = .agg #[.int .i64 x.row, .int .i64 x.col, .int .i64 x.rows, .int .i64 x.cols, .int .i64 x.inn] := congrFun hvals 7
        have e8 : vals 8 = .int .i64 wd := congrFun hvals 8
        have e9 : vals 9 = .agg #[.slice Ac t.cols.length kc, .int .i64 t.head, .int .i64 t.foot, .slice Ar t.rows.length kr, .int .i64 t.gap] := congrFun hvals 9
        have e10 : vals 10 = .pointer (some ⟨W6.heap.size, 2, none⟩) := congrFun hvals 10
        have e11 : vals 11 = .slice (some ⟨gb, go, none⟩) GL.length gc := congrFun hvals 11
        have e12 : vals 12 = .int .i64 ↑jx := congrFun hvals 12
        have e13 : vals 13 = .pointer (some ⟨gb, go + jx * 5, none⟩) := congrFun hvals 13
        have e14 : vals 14 = .agg #[.int .i64 x.row, .int .i64 x.col, .int .i64 x.rows, .int .i64 x.cols, .int .i64 x.inn] := congrFun hvals 14
        have e15 : vals 15 = .string tx := congrFun hvals 15
        have e16 : vals 16 = .int .i64 lt := congrFun hvals 16
        have e17 : vals 17 = .bool false := congrFun hvals 17
        clear hvals
        refine wp_region_inv (fun l a W => ∃ vs : Nat → Value, a = ⟨List.toArray (.slice A n c :: undef :: u2 :: .pointer (some ⟨W1.heap.size, 0, none⟩) :: .slice AL m cL :: .pointer (some ⟨W6.heap.size, 0, none⟩) :: .int .i64 ↑jx :: undef :: undef :: .slice A n c :: .int .i64 ↑n :: .bool false :: .slice A n c :: .agg #[.slice Ac t.cols.length kc, .int .i64 t.head, .int .i64 t.foot, .slice Ar t.rows.length kr, .int .i64 t.gap] :: .agg #[.slice Ac t.cols.length kc, .int .i64 t.head, .int .i64 t.foot, .slice Ar t.rows.length kr, .int .i64 t.gap] :: .slice AL m cL :: .slice AL m cL :: .agg #[.slice Ac t.cols.length kc, .int .i64 t.head, .int .i64 t.foot, .slice Ar t.rows.length kr, .int .i64 t.gap] :: .slice AM m cM :: .bool true :: .bool false :: .agg #[.slice Ac t.cols.length kc, .int .i64 t.head, .int .i64 t.foot, .slice Ar t.rows.length kr, .int .i64 t.gap] :: .bool true :: .bool false :: undef :: undef :: undef :: undef :: undef :: undef :: .agg #[.slice Ac t.cols.length kc, .int .i64 t.head, .int .i64 t.foot, .slice Ar t.rows.length kr, .int .i64 t.gap] :: .agg #[.int .i64 ↑t.rows.length, .int .i64 ↑m, .slice (some ⟨gb, go, none⟩) GL.length gc] :: .int .i64 ↑jx :: .pointer (some ⟨W6.heap.size, 2, none⟩) :: .slice (some ⟨gb, go, none⟩) GL.length gc :: .int .i64 ↑GL.length :: .bool true :: u37 :: u38 :: vs 0 :: vs 1 :: vs 2 :: vs 3 :: vs 4 :: vs 5 :: vs 6 :: vs 7 :: vs 8 :: vs 9 :: vs 10 :: vs 11 :: vs 12 :: vs 13 :: vs 14 :: vs 15 :: vs 16 :: vs 17 :: undef :: undef :: undef :: undef :: undef :: undef :: undef :: undef :: undef :: undef :: undef :: undef :: undef :: undef :: undef :: undef :: undef :: undef :: undef :: undef :: undef :: undef :: undef :: undef :: undef :: undef :: undef :: undef :: undef :: undef :: undef :: undef :: undef :: []), []⟩ ∧ BMid vals 18 (wr.drew) l vs W) (by kernel_rfl) ?top ?start ?step ?fin
        case top =>
          clear e0 e1 e2 e3 e4 e5 e6 e7 e8 e9 e10 e11 e12 e13 e14 e15 e16 e17
          intro j o ho e he
          have hj : j < 18 := (Array.getElem?_eq_some_iff.1 ho).1
          have hA : (o.after.all fun e => decide (e.on < j)) = true := by
            obtain rfl | rfl | rfl | rfl | rfl | rfl | rfl | rfl | rfl | rfl | rfl | rfl | rfl | rfl | rfl | rfl | rfl | rfl : j = 0 ∨ j = 1 ∨ j = 2 ∨ j = 3 ∨ j = 4 ∨ j = 5 ∨ j = 6 ∨ j = 7 ∨ j = 8 ∨ j = 9 ∨ j = 10 ∨ j = 11 ∨ j = 12 ∨ j = 13 ∨ j = 14 ∨ j = 15 ∨ j = 16 ∨ j = 17 := by omega
            all_goals
              simp only [List.getElem?_toArray, List.getElem?_cons_zero, List.getElem?_cons_succ, Option.some.injEq] at ho
              subst ho
              first | decide | kernel_rfl | simp
          simpa using Array.all_eq_true'.1 hA e he
        case start => exact ⟨(fun j => match j with | 0 => u39 | 1 => u40 | 2 => u41 | 3 => u42 | 4 => u43 | 5 => u44 | 6 => u45 | 7 => u46 | 8 => u47 | 9 => u48 | 10 => u49 | 11 => u50 | 12 => u51 | 13 => u52 | 14 => u53 | 15 => u54 | 16 => u55 | 17 => u56 | _ => undef), rfl, BMid.start⟩
        case step =>
          rintro l a W i o ho hl hpre hsz ⟨vs, rfl, hM⟩ K hK
          have hi : i < 18 := (Array.getElem?_eq_some_iff.1 ho).1
          obtain rfl | rfl | rfl | rfl | rfl | rfl | rfl | rfl | rfl | rfl | rfl | rfl | rfl | rfl | rfl | rfl | rfl | rfl : i = 0 ∨ i = 1 ∨ i = 2 ∨ i = 3 ∨ i = 4 ∨ i = 5 ∨ i = 6 ∨ i = 7 ∨ i = 8 ∨ i = 9 ∨ i = 10 ∨ i = 11 ∨ i = 12 ∨ i = 13 ∨ i = 14 ∨ i = 15 ∨ i = 16 ∨ i = 17 := by omega
          · simp only [List.getElem?_toArray, List.getElem?_cons_zero, List.getElem?_cons_succ, Option.some.injEq] at ho
            subst ho
            have e := e0
            clear e0 e1 e2 e3 e4 e5 e6 e7 e8 e9 e10 e11 e12 e13 e14 e15 e16 e17
            go_simp
            exact hK.out _ _ ⟨updV vs 0 (.slice AL m cL), rfl, hM.still 0 _ e.symm⟩
          · simp only [List.getElem?_toArray, List.getElem?_cons_zero, List.getElem?_cons_succ, Option.some.injEq] at ho
            subst ho
            have e := e1
            clear e0 e1 e2 e3 e4 e5 e6 e7 e8 e9 e10 e11 e12 e13 e14 e15 e16 e17
            go_simp
            exact hK.out _ _ ⟨updV vs 1 (.pointer (some ⟨W1.heap.size, 4, none⟩)), rfl, hM.still 1 _ e.symm⟩
          · simp only [List.getElem?_toArray, List.getElem?_cons_zero, List.getElem?_cons_succ, Option.some.injEq] at ho
            subst ho
            have v1 : vs 1 = .pointer (some ⟨W1.heap.size, 4, none⟩) := (hM.held 1 (hpre ⟨1, .data⟩ (by simp) rfl)).trans e1
            have e := e2
            clear e0 e1 e2 e3 e4 e5 e6 e7 e8 e9 e10 e11 e12 e13 e14 e15 e16 e17
            have x0 := keepW hM.below z4
            rw [v1]
            go_simp
            exact hK.out _ _ ⟨updV vs 2 (.int .i64 t.gap), by simp [updV, v1], hM.still 2 _ e.symm⟩
          · simp only [List.getElem?_toArray, List.getElem?_cons_zero, List.getElem?_cons_succ, Option.some.injEq] at ho
            subst ho
            have e := e3
            clear e0 e1 e2 e3 e4 e5 e6 e7 e8 e9 e10 e11 e12 e13 e14 e15 e16 e17
            go_simp
            exact hK.out _ _ ⟨updV vs 3 (.pointer (some ⟨W6.heap.size, 2, none⟩)), rfl, hM.still 3 _ e.symm⟩
          · simp only [List.getElem?_toArray, List.getElem?_cons_zero, List.getElem?_cons_succ, Option.some.injEq] at ho
            subst ho
            have v3 : vs 3 = .pointer (some ⟨W6.heap.size, 2, none⟩) := (hM.held 3 (hpre ⟨3, .data⟩ (by simp) rfl)).trans e3
            have e := e4
            clear e0 e1 e2 e3 e4 e5 e6 e7 e8 e9 e10 e11 e12 e13 e14 e15 e16 e17
            have x0 := keepW hM.below y2
            rw [v3]
            go_simp
            exact hK.out _ _ ⟨updV vs 4 (.slice (some ⟨gb, go, none⟩) GL.length gc), by simp [updV, v3], hM.still 4 _ e.symm⟩
          · simp only [List.getElem?_toArray, List.getElem?_cons_zero, List.getElem?_cons_succ, Option.some.injEq] at ho
            subst ho
            have e := e5
            clear e0 e1 e2 e3 e4 e5 e6 e7 e8 e9 e10 e11 e12 e13 e14 e15 e16 e17
            go_simp
            exact hK.out _ _ ⟨updV vs 5 (.int .i64 ↑jx), rfl, hM.still 5 _ e.symm⟩
          · simp only [List.getElem?_toArray, List.getElem?_cons_zero, List.getElem?_cons_succ, Option.some.injEq] at ho
            subst ho
            have v4 : vs 4 = .slice (some ⟨gb, go, none⟩) GL.length gc := (hM.held 4 (hpre ⟨4, .data⟩ (by simp) rfl)).trans e4
            have v5 : vs 5 = .int .i64 ↑jx := (hM.held 5 (hpre ⟨5, .data⟩ (by simp) rfl)).trans e5
            have e := e6
            clear e0 e1 e2 e3 e4 e5 e6 e7 e8 e9 e10 e11 e12 e13 e14 e15 e16 e17
            rw [v4, v5]
            go_simp
            exact hK.out _ _ ⟨updV vs 6 (.pointer (some ⟨gb, go + jx * 5, none⟩)), by simp [updV, v4, v5], hM.still 6 _ e.symm⟩
          · simp only [List.getElem?_toArray, List.getElem?_cons_zero, List.getElem?_cons_succ, Option.some.injEq] at ho
            subst ho
            have v6 : vs 6 = .pointer (some ⟨gb, go + jx * 5, none⟩) := (hM.held 6 (hpre ⟨6, .data⟩ (by simp) rfl)).trans e6
            have e := e7
            clear e0 e1 e2 e3 e4 e5 e6 e7 e8 e9 e10 e11 e12 e13 e14 e15 e16 e17
            have x0 := keepW hM.below q0
            have x1 := keepW hM.below q1
            have x2 := keepW hM.below q2
            have x3 := keepW hM.below q3
            have x4 := keepW hM.below q4
            rw [v6]
            go_simp
            exact hK.out _ _ ⟨updV vs 7 (.agg #[.int .i64 x.row, .int .i64 x.col, .int .i64 x.rows, .int .i64 x.cols, .int .i64 x.inn]), by simp [updV, v6], hM.still 7 _ e.symm⟩
          · simp only [List.getElem?_toArray, List.getElem?_cons_zero, List.getElem?_cons_succ, Option.some.injEq] at ho
            subst ho
            have v0 : vs 0 = .slice AL m cL := (hM.held 0 (hpre ⟨0, .data⟩ (by simp) rfl)).trans e0
            have v2 : vs 2 = .int .i64 t.gap := (hM.held 2 (hpre ⟨2, .data⟩ (by simp) rfl)).trans e2
            have v7 : vs 7 = .agg #[.int .i64 x.row, .int .i64 x.col, .int .i64 x.rows, .int .i64 x.cols, .int .i64 x.inn] := (hM.held 7 (hpre ⟨7, .data⟩ (by simp) rfl)).trans e7
            have e := e8
            clear e0 e1 e2 e3 e4 e5 e6 e7 e8 e9 e10 e11 e12 e13 e14 e15 e16 e17
            rw [v0, v2, v7]
            go_simp
            refine (HWC.out _ hM.below).mono ?_
            rintro e5 W5 ⟨rfl, hb5⟩
            exact hK.out _ _ ⟨updV vs 8 (.int .i64 wd), by simp [updV, v0, v2, v7], hM.next 8 _ e.symm hb5⟩
          · simp only [List.getElem?_toArray, List.getElem?_cons_zero, List.getElem?_cons_succ, Option.some.injEq] at ho
            subst ho
            have e := e9
            clear e0 e1 e2 e3 e4 e5 e6 e7 e8 e9 e10 e11 e12 e13 e14 e15 e16 e17
            have x0 := keepW hM.below z0
            have x1 := keepW hM.below z1
            have x2 := keepW hM.below z2
            have x3 := keepW hM.below z3
            have x4 := keepW hM.below z4
            go_simp
            exact hK.out _ _ ⟨updV vs 9 (.agg #[.slice Ac t.cols.length kc, .int .i64 t.head, .int .i64 t.foot, .slice Ar t.rows.length kr, .int .i64 t.gap]), rfl, hM.still 9 _ e.symm⟩
          · simp only [List.getElem?_toArray, List.getElem?_cons_zero, List.getElem?_cons_succ, Option.some.injEq] at ho
            subst ho
            have e := e10
            clear e0 e1 e2 e3 e4 e5 e6 e7 e8 e9 e10 e11 e12 e13 e14 e15 e16 e17
            go_simp
            exact hK.out _ _ ⟨updV vs 10 (.pointer (some ⟨W6.heap.size, 2, none⟩)), rfl, hM.still 10 _ e.symm⟩
          · simp only [List.getElem?_toArray, List.getElem?_cons_zero, List.getElem?_cons_succ, Option.some.injEq] at ho
            subst ho
            have v10 : vs 10 = .pointer (some ⟨W6.heap.size, 2, none⟩) := (hM.held 10 (hpre ⟨10, .data⟩ (by simp) rfl)).trans e10
            have e := e11
            clear e0 e1 e2 e3 e4 e5 e6 e7 e8 e9 e10 e11 e12 e13 e14 e15 e16 e17
            have x0 := keepW hM.below y2
            rw [v10]
            go_simp
            exact hK.out _ _ ⟨updV vs 11 (.slice (some ⟨gb, go, none⟩) GL.length gc), by simp [updV, v10], hM.still 11 _ e.symm⟩
          · simp only [List.getElem?_toArray, List.getElem?_cons_zero, List.getElem?_cons_succ, Option.some.injEq] at ho
            subst ho
            have e := e12
            clear e0 e1 e2 e3 e4 e5 e6 e7 e8 e9 e10 e11 e12 e13 e14 e15 e16 e17
            go_simp
            exact hK.out _ _ ⟨updV vs 12 (.int .i64 ↑jx), rfl, hM.still 12 _ e.symm⟩
          · simp only [List.getElem?_toArray, List.getElem?_cons_zero, List.getElem?_cons_succ, Option.some.injEq] at ho
            subst ho
            have v11 : vs 11 = .slice (some ⟨gb, go, none⟩) GL.length gc := (hM.held 11 (hpre ⟨11, .data⟩ (by simp) rfl)).trans e11
            have v12 : vs 12 = .int .i64 ↑jx := (hM.held 12 (hpre ⟨12, .data⟩ (by simp) rfl)).trans e12
            have e := e13
            clear e0 e1 e2 e3 e4 e5 e6 e7 e8 e9 e10 e11 e12 e13 e14 e15 e16 e17
            rw [v11, v12]
            go_simp
            exact hK.out _ _ ⟨updV vs 13 (.pointer (some ⟨gb, go + jx * 5, none⟩)), by simp [updV, v11, v12], hM.still 13 _ e.symm⟩
          · simp only [List.getElem?_toArray, List.getElem?_cons_zero, List.getElem?_cons_succ, Option.some.injEq] at ho
            subst ho
            have v13 : vs 13 = .pointer (some ⟨gb, go + jx * 5, none⟩) := (hM.held 13 (hpre ⟨13, .data⟩ (by simp) rfl)).trans e13
            have e := e14
            clear e0 e1 e2 e3 e4 e5 e6 e7 e8 e9 e10 e11 e12 e13 e14 e15 e16 e17
            have x0 := keepW hM.below q0
            have x1 := keepW hM.below q1
            have x2 := keepW hM.below q2
            have x3 := keepW hM.below q3
            have x4 := keepW hM.below q4
            rw [v13]
            go_simp
            exact hK.out _ _ ⟨updV vs 14 (.agg #[.int .i64 x.row, .int .i64 x.col, .int .i64 x.rows, .int .i64 x.cols, .int .i64 x.inn]), by simp [updV, v13], hM.still 14 _ e.symm⟩
          · simp only [List.getElem?_toArray, List.getElem?_cons_zero, List.getElem?_cons_succ, Option.some.injEq] at ho
            subst ho
            have v9 : vs 9 = .agg #[.slice Ac t.cols.length kc, .int .i64 t.head, .int .i64 t.foot, .slice Ar t.rows.length kr, .int .i64 t.gap] := (hM.held 9 (hpre ⟨9, .data⟩ (by simp) rfl)).trans e9
            have v14 : vs 14 = .agg #[.int .i64 x.row, .int .i64 x.col, .int .i64 x.rows, .int .i64 x.cols, .int .i64 x.inn] := (hM.held 14 (hpre ⟨14, .data⟩ (by simp) rfl)).trans e14
            have v8 : vs 8 = .int .i64 wd := (hM.held 8 (hpre ⟨8, .chain⟩ (by simp) rfl)).trans e8
            have e := e15
            clear e0 e1 e2 e3 e4 e5 e6 e7 e8 e9 e10 e11 e12 e13 e14 e15 e16 e17
            rw [v9, v14, v8]
            go_simp
            refine (HPT.out _ hM.below).mono ?_
            rintro e5 W5 ⟨rfl, hb5⟩
            exact hK.out _ _ ⟨updV vs 15 (.string tx), by simp [updV, v9, v14, v8], hM.next 15 _ e.symm hb5⟩
          · simp only [List.getElem?_toArray, List.getElem?_cons_zero, List.getElem?_cons_succ, Option.some.injEq] at ho
            subst ho
            have v15 : vs 15 = .string tx := (hM.held 15 (hpre ⟨15, .data⟩ (by simp) rfl)).trans e15
            have e := e16
            clear e0 e1 e2 e3 e4 e5 e6 e7 e8 e9 e10 e11 e12 e13 e14 e15 e16 e17
            rw [v15]
            go_simp
            refine (HTL.out _ hM.below).mono ?_
            rintro e5 W5 ⟨rfl, hb5⟩
            exact hK.out _ _ ⟨updV vs 16 (.int .i64 lt), by simp [updV, v15], hM.next 16 _ e.symm hb5⟩
          · simp only [List.getElem?_toArray, List.getElem?_cons_zero, List.getElem?_cons_succ, Option.some.injEq] at ho
            subst ho
            have v8 : vs 8 = .int .i64 wd := (hM.held 8 (hpre ⟨8, .data⟩ (by simp) rfl)).trans e8
            have v16 : vs 16 = .int .i64 lt := (hM.held 16 (hpre ⟨16, .data⟩ (by simp) rfl)).trans e16
            have e := e17
            clear e0 e1 e2 e3 e4 e5 e6 e7 e8 e9 e10 e11 e12 e13 e14 e15 e16 e17
            rw [v8, v16]
            go_simp
            exact hK.out _ _ ⟨updV vs 17 (.bool false), by simp [updV, v8, v16], hM.still 17 _ e.symm⟩
        case fin =>
          rintro l a W13 hall ⟨vs13, rfl, hM⟩
          have HBW := hide hM.below
          have v17 : vs13 17 = .bool false := (hM.held 17 (by rw [getD_any (by rw [hM.size]; decide) false true]; exact hall 17 (by decide))).trans e17
          rw [v17]
          have hgl := HHD.out
          clear v17 hall hM e0 e1 e2 e3 e4 e5 e6 e7 e8 e9 e10 e11 e12 e13 e14 e15 e16 e17
          go_wp2_with fail
          go_roundg (GL.length - (jx + 1))
          case measure => omega
          case rel => exact ⟨jx + 1, by omega, by omega, by go_num, (show Aside _ from step HBD.out HBW.out)⟩
      · have hltz : ¬ (jx : Int) < (GL.length : Int) := by omega
        clear hKTr hKGr
        go_wp2_with fail
        clear g2
        go_loopg [7, 8] L.length (fun gg s7 s8 wr => ∃ j : Nat, j ≤ L.length ∧ L.length - j ≤ gg ∧ s7 = .int .i64 j ∧ Aside (Below V.heap.size V wr))
        case atStart => exact ⟨0, Nat.zero_le _, by omega, rfl, HBR.out⟩
        case round =>
          obtain ⟨i, hi, hgi, rfl, HBS⟩ := hrel
          have hKTs := HKT.out.below (by omega) HBS.out
          have hKGs := HKG.out.below (by omega) HBS.out
          by_cases hlt2 : i < L.length
          · have hltz2 : (i : Int) < (L.length : Int) := by omega
            have g0 := hKTs.1 0 _ rfl
            have g1 := hKTs.1 1 _ rfl
            have g2 := hKTs.1 2 _ rfl
            have g3 := hKTs.1 3 _ rfl
            have g4 := hKTs.1 4 _ rfl
            have hSD := impl_ColSaid t Ac kc Ar kr i _ (HW.out.below (step HB.out HBS.out)) (HC.out.below HBS.out) (HR.out.below HBS.out) (by have := HLN.out.1; omega) (by have := HLN.out.1; omega)
            have hsd : colSaid t (i : Int) = saidOf t i := by unfold colSaid; rw [if_pos HOK.out]
            rw [hsd] at hSD
            have hn0 := HSA.out i (by omega)
            obtain ⟨b, o, rfl, hlb, hc⟩ := rd_int (irow_rd HI.out) HBS.out i hlt2
            have hy0 := int_at HLN.out.2 i hlt2
            obtain ⟨sd, hsd2⟩ : ∃ sd, saidOf t (i : Int) = sd := ⟨_, rfl⟩
            rw [hsd2] at hSD hn0
            generalize L.getD i 0 = y at hn0 hc hy0
            clear hKTs hKGs hsd hsd2
            have HN0 := hide hn0
            have HY0 := hide hy0
            have HHC := hide hc
            clear hn0 hy0 hc
            go_wp2_with fail
            refine hSD.mono ?_
            rintro e W9 ⟨rfl, hb9⟩
            have HB9 := hide (step HBS.out hb9)
            have hc9 := keepW hb9 HHC.out
            have hlb9 : b < W9.heap.size := by have := HB9.out.size; omega
            have hne9 : ¬ b = W9.heap.size := by omega
            have hne8 : ¬ W9.heap.size = b := by omega
            have hd0 : decide (y < 0) = false := by have := HY0.out; simp; omega
            clear g0 g1 g2 g3 g4 hSD hb9
            by_cases h1 : sd.k = 1
            · have h1z : (sd.k == 1) = true := by simp [h1]
              have hd1 : decide (y < sd.n) = false := by have := HN0.out h1; simp; omega
              clear h1
              go_wp2_with fail
              go_quiet (fail)
              go_wp2_with fail
              go_roundg (L.length - (i + 1))
              case measure => omega
              case rel => exact ⟨i + 1, by omega, by omega, by go_num, (show Aside _ from bdrewN (balloc HB9.out _) _)⟩
            · have h1z : (sd.k == 1) = false := by simp [h1]
              clear h1
              go_wp2_with fail
              go_quiet (fail)
              go_wp2_with fail
              go_roundg (L.length - (i + 1))
              case measure => omega
              case rel => exact ⟨i + 1, by omega, by omega, by go_num, (show Aside _ from bdrewN (balloc HB9.out _) _)⟩
          · have hltz2 : ¬ (i : Int) < (L.length : Int) := by omega
            have g1 := hKGs.1 1 _ rfl
            have hq : ((L.length : Int) == (m : Int)) = true := by simp; omega
            clear hKTs hKGs
            go_wp2_with fail
            go_ret
            exact ⟨rfl, step HB.out HBS.out⟩
end Go.Proofs.YtpfagdmmhgcmnaaGreatDoor

namespace Go.Proofs.YtpfagdmmhgcmnaaGreatDoor
open Go.RowKit Go.WideShapes Go.ChangeShapes
/- What a statement's reading of its bytes gives. -/
theorem uint8_cells : Tryz.prog.cellsOf 5 = 1 := by kernel_rfl
set_option maxRecDepth 100000 in
theorem open_code {H : Type} {enc : TypeId × Value → H} {W : World} {base : Nat} {v : Value} {d : DataW H} {p : List MemPlace} (hval : Value.okWide Tryz.prog W .any base 22 v) (h : DataW.Trod enc Tryz.prog W 0 (fun _ => true) true 22 v d p) :
    ∃ A n c, v = .slice A n c ∧ BytesAt W A n c := by
  obtain ⟨A, n, c, rfl⟩ := okWide_slice Tryz.underlying22 hval
  refine ⟨A, n, c, rfl, ?_⟩
  obtain ⟨fuel, hf⟩ := h
  rcases open_ints Tryz.underlying22 Tryz.underlying5 uint8_cells hf with ⟨hcs, _⟩ | ⟨a, len', cap', zs, hcs, _, hl, hm, hz, _, hcell, hwz⟩
  · simp [Value.cells] at hcs
    obtain ⟨rfl, rfl, rfl⟩ := hcs
    exact ⟨by decide, by decide, by decide, fun h => absurd h (by decide)⟩
  · simp [Value.cells] at hcs
    obtain ⟨rfl, rfl, rfl⟩ := hcs
    simp only [if_true] at hz
    have hmx : maxLen ≤ 9223372036854775807 := by decide
    refine ⟨by omega, hl, by omega, fun hn => ?_⟩
    have h0 := hcell 0 (by omega)
    obtain ⟨b, o, s⟩ := a
    have hs : s = none := by
      have h6 := at_plain h0
      simpa [Addr.add] using h6
    subst hs
    refine ⟨b, o, rfl, ?_, fun j hj => ?_⟩
    · have := World.block_lt_of_cell? W _ h0
      simpa [Addr.add] using this
    · have hj' := hcell j (by omega)
      rw [add_plain] at hj'
      have hb := range_u8 hwz j
      rw [List.getD_eq_getElem?_getD] at hj'
      obtain ⟨k, hk⟩ := Int.eq_ofNat_of_zero_le hb.1
      rw [hk] at hj' hb
      exact ⟨k, by omega, hj'⟩
end Go.Proofs.YtpfagdmmhgcmnaaGreatDoor
