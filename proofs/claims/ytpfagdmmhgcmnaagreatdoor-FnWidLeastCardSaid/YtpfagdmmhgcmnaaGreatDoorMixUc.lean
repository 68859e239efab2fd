import Derived.Test.YtpfagdmmhgcmnaaGreatDoorMixWb
import Derived.Test.YtpfagdmmhgcmnaaGreatDoorMixTj
import Derived.Test.YtpfagdmmhgcmnaaGreatDoorMixTx
import Derived.Test.YtpfagdmmhgcmnaaGreatDoorMixWg
set_option linter.unusedVariables false
set_option linter.unusedSimpArgs false
namespace Go.Proofs.YtpfagdmmhgcmnaaGreatDoor
open Go.RowKit
set_option maxHeartbeats 1000000 in
theorem impl_among (i a k : Int) (w : World) (hi : 0 ≤ i ∧ i ≤ 1000000) (ha : 0 ≤ a ∧ a ≤ 1000000) (hk : 0 ≤ k ∧ k ≤ 1000000) :
  Calls Tryz.prog 113 #[.int .i64 i, .int .i64 a, .int .i64 k] w fun e w' => e = .returned (.bool (decide (a ≤ i ∧ i < a + k))) ∧ w' = w := by
 have t1 : IntKind.u64.wrap i = i := by rw [IntKind.wrap_u64]; omega
 have t2 : IntKind.u64.wrap a = a := by rw [IntKind.wrap_u64]; omega
 have t3 : IntKind.u64.wrap k = k := by rw [IntKind.wrap_u64]; omega
 obtain ⟨q, hq⟩ : ∃ q, decide (a ≤ i ∧ i < a + k) = q := ⟨_, rfl⟩
 rw [hq]
 have HQ := hide hq
 clear hq
 by_cases h1 : a ≤ i
 ·
  by_cases h2 : 0 < k
  ·
   have t4 : IntKind.u64.wrap (i - a) = i - a := by rw [IntKind.wrap_u64]; omega
   by_cases h3 : i - a < k
   ·
    have hd := hide (show q = true by rw [← HQ.out]; simp; omega)
    go_enter Tryz.func113, Tryz.ntmps113
    go_wp2_with fail
    go_ret
    exact ⟨by rw [hd.out]; try rfl, rfl⟩
   ·
    have hd := hide (show q = false by rw [← HQ.out]; simp; omega)
    go_enter Tryz.func113, Tryz.ntmps113
    go_wp2_with fail
    go_ret
    exact ⟨by rw [hd.out]; try rfl, rfl⟩
  ·
   have hd := hide (show q = false by rw [← HQ.out]; simp; omega)
   go_enter Tryz.func113, Tryz.ntmps113
   go_wp2_with fail
   go_ret
   exact ⟨by rw [hd.out]; try rfl, rfl⟩
 ·
  have hd := hide (show q = false by rw [← HQ.out]; simp; omega)
  go_enter Tryz.func113, Tryz.ntmps113
  go_wp2_with fail
  go_ret
  exact ⟨by rw [hd.out]; try rfl, rfl⟩
theorem some_in {xs : List Int} {j : Nat} {a k : Int} (h : j < xs.length) (ha : 0 ≤ a) (h1 : a ≤ j ∧ (j : Int) < a + k) : someL (xs.take j) a k ++ [xs.getD j 0] = someL (xs.take (j + 1)) a k := by
 unfold someL
 have e : xs.getD j 0 = xs[j] := by rw [List.getD_eq_getElem?_getD, List.getElem?_eq_getElem h]; rfl
 rw [e, List.take_succ_eq_append_getElem h, List.drop_append_of_le_length (by simp; omega), List.take_of_length_le (l := (xs.take j).drop a.toNat) (by simp; omega), List.take_of_length_le (l := (xs.take j).drop a.toNat ++ [xs[j]]) (by simp; omega)]
theorem some_out {xs : List Int} {j : Nat} {a k : Int} (h : j < xs.length) (ha : 0 ≤ a) (hk : 0 ≤ k) (h1 : ¬ (a ≤ j ∧ (j : Int) < a + k)) : someL (xs.take (j + 1)) a k = someL (xs.take j) a k := by
 unfold someL
 rw [List.take_succ_eq_append_getElem h]
 by_cases h2 : a ≤ j
 ·
  rw [List.drop_append_of_le_length (by simp; omega), List.take_append_of_le_length (by simp; omega)]
 ·
  rw [List.drop_eq_nil_of_le (by simp; omega), List.drop_eq_nil_of_le (by simp; omega)]
set_option maxRecDepth 100000 in
set_option maxHeartbeats 4000000 in
theorem impl_some (A : Option Addr) (c : Nat) (xs : List Int) (a k : Int) (w : World) (hr : Rd intR w A xs) (hn : xs.length ≤ 1000) (ha : 0 ≤ a ∧ a ≤ 1000000) (hk : 0 ≤ k ∧ k ≤ 1000000) :
  Calls Tryz.prog 66 #[.slice A xs.length c, .int .i64 a, .int .i64 k] w fun e w' => ∃ v, e = .returned v ∧ IOwn w' w.heap.size v (someL xs a k) ∧ Below w.heap.size w w' := by
 have HR := hide hr
 clear hr
 go_enter Tryz.func66, Tryz.ntmps66
 go_wp2_with fail
 go_loopg [7, 8, 9, 12] xs.length (fun gg s7 s8 s9 s12 wr => ∃ j : Nat, j ≤ xs.length ∧ xs.length - j ≤ gg ∧ s12 = .int .i64 j ∧ Aside (IOwn wr w.heap.size s7 (someL (xs.take j) a k)) ∧ Aside (Below w.heap.size w wr))
 case atStart => exact ⟨0, Nat.zero_le _, by omega, rfl, (show Aside _ from by rw [List.take_zero]; simp only [someL, List.drop_nil, List.take_nil]; exact IOwn.nil _ _), brefl _⟩
 case round =>
  obtain ⟨j, hj, hgg, rfl, HO, HB⟩ := hrel
  by_cases hlt : j < xs.length
  ·
   have hltz : (j : Int) < (xs.length : Int) := by omega
   obtain ⟨b, o, c0, e, hlb, hK, hc⟩ := HR.out.at1 rfl HB.out j hlt
   have q : [c0] = [.int .i64 xs[j]] := hK
   simp only [List.cons.injEq, and_true] at q
   subst q
   subst e
   have e1 : xs[j] = xs.getD j 0 := by rw [List.getD_eq_getElem?_getD, List.getElem?_eq_getElem hlt]; rfl
   rw [e1] at hc
   clear hK e1
   have hA := impl_among j a k wr (by omega) ha hk
   by_cases h1 : a ≤ j ∧ (j : Int) < a + k
   ·
    have HS := hide (some_in (xs := xs) hlt ha.1 h1)
    have hd : decide (a ≤ (j : Int) ∧ (j : Int) < a + k) = true := by simp; omega
    rw [hd] at hA
    generalize xs.getD j 0 = y at hc HS
    have hlen : (someL (xs.take j) a k).length ≤ 1000000 := by unfold someL; simp; omega
    have HLN := hide hlen
    clear h1 hd hlen
    go_wp2_with (first
     | (go_at_call 113; refine hA.mono ?_; rintro e9 w9 ⟨rfl, hw9⟩; obtain rfl := hw9.symm)
     | (at_builtin; refine wpList_append_int rfl (.tmp 21) (.tmp 23) rfl w.heap.size _ (someL (xs.take j) a k) rfl (HO.out.below (balloc (brefl _) _)) ⟨wr.heap.size, 0, none⟩ 1 y rfl (cell_new _ _ _ _ 0 _ rfl) HLN.out (by have := HB.out.size; simp; omega) ?_))
    intro v' w4 H1 H2 H3
    have HB2 : Hid (Below w.heap.size w w4) := (balloc HB.out (.cells #[.int .i64 y] 3)).trans (grown_below H2.out (by have := HB.out.size; simp; omega) (fun b hb => (HO.out.lt hb).1))
    rw [HS.out] at H1
    clear H2 H3 HB HO HS HLN hA
    go_wp2_with fail
    go_roundg (xs.length - (j + 1))
    case measure => omega
    case rel => exact ⟨j + 1, by omega, by omega, by go_num, H1.out, HB2.out⟩
   ·
    have HS := hide (some_out (xs := xs) hlt ha.1 hk.1 h1)
    have hd : decide (a ≤ (j : Int) ∧ (j : Int) < a + k) = false := by simpa using h1
    rw [hd] at hA
    clear h1 hd
    go_wp2_with (go_at_call 113; refine hA.mono ?_; rintro e9 w9 ⟨rfl, hw9⟩; obtain rfl := hw9.symm)
    go_roundg (xs.length - (j + 1))
    case measure => omega
    case rel => exact ⟨j + 1, by omega, by omega, by go_num, (show Aside _ from by rw [HS.out]; exact HO.out), HB.out⟩
  ·
   have hltz : ¬ (j : Int) < (xs.length : Int) := by omega
   have HS := hide (show someL (xs.take j) a k = someL xs a k by rw [List.take_of_length_le (by omega)])
   go_wp2_with fail
   go_ret
   exact ⟨_, rfl, by rw [← HS.out]; exact HO.out, HB.out⟩
set_option maxHeartbeats 2000000 in
theorem impl_WidCell (A : Option Addr) (c : Nat) (xs : List Int) (gap : Int) (x : GCell) (w : World) (hr : Rd intR w A xs) (hb : ∀ y ∈ xs, 0 ≤ y ∧ y ≤ 1000000) (hn : xs.length ≤ 1000) (hg : 0 ≤ gap ∧ gap ≤ 3) (ha : 0 ≤ x.col ∧ x.col ≤ 1000000) (hk : 0 ≤ x.cols ∧ x.cols ≤ 1000000) :
  Calls Tryz.prog 22 #[.slice A xs.length c, .int .i64 gap, .agg #[.int .i64 x.row, .int .i64 x.col, .int .i64 x.rows, .int .i64 x.cols, .int .i64 x.inn]] w fun e w' => e = .returned (.int .i64 (wideG gap (someL xs x.col x.cols))) ∧ Below w.heap.size w w' := by
 have hS := fun (W : World) (h : Below w.heap.size w W) => impl_some A c xs x.col x.cols W (hr.below h) hn ha hk
 have hsb : Hid (∀ y ∈ someL xs x.col x.cols, 0 ≤ y ∧ y ≤ 1000000) := fun y hy => hb y (List.mem_of_mem_drop (List.mem_of_mem_take hy))
 have hsl : (someL xs x.col x.cols).length ≤ 1000 := by unfold someL; simp; omega
 generalize someL xs x.col x.cols = ys at hS hsb hsl ⊢
 clear hr hb
 go_enter Tryz.func22, Tryz.ntmps22
 go_wp2_with fail
 refine (hS _ (balloc (brefl _) _)).mono ?_
 rintro e w1 ⟨v, rfl, hO, hb1⟩
 obtain ⟨A2, c2, rfl⟩ := hO.form
 have hW := impl_wide A2 c2 ys gap w1 (irow_rd hO) hsb.out hsl hg
 have HB := hide (step (balloc (brefl w) _) hb1)
 clear hO hb1 hS
 go_wp2_with fail
 refine hW.mono ?_
 rintro e w2 ⟨rfl, hb2⟩
 go_wp2_with fail
 go_ret
 exact ⟨rfl, step HB.out hb2⟩
end Go.Proofs.YtpfagdmmhgcmnaaGreatDoor

namespace Go.Proofs.YtpfagdmmhgcmnaaGreatDoor
open Go.RowKit
theorem text_size {t : Tbl} (h : ∀ r ∈ t.rows, ∀ c ∈ r.cs, c.t.size ≤ 1048576) {x : GCell} (hx : CellAt t x) : (textOf t x).size ≤ 1048576 := by
 have h1 : x.row.toNat < t.rows.length := by have := hx.1; omega
 have hrow : t.rows.getD x.row.toNat default ∈ t.rows := by
  rw [List.getD_eq_getElem?_getD, List.getElem?_eq_getElem h1]; exact List.getElem_mem h1
 have h2 : x.inn.toNat < (t.rows.getD x.row.toNat default).cs.length := by have := hx.2; omega
 refine h _ hrow _ ?_
 rw [List.getD_eq_getElem?_getD (l := (t.rows.getD x.row.toNat default).cs), List.getElem?_eq_getElem h2]; exact List.getElem_mem h2
end Go.Proofs.YtpfagdmmhgcmnaaGreatDoor
