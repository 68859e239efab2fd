import Derived.Test.YtpfagdmmhgcmnaaGreatDoorMixTd
import Derived.Shelf.Bits.Mul64
import Derived.Laws.CopyOwn
import Derived.Deep.CutRange
set_option linter.unusedVariables false
set_option linter.unusedSimpArgs false
namespace Go.Proofs.YtpfagdmmhgcmnaaGreatDoor
open Go.RowKit
theorem sum_take (xs : List Int) (k : Nat) (h : k < xs.length) : sumI (xs.take (k + 1)) = sumI (xs.take k) + xs.getD k 0 := by
 rw [List.take_succ_eq_append_getElem h, sumI_append, sumI_cons, sumI_nil, List.getD_eq_getElem?_getD, List.getElem?_eq_getElem h]
 simp
theorem sum_bound {xs : List Int} {B : Int} (h : ∀ x ∈ xs, 0 ≤ x ∧ x ≤ B) (k : Nat) : 0 ≤ sumI (xs.take k) ∧ sumI (xs.take k) ≤ B * xs.length := by
 have h1 : ∀ x ∈ xs.take k, 0 ≤ x ∧ x ≤ B := fun x hx => h x (List.mem_of_mem_take hx)
 refine ⟨sumI_nonneg fun x hx => (h1 x hx).1, ?_⟩
 have h2 := sumI_le (l := xs.take k) (m := B) fun x hx => (h1 x hx).2
 rcases Nat.eq_zero_or_pos xs.length with z | z
 ·
  have : xs = [] := List.eq_nil_of_length_eq_zero z
  subst this; simp [sumI_nil]
 ·
  have hB : 0 ≤ B := by
   have := h xs[0] (List.getElem_mem z)
   omega
  have h3 : B * ((xs.take k).length : Int) ≤ B * xs.length := Int.mul_le_mul_of_nonneg_left (by simp; omega) hB
  omega
theorem int_at {xs : List Int} {P : Int → Prop} (h : ∀ x ∈ xs, P x) (k : Nat) (hk : k < xs.length) : P (xs.getD k 0) := by
 rw [List.getD_eq_getElem?_getD, List.getElem?_eq_getElem hk]
 exact h _ (List.getElem_mem hk)
set_option maxHeartbeats 1000000 in
theorem impl_sumOf (A : Option Addr) (c : Nat) (xs : List Int) (w : World) (hr : Rd intR w A xs) (hb : ∀ x ∈ xs, 0 ≤ x ∧ x ≤ 1000000) (hn : xs.length ≤ 1000000) :
  Calls Tryz.prog 112 #[.slice A xs.length c] w (fun e w' => e = .returned (.int .i64 (sumI xs)) ∧ w' = w) := by
 have HR := hide hr
 have HB := hide hb
 clear hr hb
 go_enter Tryz.func112, Tryz.ntmps112
 go_wp2_with fail
 go_loopg [3, 5, 8] xs.length (fun gg s3 s5 s8 wr => ∃ kk : Nat, kk ≤ xs.length ∧ xs.length - kk ≤ gg ∧ s3 = .int .i64 (sumI (xs.take kk)) ∧ s8 = .int .i64 kk ∧ wr = w)
 case atStart => exact ⟨0, Nat.zero_le _, by omega, by simp [sumI_nil], rfl, rfl⟩
 case round =>
  obtain ⟨kk, hkk, hg, rfl, rfl, rfl⟩ := hrel
  by_cases hlt : kk < xs.length
  ·
   have hltz : (kk : Int) < (xs.length : Int) := by omega
   obtain ⟨b, o, rfl, hlb, hcell⟩ := rd_int HR.out (brefl _) kk hlt
   have hs := hide (sum_take xs kk hlt)
   have hb1 := sum_bound HB.out kk
   have hb2 := int_at HB.out kk hlt
   generalize sumI (xs.take kk) = s at hs hb1 ⊢
   generalize xs.getD kk 0 = y at hs hcell hb2
   have t1 : IntKind.i64.wrap (s + y) = s + y := by rw [IntKind.wrap_i64]; omega
   go_wp2_with fail
   go_roundg (xs.length - (kk + 1))
   case measure => omega
   case rel => exact ⟨kk + 1, by omega, by omega, by rw [hs.out], by go_num, rfl⟩
  ·
   have hltz : ¬ (kk : Int) < (xs.length : Int) := by omega
   have hk : kk = xs.length := by omega
   have hs := hide (show sumI (xs.take kk) = sumI xs by rw [hk, List.take_length])
   clear hk
   go_wp2_with fail
   go_ret
   exact ⟨by rw [hs.out]; rfl, rfl⟩
set_option maxHeartbeats 1000000 in
theorem spec_l1Sum (A : Option Addr) (c : Nat) (xs : List Int) (w : World) (hr : Rd intR w A xs) (hb : ∀ x ∈ xs, 0 ≤ x ∧ x ≤ 1000000) (hn : xs.length ≤ 1000000) :
  Calls Tryz.prog 90 #[.slice A xs.length c] w (fun e w' => e = .returned (.int .i64 (sumI xs)) ∧ w' = w) := by
 have HR := hide hr
 have HB := hide hb
 clear hr hb
 go_enter Tryz.func90, Tryz.ntmps90
 go_wp2_with fail
 go_loopg [3, 4] xs.length (fun gg s3 s4 wr => ∃ kk : Nat, kk ≤ xs.length ∧ xs.length - kk ≤ gg ∧ s3 = .int .i64 (sumI (xs.take kk)) ∧ s4 = .int .i64 kk ∧ wr = w)
 case atStart => exact ⟨0, Nat.zero_le _, by omega, by simp [sumI_nil], rfl, rfl⟩
 case round =>
  obtain ⟨kk, hkk, hg, rfl, rfl, rfl⟩ := hrel
  by_cases hlt : kk < xs.length
  ·
   have hltz : (kk : Int) < (xs.length : Int) := by omega
   obtain ⟨b, o, rfl, hlb, hcell⟩ := rd_int HR.out (brefl _) kk hlt
   have hs := hide (sum_take xs kk hlt)
   have hb1 := sum_bound HB.out kk
   have hb2 := int_at HB.out kk hlt
   generalize sumI (xs.take kk) = s at hs hb1 ⊢
   generalize xs.getD kk 0 = y at hs hcell hb2
   have t1 : IntKind.i64.wrap (s + y) = s + y := by rw [IntKind.wrap_i64]; omega
   go_wp2_with fail
   go_roundg (xs.length - (kk + 1))
   case measure => omega
   case rel => exact ⟨kk + 1, by omega, by omega, by rw [hs.out], by go_num, rfl⟩
  ·
   have hltz : ¬ (kk : Int) < (xs.length : Int) := by omega
   have hk : kk = xs.length := by omega
   have hs := hide (show sumI (xs.take kk) = sumI xs by rw [hk, List.take_length])
   clear hk
   go_wp2_with fail
   go_ret
   exact ⟨by rw [hs.out]; rfl, rfl⟩
def ShrIn (total : Int) (ws : List Int) : Prop := (0 ≤ total ∧ total ≤ 100000) ∧ (∀ x ∈ ws, 0 ≤ x ∧ x ≤ 100000) ∧ ws.length ≤ 100
theorem impl_ShrOk1 (w : World) : Pred Tryz.prog 172 #[] intR one (fun x => !inB x 0 100000) w := by
 rintro W x cs hb rfl
 show Calls _ _ #[.int .i64 x] W _
 go_enter Tryz.func172, Tryz.ntmps172
 go_wp2_with (go_at_call 76; refine (impl_in _ _ _ _).mono ?_; rintro e w' ⟨rfl, rfl⟩)
 go_ret
 exact ⟨rfl, brefl _⟩
set_option maxHeartbeats 1000000 in
theorem impl_ShrOk (total : Int) (A : Option Addr) (c : Nat) (ws : List Int) (w : World) (hr : Rd intR w A ws) (h : ShrIn total ws) :
  Calls Tryz.prog 154 #[.int .i64 total, .slice A ws.length c] w fun e w' => e = .returned (.bool true) ∧ Below w.heap.size w w' := by
 have hany := any_int intR rfl (fun x => !inB x 0 100000) 172 #[] (enters_of Tryz.func172 (by kernel_rfl) rfl) A c ws w (impl_ShrOk1 w) hr
 have hno : (ws.any fun x => !inB x 0 100000) = false := by
  rw [List.any_eq_false]
  intro x hx
  have := h.2.1 x hx
  simp [inB]; omega
 rw [hno] at hany
 have hin1 : inB total 0 100000 = true := by simp [inB]; exact h.1
 have hl : ((ws.length : Nat) : Int) ≤ 100 := by have := h.2.2; omega
 clear hr h hno
 go_enter Tryz.func154, Tryz.ntmps154
 go_wp2_with (go_at_call 76; refine (impl_in _ _ _ _).mono ?_; rintro e w' ⟨rfl, rfl⟩)
 refine hany.mono ?_
 rintro e w' ⟨rfl, hb⟩
 go_wp2_with fail
 go_ret
 exact ⟨rfl, hb⟩
theorem impl_isNaN (x : Int) (w : World) : Calls Tryz.prog 176 #[.int .i64 x] w fun e w' => e = .returned (.bool false) ∧ w' = w := by
 go_enter Tryz.func176, Tryz.ntmps176
 go_wp2_with fail
 go_ret
 exact ⟨by simp, rfl⟩
theorem impl_Compare (x y : Int) (w : World) : Calls Tryz.prog 159 #[.int .i64 x, .int .i64 y] w fun e w' => e = .returned (.int .i64 (if x < y then -1 else if y < x then 1 else 0)) ∧ w' = w := by
 go_enter Tryz.func159, Tryz.ntmps159
 by_cases h1 : x < y
 ·
  rw [if_pos h1]
  go_wp2_with (go_at_call 176; refine (impl_isNaN _ _).mono ?_; rintro e w' ⟨rfl, rfl⟩)
  go_ret
  exact ⟨rfl, rfl⟩
 ·
  rw [if_neg h1]
  by_cases h2 : y < x
  ·
   rw [if_pos h2]
   go_wp2_with (go_at_call 176; refine (impl_isNaN _ _).mono ?_; rintro e w' ⟨rfl, rfl⟩)
   go_ret
   exact ⟨rfl, rfl⟩
  ·
   rw [if_neg h2]
   go_wp2_with (go_at_call 176; refine (impl_isNaN _ _).mono ?_; rintro e w' ⟨rfl, rfl⟩)
   go_ret
   exact ⟨rfl, rfl⟩
end Go.Proofs.YtpfagdmmhgcmnaaGreatDoor

namespace Go.Proofs.YtpfagdmmhgcmnaaGreatDoor
open Go.RowKit
theorem lib_Mul64 (n : Nat) (hn : n < 18446744073709551616) (w : World) : Calls Tryz.prog 186 #[.int .u64 1, .int .u64 n] w fun e w' => e = .returned (.tuple #[.int .u64 0, .int .u64 n]) ∧ w' = w := by
 have h := Any.bits_Mul64 Tryz.lays264 1 n (by decide) hn w
 rw [Nat.one_mul, Nat.div_eq_of_lt hn, Nat.mod_eq_of_lt hn] at h
 exact h
theorem lib_Mul (n : Nat) (hn : n < 18446744073709551616) (w : World) : Calls Tryz.prog 174 #[.int .u64 1, .int .u64 n] w fun e w' => e = .returned (.tuple #[.int .u64 0, .int .u64 n]) ∧ w' = w := by
 have h := lib_Mul64 n hn w
 go_enter Tryz.func174, Tryz.ntmps174
 go_wp2_with (go_at_call 186; refine h.mono ?_; rintro e w' ⟨rfl, rfl⟩)
 exact bodyPost_ret (v := .tuple #[.int .u64 0, .int .u64 n]) (by simp [results, Tryz.results174, go_sem]) rfl ⟨rfl, rfl⟩
def onesV (k n : Nat) : List Value := List.replicate k (.int .i64 1) ++ List.replicate (n - k) (.int .i64 0)
theorem onesV_splice {k n j : Nat} (h : k + j ≤ n) : splice (onesV k n) k (List.replicate j (.int .i64 1)) = onesV (k + j) n := by
 unfold splice onesV
 rw [List.take_append_of_le_length (by simp), List.take_of_length_le (by simp), List.length_replicate, List.drop_append, List.drop_of_length_le (by simp), List.length_replicate, show k + j - k = j by omega, List.drop_replicate, List.nil_append, ← List.append_assoc, List.replicate_append_replicate, Nat.sub_sub]
theorem und_ints : Tryz.prog.underlying 28 = some (.slice 3) := by kernel_rfl
theorem info_ints : (Tryz.prog.info? 3).map (fun i => (i.zero, i.size, i.bytes)) = some (some (.int .i64 0), 1, 8) := by kernel_rfl
theorem size_ints : (Tryz.prog.info? 3).map (·.size) = some 1 := by kernel_rfl
theorem own_heap {w : World} {base g n : Nat} {X : List Value} (hb : base ≤ g) (hh : w.heap[g]? = some (.cells X.toArray 3 (0, 0))) (hl : X.length = n) (hn : n ≤ 1000000) : w.ownsRow base 3 1 (.slice (some ⟨g, 0, none⟩) n n) n X :=
 ⟨by rw [hl, Nat.mul_one], .inr ⟨g, n, X.toArray, rfl, hb, hh, Nat.le_refl _, by unfold maxLen; omega, by simp; omega, by simp [← hl]⟩⟩
set_option maxRecDepth 100000 in
set_option maxHeartbeats 4000000 in
theorem rep_ones (b n : Nat) (w : World) (hc : w.cell? ⟨b, 0, none⟩ = some (.int .i64 1)) (h1 : 1 ≤ n) (hn : n ≤ 1000000) :
    Calls Tryz.prog 156 #[.slice (some ⟨b, 0, none⟩) 1 1, .int .i64 n] w fun e w' => ∃ v, e = .returned v ∧ IOwn w' w.heap.size v (List.replicate n 1) ∧ Below w.heap.size w w' := by
  have hmul := lib_Mul n (by omega) w
  have hmk := make_eq (P := Tryz.prog) (z := .int .i64 0) (k := 1) (bytes := 8) und_ints info_ints n (by omega) (by omega)
  have t1 : IntKind.u64.wrap (n : Int) = (n : Int) := by rw [IntKind.wrap_u64]; omega
  have t2 : IntKind.i64.wrap (n : Int) = (n : Int) := by rw [IntKind.wrap_i64]; omega
  have e0 : madeCells (Value.int .i64 0).cells (n * 1) = (onesV 0 n).toArray := by
    unfold onesV madeCells
    refine Array.ext (by simp) fun i h1 h2 => ?_
    simp [Value.cells, Nat.mod_one]
  rw [e0] at hmk
  go_enter Tryz.func156, Tryz.ntmps156
  have e1 : splice (onesV 0 n) 0 [.int .i64 1] = onesV 1 n := onesV_splice (k := 0) (j := 1) (by omega)
  have E1 := hide e1
  have hgF : ∀ W : World, Hid ((W.alloc (.cells (onesV 0 n).toArray 3)).heap[W.heap.size]? = some (.cells (onesV 0 n).toArray 3 (0, 0))) := fun W => by show (W.heap.push _)[_]? = _; rw [Array.getElem?_push_size]
  clear e0 e1
  go_upto_region 7 with (go_at_call 174; refine hmul.mono ?_; rintro e w' ⟨rfl, rfl⟩)
  go_wp2_with (refine wpList_copy_splice rfl (.tmp 31) (.tmp 32) 28 28 rfl 3 und_ints size_ints (some ⟨w'.heap.size, 0, none⟩) (some ⟨b, 0, none⟩) n n 1 1 rfl rfl w'.heap.size 0 (onesV 0 n) 3 ?qg [.int .i64 1] ?qn ?qp ?qf ?q1 w'.heap.size w' (balloc (brefl _) _) (Nat.le_refl _) ?_)
  case qg => exact (hgF _).out
  case qn => simp only [List.length_singleton, Nat.min_def]; split <;> omega
  case qp =>
    intro j v hj
    have : j = 0 := by have := (List.getElem?_eq_some_iff.1 hj).1; simp at this; omega
    subst this; simp at hj; subst hj
    exact keepC (balloc (brefl _) _) hc
  case qf => simp [onesV]; omega
  case q1 => intro v hv; rw [List.mem_singleton.1 hv]; rfl
  intro w2 HG2 hB2
  have HG3 := HG2.out
  rw [E1.out] at HG3
  have HG4 := hide HG3
  clear HG2 HG3 hmul hmk E1 t1 t2
  obtain ⟨g, hg⟩ : ∃ g, g = w'.heap.size := ⟨_, rfl⟩
  rw [← hg] at HG4 hB2 ⊢
  have HGG := hide hg
  have HB2 := hide hB2
  clear hg hB2 hgF
  go_wp2_with fail
  go_loopg [8] n (fun gg s8 wr => ∃ k : Nat, s8 = .int .i64 k ∧ 1 ≤ k ∧ k ≤ n ∧ n - k ≤ gg ∧ Aside (wr.heap[g]? = some (.cells (onesV k n).toArray 3 (0, 0))) ∧ Aside (Below g w' wr))
  case atStart => exact ⟨1, rfl, Nat.le_refl _, h1, by omega, HG4.out, HB2.out⟩
  case round =>
    obtain ⟨k, rfl, hk1, hkn, hgg, HG, HB⟩ := hrel
    by_cases hlt : k < n
    · have hltz : (k : Int) < (n : Int) := by omega
      obtain ⟨m, hm⟩ : ∃ m, m = Nat.min k (n - k) := ⟨_, rfl⟩
      have hm1 : 1 ≤ m ∧ k + m ≤ n := by rw [hm]; simp only [Nat.min_def]; split <;> omega
      have s1 : Hid (wr.drew.heap[g]? = some (.cells (onesV k n).toArray 3 (0, 0))) := HG.out
      have s2 : Hid ((List.replicate m (Value.int .i64 1)).length = Nat.min k (n - k)) := by show _ = _; rw [List.length_replicate]; exact hm
      have hcell : ∀ j, j < k → wr.drew.cell? ⟨g, j, none⟩ = some (.int .i64 1) := fun j hj => by
        have e := s1.out
        unfold World.cell?
        simp only [e]
        have : (onesV k n)[j]? = some (.int .i64 1) := by unfold onesV; rw [List.getElem?_append_left (by simpa using hj)]; simp [hj]
        simpa using this
      have s3 : Hid (∀ j v, (List.replicate m (Value.int .i64 1))[j]? = some v → wr.drew.cell? ⟨g, j, none⟩ = some v) := fun j v hj => by
        have hjm : j < m := by have := (List.getElem?_eq_some_iff.1 hj).1; simpa using this
        rw [List.getElem?_replicate, if_pos hjm] at hj
        injection hj with hj
        subst hj
        exact hcell j (by have : m ≤ k := by rw [hm]; exact Nat.min_le_left _ _
                          omega)
      have s4 : Hid (k + (List.replicate m (Value.int .i64 1)).length ≤ (onesV k n).length) := by show _ ≤ _; simp [onesV]; omega
      have s5 : Hid (∀ v ∈ List.replicate m (Value.int .i64 1), v.oneCell' = true) := fun v hv => by rw [List.eq_of_mem_replicate hv]; rfl
      have s6 : Hid (Below g w' wr.drew) := HB.out.drew
      have s7 : Hid (splice (onesV k n) k (List.replicate m (.int .i64 1)) = onesV (k + m) n) := onesV_splice hm1.2
      have t3 : IntKind.i64.wrap ((k : Int) + (m : Int)) = ((k + m : Nat) : Int) := by rw [IntKind.wrap_i64]; omega
      have hkc : ¬ n = k := by omega
      have hm2 := hm1.1
      have hm3 := hm1.2
      clear hm hm1 HG HB hcell
      go_wp2_with fail
      go_region_law (refine step_copy_splice rfl (.tmp 41) (.tmp 44) 28 28 rfl 3 und_ints size_ints (some ⟨g, k, none⟩) (some ⟨g, 0, none⟩) (n - k) (n - k) k n (by simp [Act.eval, Act.put, *]) (by simp [Act.eval, Act.put, *]) g k (onesV k n) 3 s1.out (List.replicate m (.int .i64 1)) s2.out (fun _ => ⟨rfl, _, rfl, fun j v hj => by rw [Addr.add_lit, Nat.zero_add]; exact s3.out j v hj⟩) s4.out s5.out g w' s6.out (Nat.le_refl _) ?_; intro w4 hg4 hb4)
      clear s1 s2 s3 s4 s5 s6
      have HG5 := hg4.out
      rw [s7.out] at HG5
      have HG6 := hide HG5
      have HB6 := hide hb4
      clear hg4 hb4 HG5 s7
      go_wp2_with fail
      go_roundg (n - (k + m))
      case measure => omega
      case rel => exact ⟨k + m, by first | rfl | go_num, by omega, by omega, by omega, HG6.out, HB6.out⟩
    · have hltz : ¬ (k : Int) < (n : Int) := by omega
      have hk : k = n := by omega
      subst hk
      go_wp2_with fail
      go_ret
      refine ⟨_, rfl, ?_, ?_⟩
      · have e : (List.replicate k (1 : Int)).flatMap intE = onesV k k := by rw [flat_map]; simp [onesV]
        unfold IOwn
        rw [e, List.length_replicate]
        exact own_heap (by have := HGG.out; omega) HG.out (by simp [onesV]) (by omega)
      · have := HB.out; rw [HGG.out] at this; exact this
end Go.Proofs.YtpfagdmmhgcmnaaGreatDoor

namespace Go.Proofs.YtpfagdmmhgcmnaaGreatDoor
open Go.RowKit
theorem ints_one (xs : List Int) : ∀ u ∈ xs.flatMap intE, u.oneCell' = true := by
 intro u hu
 obtain ⟨x, _, h⟩ := List.mem_flatMap.1 hu
 simp only [intE, List.mem_cons, List.not_mem_nil, or_false] at h
 subst h; rfl
theorem left_get (total sum : Int) (vs : List Int) (k : Nat) : (leftL total sum vs).getD k 0 = total * vs.getD k 0 % sum := by
 unfold leftL
 rw [List.getD_eq_getElem?_getD, List.getD_eq_getElem?_getD, List.getElem?_map]
 cases vs[k]? <;> simp
theorem mul_in {a b : Int} (ha : 0 ≤ a ∧ a ≤ 100000) (hb : 0 ≤ b ∧ b ≤ 100000) : 0 ≤ a * b ∧ a * b ≤ 10000000000 := by
 refine ⟨Int.mul_nonneg ha.1 hb.1, ?_⟩
 have h1 : a * b ≤ 100000 * b := Int.mul_le_mul_of_nonneg_right ha.2 hb.1
 omega
theorem shr_less (total sum : Int) (vs : List Int) (T Wb Sb b o c g n : Nat) (w : World) (ht : 0 ≤ total ∧ total ≤ 100000) (hv : ∀ x ∈ vs, 0 ≤ x ∧ x ≤ 100000) (hs : 0 < sum ∧ sum ≤ 100000000) (hn : vs.length = n)
  (cT : w.cell? ⟨T, 0, none⟩ = some (.int .i64 total)) (cW : w.cell? ⟨Wb, 0, none⟩ = some (.slice (some ⟨b, o, none⟩) n c)) (cS : w.cell? ⟨Sb, 0, none⟩ = some (.int .i64 sum))
  (hr : Rd intR w (some ⟨b, o, none⟩) vs) (nT : T ≠ g) (nW : Wb ≠ g) (nS : Sb ≠ g) (nb : b ≠ g) (hnn : n ≤ 1000) :
  CmpOk 158 #[.pointer (some ⟨T, 0, none⟩), .pointer (some ⟨Wb, 0, none⟩), .pointer (some ⟨Sb, 0, none⟩)] (leftL total sum vs) n g w := by
 intro W x y hG hx hy
 have keep : ∀ (B i : Nat) (v : Value), B ≠ g → w.cell? ⟨B, i, none⟩ = some v → W.cell? ⟨B, i, none⟩ = some v := fun B i v hB hc => by
  have hlt := World.block_lt_of_cell? w _ hc
  rw [World.cell?_of_block (hG.block B hlt (fun e => by injection e with e; exact hB e))]
  exact hc
 have dT := keep T 0 _ nT cT
 have dW := keep Wb 0 _ nW cW
 have dS := keep Sb 0 _ nS cS
 obtain ⟨b1, o1, e1, _, c1⟩ := rd_int hr (brefl _) x (by omega)
 obtain ⟨b2, o2, e2, _, c2⟩ := rd_int hr (brefl _) y (by omega)
 injection e1 with e1; injection e1 with e1 e1'; subst e1; subst e1'
 injection e2 with e2; injection e2 with e2 e2'; subst e2; subst e2'
 have d1 := keep _ _ _ nb c1
 have d2 := keep _ _ _ nb c2
 have hvx := int_at hv x (by omega)
 have hvy := int_at hv y (by omega)
 have hcz : cmpZ (leftL total sum vs) x y = (if total * vs.getD y 0 % sum < total * vs.getD x 0 % sum then -1 else if total * vs.getD x 0 % sum < total * vs.getD y 0 % sum then 1 else 0) := by
  unfold cmpZ; rw [left_get, left_get]
 rw [hcz]
 generalize vs.getD x 0 = p at d1 hvx ⊢
 generalize vs.getD y 0 = q at d2 hvy ⊢
 obtain ⟨m1, m2⟩ := mul_in ht hvx
 obtain ⟨m3, m4⟩ := mul_in ht hvy
 have hcmp := impl_Compare (total * q % sum) (total * p % sum)
 have r1 : (total * p).tmod sum = total * p % sum := Int.tmod_eq_emod_of_nonneg m1
 have r2 : (total * q).tmod sum = total * q % sum := Int.tmod_eq_emod_of_nonneg m3
 have l1 := Int.emod_nonneg (total * p) (show sum ≠ 0 by omega)
 have l2 := Int.emod_nonneg (total * q) (show sum ≠ 0 by omega)
 have u1 := Int.emod_lt_of_pos (total * p) hs.1
 have u2 := Int.emod_lt_of_pos (total * q) hs.1
 have t1 : IntKind.i64.wrap (total * p) = total * p := by rw [IntKind.wrap_i64]; omega
 have t2 : IntKind.i64.wrap (total * q) = total * q := by rw [IntKind.wrap_i64]; omega
 have hs0 : ¬ sum = 0 := by omega
 have hs1 : (sum == 0) = false := by simp; omega
 generalize hP : total * p = P at *
 generalize hQ : total * q = Q at *
 have t3 : IntKind.i64.wrap (P.tmod sum) = P % sum := by rw [r1, IntKind.wrap_i64]; omega
 have t4 : IntKind.i64.wrap (Q.tmod sum) = Q % sum := by rw [r2, IntKind.wrap_i64]; omega
 have z1 : (x : Int) < (n : Int) := by omega
 have z2 : (y : Int) < (n : Int) := by omega
 have HP := hide hP
 have HQ := hide hQ
 generalize (if Q % sum < P % sum then (-1 : Int) else if P % sum < Q % sum then 1 else 0) = cz at hcmp ⊢
 have HC := hide hcmp
 clear hr keep cT cW cS c1 c2 hG hcz m1 m2 m3 m4 l1 l2 u1 u2 hv hcmp hvx hvy ht
 show Calls _ _ #[.int .i64 (x : Int), .int .i64 (y : Int), .pointer (some ⟨T, 0, none⟩), .pointer (some ⟨Wb, 0, none⟩), .pointer (some ⟨Sb, 0, none⟩)] W _
 go_enter Tryz.func158, Tryz.ntmps158
 go_wp2_with fail
 go_quiet (first | (go_at_call 159; refine Calls.quiet_of_same (HC.out _)))
 go_wp2_with fail
 go_ret
 exact ⟨rfl, _, rfl⟩
end Go.Proofs.YtpfagdmmhgcmnaaGreatDoor

namespace Go.Proofs.YtpfagdmmhgcmnaaGreatDoor
open Go.RowKit
theorem ones_zero {ws : List Int} (h : sumI ws = 0) : ones ws = List.replicate ws.length 1 := by
 unfold ones; rw [if_pos h, List.map_const']
theorem ones_some {ws : List Int} (h : ¬ sumI ws = 0) : ones ws = ws := by unfold ones; rw [if_neg h]
theorem ones_in {ws : List Int} (h : ∀ x ∈ ws, 0 ≤ x ∧ x ≤ 100000) : ∀ x ∈ ones ws, 0 ≤ x ∧ x ≤ 100000 := by
 unfold ones
 split
 ·
  intro x hx
  obtain ⟨y, _, rfl⟩ := List.mem_map.1 hx
  decide
 ·
  exact h
def fillL {α : Type} (d : α) (xs : List α) (k : Nat) : List α := xs.take k ++ List.replicate (xs.length - k) d
theorem fillL_length {α : Type} (d : α) (xs : List α) (k : Nat) (h : k ≤ xs.length) : (fillL d xs k).length = xs.length := by simp [fillL]; omega
theorem fillL_all {α : Type} (d : α) (xs : List α) : fillL d xs xs.length = xs := by simp [fillL]
theorem fillL_set {α : Type} (d : α) (xs : List α) (k : Nat) (h : k < xs.length) : (fillL d xs k).set k xs[k] = fillL d xs (k + 1) := by
 unfold fillL
 rw [show xs.length - k = (xs.length - (k + 1)) + 1 by omega, List.replicate_succ, List.set_append_right _ _ (by simp; omega), List.take_succ_eq_append_getElem h]
 simp only [List.length_take, show k - min k xs.length = 0 by omega, List.set_cons_zero, List.append_assoc, List.cons_append, List.nil_append]
theorem fillL_setD {α : Type} (d d' : α) (xs : List α) (k : Nat) (h : k < xs.length) : (fillL d xs k).set k (xs.getD k d') = fillL d xs (k + 1) := by
 rw [List.getD_eq_getElem?_getD, List.getElem?_eq_getElem h]; exact fillL_set d xs k h
theorem parts_get (total sum : Int) (vs : List Int) (k : Nat) : (partsL total sum vs).getD k 0 = total * vs.getD k 0 / sum := by
 unfold partsL
 rw [List.getD_eq_getElem?_getD, List.getD_eq_getElem?_getD, List.getElem?_map]
 cases vs[k]? <;> simp
theorem IOwn.other {w : World} {base g c n : Nat} {xs : List Int} (h : IOwn w base (.slice (some ⟨g, 0, none⟩) n c) xs) {a : Addr} (ha : a.block ≠ g) (u : Value) : IOwn (w.setCell a u) base (.slice (some ⟨g, 0, none⟩) n c) xs :=
 own_keep h fun b hb => heap_set w a u b (by simp [Value.ownBlock] at hb; omega)
theorem IOwn.grow {w w' : World} {base g c n R : Nat} {xs : List Int} (h : IOwn w base (.slice (some ⟨g, 0, none⟩) n c) xs) (hg : w.grownBy w' (some R)) (hR : R ≠ g) : IOwn w' base (.slice (some ⟨g, 0, none⟩) n c) xs :=
 own_keep h fun b hb => hg.block b (own_lt h hb).2 (fun e => by injection e with e; simp [Value.ownBlock] at hb; omega)
theorem NRow.store {w : World} {base g c n : Nat} {L : List Nat} (h : NRow w base g c n L) (j y : Nat) : NRow (w.setCell ⟨g, j, none⟩ (.int .i64 (y : Int))) base g c n (L.set j y) := by
 refine ⟨by simpa using h.1, ?_⟩
 rw [List.map_set]
 exact (World.ownsRow.stored h.2 j (natV y)).1
theorem NRow.other {w : World} {base g c n : Nat} {L : List Nat} (h : NRow w base g c n L) {a : Addr} (ha : a.block ≠ g) (u : Value) : NRow (w.setCell a u) base g c n L :=
 ⟨h.1, own_keep h.2 fun b hb => heap_set w a u b (by simp [Value.ownBlock] at hb; omega)⟩
theorem IOwn.len {w : World} {base : Nat} {A : Option Addr} {c n : Nat} {xs : List Int} (h : IOwn w base (.slice A n c) xs) : n = xs.length := by obtain ⟨_, _, e⟩ := h.form; injection e
theorem IOwn.at_rd {w : World} {base g c n : Nat} {xs : List Int} (h : IOwn w base (.slice (some ⟨g, 0, none⟩) n c) xs) : Rd intR w (some ⟨g, 0, none⟩) xs := by
 obtain ⟨A, c', e, _, hr⟩ := h.rd
 injection e with e1
 rw [e1]; exact hr
theorem made_ints (W : World) (base n : Nat) (hb : base ≤ W.heap.size) (hn : n ≤ 1000000) : IOwn (W.alloc (.cells (madeCells (Value.int .i64 0).cells (n * 1)) 3)) base (.slice (some ⟨W.heap.size, 0, none⟩) n n) (List.replicate n 0) := by
 have h := made_own W base (Value.int .i64 0).cells 1 n 3 hb (by omega)
 have e : (madeCells (Value.int .i64 0).cells (n * 1)).toList = (List.replicate n (0 : Int)).flatMap intE := by
  rw [flat_map]
  refine List.ext_getElem (by simp [madeCells]) fun i h1 h2 => ?_
  simp [madeCells, Value.cells, Nat.mod_one]
 unfold IOwn
 rw [List.length_replicate, ← e]
 exact h
theorem made_nats (W : World) (base n : Nat) (hb : base ≤ W.heap.size) (hn : n ≤ 1000000) : NRow (W.alloc (.cells (madeCells (Value.int .i64 0).cells (n * 1)) 3)) base W.heap.size n n (List.replicate n 0) := by
 have h := made_ints W base n hb hn
 unfold IOwn at h
 rw [List.length_replicate] at h
 refine ⟨by simp, ?_⟩
 have e : (List.replicate n (0 : Int)).flatMap intE = (List.replicate n 0).map natV := by rw [flat_map]; simp [natV]
 rw [← e]
 exact h
theorem IOwn.drewN {w : World} {base : Nat} {v : Value} {xs : List Int} (h : IOwn w base v xs) (q : Nat) : IOwn (w.drewN q) base v xs := own_drewN h q
theorem bdrewN {w W : World} (h : Below w.heap.size w W) : ∀ q, Below w.heap.size w (W.drewN q)
 | 0 => h
 | q + 1 => by
  have := bdrewN (bdrew h) q
  rw [show q + 1 = 1 + q by omega]; simpa using this
theorem plus1_le : ∀ (is : List Nat) (out : List Int) (j : Nat), (plus1 out is).getD j 0 ≤ out.getD j 0 + is.length
 | [], _, _ => by simp [plus1]
 | i :: is, out, j => by
  rw [plus1]
  refine Int.le_trans (plus1_le is _ j) ?_
  rw [List.length_cons]
  have : (out.set i (out.getD i 0 + 1)).getD j 0 ≤ out.getD j 0 + 1 := by
   simp only [List.getD_eq_getElem?_getD, List.getElem?_set]
   by_cases e : i = j
   ·
    subst e
    by_cases h : i < out.length
    ·
     simp [h]
    ·
     simp [h]
   ·
    simp [e]
    omega
  omega
theorem plus1_take {ord : List Nat} {j : Nat} (h : j < ord.length) (out : List Int) : plus1 out (ord.take (j + 1)) = (plus1 out (ord.take j)).set (ord.getD j 0) ((plus1 out (ord.take j)).getD (ord.getD j 0) 0 + 1) := by
 rw [List.take_succ_eq_append_getElem h, plus1_append, List.getD_eq_getElem?_getD (l := ord), List.getElem?_eq_getElem h]
 rfl
set_option maxRecDepth 100000 in
set_option maxHeartbeats 8000000 in
theorem impl_ShrShare (total : Int) (A : Option Addr) (c : Nat) (ws : List Int) (w : World) (hr : Rd intR w A ws) (h : ShrIn total ws) (hn : 0 < ws.length) :
  Calls Tryz.prog 129 #[.int .i64 total, .slice A ws.length c] w (fun e w' => ∃ v, e = .returned v ∧ IOwn w' w.heap.size v (share total ws) ∧ Below w.heap.size w w') := by
 have hOK := fun (W : World) (hb : Below w.heap.size w W) => impl_ShrOk total A c ws W (hr.below hb) h
 have hSUM := fun (W : World) (hb : Below w.heap.size w W) => impl_sumOf A c ws W (hr.below hb) (fun x hx => by have := h.2.1 x hx; omega) (by have := h.2.2; omega)
 have HR := hide hr
 have HI := hide h
 have hln := h.2.2
 have hn1 : (((ws.length : Nat) : Int) == 0) = false := by rw [beq_eq_false_iff_ne]; omega
 obtain ⟨n, hnn⟩ : ∃ n, n = ws.length := ⟨_, rfl⟩
 have HN := hide hnn
 rw [← hnn] at hOK hSUM hn hn1 hln ⊢
 clear hr h hnn
 go_enter Tryz.func129, Tryz.ntmps129
 go_wp2_with fail
 refine (hOK _ (balloc (balloc (brefl _) _) _)).mono ?_
 rintro e w1 ⟨rfl, hb1⟩
 obtain ⟨c0, f0, s0⟩ := seenBk w.heap.size (by first | (simp; omega) | simp [*]) hb1
 obtain ⟨c1, f1, s1⟩ := seenBk (w.heap.size + 1) (by first | (simp; omega) | simp [*]) hb1
 have HB1 := step (balloc (balloc (brefl w) _) _) hb1
 have d0 : w1.cell? ⟨w.heap.size, 0, none⟩ = some (.int .i64 total) := by simp [c0]
 have d1 : w1.cell? ⟨w.heap.size + 1, 0, none⟩ = some (.slice A n c) := by simp [c1]
 have d2 : w1.frozen? ⟨w.heap.size + 1, 0, none⟩ = false := by simp [f1]
 clear c0 f0 c1 f1 hOK hb1
 have hS1 := hSUM w1 HB1
 have HB1 := hide HB1
 clear hSUM
 generalize hsum : sumI ws = s at hS1
 have HS := hide hsum
 clear hsum
 go_upto_if 23 with (go_at_call 112; refine hS1.mono ?_; rintro e w9 ⟨rfl, hw9⟩; obtain rfl := hw9.symm)
 go_cut [] from 23 to 27 (fun wx => ∃ (b' o' c' : Nat), Below w.heap.size w wx ∧ wx.cell? ⟨w.heap.size, 0, none⟩ = some (.int .i64 total) ∧ wx.cell? ⟨w.heap.size + 1, 0, none⟩ = some (.slice (some ⟨b', o', none⟩) n c') ∧ Rd intR wx (some ⟨b', o', none⟩) (ones ws) ∧ b' < wx.heap.size ∧ w.heap.size + 1 < wx.heap.size)
 case first =>
  by_cases hz : s = 0
  ·
   have hz1 : (s == 0) = true := by simp [hz]
   have HO := hide (ones_zero (HS.out.trans hz))
   clear hz hS1
   have hrep := fun (b : Nat) (W : World) (hc : W.cell? ⟨b, 0, none⟩ = some (.int .i64 1)) => rep_ones b n W hc (by omega) (by omega)
   go_wp2_with fail
   refine (hrep w1.heap.size _ (by simp)).mono ?_
   rintro e w2 ⟨v, rfl, hO, hb2⟩
   obtain ⟨g, c', rfl, hg1, hg2, hg3, hg4⟩ := hO.at (by simp; omega)
   have e0 := keepC hb2 (show (w1.alloc (.cells #[.int .i64 1] 3)).cell? ⟨w.heap.size, 0, none⟩ = some (.int .i64 total) from keepC (balloc (brefl _) _) d0)
   have e1 := keepC hb2 (show (w1.alloc (.cells #[.int .i64 1] 3)).cell? ⟨w.heap.size + 1, 0, none⟩ = some (.slice A n c) from keepC (balloc (brefl _) _) d1)
   have e2 : w2.frozen? ⟨w.heap.size + 1, 0, none⟩ = false := ((seenBk (w.heap.size + 1) (by simp; omega) hb2).2.1 0).trans (((seenBk _ s1 (balloc (brefl w1) (.cells #[.int .i64 1] 3))).2.1 0).trans d2)
   have HO2 := hide hO
   have HB2 := hide (step (balloc HB1.out _) hb2)
   have hl1 : w.heap.size + 1 < w2.heap.size := by have := hb2.size; simp at this; omega
   have hl2 : w1.heap.size + 1 ≤ g := by simpa using hg1
   clear hO hb2 hg1 hg3 hg4
   simp only [List.length_replicate] at HO2 ⊢
   go_wp2_with fail
   go_meet
   case rel =>
    refine ⟨g, 0, c', bset HB2.out (by show w.heap.size ≤ w.heap.size + 1; omega) _, setO e0 (by simp), setS e1, ?_, by simpa using hg2, by simpa using hl1⟩
    rw [HO.out, ← HN.out]
    exact (IOwn.other HO2.out (by show w.heap.size + 1 ≠ g; omega) _).at_rd
  ·
   have hz1 : (s == 0) = false := by simp [hz]
   have HO := hide (ones_some (ws := ws) (by rw [HS.out]; exact hz))
   clear hz hS1
   have hr1 := HR.out.below HB1.out
   obtain ⟨b, o, e, hlb, _⟩ := hr1.2 (by intro e; have := HN.out; rw [e] at this; simp at this; omega)
   subst e
   have HR1 := hide hr1
   clear hr1
   go_wp2_with fail
   go_meet
   case rel => exact ⟨b, o, c, HB1.out, d0, d1, by rw [HO.out]; exact HR1.out, hlb, s1⟩
 case rest =>
 obtain ⟨b', o', c', hBc, cT, cW, hRc, hlb, hls⟩ := hcut
 have hvl : (ones ws).length = n := by rw [ones_length, HN.out]
 have hvb := ones_in HI.out.2.1
 obtain ⟨hp1, hp2⟩ := ones_pos (ws := ws) (fun x hx => (HI.out.2.1 x hx).1) (by intro e; have := HN.out; rw [e] at this; simp at this; omega)
 have HSH : Hid (share total ws = shareW total (ones ws)) := rfl
 have ht := HI.out.1
 generalize ones ws = vs at hRc hvl hvb hp1 HSH
 clear hp2 HR HI HS HB1 hS1 d0 d1 d2 s0 s1
 have hsb := sum_bound (B := 100000) hvb vs.length
 rw [List.take_length, hvl] at hsb
 have hS2 := impl_sumOf (some ⟨b', o', none⟩) c' vs wc hRc (fun x hx => by have := hvb x hx; omega) (by omega)
 rw [hvl] at hS2
 obtain ⟨S, hS⟩ : ∃ S, sumI vs = S := ⟨_, rfl⟩
 rw [hS] at hS2 hp1 hsb
 have hSle : S ≤ 100000000 := by have := hsb.2; omega
 have hmk := make_eq (P := Tryz.prog) (z := .int .i64 0) (k := 1) (bytes := 8) und_ints info_ints n (by omega) (by omega)
 have q1 : w.heap.size + 1 < wc.heap.size + 1 := by omega
 have q2 : w.heap.size + 1 < wc.heap.size + 1 + 1 := by omega
 have q3 : w.heap.size < wc.heap.size := by omega
 have q4 : w.heap.size < wc.heap.size + 1 := by omega
 have q5 : w.heap.size < wc.heap.size + 1 + 1 := by omega
 have HBC := hide hBc
 have HRC := hide hRc
 have HSS := hide hS
 have HVL := hide hvl
 have HVB := hide hvb
 clear hBc hRc hS hvl hvb hsb
 go_upto_region 6 with (go_at_call 112; refine hS2.mono ?_; rintro e w9 ⟨rfl, hw9⟩; obtain rfl := hw9.symm)
 clear hS2
 go_wp2_with fail
 generalize hW3 : ((wc.alloc _).alloc _).alloc _ = W3
 obtain ⟨B, hB⟩ : ∃ B, B = wc.heap.size := ⟨_, rfl⟩
 have FW : Hid (Below wc.heap.size wc W3 ∧ W3.cell? ⟨B, 0, none⟩ = some (.int .i64 S) ∧ IOwn W3 (B + 1) (.slice (some ⟨B + 1, 0, none⟩) n n) (List.replicate n 0) ∧ NRow W3 (B + 1) (B + 2) n n (List.replicate n 0) ∧ B + 2 < W3.heap.size) := by
  subst hW3; subst hB
  have e1 : (wc.alloc (.cells #[.int .i64 S] 3)).heap.size = wc.heap.size + 1 := by simp
  have e2 : ((wc.alloc (.cells #[.int .i64 S] 3)).alloc (.cells (madeCells (Value.int .i64 0).cells n) 3)).heap.size = wc.heap.size + 1 + 1 := by simp
  have m1 := made_ints (wc.alloc (.cells #[.int .i64 S] 3)) (wc.heap.size + 1) n (Nat.le_of_eq e1.symm) (by omega)
  have m2 := made_nats ((wc.alloc (.cells #[.int .i64 S] 3)).alloc (.cells (madeCells (Value.int .i64 0).cells n) 3)) (wc.heap.size + 1) n (by rw [e2]; omega) (by omega)
  rw [Nat.mul_one] at m1 m2
  rw [e1] at m1
  rw [e2] at m2
  exact ⟨balloc (balloc (balloc (brefl _) _) _) _, keepC (balloc (brefl _) _) (keepC (balloc (brefl _) _) (cell_new wc _ _ _ 0 _ rfl)), m1.below (balloc (brefl _) _), m2, by simp⟩
 rw [← hB]
 have hB2 : B + 1 + 1 = B + 2 := rfl
 rw [hB2]
 have hBl1 : w.heap.size + 1 < B := by omega
 have hBl2 : b' < B := by omega
 have HBB := hide hB
 clear hW3 hB q1 q2 q3 q4 q5 hlb hls hmk hB2
 have fl0 : Hid (fillL 0 (partsL total S vs) 0 = List.replicate n 0) := by show fillL _ _ _ = _; unfold fillL; rw [List.take_zero, List.nil_append, Nat.sub_zero, show (partsL total S vs).length = n by simp [partsL, HVL.out]]
 have fl1 : Hid (fillL 0 (List.range n) 0 = List.replicate n 0) := by show fillL _ _ _ = _; unfold fillL; simp
 go_loopg [8, 9, 38] n (fun gg s8 s9 s38 wr => ∃ k : Nat, s38 = .int .i64 k ∧ k ≤ n ∧ n - k ≤ gg ∧ Aside (Below wc.heap.size wc wr) ∧ wr.cell? ⟨B, 0, none⟩ = some (.int .i64 S) ∧ Aside (IOwn wr (B + 1) (.slice (some ⟨B + 1, 0, none⟩) n n) (fillL 0 (partsL total S vs) k)) ∧ Aside (NRow wr (B + 1) (B + 2) n n (fillL 0 (List.range n) k)) ∧ Aside (B + 2 < wr.heap.size))
 case atStart => exact ⟨0, rfl, Nat.zero_le _, by omega, FW.out.1, FW.out.2.1, by rw [fl0.out]; exact FW.out.2.2.1, by rw [fl1.out]; exact FW.out.2.2.2.1, FW.out.2.2.2.2⟩
 case round =>
  obtain ⟨k, rfl, hkn, hgg, BW, cS, HO, HP, HL⟩ := hrel
  clear FW fl0 fl1
  have cT1 := keepC BW.out cT
  have cW1 := keepC BW.out cW
  by_cases hlt : k < n
  ·
   have hltz : (k : Int) < (n : Int) := by omega
   have hHL := HL.out
   obtain ⟨b1, o1, e1, _, c1⟩ := rd_int HRC.out BW.out k (by rw [HVL.out]; exact hlt)
   injection e1 with e1; injection e1 with e1 e1'; subst e1; subst e1'
   have hpl : (partsL total S vs).length = n := by simp [partsL, HVL.out]
   have x1 := HO.out.cell (j := k) (by rw [fillL_length _ _ _ (by omega), hpl]; exact hlt)
   have x2 := HO.out.frozen k
   have y1 : wr.cell? ⟨B + 2, k, none⟩ = some (.int .i64 ((fillL 0 (List.range n) k).getD k 0 : Nat)) := by
    have hl := HP.out.1
    have := World.ownsRow.cellAt HP.out.2 k (by omega)
    rw [this, List.getElem?_map, List.getElem?_eq_getElem (by omega), List.getD_eq_getElem?_getD, List.getElem?_eq_getElem (by omega)]
    rfl
   have y2 : wr.frozen? ⟨B + 2, k, none⟩ = false := World.ownsRow.frozenAt HP.out.2 k
   have hst1 := fillL_setD 0 0 (partsL total S vs) k (by omega)
   have hst2 := fillL_setD 0 0 (List.range n) k (by simpa using hlt)
   rw [parts_get] at hst1
   have hrg : (List.range n).getD k 0 = k := by rw [List.getD_eq_getElem?_getD, List.getElem?_range hlt]; rfl
   rw [hrg] at hst2
   have hv := int_at HVB.out k (by rw [HVL.out]; exact hlt)
   generalize vs.getD k 0 = v at c1 hst1 hv
   generalize (fillL 0 (partsL total S vs) k).getD k 0 = ov at x1
   generalize (fillL 0 (List.range n) k).getD k 0 = nv at y1
   obtain ⟨m1, m2⟩ := mul_in ht hv
   have r1 : (total * v).tdiv S = total * v / S := Int.tdiv_eq_ediv_of_nonneg m1
   have u1 : 0 ≤ total * v / S := Int.ediv_nonneg m1 (by omega)
   have u2 : total * v / S ≤ total * v := Int.ediv_le_self _ m1
   have t1 : IntKind.i64.wrap (total * v) = total * v := by rw [IntKind.wrap_i64]; omega
   generalize hP : total * v = P at *
   have t2 : IntKind.i64.wrap (P.tdiv S) = P / S := by rw [r1, IntKind.wrap_i64]; omega
   have hs0 : (S == 0) = false := by rw [beq_eq_false_iff_ne]; omega
   have n1 : ¬ B + 1 = B + 2 := by omega
   have n2 : ¬ B + 2 = B + 1 := by omega
   have HPP := hide hP
   have HS1 := hide hst1
   have HS2 := hide hst2
   have b1 : B + 1 < wr.heap.size := by omega
   have b2 : B + 2 < wr.heap.size := hHL
   clear m1 m2 u1 u2 r1 hv hst1 hst2 hrg hpl hHL
   go_wp2_with fail
   go_roundg (n - (k + 1))
   case measure => omega
   case rel =>
    have e1 := HS1.out
    have e2 := HS2.out
    refine ⟨k + 1, by go_num, by omega, by omega, bset (bset BW.out (by have := HBB.out; show wc.heap.size ≤ B + 1; omega) _) (by have := HBB.out; show wc.heap.size ≤ B + 2; omega) _, setO (setO cS (by simp)) (by simp), ?_, ?_, (show Aside _ from by show B + 2 < _; simpa using HL.out)⟩
    ·
     rw [← e1]
     exact IOwn.other (IOwn.store HO.out k _) (by show B + 2 ≠ B + 1; omega) _
    ·
     rw [← e2]
     exact NRow.store (NRow.other HP.out (by show B + 1 ≠ B + 2; omega) _) k k
  ·
   have hltz : ¬ (k : Int) < (n : Int) := by omega
   have hk : k = n := by omega
   subst hk
   have hO := HO.out
   have hP := HP.out
   rw [show fillL 0 (partsL total S vs) k = partsL total S vs by have := fillL_all 0 (partsL total S vs); rwa [show (partsL total S vs).length = k by simp [partsL, HVL.out]] at this] at hO
   rw [show fillL 0 (List.range k) k = List.range k by have := fillL_all 0 (List.range k); rwa [List.length_range] at this] at hP
   have hless := shr_less total S vs w.heap.size (w.heap.size + 1) B b' o' c' (B + 2) k wr ht HVB.out ⟨hp1, hSle⟩ HVL.out cT1 cW1 cS (HRC.out.below BW.out) (by omega) (by omega) (by omega) (by omega) (by omega)
   have hsrt := srt_SortStable wr (B + 1) (B + 2) k k 158 #[.pointer (some ⟨w.heap.size, 0, none⟩), .pointer (some ⟨w.heap.size + 1, 0, none⟩), .pointer (some ⟨B, 0, none⟩)] (leftL total S vs) (enters_of Tryz.func158 (by kernel_rfl) rfl) hless (by omega) wr (List.range k) ⟨hP, grow_refl _ _, fun x hx => List.mem_range.1 hx⟩
   obtain ⟨hsp1, hsp2⟩ := stable_spec (leftL total S vs) k
   have hlo : (stableL (leftL total S vs) k (List.range k)).length = k := by rw [hsp2.length_eq, List.length_range]
   generalize stableL (leftL total S vs) k (List.range k) = ord at hsrt hsp1 hsp2 hlo
   have HO2 := hide hO
   have HX := hide (And.intro hsp1 hsp2)
   have HLO := hide hlo
   have hmf := @run_mkf Tryz.prog
   clear HO HP hO hP hless hsp1 hsp2 hlo
   go_wp2_with fail
   refine hsrt.mono ?_
   rintro _ w4 ⟨rfl, HS4⟩
   have hO4 := HO2.out.grow HS4.grow (by omega)
   have hpb : ∀ x ∈ partsL total S vs, 0 ≤ x ∧ x ≤ 1000000 := by
    intro x hx
    obtain ⟨y, hy, rfl⟩ := List.mem_map.1 hx
    have hv := HVB.out y hy
    obtain ⟨m1, m2⟩ := mul_in ht hv
    refine ⟨Int.ediv_nonneg m1 (by omega), ?_⟩
    -- a part is no more than the total
    have h1 := sumI_ge (fun z hz => (HVB.out z hz).1) y hy
    rw [HSS.out] at h1
    have h2 : total * y ≤ total * S := Int.mul_le_mul_of_nonneg_left h1 ht.1
    have h3 : total * y / S ≤ total * S / S := Int.ediv_le_ediv hp1 h2
    rw [Int.mul_ediv_cancel _ (by omega)] at h3
    omega
   obtain ⟨rb1, rb2⟩ := rest_bounds (total := total) (ws := vs) (by rw [HSS.out]; exact hp1)
   rw [HSS.out] at rb1 rb2
   rw [HVL.out] at rb2
   have hpl : (partsL total S vs).length = k := by simp [partsL, HVL.out]
   have hsw := shareW_ord (total := total) (ws := vs) (ord := ord) (by rw [HSS.out]; exact HX.out.1) (by rw [HVL.out]; exact HX.out.2) (by rw [HSS.out, HVL.out]; omega)
   rw [HSS.out] at hsw
   have hps0 := (sum_bound (B := 1000000) hpb (partsL total S vs).length).1
   rw [List.take_length] at hps0
   have hsum := fun (q : Nat) => impl_sumOf (some ⟨B + 1, 0, none⟩) k (partsL total S vs) (w4.drewN q) ((hO4.drewN q).at_rd) hpb (by omega)
   rw [hpl] at hsum
   generalize hPS : sumI (partsL total S vs) = ps at rb1 rb2 hsw hsum hps0
   obtain ⟨r, hr⟩ := Int.eq_ofNat_of_zero_le (show 0 ≤ total - ps by omega)
   rw [hr, Int.toNat_natCast] at hsw
   have t1 : IntKind.i64.wrap (total - ps) = (r : Int) := by rw [IntKind.wrap_i64]; omega
   have hrk : r ≤ k := by omega
   have hrk2 : (r : Int) ≤ (k : Int) := by omega
   have HSW := hide (HSH.out.trans hsw)
   have cT4 : w4.cell? ⟨w.heap.size, 0, none⟩ = some (.int .i64 total) := by
    have hlt := World.block_lt_of_cell? wr _ cT1
    rw [World.cell?_of_block (HS4.grow.block w.heap.size hlt (fun e => by injection e with e; omega))]
    exact cT1
   have HO4 := hide hO4
   have HB4 := hide (step HBC.out (BW.out.trans (grown_below HS4.grow (by have := BW.out.size; omega) (fun q hq => by injection hq with hq; have := HBB.out; omega))))
   have HS5 := hide HS4
   have HPL := hide hpl
   have HLT := hide (fun x hx => List.mem_range.1 (HX.out.2.mem_iff.1 hx) : ∀ x ∈ ord, x < k)
   clear hsw hpl hps0 rb1 rb2 hPS hr hpb HS4 hO4 hsrt
   go_wp2_with fail
   go_quiet (first | (go_at_call 112; refine Calls.quiet_of_same (hsum _)))
   go_wp2_with fail
   have HS6 := hide (HS5.out.drewN nq)
   have HO6 : Hid (IOwn (w4.drewN nq) (B + 1) (.slice (some ⟨B + 1, 0, none⟩) k k) (partsL total S vs)) := HO4.out.drewN nq
   have HB6 : Hid (Below w.heap.size w (w4.drewN nq)) := bdrewN HB4.out nq
   clear HS5 HO4 HB4 hsum cT4 t1
   generalize w4.drewN nq = w5 at HS6 HO6 HB6 ⊢
   go_loopg [11, 66] r (fun gg s11 s66 wx => ∃ j : Nat, s66 = .int .i64 j ∧ j ≤ r ∧ r - j ≤ gg ∧ Aside (w5.grownBy wx (some (B + 1))) ∧ Aside (IOwn wx (B + 1) (.slice (some ⟨B + 1, 0, none⟩) k k) (plus1 (partsL total S vs) (ord.take j))))
   case atStart => exact ⟨0, rfl, Nat.zero_le _, by omega, grow_refl _ _, HO6.out⟩
   case round =>
    obtain ⟨j, rfl, hjr, hgj, HG, HO⟩ := hrel
    by_cases hlt : j < r
    ·
     have hltz : (j : Int) < (r : Int) := by omega
     have hx1 := HS6.out.cell (j := j) (by omega)
     have hin := HS6.out.get (j := j) (by omega)
     have hpt := plus1_take (ord := ord) (j := j) (by have := HLO.out; omega) (partsL total S vs)
     have c1 : wr.cell? ⟨B + 2, j, none⟩ = some (.int .i64 (ord.getD j 0 : Nat)) := by
      have hl := World.block_lt_of_cell? w5 _ hx1
      rw [World.cell?_of_block (HG.out.block (B + 2) hl (fun e => by injection e with e; omega))]
      exact hx1
     generalize ord.getD j 0 = i at c1 hin hpt
     have hXl : (plus1 (partsL total S vs) (ord.take j)).length = k := by rw [plus1_length]; exact HPL.out
     have c2 := HO.out.cell (j := i) (by rw [hXl]; exact hin)
     have f2 := HO.out.frozen i
     have hle := plus1_le (ord.take j) (partsL total S vs) i
     have hge := plus1_ge (ord.take j) (partsL total S vs) i
     have hpi : 0 ≤ (partsL total S vs).getD i 0 ∧ (partsL total S vs).getD i 0 ≤ 10000000000 := by
      rw [parts_get]
      have hv := int_at HVB.out i (by rw [HVL.out]; exact hin)
      obtain ⟨m1, m2⟩ := mul_in ht hv
      exact ⟨Int.ediv_nonneg m1 (by omega), Int.le_trans (Int.ediv_le_self _ m1) m2⟩
     have htl : ((ord.take j).length : Int) ≤ 100 := by simp; omega
     generalize (plus1 (partsL total S vs) (ord.take j)).getD i 0 = x at c2 hle hge hpt
     have t1 : IntKind.i64.wrap (x + 1) = x + 1 := by rw [IntKind.wrap_i64]; omega
     have z1 : (i : Int) < (k : Int) := by omega
     have HPT := hide hpt
     clear hle hge hpi htl hpt hx1
     go_wp2_with fail
     go_roundg (r - (j + 1))
     case measure => omega
     case rel => exact ⟨j + 1, by go_num, by omega, by omega, grow_trans HG.out (grow_set _ rfl _), (show Aside _ from by rw [HPT.out]; exact IOwn.store HO.out i _)⟩
    ·
     have hltz : ¬ (j : Int) < (r : Int) := by omega
     have hj : j = r := by omega
     subst hj
     go_wp2_with fail
     go_ret
     refine ⟨_, rfl, ?_, ?_⟩
     ·
      rw [HSW.out]; exact HO.out.base (by omega)
     ·
      exact HB6.out.trans (grown_below HG.out (by have := HB6.out.size; omega) (fun q hq => by injection hq with hq; omega))
end Go.Proofs.YtpfagdmmhgcmnaaGreatDoor
