import Derived.Test.YtfcogogpioeggaaDoorDd
namespace Go.Proofs.YtfcogogpioeggaaDoor
open Go.RowKit
/- The draws of the laws over bytes: any text. -/
section
variable {P : Program} {ops : Array Oper} {Q : Exit → Act → World → Prop} {md : Region.Mode} {S : World → Prop} {L : Nat}
/-- Two operations may come up. -/
theorem wpAnyT_pair {i j : Nat} {oi oj : Oper} {fuel : Nat} {listed : Array Bool} {a : Act} {w : World} (hr : Region.ready md ops listed = [i, j]) (hi : ops[i]? = some oi) (hj : ops[j]? = some oj)
    (h1 : ∀ K' : Act → World → Prop, Shut (∀ a w, (i ≠ L → S w) → wpAnyT P md ops Q S L fuel (listed.setIfInBounds i true) a w → K' a w) → if Region.wanted oi (yielded ops a.tmps) = true then Oper.wp P oi a w K' Q else K' (a.put oi.dst undef) w)
    (h2 : ∀ K' : Act → World → Prop, Shut (∀ a w, (j ≠ L → S w) → wpAnyT P md ops Q S L fuel (listed.setIfInBounds j true) a w → K' a w) → if Region.wanted oj (yielded ops a.tmps) = true then Oper.wp P oj a w K' Q else K' (a.put oj.dst undef) w) :
    wpAnyT P md ops Q S L (fuel + 1) listed a w := by
  refine And.intro (fun h0 => absurd (hr.symm.trans h0) (List.cons_ne_nil _ _)) ?_
  intro k hk
  rw [hr] at hk
  rcases List.mem_cons.1 hk with rfl | hk
  · exact wpOp_step hi (fun K' hK => h1 K' (fun a w h1 h2 => hK a w ⟨h1, h2⟩))
  · rw [List.mem_singleton] at hk
    subst hk
    exact wpOp_step hj (fun K' hK => h2 K' (fun a w h1 h2 => hK a w ⟨h1, h2⟩))
end
def AnyTextPost (R N : Nat) (w : World) (e : Ending) (w' : World) : Prop :=
  ∃ s : ByteArray, e = .returned (.string s) ∧ s.size ≤ 100 ∧ RdrOk w' R N ∧ w.grownBy w' (some R)
theorem words7 (w : World) (T : TypeId) : Words (w.alloc (.cells #[.string ⟨#[32]⟩, .string ⟨#[32, 32]⟩, .string ⟨#[65]⟩, .string ⟨#[49]⟩, .string ⟨#[45]⟩, .string ⟨#[0]⟩, .string ⟨#[97, 98, 99, 100, 101, 102, 103, 104, 105, 106, 97, 98, 99, 100, 101, 102, 103, 104, 105, 106, 97, 98, 99, 100, 101, 102, 103, 104, 105, 106, 120]⟩] T)) w.heap.size 31 7 := by
  intro j hj
  match j, hj with
  | 0, _ => exact ⟨_, by decide, cell_new _ _ _ _ _ _ rfl⟩
  | 1, _ => exact ⟨_, by decide, cell_new _ _ _ _ _ _ rfl⟩
  | 2, _ => exact ⟨_, by decide, cell_new _ _ _ _ _ _ rfl⟩
  | 3, _ => exact ⟨_, by decide, cell_new _ _ _ _ _ _ rfl⟩
  | 4, _ => exact ⟨_, by decide, cell_new _ _ _ _ _ _ rfl⟩
  | 5, _ => exact ⟨_, by decide, cell_new _ _ _ _ _ _ rfl⟩
  | 6, _ => exact ⟨_, by decide, cell_new _ _ _ _ _ _ rfl⟩
  | j + 7, hj => exact absurd hj (by omega)
set_option maxRecDepth 100000 in
set_option maxHeartbeats 4000000 in
theorem rdAnyText (R N : Nat) (n : Int) (w : World) (h : RdrOk w R N) (hN : N ≤ 800000) (hn1 : 1 ≤ n) (hn : n ≤ 1000000) :
    Calls Tryd.prog 113 #[.pointer (some ⟨R, 0, none⟩), .int .i64 n] w (AnyTextPost R (N + 10) w) := by
  have hRl := h.lt
  have HR := hide h
  clear h
  go_enter Tryd.func113, Tryd.ntmps113
  go_wp2_with fail
  refine (rdText R N _ HR.out (by omega)).mono ?_
  rintro e w1 ⟨s, rfl, hs, hR1, hg1⟩
  have H1 := hide (And.intro hR1 hg1)
  clear hR1 hg1
  go_wp2_with fail
  refine (pick R _ n _ H1.out.1 (by omega) hn).mono ?_
  rintro e w2 ⟨k2, rfl, hk02, hk12, hR2, hg2⟩
  have H2 := hide (And.intro hR2 (grow_trans H1.out.2 hg2))
  clear hR2 hg2 hk12
  by_cases z2 : k2 = 0
  · subst z2
    have t1 : IntKind.i64.wrap ((s.size : Int) + 1) = (s.size : Int) + 1 := IntWalk.i64_in _ (by omega)
    go_wp2_with fail
    refine (pick R _ _ _ H2.out.1 (by omega) (by omega)).mono ?_
    rintro e w3 ⟨k3, rfl, hk03, hk13, hR3, hg3⟩
    have hl3 := hk13 (by omega)
    obtain ⟨i, rfl⟩ := Int.eq_ofNat_of_zero_le hk03
    have H3 := hide (And.intro hR3 (grow_trans H2.out.2 hg3))
    have hi : i ≤ s.size := by omega
    have hiz : (i : Int) ≤ (s.size : Int) := by omega
    clear hR3 hg3 hk13 hl3 hk03 t1
    go_wp2_with fail
    refine wp_region_T (S := fun _ => True) (L := 13) (by kernel_rfl) ?_
    have hSd : (fun _ : World => True) w3.drew := trivial
    refine' wpAnyT_take [13] (i := 0) (v := _) rfl (by kernel_rfl) (by kernel_rfl) (by kernel_rfl) (by kernel_rfl) (by kernel_rfl) (by kernel_rfl) (fun _ _ _ h => h) (Or.inl ⟨by rfl, ?hy0⟩) hSd ?_
    case hy0 => (intro w hSw; (try dsimp only at hSw); go_simp) <;> with_reducible rfl
    try simp only [Act.put, List.setIfInBounds_toArray, List.set_cons_zero, List.set_cons_succ]
    refine' wpAnyT_take [13] (i := 1) (v := _) rfl (by kernel_rfl) (by kernel_rfl) (by kernel_rfl) (by kernel_rfl) (by kernel_rfl) (by kernel_rfl) (fun _ _ _ h => h) (Or.inl ⟨by rfl, ?hy1⟩) hSd ?_
    case hy1 => (intro w hSw; (try dsimp only at hSw); go_simp) <;> with_reducible rfl
    try simp only [Act.put, List.setIfInBounds_toArray, List.set_cons_zero, List.set_cons_succ]
    refine' wpAnyT_take [13] (i := 2) (v := _) rfl (by kernel_rfl) (by kernel_rfl) (by kernel_rfl) (by kernel_rfl) (by kernel_rfl) (by kernel_rfl) (fun _ _ _ h => h) (Or.inl ⟨by rfl, ?hy2⟩) hSd ?_
    case hy2 => (intro w hSw; (try dsimp only at hSw); go_simp) <;> with_reducible rfl
    try simp only [Act.put, List.setIfInBounds_toArray, List.set_cons_zero, List.set_cons_succ]
    refine' wpAnyT_take [13] (i := 4) (v := _) rfl (by kernel_rfl) (by kernel_rfl) (by kernel_rfl) (by kernel_rfl) (by kernel_rfl) (by kernel_rfl) (fun _ _ _ h => h) (Or.inl ⟨by rfl, ?hy4⟩) hSd ?_
    case hy4 => (intro w hSw; (try dsimp only at hSw); go_simp) <;> with_reducible rfl
    try simp only [Act.put, List.setIfInBounds_toArray, List.set_cons_zero, List.set_cons_succ]
    refine' wpAnyT_take [13] (i := 9) (v := _) rfl (by kernel_rfl) (by kernel_rfl) (by kernel_rfl) (by kernel_rfl) (by kernel_rfl) (by kernel_rfl) (fun _ _ _ h => h) (Or.inl ⟨by rfl, ?hy9⟩) hSd ?_
    case hy9 => (intro w hSw; (try dsimp only at hSw); go_simp) <;> with_reducible rfl
    try simp only [Act.put, List.setIfInBounds_toArray, List.set_cons_zero, List.set_cons_succ]
    refine' wpAnyT_take [13] (i := 10) (v := _) rfl (by kernel_rfl) (by kernel_rfl) (by kernel_rfl) (by kernel_rfl) (by kernel_rfl) (by kernel_rfl) (fun _ _ _ h => h) (Or.inl ⟨by rfl, ?hy10⟩) hSd ?_
    case hy10 => (intro w hSw; (try dsimp only at hSw); go_simp) <;> with_reducible rfl
    try simp only [Act.put, List.setIfInBounds_toArray, List.set_cons_zero, List.set_cons_succ]
    refine' wpAnyT_take [13] (i := 11) (v := _) rfl (by kernel_rfl) (by kernel_rfl) (by kernel_rfl) (by kernel_rfl) (by kernel_rfl) (by kernel_rfl) (fun _ _ _ h => h) (Or.inl ⟨by rfl, ?hy11⟩) hSd ?_
    case hy11 => (intro w hSw; (try dsimp only at hSw); go_simp) <;> with_reducible rfl
    try simp only [Act.put, List.setIfInBounds_toArray, List.set_cons_zero, List.set_cons_succ]
    have hsa : (s.extract 0 i).size ≤ 30 := by simp; omega
    have hsb : (s.extract i s.size).size ≤ 30 := by simp; omega
    generalize s.extract 0 i = a at hsa ⊢
    generalize s.extract i s.size = b at hsb ⊢
    refine wpAnyT_pair (i := 3) (j := 5) (by kernel_rfl) rfl rfl (fun K hK => ?_) (fun K hK => ?_)
    · go_simp
      refine hK.out _ _ (fun _ => trivial) ?_
      clear hK K
      try simp only [Act.put, List.setIfInBounds_toArray, List.set_cons_zero, List.set_cons_succ]
      refine wpAnyT_one (i := 5) (by kernel_rfl) rfl (fun K hK => ?_)
      have HA := hide (And.intro (H3.out.1.below (bdrew (balloc (brefl w3) (.cells #[.string ⟨#[32]⟩, .string ⟨#[32, 32]⟩, .string ⟨#[65]⟩, .string ⟨#[49]⟩, .string ⟨#[45]⟩, .string ⟨#[0]⟩, .string ⟨#[97, 98, 99, 100, 101, 102, 103, 104, 105, 106, 97, 98, 99, 100, 101, 102, 103, 104, 105, 106, 97, 98, 99, 100, 101, 102, 103, 104, 105, 106, 120]⟩] 9)))) (And.intro (grow_trans H3.out.2 (grow_below (bdrew (balloc (brefl w3) (.cells #[.string ⟨#[32]⟩, .string ⟨#[32, 32]⟩, .string ⟨#[65]⟩, .string ⟨#[49]⟩, .string ⟨#[45]⟩, .string ⟨#[0]⟩, .string ⟨#[97, 98, 99, 100, 101, 102, 103, 104, 105, 106, 97, 98, 99, 100, 101, 102, 103, 104, 105, 106, 97, 98, 99, 100, 101, 102, 103, 104, 105, 106, 120]⟩] 9))))) ((words7 w3 9).grow (R := R) (by have := H3.out.1.lt; omega) (by simp) (grow_below (bdrew (brefl _))))))
      go_simp
      refine (pick R _ 7 _ HA.out.1 (by omega) (by decide)).mono ?_
      rintro e w5 ⟨k5, rfl, hk05, hk15, hR5, hg5⟩
      have hl5 := hk15 (by decide)
      obtain ⟨q, rfl⟩ := Int.eq_ofNat_of_zero_le hk05
      obtain ⟨z, hz, hc⟩ := (HA.out.2.2.grow (by have := H3.out.1.lt; omega) (by simp) hg5) q (by omega)
      have H5 := hide (And.intro hR5 (grow_trans HA.out.2.1 hg5))
      clear hR5 hg5 hk15 hk05 HA
      refine hK.out _ _ (fun _ => trivial) ?_
      clear hK K
      try simp only [Act.put, List.setIfInBounds_toArray, List.set_cons_zero, List.set_cons_succ]
      have c1 : ¬ 9223372036854775807 < a.size + z.size := by omega
      have c2 : ¬ 9223372036854775807 < a.size + z.size + b.size := by omega
      refine wpAnyT_one (i := 6) (by kernel_rfl) rfl (fun K hK => ?_)
      go_simp
      refine hK.out _ _ (fun h => trivial) ?_
      clear hK K
      try simp only [Act.put, List.setIfInBounds_toArray, List.set_cons_zero, List.set_cons_succ]
      refine wpAnyT_one (i := 7) (by kernel_rfl) rfl (fun K hK => ?_)
      go_simp
      refine hK.out _ _ (fun h => trivial) ?_
      clear hK K
      try simp only [Act.put, List.setIfInBounds_toArray, List.set_cons_zero, List.set_cons_succ]
      refine wpAnyT_one (i := 8) (by kernel_rfl) rfl (fun K hK => ?_)
      go_simp
      refine hK.out _ _ (fun h => trivial) ?_
      clear hK K
      try simp only [Act.put, List.setIfInBounds_toArray, List.set_cons_zero, List.set_cons_succ]
      refine wpAnyT_one (i := 12) (by kernel_rfl) rfl (fun K hK => ?_)
      go_simp
      refine hK.out _ _ (fun h => trivial) ?_
      clear hK K
      try simp only [Act.put, List.setIfInBounds_toArray, List.set_cons_zero, List.set_cons_succ]
      refine wpAnyT_one (i := 13) (by kernel_rfl) rfl (fun K hK => ?_)
      go_simp
      refine hK.out _ _ (fun h => absurd rfl h) ?_
      clear hK K
      try simp only [Act.put, List.setIfInBounds_toArray, List.set_cons_zero, List.set_cons_succ]
      refine wpAnyT_done (by kernel_rfl) ?_ _
      go_wp2_with fail
      go_ret
      exact ⟨(a ++ z) ++ b, rfl, by rw [ByteArray.size_append, ByteArray.size_append]; omega, H5.out.1.mono (by omega), H5.out.2⟩
    · go_simp
      refine (pick R _ 7 _ (H3.out.1.below (bdrew (brefl w3))) (by omega) (by decide)).mono ?_
      rintro e w5 ⟨k5, rfl, hk05, hk15, hR5, hg5⟩
      have hl5 := hk15 (by decide)
      obtain ⟨q, rfl⟩ := Int.eq_ofNat_of_zero_le hk05
      have H5 := hide (And.intro (hR5.below (balloc (brefl w5) (.cells #[.string ⟨#[32]⟩, .string ⟨#[32, 32]⟩, .string ⟨#[65]⟩, .string ⟨#[49]⟩, .string ⟨#[45]⟩, .string ⟨#[0]⟩, .string ⟨#[97, 98, 99, 100, 101, 102, 103, 104, 105, 106, 97, 98, 99, 100, 101, 102, 103, 104, 105, 106, 97, 98, 99, 100, 101, 102, 103, 104, 105, 106, 120]⟩] 9))) (grow_trans (grow_trans H3.out.2 (grow_trans (grow_below (bdrew (brefl w3))) hg5)) (World.grownBy_alloc w5 (.cells #[.string ⟨#[32]⟩, .string ⟨#[32, 32]⟩, .string ⟨#[65]⟩, .string ⟨#[49]⟩, .string ⟨#[45]⟩, .string ⟨#[0]⟩, .string ⟨#[97, 98, 99, 100, 101, 102, 103, 104, 105, 106, 97, 98, 99, 100, 101, 102, 103, 104, 105, 106, 97, 98, 99, 100, 101, 102, 103, 104, 105, 106, 120]⟩] 9) (some R))))
      obtain ⟨z, hz, hc⟩ := words7 w5 9 q (by omega)
      clear hR5 hg5 hk15 hk05
      refine hK.out _ _ (fun _ => trivial) ?_
      clear hK K
      try simp only [Act.put, List.setIfInBounds_toArray, List.set_cons_zero, List.set_cons_succ]
      refine wpAnyT_one (i := 3) (by kernel_rfl) rfl (fun K hK => ?_)
      go_simp
      refine hK.out _ _ (fun _ => trivial) ?_
      clear hK K
      try simp only [Act.put, List.setIfInBounds_toArray, List.set_cons_zero, List.set_cons_succ]
      have c1 : ¬ 9223372036854775807 < a.size + z.size := by omega
      have c2 : ¬ 9223372036854775807 < a.size + z.size + b.size := by omega
      refine wpAnyT_one (i := 6) (by kernel_rfl) rfl (fun K hK => ?_)
      go_simp
      refine hK.out _ _ (fun h => trivial) ?_
      clear hK K
      try simp only [Act.put, List.setIfInBounds_toArray, List.set_cons_zero, List.set_cons_succ]
      refine wpAnyT_one (i := 7) (by kernel_rfl) rfl (fun K hK => ?_)
      go_simp
      refine hK.out _ _ (fun h => trivial) ?_
      clear hK K
      try simp only [Act.put, List.setIfInBounds_toArray, List.set_cons_zero, List.set_cons_succ]
      refine wpAnyT_one (i := 8) (by kernel_rfl) rfl (fun K hK => ?_)
      go_simp
      refine hK.out _ _ (fun h => trivial) ?_
      clear hK K
      try simp only [Act.put, List.setIfInBounds_toArray, List.set_cons_zero, List.set_cons_succ]
      refine wpAnyT_one (i := 12) (by kernel_rfl) rfl (fun K hK => ?_)
      go_simp
      refine hK.out _ _ (fun h => trivial) ?_
      clear hK K
      try simp only [Act.put, List.setIfInBounds_toArray, List.set_cons_zero, List.set_cons_succ]
      refine wpAnyT_one (i := 13) (by kernel_rfl) rfl (fun K hK => ?_)
      go_simp
      refine hK.out _ _ (fun h => absurd rfl h) ?_
      clear hK K
      try simp only [Act.put, List.setIfInBounds_toArray, List.set_cons_zero, List.set_cons_succ]
      refine wpAnyT_done (by kernel_rfl) ?_ _
      go_wp2_with fail
      go_ret
      exact ⟨(a ++ z) ++ b, rfl, by rw [ByteArray.size_append, ByteArray.size_append]; omega, H5.out.1.mono (by omega), H5.out.2⟩
  · have hkz : (0 : Int) < k2 := by omega
    go_wp2_with fail
    go_ret
    exact ⟨s, rfl, by omega, H2.out.1.mono (by omega), H2.out.2⟩
end Go.Proofs.YtfcogogpioeggaaDoor
