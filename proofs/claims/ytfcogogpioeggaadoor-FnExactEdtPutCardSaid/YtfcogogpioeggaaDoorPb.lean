import Derived.Test.YtfcogogpioeggaaDoorPa
namespace Go.Proofs.YtfcogogpioeggaaDoor
open Go.RowKit
/- The program's EdtPut. -/
set_option linter.unusedSimpArgs false in
set_option maxRecDepth 100000 in
set_option maxHeartbeats 8000000 in
theorem put_yes (X Bc Br Ba n c gr j i cg base : Nat) (cs : List TCell) (Aj : Option Addr) (x : TCell) (w : World) (hs : x.t.size ≤ 1048576) (hw : Base w) (hc : (fun U : World => U.cell? ⟨Bc, 0, none⟩ = some (.string x.t) ∧ U.cell? ⟨Bc, 1, none⟩ = some (.int .i64 x.c) ∧ U.cell? ⟨Bc, 2, none⟩ = some (.int .i64 x.r) ∧ U.cell? ⟨Bc, 3, none⟩ = some (.int .i64 x.top.s) ∧ U.cell? ⟨Bc, 4, none⟩ = some (.int .i64 x.top.w) ∧ U.cell? ⟨Bc, 5, none⟩ = some (.int .i64 x.right.s) ∧ U.cell? ⟨Bc, 6, none⟩ = some (.int .i64 x.right.w) ∧ U.cell? ⟨Bc, 7, none⟩ = some (.int .i64 x.bot.s) ∧ U.cell? ⟨Bc, 8, none⟩ = some (.int .i64 x.bot.w) ∧ U.cell? ⟨Bc, 9, none⟩ = some (.int .i64 x.left.s) ∧ U.cell? ⟨Bc, 10, none⟩ = some (.int .i64 x.left.w)) w) (x3 : w.cell? ⟨X, 3, none⟩ = some (.slice (some ⟨gr, 0, none⟩) n c)) (b1 : w.cell? ⟨Br, 0, none⟩ = some (.int .i64 j)) (b2 : w.cell? ⟨Ba, 0, none⟩ = some (.int .i64 i)) (p0 : w.cell? ⟨gr, j * 2, none⟩ = some (.slice Aj cs.length cg)) (pf : w.frozen? ⟨gr, j * 2, none⟩ = false) (hn : n ≤ 1048576) (hm : cs.length ≤ 1048576) (hj : j < n) (h : cellOk x = true)
    (hi : i ≤ cs.length) (h5 : cs.length ≠ 5) (ho : w.ownsRow base 65 11 (.slice Aj cs.length cg) cs.length (cs.flatMap cellE)) (hbase : base ≤ w.heap.size) (hne : ∀ b, (Value.slice Aj cs.length cg).ownBlock = some b → b ≠ X ∧ b ≠ gr ∧ b ≠ Br ∧ b ≠ Ba ∧ b ≠ Bc) :
    Calls Tryd.prog 71 #[.pointer (some ⟨X, 0, none⟩), .pointer (some ⟨Bc, 0, none⟩), .pointer (some ⟨Br, 0, none⟩), .pointer (some ⟨Ba, 0, none⟩)] w fun e w' => ∃ v' W w7, (e = .returned (.bool true) ∧ w' = w7.setCell ⟨gr, j * 2, none⟩ v') ∧ w7.ownsRow base 65 11 v' (cs.length + 1) ((cs.take i ++ [x] ++ cs.drop i).flatMap cellE) ∧ Below w.heap.size w W ∧ W.grownBy w7 (Value.slice Aj cs.length cg).ownBlock ∧ ∀ b, v'.ownBlock = some b → (Value.slice Aj cs.length cg).ownBlock = some b ∨ w.heap.size ≤ b := by
  obtain ⟨m, hmm⟩ : ∃ m, m = cs.length := ⟨_, rfl⟩
  rw [← hmm] at p0 hm hi h5 ho hne ⊢
  obtain ⟨at', hat⟩ : ∃ at' : Int, at' = (i : Int) := ⟨_, rfl⟩
  rw [← hat] at b2
  have hI := fun (n lo hi : Int) (W : World) => impl_in n lo hi W
  have HC : Hid (∀ U : World, Below w.heap.size w U → Calls Tryd.prog 72 #[.agg #[.string x.t, .int .i64 x.c, .int .i64 x.r, .int .i64 x.top.s, .int .i64 x.top.w, .int .i64 x.right.s, .int .i64 x.right.w, .int .i64 x.bot.s, .int .i64 x.bot.w, .int .i64 x.left.s, .int .i64 x.left.w]] U fun e w' => e = .returned (.bool (cellOk x)) ∧ Below U.heap.size U w') := fun U h => impl_CellOk x U hs (hw.below h)
  have h5z : ((m : Int) == 5) = false := by simp; omega
  have h4 : inB at' 0 (m : Int) = true := by rw [hat]; simp [inB]; omega
  have HO := hide ho
  have HNE := hide hne
  have HM := hide hmm
  have HAT := hide hat
  have HIJ := hide hi
  have HPF := hide pf
  have HP0 := hide p0
  have HBS := hide hbase
  clear ho hne hmm hat h5 pf hbase
  rw [h] at HC
  have hwr : IntKind.i64.wrap ((n : Int) - 1) = (n : Int) - 1 := IntWalk.i64_in _ (by omega)
  have h2 : inB (j : Int) 0 ((n : Int) - 1) = true := by simp [inB]; omega
  have hjz : (j : Int) < (n : Int) := by omega
  have HK : Hid (∀ U : World, Below w.heap.size w U → (fun U : World => (U.cell? ⟨Bc, 0, none⟩ = some (.string x.t) ∧ U.cell? ⟨Bc, 1, none⟩ = some (.int .i64 x.c) ∧ U.cell? ⟨Bc, 2, none⟩ = some (.int .i64 x.r) ∧ U.cell? ⟨Bc, 3, none⟩ = some (.int .i64 x.top.s) ∧ U.cell? ⟨Bc, 4, none⟩ = some (.int .i64 x.top.w) ∧ U.cell? ⟨Bc, 5, none⟩ = some (.int .i64 x.right.s) ∧ U.cell? ⟨Bc, 6, none⟩ = some (.int .i64 x.right.w) ∧ U.cell? ⟨Bc, 7, none⟩ = some (.int .i64 x.bot.s) ∧ U.cell? ⟨Bc, 8, none⟩ = some (.int .i64 x.bot.w) ∧ U.cell? ⟨Bc, 9, none⟩ = some (.int .i64 x.left.s) ∧ U.cell? ⟨Bc, 10, none⟩ = some (.int .i64 x.left.w)) ∧ U.cell? ⟨X, 3, none⟩ = some (.slice (some ⟨gr, 0, none⟩) n c) ∧ U.cell? ⟨Br, 0, none⟩ = some (.int .i64 j) ∧ U.cell? ⟨Ba, 0, none⟩ = some (.int .i64 at') ∧ U.cell? ⟨gr, j * 2, none⟩ = some (.slice Aj m cg)) U) := fun U h => ⟨cc_keep hc h, keepW h x3, keepW h b1, keepW h b2, keepW h p0⟩
  have hSd : (fun U : World => (U.cell? ⟨Bc, 0, none⟩ = some (.string x.t) ∧ U.cell? ⟨Bc, 1, none⟩ = some (.int .i64 x.c) ∧ U.cell? ⟨Bc, 2, none⟩ = some (.int .i64 x.r) ∧ U.cell? ⟨Bc, 3, none⟩ = some (.int .i64 x.top.s) ∧ U.cell? ⟨Bc, 4, none⟩ = some (.int .i64 x.top.w) ∧ U.cell? ⟨Bc, 5, none⟩ = some (.int .i64 x.right.s) ∧ U.cell? ⟨Bc, 6, none⟩ = some (.int .i64 x.right.w) ∧ U.cell? ⟨Bc, 7, none⟩ = some (.int .i64 x.bot.s) ∧ U.cell? ⟨Bc, 8, none⟩ = some (.int .i64 x.bot.w) ∧ U.cell? ⟨Bc, 9, none⟩ = some (.int .i64 x.left.s) ∧ U.cell? ⟨Bc, 10, none⟩ = some (.int .i64 x.left.w)) ∧ U.cell? ⟨X, 3, none⟩ = some (.slice (some ⟨gr, 0, none⟩) n c) ∧ U.cell? ⟨Br, 0, none⟩ = some (.int .i64 j) ∧ U.cell? ⟨Ba, 0, none⟩ = some (.int .i64 at') ∧ U.cell? ⟨gr, j * 2, none⟩ = some (.slice Aj m cg)) w.drew := HK.out _ (bdrew (brefl _))
  clear hc hw x3 b1 b2 p0
  go_enter Tryd.func71, Tryd.ntmps71
  go_wp2_with fail
  refine wp_region_T (S := fun U : World => (U.cell? ⟨Bc, 0, none⟩ = some (.string x.t) ∧ U.cell? ⟨Bc, 1, none⟩ = some (.int .i64 x.c) ∧ U.cell? ⟨Bc, 2, none⟩ = some (.int .i64 x.r) ∧ U.cell? ⟨Bc, 3, none⟩ = some (.int .i64 x.top.s) ∧ U.cell? ⟨Bc, 4, none⟩ = some (.int .i64 x.top.w) ∧ U.cell? ⟨Bc, 5, none⟩ = some (.int .i64 x.right.s) ∧ U.cell? ⟨Bc, 6, none⟩ = some (.int .i64 x.right.w) ∧ U.cell? ⟨Bc, 7, none⟩ = some (.int .i64 x.bot.s) ∧ U.cell? ⟨Bc, 8, none⟩ = some (.int .i64 x.bot.w) ∧ U.cell? ⟨Bc, 9, none⟩ = some (.int .i64 x.left.s) ∧ U.cell? ⟨Bc, 10, none⟩ = some (.int .i64 x.left.w)) ∧ U.cell? ⟨X, 3, none⟩ = some (.slice (some ⟨gr, 0, none⟩) n c) ∧ U.cell? ⟨Br, 0, none⟩ = some (.int .i64 j) ∧ U.cell? ⟨Ba, 0, none⟩ = some (.int .i64 at') ∧ U.cell? ⟨gr, j * 2, none⟩ = some (.slice Aj m cg)) (L := 13) (by kernel_rfl) ?_
  refine' wpAnyT_take [1, 3, 13] (i := 0) (v := _) rfl (by kernel_rfl) (by kernel_rfl) (by kernel_rfl) (by kernel_rfl) (by kernel_rfl) (by kernel_rfl) (fun _ _ _ h => h) (Or.inl ⟨by rfl, ?hy0⟩) hSd ?_
  case hy0 => (intro w hSw; (try dsimp only at hSw); go_simp) <;> with_reducible rfl
  try simp only [Act.put, List.setIfInBounds_toArray, List.set_cons_zero, List.set_cons_succ]
  refine wpAnyT_one (i := 1) (by kernel_rfl) rfl (fun K hK => ?_)
  go_simp
  with_reducible refine (HC.out _ (bdrew (brefl _))).mono ?_
  rintro e w8 ⟨rfl, hb8⟩
  have HB8 := hide (step (bdrew (brefl w)) hb8)
  clear hb8
  refine hK.out _ _ (fun _ => HK.out _ HB8.out) ?_
  clear hK K
  replace hSd := HK.out _ HB8.out
  try simp only [Act.put, List.setIfInBounds_toArray, List.set_cons_zero, List.set_cons_succ]
  refine' wpAnyT_take [3, 13] (i := 2) (v := _) rfl (by kernel_rfl) (by kernel_rfl) (by kernel_rfl) (by kernel_rfl) (by kernel_rfl) (by kernel_rfl) (fun _ _ _ h => h) (Or.inl ⟨by rfl, ?hy2⟩) hSd ?_
  case hy2 => (intro w hSw; (try dsimp only at hSw); go_simp) <;> with_reducible rfl
  try simp only [Act.put, List.setIfInBounds_toArray, List.set_cons_zero, List.set_cons_succ]
  refine' wpAnyT_take [13] (i := 3) (v := _) rfl (by kernel_rfl) (by kernel_rfl) (by kernel_rfl) (by kernel_rfl) (by kernel_rfl) (by kernel_rfl) (fun _ _ _ h => h) (Or.inl ⟨by rfl, ?hy3⟩) hSd ?_
  case hy3 => (intro w hSw; (try dsimp only at hSw); go_simp) <;> with_reducible rfl
  try simp only [Act.put, List.setIfInBounds_toArray, List.set_cons_zero, List.set_cons_succ]
  refine' wpAnyT_take [11, 12, 13] (i := 4) (v := _) rfl (by kernel_rfl) (by kernel_rfl) (by kernel_rfl) (by kernel_rfl) (by kernel_rfl) (by kernel_rfl) (fun _ _ _ h => h) (Or.inl ⟨by rfl, ?hy4⟩) hSd ?_
  case hy4 => (intro w hSw; (try dsimp only at hSw); go_simp) <;> with_reducible rfl
  try simp only [Act.put, List.setIfInBounds_toArray, List.set_cons_zero, List.set_cons_succ]
  refine' wpAnyT_take [6, 7, 8, 9, 10, 11, 12, 13] (i := 5) (v := _) rfl (by kernel_rfl) (by kernel_rfl) (by kernel_rfl) (by kernel_rfl) (by kernel_rfl) (by kernel_rfl) (fun _ _ _ h => h) (Or.inl ⟨by rfl, ?hy5⟩) hSd ?_
  case hy5 => (intro w hSw; (try dsimp only at hSw); go_simp) <;> with_reducible rfl
  try simp only [Act.put, List.setIfInBounds_toArray, List.set_cons_zero, List.set_cons_succ]
  refine' wpAnyT_take [7, 8, 9, 10, 11, 12, 13] (i := 6) (v := _) rfl (by kernel_rfl) (by kernel_rfl) (by kernel_rfl) (by kernel_rfl) (by kernel_rfl) (by kernel_rfl) (fun _ _ _ h => h) (Or.inl ⟨by rfl, ?hy6⟩) hSd ?_
  case hy6 => (intro w hSw; (try dsimp only at hSw); go_simp) <;> with_reducible rfl
  try simp only [Act.put, List.setIfInBounds_toArray, List.set_cons_zero, List.set_cons_succ]
  refine' wpAnyT_take [8, 9, 10, 11, 12, 13] (i := 7) (v := _) rfl (by kernel_rfl) (by kernel_rfl) (by kernel_rfl) (by kernel_rfl) (by kernel_rfl) (by kernel_rfl) (fun _ _ _ h => h) (Or.inl ⟨by rfl, ?hy7⟩) hSd ?_
  case hy7 => (intro w hSw; (try dsimp only at hSw); go_simp) <;> with_reducible rfl
  try simp only [Act.put, List.setIfInBounds_toArray, List.set_cons_zero, List.set_cons_succ]
  refine' wpAnyT_take [9, 10, 11, 12, 13] (i := 8) (v := _) rfl (by kernel_rfl) (by kernel_rfl) (by kernel_rfl) (by kernel_rfl) (by kernel_rfl) (by kernel_rfl) (fun _ _ _ h => h) (Or.inl ⟨by rfl, ?hy8⟩) hSd ?_
  case hy8 => (intro w hSw; (try dsimp only at hSw); go_simp) <;> with_reducible rfl
  try simp only [Act.put, List.setIfInBounds_toArray, List.set_cons_zero, List.set_cons_succ]
  refine' wpAnyT_take [10, 11, 12, 13] (i := 9) (v := _) rfl (by kernel_rfl) (by kernel_rfl) (by kernel_rfl) (by kernel_rfl) (by kernel_rfl) (by kernel_rfl) (fun _ _ _ h => h) (Or.inl ⟨by rfl, ?hy9⟩) hSd ?_
  case hy9 => (intro w hSw; (try dsimp only at hSw); go_simp) <;> with_reducible rfl
  try simp only [Act.put, List.setIfInBounds_toArray, List.set_cons_zero, List.set_cons_succ]
  refine' wpAnyT_take [11, 12, 13] (i := 10) (v := _) rfl (by kernel_rfl) (by kernel_rfl) (by kernel_rfl) (by kernel_rfl) (by kernel_rfl) (by kernel_rfl) (fun _ _ _ h => h) (Or.inl ⟨by rfl, ?hy10⟩) hSd ?_
  case hy10 => (intro w hSw; (try dsimp only at hSw); go_simp) <;> with_reducible rfl
  try simp only [Act.put, List.setIfInBounds_toArray, List.set_cons_zero, List.set_cons_succ]
  refine wpAnyT_one (i := 11) (by kernel_rfl) rfl (fun K hK => ?_)
  go_simp
  with_reducible refine (hI _ _ _ _).mono ?_
  rintro e w9 ⟨rfl, hw9⟩
  subst hw9
  refine hK.out _ _ (fun _ => HK.out _ HB8.out) ?_
  clear hK K
  try simp only [Act.put, List.setIfInBounds_toArray, List.set_cons_zero, List.set_cons_succ]
  refine' wpAnyT_take [13] (i := 12) (v := _) rfl (by kernel_rfl) (by kernel_rfl) (by kernel_rfl) (by kernel_rfl) (by kernel_rfl) (by kernel_rfl) (fun _ _ _ h => h) (Or.inl ⟨by rfl, ?hy12⟩) hSd ?_
  case hy12 => (intro w hSw; (try dsimp only at hSw); go_simp) <;> with_reducible rfl
  try simp only [Act.put, List.setIfInBounds_toArray, List.set_cons_zero, List.set_cons_succ]
  refine wpAnyT_one (i := 13) (by kernel_rfl) rfl (fun K hK => ?_)
  go_simp
  refine hK.out _ _ (fun h => absurd rfl h) ?_
  clear hK K
  try simp only [Act.put, List.setIfInBounds_toArray, List.set_cons_zero, List.set_cons_succ]
  refine wpAnyT_done (by kernel_rfl) ?_ _
  go_wp2_with fail
  refine wp_region_T (S := fun U : World => (U.cell? ⟨Bc, 0, none⟩ = some (.string x.t) ∧ U.cell? ⟨Bc, 1, none⟩ = some (.int .i64 x.c) ∧ U.cell? ⟨Bc, 2, none⟩ = some (.int .i64 x.r) ∧ U.cell? ⟨Bc, 3, none⟩ = some (.int .i64 x.top.s) ∧ U.cell? ⟨Bc, 4, none⟩ = some (.int .i64 x.top.w) ∧ U.cell? ⟨Bc, 5, none⟩ = some (.int .i64 x.right.s) ∧ U.cell? ⟨Bc, 6, none⟩ = some (.int .i64 x.right.w) ∧ U.cell? ⟨Bc, 7, none⟩ = some (.int .i64 x.bot.s) ∧ U.cell? ⟨Bc, 8, none⟩ = some (.int .i64 x.bot.w) ∧ U.cell? ⟨Bc, 9, none⟩ = some (.int .i64 x.left.s) ∧ U.cell? ⟨Bc, 10, none⟩ = some (.int .i64 x.left.w)) ∧ U.cell? ⟨X, 3, none⟩ = some (.slice (some ⟨gr, 0, none⟩) n c) ∧ U.cell? ⟨Br, 0, none⟩ = some (.int .i64 j) ∧ U.cell? ⟨Ba, 0, none⟩ = some (.int .i64 at') ∧ U.cell? ⟨gr, j * 2, none⟩ = some (.slice Aj m cg)) (L := 8) (by kernel_rfl) ?_
  replace hSd : (fun U : World => (U.cell? ⟨Bc, 0, none⟩ = some (.string x.t) ∧ U.cell? ⟨Bc, 1, none⟩ = some (.int .i64 x.c) ∧ U.cell? ⟨Bc, 2, none⟩ = some (.int .i64 x.r) ∧ U.cell? ⟨Bc, 3, none⟩ = some (.int .i64 x.top.s) ∧ U.cell? ⟨Bc, 4, none⟩ = some (.int .i64 x.top.w) ∧ U.cell? ⟨Bc, 5, none⟩ = some (.int .i64 x.right.s) ∧ U.cell? ⟨Bc, 6, none⟩ = some (.int .i64 x.right.w) ∧ U.cell? ⟨Bc, 7, none⟩ = some (.int .i64 x.bot.s) ∧ U.cell? ⟨Bc, 8, none⟩ = some (.int .i64 x.bot.w) ∧ U.cell? ⟨Bc, 9, none⟩ = some (.int .i64 x.left.s) ∧ U.cell? ⟨Bc, 10, none⟩ = some (.int .i64 x.left.w)) ∧ U.cell? ⟨X, 3, none⟩ = some (.slice (some ⟨gr, 0, none⟩) n c) ∧ U.cell? ⟨Br, 0, none⟩ = some (.int .i64 j) ∧ U.cell? ⟨Ba, 0, none⟩ = some (.int .i64 at') ∧ U.cell? ⟨gr, j * 2, none⟩ = some (.slice Aj m cg)) w8.drew := HK.out _ (bdrew HB8.out)
  refine' wpAnyT_take [8] (i := 0) (v := _) rfl (by kernel_rfl) (by kernel_rfl) (by kernel_rfl) (by kernel_rfl) (by kernel_rfl) (by kernel_rfl) (fun _ _ _ h => h) (Or.inl ⟨by rfl, ?hy0⟩) hSd ?_
  case hy0 => (intro w hSw; (try dsimp only at hSw); go_simp) <;> with_reducible rfl
  try simp only [Act.put, List.setIfInBounds_toArray, List.set_cons_zero, List.set_cons_succ]
  refine' wpAnyT_take [8] (i := 1) (v := _) rfl (by kernel_rfl) (by kernel_rfl) (by kernel_rfl) (by kernel_rfl) (by kernel_rfl) (by kernel_rfl) (fun _ _ _ h => h) (Or.inl ⟨by rfl, ?hy1⟩) hSd ?_
  case hy1 => (intro w hSw; (try dsimp only at hSw); go_simp) <;> with_reducible rfl
  try simp only [Act.put, List.setIfInBounds_toArray, List.set_cons_zero, List.set_cons_succ]
  refine' wpAnyT_take [8] (i := 2) (v := _) rfl (by kernel_rfl) (by kernel_rfl) (by kernel_rfl) (by kernel_rfl) (by kernel_rfl) (by kernel_rfl) (fun _ _ _ h => h) (Or.inl ⟨by rfl, ?hy2⟩) hSd ?_
  case hy2 => (intro w hSw; (try dsimp only at hSw); go_simp) <;> with_reducible rfl
  try simp only [Act.put, List.setIfInBounds_toArray, List.set_cons_zero, List.set_cons_succ]
  refine' wpAnyT_take [8] (i := 3) (v := _) rfl (by kernel_rfl) (by kernel_rfl) (by kernel_rfl) (by kernel_rfl) (by kernel_rfl) (by kernel_rfl) (fun _ _ _ h => h) (Or.inl ⟨by rfl, ?hy3⟩) hSd ?_
  case hy3 => (intro w hSw; (try dsimp only at hSw); go_simp) <;> with_reducible rfl
  try simp only [Act.put, List.setIfInBounds_toArray, List.set_cons_zero, List.set_cons_succ]
  refine' wpAnyT_take [8] (i := 4) (v := _) rfl (by kernel_rfl) (by kernel_rfl) (by kernel_rfl) (by kernel_rfl) (by kernel_rfl) (by kernel_rfl) (fun _ _ _ h => h) (Or.inl ⟨by rfl, ?hy4⟩) hSd ?_
  case hy4 => (intro w hSw; (try dsimp only at hSw); go_simp) <;> with_reducible rfl
  try simp only [Act.put, List.setIfInBounds_toArray, List.set_cons_zero, List.set_cons_succ]
  refine' wpAnyT_take [8] (i := 5) (v := _) rfl (by kernel_rfl) (by kernel_rfl) (by kernel_rfl) (by kernel_rfl) (by kernel_rfl) (by kernel_rfl) (fun _ _ _ h => h) (Or.inl ⟨by rfl, ?hy5⟩) hSd ?_
  case hy5 => (intro w hSw; (try dsimp only at hSw); go_simp) <;> with_reducible rfl
  try simp only [Act.put, List.setIfInBounds_toArray, List.set_cons_zero, List.set_cons_succ]
  refine' wpAnyT_take [8] (i := 6) (v := _) rfl (by kernel_rfl) (by kernel_rfl) (by kernel_rfl) (by kernel_rfl) (by kernel_rfl) (by kernel_rfl) (fun _ _ _ h => h) (Or.inl ⟨by rfl, ?hy6⟩) hSd ?_
  case hy6 => (intro w hSw; (try dsimp only at hSw); go_simp) <;> with_reducible rfl
  try simp only [Act.put, List.setIfInBounds_toArray, List.set_cons_zero, List.set_cons_succ]
  refine' wpAnyT_take [8] (i := 7) (v := _) rfl (by kernel_rfl) (by kernel_rfl) (by kernel_rfl) (by kernel_rfl) (by kernel_rfl) (by kernel_rfl) (fun _ _ _ h => h) (Or.inl ⟨by rfl, ?hy7⟩) hSd ?_
  case hy7 => (intro w hSw; (try dsimp only at hSw); go_simp) <;> with_reducible rfl
  try simp only [Act.put, List.setIfInBounds_toArray, List.set_cons_zero, List.set_cons_succ]
  refine wpAnyT_one (i := 8) (by kernel_rfl) rfl (fun K hK => ?_)
  go_simp
  refine hK.out _ _ (fun h => absurd rfl h) ?_
  clear hK K
  try simp only [Act.put, List.setIfInBounds_toArray, List.set_cons_zero, List.set_cons_succ]
  refine wpAnyT_done (by kernel_rfl) ?_ _
  have k2 : w8.drew.cell? ⟨Ba, 0, none⟩ = some (.int .i64 at') := hSd.2.2.2.1
  clear hSd
  go_wp2_with (go_at_call 59; refine (hI _ _ _ _).mono ?_; rintro e w9 ⟨rfl, hw9⟩; subst hw9)
  have hSd : (fun U : World => (U.cell? ⟨Bc, 0, none⟩ = some (.string x.t) ∧ U.cell? ⟨Bc, 1, none⟩ = some (.int .i64 x.c) ∧ U.cell? ⟨Bc, 2, none⟩ = some (.int .i64 x.r) ∧ U.cell? ⟨Bc, 3, none⟩ = some (.int .i64 x.top.s) ∧ U.cell? ⟨Bc, 4, none⟩ = some (.int .i64 x.top.w) ∧ U.cell? ⟨Bc, 5, none⟩ = some (.int .i64 x.right.s) ∧ U.cell? ⟨Bc, 6, none⟩ = some (.int .i64 x.right.w) ∧ U.cell? ⟨Bc, 7, none⟩ = some (.int .i64 x.bot.s) ∧ U.cell? ⟨Bc, 8, none⟩ = some (.int .i64 x.bot.w) ∧ U.cell? ⟨Bc, 9, none⟩ = some (.int .i64 x.left.s) ∧ U.cell? ⟨Bc, 10, none⟩ = some (.int .i64 x.left.w)) ∧ U.cell? ⟨X, 3, none⟩ = some (.slice (some ⟨gr, 0, none⟩) n c) ∧ U.cell? ⟨Br, 0, none⟩ = some (.int .i64 j) ∧ U.cell? ⟨Ba, 0, none⟩ = some (.int .i64 at') ∧ U.cell? ⟨gr, j * 2, none⟩ = some (.slice Aj m cg)) w8.drew.drew := HK.out _ (bdrew (bdrew HB8.out))
  refine wp_region_T (S := fun U : World => (U.cell? ⟨Bc, 0, none⟩ = some (.string x.t) ∧ U.cell? ⟨Bc, 1, none⟩ = some (.int .i64 x.c) ∧ U.cell? ⟨Bc, 2, none⟩ = some (.int .i64 x.r) ∧ U.cell? ⟨Bc, 3, none⟩ = some (.int .i64 x.top.s) ∧ U.cell? ⟨Bc, 4, none⟩ = some (.int .i64 x.top.w) ∧ U.cell? ⟨Bc, 5, none⟩ = some (.int .i64 x.right.s) ∧ U.cell? ⟨Bc, 6, none⟩ = some (.int .i64 x.right.w) ∧ U.cell? ⟨Bc, 7, none⟩ = some (.int .i64 x.bot.s) ∧ U.cell? ⟨Bc, 8, none⟩ = some (.int .i64 x.bot.w) ∧ U.cell? ⟨Bc, 9, none⟩ = some (.int .i64 x.left.s) ∧ U.cell? ⟨Bc, 10, none⟩ = some (.int .i64 x.left.w)) ∧ U.cell? ⟨X, 3, none⟩ = some (.slice (some ⟨gr, 0, none⟩) n c) ∧ U.cell? ⟨Br, 0, none⟩ = some (.int .i64 j) ∧ U.cell? ⟨Ba, 0, none⟩ = some (.int .i64 at') ∧ U.cell? ⟨gr, j * 2, none⟩ = some (.slice Aj m cg)) (L := 12) (by kernel_rfl) ?_
  refine' wpAnyT_take [12] (i := 0) (v := _) rfl (by kernel_rfl) (by kernel_rfl) (by kernel_rfl) (by kernel_rfl) (by kernel_rfl) (by kernel_rfl) (fun _ _ _ h => h) (Or.inl ⟨by rfl, ?hy0⟩) hSd ?_
  case hy0 => (intro w hSw; (try dsimp only at hSw); go_simp) <;> with_reducible rfl
  try simp only [Act.put, List.setIfInBounds_toArray, List.set_cons_zero, List.set_cons_succ]
  refine' wpAnyT_take [12] (i := 1) (v := _) rfl (by kernel_rfl) (by kernel_rfl) (by kernel_rfl) (by kernel_rfl) (by kernel_rfl) (by kernel_rfl) (fun _ _ _ h => h) (Or.inl ⟨by rfl, ?hy1⟩) hSd ?_
  case hy1 => (intro w hSw; (try dsimp only at hSw); go_simp) <;> with_reducible rfl
  try simp only [Act.put, List.setIfInBounds_toArray, List.set_cons_zero, List.set_cons_succ]
  refine' wpAnyT_take [12] (i := 2) (v := _) rfl (by kernel_rfl) (by kernel_rfl) (by kernel_rfl) (by kernel_rfl) (by kernel_rfl) (by kernel_rfl) (fun _ _ _ h => h) (Or.inl ⟨by rfl, ?hy2⟩) hSd ?_
  case hy2 => (intro w hSw; (try dsimp only at hSw); go_simp) <;> with_reducible rfl
  try simp only [Act.put, List.setIfInBounds_toArray, List.set_cons_zero, List.set_cons_succ]
  refine' wpAnyT_take [12] (i := 3) (v := _) rfl (by kernel_rfl) (by kernel_rfl) (by kernel_rfl) (by kernel_rfl) (by kernel_rfl) (by kernel_rfl) (fun _ _ _ h => h) (Or.inl ⟨by rfl, ?hy3⟩) hSd ?_
  case hy3 => (intro w hSw; (try dsimp only at hSw); go_simp) <;> with_reducible rfl
  try simp only [Act.put, List.setIfInBounds_toArray, List.set_cons_zero, List.set_cons_succ]
  refine' wpAnyT_take [12] (i := 4) (v := _) rfl (by kernel_rfl) (by kernel_rfl) (by kernel_rfl) (by kernel_rfl) (by kernel_rfl) (by kernel_rfl) (fun _ _ _ h => h) (Or.inl ⟨by rfl, ?hy4⟩) hSd ?_
  case hy4 => (intro w hSw; (try dsimp only at hSw); go_simp) <;> with_reducible rfl
  try simp only [Act.put, List.setIfInBounds_toArray, List.set_cons_zero, List.set_cons_succ]
  refine' wpAnyT_take [12] (i := 5) (v := _) rfl (by kernel_rfl) (by kernel_rfl) (by kernel_rfl) (by kernel_rfl) (by kernel_rfl) (by kernel_rfl) (fun _ _ _ h => h) (Or.inl ⟨by rfl, ?hy5⟩) hSd ?_
  case hy5 => (intro w hSw; (try dsimp only at hSw); go_simp) <;> with_reducible rfl
  try simp only [Act.put, List.setIfInBounds_toArray, List.set_cons_zero, List.set_cons_succ]
  refine' wpAnyT_take [12] (i := 6) (v := _) rfl (by kernel_rfl) (by kernel_rfl) (by kernel_rfl) (by kernel_rfl) (by kernel_rfl) (by kernel_rfl) (fun _ _ _ h => h) (Or.inl ⟨by rfl, ?hy6⟩) hSd ?_
  case hy6 => (intro w hSw; (try dsimp only at hSw); go_simp) <;> with_reducible rfl
  try simp only [Act.put, List.setIfInBounds_toArray, List.set_cons_zero, List.set_cons_succ]
  refine' wpAnyT_take [12] (i := 7) (v := _) rfl (by kernel_rfl) (by kernel_rfl) (by kernel_rfl) (by kernel_rfl) (by kernel_rfl) (by kernel_rfl) (fun _ _ _ h => h) (Or.inl ⟨by rfl, ?hy7⟩) hSd ?_
  case hy7 => (intro w hSw; (try dsimp only at hSw); go_simp) <;> with_reducible rfl
  try simp only [Act.put, List.setIfInBounds_toArray, List.set_cons_zero, List.set_cons_succ]
  refine wpAnyT_one (i := 8) (by kernel_rfl) rfl (fun K hK => ?_)
  go_simp
  have HB10 : Hid (Below w.heap.size w (w8.alloc (.cells #[.string x.t, .int .i64 x.c, .int .i64 x.r, .int .i64 x.top.s, .int .i64 x.top.w, .int .i64 x.right.s, .int .i64 x.right.w, .int .i64 x.bot.s, .int .i64 x.bot.w, .int .i64 x.left.s, .int .i64 x.left.w] 65)).drew.drew) := bdrew (bdrew (balloc HB8.out _))
  refine hK.out _ _ (fun _ => HK.out _ HB10.out) ?_
  clear hK K
  replace hSd := HK.out _ HB10.out
  try simp only [Act.put, List.setIfInBounds_toArray, List.set_cons_zero, List.set_cons_succ]
  refine wpAnyT_one (i := 9) (by kernel_rfl) rfl (fun K hK => ?_)
  go_simp
  have HI9 := hide (insertL_Cell base (.slice Aj m cg) m i w8.heap.size (cs.flatMap cellE) [.string x.t, .int .i64 x.c, .int .i64 x.r, .int .i64 x.top.s, .int .i64 x.top.w, .int .i64 x.right.s, .int .i64 x.right.w, .int .i64 x.bot.s, .int .i64 x.bot.w, .int .i64 x.left.s, .int .i64 x.left.w] (w8.alloc (.cells #[.string x.t, .int .i64 x.c, .int .i64 x.r, .int .i64 x.top.s, .int .i64 x.top.w, .int .i64 x.right.s, .int .i64 x.right.w, .int .i64 x.bot.s, .int .i64 x.bot.w, .int .i64 x.left.s, .int .i64 x.left.w] 65)).drew.drew (World.ownsRow.drew (World.ownsRow.drew (own_alloc (own_below HO.out HB8.out) _))) HIJ.out hm (by have := HB8.out.size; have := HBS.out; simp; omega) (fun e => by have := (own_lt HO.out e).2; have := HB8.out.size; omega) (heap_alloc_new w8 _) rfl (cells_one cs) (by intro u hu; simp only [List.mem_cons, List.not_mem_nil, or_false] at hu; rcases hu with rfl | rfl | rfl | rfl | rfl | rfl | rfl | rfl | rfl | rfl | rfl <;> rfl))
  rw [← HAT.out] at HI9
  with_reducible refine HI9.out.mono ?_
  rintro e w9 ⟨v9, rfl, ho9, hg9, hl9⟩
  obtain ⟨A9, c9, rfl⟩ := own_form0 ho9
  have HL9 : Hid (∀ b, (Value.slice A9 (m + 1) c9).ownBlock = some b → (Value.slice Aj m cg).ownBlock = some b ∨ w.heap.size ≤ b) := fun b hb => (hl9 b hb).imp id (fun h => by have := HB8.out.size; simp at h; omega)
  clear hl9
  have hS7 := HK.out _ HB10.out
  have hS9 : (fun U : World => (U.cell? ⟨Bc, 0, none⟩ = some (.string x.t) ∧ U.cell? ⟨Bc, 1, none⟩ = some (.int .i64 x.c) ∧ U.cell? ⟨Bc, 2, none⟩ = some (.int .i64 x.r) ∧ U.cell? ⟨Bc, 3, none⟩ = some (.int .i64 x.top.s) ∧ U.cell? ⟨Bc, 4, none⟩ = some (.int .i64 x.top.w) ∧ U.cell? ⟨Bc, 5, none⟩ = some (.int .i64 x.right.s) ∧ U.cell? ⟨Bc, 6, none⟩ = some (.int .i64 x.right.w) ∧ U.cell? ⟨Bc, 7, none⟩ = some (.int .i64 x.bot.s) ∧ U.cell? ⟨Bc, 8, none⟩ = some (.int .i64 x.bot.w) ∧ U.cell? ⟨Bc, 9, none⟩ = some (.int .i64 x.left.s) ∧ U.cell? ⟨Bc, 10, none⟩ = some (.int .i64 x.left.w)) ∧ U.cell? ⟨X, 3, none⟩ = some (.slice (some ⟨gr, 0, none⟩) n c) ∧ U.cell? ⟨Br, 0, none⟩ = some (.int .i64 j) ∧ U.cell? ⟨Ba, 0, none⟩ = some (.int .i64 at') ∧ U.cell? ⟨gr, j * 2, none⟩ = some (.slice Aj m cg)) w9 := ⟨cc_off hg9 (fun b hb => (HNE.out b hb).2.2.2.2) hS7.1, own_off hg9 (fun b hb => (HNE.out b hb).1) hS7.2.1, own_off hg9 (fun b hb => (HNE.out b hb).2.2.1) hS7.2.2.1, own_off hg9 (fun b hb => (HNE.out b hb).2.2.2.1) hS7.2.2.2.1, own_off hg9 (fun b hb => (HNE.out b hb).2.1) hS7.2.2.2.2⟩
  have pf9 : w9.frozen? ⟨gr, j * 2, none⟩ = false := own_off_fr hg9 (fun b hb => (HNE.out b hb).2.1) hS7.2.2.2.2 (((seenBk gr (World.block_lt_of_cell? w _ HP0.out) HB10.out).2.1 _).trans HPF.out)
  have p9 := hS9.2.2.2.2
  have HO9 := hide ho9
  have HG9 := hide hg9
  clear ho9 hg9
  refine hK.out _ _ (fun _ => hS9) ?_
  clear hK K
  replace hSd := hS9
  try simp only [Act.put, List.setIfInBounds_toArray, List.set_cons_zero, List.set_cons_succ]
  refine' wpAnyT_take [11, 12] (i := 10) (v := _) rfl (by kernel_rfl) (by kernel_rfl) (by kernel_rfl) (by kernel_rfl) (by kernel_rfl) (by kernel_rfl) (fun _ _ _ h => h) (Or.inl ⟨by rfl, ?hy10⟩) hSd ?_
  case hy10 => (intro w hSw; (try dsimp only at hSw); go_simp) <;> with_reducible rfl
  try simp only [Act.put, List.setIfInBounds_toArray, List.set_cons_zero, List.set_cons_succ]
  refine' wpAnyT_take [12] (i := 11) (v := _) rfl (by kernel_rfl) (by kernel_rfl) (by kernel_rfl) (by kernel_rfl) (by kernel_rfl) (by kernel_rfl) (fun _ _ _ h => h) (Or.inl ⟨by rfl, ?hy11⟩) hSd ?_
  case hy11 => (intro w hSw; (try dsimp only at hSw); go_simp) <;> with_reducible rfl
  try simp only [Act.put, List.setIfInBounds_toArray, List.set_cons_zero, List.set_cons_succ]
  refine wpAnyT_one (i := 12) (by kernel_rfl) rfl (fun K hK => ?_)
  go_simp
  refine hK.out _ _ (fun h => absurd rfl h) ?_
  clear hK K
  try simp only [Act.put, List.setIfInBounds_toArray, List.set_cons_zero, List.set_cons_succ]
  refine wpAnyT_done (by kernel_rfl) ?_ _
  go_wp2_with fail
  go_ret
  refine ⟨_, _, w9, ⟨rfl, rfl⟩, ?_, HB10.out, HG9.out, HL9.out⟩
  have := HO9.out
  rw [show i * 11 = i * 11 from rfl, flat_take cellE 11 (fun _ => rfl), flat_drop cellE 11 (fun _ => rfl)] at this
  rw [List.append_assoc] at this
  exact this
end Go.Proofs.YtfcogogpioeggaaDoor
