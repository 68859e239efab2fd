import Derived.Test.YtfcogogpioeggaaDoorLb
import Derived.Test.YtfcogogpioeggaaDoorLd
namespace Go.Proofs.YtfcogogpioeggaaDoor
open Go.RowKit
/- EdtPut: plain; what its edit does. -/
theorem cc_off {W w8 : World} {v : Value} {Bc : Nat} {x : TCell} (hg : W.grownBy w8 v.ownBlock) (hne : ∀ b, v.ownBlock = some b → b ≠ Bc) (h : (fun U : World => U.cell? ⟨Bc, 0, none⟩ = some (.string x.t) ∧ U.cell? ⟨Bc, 1, none⟩ = some (.int .i64 x.c) ∧ U.cell? ⟨Bc, 2, none⟩ = some (.int .i64 x.r) ∧ U.cell? ⟨Bc, 3, none⟩ = some (.int .i64 x.top.s) ∧ U.cell? ⟨Bc, 4, none⟩ = some (.int .i64 x.top.w) ∧ U.cell? ⟨Bc, 5, none⟩ = some (.int .i64 x.right.s) ∧ U.cell? ⟨Bc, 6, none⟩ = some (.int .i64 x.right.w) ∧ U.cell? ⟨Bc, 7, none⟩ = some (.int .i64 x.bot.s) ∧ U.cell? ⟨Bc, 8, none⟩ = some (.int .i64 x.bot.w) ∧ U.cell? ⟨Bc, 9, none⟩ = some (.int .i64 x.left.s) ∧ U.cell? ⟨Bc, 10, none⟩ = some (.int .i64 x.left.w)) W) : (fun U : World => U.cell? ⟨Bc, 0, none⟩ = some (.string x.t) ∧ U.cell? ⟨Bc, 1, none⟩ = some (.int .i64 x.c) ∧ U.cell? ⟨Bc, 2, none⟩ = some (.int .i64 x.r) ∧ U.cell? ⟨Bc, 3, none⟩ = some (.int .i64 x.top.s) ∧ U.cell? ⟨Bc, 4, none⟩ = some (.int .i64 x.top.w) ∧ U.cell? ⟨Bc, 5, none⟩ = some (.int .i64 x.right.s) ∧ U.cell? ⟨Bc, 6, none⟩ = some (.int .i64 x.right.w) ∧ U.cell? ⟨Bc, 7, none⟩ = some (.int .i64 x.bot.s) ∧ U.cell? ⟨Bc, 8, none⟩ = some (.int .i64 x.bot.w) ∧ U.cell? ⟨Bc, 9, none⟩ = some (.int .i64 x.left.s) ∧ U.cell? ⟨Bc, 10, none⟩ = some (.int .i64 x.left.w)) w8 := by
  obtain ⟨a0, a1, a2, a3, a4, a5, a6, a7, a8, a9, a10⟩ := h
  exact ⟨own_off hg hne a0, own_off hg hne a1, own_off hg hne a2, own_off hg hne a3, own_off hg hne a4, own_off hg hne a5, own_off hg hne a6, own_off hg hne a7, own_off hg hne a8, own_off hg hne a9, own_off hg hne a10⟩
def edtPut (t : Tbl) (row at' : Int) (x : TCell) : Tbl × Bool :=
  if tblOk t = true then
    if h : (cellOk x = true ∧ inB row 0 ((t.rows.length : Int) - 1) = true) ∧ row.toNat < t.rows.length then
      if inB at' 0 (t.rows[row.toNat].cs.length : Int) = true ∧ t.rows[row.toNat].cs.length ≠ 5 then
        ({ t with rows := t.rows.set row.toNat ⟨t.rows[row.toNat].cs.take at'.toNat ++ [x] ++ t.rows[row.toNat].cs.drop at'.toNat, t.rows[row.toNat].wh⟩ }, true)
      else (t, false)
    else (t, false)
  else (⟨[], 0, 0, [], 0⟩, false)
theorem put_false {t : Tbl} {row at' : Int} {x : TCell} (hok : tblOk t = true) (h : cellOk x = false ∨ inB row 0 ((t.rows.length : Int) - 1) = false ∨ (∃ h : row.toNat < t.rows.length, inB at' 0 (t.rows[row.toNat].cs.length : Int) = false ∨ t.rows[row.toNat].cs.length = 5)) : edtPut t row at' x = (t, false) := by
  unfold edtPut
  rw [if_pos hok]
  split
  · rename_i h1
    split
    · rename_i h2
      rcases h with h | h | ⟨h3, h | h⟩
      · rw [h1.1.1] at h; cases h
      · rw [h1.1.2] at h; cases h
      · rw [h2.1] at h; cases h
      · exact absurd h h2.2
    · rfl
  · rfl
theorem put_true {t : Tbl} {j i : Nat} {x : TCell} (hok : tblOk t = true) (hx : cellOk x = true) (hj : j < t.rows.length) (hi : i ≤ t.rows[j].cs.length) (h5 : t.rows[j].cs.length ≠ 5) :
    edtPut t j i x = ({ t with rows := t.rows.set j ⟨t.rows[j].cs.take i ++ [x] ++ t.rows[j].cs.drop i, t.rows[j].wh⟩ }, true) := by
  have h1 : inB (j : Int) 0 ((t.rows.length : Int) - 1) = true := by simp [inB]; omega
  have h2 : inB (i : Int) 0 (t.rows[j].cs.length : Int) = true := by simp [inB]; omega
  unfold edtPut
  rw [if_pos hok]
  simp only [Int.toNat_natCast]
  rw [dif_pos ⟨⟨hx, h1⟩, hj⟩, if_pos ⟨h2, h5⟩]
theorem cc_keep {w U : World} {Bc : Nat} {x : TCell} (h : (fun U : World => U.cell? ⟨Bc, 0, none⟩ = some (.string x.t) ∧ U.cell? ⟨Bc, 1, none⟩ = some (.int .i64 x.c) ∧ U.cell? ⟨Bc, 2, none⟩ = some (.int .i64 x.r) ∧ U.cell? ⟨Bc, 3, none⟩ = some (.int .i64 x.top.s) ∧ U.cell? ⟨Bc, 4, none⟩ = some (.int .i64 x.top.w) ∧ U.cell? ⟨Bc, 5, none⟩ = some (.int .i64 x.right.s) ∧ U.cell? ⟨Bc, 6, none⟩ = some (.int .i64 x.right.w) ∧ U.cell? ⟨Bc, 7, none⟩ = some (.int .i64 x.bot.s) ∧ U.cell? ⟨Bc, 8, none⟩ = some (.int .i64 x.bot.w) ∧ U.cell? ⟨Bc, 9, none⟩ = some (.int .i64 x.left.s) ∧ U.cell? ⟨Bc, 10, none⟩ = some (.int .i64 x.left.w)) w) (hb : Below w.heap.size w U) : (fun U : World => U.cell? ⟨Bc, 0, none⟩ = some (.string x.t) ∧ U.cell? ⟨Bc, 1, none⟩ = some (.int .i64 x.c) ∧ U.cell? ⟨Bc, 2, none⟩ = some (.int .i64 x.r) ∧ U.cell? ⟨Bc, 3, none⟩ = some (.int .i64 x.top.s) ∧ U.cell? ⟨Bc, 4, none⟩ = some (.int .i64 x.top.w) ∧ U.cell? ⟨Bc, 5, none⟩ = some (.int .i64 x.right.s) ∧ U.cell? ⟨Bc, 6, none⟩ = some (.int .i64 x.right.w) ∧ U.cell? ⟨Bc, 7, none⟩ = some (.int .i64 x.bot.s) ∧ U.cell? ⟨Bc, 8, none⟩ = some (.int .i64 x.bot.w) ∧ U.cell? ⟨Bc, 9, none⟩ = some (.int .i64 x.left.s) ∧ U.cell? ⟨Bc, 10, none⟩ = some (.int .i64 x.left.w)) U := by
  obtain ⟨a0, a1, a2, a3, a4, a5, a6, a7, a8, a9, a10⟩ := h
  exact ⟨keepW hb a0, keepW hb a1, keepW hb a2, keepW hb a3, keepW hb a4, keepW hb a5, keepW hb a6, keepW hb a7, keepW hb a8, keepW hb a9, keepW hb a10⟩
set_option linter.unusedSimpArgs false in
set_option maxRecDepth 100000 in
set_option maxHeartbeats 4000000 in
theorem put_no1 (X Bc Br Ba n c : Nat) (A : Option Addr) (row at' : Int) (x : TCell) (w : World) (hs : x.t.size ≤ 1048576) (hw : Base w) (hc : (fun U : World => U.cell? ⟨Bc, 0, none⟩ = some (.string x.t) ∧ U.cell? ⟨Bc, 1, none⟩ = some (.int .i64 x.c) ∧ U.cell? ⟨Bc, 2, none⟩ = some (.int .i64 x.r) ∧ U.cell? ⟨Bc, 3, none⟩ = some (.int .i64 x.top.s) ∧ U.cell? ⟨Bc, 4, none⟩ = some (.int .i64 x.top.w) ∧ U.cell? ⟨Bc, 5, none⟩ = some (.int .i64 x.right.s) ∧ U.cell? ⟨Bc, 6, none⟩ = some (.int .i64 x.right.w) ∧ U.cell? ⟨Bc, 7, none⟩ = some (.int .i64 x.bot.s) ∧ U.cell? ⟨Bc, 8, none⟩ = some (.int .i64 x.bot.w) ∧ U.cell? ⟨Bc, 9, none⟩ = some (.int .i64 x.left.s) ∧ U.cell? ⟨Bc, 10, none⟩ = some (.int .i64 x.left.w)) w) (x3 : w.cell? ⟨X, 3, none⟩ = some (.slice A n c)) (b1 : w.cell? ⟨Br, 0, none⟩ = some (.int .i64 row)) (b2 : w.cell? ⟨Ba, 0, none⟩ = some (.int .i64 at')) (hn : n ≤ 1048576) (h : cellOk x = false) :
    Calls Tryd.prog 71 #[.pointer (some ⟨X, 0, none⟩), .pointer (some ⟨Bc, 0, none⟩), .pointer (some ⟨Br, 0, none⟩), .pointer (some ⟨Ba, 0, none⟩)] w fun e w' => e = .returned (.bool false) ∧ Below w.heap.size w w' := by
  have hI := fun (n lo hi : Int) (W : World) => impl_in n lo hi W
  have HC : Hid (∀ U : World, Below w.heap.size w U → Calls Tryd.prog 72 #[.agg #[.string x.t, .int .i64 x.c, .int .i64 x.r, .int .i64 x.top.s, .int .i64 x.top.w, .int .i64 x.right.s, .int .i64 x.right.w, .int .i64 x.bot.s, .int .i64 x.bot.w, .int .i64 x.left.s, .int .i64 x.left.w]] U fun e w' => e = .returned (.bool (cellOk x)) ∧ Below U.heap.size U w') := fun U h => impl_CellOk x U hs (hw.below h)
  have HK : Hid (∀ U : World, Below w.heap.size w U → (fun U : World => (U.cell? ⟨Bc, 0, none⟩ = some (.string x.t) ∧ U.cell? ⟨Bc, 1, none⟩ = some (.int .i64 x.c) ∧ U.cell? ⟨Bc, 2, none⟩ = some (.int .i64 x.r) ∧ U.cell? ⟨Bc, 3, none⟩ = some (.int .i64 x.top.s) ∧ U.cell? ⟨Bc, 4, none⟩ = some (.int .i64 x.top.w) ∧ U.cell? ⟨Bc, 5, none⟩ = some (.int .i64 x.right.s) ∧ U.cell? ⟨Bc, 6, none⟩ = some (.int .i64 x.right.w) ∧ U.cell? ⟨Bc, 7, none⟩ = some (.int .i64 x.bot.s) ∧ U.cell? ⟨Bc, 8, none⟩ = some (.int .i64 x.bot.w) ∧ U.cell? ⟨Bc, 9, none⟩ = some (.int .i64 x.left.s) ∧ U.cell? ⟨Bc, 10, none⟩ = some (.int .i64 x.left.w)) ∧ U.cell? ⟨X, 3, none⟩ = some (.slice A n c) ∧ U.cell? ⟨Br, 0, none⟩ = some (.int .i64 row) ∧ U.cell? ⟨Ba, 0, none⟩ = some (.int .i64 at')) U) := fun U h => ⟨cc_keep hc h, keepW h x3, keepW h b1, keepW h b2⟩
  rw [h] at HC
  have hSd : (fun U : World => (U.cell? ⟨Bc, 0, none⟩ = some (.string x.t) ∧ U.cell? ⟨Bc, 1, none⟩ = some (.int .i64 x.c) ∧ U.cell? ⟨Bc, 2, none⟩ = some (.int .i64 x.r) ∧ U.cell? ⟨Bc, 3, none⟩ = some (.int .i64 x.top.s) ∧ U.cell? ⟨Bc, 4, none⟩ = some (.int .i64 x.top.w) ∧ U.cell? ⟨Bc, 5, none⟩ = some (.int .i64 x.right.s) ∧ U.cell? ⟨Bc, 6, none⟩ = some (.int .i64 x.right.w) ∧ U.cell? ⟨Bc, 7, none⟩ = some (.int .i64 x.bot.s) ∧ U.cell? ⟨Bc, 8, none⟩ = some (.int .i64 x.bot.w) ∧ U.cell? ⟨Bc, 9, none⟩ = some (.int .i64 x.left.s) ∧ U.cell? ⟨Bc, 10, none⟩ = some (.int .i64 x.left.w)) ∧ U.cell? ⟨X, 3, none⟩ = some (.slice A n c) ∧ U.cell? ⟨Br, 0, none⟩ = some (.int .i64 row) ∧ U.cell? ⟨Ba, 0, none⟩ = some (.int .i64 at')) w.drew := HK.out _ (bdrew (brefl _))
  clear hc hw x3 b1 b2
  go_enter Tryd.func71, Tryd.ntmps71
  go_wp2_with fail
  refine wp_region_T (S := fun U : World => (U.cell? ⟨Bc, 0, none⟩ = some (.string x.t) ∧ U.cell? ⟨Bc, 1, none⟩ = some (.int .i64 x.c) ∧ U.cell? ⟨Bc, 2, none⟩ = some (.int .i64 x.r) ∧ U.cell? ⟨Bc, 3, none⟩ = some (.int .i64 x.top.s) ∧ U.cell? ⟨Bc, 4, none⟩ = some (.int .i64 x.top.w) ∧ U.cell? ⟨Bc, 5, none⟩ = some (.int .i64 x.right.s) ∧ U.cell? ⟨Bc, 6, none⟩ = some (.int .i64 x.right.w) ∧ U.cell? ⟨Bc, 7, none⟩ = some (.int .i64 x.bot.s) ∧ U.cell? ⟨Bc, 8, none⟩ = some (.int .i64 x.bot.w) ∧ U.cell? ⟨Bc, 9, none⟩ = some (.int .i64 x.left.s) ∧ U.cell? ⟨Bc, 10, none⟩ = some (.int .i64 x.left.w)) ∧ U.cell? ⟨X, 3, none⟩ = some (.slice A n c) ∧ U.cell? ⟨Br, 0, none⟩ = some (.int .i64 row) ∧ U.cell? ⟨Ba, 0, none⟩ = some (.int .i64 at')) (L := 13) (by kernel_rfl) ?_
  refine' wpAnyT_take [1, 3, 13] (i := 0) (v := _) rfl (by kernel_rfl) (by kernel_rfl) (by kernel_rfl) (by kernel_rfl) (by kernel_rfl) (by kernel_rfl) (fun _ _ _ h => h) (Or.inl ⟨by rfl, ?hy0⟩) hSd ?_
  case hy0 => (intro w hSw; (try dsimp only at hSw); go_simp) <;> with_reducible rfl
  try simp only [Act.put, List.setIfInBounds_toArray, List.set_cons_zero, List.set_cons_succ]
  refine wpAnyT_one (i := 1) (by kernel_rfl) rfl (fun K hK => ?_)
  go_simp
  with_reducible refine (HC.out _ (bdrew (brefl _))).mono ?_
  rintro e w8 ⟨rfl, hb8⟩
  have HB8 := hide (step (bdrew (brefl w)) hb8)
  clear hb8
  refine hK.out _ _ (fun _ => HK.out _ HB8.out) ?_
  clear hK K
  replace hSd := HK.out _ HB8.out
  try simp only [Act.put, List.setIfInBounds_toArray, List.set_cons_zero, List.set_cons_succ]
  refine' wpAnyT_take [3, 13] (i := 2) (v := _) rfl (by kernel_rfl) (by kernel_rfl) (by kernel_rfl) (by kernel_rfl) (by kernel_rfl) (by kernel_rfl) (fun _ _ _ h => h) (Or.inl ⟨by rfl, ?hy2⟩) hSd ?_
  case hy2 => (intro w hSw; (try dsimp only at hSw); go_simp) <;> with_reducible rfl
  try simp only [Act.put, List.setIfInBounds_toArray, List.set_cons_zero, List.set_cons_succ]
  refine' wpAnyT_take [13] (i := 3) (v := _) rfl (by kernel_rfl) (by kernel_rfl) (by kernel_rfl) (by kernel_rfl) (by kernel_rfl) (by kernel_rfl) (fun _ _ _ h => h) (Or.inl ⟨by rfl, ?hy3⟩) hSd ?_
  case hy3 => (intro w hSw; (try dsimp only at hSw); go_simp) <;> with_reducible rfl
  try simp only [Act.put, List.setIfInBounds_toArray, List.set_cons_zero, List.set_cons_succ]
  refine' wpAnyT_take [11, 12, 13] (i := 4) (v := undef) rfl (by kernel_rfl) (by kernel_rfl) (by kernel_rfl) (by kernel_rfl) (by kernel_rfl) (by kernel_rfl) (fun _ _ _ h => h) (Or.inr ⟨by kernel_rfl, rfl⟩) hSd ?_
  try simp only [Act.put, List.setIfInBounds_toArray, List.set_cons_zero, List.set_cons_succ]
  refine' wpAnyT_take [6, 7, 8, 9, 10, 11, 12, 13] (i := 5) (v := undef) rfl (by kernel_rfl) (by kernel_rfl) (by kernel_rfl) (by kernel_rfl) (by kernel_rfl) (by kernel_rfl) (fun _ _ _ h => h) (Or.inr ⟨by kernel_rfl, rfl⟩) hSd ?_
  try simp only [Act.put, List.setIfInBounds_toArray, List.set_cons_zero, List.set_cons_succ]
  refine' wpAnyT_take [7, 8, 9, 10, 11, 12, 13] (i := 6) (v := undef) rfl (by kernel_rfl) (by kernel_rfl) (by kernel_rfl) (by kernel_rfl) (by kernel_rfl) (by kernel_rfl) (fun _ _ _ h => h) (Or.inr ⟨by kernel_rfl, rfl⟩) hSd ?_
  try simp only [Act.put, List.setIfInBounds_toArray, List.set_cons_zero, List.set_cons_succ]
  refine' wpAnyT_take [8, 9, 10, 11, 12, 13] (i := 7) (v := undef) rfl (by kernel_rfl) (by kernel_rfl) (by kernel_rfl) (by kernel_rfl) (by kernel_rfl) (by kernel_rfl) (fun _ _ _ h => h) (Or.inr ⟨by kernel_rfl, rfl⟩) hSd ?_
  try simp only [Act.put, List.setIfInBounds_toArray, List.set_cons_zero, List.set_cons_succ]
  refine' wpAnyT_take [9, 10, 11, 12, 13] (i := 8) (v := undef) rfl (by kernel_rfl) (by kernel_rfl) (by kernel_rfl) (by kernel_rfl) (by kernel_rfl) (by kernel_rfl) (fun _ _ _ h => h) (Or.inr ⟨by kernel_rfl, rfl⟩) hSd ?_
  try simp only [Act.put, List.setIfInBounds_toArray, List.set_cons_zero, List.set_cons_succ]
  refine' wpAnyT_take [10, 11, 12, 13] (i := 9) (v := undef) rfl (by kernel_rfl) (by kernel_rfl) (by kernel_rfl) (by kernel_rfl) (by kernel_rfl) (by kernel_rfl) (fun _ _ _ h => h) (Or.inr ⟨by kernel_rfl, rfl⟩) hSd ?_
  try simp only [Act.put, List.setIfInBounds_toArray, List.set_cons_zero, List.set_cons_succ]
  refine' wpAnyT_take [11, 12, 13] (i := 10) (v := undef) rfl (by kernel_rfl) (by kernel_rfl) (by kernel_rfl) (by kernel_rfl) (by kernel_rfl) (by kernel_rfl) (fun _ _ _ h => h) (Or.inr ⟨by kernel_rfl, rfl⟩) hSd ?_
  try simp only [Act.put, List.setIfInBounds_toArray, List.set_cons_zero, List.set_cons_succ]
  refine' wpAnyT_take [12, 13] (i := 11) (v := undef) rfl (by kernel_rfl) (by kernel_rfl) (by kernel_rfl) (by kernel_rfl) (by kernel_rfl) (by kernel_rfl) (fun _ _ _ h => h) (Or.inr ⟨by kernel_rfl, rfl⟩) hSd ?_
  try simp only [Act.put, List.setIfInBounds_toArray, List.set_cons_zero, List.set_cons_succ]
  refine' wpAnyT_take [13] (i := 12) (v := undef) rfl (by kernel_rfl) (by kernel_rfl) (by kernel_rfl) (by kernel_rfl) (by kernel_rfl) (by kernel_rfl) (fun _ _ _ h => h) (Or.inr ⟨by kernel_rfl, rfl⟩) hSd ?_
  try simp only [Act.put, List.setIfInBounds_toArray, List.set_cons_zero, List.set_cons_succ]
  refine wpAnyT_one (i := 13) (by kernel_rfl) rfl (fun K hK => ?_)
  go_simp
  refine hK.out _ _ (fun h => absurd rfl h) ?_
  clear hK K
  try simp only [Act.put, List.setIfInBounds_toArray, List.set_cons_zero, List.set_cons_succ]
  refine wpAnyT_done (by kernel_rfl) ?_ _
  go_wp2_with fail
  go_ret
  exact ⟨rfl, HB8.out⟩
set_option linter.unusedSimpArgs false in
set_option maxRecDepth 100000 in
set_option maxHeartbeats 4000000 in
theorem put_no2 (X Bc Br Ba n c : Nat) (A : Option Addr) (row at' : Int) (x : TCell) (w : World) (hs : x.t.size ≤ 1048576) (hw : Base w) (hc : (fun U : World => U.cell? ⟨Bc, 0, none⟩ = some (.string x.t) ∧ U.cell? ⟨Bc, 1, none⟩ = some (.int .i64 x.c) ∧ U.cell? ⟨Bc, 2, none⟩ = some (.int .i64 x.r) ∧ U.cell? ⟨Bc, 3, none⟩ = some (.int .i64 x.top.s) ∧ U.cell? ⟨Bc, 4, none⟩ = some (.int .i64 x.top.w) ∧ U.cell? ⟨Bc, 5, none⟩ = some (.int .i64 x.right.s) ∧ U.cell? ⟨Bc, 6, none⟩ = some (.int .i64 x.right.w) ∧ U.cell? ⟨Bc, 7, none⟩ = some (.int .i64 x.bot.s) ∧ U.cell? ⟨Bc, 8, none⟩ = some (.int .i64 x.bot.w) ∧ U.cell? ⟨Bc, 9, none⟩ = some (.int .i64 x.left.s) ∧ U.cell? ⟨Bc, 10, none⟩ = some (.int .i64 x.left.w)) w) (x3 : w.cell? ⟨X, 3, none⟩ = some (.slice A n c)) (b1 : w.cell? ⟨Br, 0, none⟩ = some (.int .i64 row)) (b2 : w.cell? ⟨Ba, 0, none⟩ = some (.int .i64 at')) (hn : n ≤ 1048576) (h : cellOk x = true) (h2 : inB row 0 ((n : Int) - 1) = false) :
    Calls Tryd.prog 71 #[.pointer (some ⟨X, 0, none⟩), .pointer (some ⟨Bc, 0, none⟩), .pointer (some ⟨Br, 0, none⟩), .pointer (some ⟨Ba, 0, none⟩)] w fun e w' => e = .returned (.bool false) ∧ Below w.heap.size w w' := by
  have hI := fun (n lo hi : Int) (W : World) => impl_in n lo hi W
  have HC : Hid (∀ U : World, Below w.heap.size w U → Calls Tryd.prog 72 #[.agg #[.string x.t, .int .i64 x.c, .int .i64 x.r, .int .i64 x.top.s, .int .i64 x.top.w, .int .i64 x.right.s, .int .i64 x.right.w, .int .i64 x.bot.s, .int .i64 x.bot.w, .int .i64 x.left.s, .int .i64 x.left.w]] U fun e w' => e = .returned (.bool (cellOk x)) ∧ Below U.heap.size U w') := fun U h => impl_CellOk x U hs (hw.below h)
  have HK : Hid (∀ U : World, Below w.heap.size w U → (fun U : World => (U.cell? ⟨Bc, 0, none⟩ = some (.string x.t) ∧ U.cell? ⟨Bc, 1, none⟩ = some (.int .i64 x.c) ∧ U.cell? ⟨Bc, 2, none⟩ = some (.int .i64 x.r) ∧ U.cell? ⟨Bc, 3, none⟩ = some (.int .i64 x.top.s) ∧ U.cell? ⟨Bc, 4, none⟩ = some (.int .i64 x.top.w) ∧ U.cell? ⟨Bc, 5, none⟩ = some (.int .i64 x.right.s) ∧ U.cell? ⟨Bc, 6, none⟩ = some (.int .i64 x.right.w) ∧ U.cell? ⟨Bc, 7, none⟩ = some (.int .i64 x.bot.s) ∧ U.cell? ⟨Bc, 8, none⟩ = some (.int .i64 x.bot.w) ∧ U.cell? ⟨Bc, 9, none⟩ = some (.int .i64 x.left.s) ∧ U.cell? ⟨Bc, 10, none⟩ = some (.int .i64 x.left.w)) ∧ U.cell? ⟨X, 3, none⟩ = some (.slice A n c) ∧ U.cell? ⟨Br, 0, none⟩ = some (.int .i64 row) ∧ U.cell? ⟨Ba, 0, none⟩ = some (.int .i64 at')) U) := fun U h => ⟨cc_keep hc h, keepW h x3, keepW h b1, keepW h b2⟩
  rw [h] at HC
  have hwr : IntKind.i64.wrap ((n : Int) - 1) = (n : Int) - 1 := IntWalk.i64_in _ (by omega)
  have hSd : (fun U : World => (U.cell? ⟨Bc, 0, none⟩ = some (.string x.t) ∧ U.cell? ⟨Bc, 1, none⟩ = some (.int .i64 x.c) ∧ U.cell? ⟨Bc, 2, none⟩ = some (.int .i64 x.r) ∧ U.cell? ⟨Bc, 3, none⟩ = some (.int .i64 x.top.s) ∧ U.cell? ⟨Bc, 4, none⟩ = some (.int .i64 x.top.w) ∧ U.cell? ⟨Bc, 5, none⟩ = some (.int .i64 x.right.s) ∧ U.cell? ⟨Bc, 6, none⟩ = some (.int .i64 x.right.w) ∧ U.cell? ⟨Bc, 7, none⟩ = some (.int .i64 x.bot.s) ∧ U.cell? ⟨Bc, 8, none⟩ = some (.int .i64 x.bot.w) ∧ U.cell? ⟨Bc, 9, none⟩ = some (.int .i64 x.left.s) ∧ U.cell? ⟨Bc, 10, none⟩ = some (.int .i64 x.left.w)) ∧ U.cell? ⟨X, 3, none⟩ = some (.slice A n c) ∧ U.cell? ⟨Br, 0, none⟩ = some (.int .i64 row) ∧ U.cell? ⟨Ba, 0, none⟩ = some (.int .i64 at')) w.drew := HK.out _ (bdrew (brefl _))
  clear hc hw x3 b1 b2
  go_enter Tryd.func71, Tryd.ntmps71
  go_wp2_with fail
  refine wp_region_T (S := fun U : World => (U.cell? ⟨Bc, 0, none⟩ = some (.string x.t) ∧ U.cell? ⟨Bc, 1, none⟩ = some (.int .i64 x.c) ∧ U.cell? ⟨Bc, 2, none⟩ = some (.int .i64 x.r) ∧ U.cell? ⟨Bc, 3, none⟩ = some (.int .i64 x.top.s) ∧ U.cell? ⟨Bc, 4, none⟩ = some (.int .i64 x.top.w) ∧ U.cell? ⟨Bc, 5, none⟩ = some (.int .i64 x.right.s) ∧ U.cell? ⟨Bc, 6, none⟩ = some (.int .i64 x.right.w) ∧ U.cell? ⟨Bc, 7, none⟩ = some (.int .i64 x.bot.s) ∧ U.cell? ⟨Bc, 8, none⟩ = some (.int .i64 x.bot.w) ∧ U.cell? ⟨Bc, 9, none⟩ = some (.int .i64 x.left.s) ∧ U.cell? ⟨Bc, 10, none⟩ = some (.int .i64 x.left.w)) ∧ U.cell? ⟨X, 3, none⟩ = some (.slice A n c) ∧ U.cell? ⟨Br, 0, none⟩ = some (.int .i64 row) ∧ U.cell? ⟨Ba, 0, none⟩ = some (.int .i64 at')) (L := 13) (by kernel_rfl) ?_
  refine' wpAnyT_take [1, 3, 13] (i := 0) (v := _) rfl (by kernel_rfl) (by kernel_rfl) (by kernel_rfl) (by kernel_rfl) (by kernel_rfl) (by kernel_rfl) (fun _ _ _ h => h) (Or.inl ⟨by rfl, ?hy0⟩) hSd ?_
  case hy0 => (intro w hSw; (try dsimp only at hSw); go_simp) <;> with_reducible rfl
  try simp only [Act.put, List.setIfInBounds_toArray, List.set_cons_zero, List.set_cons_succ]
  refine wpAnyT_one (i := 1) (by kernel_rfl) rfl (fun K hK => ?_)
  go_simp
  with_reducible refine (HC.out _ (bdrew (brefl _))).mono ?_
  rintro e w8 ⟨rfl, hb8⟩
  have HB8 := hide (step (bdrew (brefl w)) hb8)
  clear hb8
  refine hK.out _ _ (fun _ => HK.out _ HB8.out) ?_
  clear hK K
  replace hSd := HK.out _ HB8.out
  try simp only [Act.put, List.setIfInBounds_toArray, List.set_cons_zero, List.set_cons_succ]
  refine' wpAnyT_take [3, 13] (i := 2) (v := _) rfl (by kernel_rfl) (by kernel_rfl) (by kernel_rfl) (by kernel_rfl) (by kernel_rfl) (by kernel_rfl) (fun _ _ _ h => h) (Or.inl ⟨by rfl, ?hy2⟩) hSd ?_
  case hy2 => (intro w hSw; (try dsimp only at hSw); go_simp) <;> with_reducible rfl
  try simp only [Act.put, List.setIfInBounds_toArray, List.set_cons_zero, List.set_cons_succ]
  refine' wpAnyT_take [13] (i := 3) (v := _) rfl (by kernel_rfl) (by kernel_rfl) (by kernel_rfl) (by kernel_rfl) (by kernel_rfl) (by kernel_rfl) (fun _ _ _ h => h) (Or.inl ⟨by rfl, ?hy3⟩) hSd ?_
  case hy3 => (intro w hSw; (try dsimp only at hSw); go_simp) <;> with_reducible rfl
  try simp only [Act.put, List.setIfInBounds_toArray, List.set_cons_zero, List.set_cons_succ]
  refine' wpAnyT_take [11, 12, 13] (i := 4) (v := _) rfl (by kernel_rfl) (by kernel_rfl) (by kernel_rfl) (by kernel_rfl) (by kernel_rfl) (by kernel_rfl) (fun _ _ _ h => h) (Or.inl ⟨by rfl, ?hy4⟩) hSd ?_
  case hy4 => (intro w hSw; (try dsimp only at hSw); go_simp) <;> with_reducible rfl
  try simp only [Act.put, List.setIfInBounds_toArray, List.set_cons_zero, List.set_cons_succ]
  refine' wpAnyT_take [6, 7, 8, 9, 10, 11, 12, 13] (i := 5) (v := _) rfl (by kernel_rfl) (by kernel_rfl) (by kernel_rfl) (by kernel_rfl) (by kernel_rfl) (by kernel_rfl) (fun _ _ _ h => h) (Or.inl ⟨by rfl, ?hy5⟩) hSd ?_
  case hy5 => (intro w hSw; (try dsimp only at hSw); go_simp) <;> with_reducible rfl
  try simp only [Act.put, List.setIfInBounds_toArray, List.set_cons_zero, List.set_cons_succ]
  refine' wpAnyT_take [7, 8, 9, 10, 11, 12, 13] (i := 6) (v := _) rfl (by kernel_rfl) (by kernel_rfl) (by kernel_rfl) (by kernel_rfl) (by kernel_rfl) (by kernel_rfl) (fun _ _ _ h => h) (Or.inl ⟨by rfl, ?hy6⟩) hSd ?_
  case hy6 => (intro w hSw; (try dsimp only at hSw); go_simp) <;> with_reducible rfl
  try simp only [Act.put, List.setIfInBounds_toArray, List.set_cons_zero, List.set_cons_succ]
  refine' wpAnyT_take [8, 9, 10, 11, 12, 13] (i := 7) (v := _) rfl (by kernel_rfl) (by kernel_rfl) (by kernel_rfl) (by kernel_rfl) (by kernel_rfl) (by kernel_rfl) (fun _ _ _ h => h) (Or.inl ⟨by rfl, ?hy7⟩) hSd ?_
  case hy7 => (intro w hSw; (try dsimp only at hSw); go_simp) <;> with_reducible rfl
  try simp only [Act.put, List.setIfInBounds_toArray, List.set_cons_zero, List.set_cons_succ]
  refine' wpAnyT_take [9, 10, 11, 12, 13] (i := 8) (v := _) rfl (by kernel_rfl) (by kernel_rfl) (by kernel_rfl) (by kernel_rfl) (by kernel_rfl) (by kernel_rfl) (fun _ _ _ h => h) (Or.inl ⟨by rfl, ?hy8⟩) hSd ?_
  case hy8 => (intro w hSw; (try dsimp only at hSw); go_simp) <;> with_reducible rfl
  try simp only [Act.put, List.setIfInBounds_toArray, List.set_cons_zero, List.set_cons_succ]
  refine' wpAnyT_take [10, 11, 12, 13] (i := 9) (v := _) rfl (by kernel_rfl) (by kernel_rfl) (by kernel_rfl) (by kernel_rfl) (by kernel_rfl) (by kernel_rfl) (fun _ _ _ h => h) (Or.inl ⟨by rfl, ?hy9⟩) hSd ?_
  case hy9 => (intro w hSw; (try dsimp only at hSw); go_simp) <;> with_reducible rfl
  try simp only [Act.put, List.setIfInBounds_toArray, List.set_cons_zero, List.set_cons_succ]
  refine' wpAnyT_take [11, 12, 13] (i := 10) (v := _) rfl (by kernel_rfl) (by kernel_rfl) (by kernel_rfl) (by kernel_rfl) (by kernel_rfl) (by kernel_rfl) (fun _ _ _ h => h) (Or.inl ⟨by rfl, ?hy10⟩) hSd ?_
  case hy10 => (intro w hSw; (try dsimp only at hSw); go_simp) <;> with_reducible rfl
  try simp only [Act.put, List.setIfInBounds_toArray, List.set_cons_zero, List.set_cons_succ]
  refine wpAnyT_one (i := 11) (by kernel_rfl) rfl (fun K hK => ?_)
  go_simp
  with_reducible refine (hI _ _ _ _).mono ?_
  rintro e w9 ⟨rfl, hw9⟩
  subst hw9
  refine hK.out _ _ (fun _ => HK.out _ HB8.out) ?_
  clear hK K
  try simp only [Act.put, List.setIfInBounds_toArray, List.set_cons_zero, List.set_cons_succ]
  refine' wpAnyT_take [13] (i := 12) (v := _) rfl (by kernel_rfl) (by kernel_rfl) (by kernel_rfl) (by kernel_rfl) (by kernel_rfl) (by kernel_rfl) (fun _ _ _ h => h) (Or.inl ⟨by rfl, ?hy12⟩) hSd ?_
  case hy12 => (intro w hSw; (try dsimp only at hSw); go_simp) <;> with_reducible rfl
  try simp only [Act.put, List.setIfInBounds_toArray, List.set_cons_zero, List.set_cons_succ]
  refine wpAnyT_one (i := 13) (by kernel_rfl) rfl (fun K hK => ?_)
  go_simp
  refine hK.out _ _ (fun h => absurd rfl h) ?_
  clear hK K
  try simp only [Act.put, List.setIfInBounds_toArray, List.set_cons_zero, List.set_cons_succ]
  refine wpAnyT_done (by kernel_rfl) ?_ _
  go_wp2_with fail
  go_ret
  exact ⟨rfl, HB8.out⟩
set_option linter.unusedSimpArgs false in
set_option maxRecDepth 100000 in
set_option maxHeartbeats 8000000 in
theorem put_no3 (X Bc Br Ba n c gr j m cg : Nat) (Aj : Option Addr) (at' : Int) (x : TCell) (w : World) (hs : x.t.size ≤ 1048576) (hw : Base w) (hc : (fun U : World => U.cell? ⟨Bc, 0, none⟩ = some (.string x.t) ∧ U.cell? ⟨Bc, 1, none⟩ = some (.int .i64 x.c) ∧ U.cell? ⟨Bc, 2, none⟩ = some (.int .i64 x.r) ∧ U.cell? ⟨Bc, 3, none⟩ = some (.int .i64 x.top.s) ∧ U.cell? ⟨Bc, 4, none⟩ = some (.int .i64 x.top.w) ∧ U.cell? ⟨Bc, 5, none⟩ = some (.int .i64 x.right.s) ∧ U.cell? ⟨Bc, 6, none⟩ = some (.int .i64 x.right.w) ∧ U.cell? ⟨Bc, 7, none⟩ = some (.int .i64 x.bot.s) ∧ U.cell? ⟨Bc, 8, none⟩ = some (.int .i64 x.bot.w) ∧ U.cell? ⟨Bc, 9, none⟩ = some (.int .i64 x.left.s) ∧ U.cell? ⟨Bc, 10, none⟩ = some (.int .i64 x.left.w)) w) (x3 : w.cell? ⟨X, 3, none⟩ = some (.slice (some ⟨gr, 0, none⟩) n c)) (b1 : w.cell? ⟨Br, 0, none⟩ = some (.int .i64 j)) (b2 : w.cell? ⟨Ba, 0, none⟩ = some (.int .i64 at')) (p0 : w.cell? ⟨gr, j * 2, none⟩ = some (.slice Aj m cg)) (hn : n ≤ 1048576) (hm : m ≤ 1048576) (hj : j < n) (h : cellOk x = true) (h3 : inB at' 0 (m : Int) = false ∨ m = 5) :
    Calls Tryd.prog 71 #[.pointer (some ⟨X, 0, none⟩), .pointer (some ⟨Bc, 0, none⟩), .pointer (some ⟨Br, 0, none⟩), .pointer (some ⟨Ba, 0, none⟩)] w fun e w' => e = .returned (.bool false) ∧ Below w.heap.size w w' := by
  have hI := fun (n lo hi : Int) (W : World) => impl_in n lo hi W
  have HC : Hid (∀ U : World, Below w.heap.size w U → Calls Tryd.prog 72 #[.agg #[.string x.t, .int .i64 x.c, .int .i64 x.r, .int .i64 x.top.s, .int .i64 x.top.w, .int .i64 x.right.s, .int .i64 x.right.w, .int .i64 x.bot.s, .int .i64 x.bot.w, .int .i64 x.left.s, .int .i64 x.left.w]] U fun e w' => e = .returned (.bool (cellOk x)) ∧ Below U.heap.size U w') := fun U h => impl_CellOk x U hs (hw.below h)
  have h5z : ((m : Int) == 5) = decide (m = 5) := by rw [Bool.eq_iff_iff]; simp; omega
  have h4 : inB at' 0 (m : Int) = false ∨ (inB at' 0 (m : Int) = true ∧ ((m : Int) == 5) = true) := by
    cases h9 : inB at' 0 (m : Int) with
    | false => exact .inl rfl
    | true =>
      refine .inr ⟨rfl, ?_⟩
      rcases h3 with h3 | h3
      · rw [h9] at h3; cases h3
      · rw [h5z]; simpa using h3
  clear h3 h5z
  rw [h] at HC
  have hwr : IntKind.i64.wrap ((n : Int) - 1) = (n : Int) - 1 := IntWalk.i64_in _ (by omega)
  have h2 : inB (j : Int) 0 ((n : Int) - 1) = true := by simp [inB]; omega
  have hjz : (j : Int) < (n : Int) := by omega
  have HK : Hid (∀ U : World, Below w.heap.size w U → (fun U : World => (U.cell? ⟨Bc, 0, none⟩ = some (.string x.t) ∧ U.cell? ⟨Bc, 1, none⟩ = some (.int .i64 x.c) ∧ U.cell? ⟨Bc, 2, none⟩ = some (.int .i64 x.r) ∧ U.cell? ⟨Bc, 3, none⟩ = some (.int .i64 x.top.s) ∧ U.cell? ⟨Bc, 4, none⟩ = some (.int .i64 x.top.w) ∧ U.cell? ⟨Bc, 5, none⟩ = some (.int .i64 x.right.s) ∧ U.cell? ⟨Bc, 6, none⟩ = some (.int .i64 x.right.w) ∧ U.cell? ⟨Bc, 7, none⟩ = some (.int .i64 x.bot.s) ∧ U.cell? ⟨Bc, 8, none⟩ = some (.int .i64 x.bot.w) ∧ U.cell? ⟨Bc, 9, none⟩ = some (.int .i64 x.left.s) ∧ U.cell? ⟨Bc, 10, none⟩ = some (.int .i64 x.left.w)) ∧ U.cell? ⟨X, 3, none⟩ = some (.slice (some ⟨gr, 0, none⟩) n c) ∧ U.cell? ⟨Br, 0, none⟩ = some (.int .i64 j) ∧ U.cell? ⟨Ba, 0, none⟩ = some (.int .i64 at') ∧ U.cell? ⟨gr, j * 2, none⟩ = some (.slice Aj m cg)) U) := fun U h => ⟨cc_keep hc h, keepW h x3, keepW h b1, keepW h b2, keepW h p0⟩
  have hSd : (fun U : World => (U.cell? ⟨Bc, 0, none⟩ = some (.string x.t) ∧ U.cell? ⟨Bc, 1, none⟩ = some (.int .i64 x.c) ∧ U.cell? ⟨Bc, 2, none⟩ = some (.int .i64 x.r) ∧ U.cell? ⟨Bc, 3, none⟩ = some (.int .i64 x.top.s) ∧ U.cell? ⟨Bc, 4, none⟩ = some (.int .i64 x.top.w) ∧ U.cell? ⟨Bc, 5, none⟩ = some (.int .i64 x.right.s) ∧ U.cell? ⟨Bc, 6, none⟩ = some (.int .i64 x.right.w) ∧ U.cell? ⟨Bc, 7, none⟩ = some (.int .i64 x.bot.s) ∧ U.cell? ⟨Bc, 8, none⟩ = some (.int .i64 x.bot.w) ∧ U.cell? ⟨Bc, 9, none⟩ = some (.int .i64 x.left.s) ∧ U.cell? ⟨Bc, 10, none⟩ = some (.int .i64 x.left.w)) ∧ U.cell? ⟨X, 3, none⟩ = some (.slice (some ⟨gr, 0, none⟩) n c) ∧ U.cell? ⟨Br, 0, none⟩ = some (.int .i64 j) ∧ U.cell? ⟨Ba, 0, none⟩ = some (.int .i64 at') ∧ U.cell? ⟨gr, j * 2, none⟩ = some (.slice Aj m cg)) w.drew := HK.out _ (bdrew (brefl _))
  clear hc hw x3 b1 b2 p0
  go_enter Tryd.func71, Tryd.ntmps71
  go_wp2_with fail
  refine wp_region_T (S := fun U : World => (U.cell? ⟨Bc, 0, none⟩ = some (.string x.t) ∧ U.cell? ⟨Bc, 1, none⟩ = some (.int .i64 x.c) ∧ U.cell? ⟨Bc, 2, none⟩ = some (.int .i64 x.r) ∧ U.cell? ⟨Bc, 3, none⟩ = some (.int .i64 x.top.s) ∧ U.cell? ⟨Bc, 4, none⟩ = some (.int .i64 x.top.w) ∧ U.cell? ⟨Bc, 5, none⟩ = some (.int .i64 x.right.s) ∧ U.cell? ⟨Bc, 6, none⟩ = some (.int .i64 x.right.w) ∧ U.cell? ⟨Bc, 7, none⟩ = some (.int .i64 x.bot.s) ∧ U.cell? ⟨Bc, 8, none⟩ = some (.int .i64 x.bot.w) ∧ U.cell? ⟨Bc, 9, none⟩ = some (.int .i64 x.left.s) ∧ U.cell? ⟨Bc, 10, none⟩ = some (.int .i64 x.left.w)) ∧ U.cell? ⟨X, 3, none⟩ = some (.slice (some ⟨gr, 0, none⟩) n c) ∧ U.cell? ⟨Br, 0, none⟩ = some (.int .i64 j) ∧ U.cell? ⟨Ba, 0, none⟩ = some (.int .i64 at') ∧ U.cell? ⟨gr, j * 2, none⟩ = some (.slice Aj m cg)) (L := 13) (by kernel_rfl) ?_
  refine' wpAnyT_take [1, 3, 13] (i := 0) (v := _) rfl (by kernel_rfl) (by kernel_rfl) (by kernel_rfl) (by kernel_rfl) (by kernel_rfl) (by kernel_rfl) (fun _ _ _ h => h) (Or.inl ⟨by rfl, ?hy0⟩) hSd ?_
  case hy0 => (intro w hSw; (try dsimp only at hSw); go_simp) <;> with_reducible rfl
  try simp only [Act.put, List.setIfInBounds_toArray, List.set_cons_zero, List.set_cons_succ]
  refine wpAnyT_one (i := 1) (by kernel_rfl) rfl (fun K hK => ?_)
  go_simp
  with_reducible refine (HC.out _ (bdrew (brefl _))).mono ?_
  rintro e w8 ⟨rfl, hb8⟩
  have HB8 := hide (step (bdrew (brefl w)) hb8)
  clear hb8
  refine hK.out _ _ (fun _ => HK.out _ HB8.out) ?_
  clear hK K
  replace hSd := HK.out _ HB8.out
  try simp only [Act.put, List.setIfInBounds_toArray, List.set_cons_zero, List.set_cons_succ]
  refine' wpAnyT_take [3, 13] (i := 2) (v := _) rfl (by kernel_rfl) (by kernel_rfl) (by kernel_rfl) (by kernel_rfl) (by kernel_rfl) (by kernel_rfl) (fun _ _ _ h => h) (Or.inl ⟨by rfl, ?hy2⟩) hSd ?_
  case hy2 => (intro w hSw; (try dsimp only at hSw); go_simp) <;> with_reducible rfl
  try simp only [Act.put, List.setIfInBounds_toArray, List.set_cons_zero, List.set_cons_succ]
  refine' wpAnyT_take [13] (i := 3) (v := _) rfl (by kernel_rfl) (by kernel_rfl) (by kernel_rfl) (by kernel_rfl) (by kernel_rfl) (by kernel_rfl) (fun _ _ _ h => h) (Or.inl ⟨by rfl, ?hy3⟩) hSd ?_
  case hy3 => (intro w hSw; (try dsimp only at hSw); go_simp) <;> with_reducible rfl
  try simp only [Act.put, List.setIfInBounds_toArray, List.set_cons_zero, List.set_cons_succ]
  refine' wpAnyT_take [11, 12, 13] (i := 4) (v := _) rfl (by kernel_rfl) (by kernel_rfl) (by kernel_rfl) (by kernel_rfl) (by kernel_rfl) (by kernel_rfl) (fun _ _ _ h => h) (Or.inl ⟨by rfl, ?hy4⟩) hSd ?_
  case hy4 => (intro w hSw; (try dsimp only at hSw); go_simp) <;> with_reducible rfl
  try simp only [Act.put, List.setIfInBounds_toArray, List.set_cons_zero, List.set_cons_succ]
  refine' wpAnyT_take [6, 7, 8, 9, 10, 11, 12, 13] (i := 5) (v := _) rfl (by kernel_rfl) (by kernel_rfl) (by kernel_rfl) (by kernel_rfl) (by kernel_rfl) (by kernel_rfl) (fun _ _ _ h => h) (Or.inl ⟨by rfl, ?hy5⟩) hSd ?_
  case hy5 => (intro w hSw; (try dsimp only at hSw); go_simp) <;> with_reducible rfl
  try simp only [Act.put, List.setIfInBounds_toArray, List.set_cons_zero, List.set_cons_succ]
  refine' wpAnyT_take [7, 8, 9, 10, 11, 12, 13] (i := 6) (v := _) rfl (by kernel_rfl) (by kernel_rfl) (by kernel_rfl) (by kernel_rfl) (by kernel_rfl) (by kernel_rfl) (fun _ _ _ h => h) (Or.inl ⟨by rfl, ?hy6⟩) hSd ?_
  case hy6 => (intro w hSw; (try dsimp only at hSw); go_simp) <;> with_reducible rfl
  try simp only [Act.put, List.setIfInBounds_toArray, List.set_cons_zero, List.set_cons_succ]
  refine' wpAnyT_take [8, 9, 10, 11, 12, 13] (i := 7) (v := _) rfl (by kernel_rfl) (by kernel_rfl) (by kernel_rfl) (by kernel_rfl) (by kernel_rfl) (by kernel_rfl) (fun _ _ _ h => h) (Or.inl ⟨by rfl, ?hy7⟩) hSd ?_
  case hy7 => (intro w hSw; (try dsimp only at hSw); go_simp) <;> with_reducible rfl
  try simp only [Act.put, List.setIfInBounds_toArray, List.set_cons_zero, List.set_cons_succ]
  refine' wpAnyT_take [9, 10, 11, 12, 13] (i := 8) (v := _) rfl (by kernel_rfl) (by kernel_rfl) (by kernel_rfl) (by kernel_rfl) (by kernel_rfl) (by kernel_rfl) (fun _ _ _ h => h) (Or.inl ⟨by rfl, ?hy8⟩) hSd ?_
  case hy8 => (intro w hSw; (try dsimp only at hSw); go_simp) <;> with_reducible rfl
  try simp only [Act.put, List.setIfInBounds_toArray, List.set_cons_zero, List.set_cons_succ]
  refine' wpAnyT_take [10, 11, 12, 13] (i := 9) (v := _) rfl (by kernel_rfl) (by kernel_rfl) (by kernel_rfl) (by kernel_rfl) (by kernel_rfl) (by kernel_rfl) (fun _ _ _ h => h) (Or.inl ⟨by rfl, ?hy9⟩) hSd ?_
  case hy9 => (intro w hSw; (try dsimp only at hSw); go_simp) <;> with_reducible rfl
  try simp only [Act.put, List.setIfInBounds_toArray, List.set_cons_zero, List.set_cons_succ]
  refine' wpAnyT_take [11, 12, 13] (i := 10) (v := _) rfl (by kernel_rfl) (by kernel_rfl) (by kernel_rfl) (by kernel_rfl) (by kernel_rfl) (by kernel_rfl) (fun _ _ _ h => h) (Or.inl ⟨by rfl, ?hy10⟩) hSd ?_
  case hy10 => (intro w hSw; (try dsimp only at hSw); go_simp) <;> with_reducible rfl
  try simp only [Act.put, List.setIfInBounds_toArray, List.set_cons_zero, List.set_cons_succ]
  refine wpAnyT_one (i := 11) (by kernel_rfl) rfl (fun K hK => ?_)
  go_simp
  with_reducible refine (hI _ _ _ _).mono ?_
  rintro e w9 ⟨rfl, hw9⟩
  subst hw9
  refine hK.out _ _ (fun _ => HK.out _ HB8.out) ?_
  clear hK K
  try simp only [Act.put, List.setIfInBounds_toArray, List.set_cons_zero, List.set_cons_succ]
  refine' wpAnyT_take [13] (i := 12) (v := _) rfl (by kernel_rfl) (by kernel_rfl) (by kernel_rfl) (by kernel_rfl) (by kernel_rfl) (by kernel_rfl) (fun _ _ _ h => h) (Or.inl ⟨by rfl, ?hy12⟩) hSd ?_
  case hy12 => (intro w hSw; (try dsimp only at hSw); go_simp) <;> with_reducible rfl
  try simp only [Act.put, List.setIfInBounds_toArray, List.set_cons_zero, List.set_cons_succ]
  refine wpAnyT_one (i := 13) (by kernel_rfl) rfl (fun K hK => ?_)
  go_simp
  refine hK.out _ _ (fun h => absurd rfl h) ?_
  clear hK K
  try simp only [Act.put, List.setIfInBounds_toArray, List.set_cons_zero, List.set_cons_succ]
  refine wpAnyT_done (by kernel_rfl) ?_ _
  go_wp2_with fail
  refine wp_region_T (S := fun U : World => (U.cell? ⟨Bc, 0, none⟩ = some (.string x.t) ∧ U.cell? ⟨Bc, 1, none⟩ = some (.int .i64 x.c) ∧ U.cell? ⟨Bc, 2, none⟩ = some (.int .i64 x.r) ∧ U.cell? ⟨Bc, 3, none⟩ = some (.int .i64 x.top.s) ∧ U.cell? ⟨Bc, 4, none⟩ = some (.int .i64 x.top.w) ∧ U.cell? ⟨Bc, 5, none⟩ = some (.int .i64 x.right.s) ∧ U.cell? ⟨Bc, 6, none⟩ = some (.int .i64 x.right.w) ∧ U.cell? ⟨Bc, 7, none⟩ = some (.int .i64 x.bot.s) ∧ U.cell? ⟨Bc, 8, none⟩ = some (.int .i64 x.bot.w) ∧ U.cell? ⟨Bc, 9, none⟩ = some (.int .i64 x.left.s) ∧ U.cell? ⟨Bc, 10, none⟩ = some (.int .i64 x.left.w)) ∧ U.cell? ⟨X, 3, none⟩ = some (.slice (some ⟨gr, 0, none⟩) n c) ∧ U.cell? ⟨Br, 0, none⟩ = some (.int .i64 j) ∧ U.cell? ⟨Ba, 0, none⟩ = some (.int .i64 at') ∧ U.cell? ⟨gr, j * 2, none⟩ = some (.slice Aj m cg)) (L := 8) (by kernel_rfl) ?_
  replace hSd : (fun U : World => (U.cell? ⟨Bc, 0, none⟩ = some (.string x.t) ∧ U.cell? ⟨Bc, 1, none⟩ = some (.int .i64 x.c) ∧ U.cell? ⟨Bc, 2, none⟩ = some (.int .i64 x.r) ∧ U.cell? ⟨Bc, 3, none⟩ = some (.int .i64 x.top.s) ∧ U.cell? ⟨Bc, 4, none⟩ = some (.int .i64 x.top.w) ∧ U.cell? ⟨Bc, 5, none⟩ = some (.int .i64 x.right.s) ∧ U.cell? ⟨Bc, 6, none⟩ = some (.int .i64 x.right.w) ∧ U.cell? ⟨Bc, 7, none⟩ = some (.int .i64 x.bot.s) ∧ U.cell? ⟨Bc, 8, none⟩ = some (.int .i64 x.bot.w) ∧ U.cell? ⟨Bc, 9, none⟩ = some (.int .i64 x.left.s) ∧ U.cell? ⟨Bc, 10, none⟩ = some (.int .i64 x.left.w)) ∧ U.cell? ⟨X, 3, none⟩ = some (.slice (some ⟨gr, 0, none⟩) n c) ∧ U.cell? ⟨Br, 0, none⟩ = some (.int .i64 j) ∧ U.cell? ⟨Ba, 0, none⟩ = some (.int .i64 at') ∧ U.cell? ⟨gr, j * 2, none⟩ = some (.slice Aj m cg)) w8.drew := HK.out _ (bdrew HB8.out)
  refine' wpAnyT_take [8] (i := 0) (v := _) rfl (by kernel_rfl) (by kernel_rfl) (by kernel_rfl) (by kernel_rfl) (by kernel_rfl) (by kernel_rfl) (fun _ _ _ h => h) (Or.inl ⟨by rfl, ?hy0⟩) hSd ?_
  case hy0 => (intro w hSw; (try dsimp only at hSw); go_simp) <;> with_reducible rfl
  try simp only [Act.put, List.setIfInBounds_toArray, List.set_cons_zero, List.set_cons_succ]
  refine' wpAnyT_take [8] (i := 1) (v := _) rfl (by kernel_rfl) (by kernel_rfl) (by kernel_rfl) (by kernel_rfl) (by kernel_rfl) (by kernel_rfl) (fun _ _ _ h => h) (Or.inl ⟨by rfl, ?hy1⟩) hSd ?_
  case hy1 => (intro w hSw; (try dsimp only at hSw); go_simp) <;> with_reducible rfl
  try simp only [Act.put, List.setIfInBounds_toArray, List.set_cons_zero, List.set_cons_succ]
  refine' wpAnyT_take [8] (i := 2) (v := _) rfl (by kernel_rfl) (by kernel_rfl) (by kernel_rfl) (by kernel_rfl) (by kernel_rfl) (by kernel_rfl) (fun _ _ _ h => h) (Or.inl ⟨by rfl, ?hy2⟩) hSd ?_
  case hy2 => (intro w hSw; (try dsimp only at hSw); go_simp) <;> with_reducible rfl
  try simp only [Act.put, List.setIfInBounds_toArray, List.set_cons_zero, List.set_cons_succ]
  refine' wpAnyT_take [8] (i := 3) (v := _) rfl (by kernel_rfl) (by kernel_rfl) (by kernel_rfl) (by kernel_rfl) (by kernel_rfl) (by kernel_rfl) (fun _ _ _ h => h) (Or.inl ⟨by rfl, ?hy3⟩) hSd ?_
  case hy3 => (intro w hSw; (try dsimp only at hSw); go_simp) <;> with_reducible rfl
  try simp only [Act.put, List.setIfInBounds_toArray, List.set_cons_zero, List.set_cons_succ]
  refine' wpAnyT_take [8] (i := 4) (v := _) rfl (by kernel_rfl) (by kernel_rfl) (by kernel_rfl) (by kernel_rfl) (by kernel_rfl) (by kernel_rfl) (fun _ _ _ h => h) (Or.inl ⟨by rfl, ?hy4⟩) hSd ?_
  case hy4 => (intro w hSw; (try dsimp only at hSw); go_simp) <;> with_reducible rfl
  try simp only [Act.put, List.setIfInBounds_toArray, List.set_cons_zero, List.set_cons_succ]
  refine' wpAnyT_take [8] (i := 5) (v := _) rfl (by kernel_rfl) (by kernel_rfl) (by kernel_rfl) (by kernel_rfl) (by kernel_rfl) (by kernel_rfl) (fun _ _ _ h => h) (Or.inl ⟨by rfl, ?hy5⟩) hSd ?_
  case hy5 => (intro w hSw; (try dsimp only at hSw); go_simp) <;> with_reducible rfl
  try simp only [Act.put, List.setIfInBounds_toArray, List.set_cons_zero, List.set_cons_succ]
  refine' wpAnyT_take [8] (i := 6) (v := _) rfl (by kernel_rfl) (by kernel_rfl) (by kernel_rfl) (by kernel_rfl) (by kernel_rfl) (by kernel_rfl) (fun _ _ _ h => h) (Or.inl ⟨by rfl, ?hy6⟩) hSd ?_
  case hy6 => (intro w hSw; (try dsimp only at hSw); go_simp) <;> with_reducible rfl
  try simp only [Act.put, List.setIfInBounds_toArray, List.set_cons_zero, List.set_cons_succ]
  refine' wpAnyT_take [8] (i := 7) (v := _) rfl (by kernel_rfl) (by kernel_rfl) (by kernel_rfl) (by kernel_rfl) (by kernel_rfl) (by kernel_rfl) (fun _ _ _ h => h) (Or.inl ⟨by rfl, ?hy7⟩) hSd ?_
  case hy7 => (intro w hSw; (try dsimp only at hSw); go_simp) <;> with_reducible rfl
  try simp only [Act.put, List.setIfInBounds_toArray, List.set_cons_zero, List.set_cons_succ]
  refine wpAnyT_one (i := 8) (by kernel_rfl) rfl (fun K hK => ?_)
  go_simp
  refine hK.out _ _ (fun h => absurd rfl h) ?_
  clear hK K
  try simp only [Act.put, List.setIfInBounds_toArray, List.set_cons_zero, List.set_cons_succ]
  refine wpAnyT_done (by kernel_rfl) ?_ _
  have k2 : w8.drew.cell? ⟨Ba, 0, none⟩ = some (.int .i64 at') := hSd.2.2.2.1
  clear hSd
  rcases h4 with h4 | ⟨h4, h5⟩
  · go_wp2_with (go_at_call 59; refine (hI _ _ _ _).mono ?_; rintro e w9 ⟨rfl, hw9⟩; subst hw9)
    go_ret
    exact ⟨rfl, bdrew HB8.out⟩
  · go_wp2_with (go_at_call 59; refine (hI _ _ _ _).mono ?_; rintro e w9 ⟨rfl, hw9⟩; subst hw9)
    go_ret
    exact ⟨rfl, bdrew HB8.out⟩
end Go.Proofs.YtfcogogpioeggaaDoor
