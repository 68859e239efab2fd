import Derived.Test.YtfcogogpioeggaaDoorKs
import Derived.IntWalk
namespace Go.Proofs.YtfcogogpioeggaaDoor
open Go.RowKit
/- EdtTake: plain; what its edit does. -/
def edtTake (t : Tbl) (row at' : Int) : Tbl × Bool :=
  if tblOk t = true then
    if h : inB row 0 ((t.rows.length : Int) - 1) = true ∧ row.toNat < t.rows.length then
      if inB at' 0 ((t.rows[row.toNat].cs.length : Int) - 1) = true then
        ({ t with rows := t.rows.set row.toNat ⟨t.rows[row.toNat].cs.take at'.toNat ++ t.rows[row.toNat].cs.drop (at'.toNat + 1), t.rows[row.toNat].wh⟩ }, true)
      else (t, false)
    else (t, false)
  else (⟨[], 0, 0, [], 0⟩, false)
theorem take_false {t : Tbl} {row at' : Int} (hok : tblOk t = true) (h : inB row 0 ((t.rows.length : Int) - 1) = false ∨ (∃ h : row.toNat < t.rows.length, inB at' 0 ((t.rows[row.toNat].cs.length : Int) - 1) = false)) : edtTake t row at' = (t, false) := by
  unfold edtTake
  rw [if_pos hok]
  split
  · rename_i h1
    split
    · rename_i h2
      rcases h with h | ⟨h3, h⟩
      · rw [h1.1] at h; cases h
      · rw [h2] at h; cases h
    · rfl
  · rfl
theorem take_true {t : Tbl} {j i : Nat} (hok : tblOk t = true) (hj : j < t.rows.length) (hi : i < t.rows[j].cs.length) :
    edtTake t j i = ({ t with rows := t.rows.set j ⟨t.rows[j].cs.take i ++ t.rows[j].cs.drop (i + 1), t.rows[j].wh⟩ }, true) := by
  have h1 : inB (j : Int) 0 ((t.rows.length : Int) - 1) = true := by simp [inB]; omega
  have h2 : inB (i : Int) 0 ((t.rows[j].cs.length : Int) - 1) = true := by simp [inB]; omega
  unfold edtTake
  rw [if_pos hok]
  simp only [Int.toNat_natCast]
  rw [dif_pos ⟨h1, hj⟩, if_pos h2]
set_option linter.unusedSimpArgs false in
set_option maxRecDepth 100000 in
set_option maxHeartbeats 2000000 in
theorem take_no (X B1 B2 : Nat) (row at' : Int) (w : World) (b1 : w.cell? ⟨B1, 0, none⟩ = some (.int .i64 row)) (b2 : w.cell? ⟨B2, 0, none⟩ = some (.int .i64 at'))
    (hh : Calls Tryd.prog 66 #[.pointer (some ⟨X, 0, none⟩), .int .i64 row, .int .i64 at'] w fun e w' => e = .returned (.bool false) ∧ w' = w) :
    Calls Tryd.prog 65 #[.pointer (some ⟨X, 0, none⟩), .pointer (some ⟨B1, 0, none⟩), .pointer (some ⟨B2, 0, none⟩)] w fun e w' => e = .returned (.bool false) ∧ w' = w := by
  have HH := hide hh
  clear hh
  go_enter Tryd.func65, Tryd.ntmps65
  go_wp2_with (go_at_call 66; refine HH.out.mono ?_; rintro e w7 ⟨rfl, rfl⟩)
  go_ret
  exact ⟨rfl, rfl⟩
theorem off_cell {w w' : World} {g B o : Nat} {u : Value} (hg : w.drew.grownBy w' (some g)) (hne : g ≠ B) (h : w.cell? ⟨B, o, none⟩ = some u) : w'.cell? ⟨B, o, none⟩ = some u :=
  (World.cell?_of_block (hg.block B (World.block_lt_of_cell? w _ h) (fun e => hne (by injection e with e; exact e.symm)))).trans h
theorem off_frozen {w w' : World} {g B o : Nat} {u : Value} (hg : w.drew.grownBy w' (some g)) (hne : g ≠ B) (h : w.cell? ⟨B, o, none⟩ = some u) (hf : w.frozen? ⟨B, o, none⟩ = false) : w'.frozen? ⟨B, o, none⟩ = false :=
  (World.frozen?_of_block (hg.block B (World.block_lt_of_cell? w _ h) (fun e => hne (by injection e with e; exact e.symm)))).trans hf
set_option linter.unusedSimpArgs false in
set_option maxRecDepth 100000 in
set_option maxHeartbeats 4000000 in
theorem take_yes (X B1 B2 gr g n cr cg j i lo : Nat) (cs : List TCell) (w : World) (b1 : w.cell? ⟨B1, 0, none⟩ = some (.int .i64 j)) (b2 : w.cell? ⟨B2, 0, none⟩ = some (.int .i64 i)) (x3 : w.cell? ⟨X, 3, none⟩ = some (.slice (some ⟨gr, 0, none⟩) n cr)) (p0 : w.cell? ⟨gr, j * 2, none⟩ = some (.slice (some ⟨g, 0, none⟩) cs.length cg))
    (hj : j < n) (hi : i < cs.length) (hn : n ≤ 1048576) (hm : cs.length ≤ 1048576) (ho : w.ownsRow lo 65 11 (.slice (some ⟨g, 0, none⟩) cs.length cg) cs.length (cs.flatMap cellE)) (n1 : g ≠ B1) (n2 : g ≠ B2) (n3 : g ≠ X) (n4 : g ≠ gr) (pf : w.frozen? ⟨gr, j * 2, none⟩ = false) :
    Calls Tryd.prog 65 #[.pointer (some ⟨X, 0, none⟩), .pointer (some ⟨B1, 0, none⟩), .pointer (some ⟨B2, 0, none⟩)] w fun e w' => ∃ w7, (e = .returned (.bool true) ∧ w' = w7.setCell ⟨gr, j * 2, none⟩ (.slice (some ⟨g, 0, none⟩) (cs.length - 1) cg)) ∧ w7.ownsRow lo 65 11 (.slice (some ⟨g, 0, none⟩) (cs.length - 1) cg) (cs.length - 1) ((cs.take i ++ cs.drop (i + 1)).flatMap cellE) ∧ w.grownBy w7 (some g) := by
  have HH : Hid (Calls Tryd.prog 66 #[.pointer (some ⟨X, 0, none⟩), .int .i64 j, .int .i64 i] w fun e w' => e = .returned (.bool true) ∧ w' = w) := by
    have := impl_has1 X n cr gr j cs.length cg (some ⟨g, 0, none⟩) i w x3 hn hj p0 hm
    rw [show inB (i : Int) 0 ((cs.length : Int) - 1) = true by simp [inB]; omega] at this
    exact this
  have HD := hide (delete_cell g cg i cs lo w.drew (World.ownsRow.drew ho) hi hm)
  have hjz : (j : Int) < (n : Int) := by omega
  have hiz : (i : Int) < (cs.length : Int) := by omega
  have hj0 : (0 : Int) ≤ (j : Int) := by omega
  have hi0 : (0 : Int) ≤ (i : Int) := by omega
  clear ho
  go_enter Tryd.func65, Tryd.ntmps65
  go_wp2_with (go_at_call 66; refine HH.out.mono ?_; rintro e w7 ⟨rfl, hw7⟩; subst hw7)
  have hSd : (fun V : World => V.cell? ⟨X, 3, none⟩ = some (.slice (some ⟨gr, 0, none⟩) n cr) ∧ V.cell? ⟨gr, j * 2, none⟩ = some (.slice (some ⟨g, 0, none⟩) cs.length cg) ∧ V.cell? ⟨B1, 0, none⟩ = some (.int .i64 j) ∧ V.cell? ⟨B2, 0, none⟩ = some (.int .i64 i)) w7.drew := ⟨x3, p0, b1, b2⟩
  have hwr : IntKind.i64.wrap ((i : Int) + 1) = (i : Int) + 1 := IntWalk.i64_in _ (by omega)
  refine wp_region_T (S := fun V : World => V.cell? ⟨X, 3, none⟩ = some (.slice (some ⟨gr, 0, none⟩) n cr) ∧ V.cell? ⟨gr, j * 2, none⟩ = some (.slice (some ⟨g, 0, none⟩) cs.length cg) ∧ V.cell? ⟨B1, 0, none⟩ = some (.int .i64 j) ∧ V.cell? ⟨B2, 0, none⟩ = some (.int .i64 i)) (L := 19) (by kernel_rfl) ?_
  refine' wpAnyT_take [19] (i := 0) (v := _) rfl (by kernel_rfl) (by kernel_rfl) (by kernel_rfl) (by kernel_rfl) (by kernel_rfl) (by kernel_rfl) (fun _ _ _ h => h) (Or.inl ⟨by rfl, ?hy0⟩) hSd ?_
  case hy0 => (intro w hSw; (try dsimp only at hSw); go_simp) <;> with_reducible rfl
  try simp only [Act.put, List.setIfInBounds_toArray, List.set_cons_zero, List.set_cons_succ]
  refine' wpAnyT_take [19] (i := 1) (v := _) rfl (by kernel_rfl) (by kernel_rfl) (by kernel_rfl) (by kernel_rfl) (by kernel_rfl) (by kernel_rfl) (fun _ _ _ h => h) (Or.inl ⟨by rfl, ?hy1⟩) hSd ?_
  case hy1 => (intro w hSw; (try dsimp only at hSw); go_simp) <;> with_reducible rfl
  try simp only [Act.put, List.setIfInBounds_toArray, List.set_cons_zero, List.set_cons_succ]
  refine' wpAnyT_take [19] (i := 2) (v := _) rfl (by kernel_rfl) (by kernel_rfl) (by kernel_rfl) (by kernel_rfl) (by kernel_rfl) (by kernel_rfl) (fun _ _ _ h => h) (Or.inl ⟨by rfl, ?hy2⟩) hSd ?_
  case hy2 => (intro w hSw; (try dsimp only at hSw); go_simp) <;> with_reducible rfl
  try simp only [Act.put, List.setIfInBounds_toArray, List.set_cons_zero, List.set_cons_succ]
  refine' wpAnyT_take [19] (i := 3) (v := _) rfl (by kernel_rfl) (by kernel_rfl) (by kernel_rfl) (by kernel_rfl) (by kernel_rfl) (by kernel_rfl) (fun _ _ _ h => h) (Or.inl ⟨by rfl, ?hy3⟩) hSd ?_
  case hy3 => (intro w hSw; (try dsimp only at hSw); go_simp) <;> with_reducible rfl
  try simp only [Act.put, List.setIfInBounds_toArray, List.set_cons_zero, List.set_cons_succ]
  refine' wpAnyT_take [19] (i := 4) (v := _) rfl (by kernel_rfl) (by kernel_rfl) (by kernel_rfl) (by kernel_rfl) (by kernel_rfl) (by kernel_rfl) (fun _ _ _ h => h) (Or.inl ⟨by rfl, ?hy4⟩) hSd ?_
  case hy4 => (intro w hSw; (try dsimp only at hSw); go_simp) <;> with_reducible rfl
  try simp only [Act.put, List.setIfInBounds_toArray, List.set_cons_zero, List.set_cons_succ]
  refine' wpAnyT_take [19] (i := 5) (v := _) rfl (by kernel_rfl) (by kernel_rfl) (by kernel_rfl) (by kernel_rfl) (by kernel_rfl) (by kernel_rfl) (fun _ _ _ h => h) (Or.inl ⟨by rfl, ?hy5⟩) hSd ?_
  case hy5 => (intro w hSw; (try dsimp only at hSw); go_simp) <;> with_reducible rfl
  try simp only [Act.put, List.setIfInBounds_toArray, List.set_cons_zero, List.set_cons_succ]
  refine' wpAnyT_take [19] (i := 6) (v := _) rfl (by kernel_rfl) (by kernel_rfl) (by kernel_rfl) (by kernel_rfl) (by kernel_rfl) (by kernel_rfl) (fun _ _ _ h => h) (Or.inl ⟨by rfl, ?hy6⟩) hSd ?_
  case hy6 => (intro w hSw; (try dsimp only at hSw); go_simp) <;> with_reducible rfl
  try simp only [Act.put, List.setIfInBounds_toArray, List.set_cons_zero, List.set_cons_succ]
  refine' wpAnyT_take [19] (i := 7) (v := _) rfl (by kernel_rfl) (by kernel_rfl) (by kernel_rfl) (by kernel_rfl) (by kernel_rfl) (by kernel_rfl) (fun _ _ _ h => h) (Or.inl ⟨by rfl, ?hy7⟩) hSd ?_
  case hy7 => (intro w hSw; (try dsimp only at hSw); go_simp) <;> with_reducible rfl
  try simp only [Act.put, List.setIfInBounds_toArray, List.set_cons_zero, List.set_cons_succ]
  refine' wpAnyT_take [19] (i := 8) (v := _) rfl (by kernel_rfl) (by kernel_rfl) (by kernel_rfl) (by kernel_rfl) (by kernel_rfl) (by kernel_rfl) (fun _ _ _ h => h) (Or.inl ⟨by rfl, ?hy8⟩) hSd ?_
  case hy8 => (intro w hSw; (try dsimp only at hSw); go_simp) <;> with_reducible rfl
  try simp only [Act.put, List.setIfInBounds_toArray, List.set_cons_zero, List.set_cons_succ]
  refine' wpAnyT_take [19] (i := 9) (v := _) rfl (by kernel_rfl) (by kernel_rfl) (by kernel_rfl) (by kernel_rfl) (by kernel_rfl) (by kernel_rfl) (fun _ _ _ h => h) (Or.inl ⟨by rfl, ?hy9⟩) hSd ?_
  case hy9 => (intro w hSw; (try dsimp only at hSw); go_simp) <;> with_reducible rfl
  try simp only [Act.put, List.setIfInBounds_toArray, List.set_cons_zero, List.set_cons_succ]
  refine' wpAnyT_take [19] (i := 10) (v := _) rfl (by kernel_rfl) (by kernel_rfl) (by kernel_rfl) (by kernel_rfl) (by kernel_rfl) (by kernel_rfl) (fun _ _ _ h => h) (Or.inl ⟨by rfl, ?hy10⟩) hSd ?_
  case hy10 => (intro w hSw; (try dsimp only at hSw); go_simp) <;> with_reducible rfl
  try simp only [Act.put, List.setIfInBounds_toArray, List.set_cons_zero, List.set_cons_succ]
  refine' wpAnyT_take [19] (i := 11) (v := _) rfl (by kernel_rfl) (by kernel_rfl) (by kernel_rfl) (by kernel_rfl) (by kernel_rfl) (by kernel_rfl) (fun _ _ _ h => h) (Or.inl ⟨by rfl, ?hy11⟩) hSd ?_
  case hy11 => (intro w hSw; (try dsimp only at hSw); go_simp) <;> with_reducible rfl
  try simp only [Act.put, List.setIfInBounds_toArray, List.set_cons_zero, List.set_cons_succ]
  refine' wpAnyT_take [19] (i := 12) (v := _) rfl (by kernel_rfl) (by kernel_rfl) (by kernel_rfl) (by kernel_rfl) (by kernel_rfl) (by kernel_rfl) (fun _ _ _ h => h) (Or.inl ⟨by rfl, ?hy12⟩) hSd ?_
  case hy12 => (intro w hSw; (try dsimp only at hSw); go_simp) <;> with_reducible rfl
  try simp only [Act.put, List.setIfInBounds_toArray, List.set_cons_zero, List.set_cons_succ]
  refine' wpAnyT_take [19] (i := 13) (v := _) rfl (by kernel_rfl) (by kernel_rfl) (by kernel_rfl) (by kernel_rfl) (by kernel_rfl) (by kernel_rfl) (fun _ _ _ h => h) (Or.inl ⟨by rfl, ?hy13⟩) hSd ?_
  case hy13 => (intro w hSw; (try dsimp only at hSw); go_simp) <;> with_reducible rfl
  try simp only [Act.put, List.setIfInBounds_toArray, List.set_cons_zero, List.set_cons_succ]
  refine' wpAnyT_take [19] (i := 14) (v := _) rfl (by kernel_rfl) (by kernel_rfl) (by kernel_rfl) (by kernel_rfl) (by kernel_rfl) (by kernel_rfl) (fun _ _ _ h => h) (Or.inl ⟨by rfl, ?hy14⟩) hSd ?_
  case hy14 => (intro w hSw; (try dsimp only at hSw); go_simp) <;> with_reducible rfl
  try simp only [Act.put, List.setIfInBounds_toArray, List.set_cons_zero, List.set_cons_succ]
  refine' wpAnyT_take [19] (i := 15) (v := _) rfl (by kernel_rfl) (by kernel_rfl) (by kernel_rfl) (by kernel_rfl) (by kernel_rfl) (by kernel_rfl) (fun _ _ _ h => h) (Or.inl ⟨by rfl, ?hy15⟩) hSd ?_
  case hy15 => (intro w hSw; (try dsimp only at hSw); go_simp) <;> with_reducible rfl
  try simp only [Act.put, List.setIfInBounds_toArray, List.set_cons_zero, List.set_cons_succ]
  refine wpAnyT_one (i := 16) (by kernel_rfl) rfl (fun K hK => ?_)
  go_simp
  with_reducible refine HD.out.mono ?_
  rintro e w8 ⟨rfl, ho8, hg8⟩
  have hS8 : (fun V : World => V.cell? ⟨X, 3, none⟩ = some (.slice (some ⟨gr, 0, none⟩) n cr) ∧ V.cell? ⟨gr, j * 2, none⟩ = some (.slice (some ⟨g, 0, none⟩) cs.length cg) ∧ V.cell? ⟨B1, 0, none⟩ = some (.int .i64 j) ∧ V.cell? ⟨B2, 0, none⟩ = some (.int .i64 i)) w8 := ⟨off_cell hg8 n3 x3, off_cell hg8 n4 p0, off_cell hg8 n1 b1, off_cell hg8 n2 b2⟩
  refine hK.out _ _ (fun _ => hS8) ?_
  clear hK K
  replace hSd := hS8
  clear hS8
  have HO := hide ho8
  have HG := hide hg8
  have pf8 : w8.frozen? ⟨gr, j * 2, none⟩ = false := off_frozen hg8 n4 p0 pf
  have p8 := hSd.2.1
  clear ho8 hg8 x3 p0 b1 b2 pf
  try simp only [Act.put, List.setIfInBounds_toArray, List.set_cons_zero, List.set_cons_succ]
  refine' wpAnyT_take [18, 19] (i := 17) (v := _) rfl (by kernel_rfl) (by kernel_rfl) (by kernel_rfl) (by kernel_rfl) (by kernel_rfl) (by kernel_rfl) (fun _ _ _ h => h) (Or.inl ⟨by rfl, ?hy17⟩) hSd ?_
  case hy17 => (intro w hSw; (try dsimp only at hSw); go_simp) <;> with_reducible rfl
  try simp only [Act.put, List.setIfInBounds_toArray, List.set_cons_zero, List.set_cons_succ]
  refine' wpAnyT_take [19] (i := 18) (v := _) rfl (by kernel_rfl) (by kernel_rfl) (by kernel_rfl) (by kernel_rfl) (by kernel_rfl) (by kernel_rfl) (fun _ _ _ h => h) (Or.inl ⟨by rfl, ?hy18⟩) hSd ?_
  case hy18 => (intro w hSw; (try dsimp only at hSw); go_simp) <;> with_reducible rfl
  try simp only [Act.put, List.setIfInBounds_toArray, List.set_cons_zero, List.set_cons_succ]
  refine wpAnyT_one (i := 19) (by kernel_rfl) rfl (fun K hK => ?_)
  go_simp
  refine hK.out _ _ (fun h => absurd rfl h) ?_
  clear hK K
  try simp only [Act.put, List.setIfInBounds_toArray, List.set_cons_zero, List.set_cons_succ]
  refine wpAnyT_done (by kernel_rfl) ?_ _
  go_wp2_with fail
  go_ret
  exact ⟨w8, ⟨rfl, rfl⟩, (by have := HO.out; rwa [List.flatMap_append] at this), ⟨HG.out.os, HG.out.tape, HG.out.output, HG.out.size, HG.out.block⟩⟩
end Go.Proofs.YtfcogogpioeggaaDoor
