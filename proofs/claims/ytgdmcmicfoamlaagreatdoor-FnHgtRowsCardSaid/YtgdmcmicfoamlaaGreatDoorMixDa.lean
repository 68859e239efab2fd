import Derived.Test.YtgdmcmicfoamlaaGreatDoorMixKg
import Derived.IntWalk
import Derived.OpenShut
import Derived.ChangeSlices
set_option linter.unusedVariables false
set_option linter.unusedSimpArgs false
set_option maxHeartbeats 4000000
set_option maxRecDepth 100000
namespace Go.Proofs.YtgdmcmicfoamlaaGreatDoor
open Go.RowKit
def Ztj (w : World) (R : Nat) (A : Option Addr) (n c p : Nat) : Prop :=
 n ≤ 2000 ∧ n ≤ c ∧ c ≤ 9223372036854775807 ∧ w.cell? ⟨R, 0, none⟩ = some (.slice A n c) ∧ w.cell? ⟨R, 1, none⟩ = some (.int .i64 p) ∧ (∀ i, w.frozen? ⟨R, i, none⟩ = false) ∧
  (0 < n → ∃ b o, A = some ⟨b, o, none⟩ ∧ b < R ∧ ∀ j, j < n → ∃ k : Nat, k < 256 ∧ w.cell? ⟨b, o + j, none⟩ = some (.int .u8 k))
def Qh (w : World) (R N : Nat) : Prop := ∃ (A : Option Addr) (n c p : Nat), p ≤ N ∧ Ztj w R A n c p
theorem Qh.lt {w : World} {R N : Nat} (h : Qh w R N) : R < w.heap.size := by
 obtain ⟨A, n, c, p, _, _, _, _, h0, _⟩ := h
 exact World.block_lt_of_cell? w _ h0
theorem Qh.mono {w : World} {R N N' : Nat} (h : Qh w R N) (hN : N ≤ N') : Qh w R N' := by
 obtain ⟨A, n, c, p, hp, h⟩ := h
 exact ⟨A, n, c, p, by omega, h⟩
theorem Qh.grow {w w' : World} {R N : Nat} {row : Option Nat} (h : Qh w R N) (hg : w.grownBy w' row) (hr : ∀ g, row = some g → R < g) : Qh w' R N := by
 have hl := h.lt
 obtain ⟨A, n, c, p, hp, h1, h2, h3, h4, h5, h6, h7⟩ := h
 have hk : ∀ b, b ≤ R → w'.heap[b]? = w.heap[b]? := fun b hb => hg.block b (by omega) (fun e => by have := hr b e.symm; omega)
 refine ⟨A, n, c, p, hp, h1, h2, h3, (World.cell?_of_block (hk R (Nat.le_refl _))).trans h4, (World.cell?_of_block (hk R (Nat.le_refl _))).trans h5, fun i => (World.frozen?_of_block (hk R (Nat.le_refl _))).trans (h6 i), fun hn => ?_⟩
 obtain ⟨b, o, e, hb, hc⟩ := h7 hn
 refine ⟨b, o, e, hb, fun j hj => ?_⟩
 obtain ⟨k, hk1, hk2⟩ := hc j hj
 exact ⟨k, hk1, (World.cell?_of_block (hk b (by omega))).trans hk2⟩
theorem Qh.below {w w' : World} {R N : Nat} (h : Qh w R N) (hb : Below w.heap.size w w') : Qh w' R N := h.grow (Qd (r := none) hb) (fun _ e => by cases e)
theorem Ztj.next {w : World} {R N : Nat} {A : Option Addr} {n c p : Nat} (h : Ztj w R A n c p) (hp : p ≤ N) : Qh (w.setCell ⟨R, 1, none⟩ (.int .i64 ((p + 1 : Nat) : Int))) R (N + 1) := by
 obtain ⟨h1, h2, h3, h4, h5, h6, h7⟩ := h
 refine ⟨A, n, c, p + 1, by omega, h1, h2, h3, Zs h4 (by simp), Zdq h5, fun i => by simpa using h6 i, fun hn => ?_⟩
 obtain ⟨b, o, e, hb, hc⟩ := h7 hn
 refine ⟨b, o, e, hb, fun j hj => ?_⟩
 obtain ⟨k, hk1, hk2⟩ := hc j hj
 exact ⟨k, hk1, Zs hk2 (fun e => by injection e with e; omega)⟩
theorem Zv0 (R : Nat) (A : Option Addr) (n c p : Nat) (m : Int) (w : World) (h0 : w.cell? ⟨R, 0, none⟩ = some (.slice A n c)) (h1 : w.cell? ⟨R, 1, none⟩ = some (.int .i64 p)) (h2 : w.frozen? ⟨R, 1, none⟩ = false) (hp : p ≤ 1000000) (hm : m < 1) :
 Calls Tryz.prog 95 #[.pointer (some ⟨R, 0, none⟩), .int .i64 m] w fun e w' => e = .returned (.int .i64 0) ∧ w' = ((w.setCell ⟨R, 1, none⟩ (.int .i64 ((p : Int) + 1)))) := by
 go_enter Tryz.func95, Tryz.ntmps95
 go_wp2_with fail
 go_ret
 exact ⟨rfl, rfl⟩
theorem Zvl (R : Nat) (A : Option Addr) (c p : Nat) (m : Int) (w : World) (h0 : w.cell? ⟨R, 0, none⟩ = some (.slice A 0 c)) (h1 : w.cell? ⟨R, 1, none⟩ = some (.int .i64 p)) (h2 : w.frozen? ⟨R, 1, none⟩ = false) (hp : p ≤ 1000000) (hm : ¬ m < 1) :
 Calls Tryz.prog 95 #[.pointer (some ⟨R, 0, none⟩), .int .i64 m] w fun e w' => e = .returned (.int .i64 0) ∧ w' = ((w.setCell ⟨R, 1, none⟩ (.int .i64 ((p : Int) + 1)))) := by
 go_enter Tryz.func95, Tryz.ntmps95
 go_wp2_with fail
 go_ret
 exact ⟨rfl, rfl⟩
theorem Zvh (R b o : Nat) (n c p k : Nat) (m : Int) (w : World) (h0 : w.cell? ⟨R, 0, none⟩ = some (.slice (some ⟨b, o, none⟩) n c)) (h1 : w.cell? ⟨R, 1, none⟩ = some (.int .i64 p)) (h2 : w.frozen? ⟨R, 1, none⟩ = false) (hp : p ≤ 1000000) (hm : 1 ≤ m) (hmm : m ≤ 1000000) (hn : n ≤ 2000) (hlt : p < n) (hk : w.cell? ⟨b, o + p, none⟩ = some (.int .u8 k)) (hk2 : k < 256) (hb : b ≠ R) :
 Calls Tryz.prog 95 #[.pointer (some ⟨R, 0, none⟩), .int .i64 m] w fun e w' => e = .returned (.int .i64 ((k : Int) % m)) ∧ w' = ((w.setCell ⟨R, 1, none⟩ (.int .i64 ((p : Int) + 1)))) := by
 have hm1 : ¬ m < 1 := by omega
 have hltz : (p : Int) < (n : Int) := by omega
 have hn0 : ((n : Int) == 0) = false := by simp; omega
 have hRb : ¬ R = b := fun e => hb e.symm
 have hk3 : (k : Int) < 256 := by omega
 go_enter Tryz.func95, Tryz.ntmps95
 go_wp2_with fail
 go_ret
 exact ⟨rfl, rfl⟩
-- PICK_D
theorem Zu4 (a b : Nat) (ha : a < 4611686018427387904) (hb : b < 4611686018427387904) : bits .xor .i64 (a : Int) (b : Int) = ((a ^^^ b : Nat) : Int) := by
 have hx : a ^^^ b < 2 ^ 62 := Nat.xor_lt_two_pow (by omega) (by omega)
 have h1 : (BitVec.ofInt 64 (a : Int)).toNat = a := by
  rw [BitVec.ofInt_natCast, BitVec.toNat_ofNat]; exact Nat.mod_eq_of_lt (by omega)
 have h2 : (BitVec.ofInt 64 (b : Int)).toNat = b := by
  rw [BitVec.ofInt_natCast, BitVec.toNat_ofNat]; exact Nat.mod_eq_of_lt (by omega)
 show IntKind.i64.wrap ((BitVec.ofInt 64 (a : Int) ^^^ BitVec.ofInt 64 (b : Int)).toNat : Int) = _
 rw [BitVec.toNat_xor, h1, h2, IntKind.wrap_i64]
 omega
theorem Zv2 (R b o : Nat) (n c p k1 k2 : Nat) (m : Int) (w : World) (h0 : w.cell? ⟨R, 0, none⟩ = some (.slice (some ⟨b, o, none⟩) n c)) (h1 : w.cell? ⟨R, 1, none⟩ = some (.int .i64 p)) (h2 : w.frozen? ⟨R, 1, none⟩ = false) (hp : p ≤ 1000000) (hm : 1 ≤ m) (hmm : m ≤ 1000000) (hn0 : 0 < n) (hn : n ≤ 2000) (hlt : ¬ p < n) (r1 r2 : Nat) (hr1 : r1 = p % n) (hr2 : r2 = (p * 7 + 3) % n) (hk1 : w.cell? ⟨b, o + r1, none⟩ = some (.int .u8 k1)) (hk2 : w.cell? ⟨b, o + r2, none⟩ = some (.int .u8 k2)) (hb1 : k1 < 256) (hb2 : k2 < 256) (hb : b ≠ R) :
 Calls Tryz.prog 95 #[.pointer (some ⟨R, 0, none⟩), .int .i64 m] w fun e w' => (∃ k : Int, e = .returned (.int .i64 k) ∧ 0 ≤ k ∧ k < m) ∧ w' = ((w.setCell ⟨R, 1, none⟩ (.int .i64 ((p : Int) + 1)))).drew := by
 have hm1 : ¬ m < 1 := by omega
 have hltz : ¬ (p : Int) < (n : Int) := by omega
 have hn0z : ((n : Int) == 0) = false := by simp; omega
 have hRb : ¬ R = b := fun e => hb e.symm
 have hSw : (fun U : World => U.cell? ⟨R, 0, none⟩ = some (.slice (some ⟨b, o, none⟩) n c) ∧ U.cell? ⟨b, o + r1, none⟩ = some (.int .u8 k1) ∧ U.cell? ⟨b, o + r2, none⟩ = some (.int .u8 k2)) (((w.setCell ⟨R, 1, none⟩ (.int .i64 ((p : Int) + 1))))) := ⟨Zs h0 (by simp), Zs hk1 (fun e => by injection e with e; omega), Zs hk2 (fun e => by injection e with e; omega)⟩
 have HSW := Za hSw
 have hnz : ¬ n = 0 := by omega
 obtain ⟨q, hq⟩ : ∃ q, q = p / n := ⟨_, rfl⟩
 have hql : q ≤ p := by rw [hq]; exact Nat.div_le_self _ _
 have hr1l : r1 < n := by rw [hr1]; exact Nat.mod_lt _ hn0
 have hr2l : r2 < n := by rw [hr2]; exact Nat.mod_lt _ hn0
 have t1 : Int.tmod (p : Int) (n : Int) = (r1 : Int) := by rw [hr1]; rfl
 have t2 : Int.tmod ((p : Int) * 7 + 3) (n : Int) = (r2 : Int) := by rw [hr2]; rfl
 have t3 : Int.tdiv (p : Int) (n : Int) = (q : Int) := by rw [hq]; rfl
 have i1 : (r1 : Int) < (n : Int) := by omega
 have i2 : (r2 : Int) < (n : Int) := by omega
 have e1 : IntKind.i64.wrap ((k1 : Int) * 131) = (k1 : Int) * 131 := IntWalk.i64_in _ (by omega)
 have e2 : IntKind.i64.wrap ((p : Int) * 7) = (p : Int) * 7 := IntWalk.i64_in _ (by omega)
 have e3 : IntKind.i64.wrap ((p : Int) * 7 + 3) = (p : Int) * 7 + 3 := IntWalk.i64_in _ (by omega)
 have e4 : IntKind.i64.wrap ((k2 : Int) * 1117) = (k2 : Int) * 1117 := IntWalk.i64_in _ (by omega)
 have e5 : IntKind.i64.wrap ((k1 : Int) * 131 + (k2 : Int) * 1117) = (k1 : Int) * 131 + (k2 : Int) * 1117 := IntWalk.i64_in _ (by omega)
 have e6 : IntKind.i64.wrap ((p : Int) * 29) = (p : Int) * 29 := IntWalk.i64_in _ (by omega)
 have e7 : IntKind.i64.wrap ((k1 : Int) * 131 + (k2 : Int) * 1117 + (p : Int) * 29) = (k1 : Int) * 131 + (k2 : Int) * 1117 + (p : Int) * 29 := IntWalk.i64_in _ (by omega)
 have e8 : IntKind.i64.wrap ((q : Int) * 53) = (q : Int) * 53 := IntWalk.i64_in _ (by omega)
 have e9 : IntKind.i64.wrap ((k1 : Int) * 131 + (k2 : Int) * 1117 + (p : Int) * 29 + (q : Int) * 53) = (k1 : Int) * 131 + (k2 : Int) * 1117 + (p : Int) * 29 + (q : Int) * 53 := IntWalk.i64_in _ (by omega)
 clear hr1 hr2 hq
 clear hSw
 go_enter Tryz.func95, Tryz.ntmps95
 go_wp2_with fail
 refine Zi0 (S := fun U : World => U.cell? ⟨R, 0, none⟩ = some (.slice (some ⟨b, o, none⟩) n c) ∧ U.cell? ⟨b, o + r1, none⟩ = some (.int .u8 k1) ∧ U.cell? ⟨b, o + r2, none⟩ = some (.int .u8 k2)) (L := 45) (by kernel_rfl) ?_
 have hSd : (fun U : World => U.cell? ⟨R, 0, none⟩ = some (.slice (some ⟨b, o, none⟩) n c) ∧ U.cell? ⟨b, o + r1, none⟩ = some (.int .u8 k1) ∧ U.cell? ⟨b, o + r2, none⟩ = some (.int .u8 k2)) (((w.setCell ⟨R, 1, none⟩ (.int .i64 ((p : Int) + 1))))).drew := HSW.out
 refine' Zm [45] (i := 0) (v := _) rfl (by kernel_rfl) (by kernel_rfl) (by kernel_rfl) (by kernel_rfl) (by kernel_rfl) (by kernel_rfl) (fun _ _ _ h => h) (Or.inl ⟨by rfl, ?hy0⟩) hSd ?_
 case hy0 => (intro w hSw; (try dsimp only at hSw); go_simp) <;> with_reducible rfl
 try simp only [Act.put, List.setIfInBounds_toArray, List.set_cons_zero, List.set_cons_succ]
 refine' Zm [45] (i := 1) (v := _) rfl (by kernel_rfl) (by kernel_rfl) (by kernel_rfl) (by kernel_rfl) (by kernel_rfl) (by kernel_rfl) (fun _ _ _ h => h) (Or.inl ⟨by rfl, ?hy1⟩) hSd ?_
 case hy1 => (intro w hSw; (try dsimp only at hSw); go_simp) <;> with_reducible rfl
 try simp only [Act.put, List.setIfInBounds_toArray, List.set_cons_zero, List.set_cons_succ]
 refine' Zm [45] (i := 2) (v := _) rfl (by kernel_rfl) (by kernel_rfl) (by kernel_rfl) (by kernel_rfl) (by kernel_rfl) (by kernel_rfl) (fun _ _ _ h => h) (Or.inl ⟨by rfl, ?hy2⟩) hSd ?_
 case hy2 => (intro w hSw; (try dsimp only at hSw); go_simp) <;> with_reducible rfl
 try simp only [Act.put, List.setIfInBounds_toArray, List.set_cons_zero, List.set_cons_succ]
 refine' Zm [45] (i := 3) (v := _) rfl (by kernel_rfl) (by kernel_rfl) (by kernel_rfl) (by kernel_rfl) (by kernel_rfl) (by kernel_rfl) (fun _ _ _ h => h) (Or.inl ⟨by rfl, ?hy3⟩) hSd ?_
 case hy3 => (intro w hSw; (try dsimp only at hSw); go_simp) <;> with_reducible rfl
 try simp only [Act.put, List.setIfInBounds_toArray, List.set_cons_zero, List.set_cons_succ]
 refine' Zm [45] (i := 4) (v := _) rfl (by kernel_rfl) (by kernel_rfl) (by kernel_rfl) (by kernel_rfl) (by kernel_rfl) (by kernel_rfl) (fun _ _ _ h => h) (Or.inl ⟨by rfl, ?hy4⟩) hSd ?_
 case hy4 => (intro w hSw; (try dsimp only at hSw); go_simp) <;> with_reducible rfl
 try simp only [Act.put, List.setIfInBounds_toArray, List.set_cons_zero, List.set_cons_succ]
 refine' Zm [45] (i := 5) (v := _) rfl (by kernel_rfl) (by kernel_rfl) (by kernel_rfl) (by kernel_rfl) (by kernel_rfl) (by kernel_rfl) (fun _ _ _ h => h) (Or.inl ⟨by rfl, ?hy5⟩) hSd ?_
 case hy5 => (intro w hSw; (try dsimp only at hSw); go_simp) <;> with_reducible rfl
 try simp only [Act.put, List.setIfInBounds_toArray, List.set_cons_zero, List.set_cons_succ]
 refine' Zm [45] (i := 6) (v := _) rfl (by kernel_rfl) (by kernel_rfl) (by kernel_rfl) (by kernel_rfl) (by kernel_rfl) (by kernel_rfl) (fun _ _ _ h => h) (Or.inl ⟨by rfl, ?hy6⟩) hSd ?_
 case hy6 => (intro w hSw; (try dsimp only at hSw); go_simp) <;> with_reducible rfl
 try simp only [Act.put, List.setIfInBounds_toArray, List.set_cons_zero, List.set_cons_succ]
 refine' Zm [45] (i := 7) (v := _) rfl (by kernel_rfl) (by kernel_rfl) (by kernel_rfl) (by kernel_rfl) (by kernel_rfl) (by kernel_rfl) (fun _ _ _ h => h) (Or.inl ⟨by rfl, ?hy7⟩) hSd ?_
 case hy7 => (intro w hSw; (try dsimp only at hSw); go_simp) <;> with_reducible rfl
 try simp only [Act.put, List.setIfInBounds_toArray, List.set_cons_zero, List.set_cons_succ]
 refine' Zm [45] (i := 8) (v := _) rfl (by kernel_rfl) (by kernel_rfl) (by kernel_rfl) (by kernel_rfl) (by kernel_rfl) (by kernel_rfl) (fun _ _ _ h => h) (Or.inl ⟨by rfl, ?hy8⟩) hSd ?_
 case hy8 => (intro w hSw; (try dsimp only at hSw); go_simp) <;> with_reducible rfl
 try simp only [Act.put, List.setIfInBounds_toArray, List.set_cons_zero, List.set_cons_succ]
 refine' Zm [45] (i := 9) (v := _) rfl (by kernel_rfl) (by kernel_rfl) (by kernel_rfl) (by kernel_rfl) (by kernel_rfl) (by kernel_rfl) (fun _ _ _ h => h) (Or.inl ⟨by rfl, ?hy9⟩) hSd ?_
 case hy9 => (intro w hSw; (try dsimp only at hSw); go_simp) <;> with_reducible rfl
 try simp only [Act.put, List.setIfInBounds_toArray, List.set_cons_zero, List.set_cons_succ]
 refine' Zm [45] (i := 10) (v := _) rfl (by kernel_rfl) (by kernel_rfl) (by kernel_rfl) (by kernel_rfl) (by kernel_rfl) (by kernel_rfl) (fun _ _ _ h => h) (Or.inl ⟨by rfl, ?hy10⟩) hSd ?_
 case hy10 => (intro w hSw; (try dsimp only at hSw); go_simp) <;> with_reducible rfl
 try simp only [Act.put, List.setIfInBounds_toArray, List.set_cons_zero, List.set_cons_succ]
 refine' Zm [45] (i := 11) (v := _) rfl (by kernel_rfl) (by kernel_rfl) (by kernel_rfl) (by kernel_rfl) (by kernel_rfl) (by kernel_rfl) (fun _ _ _ h => h) (Or.inl ⟨by rfl, ?hy11⟩) hSd ?_
 case hy11 => (intro w hSw; (try dsimp only at hSw); go_simp) <;> with_reducible rfl
 try simp only [Act.put, List.setIfInBounds_toArray, List.set_cons_zero, List.set_cons_succ]
 refine' Zm [45] (i := 12) (v := _) rfl (by kernel_rfl) (by kernel_rfl) (by kernel_rfl) (by kernel_rfl) (by kernel_rfl) (by kernel_rfl) (fun _ _ _ h => h) (Or.inl ⟨by rfl, ?hy12⟩) hSd ?_
 case hy12 => (intro w hSw; (try dsimp only at hSw); go_simp) <;> with_reducible rfl
 try simp only [Act.put, List.setIfInBounds_toArray, List.set_cons_zero, List.set_cons_succ]
 refine' Zm [45] (i := 13) (v := _) rfl (by kernel_rfl) (by kernel_rfl) (by kernel_rfl) (by kernel_rfl) (by kernel_rfl) (by kernel_rfl) (fun _ _ _ h => h) (Or.inl ⟨by rfl, ?hy13⟩) hSd ?_
 case hy13 => (intro w hSw; (try dsimp only at hSw); go_simp) <;> with_reducible rfl
 try simp only [Act.put, List.setIfInBounds_toArray, List.set_cons_zero, List.set_cons_succ]
 refine' Zm [45] (i := 14) (v := _) rfl (by kernel_rfl) (by kernel_rfl) (by kernel_rfl) (by kernel_rfl) (by kernel_rfl) (by kernel_rfl) (fun _ _ _ h => h) (Or.inl ⟨by rfl, ?hy14⟩) hSd ?_
 case hy14 => (intro w hSw; (try dsimp only at hSw); go_simp) <;> with_reducible rfl
 try simp only [Act.put, List.setIfInBounds_toArray, List.set_cons_zero, List.set_cons_succ]
 refine' Zm [45] (i := 15) (v := _) rfl (by kernel_rfl) (by kernel_rfl) (by kernel_rfl) (by kernel_rfl) (by kernel_rfl) (by kernel_rfl) (fun _ _ _ h => h) (Or.inl ⟨by rfl, ?hy15⟩) hSd ?_
 case hy15 => (intro w hSw; (try dsimp only at hSw); go_simp) <;> with_reducible rfl
 try simp only [Act.put, List.setIfInBounds_toArray, List.set_cons_zero, List.set_cons_succ]
 refine' Zm [45] (i := 16) (v := _) rfl (by kernel_rfl) (by kernel_rfl) (by kernel_rfl) (by kernel_rfl) (by kernel_rfl) (by kernel_rfl) (fun _ _ _ h => h) (Or.inl ⟨by rfl, ?hy16⟩) hSd ?_
 case hy16 => (intro w hSw; (try dsimp only at hSw); go_simp) <;> with_reducible rfl
 try simp only [Act.put, List.setIfInBounds_toArray, List.set_cons_zero, List.set_cons_succ]
 refine' Zm [45] (i := 17) (v := _) rfl (by kernel_rfl) (by kernel_rfl) (by kernel_rfl) (by kernel_rfl) (by kernel_rfl) (by kernel_rfl) (fun _ _ _ h => h) (Or.inl ⟨by rfl, ?hy17⟩) hSd ?_
 case hy17 => (intro w hSw; (try dsimp only at hSw); go_simp) <;> with_reducible rfl
 try simp only [Act.put, List.setIfInBounds_toArray, List.set_cons_zero, List.set_cons_succ]
 refine' Zm [45] (i := 18) (v := _) rfl (by kernel_rfl) (by kernel_rfl) (by kernel_rfl) (by kernel_rfl) (by kernel_rfl) (by kernel_rfl) (fun _ _ _ h => h) (Or.inl ⟨by rfl, ?hy18⟩) hSd ?_
 case hy18 => (intro w hSw; (try dsimp only at hSw); go_simp) <;> with_reducible rfl
 try simp only [Act.put, List.setIfInBounds_toArray, List.set_cons_zero, List.set_cons_succ]
 refine' Zm [45] (i := 19) (v := _) rfl (by kernel_rfl) (by kernel_rfl) (by kernel_rfl) (by kernel_rfl) (by kernel_rfl) (by kernel_rfl) (fun _ _ _ h => h) (Or.inl ⟨by rfl, ?hy19⟩) hSd ?_
 case hy19 => (intro w hSw; (try dsimp only at hSw); go_simp) <;> with_reducible rfl
 try simp only [Act.put, List.setIfInBounds_toArray, List.set_cons_zero, List.set_cons_succ]
 refine' Zm [45] (i := 20) (v := _) rfl (by kernel_rfl) (by kernel_rfl) (by kernel_rfl) (by kernel_rfl) (by kernel_rfl) (by kernel_rfl) (fun _ _ _ h => h) (Or.inl ⟨by rfl, ?hy20⟩) hSd ?_
 case hy20 => (intro w hSw; (try dsimp only at hSw); go_simp) <;> with_reducible rfl
 try simp only [Act.put, List.setIfInBounds_toArray, List.set_cons_zero, List.set_cons_succ]
 refine' Zm [45] (i := 21) (v := _) rfl (by kernel_rfl) (by kernel_rfl) (by kernel_rfl) (by kernel_rfl) (by kernel_rfl) (by kernel_rfl) (fun _ _ _ h => h) (Or.inl ⟨by rfl, ?hy21⟩) hSd ?_
 case hy21 => (intro w hSw; (try dsimp only at hSw); go_simp) <;> with_reducible rfl
 try simp only [Act.put, List.setIfInBounds_toArray, List.set_cons_zero, List.set_cons_succ]
 refine' Zm [45] (i := 22) (v := _) rfl (by kernel_rfl) (by kernel_rfl) (by kernel_rfl) (by kernel_rfl) (by kernel_rfl) (by kernel_rfl) (fun _ _ _ h => h) (Or.inl ⟨by rfl, ?hy22⟩) hSd ?_
 case hy22 => (intro w hSw; (try dsimp only at hSw); go_simp) <;> with_reducible rfl
 try simp only [Act.put, List.setIfInBounds_toArray, List.set_cons_zero, List.set_cons_succ]
 refine' Zm [45] (i := 23) (v := _) rfl (by kernel_rfl) (by kernel_rfl) (by kernel_rfl) (by kernel_rfl) (by kernel_rfl) (by kernel_rfl) (fun _ _ _ h => h) (Or.inl ⟨by rfl, ?hy23⟩) hSd ?_
 case hy23 => (intro w hSw; (try dsimp only at hSw); go_simp) <;> with_reducible rfl
 try simp only [Act.put, List.setIfInBounds_toArray, List.set_cons_zero, List.set_cons_succ]
 refine' Zm [45] (i := 24) (v := _) rfl (by kernel_rfl) (by kernel_rfl) (by kernel_rfl) (by kernel_rfl) (by kernel_rfl) (by kernel_rfl) (fun _ _ _ h => h) (Or.inl ⟨by rfl, ?hy24⟩) hSd ?_
 case hy24 => (intro w hSw; (try dsimp only at hSw); go_simp) <;> with_reducible rfl
 try simp only [Act.put, List.setIfInBounds_toArray, List.set_cons_zero, List.set_cons_succ]
 refine' Zm [45] (i := 25) (v := _) rfl (by kernel_rfl) (by kernel_rfl) (by kernel_rfl) (by kernel_rfl) (by kernel_rfl) (by kernel_rfl) (fun _ _ _ h => h) (Or.inl ⟨by rfl, ?hy25⟩) hSd ?_
 case hy25 => (intro w hSw; (try dsimp only at hSw); go_simp) <;> with_reducible rfl
 try simp only [Act.put, List.setIfInBounds_toArray, List.set_cons_zero, List.set_cons_succ]
 refine' Zm [45] (i := 26) (v := _) rfl (by kernel_rfl) (by kernel_rfl) (by kernel_rfl) (by kernel_rfl) (by kernel_rfl) (by kernel_rfl) (fun _ _ _ h => h) (Or.inl ⟨by rfl, ?hy26⟩) hSd ?_
 case hy26 => (intro w hSw; (try dsimp only at hSw); go_simp) <;> with_reducible rfl
 try simp only [Act.put, List.setIfInBounds_toArray, List.set_cons_zero, List.set_cons_succ]
 refine' Zm [45] (i := 27) (v := _) rfl (by kernel_rfl) (by kernel_rfl) (by kernel_rfl) (by kernel_rfl) (by kernel_rfl) (by kernel_rfl) (fun _ _ _ h => h) (Or.inl ⟨by rfl, ?hy27⟩) hSd ?_
 case hy27 => (intro w hSw; (try dsimp only at hSw); go_simp) <;> with_reducible rfl
 try simp only [Act.put, List.setIfInBounds_toArray, List.set_cons_zero, List.set_cons_succ]
 refine' Zm [45] (i := 28) (v := _) rfl (by kernel_rfl) (by kernel_rfl) (by kernel_rfl) (by kernel_rfl) (by kernel_rfl) (by kernel_rfl) (fun _ _ _ h => h) (Or.inl ⟨by rfl, ?hy28⟩) hSd ?_
 case hy28 => (intro w hSw; (try dsimp only at hSw); go_simp) <;> with_reducible rfl
 try simp only [Act.put, List.setIfInBounds_toArray, List.set_cons_zero, List.set_cons_succ]
 refine' Zm [45] (i := 29) (v := _) rfl (by kernel_rfl) (by kernel_rfl) (by kernel_rfl) (by kernel_rfl) (by kernel_rfl) (by kernel_rfl) (fun _ _ _ h => h) (Or.inl ⟨by rfl, ?hy29⟩) hSd ?_
 case hy29 => (intro w hSw; (try dsimp only at hSw); go_simp) <;> with_reducible rfl
 try simp only [Act.put, List.setIfInBounds_toArray, List.set_cons_zero, List.set_cons_succ]
 refine' Zm [45] (i := 30) (v := _) rfl (by kernel_rfl) (by kernel_rfl) (by kernel_rfl) (by kernel_rfl) (by kernel_rfl) (by kernel_rfl) (fun _ _ _ h => h) (Or.inl ⟨by rfl, ?hy30⟩) hSd ?_
 case hy30 => (intro w hSw; (try dsimp only at hSw); go_simp) <;> with_reducible rfl
 try simp only [Act.put, List.setIfInBounds_toArray, List.set_cons_zero, List.set_cons_succ]
 refine' Zm [45] (i := 31) (v := _) rfl (by kernel_rfl) (by kernel_rfl) (by kernel_rfl) (by kernel_rfl) (by kernel_rfl) (by kernel_rfl) (fun _ _ _ h => h) (Or.inl ⟨by rfl, ?hy31⟩) hSd ?_
 case hy31 => (intro w hSw; (try dsimp only at hSw); go_simp) <;> with_reducible rfl
 try simp only [Act.put, List.setIfInBounds_toArray, List.set_cons_zero, List.set_cons_succ]
 refine' Zm [45] (i := 32) (v := _) rfl (by kernel_rfl) (by kernel_rfl) (by kernel_rfl) (by kernel_rfl) (by kernel_rfl) (by kernel_rfl) (fun _ _ _ h => h) (Or.inl ⟨by rfl, ?hy32⟩) hSd ?_
 case hy32 => (intro w hSw; (try dsimp only at hSw); go_simp) <;> with_reducible rfl
 try simp only [Act.put, List.setIfInBounds_toArray, List.set_cons_zero, List.set_cons_succ]
 refine' Zm [45] (i := 33) (v := _) rfl (by kernel_rfl) (by kernel_rfl) (by kernel_rfl) (by kernel_rfl) (by kernel_rfl) (by kernel_rfl) (fun _ _ _ h => h) (Or.inl ⟨by rfl, ?hy33⟩) hSd ?_
 case hy33 => (intro w hSw; (try dsimp only at hSw); go_simp) <;> with_reducible rfl
 try simp only [Act.put, List.setIfInBounds_toArray, List.set_cons_zero, List.set_cons_succ]
 refine' Zm [45] (i := 34) (v := _) rfl (by kernel_rfl) (by kernel_rfl) (by kernel_rfl) (by kernel_rfl) (by kernel_rfl) (by kernel_rfl) (fun _ _ _ h => h) (Or.inl ⟨by rfl, ?hy34⟩) hSd ?_
 case hy34 => (intro w hSw; (try dsimp only at hSw); go_simp) <;> with_reducible rfl
 try simp only [Act.put, List.setIfInBounds_toArray, List.set_cons_zero, List.set_cons_succ]
 refine' Zm [45] (i := 35) (v := _) rfl (by kernel_rfl) (by kernel_rfl) (by kernel_rfl) (by kernel_rfl) (by kernel_rfl) (by kernel_rfl) (fun _ _ _ h => h) (Or.inl ⟨by rfl, ?hy35⟩) hSd ?_
 case hy35 => (intro w hSw; (try dsimp only at hSw); go_simp) <;> with_reducible rfl
 try simp only [Act.put, List.setIfInBounds_toArray, List.set_cons_zero, List.set_cons_succ]
 refine' Zm [45] (i := 36) (v := _) rfl (by kernel_rfl) (by kernel_rfl) (by kernel_rfl) (by kernel_rfl) (by kernel_rfl) (by kernel_rfl) (fun _ _ _ h => h) (Or.inl ⟨by rfl, ?hy36⟩) hSd ?_
 case hy36 => (intro w hSw; (try dsimp only at hSw); go_simp) <;> with_reducible rfl
 try simp only [Act.put, List.setIfInBounds_toArray, List.set_cons_zero, List.set_cons_succ]
 refine' Zm [45] (i := 37) (v := _) rfl (by kernel_rfl) (by kernel_rfl) (by kernel_rfl) (by kernel_rfl) (by kernel_rfl) (by kernel_rfl) (fun _ _ _ h => h) (Or.inl ⟨by rfl, ?hy37⟩) hSd ?_
 case hy37 => (intro w hSw; (try dsimp only at hSw); go_simp) <;> with_reducible rfl
 try simp only [Act.put, List.setIfInBounds_toArray, List.set_cons_zero, List.set_cons_succ]
 refine' Zm [45] (i := 38) (v := _) rfl (by kernel_rfl) (by kernel_rfl) (by kernel_rfl) (by kernel_rfl) (by kernel_rfl) (by kernel_rfl) (fun _ _ _ h => h) (Or.inl ⟨by rfl, ?hy38⟩) hSd ?_
 case hy38 => (intro w hSw; (try dsimp only at hSw); go_simp) <;> with_reducible rfl
 try simp only [Act.put, List.setIfInBounds_toArray, List.set_cons_zero, List.set_cons_succ]
 refine' Zm [45] (i := 39) (v := _) rfl (by kernel_rfl) (by kernel_rfl) (by kernel_rfl) (by kernel_rfl) (by kernel_rfl) (by kernel_rfl) (fun _ _ _ h => h) (Or.inl ⟨by rfl, ?hy39⟩) hSd ?_
 case hy39 => (intro w hSw; (try dsimp only at hSw); go_simp) <;> with_reducible rfl
 try simp only [Act.put, List.setIfInBounds_toArray, List.set_cons_zero, List.set_cons_succ]
 refine' Zm [45] (i := 40) (v := _) rfl (by kernel_rfl) (by kernel_rfl) (by kernel_rfl) (by kernel_rfl) (by kernel_rfl) (by kernel_rfl) (fun _ _ _ h => h) (Or.inl ⟨by rfl, ?hy40⟩) hSd ?_
 case hy40 => (intro w hSw; (try dsimp only at hSw); go_simp) <;> with_reducible rfl
 try simp only [Act.put, List.setIfInBounds_toArray, List.set_cons_zero, List.set_cons_succ]
 refine' Zm [45] (i := 41) (v := _) rfl (by kernel_rfl) (by kernel_rfl) (by kernel_rfl) (by kernel_rfl) (by kernel_rfl) (by kernel_rfl) (fun _ _ _ h => h) (Or.inl ⟨by rfl, ?hy41⟩) hSd ?_
 case hy41 => (intro w hSw; (try dsimp only at hSw); go_simp) <;> with_reducible rfl
 try simp only [Act.put, List.setIfInBounds_toArray, List.set_cons_zero, List.set_cons_succ]
 refine' Zm [45] (i := 42) (v := _) rfl (by kernel_rfl) (by kernel_rfl) (by kernel_rfl) (by kernel_rfl) (by kernel_rfl) (by kernel_rfl) (fun _ _ _ h => h) (Or.inl ⟨by rfl, ?hy42⟩) hSd ?_
 case hy42 => (intro w hSw; (try dsimp only at hSw); go_simp) <;> with_reducible rfl
 try simp only [Act.put, List.setIfInBounds_toArray, List.set_cons_zero, List.set_cons_succ]
 refine' Zm [45] (i := 43) (v := _) rfl (by kernel_rfl) (by kernel_rfl) (by kernel_rfl) (by kernel_rfl) (by kernel_rfl) (by kernel_rfl) (fun _ _ _ h => h) (Or.inl ⟨by rfl, ?hy43⟩) hSd ?_
 case hy43 => (intro w hSw; (try dsimp only at hSw); go_simp) <;> with_reducible rfl
 try simp only [Act.put, List.setIfInBounds_toArray, List.set_cons_zero, List.set_cons_succ]
 refine' Zm [45] (i := 44) (v := _) rfl (by kernel_rfl) (by kernel_rfl) (by kernel_rfl) (by kernel_rfl) (by kernel_rfl) (by kernel_rfl) (fun _ _ _ h => h) (Or.inl ⟨by rfl, ?hy44⟩) hSd ?_
 case hy44 => (intro w hSw; (try dsimp only at hSw); go_simp) <;> with_reducible rfl
 try simp only [Act.put, List.setIfInBounds_toArray, List.set_cons_zero, List.set_cons_succ]
 refine Yg (i := 45) (by kernel_rfl) rfl (fun K hK => ?_)
 go_simp
 refine hK.out _ _ (fun h => absurd rfl h) ?_
 clear hK K
 try simp only [Act.put, List.setIfInBounds_toArray, List.set_cons_zero, List.set_cons_succ]
 refine Zfg (by kernel_rfl) ?_ _
 go_wp2_with fail
 go_ret
 refine ⟨⟨_, rfl, ?_⟩, rfl⟩
 rw [show ((k1 : Int) * 131 + (k2 : Int) * 1117 + (p : Int) * 29 + (q : Int) * 53) = ((k1 * 131 + k2 * 1117 + p * 29 + q * 53 : Nat) : Int) by omega, show (((k1 * 131 + k2 * 1117 + p * 29 + q * 53 : Nat) : Int) / 64) = (((k1 * 131 + k2 * 1117 + p * 29 + q * 53) / 64 : Nat) : Int) by omega, Zu4 _ _ (by omega) (by omega)]
 exact ⟨Int.tmod_nonneg _ (by omega), Int.tmod_lt_of_pos _ (by omega)⟩
def Zso (R N : Nat) (m : Int) (w : World) (e : Ending) (w' : World) : Prop :=
 ∃ k : Int, e = .returned (.int .i64 k) ∧ 0 ≤ k ∧ (1 ≤ m → k < m) ∧ Qh w' R (N + 1) ∧ w.grownBy w' (some R)
theorem pick (R N : Nat) (m : Int) (w : World) (h : Qh w R N) (hN : N ≤ 1000000) (hmm : m ≤ 1000000) :
 Calls Tryz.prog 95 #[.pointer (some ⟨R, 0, none⟩), .int .i64 m] w (Zso R N m w) := by
 obtain ⟨A, n, c, p, hp, hat⟩ := h
 have hnext := hat.next hp
 have hg := Qt w (a := ⟨R, 1, none⟩) rfl (.int .i64 ((p + 1 : Nat) : Int))
 obtain ⟨h1, h2, h3, h4, h5, h6, h7⟩ := hat
 by_cases hm : m < 1
 · refine (Zv0 R A n c p m w h4 h5 (h6 1) (by omega) hm).mono ?_
   rintro e w' ⟨rfl, rfl⟩
   exact ⟨0, rfl, by omega, fun h => by omega, hnext, hg⟩
 rcases Nat.eq_zero_or_pos n with rfl | hn
 · refine (Zvl R A c p m w h4 h5 (h6 1) (by omega) hm).mono ?_
   rintro e w' ⟨rfl, rfl⟩
   exact ⟨0, rfl, by omega, fun h => by omega, hnext, hg⟩
 obtain ⟨b, o, rfl, hb, hc⟩ := h7 hn
 by_cases hlt : p < n
 · obtain ⟨k, hk1, hk2⟩ := hc p hlt
   refine (Zvh R b o n c p k m w h4 h5 (h6 1) (by omega) (by omega) hmm h1 hlt hk2 hk1 (by omega)).mono ?_
   rintro e w' ⟨rfl, rfl⟩
   exact ⟨_, rfl, Int.emod_nonneg _ (by omega), fun h => Int.emod_lt_of_pos _ (by omega), hnext, hg⟩
 obtain ⟨k1, hk1, hc1⟩ := hc (p % n) (Nat.mod_lt _ hn)
 obtain ⟨k2, hk2, hc2⟩ := hc ((p * 7 + 3) % n) (Nat.mod_lt _ hn)
 refine (Zv2 R b o n c p k1 k2 m w h4 h5 (h6 1) (by omega) (by omega) hmm hn h1 hlt _ _ rfl rfl hc1 hc2 hk1 hk2 (by omega)).mono ?_
 rintro e w' ⟨⟨k, rfl, hk3, hk4⟩, rfl⟩
 exact ⟨k, rfl, hk3, fun _ => hk4, hnext.below (Zt (Zf _)), ⟨hg.os, hg.tape, hg.output, hg.size, hg.block⟩⟩
def Zcy (w : World) (A : Option Addr) (n c : Nat) : Prop :=
 n ≤ 9223372036854775807 ∧ n ≤ c ∧ c ≤ 9223372036854775807 ∧ (0 < n → ∃ b o, A = some ⟨b, o, none⟩ ∧ b < w.heap.size ∧ ∀ j, j < n → ∃ k : Nat, k < 256 ∧ w.cell? ⟨b, o + j, none⟩ = some (.int .u8 k))
theorem Zcy.below {w w' : World} {A : Option Addr} {n c : Nat} (h : Zcy w A n c) (hb : Below w.heap.size w w') : Zcy w' A n c := by
 obtain ⟨h1, h2, h3, h4⟩ := h
 refine ⟨h1, h2, h3, fun hn => ?_⟩
 obtain ⟨b, o, e, hlt, hc⟩ := h4 hn
 refine ⟨b, o, e, Nat.lt_of_lt_of_le hlt hb.size, fun j hj => ?_⟩
 obtain ⟨k, hk, hk2⟩ := hc j hj
 exact ⟨k, hk, Zg hb hk2⟩
theorem Zqn {w : World} {A : Option Addr} {n m c : Nat} (h : Zcy w A n c) (hm : m ≤ n) (hm2 : m ≤ 2000) (T : TypeId) :
 Qh (w.alloc (.cells #[.slice A m c, .int .i64 0] T)) w.heap.size 0 := by
 obtain ⟨h1, h2, h3, h4⟩ := h
 refine ⟨A, m, c, 0, Nat.le_refl _, hm2, by omega, h3, Zj _ _ _ _ _ _ rfl, Zj _ _ _ _ _ _ rfl, fun i => by simp, fun hn => ?_⟩
 obtain ⟨b, o, e, hlt, hc⟩ := h4 (by omega)
 refine ⟨b, o, e, hlt, fun j hj => ?_⟩
 obtain ⟨k, hk, hk2⟩ := hc j (by omega)
 exact ⟨k, hk, Zg (Zc (Zf w) _) hk2⟩
def Zks (w : World) (e : Ending) (w' : World) : Prop :=
 ∃ R : Nat, e = .returned (.pointer (some ⟨R, 0, none⟩)) ∧ w.heap.size ≤ R ∧ Qh w' R 0 ∧ Below w.heap.size w w'
theorem Zvz (A : Option Addr) (n c : Nat) (w : World) (h : Zcy w A n c) (hn : n ≤ 2000) :
 Calls Tryz.prog 75 #[.slice A n c] w (Zks w) := by
 have hR := Zqn h (Nat.le_refl _) hn 147
 have HR := Za hR
 obtain ⟨h1, h2, h3, _⟩ := h
 have hnz : ¬ (n : Int) > 2000 := by omega
 have hnz' : ¬ (2000 : Int) < (n : Int) := by omega
 clear hR
 go_enter Tryz.func75, Tryz.ntmps75
 go_wp2_with fail
 go_ret
 exact ⟨_, rfl, Nat.le_refl _, HR.out, Zc (Zf w) _⟩
theorem Zvb (b o : Nat) (n c : Nat) (w : World) (h : Zcy w (some ⟨b, o, none⟩) n c) (hn : ¬ n ≤ 2000) :
 Calls Tryz.prog 75 #[.slice (some ⟨b, o, none⟩) n c] w (Zks w) := by
 have hR := Zqn (m := 2000) h (by omega) (Nat.le_refl _) 147
 have HR := Za hR
 obtain ⟨h1, h2, h3, _⟩ := h
 have hnz : (n : Int) > 2000 := by omega
 have hcz : (2000 : Int) ≤ (c : Int) := by omega
 have hcn : 2000 ≤ c := by omega
 clear hR
 go_enter Tryz.func75, Tryz.ntmps75
 go_wp2_with fail
 go_ret
 exact ⟨_, rfl, Nat.le_refl _, HR.out, Zc (Zf w) _⟩
theorem Zvd (A : Option Addr) (n c : Nat) (w : World) (h : Zcy w A n c) : Calls Tryz.prog 75 #[.slice A n c] w (Zks w) := by
 by_cases hn : n ≤ 2000
 · exact Zvz A n c w h hn
 obtain ⟨b, o, rfl, _, _⟩ := h.2.2.2 (by omega)
 exact Zvb b o n c w h hn
end Go.Proofs.YtgdmcmicfoamlaaGreatDoor
namespace Go.Proofs.YtgdmcmicfoamlaaGreatDoor
open Go.RowKit
def Zts (R N : Nat) (w : World) (e : Ending) (w' : World) : Prop :=
 ∃ s : ByteArray, e = .returned (.string s) ∧ s.size ≤ 30 ∧ Qh w' R N ∧ w.grownBy w' (some R)
def Zma (w : World) (X m n : Nat) : Prop := ∀ j, j < n → ∃ z : ByteArray, z.size ≤ m ∧ w.cell? ⟨X, j, none⟩ = some (.string z)
theorem Zma.grow {w w' : World} {X m n R : Nat} (h : Zma w X m n) (hX : X ≠ R) (hl : X < w.heap.size) (hg : w.grownBy w' (some R)) : Zma w' X m n := by
 intro j hj
 obtain ⟨z, h1, h2⟩ := h j hj
 exact ⟨z, h1, (World.cell?_of_block (hg.block X hl (fun e => by injection e with e; omega))).trans h2⟩
theorem Zsn (R N : Nat) (w : World) (h : Qh w R N) (hN : N ≤ 900000) :
 Calls Tryz.prog 224 #[.pointer (some ⟨R, 0, none⟩)] w (Zts R (N + 7) w) := by
 have hRl := h.lt
 have HR := Za h
 clear h
 go_enter Tryz.func224, Tryz.ntmps224
 go_wp2_with fail
 have hW : ∃ W : World, W = w.alloc (.cells #[.string ⟨#[97]⟩, .string ⟨#[97, 110]⟩, .string ⟨#[116, 104, 101]⟩, .string ⟨#[111, 118, 101, 114]⟩, .string ⟨#[117, 110, 100, 101, 114]⟩, .string ⟨#[109, 101, 97, 100, 111, 119]⟩, .string ⟨#[108, 105, 103, 104, 116, 104, 111, 117, 115, 101]⟩] 9) := ⟨_, rfl⟩
 obtain ⟨W, hW⟩ := hW
 have HW : Hid (w.grownBy W (some R) ∧ Qh W R N ∧ Zma W w.heap.size 10 7 ∧ w.heap.size < W.heap.size) := by
  subst hW
  refine ⟨World.grownBy_alloc w _ _, HR.out.below (Zc (Zf w) _), fun j hj => ?_, by simp⟩
  match j, hj with
  | 0, _ => exact ⟨⟨#[97]⟩, by decide, Zj _ _ _ _ _ _ rfl⟩
  | 1, _ => exact ⟨⟨#[97, 110]⟩, by decide, Zj _ _ _ _ _ _ rfl⟩
  | 2, _ => exact ⟨⟨#[116, 104, 101]⟩, by decide, Zj _ _ _ _ _ _ rfl⟩
  | 3, _ => exact ⟨⟨#[111, 118, 101, 114]⟩, by decide, Zj _ _ _ _ _ _ rfl⟩
  | 4, _ => exact ⟨⟨#[117, 110, 100, 101, 114]⟩, by decide, Zj _ _ _ _ _ _ rfl⟩
  | 5, _ => exact ⟨⟨#[109, 101, 97, 100, 111, 119]⟩, by decide, Zj _ _ _ _ _ _ rfl⟩
  | 6, _ => exact ⟨⟨#[108, 105, 103, 104, 116, 104, 111, 117, 115, 101]⟩, by decide, Zj _ _ _ _ _ _ rfl⟩
  | j + 7, hj => exact absurd hj (by omega)
 rw [← hW]
 clear hW
 refine (pick R N 6 W HW.out.2.1 (by omega) (by decide)).mono ?_
 rintro e w1 ⟨k, rfl, hk0, hk1, hR1, hg1⟩
 have hk6 := hk1 (by decide)
 have H1 := Za (And.intro hR1 hg1)
 clear hk1 hR1 hg1
 obtain ⟨n, rfl⟩ := Int.eq_ofNat_of_zero_le hk0
 go_wp2
 go_loopg [4, 5, 6] 6 (fun gg s4 s5 _ wr => ∃ (kk : Nat) (s : ByteArray), kk ≤ gg ∧ kk ≤ 6 ∧ s4 = .string s ∧ s5 = .int .i64 kk ∧ Aside (s.size ≤ 30) ∧ Aside (Qh wr R (N + 7 - kk)) ∧ Aside (w.grownBy wr (some R)) ∧ Aside (Zma wr w.heap.size 10 7) ∧ Aside (w.heap.size < wr.heap.size))
 case atStart => exact ⟨n, ⟨#[]⟩, by omega, by omega, rfl, rfl, (show Aside _ from (by decide : (⟨#[]⟩ : ByteArray).size ≤ 30)), (show Aside _ from H1.out.1.mono (by omega)), (show Aside _ from Zk HW.out.1 H1.out.2), (show Aside _ from HW.out.2.2.1.grow (by omega) HW.out.2.2.2 H1.out.2), (show Aside _ from Nat.lt_of_lt_of_le HW.out.2.2.2 H1.out.2.size)⟩
 obtain ⟨kk, s, hg, hk6', rfl, rfl, AS, AR, AG, AW, AL⟩ := hrel
 by_cases hlt : 0 < kk
 ·
  have hltz : (0 : Int) < (kk : Int) := by omega
  go_wp2_with fail
  refine (pick R (N + 7 - kk) 7 wr AR.out (by omega) (by decide)).mono ?_
  rintro e w2 ⟨k, rfl, hk0, hk1, hR2, hg2⟩
  have hk7 := hk1 (by decide)
  have H2 := Za (And.intro hR2 hg2)
  have HW2 := Za (AW.out.grow (by omega) AL.out hg2)
  clear hk1 hR2 hg2
  obtain ⟨i, rfl⟩ := Int.eq_ofNat_of_zero_le hk0
  obtain ⟨z, hz, hc⟩ := HW2.out i (by omega)
  have HZ := Za hz
  clear hz
  have hs30 := AS.out
  have hz10 := HZ.out
  have t1 : IntKind.i64.wrap ((s.size : Int) + 1) = (s.size : Int) + 1 := IntWalk.i64_in _ (by omega)
  have t2 : IntKind.i64.wrap ((s.size : Int) + 1 + z.size) = (s.size : Int) + 1 + z.size := IntWalk.i64_in _ (by omega)
  have t3 : IntKind.i64.wrap ((kk : Int) - 1) = (kk : Int) - 1 := IntWalk.i64_in _ (by omega)
  have c1 : ¬ 9223372036854775807 < s.size + 1 := by omega
  have c2 : ¬ 9223372036854775807 < s.size + 1 + z.size := by omega
  cases hs : s.toList.isEmpty with
  | true =>
   go_wp2_with fail
   go_roundg (kk - 1)
   case measure => omega
   refine ⟨kk - 1, _, by omega, by omega, rfl, (by rw [Int.natCast_sub (by omega)]; rfl), (show Aside _ from ?_), (show Aside _ from H2.out.1.mono (by omega)), (show Aside _ from Zk AG.out H2.out.2), (show Aside _ from HW2.out), (show Aside _ from Nat.lt_of_lt_of_le AL.out H2.out.2.size)⟩
   exact (by omega : z.size ≤ 30)
  | false =>
   by_cases hle : (s.size : Int) + 1 + z.size ≤ 30
   · go_wp2_with fail
     go_roundg (kk - 1)
     case measure => omega
     refine ⟨kk - 1, _, by omega, by omega, rfl, (by rw [Int.natCast_sub (by omega)]; rfl), (show Aside _ from ?_), (show Aside _ from H2.out.1.mono (by omega)), (show Aside _ from Zk AG.out H2.out.2), (show Aside _ from HW2.out), (show Aside _ from Nat.lt_of_lt_of_le AL.out H2.out.2.size)⟩
     exact (by rw [ByteArray.size_append, ByteArray.size_append, show (⟨#[32]⟩ : ByteArray).size = 1 from rfl]; omega : ((s ++ ⟨#[32]⟩) ++ z).size ≤ 30)
   go_wp2_with fail
   go_roundg (kk - 1)
   case measure => omega
   refine ⟨kk - 1, _, by omega, by omega, rfl, (by rw [Int.natCast_sub (by omega)]; rfl), (show Aside _ from ?_), (show Aside _ from H2.out.1.mono (by omega)), (show Aside _ from Zk AG.out H2.out.2), (show Aside _ from HW2.out), (show Aside _ from Nat.lt_of_lt_of_le AL.out H2.out.2.size)⟩
   exact hs30
 have hltz : ¬ (0 : Int) < (kk : Int) := by omega
 go_wp2
 go_ret
 exact ⟨s, rfl, AS.out, AR.out.mono (by omega), AG.out⟩
end Go.Proofs.YtgdmcmicfoamlaaGreatDoor
namespace Go.Proofs.YtgdmcmicfoamlaaGreatDoor
open Go.RowKit Go.WideShapes Go.ChangeShapes
theorem Zn9 : Tryz.prog.cellsOf 5 = 1 := by kernel_rfl
theorem Zry {H : Type} {enc : TypeId × Value → H} {W : World} {base : Nat} {v : Value} {d : DataW H} {p : List MemPlace} (hval : Value.okWide Tryz.prog W .any base 22 v) (h : DataW.Trod enc Tryz.prog W 0 (fun _ => true) true 22 v d p) :
 ∃ A n c, v = .slice A n c ∧ Zcy W A n c := by
 obtain ⟨A, n, c, rfl⟩ := okWide_slice Tryz.underlying22 hval
 refine ⟨A, n, c, rfl, ?_⟩
 obtain ⟨fuel, hf⟩ := h
 rcases open_ints Tryz.underlying22 Tryz.underlying5 Zn9 hf with ⟨hcs, _⟩ | ⟨a, len', cap', zs, hcs, _, hl, hm, hz, _, hcell, hwz⟩
 · simp [Value.cells] at hcs
   obtain ⟨rfl, rfl, rfl⟩ := hcs
   exact ⟨by decide, by decide, by decide, fun h => absurd h (by decide)⟩
 simp [Value.cells] at hcs
 obtain ⟨rfl, rfl, rfl⟩ := hcs
 simp only [if_true] at hz
 have hmx : maxLen ≤ 9223372036854775807 := by decide
 refine ⟨by omega, hl, by omega, fun hn => ?_⟩
 have h0 := hcell 0 (by omega)
 obtain ⟨b, o, s⟩ := a
 have hs : s = none := by
  have h6 := Zs9 h0
  simpa [Addr.add] using h6
 subst hs
 refine ⟨b, o, rfl, ?_, fun j hj => ?_⟩
 · have := World.block_lt_of_cell? W _ h0
   simpa [Addr.add] using this
 have hj' := hcell j (by omega)
 rw [Zrv] at hj'
 have hb := range_u8 hwz j
 rw [List.getD_eq_getElem?_getD] at hj'
 obtain ⟨k, hk⟩ := Int.eq_ofNat_of_zero_le hb.1
 rw [hk] at hj' hb
 exact ⟨k, by omega, hj'⟩
end Go.Proofs.YtgdmcmicfoamlaaGreatDoor
