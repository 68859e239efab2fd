import Derived.Test.YtgdmcmicfoamlaaGreatDoorMixDi
set_option linter.unusedVariables false
set_option linter.unusedSimpArgs false
set_option maxHeartbeats 4000000
set_option maxRecDepth 100000
namespace Go.Proofs.YtgdmcmicfoamlaaGreatDoor
open Go.RowKit
theorem Zvi (w : World) (T : TypeId) : Zha 5 (w.alloc (.cells #[.int .i64 1, .int .i64 1, .int .i64 1, .int .i64 2, .int .i64 3, .int .i64 4] T)) w.heap.size 6 := by
 intro j hj
 match j, hj with
 | 0, _ => exact ⟨1, by decide, by decide, Zj _ _ _ _ _ _ rfl⟩
 | 1, _ => exact ⟨1, by decide, by decide, Zj _ _ _ _ _ _ rfl⟩
 | 2, _ => exact ⟨1, by decide, by decide, Zj _ _ _ _ _ _ rfl⟩
 | 3, _ => exact ⟨2, by decide, by decide, Zj _ _ _ _ _ _ rfl⟩
 | 4, _ => exact ⟨3, by decide, by decide, Zj _ _ _ _ _ _ rfl⟩
 | 5, _ => exact ⟨4, by decide, by decide, Zj _ _ _ _ _ _ rfl⟩
 | j + 6, hj => exact absurd hj (by omega)
theorem Zvf (w : World) (T : TypeId) : Zha 3 (w.alloc (.cells #[.int .i64 1, .int .i64 1, .int .i64 1, .int .i64 1, .int .i64 2, .int .i64 3] T)) w.heap.size 6 := by
 intro j hj
 match j, hj with
 | 0, _ => exact ⟨1, by decide, by decide, Zj _ _ _ _ _ _ rfl⟩
 | 1, _ => exact ⟨1, by decide, by decide, Zj _ _ _ _ _ _ rfl⟩
 | 2, _ => exact ⟨1, by decide, by decide, Zj _ _ _ _ _ _ rfl⟩
 | 3, _ => exact ⟨1, by decide, by decide, Zj _ _ _ _ _ _ rfl⟩
 | 4, _ => exact ⟨2, by decide, by decide, Zj _ _ _ _ _ _ rfl⟩
 | 5, _ => exact ⟨3, by decide, by decide, Zj _ _ _ _ _ _ rfl⟩
 | j + 6, hj => exact absurd hj (by omega)
theorem Zvp (w : World) (T : TypeId) : Zpm (w.alloc (.cells #[.string ⟨#[]⟩, .int .i64 0, .int .i64 0, .int .i64 0, .int .i64 0, .int .i64 0, .int .i64 0, .int .i64 0, .int .i64 0, .int .i64 0, .int .i64 0] T)) w.heap.size := by
 refine ⟨Zj _ _ _ _ _ _ rfl, fun k k1 k2 => ?_, fun i => by simp⟩
 obtain rfl|rfl|rfl|rfl|rfl|rfl|rfl|rfl|rfl|rfl : k = 1 ∨ k = 2 ∨ k = 3 ∨ k = 4 ∨ k = 5 ∨ k = 6 ∨ k = 7 ∨ k = 8 ∨ k = 9 ∨ k = 10 := by omega
 all_goals exact Zj _ _ _ _ _ _ rfl
theorem Zv4 (W : World) (C : Nat) (v0 v1 v2 v3 v4 v5 v6 v7 v8 v9 v10 u0 u1 u2 u3 u4 u5 u6 u7 u8 u9 u10 : Value) (h0 : W.cell? ⟨C, 0, none⟩ = some u0) (h1 : W.cell? ⟨C, 1, none⟩ = some u1) (h2 : W.cell? ⟨C, 2, none⟩ = some u2) (h3 : W.cell? ⟨C, 3, none⟩ = some u3) (h4 : W.cell? ⟨C, 4, none⟩ = some u4) (h5 : W.cell? ⟨C, 5, none⟩ = some u5) (h6 : W.cell? ⟨C, 6, none⟩ = some u6) (h7 : W.cell? ⟨C, 7, none⟩ = some u7) (h8 : W.cell? ⟨C, 8, none⟩ = some u8) (h9 : W.cell? ⟨C, 9, none⟩ = some u9) (h10 : W.cell? ⟨C, 10, none⟩ = some u10) :
 (((((((((((W.setCell ⟨C, 0, none⟩ v0).setCell ⟨C, 1, none⟩ v1).setCell ⟨C, 2, none⟩ v2).setCell ⟨C, 3, none⟩ v3).setCell ⟨C, 4, none⟩ v4).setCell ⟨C, 5, none⟩ v5).setCell ⟨C, 6, none⟩ v6).setCell ⟨C, 7, none⟩ v7).setCell ⟨C, 8, none⟩ v8).setCell ⟨C, 9, none⟩ v9).setCell ⟨C, 10, none⟩ v10).cell? ⟨C, 0, none⟩ = some v0 ∧ (((((((((((W.setCell ⟨C, 0, none⟩ v0).setCell ⟨C, 1, none⟩ v1).setCell ⟨C, 2, none⟩ v2).setCell ⟨C, 3, none⟩ v3).setCell ⟨C, 4, none⟩ v4).setCell ⟨C, 5, none⟩ v5).setCell ⟨C, 6, none⟩ v6).setCell ⟨C, 7, none⟩ v7).setCell ⟨C, 8, none⟩ v8).setCell ⟨C, 9, none⟩ v9).setCell ⟨C, 10, none⟩ v10).cell? ⟨C, 1, none⟩ = some v1 ∧ (((((((((((W.setCell ⟨C, 0, none⟩ v0).setCell ⟨C, 1, none⟩ v1).setCell ⟨C, 2, none⟩ v2).setCell ⟨C, 3, none⟩ v3).setCell ⟨C, 4, none⟩ v4).setCell ⟨C, 5, none⟩ v5).setCell ⟨C, 6, none⟩ v6).setCell ⟨C, 7, none⟩ v7).setCell ⟨C, 8, none⟩ v8).setCell ⟨C, 9, none⟩ v9).setCell ⟨C, 10, none⟩ v10).cell? ⟨C, 2, none⟩ = some v2 ∧ (((((((((((W.setCell ⟨C, 0, none⟩ v0).setCell ⟨C, 1, none⟩ v1).setCell ⟨C, 2, none⟩ v2).setCell ⟨C, 3, none⟩ v3).setCell ⟨C, 4, none⟩ v4).setCell ⟨C, 5, none⟩ v5).setCell ⟨C, 6, none⟩ v6).setCell ⟨C, 7, none⟩ v7).setCell ⟨C, 8, none⟩ v8).setCell ⟨C, 9, none⟩ v9).setCell ⟨C, 10, none⟩ v10).cell? ⟨C, 3, none⟩ = some v3 ∧ (((((((((((W.setCell ⟨C, 0, none⟩ v0).setCell ⟨C, 1, none⟩ v1).setCell ⟨C, 2, none⟩ v2).setCell ⟨C, 3, none⟩ v3).setCell ⟨C, 4, none⟩ v4).setCell ⟨C, 5, none⟩ v5).setCell ⟨C, 6, none⟩ v6).setCell ⟨C, 7, none⟩ v7).setCell ⟨C, 8, none⟩ v8).setCell ⟨C, 9, none⟩ v9).setCell ⟨C, 10, none⟩ v10).cell? ⟨C, 4, none⟩ = some v4 ∧ (((((((((((W.setCell ⟨C, 0, none⟩ v0).setCell ⟨C, 1, none⟩ v1).setCell ⟨C, 2, none⟩ v2).setCell ⟨C, 3, none⟩ v3).setCell ⟨C, 4, none⟩ v4).setCell ⟨C, 5, none⟩ v5).setCell ⟨C, 6, none⟩ v6).setCell ⟨C, 7, none⟩ v7).setCell ⟨C, 8, none⟩ v8).setCell ⟨C, 9, none⟩ v9).setCell ⟨C, 10, none⟩ v10).cell? ⟨C, 5, none⟩ = some v5 ∧ (((((((((((W.setCell ⟨C, 0, none⟩ v0).setCell ⟨C, 1, none⟩ v1).setCell ⟨C, 2, none⟩ v2).setCell ⟨C, 3, none⟩ v3).setCell ⟨C, 4, none⟩ v4).setCell ⟨C, 5, none⟩ v5).setCell ⟨C, 6, none⟩ v6).setCell ⟨C, 7, none⟩ v7).setCell ⟨C, 8, none⟩ v8).setCell ⟨C, 9, none⟩ v9).setCell ⟨C, 10, none⟩ v10).cell? ⟨C, 6, none⟩ = some v6 ∧ (((((((((((W.setCell ⟨C, 0, none⟩ v0).setCell ⟨C, 1, none⟩ v1).setCell ⟨C, 2, none⟩ v2).setCell ⟨C, 3, none⟩ v3).setCell ⟨C, 4, none⟩ v4).setCell ⟨C, 5, none⟩ v5).setCell ⟨C, 6, none⟩ v6).setCell ⟨C, 7, none⟩ v7).setCell ⟨C, 8, none⟩ v8).setCell ⟨C, 9, none⟩ v9).setCell ⟨C, 10, none⟩ v10).cell? ⟨C, 7, none⟩ = some v7 ∧ (((((((((((W.setCell ⟨C, 0, none⟩ v0).setCell ⟨C, 1, none⟩ v1).setCell ⟨C, 2, none⟩ v2).setCell ⟨C, 3, none⟩ v3).setCell ⟨C, 4, none⟩ v4).setCell ⟨C, 5, none⟩ v5).setCell ⟨C, 6, none⟩ v6).setCell ⟨C, 7, none⟩ v7).setCell ⟨C, 8, none⟩ v8).setCell ⟨C, 9, none⟩ v9).setCell ⟨C, 10, none⟩ v10).cell? ⟨C, 8, none⟩ = some v8 ∧ (((((((((((W.setCell ⟨C, 0, none⟩ v0).setCell ⟨C, 1, none⟩ v1).setCell ⟨C, 2, none⟩ v2).setCell ⟨C, 3, none⟩ v3).setCell ⟨C, 4, none⟩ v4).setCell ⟨C, 5, none⟩ v5).setCell ⟨C, 6, none⟩ v6).setCell ⟨C, 7, none⟩ v7).setCell ⟨C, 8, none⟩ v8).setCell ⟨C, 9, none⟩ v9).setCell ⟨C, 10, none⟩ v10).cell? ⟨C, 9, none⟩ = some v9 ∧ (((((((((((W.setCell ⟨C, 0, none⟩ v0).setCell ⟨C, 1, none⟩ v1).setCell ⟨C, 2, none⟩ v2).setCell ⟨C, 3, none⟩ v3).setCell ⟨C, 4, none⟩ v4).setCell ⟨C, 5, none⟩ v5).setCell ⟨C, 6, none⟩ v6).setCell ⟨C, 7, none⟩ v7).setCell ⟨C, 8, none⟩ v8).setCell ⟨C, 9, none⟩ v9).setCell ⟨C, 10, none⟩ v10).cell? ⟨C, 10, none⟩ = some v10 := by
 refine ⟨?_, ?_, ?_, ?_, ?_, ?_, ?_, ?_, ?_, ?_, ?_⟩
 · exact Zs (Zs (Zs (Zs (Zs (Zs (Zs (Zs (Zs (Zs (Zdq h0) (by simp)) (by simp)) (by simp)) (by simp)) (by simp)) (by simp)) (by simp)) (by simp)) (by simp)) (by simp)
 · exact Zs (Zs (Zs (Zs (Zs (Zs (Zs (Zs (Zs (Zdq (Zs h1 (by simp))) (by simp)) (by simp)) (by simp)) (by simp)) (by simp)) (by simp)) (by simp)) (by simp)) (by simp)
 · exact Zs (Zs (Zs (Zs (Zs (Zs (Zs (Zs (Zdq (Zs (Zs h2 (by simp)) (by simp))) (by simp)) (by simp)) (by simp)) (by simp)) (by simp)) (by simp)) (by simp)) (by simp)
 · exact Zs (Zs (Zs (Zs (Zs (Zs (Zs (Zdq (Zs (Zs (Zs h3 (by simp)) (by simp)) (by simp))) (by simp)) (by simp)) (by simp)) (by simp)) (by simp)) (by simp)) (by simp)
 · exact Zs (Zs (Zs (Zs (Zs (Zs (Zdq (Zs (Zs (Zs (Zs h4 (by simp)) (by simp)) (by simp)) (by simp))) (by simp)) (by simp)) (by simp)) (by simp)) (by simp)) (by simp)
 · exact Zs (Zs (Zs (Zs (Zs (Zdq (Zs (Zs (Zs (Zs (Zs h5 (by simp)) (by simp)) (by simp)) (by simp)) (by simp))) (by simp)) (by simp)) (by simp)) (by simp)) (by simp)
 · exact Zs (Zs (Zs (Zs (Zdq (Zs (Zs (Zs (Zs (Zs (Zs h6 (by simp)) (by simp)) (by simp)) (by simp)) (by simp)) (by simp))) (by simp)) (by simp)) (by simp)) (by simp)
 · exact Zs (Zs (Zs (Zdq (Zs (Zs (Zs (Zs (Zs (Zs (Zs h7 (by simp)) (by simp)) (by simp)) (by simp)) (by simp)) (by simp)) (by simp))) (by simp)) (by simp)) (by simp)
 · exact Zs (Zs (Zdq (Zs (Zs (Zs (Zs (Zs (Zs (Zs (Zs h8 (by simp)) (by simp)) (by simp)) (by simp)) (by simp)) (by simp)) (by simp)) (by simp))) (by simp)) (by simp)
 · exact Zs (Zdq (Zs (Zs (Zs (Zs (Zs (Zs (Zs (Zs (Zs h9 (by simp)) (by simp)) (by simp)) (by simp)) (by simp)) (by simp)) (by simp)) (by simp)) (by simp))) (by simp)
 exact Zdq (Zs (Zs (Zs (Zs (Zs (Zs (Zs (Zs (Zs (Zs h10 (by simp)) (by simp)) (by simp)) (by simp)) (by simp)) (by simp)) (by simp)) (by simp)) (by simp)) (by simp))
def Zwf (V : World) (R N H : Nat) (n : Int) (a : Act) (W : World) : Prop :=
 ∃ (vs : Nat → Value) (C : Nat) (tx : ByteArray) (z1 z2 : Int), a = Zcp R H n vs ∧ vs 13 = .pointer (some ⟨C, 0, none⟩) ∧ Qh W R (N + 9) ∧ V.grownBy W (some R) ∧ V.heap.size ≤ C ∧ C ≠ R ∧ C < W.heap.size ∧ tx.size ≤ 30 ∧ -1 ≤ z1 ∧ z1 ≤ 5 ∧ -1 ≤ z2 ∧ z2 ≤ 3 ∧
  W.cell? ⟨C, 0, none⟩ = some (.string tx) ∧ W.cell? ⟨C, 1, none⟩ = some (.int .i64 z1) ∧ W.cell? ⟨C, 2, none⟩ = some (.int .i64 z2) ∧ (∀ k : Nat, 3 ≤ k → k < 11 → W.cell? ⟨C, k, none⟩ = some (.int .i64 0)) ∧ ∀ i, W.frozen? ⟨C, i, none⟩ = false
theorem Ztx (R N : Nat) (n : Int) (w : World) (h : Qh w R N) (hN : N ≤ 700000) (_hn1 : 1 ≤ n) (hn : n ≤ 1000000) :
 Calls Tryz.prog 186 #[.pointer (some ⟨R, 0, none⟩), .int .i64 n] w (Ztq R (N + 60) w) := by
 have hRl := h.lt
 have HR := Za h
 clear h
 go_enter Tryz.func186, Tryz.ntmps186
 go_wp2_with fail
 refine Qe (fun l a W => (∃ vs, a = Zcp R w.heap.size n vs ∧ Zue (w.alloc (.cells #[.string ⟨#[]⟩, .int .i64 0, .int .i64 0, .int .i64 0, .int .i64 0, .int .i64 0, .int .i64 0, .int .i64 0, .int .i64 0, .int .i64 0, .int .i64 0] 105)) R N l vs W) ∨ ((∀ j, j < 15 → l.getD j true = true) ∧ Zwf (w.alloc (.cells #[.string ⟨#[]⟩, .int .i64 0, .int .i64 0, .int .i64 0, .int .i64 0, .int .i64 0, .int .i64 0, .int .i64 0, .int .i64 0, .int .i64 0, .int .i64 0] 105)) R N w.heap.size n a W)) (by kernel_rfl) ?top ?start ?step ?fin
 case top =>
  intro j o ho e he
  have hj : j < 15 := by
   have := (Array.getElem?_eq_some_iff.1 ho).1
   exact this
  have hA : (o.after.all fun e => decide (e.on < j)) = true := by
   obtain rfl|rfl|rfl|rfl|rfl|rfl|rfl|rfl|rfl|rfl|rfl|rfl|rfl|rfl|rfl : j = 0 ∨ j = 1 ∨ j = 2 ∨ j = 3 ∨ j = 4 ∨ j = 5 ∨ j = 6 ∨ j = 7 ∨ j = 8 ∨ j = 9 ∨ j = 10 ∨ j = 11 ∨ j = 12 ∨ j = 13 ∨ j = 14 := by omega
   all_goals
    simp only [List.getElem?_toArray, List.getElem?_cons_zero, List.getElem?_cons_succ, Option.some.injEq] at ho
    subst ho
    first | decide | kernel_rfl | simp
  simpa using Array.all_eq_true'.1 hA e he
 case start =>
  exact Or.inl ⟨fun _ => undef, rfl, ⟨by simp, by simp [Array.getD], ⟨N, HR.out.below (Zt (Zc (Zf w) _)), by omega⟩, Qd (Zt (Zf _)), fun j hj => by simp [Array.getD] at hj⟩⟩
 case step =>
  intro l a W i o ho hl hpre hsz hI K hK
  have hi : i < 15 := by
   have := (Array.getElem?_eq_some_iff.1 ho).1
   exact this
  have hl15 : l.size = 15 := hsz
  rcases hI with ⟨vs, rfl, hM⟩ | ⟨h14, _⟩
  ·
   obtain rfl|rfl|rfl|rfl|rfl|rfl|rfl|rfl|rfl|rfl|rfl|rfl|rfl|rfl|rfl : i = 0 ∨ i = 1 ∨ i = 2 ∨ i = 3 ∨ i = 4 ∨ i = 5 ∨ i = 6 ∨ i = 7 ∨ i = 8 ∨ i = 9 ∨ i = 10 ∨ i = 11 ∨ i = 12 ∨ i = 13 ∨ i = 14 := by omega
   · simp only [List.getElem?_toArray, List.getElem?_cons_zero, List.getElem?_cons_succ, Option.some.injEq] at ho
     subst ho
     unfold Zcp
     go_simp
     exact hK.out _ _ (Or.inl ⟨Zd vs 0 (.pointer (some ⟨R, 0, none⟩)), rfl, hM.next hl (by omega) (by decide) _ (Jk W _) (fun p h1 h2 => ⟨p, h1, by rw [Za7 hl (by omega)]; omega⟩) rfl⟩)
   ·
    simp only [List.getElem?_toArray, List.getElem?_cons_zero, List.getElem?_cons_succ, Option.some.injEq] at ho
    subst ho
    have v0 : vs 0 = .pointer (some ⟨R, 0, none⟩) := hM.held 0 (hpre ⟨0, .data⟩ (by simp) rfl)
    obtain ⟨p, hr, hp⟩ := hM.rdr
    have hpN : p ≤ N + 9 := by unfold cnt at hp; split at hp <;> split at hp <;> split at hp <;> omega
    unfold Zcp
    rw [v0]
    go_simp
    refine (Zsn R p _ hr (by omega)).mono ?_
    rintro e W1 ⟨s, rfl, hs, hR1, hg1⟩
    exact hK.out _ _ (Or.inl ⟨Zd vs 1 (.string s), by simp [Zcp, Zd, v0], hM.next hl (by omega) (by decide) _ hg1 (fun _ _ _ => ⟨p + 7, hR1, by rw [Za7 hl (by omega)]; simp; omega⟩) ⟨s, rfl, hs⟩⟩)
   ·
    simp only [List.getElem?_toArray, List.getElem?_cons_zero, List.getElem?_cons_succ, Option.some.injEq] at ho
    subst ho
    obtain ⟨p, hr, hp⟩ := hM.rdr
    have hRW := hr.lt
    unfold Zcp
    go_simp
    exact hK.out _ _ (Or.inl ⟨Zd vs 2 (.slice (some ⟨W.heap.size, 0, none⟩) 6 6), rfl, hM.next hl (by omega) (by decide) _ (World.grownBy_alloc W _ _) (fun p h1 h2 => ⟨p, h1.below (Zc (Zf W) _), by rw [Za7 hl (by omega)]; omega⟩) ⟨W.heap.size, rfl, Zvi W _, by omega, by simp⟩⟩)
   · simp only [List.getElem?_toArray, List.getElem?_cons_zero, List.getElem?_cons_succ, Option.some.injEq] at ho
     subst ho
     unfold Zcp
     go_simp
     exact hK.out _ _ (Or.inl ⟨Zd vs 3 (.pointer (some ⟨R, 0, none⟩)), rfl, hM.next hl (by omega) (by decide) _ (Jk W _) (fun p h1 h2 => ⟨p, h1, by rw [Za7 hl (by omega)]; omega⟩) rfl⟩)
   ·
    simp only [List.getElem?_toArray, List.getElem?_cons_zero, List.getElem?_cons_succ, Option.some.injEq] at ho
    subst ho
    have v0 : vs 3 = .pointer (some ⟨R, 0, none⟩) := hM.held 3 (hpre ⟨3, .data⟩ (by simp) rfl)
    obtain ⟨p, hr, hp⟩ := hM.rdr
    have hpN : p ≤ N + 9 := by unfold cnt at hp; split at hp <;> split at hp <;> split at hp <;> omega
    unfold Zcp
    rw [v0]
    go_simp
    refine (pick R p 6 _ hr (by omega) (by decide)).mono ?_
    rintro e W1 ⟨q, rfl, hq0, hq1, hR1, hg1⟩
    have hq6 := hq1 (by decide)
    obtain ⟨q, rfl⟩ := Int.eq_ofNat_of_zero_le hq0
    exact hK.out _ _ (Or.inl ⟨Zd vs 4 (.int .i64 q), by simp [Zcp, Zd, v0], hM.next hl (by omega) (by decide) _ hg1 (fun _ _ _ => ⟨p + 1, hR1, by rw [Za7 hl (by omega)]; simp; omega⟩) ⟨q, rfl, by omega⟩⟩)
   ·
    simp only [List.getElem?_toArray, List.getElem?_cons_zero, List.getElem?_cons_succ, Option.some.injEq] at ho
    subst ho
    obtain ⟨X, v2, hN2, hXR, hXl⟩ : ∃ X, vs 2 = .slice (some ⟨X, 0, none⟩) 6 6 ∧ Zha 5 W X 6 ∧ X ≠ R ∧ X < W.heap.size := hM.held 2 (hpre ⟨2, .data⟩ (by simp) rfl)
    obtain ⟨q, v4, hq⟩ : ∃ q : Nat, vs 4 = .int .i64 q ∧ q < 6 := hM.held 4 (hpre ⟨4, .data⟩ (by simp) rfl)
    obtain ⟨z, hz1, hz2, hz3⟩ := hN2 q hq
    have hqz : (q : Int) < 6 := by omega
    unfold Zcp
    rw [v2, v4]
    go_simp
    exact hK.out _ _ (Or.inl ⟨Zd vs 5 (.pointer (some ⟨X, q, none⟩)), by simp [Zcp, Zd, v2, v4], hM.next hl (by omega) (by decide) _ (Jk W _) (fun p h1 h2 => ⟨p, h1, by rw [Za7 hl (by omega)]; omega⟩) ⟨X, q, z, rfl, hz3, hz1, hz2, hXR, hXl⟩⟩)
   ·
    simp only [List.getElem?_toArray, List.getElem?_cons_zero, List.getElem?_cons_succ, Option.some.injEq] at ho
    subst ho
    obtain ⟨X, q, z, v5, hc, hz1, hz2, hXR, hXl⟩ : ∃ (X q : Nat) (z : Int), vs 5 = .pointer (some ⟨X, q, none⟩) ∧ W.cell? ⟨X, q, none⟩ = some (.int .i64 z) ∧ -1 ≤ z ∧ z ≤ 5 ∧ X ≠ R ∧ X < W.heap.size := hM.held 5 (hpre ⟨5, .data⟩ (by simp) rfl)
    unfold Zcp
    rw [v5]
    go_simp
    exact hK.out _ _ (Or.inl ⟨Zd vs 6 (.int .i64 z), by simp [Zcp, Zd, v5], hM.next hl (by omega) (by decide) _ (Jk W _) (fun p h1 h2 => ⟨p, h1, by rw [Za7 hl (by omega)]; omega⟩) ⟨z, rfl, hz1, hz2⟩⟩)
   ·
    simp only [List.getElem?_toArray, List.getElem?_cons_zero, List.getElem?_cons_succ, Option.some.injEq] at ho
    subst ho
    obtain ⟨p, hr, hp⟩ := hM.rdr
    have hRW := hr.lt
    unfold Zcp
    go_simp
    exact hK.out _ _ (Or.inl ⟨Zd vs 7 (.slice (some ⟨W.heap.size, 0, none⟩) 6 6), rfl, hM.next hl (by omega) (by decide) _ (World.grownBy_alloc W _ _) (fun p h1 h2 => ⟨p, h1.below (Zc (Zf W) _), by rw [Za7 hl (by omega)]; omega⟩) ⟨W.heap.size, rfl, Zvf W _, by omega, by simp⟩⟩)
   · simp only [List.getElem?_toArray, List.getElem?_cons_zero, List.getElem?_cons_succ, Option.some.injEq] at ho
     subst ho
     unfold Zcp
     go_simp
     exact hK.out _ _ (Or.inl ⟨Zd vs 8 (.pointer (some ⟨R, 0, none⟩)), rfl, hM.next hl (by omega) (by decide) _ (Jk W _) (fun p h1 h2 => ⟨p, h1, by rw [Za7 hl (by omega)]; omega⟩) rfl⟩)
   ·
    simp only [List.getElem?_toArray, List.getElem?_cons_zero, List.getElem?_cons_succ, Option.some.injEq] at ho
    subst ho
    have v0 : vs 8 = .pointer (some ⟨R, 0, none⟩) := hM.held 8 (hpre ⟨8, .data⟩ (by simp) rfl)
    obtain ⟨p, hr, hp⟩ := hM.rdr
    have hpN : p ≤ N + 9 := by unfold cnt at hp; split at hp <;> split at hp <;> split at hp <;> omega
    unfold Zcp
    rw [v0]
    go_simp
    refine (pick R p 6 _ hr (by omega) (by decide)).mono ?_
    rintro e W1 ⟨q, rfl, hq0, hq1, hR1, hg1⟩
    have hq6 := hq1 (by decide)
    obtain ⟨q, rfl⟩ := Int.eq_ofNat_of_zero_le hq0
    exact hK.out _ _ (Or.inl ⟨Zd vs 9 (.int .i64 q), by simp [Zcp, Zd, v0], hM.next hl (by omega) (by decide) _ hg1 (fun _ _ _ => ⟨p + 1, hR1, by rw [Za7 hl (by omega)]; simp; omega⟩) ⟨q, rfl, by omega⟩⟩)
   ·
    simp only [List.getElem?_toArray, List.getElem?_cons_zero, List.getElem?_cons_succ, Option.some.injEq] at ho
    subst ho
    obtain ⟨X, v2, hN2, hXR, hXl⟩ : ∃ X, vs 7 = .slice (some ⟨X, 0, none⟩) 6 6 ∧ Zha 3 W X 6 ∧ X ≠ R ∧ X < W.heap.size := hM.held 7 (hpre ⟨7, .data⟩ (by simp) rfl)
    obtain ⟨q, v4, hq⟩ : ∃ q : Nat, vs 9 = .int .i64 q ∧ q < 6 := hM.held 9 (hpre ⟨9, .data⟩ (by simp) rfl)
    obtain ⟨z, hz1, hz2, hz3⟩ := hN2 q hq
    have hqz : (q : Int) < 6 := by omega
    unfold Zcp
    rw [v2, v4]
    go_simp
    exact hK.out _ _ (Or.inl ⟨Zd vs 10 (.pointer (some ⟨X, q, none⟩)), by simp [Zcp, Zd, v2, v4], hM.next hl (by omega) (by decide) _ (Jk W _) (fun p h1 h2 => ⟨p, h1, by rw [Za7 hl (by omega)]; omega⟩) ⟨X, q, z, rfl, hz3, hz1, hz2, hXR, hXl⟩⟩)
   ·
    simp only [List.getElem?_toArray, List.getElem?_cons_zero, List.getElem?_cons_succ, Option.some.injEq] at ho
    subst ho
    obtain ⟨X, q, z, v5, hc, hz1, hz2, hXR, hXl⟩ : ∃ (X q : Nat) (z : Int), vs 10 = .pointer (some ⟨X, q, none⟩) ∧ W.cell? ⟨X, q, none⟩ = some (.int .i64 z) ∧ -1 ≤ z ∧ z ≤ 3 ∧ X ≠ R ∧ X < W.heap.size := hM.held 10 (hpre ⟨10, .data⟩ (by simp) rfl)
    unfold Zcp
    rw [v5]
    go_simp
    exact hK.out _ _ (Or.inl ⟨Zd vs 11 (.int .i64 z), by simp [Zcp, Zd, v5], hM.next hl (by omega) (by decide) _ (Jk W _) (fun p h1 h2 => ⟨p, h1, by rw [Za7 hl (by omega)]; omega⟩) ⟨z, rfl, hz1, hz2⟩⟩)
   ·
    simp only [List.getElem?_toArray, List.getElem?_cons_zero, List.getElem?_cons_succ, Option.some.injEq] at ho
    subst ho
    obtain ⟨tx, v1, hx⟩ : ∃ tx : ByteArray, vs 1 = .string tx ∧ tx.size ≤ 30 := hM.held 1 (hpre ⟨1, .data⟩ (by simp) rfl)
    obtain ⟨z1, v6, hz1, hz2⟩ : ∃ z : Int, vs 6 = .int .i64 z ∧ -1 ≤ z ∧ z ≤ 5 := hM.held 6 (hpre ⟨6, .data⟩ (by simp) rfl)
    obtain ⟨z2, v11, hz3, hz4⟩ : ∃ z : Int, vs 11 = .int .i64 z ∧ -1 ≤ z ∧ z ≤ 3 := hM.held 11 (hpre ⟨11, .data⟩ (by simp) rfl)
    unfold Zcp
    rw [v1, v6, v11]
    go_simp
    exact hK.out _ _ (Or.inl ⟨Zd vs 12 (.agg #[.string tx, .int .i64 z1, .int .i64 z2, .int .i64 0, .int .i64 0, .int .i64 0, .int .i64 0, .int .i64 0, .int .i64 0, .int .i64 0, .int .i64 0]), by simp [Zcp, Zd, v1, v6, v11], hM.next hl (by omega) (by decide) _ (Jk W _) (fun p h1 h2 => ⟨p, h1, by rw [Za7 hl (by omega)]; omega⟩) ⟨tx, z1, z2, rfl, hx, hz1, hz2, hz3, hz4⟩⟩)
   ·
    simp only [List.getElem?_toArray, List.getElem?_cons_zero, List.getElem?_cons_succ, Option.some.injEq] at ho
    subst ho
    obtain ⟨p, hr, hp⟩ := hM.rdr
    have hRW := hr.lt
    unfold Zcp
    go_simp
    exact hK.out _ _ (Or.inl ⟨Zd vs 13 (.pointer (some ⟨W.heap.size, 0, none⟩)), rfl, hM.next hl (by omega) (by decide) _ (World.grownBy_alloc W _ _) (fun p h1 h2 => ⟨p, h1.below (Zc (Zf W) _), by rw [Za7 hl (by omega)]; omega⟩) ⟨W.heap.size, rfl, Zvp W _, by omega, hM.grown.size, by simp⟩⟩)
   simp only [List.getElem?_toArray, List.getElem?_cons_zero, List.getElem?_cons_succ, Option.some.injEq] at ho
   subst ho
   obtain ⟨C, v13, hZ, hCR, hVC, hCW⟩ : ∃ C, vs 13 = .pointer (some ⟨C, 0, none⟩) ∧ Zpm W C ∧ C ≠ R ∧ _ ≤ C ∧ C < W.heap.size := hM.held 13 (hpre ⟨13, .data⟩ (by simp) rfl)
   obtain ⟨tx, z1, z2, v12, hx, hz1, hz2, hz3, hz4⟩ := (hM.held 12 (hpre ⟨12, .data⟩ (by simp) rfl) : ∃ (tx : ByteArray) (a b : Int), vs 12 = .agg #[.string tx, .int .i64 a, .int .i64 b, .int .i64 0, .int .i64 0, .int .i64 0, .int .i64 0, .int .i64 0, .int .i64 0, .int .i64 0, .int .i64 0] ∧ tx.size ≤ 30 ∧ -1 ≤ a ∧ a ≤ 5 ∧ -1 ≤ b ∧ b ≤ 3)
   obtain ⟨y0, yk, yf⟩ := hZ
   have y1 := yk 1 (by decide) (by decide)
   have y2 := yk 2 (by decide) (by decide)
   have y3 := yk 3 (by decide) (by decide)
   have y4 := yk 4 (by decide) (by decide)
   have y5 := yk 5 (by decide) (by decide)
   have y6 := yk 6 (by decide) (by decide)
   have y7 := yk 7 (by decide) (by decide)
   have y8 := yk 8 (by decide) (by decide)
   have y9 := yk 9 (by decide) (by decide)
   have y10 := yk 10 (by decide) (by decide)
   unfold Zcp
   rw [v13, v12]
   go_simp
   obtain ⟨p, hr, hp⟩ := hM.rdr
   have hpN : p ≤ N + 9 := by unfold cnt at hp; split at hp <;> split at hp <;> split at hp <;> omega
   have hRC : R < C := Nat.lt_of_lt_of_le (Nat.lt_of_lt_of_le hRl (by simp)) hVC
   have hQ := Zv4 W C (.string tx) (.int .i64 z1) (.int .i64 z2) (.int .i64 0) (.int .i64 0) (.int .i64 0) (.int .i64 0) (.int .i64 0) (.int .i64 0) (.int .i64 0) (.int .i64 0) _ _ _ _ _ _ _ _ _ _ _ y0 y1 y2 y3 y4 y5 y6 y7 y8 y9 y10
   refine hK.out _ _ (Or.inr ⟨fun j hj => ?_, vs, C, tx, z1, z2, by simp [Zcp, v13, v12], v13, (Js (Js (Js (Js (Js (Js (Js (Js (Js (Js (Js hr (by show R < C; omega) _) (by show R < C; omega) _) (by show R < C; omega) _) (by show R < C; omega) _) (by show R < C; omega) _) (by show R < C; omega) _) (by show R < C; omega) _) (by show R < C; omega) _) (by show R < C; omega) _) (by show R < C; omega) _) (by show R < C; omega) _).mono hpN, (Qs (Qs (Qs (Qs (Qs (Qs (Qs (Qs (Qs (Qs (Qs hM.grown (by show _ ≤ C; exact hVC) _) (by show _ ≤ C; exact hVC) _) (by show _ ≤ C; exact hVC) _) (by show _ ≤ C; exact hVC) _) (by show _ ≤ C; exact hVC) _) (by show _ ≤ C; exact hVC) _) (by show _ ≤ C; exact hVC) _) (by show _ ≤ C; exact hVC) _) (by show _ ≤ C; exact hVC) _) (by show _ ≤ C; exact hVC) _) (by show _ ≤ C; exact hVC) _), hVC, hCR, by simpa using hCW, hx, hz1, hz2, hz3, hz4, hQ.1, hQ.2.1, hQ.2.2.1, ?_, fun i => by simpa using yf i⟩)
   ·
    by_cases e : j = 14
    · subst e; simp [Array.getD, hl15]
    rw [getD_set_ne true (Ne.symm e), Qa (by omega) true false]
    obtain rfl|rfl|rfl|rfl|rfl|rfl|rfl|rfl|rfl|rfl|rfl|rfl|rfl|rfl : j = 0 ∨ j = 1 ∨ j = 2 ∨ j = 3 ∨ j = 4 ∨ j = 5 ∨ j = 6 ∨ j = 7 ∨ j = 8 ∨ j = 9 ∨ j = 10 ∨ j = 11 ∨ j = 12 ∨ j = 13 := by omega
    · exact hpre ⟨0, .phase⟩ (by simp) rfl
    · exact hpre ⟨1, .phase⟩ (by simp) rfl
    · exact hpre ⟨2, .phase⟩ (by simp) rfl
    · exact hpre ⟨3, .phase⟩ (by simp) rfl
    · exact hpre ⟨4, .phase⟩ (by simp) rfl
    · exact hpre ⟨5, .phase⟩ (by simp) rfl
    · exact hpre ⟨6, .phase⟩ (by simp) rfl
    · exact hpre ⟨7, .phase⟩ (by simp) rfl
    · exact hpre ⟨8, .phase⟩ (by simp) rfl
    · exact hpre ⟨9, .phase⟩ (by simp) rfl
    · exact hpre ⟨10, .phase⟩ (by simp) rfl
    · exact hpre ⟨11, .phase⟩ (by simp) rfl
    · exact hpre ⟨12, .phase⟩ (by simp) rfl
    exact hpre ⟨13, .phase⟩ (by simp) rfl
   intro k k1 k2
   obtain rfl|rfl|rfl|rfl|rfl|rfl|rfl|rfl : k = 3 ∨ k = 4 ∨ k = 5 ∨ k = 6 ∨ k = 7 ∨ k = 8 ∨ k = 9 ∨ k = 10 := by omega
   · exact hQ.2.2.2.1
   · exact hQ.2.2.2.2.1
   · exact hQ.2.2.2.2.2.1
   · exact hQ.2.2.2.2.2.2.1
   · exact hQ.2.2.2.2.2.2.2.1
   · exact hQ.2.2.2.2.2.2.2.2.1
   · exact hQ.2.2.2.2.2.2.2.2.2.1
   exact hQ.2.2.2.2.2.2.2.2.2.2
  rw [h14 i hi] at hl
  cases hl
 rintro l a W hall (⟨vs, rfl, hM⟩ | ⟨_, hE⟩)
 ·
  have h1 := hM.last
  have h2 := hall 14 (by decide)
  have h3 : 14 < l.size := by rw [hM.size]; decide
  rw [Qa h3 true false, h1] at h2
  cases h2
 obtain ⟨vs, C, tx, z1, z2, rfl, v13, hr, hg, hVC, hCR, hCW, hx, hz1, hz2, hz3, hz4, y0, y1, y2, yk, yf⟩ := hE
 unfold Zcp
 rw [v13]
 have HC0 := Za (Ztz w W R (N + 9) C tx z1 z2 105 hr hRl hg hVC hCW y0 y1 y2 yk yf)
 have HX := Za (And.intro hx (And.intro hz1 (And.intro hz2 (And.intro hz3 hz4))))
 clear hr hg y0 y1 y2 yk yf hVC hCW hx hz1 hz2 hz3 hz4
 go_wp2_with fail
 refine (Zlq R _ 999 _ HC0.out.rdr (by omega) (by decide) (by decide)).mono ?_
 rintro e W1 ⟨s1, u1, rfl, b11, b12, b13, b14, hR1, hg1⟩
 have HB1 := Za (And.intro b11 (And.intro b12 (And.intro b13 b14)))
 have HC1 := Za (HC0.out.pick hR1 hg1)
 clear hR1 hg1 b11 b12 b13 b14
 have c3 := HC1.out.blk.1 3 _ rfl
 have c4 := HC1.out.blk.1 4 _ rfl
 have cf := HC1.out.blk.2
 have HD1 := Za (((HC1.out.set 3 (by decide) (.int .i64 s1)).set 4 (by decide) (.int .i64 u1)).cast [.string tx, .int .i64 z1, .int .i64 z2, .int .i64 s1, .int .i64 u1, .int .i64 0, .int .i64 0, .int .i64 0, .int .i64 0, .int .i64 0, .int .i64 0] rfl)
 go_wp2_with fail
 refine (Zlq R _ 999 _ HD1.out.rdr (by omega) (by decide) (by decide)).mono ?_
 rintro e W2 ⟨s2, u2, rfl, b21, b22, b23, b24, hR2, hg2⟩
 have HB2 := Za (And.intro b21 (And.intro b22 (And.intro b23 b24)))
 have HC2 := Za (HD1.out.pick hR2 hg2)
 clear hR2 hg2 b21 b22 b23 b24
 clear c3 c4 cf
 have c5 := HC2.out.blk.1 5 _ rfl
 have c6 := HC2.out.blk.1 6 _ rfl
 have cf := HC2.out.blk.2
 have HD2 := Za (((HC2.out.set 5 (by decide) (.int .i64 s2)).set 6 (by decide) (.int .i64 u2)).cast [.string tx, .int .i64 z1, .int .i64 z2, .int .i64 s1, .int .i64 u1, .int .i64 s2, .int .i64 u2, .int .i64 0, .int .i64 0, .int .i64 0, .int .i64 0] rfl)
 go_wp2_with fail
 refine (Zlq R _ 999 _ HD2.out.rdr (by omega) (by decide) (by decide)).mono ?_
 rintro e W3 ⟨s3, u3, rfl, b31, b32, b33, b34, hR3, hg3⟩
 have HB3 := Za (And.intro b31 (And.intro b32 (And.intro b33 b34)))
 have HC3 := Za (HD2.out.pick hR3 hg3)
 clear hR3 hg3 b31 b32 b33 b34
 clear c5 c6 cf
 have c7 := HC3.out.blk.1 7 _ rfl
 have c8 := HC3.out.blk.1 8 _ rfl
 have cf := HC3.out.blk.2
 have HD3 := Za (((HC3.out.set 7 (by decide) (.int .i64 s3)).set 8 (by decide) (.int .i64 u3)).cast [.string tx, .int .i64 z1, .int .i64 z2, .int .i64 s1, .int .i64 u1, .int .i64 s2, .int .i64 u2, .int .i64 s3, .int .i64 u3, .int .i64 0, .int .i64 0] rfl)
 go_wp2_with fail
 refine (Zlq R _ 999 _ HD3.out.rdr (by omega) (by decide) (by decide)).mono ?_
 rintro e W4 ⟨s4, u4, rfl, b41, b42, b43, b44, hR4, hg4⟩
 have HB4 := Za (And.intro b41 (And.intro b42 (And.intro b43 b44)))
 have HC4 := Za (HD3.out.pick hR4 hg4)
 clear hR4 hg4 b41 b42 b43 b44
 clear c7 c8 cf
 have HD4 := Za (((HC4.out.set 9 (by decide) (.int .i64 s4)).set 10 (by decide) (.int .i64 u4)).cast [.string tx, .int .i64 z1, .int .i64 z2, .int .i64 s1, .int .i64 u1, .int .i64 s2, .int .i64 u2, .int .i64 s3, .int .i64 u3, .int .i64 s4, .int .i64 u4] rfl)
 have c0 := HC4.out.blk.1 0 _ rfl
 have c1 := HC4.out.blk.1 1 _ rfl
 have c2 := HC4.out.blk.1 2 _ rfl
 have c3 := HC4.out.blk.1 3 _ rfl
 have c4 := HC4.out.blk.1 4 _ rfl
 have c5 := HC4.out.blk.1 5 _ rfl
 have c6 := HC4.out.blk.1 6 _ rfl
 have c7 := HC4.out.blk.1 7 _ rfl
 have c8 := HC4.out.blk.1 8 _ rfl
 have c9 := HC4.out.blk.1 9 _ rfl
 have c10 := HC4.out.blk.1 10 _ rfl
 have cf := HC4.out.blk.2
 obtain ⟨A, n0, c, p, hp, q1, q2, q3, r0, _⟩ := HC4.out.rdr
 obtain ⟨g1, g2, g3, g4⟩ := HC4.out.pos
 have hCR1 : ¬ C = R := by omega
 have hCR2 : ¬ R = C := by omega
 clear hp
 rcases Nat.eq_zero_or_pos n0 with rfl | hn0
 ·
  have e0 : (((0 : Nat) : Int) == 0) = true := rfl
  go_wp2_with fail
  have HE := Za (HD4.out.setAll (.string ⟨#[]⟩) (.int .i64 1) (.int .i64 1) (.int .i64 0) (.int .i64 0) (.int .i64 0) (.int .i64 0) (.int .i64 0) (.int .i64 0) (.int .i64 0) (.int .i64 0))
  refine (pick R _ n _ HE.out.rdr (by omega) (by omega)).mono ?_
  rintro e W5 ⟨k5, rfl, hk50, hk51, hR5, hg5⟩
  have HC5 := Za (HE.out.pick hR5 hg5)
  clear hR5 hg5 hk51 c0 c1 c2 c3 c4 c5 c6 c7 c8 c9 c10 cf r0
  have c0 := HC5.out.blk.1 0 _ rfl
  have c1 := HC5.out.blk.1 1 _ rfl
  have c2 := HC5.out.blk.1 2 _ rfl
  have c3 := HC5.out.blk.1 3 _ rfl
  have c4 := HC5.out.blk.1 4 _ rfl
  have c5 := HC5.out.blk.1 5 _ rfl
  have c6 := HC5.out.blk.1 6 _ rfl
  have c7 := HC5.out.blk.1 7 _ rfl
  have c8 := HC5.out.blk.1 8 _ rfl
  have c9 := HC5.out.blk.1 9 _ rfl
  have c10 := HC5.out.blk.1 10 _ rfl
  have cf := HC5.out.blk.2
  by_cases z5 : k5 = 0
  ·
   subst z5
   go_wp2_with fail
   refine (pick R _ 4 _ HC5.out.rdr (by omega) (by decide)).mono ?_
   rintro e W6 ⟨k6, rfl, hk60, hk61, hR6, hg6⟩
   have hl6 := hk61 (by decide)
   have HC6 := Za (HC5.out.pick hR6 hg6)
   clear hR6 hg6 hk61 c0 c1 c2 c3 c4 c5 c6 c7 c8 c9 c10 cf
   have hk4 : k6 = 0 ∨ k6 = 1 ∨ k6 = 2 ∨ k6 = 3 := by omega
   rcases hk4 with rfl|rfl|rfl|rfl
   ·
    go_wp2_with fail
    refine (Zl2 R _ 1 _ HC6.out.rdr (by omega) (by decide) (by decide)).mono ?_
    rintro e W7 ⟨t7, rfl, ht7, hR7, hg7⟩
    have HT := Za ht7
    have HC7 := Za (HC6.out.pick hR7 hg7)
    clear hR7 hg7 ht7
    have c0 := HC7.out.blk.1 0 _ rfl
    have c1 := HC7.out.blk.1 1 _ rfl
    have c2 := HC7.out.blk.1 2 _ rfl
    have c3 := HC7.out.blk.1 3 _ rfl
    have c4 := HC7.out.blk.1 4 _ rfl
    have c5 := HC7.out.blk.1 5 _ rfl
    have c6 := HC7.out.blk.1 6 _ rfl
    have c7 := HC7.out.blk.1 7 _ rfl
    have c8 := HC7.out.blk.1 8 _ rfl
    have c9 := HC7.out.blk.1 9 _ rfl
    have c10 := HC7.out.blk.1 10 _ rfl
    have cf := HC7.out.blk.2
    have h0 := HC7.out.res.1 0 _ rfl
    have h1 := HC7.out.res.1 1 _ rfl
    have h2 := HC7.out.res.1 2 _ rfl
    have h3 := HC7.out.res.1 3 _ rfl
    have h4 := HC7.out.res.1 4 _ rfl
    have h5 := HC7.out.res.1 5 _ rfl
    have h6 := HC7.out.res.1 6 _ rfl
    have h7 := HC7.out.res.1 7 _ rfl
    have h8 := HC7.out.res.1 8 _ rfl
    have h9 := HC7.out.res.1 9 _ rfl
    have h10 := HC7.out.res.1 10 _ rfl
    have hf := HC7.out.res.2
    have HD7 := Za ((HC7.out.set 0 (by decide) (.string t7)).cast [.string t7, .int .i64 1, .int .i64 1, .int .i64 0, .int .i64 0, .int .i64 0, .int .i64 0, .int .i64 0, .int .i64 0, .int .i64 0, .int .i64 0] rfl)
    go_wp2_with fail
    exact bodyPost_ret (v := .agg (Qv (⟨t7, 1, 1, ⟨0, 0⟩, ⟨0, 0⟩, ⟨0, 0⟩, ⟨0, 0⟩⟩ : Qi)).toArray) (by simp [results, Tryz.results186, go_sem, Qv, *]) rfl ⟨(⟨t7, 1, 1, ⟨0, 0⟩, ⟨0, 0⟩, ⟨0, 0⟩, ⟨0, 0⟩⟩ : Qi), rfl, Zeh HT.out Zq1 Zq8 Ze0 Ze0 Ze0 Ze0, (Ze (Ze (Ze (Ze (Ze (Ze (Ze (Ze (Ze (Ze (HD7.out.put 0 _) hRl (Nat.le_refl _) 1 _) hRl (Nat.le_refl _) 2 _) hRl (Nat.le_refl _) 3 _) hRl (Nat.le_refl _) 4 _) hRl (Nat.le_refl _) 5 _) hRl (Nat.le_refl _) 6 _) hRl (Nat.le_refl _) 7 _) hRl (Nat.le_refl _) 8 _) hRl (Nat.le_refl _) 9 _) hRl (Nat.le_refl _) 10 _).1.mono (by omega), (Ze (Ze (Ze (Ze (Ze (Ze (Ze (Ze (Ze (Ze (HD7.out.put 0 _) hRl (Nat.le_refl _) 1 _) hRl (Nat.le_refl _) 2 _) hRl (Nat.le_refl _) 3 _) hRl (Nat.le_refl _) 4 _) hRl (Nat.le_refl _) 5 _) hRl (Nat.le_refl _) 6 _) hRl (Nat.le_refl _) 7 _) hRl (Nat.le_refl _) 8 _) hRl (Nat.le_refl _) 9 _) hRl (Nat.le_refl _) 10 _).2⟩
   ·
    have HN := Za (Zm3 W6 3)
    go_wp2_with fail
    refine (pick R _ 3 _ (HC6.out.alloc _).rdr (by omega) (by decide)).mono ?_
    rintro e W7 ⟨k7, rfl, hk70, hk71, hR7, hg7⟩
    have hl7 := hk71 (by decide)
    have HC7 := Za ((HC6.out.alloc _).pick hR7 hg7)
    have HM := Za (HN.out.grow (by have := HC6.out.pos; omega) (by simp) hg7)
    clear hR7 hg7 hk71
    obtain ⟨i7, rfl⟩ := Int.eq_ofNat_of_zero_le hk70
    obtain ⟨z, hz, hz3⟩ := HM.out i7 (by omega)
    have HZ := Za hz
    clear hz
    have c0 := HC7.out.blk.1 0 _ rfl
    have c1 := HC7.out.blk.1 1 _ rfl
    have c2 := HC7.out.blk.1 2 _ rfl
    have c3 := HC7.out.blk.1 3 _ rfl
    have c4 := HC7.out.blk.1 4 _ rfl
    have c5 := HC7.out.blk.1 5 _ rfl
    have c6 := HC7.out.blk.1 6 _ rfl
    have c7 := HC7.out.blk.1 7 _ rfl
    have c8 := HC7.out.blk.1 8 _ rfl
    have c9 := HC7.out.blk.1 9 _ rfl
    have c10 := HC7.out.blk.1 10 _ rfl
    have cf := HC7.out.blk.2
    have h0 := HC7.out.res.1 0 _ rfl
    have h1 := HC7.out.res.1 1 _ rfl
    have h2 := HC7.out.res.1 2 _ rfl
    have h3 := HC7.out.res.1 3 _ rfl
    have h4 := HC7.out.res.1 4 _ rfl
    have h5 := HC7.out.res.1 5 _ rfl
    have h6 := HC7.out.res.1 6 _ rfl
    have h7 := HC7.out.res.1 7 _ rfl
    have h8 := HC7.out.res.1 8 _ rfl
    have h9 := HC7.out.res.1 9 _ rfl
    have h10 := HC7.out.res.1 10 _ rfl
    have hf := HC7.out.res.2
    have HD7 := Za ((HC7.out.set 1 (by decide) (.int .i64 z)).cast [.string ⟨#[]⟩, .int .i64 z, .int .i64 1, .int .i64 0, .int .i64 0, .int .i64 0, .int .i64 0, .int .i64 0, .int .i64 0, .int .i64 0, .int .i64 0] rfl)
    go_wp2_with fail
    exact bodyPost_ret (v := .agg (Qv (⟨⟨#[]⟩, z, 1, ⟨0, 0⟩, ⟨0, 0⟩, ⟨0, 0⟩, ⟨0, 0⟩⟩ : Qi)).toArray) (by simp [results, Tryz.results186, go_sem, Qv, *]) rfl ⟨(⟨⟨#[]⟩, z, 1, ⟨0, 0⟩, ⟨0, 0⟩, ⟨0, 0⟩, ⟨0, 0⟩⟩ : Qi), rfl, Zeh (by decide : (⟨#[]⟩ : ByteArray).size ≤ 100) (Zu6 HZ.out) Zq8 Ze0 Ze0 Ze0 Ze0, (Ze (Ze (Ze (Ze (Ze (Ze (Ze (Ze (Ze (Ze (HD7.out.put 0 _) hRl (Nat.le_refl _) 1 _) hRl (Nat.le_refl _) 2 _) hRl (Nat.le_refl _) 3 _) hRl (Nat.le_refl _) 4 _) hRl (Nat.le_refl _) 5 _) hRl (Nat.le_refl _) 6 _) hRl (Nat.le_refl _) 7 _) hRl (Nat.le_refl _) 8 _) hRl (Nat.le_refl _) 9 _) hRl (Nat.le_refl _) 10 _).1.mono (by omega), (Ze (Ze (Ze (Ze (Ze (Ze (Ze (Ze (Ze (Ze (HD7.out.put 0 _) hRl (Nat.le_refl _) 1 _) hRl (Nat.le_refl _) 2 _) hRl (Nat.le_refl _) 3 _) hRl (Nat.le_refl _) 4 _) hRl (Nat.le_refl _) 5 _) hRl (Nat.le_refl _) 6 _) hRl (Nat.le_refl _) 7 _) hRl (Nat.le_refl _) 8 _) hRl (Nat.le_refl _) 9 _) hRl (Nat.le_refl _) 10 _).2⟩
   ·
    have HN := Za (Zm3 W6 3)
    go_wp2_with fail
    refine (pick R _ 3 _ (HC6.out.alloc _).rdr (by omega) (by decide)).mono ?_
    rintro e W7 ⟨k7, rfl, hk70, hk71, hR7, hg7⟩
    have hl7 := hk71 (by decide)
    have HC7 := Za ((HC6.out.alloc _).pick hR7 hg7)
    have HM := Za (HN.out.grow (by have := HC6.out.pos; omega) (by simp) hg7)
    clear hR7 hg7 hk71
    obtain ⟨i7, rfl⟩ := Int.eq_ofNat_of_zero_le hk70
    obtain ⟨z, hz, hz3⟩ := HM.out i7 (by omega)
    have HZ := Za hz
    clear hz
    have c0 := HC7.out.blk.1 0 _ rfl
    have c1 := HC7.out.blk.1 1 _ rfl
    have c2 := HC7.out.blk.1 2 _ rfl
    have c3 := HC7.out.blk.1 3 _ rfl
    have c4 := HC7.out.blk.1 4 _ rfl
    have c5 := HC7.out.blk.1 5 _ rfl
    have c6 := HC7.out.blk.1 6 _ rfl
    have c7 := HC7.out.blk.1 7 _ rfl
    have c8 := HC7.out.blk.1 8 _ rfl
    have c9 := HC7.out.blk.1 9 _ rfl
    have c10 := HC7.out.blk.1 10 _ rfl
    have cf := HC7.out.blk.2
    have h0 := HC7.out.res.1 0 _ rfl
    have h1 := HC7.out.res.1 1 _ rfl
    have h2 := HC7.out.res.1 2 _ rfl
    have h3 := HC7.out.res.1 3 _ rfl
    have h4 := HC7.out.res.1 4 _ rfl
    have h5 := HC7.out.res.1 5 _ rfl
    have h6 := HC7.out.res.1 6 _ rfl
    have h7 := HC7.out.res.1 7 _ rfl
    have h8 := HC7.out.res.1 8 _ rfl
    have h9 := HC7.out.res.1 9 _ rfl
    have h10 := HC7.out.res.1 10 _ rfl
    have hf := HC7.out.res.2
    have HD7 := Za ((HC7.out.set 2 (by decide) (.int .i64 z)).cast [.string ⟨#[]⟩, .int .i64 1, .int .i64 z, .int .i64 0, .int .i64 0, .int .i64 0, .int .i64 0, .int .i64 0, .int .i64 0, .int .i64 0, .int .i64 0] rfl)
    go_wp2_with fail
    exact bodyPost_ret (v := .agg (Qv (⟨⟨#[]⟩, 1, z, ⟨0, 0⟩, ⟨0, 0⟩, ⟨0, 0⟩, ⟨0, 0⟩⟩ : Qi)).toArray) (by simp [results, Tryz.results186, go_sem, Qv, *]) rfl ⟨(⟨⟨#[]⟩, 1, z, ⟨0, 0⟩, ⟨0, 0⟩, ⟨0, 0⟩, ⟨0, 0⟩⟩ : Qi), rfl, Zeh (by decide : (⟨#[]⟩ : ByteArray).size ≤ 100) Zq1 (Zu7 HZ.out) Ze0 Ze0 Ze0 Ze0, (Ze (Ze (Ze (Ze (Ze (Ze (Ze (Ze (Ze (Ze (HD7.out.put 0 _) hRl (Nat.le_refl _) 1 _) hRl (Nat.le_refl _) 2 _) hRl (Nat.le_refl _) 3 _) hRl (Nat.le_refl _) 4 _) hRl (Nat.le_refl _) 5 _) hRl (Nat.le_refl _) 6 _) hRl (Nat.le_refl _) 7 _) hRl (Nat.le_refl _) 8 _) hRl (Nat.le_refl _) 9 _) hRl (Nat.le_refl _) 10 _).1.mono (by omega), (Ze (Ze (Ze (Ze (Ze (Ze (Ze (Ze (Ze (Ze (HD7.out.put 0 _) hRl (Nat.le_refl _) 1 _) hRl (Nat.le_refl _) 2 _) hRl (Nat.le_refl _) 3 _) hRl (Nat.le_refl _) 4 _) hRl (Nat.le_refl _) 5 _) hRl (Nat.le_refl _) 6 _) hRl (Nat.le_refl _) 7 _) hRl (Nat.le_refl _) 8 _) hRl (Nat.le_refl _) 9 _) hRl (Nat.le_refl _) 10 _).2⟩
   go_wp2_with fail
   refine (Zlq R _ 1 _ HC6.out.rdr (by omega) (by decide) (by decide)).mono ?_
   rintro e W7 ⟨s7, u7, rfl, b71, b72, b73, b74, hR7, hg7⟩
   have HB7 := Za (And.intro b71 (And.intro b72 (And.intro b73 b74)))
   have HC7 := Za (HC6.out.pick hR7 hg7)
   clear hR7 hg7 b71 b72 b73 b74
   have c0 := HC7.out.blk.1 0 _ rfl
   have c1 := HC7.out.blk.1 1 _ rfl
   have c2 := HC7.out.blk.1 2 _ rfl
   have c3 := HC7.out.blk.1 3 _ rfl
   have c4 := HC7.out.blk.1 4 _ rfl
   have c5 := HC7.out.blk.1 5 _ rfl
   have c6 := HC7.out.blk.1 6 _ rfl
   have c7 := HC7.out.blk.1 7 _ rfl
   have c8 := HC7.out.blk.1 8 _ rfl
   have c9 := HC7.out.blk.1 9 _ rfl
   have c10 := HC7.out.blk.1 10 _ rfl
   have cf := HC7.out.blk.2
   have h0 := HC7.out.res.1 0 _ rfl
   have h1 := HC7.out.res.1 1 _ rfl
   have h2 := HC7.out.res.1 2 _ rfl
   have h3 := HC7.out.res.1 3 _ rfl
   have h4 := HC7.out.res.1 4 _ rfl
   have h5 := HC7.out.res.1 5 _ rfl
   have h6 := HC7.out.res.1 6 _ rfl
   have h7 := HC7.out.res.1 7 _ rfl
   have h8 := HC7.out.res.1 8 _ rfl
   have h9 := HC7.out.res.1 9 _ rfl
   have h10 := HC7.out.res.1 10 _ rfl
   have hf := HC7.out.res.2
   have HD7 := Za (((HC7.out.set 9 (by decide) (.int .i64 s7)).set 10 (by decide) (.int .i64 u7)).cast [.string ⟨#[]⟩, .int .i64 1, .int .i64 1, .int .i64 0, .int .i64 0, .int .i64 0, .int .i64 0, .int .i64 0, .int .i64 0, .int .i64 s7, .int .i64 u7] rfl)
   go_wp2_with fail
   exact bodyPost_ret (v := .agg (Qv (⟨⟨#[]⟩, 1, 1, ⟨0, 0⟩, ⟨0, 0⟩, ⟨0, 0⟩, ⟨s7, u7⟩⟩ : Qi)).toArray) (by simp [results, Tryz.results186, go_sem, Qv, *]) rfl ⟨(⟨⟨#[]⟩, 1, 1, ⟨0, 0⟩, ⟨0, 0⟩, ⟨0, 0⟩, ⟨s7, u7⟩⟩ : Qi), rfl, Zeh (by decide : (⟨#[]⟩ : ByteArray).size ≤ 100) Zq1 Zq8 Ze0 Ze0 Ze0 HB7.out, (Ze (Ze (Ze (Ze (Ze (Ze (Ze (Ze (Ze (Ze (HD7.out.put 0 _) hRl (Nat.le_refl _) 1 _) hRl (Nat.le_refl _) 2 _) hRl (Nat.le_refl _) 3 _) hRl (Nat.le_refl _) 4 _) hRl (Nat.le_refl _) 5 _) hRl (Nat.le_refl _) 6 _) hRl (Nat.le_refl _) 7 _) hRl (Nat.le_refl _) 8 _) hRl (Nat.le_refl _) 9 _) hRl (Nat.le_refl _) 10 _).1.mono (by omega), (Ze (Ze (Ze (Ze (Ze (Ze (Ze (Ze (Ze (Ze (HD7.out.put 0 _) hRl (Nat.le_refl _) 1 _) hRl (Nat.le_refl _) 2 _) hRl (Nat.le_refl _) 3 _) hRl (Nat.le_refl _) 4 _) hRl (Nat.le_refl _) 5 _) hRl (Nat.le_refl _) 6 _) hRl (Nat.le_refl _) 7 _) hRl (Nat.le_refl _) 8 _) hRl (Nat.le_refl _) 9 _) hRl (Nat.le_refl _) 10 _).2⟩
  have hgt : 0 < k5 := by omega
  have h0 := HC5.out.res.1 0 _ rfl
  have h1 := HC5.out.res.1 1 _ rfl
  have h2 := HC5.out.res.1 2 _ rfl
  have h3 := HC5.out.res.1 3 _ rfl
  have h4 := HC5.out.res.1 4 _ rfl
  have h5 := HC5.out.res.1 5 _ rfl
  have h6 := HC5.out.res.1 6 _ rfl
  have h7 := HC5.out.res.1 7 _ rfl
  have h8 := HC5.out.res.1 8 _ rfl
  have h9 := HC5.out.res.1 9 _ rfl
  have h10 := HC5.out.res.1 10 _ rfl
  have hf := HC5.out.res.2
  go_wp2_with fail
  exact bodyPost_ret (v := .agg (Qv (⟨⟨#[]⟩, 1, 1, ⟨0, 0⟩, ⟨0, 0⟩, ⟨0, 0⟩, ⟨0, 0⟩⟩ : Qi)).toArray) (by simp [results, Tryz.results186, go_sem, Qv, *]) rfl ⟨(⟨⟨#[]⟩, 1, 1, ⟨0, 0⟩, ⟨0, 0⟩, ⟨0, 0⟩, ⟨0, 0⟩⟩ : Qi), rfl, Zeh (by decide : (⟨#[]⟩ : ByteArray).size ≤ 100) Zq1 Zq8 Ze0 Ze0 Ze0 Ze0, (Ze (Ze (Ze (Ze (Ze (Ze (Ze (Ze (Ze (Ze (HC5.out.put 0 _) hRl (Nat.le_refl _) 1 _) hRl (Nat.le_refl _) 2 _) hRl (Nat.le_refl _) 3 _) hRl (Nat.le_refl _) 4 _) hRl (Nat.le_refl _) 5 _) hRl (Nat.le_refl _) 6 _) hRl (Nat.le_refl _) 7 _) hRl (Nat.le_refl _) 8 _) hRl (Nat.le_refl _) 9 _) hRl (Nat.le_refl _) 10 _).1.mono (by omega), (Ze (Ze (Ze (Ze (Ze (Ze (Ze (Ze (Ze (Ze (HC5.out.put 0 _) hRl (Nat.le_refl _) 1 _) hRl (Nat.le_refl _) 2 _) hRl (Nat.le_refl _) 3 _) hRl (Nat.le_refl _) 4 _) hRl (Nat.le_refl _) 5 _) hRl (Nat.le_refl _) 6 _) hRl (Nat.le_refl _) 7 _) hRl (Nat.le_refl _) 8 _) hRl (Nat.le_refl _) 9 _) hRl (Nat.le_refl _) 10 _).2⟩
 have e0 : ((n0 : Int) == 0) = false := by simp; omega
 go_wp2_with fail
 refine (pick R _ n _ HD4.out.rdr (by omega) (by omega)).mono ?_
 rintro e W5 ⟨k5, rfl, hk50, hk51, hR5, hg5⟩
 have HC5 := Za (HD4.out.pick hR5 hg5)
 clear hR5 hg5 hk51 c0 c1 c2 c3 c4 c5 c6 c7 c8 c9 c10 cf r0
 have c0 := HC5.out.blk.1 0 _ rfl
 have c1 := HC5.out.blk.1 1 _ rfl
 have c2 := HC5.out.blk.1 2 _ rfl
 have c3 := HC5.out.blk.1 3 _ rfl
 have c4 := HC5.out.blk.1 4 _ rfl
 have c5 := HC5.out.blk.1 5 _ rfl
 have c6 := HC5.out.blk.1 6 _ rfl
 have c7 := HC5.out.blk.1 7 _ rfl
 have c8 := HC5.out.blk.1 8 _ rfl
 have c9 := HC5.out.blk.1 9 _ rfl
 have c10 := HC5.out.blk.1 10 _ rfl
 have cf := HC5.out.blk.2
 by_cases z5 : k5 = 0
 ·
  subst z5
  go_wp2_with fail
  refine (pick R _ 4 _ HC5.out.rdr (by omega) (by decide)).mono ?_
  rintro e W6 ⟨k6, rfl, hk60, hk61, hR6, hg6⟩
  have hl6 := hk61 (by decide)
  have HC6 := Za (HC5.out.pick hR6 hg6)
  clear hR6 hg6 hk61 c0 c1 c2 c3 c4 c5 c6 c7 c8 c9 c10 cf
  have hk4 : k6 = 0 ∨ k6 = 1 ∨ k6 = 2 ∨ k6 = 3 := by omega
  rcases hk4 with rfl|rfl|rfl|rfl
  ·
   go_wp2_with fail
   refine (Zl2 R _ 1 _ HC6.out.rdr (by omega) (by decide) (by decide)).mono ?_
   rintro e W7 ⟨t7, rfl, ht7, hR7, hg7⟩
   have HT := Za ht7
   have HC7 := Za (HC6.out.pick hR7 hg7)
   clear hR7 hg7 ht7
   have c0 := HC7.out.blk.1 0 _ rfl
   have c1 := HC7.out.blk.1 1 _ rfl
   have c2 := HC7.out.blk.1 2 _ rfl
   have c3 := HC7.out.blk.1 3 _ rfl
   have c4 := HC7.out.blk.1 4 _ rfl
   have c5 := HC7.out.blk.1 5 _ rfl
   have c6 := HC7.out.blk.1 6 _ rfl
   have c7 := HC7.out.blk.1 7 _ rfl
   have c8 := HC7.out.blk.1 8 _ rfl
   have c9 := HC7.out.blk.1 9 _ rfl
   have c10 := HC7.out.blk.1 10 _ rfl
   have cf := HC7.out.blk.2
   have h0 := HC7.out.res.1 0 _ rfl
   have h1 := HC7.out.res.1 1 _ rfl
   have h2 := HC7.out.res.1 2 _ rfl
   have h3 := HC7.out.res.1 3 _ rfl
   have h4 := HC7.out.res.1 4 _ rfl
   have h5 := HC7.out.res.1 5 _ rfl
   have h6 := HC7.out.res.1 6 _ rfl
   have h7 := HC7.out.res.1 7 _ rfl
   have h8 := HC7.out.res.1 8 _ rfl
   have h9 := HC7.out.res.1 9 _ rfl
   have h10 := HC7.out.res.1 10 _ rfl
   have hf := HC7.out.res.2
   have HD7 := Za ((HC7.out.set 0 (by decide) (.string t7)).cast [.string t7, .int .i64 z1, .int .i64 z2, .int .i64 s1, .int .i64 u1, .int .i64 s2, .int .i64 u2, .int .i64 s3, .int .i64 u3, .int .i64 s4, .int .i64 u4] rfl)
   go_wp2_with fail
   exact bodyPost_ret (v := .agg (Qv (⟨t7, z1, z2, ⟨s1, u1⟩, ⟨s2, u2⟩, ⟨s3, u3⟩, ⟨s4, u4⟩⟩ : Qi)).toArray) (by simp [results, Tryz.results186, go_sem, Qv, *]) rfl ⟨(⟨t7, z1, z2, ⟨s1, u1⟩, ⟨s2, u2⟩, ⟨s3, u3⟩, ⟨s4, u4⟩⟩ : Qi), rfl, Zeh HT.out (Zt7 HX.out.2.1 HX.out.2.2.1) (Zuv HX.out.2.2.2.1 HX.out.2.2.2.2) HB1.out HB2.out HB3.out HB4.out, (Ze (Ze (Ze (Ze (Ze (Ze (Ze (Ze (Ze (Ze (HD7.out.put 0 _) hRl (Nat.le_refl _) 1 _) hRl (Nat.le_refl _) 2 _) hRl (Nat.le_refl _) 3 _) hRl (Nat.le_refl _) 4 _) hRl (Nat.le_refl _) 5 _) hRl (Nat.le_refl _) 6 _) hRl (Nat.le_refl _) 7 _) hRl (Nat.le_refl _) 8 _) hRl (Nat.le_refl _) 9 _) hRl (Nat.le_refl _) 10 _).1.mono (by omega), (Ze (Ze (Ze (Ze (Ze (Ze (Ze (Ze (Ze (Ze (HD7.out.put 0 _) hRl (Nat.le_refl _) 1 _) hRl (Nat.le_refl _) 2 _) hRl (Nat.le_refl _) 3 _) hRl (Nat.le_refl _) 4 _) hRl (Nat.le_refl _) 5 _) hRl (Nat.le_refl _) 6 _) hRl (Nat.le_refl _) 7 _) hRl (Nat.le_refl _) 8 _) hRl (Nat.le_refl _) 9 _) hRl (Nat.le_refl _) 10 _).2⟩
  ·
   have HN := Za (Zm3 W6 3)
   go_wp2_with fail
   refine (pick R _ 3 _ (HC6.out.alloc _).rdr (by omega) (by decide)).mono ?_
   rintro e W7 ⟨k7, rfl, hk70, hk71, hR7, hg7⟩
   have hl7 := hk71 (by decide)
   have HC7 := Za ((HC6.out.alloc _).pick hR7 hg7)
   have HM := Za (HN.out.grow (by have := HC6.out.pos; omega) (by simp) hg7)
   clear hR7 hg7 hk71
   obtain ⟨i7, rfl⟩ := Int.eq_ofNat_of_zero_le hk70
   obtain ⟨z, hz, hz3⟩ := HM.out i7 (by omega)
   have HZ := Za hz
   clear hz
   have c0 := HC7.out.blk.1 0 _ rfl
   have c1 := HC7.out.blk.1 1 _ rfl
   have c2 := HC7.out.blk.1 2 _ rfl
   have c3 := HC7.out.blk.1 3 _ rfl
   have c4 := HC7.out.blk.1 4 _ rfl
   have c5 := HC7.out.blk.1 5 _ rfl
   have c6 := HC7.out.blk.1 6 _ rfl
   have c7 := HC7.out.blk.1 7 _ rfl
   have c8 := HC7.out.blk.1 8 _ rfl
   have c9 := HC7.out.blk.1 9 _ rfl
   have c10 := HC7.out.blk.1 10 _ rfl
   have cf := HC7.out.blk.2
   have h0 := HC7.out.res.1 0 _ rfl
   have h1 := HC7.out.res.1 1 _ rfl
   have h2 := HC7.out.res.1 2 _ rfl
   have h3 := HC7.out.res.1 3 _ rfl
   have h4 := HC7.out.res.1 4 _ rfl
   have h5 := HC7.out.res.1 5 _ rfl
   have h6 := HC7.out.res.1 6 _ rfl
   have h7 := HC7.out.res.1 7 _ rfl
   have h8 := HC7.out.res.1 8 _ rfl
   have h9 := HC7.out.res.1 9 _ rfl
   have h10 := HC7.out.res.1 10 _ rfl
   have hf := HC7.out.res.2
   have HD7 := Za ((HC7.out.set 1 (by decide) (.int .i64 z)).cast [.string tx, .int .i64 z, .int .i64 z2, .int .i64 s1, .int .i64 u1, .int .i64 s2, .int .i64 u2, .int .i64 s3, .int .i64 u3, .int .i64 s4, .int .i64 u4] rfl)
   go_wp2_with fail
   exact bodyPost_ret (v := .agg (Qv (⟨tx, z, z2, ⟨s1, u1⟩, ⟨s2, u2⟩, ⟨s3, u3⟩, ⟨s4, u4⟩⟩ : Qi)).toArray) (by simp [results, Tryz.results186, go_sem, Qv, *]) rfl ⟨(⟨tx, z, z2, ⟨s1, u1⟩, ⟨s2, u2⟩, ⟨s3, u3⟩, ⟨s4, u4⟩⟩ : Qi), rfl, Zeh (Zu1 HX.out.1) (Zu6 HZ.out) (Zuv HX.out.2.2.2.1 HX.out.2.2.2.2) HB1.out HB2.out HB3.out HB4.out, (Ze (Ze (Ze (Ze (Ze (Ze (Ze (Ze (Ze (Ze (HD7.out.put 0 _) hRl (Nat.le_refl _) 1 _) hRl (Nat.le_refl _) 2 _) hRl (Nat.le_refl _) 3 _) hRl (Nat.le_refl _) 4 _) hRl (Nat.le_refl _) 5 _) hRl (Nat.le_refl _) 6 _) hRl (Nat.le_refl _) 7 _) hRl (Nat.le_refl _) 8 _) hRl (Nat.le_refl _) 9 _) hRl (Nat.le_refl _) 10 _).1.mono (by omega), (Ze (Ze (Ze (Ze (Ze (Ze (Ze (Ze (Ze (Ze (HD7.out.put 0 _) hRl (Nat.le_refl _) 1 _) hRl (Nat.le_refl _) 2 _) hRl (Nat.le_refl _) 3 _) hRl (Nat.le_refl _) 4 _) hRl (Nat.le_refl _) 5 _) hRl (Nat.le_refl _) 6 _) hRl (Nat.le_refl _) 7 _) hRl (Nat.le_refl _) 8 _) hRl (Nat.le_refl _) 9 _) hRl (Nat.le_refl _) 10 _).2⟩
  ·
   have HN := Za (Zm3 W6 3)
   go_wp2_with fail
   refine (pick R _ 3 _ (HC6.out.alloc _).rdr (by omega) (by decide)).mono ?_
   rintro e W7 ⟨k7, rfl, hk70, hk71, hR7, hg7⟩
   have hl7 := hk71 (by decide)
   have HC7 := Za ((HC6.out.alloc _).pick hR7 hg7)
   have HM := Za (HN.out.grow (by have := HC6.out.pos; omega) (by simp) hg7)
   clear hR7 hg7 hk71
   obtain ⟨i7, rfl⟩ := Int.eq_ofNat_of_zero_le hk70
   obtain ⟨z, hz, hz3⟩ := HM.out i7 (by omega)
   have HZ := Za hz
   clear hz
   have c0 := HC7.out.blk.1 0 _ rfl
   have c1 := HC7.out.blk.1 1 _ rfl
   have c2 := HC7.out.blk.1 2 _ rfl
   have c3 := HC7.out.blk.1 3 _ rfl
   have c4 := HC7.out.blk.1 4 _ rfl
   have c5 := HC7.out.blk.1 5 _ rfl
   have c6 := HC7.out.blk.1 6 _ rfl
   have c7 := HC7.out.blk.1 7 _ rfl
   have c8 := HC7.out.blk.1 8 _ rfl
   have c9 := HC7.out.blk.1 9 _ rfl
   have c10 := HC7.out.blk.1 10 _ rfl
   have cf := HC7.out.blk.2
   have h0 := HC7.out.res.1 0 _ rfl
   have h1 := HC7.out.res.1 1 _ rfl
   have h2 := HC7.out.res.1 2 _ rfl
   have h3 := HC7.out.res.1 3 _ rfl
   have h4 := HC7.out.res.1 4 _ rfl
   have h5 := HC7.out.res.1 5 _ rfl
   have h6 := HC7.out.res.1 6 _ rfl
   have h7 := HC7.out.res.1 7 _ rfl
   have h8 := HC7.out.res.1 8 _ rfl
   have h9 := HC7.out.res.1 9 _ rfl
   have h10 := HC7.out.res.1 10 _ rfl
   have hf := HC7.out.res.2
   have HD7 := Za ((HC7.out.set 2 (by decide) (.int .i64 z)).cast [.string tx, .int .i64 z1, .int .i64 z, .int .i64 s1, .int .i64 u1, .int .i64 s2, .int .i64 u2, .int .i64 s3, .int .i64 u3, .int .i64 s4, .int .i64 u4] rfl)
   go_wp2_with fail
   exact bodyPost_ret (v := .agg (Qv (⟨tx, z1, z, ⟨s1, u1⟩, ⟨s2, u2⟩, ⟨s3, u3⟩, ⟨s4, u4⟩⟩ : Qi)).toArray) (by simp [results, Tryz.results186, go_sem, Qv, *]) rfl ⟨(⟨tx, z1, z, ⟨s1, u1⟩, ⟨s2, u2⟩, ⟨s3, u3⟩, ⟨s4, u4⟩⟩ : Qi), rfl, Zeh (Zu1 HX.out.1) (Zt7 HX.out.2.1 HX.out.2.2.1) (Zu7 HZ.out) HB1.out HB2.out HB3.out HB4.out, (Ze (Ze (Ze (Ze (Ze (Ze (Ze (Ze (Ze (Ze (HD7.out.put 0 _) hRl (Nat.le_refl _) 1 _) hRl (Nat.le_refl _) 2 _) hRl (Nat.le_refl _) 3 _) hRl (Nat.le_refl _) 4 _) hRl (Nat.le_refl _) 5 _) hRl (Nat.le_refl _) 6 _) hRl (Nat.le_refl _) 7 _) hRl (Nat.le_refl _) 8 _) hRl (Nat.le_refl _) 9 _) hRl (Nat.le_refl _) 10 _).1.mono (by omega), (Ze (Ze (Ze (Ze (Ze (Ze (Ze (Ze (Ze (Ze (HD7.out.put 0 _) hRl (Nat.le_refl _) 1 _) hRl (Nat.le_refl _) 2 _) hRl (Nat.le_refl _) 3 _) hRl (Nat.le_refl _) 4 _) hRl (Nat.le_refl _) 5 _) hRl (Nat.le_refl _) 6 _) hRl (Nat.le_refl _) 7 _) hRl (Nat.le_refl _) 8 _) hRl (Nat.le_refl _) 9 _) hRl (Nat.le_refl _) 10 _).2⟩
  go_wp2_with fail
  refine (Zlq R _ 1 _ HC6.out.rdr (by omega) (by decide) (by decide)).mono ?_
  rintro e W7 ⟨s7, u7, rfl, b71, b72, b73, b74, hR7, hg7⟩
  have HB7 := Za (And.intro b71 (And.intro b72 (And.intro b73 b74)))
  have HC7 := Za (HC6.out.pick hR7 hg7)
  clear hR7 hg7 b71 b72 b73 b74
  have c0 := HC7.out.blk.1 0 _ rfl
  have c1 := HC7.out.blk.1 1 _ rfl
  have c2 := HC7.out.blk.1 2 _ rfl
  have c3 := HC7.out.blk.1 3 _ rfl
  have c4 := HC7.out.blk.1 4 _ rfl
  have c5 := HC7.out.blk.1 5 _ rfl
  have c6 := HC7.out.blk.1 6 _ rfl
  have c7 := HC7.out.blk.1 7 _ rfl
  have c8 := HC7.out.blk.1 8 _ rfl
  have c9 := HC7.out.blk.1 9 _ rfl
  have c10 := HC7.out.blk.1 10 _ rfl
  have cf := HC7.out.blk.2
  have h0 := HC7.out.res.1 0 _ rfl
  have h1 := HC7.out.res.1 1 _ rfl
  have h2 := HC7.out.res.1 2 _ rfl
  have h3 := HC7.out.res.1 3 _ rfl
  have h4 := HC7.out.res.1 4 _ rfl
  have h5 := HC7.out.res.1 5 _ rfl
  have h6 := HC7.out.res.1 6 _ rfl
  have h7 := HC7.out.res.1 7 _ rfl
  have h8 := HC7.out.res.1 8 _ rfl
  have h9 := HC7.out.res.1 9 _ rfl
  have h10 := HC7.out.res.1 10 _ rfl
  have hf := HC7.out.res.2
  have HD7 := Za (((HC7.out.set 9 (by decide) (.int .i64 s7)).set 10 (by decide) (.int .i64 u7)).cast [.string tx, .int .i64 z1, .int .i64 z2, .int .i64 s1, .int .i64 u1, .int .i64 s2, .int .i64 u2, .int .i64 s3, .int .i64 u3, .int .i64 s7, .int .i64 u7] rfl)
  go_wp2_with fail
  exact bodyPost_ret (v := .agg (Qv (⟨tx, z1, z2, ⟨s1, u1⟩, ⟨s2, u2⟩, ⟨s3, u3⟩, ⟨s7, u7⟩⟩ : Qi)).toArray) (by simp [results, Tryz.results186, go_sem, Qv, *]) rfl ⟨(⟨tx, z1, z2, ⟨s1, u1⟩, ⟨s2, u2⟩, ⟨s3, u3⟩, ⟨s7, u7⟩⟩ : Qi), rfl, Zeh (Zu1 HX.out.1) (Zt7 HX.out.2.1 HX.out.2.2.1) (Zuv HX.out.2.2.2.1 HX.out.2.2.2.2) HB1.out HB2.out HB3.out HB7.out, (Ze (Ze (Ze (Ze (Ze (Ze (Ze (Ze (Ze (Ze (HD7.out.put 0 _) hRl (Nat.le_refl _) 1 _) hRl (Nat.le_refl _) 2 _) hRl (Nat.le_refl _) 3 _) hRl (Nat.le_refl _) 4 _) hRl (Nat.le_refl _) 5 _) hRl (Nat.le_refl _) 6 _) hRl (Nat.le_refl _) 7 _) hRl (Nat.le_refl _) 8 _) hRl (Nat.le_refl _) 9 _) hRl (Nat.le_refl _) 10 _).1.mono (by omega), (Ze (Ze (Ze (Ze (Ze (Ze (Ze (Ze (Ze (Ze (HD7.out.put 0 _) hRl (Nat.le_refl _) 1 _) hRl (Nat.le_refl _) 2 _) hRl (Nat.le_refl _) 3 _) hRl (Nat.le_refl _) 4 _) hRl (Nat.le_refl _) 5 _) hRl (Nat.le_refl _) 6 _) hRl (Nat.le_refl _) 7 _) hRl (Nat.le_refl _) 8 _) hRl (Nat.le_refl _) 9 _) hRl (Nat.le_refl _) 10 _).2⟩
 have hgt : 0 < k5 := by omega
 have h0 := HC5.out.res.1 0 _ rfl
 have h1 := HC5.out.res.1 1 _ rfl
 have h2 := HC5.out.res.1 2 _ rfl
 have h3 := HC5.out.res.1 3 _ rfl
 have h4 := HC5.out.res.1 4 _ rfl
 have h5 := HC5.out.res.1 5 _ rfl
 have h6 := HC5.out.res.1 6 _ rfl
 have h7 := HC5.out.res.1 7 _ rfl
 have h8 := HC5.out.res.1 8 _ rfl
 have h9 := HC5.out.res.1 9 _ rfl
 have h10 := HC5.out.res.1 10 _ rfl
 have hf := HC5.out.res.2
 go_wp2_with fail
 exact bodyPost_ret (v := .agg (Qv (⟨tx, z1, z2, ⟨s1, u1⟩, ⟨s2, u2⟩, ⟨s3, u3⟩, ⟨s4, u4⟩⟩ : Qi)).toArray) (by simp [results, Tryz.results186, go_sem, Qv, *]) rfl ⟨(⟨tx, z1, z2, ⟨s1, u1⟩, ⟨s2, u2⟩, ⟨s3, u3⟩, ⟨s4, u4⟩⟩ : Qi), rfl, Zeh (Zu1 HX.out.1) (Zt7 HX.out.2.1 HX.out.2.2.1) (Zuv HX.out.2.2.2.1 HX.out.2.2.2.2) HB1.out HB2.out HB3.out HB4.out, (Ze (Ze (Ze (Ze (Ze (Ze (Ze (Ze (Ze (Ze (HC5.out.put 0 _) hRl (Nat.le_refl _) 1 _) hRl (Nat.le_refl _) 2 _) hRl (Nat.le_refl _) 3 _) hRl (Nat.le_refl _) 4 _) hRl (Nat.le_refl _) 5 _) hRl (Nat.le_refl _) 6 _) hRl (Nat.le_refl _) 7 _) hRl (Nat.le_refl _) 8 _) hRl (Nat.le_refl _) 9 _) hRl (Nat.le_refl _) 10 _).1.mono (by omega), (Ze (Ze (Ze (Ze (Ze (Ze (Ze (Ze (Ze (Ze (HC5.out.put 0 _) hRl (Nat.le_refl _) 1 _) hRl (Nat.le_refl _) 2 _) hRl (Nat.le_refl _) 3 _) hRl (Nat.le_refl _) 4 _) hRl (Nat.le_refl _) 5 _) hRl (Nat.le_refl _) 6 _) hRl (Nat.le_refl _) 7 _) hRl (Nat.le_refl _) 8 _) hRl (Nat.le_refl _) 9 _) hRl (Nat.le_refl _) 10 _).2⟩
end Go.Proofs.YtgdmcmicfoamlaaGreatDoor
