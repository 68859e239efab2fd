import Derived.Test.YtfcogogpioeggaaDoorKk
import Derived.BigQuiet
namespace Go.Proofs.YtfcogogpioeggaaDoor
open Go.RowKit
/- The program's edits: the closures. -/
set_option maxRecDepth 100000 in
set_option maxHeartbeats 2000000 in
theorem impl_has0 (X n c : Nat) (A : Option Addr) (row at' : Int) (w : World) (hx : w.cell? ⟨X, 3, none⟩ = some (.slice A n c)) (hn : n ≤ 1048576) (h : inB row 0 ((n : Int) - 1) = false) :
    Calls Tryd.prog 66 #[.pointer (some ⟨X, 0, none⟩), .int .i64 row, .int .i64 at'] w fun e w' => e = .returned (.bool false) ∧ w' = w := by
  have hI := fun (n lo hi : Int) (W : World) => impl_in n lo hi W
  go_enter Tryd.func66, Tryd.ntmps66
  go_wp2_with (go_at_call 59; refine (hI _ _ _ _).mono ?_; rintro e w' ⟨rfl, rfl⟩)
  go_ret
  exact ⟨rfl, rfl⟩
set_option maxRecDepth 100000 in
set_option maxHeartbeats 2000000 in
theorem impl_has1 (X n c gr j m cj : Nat) (Aj : Option Addr) (at' : Int) (w : World) (hx : w.cell? ⟨X, 3, none⟩ = some (.slice (some ⟨gr, 0, none⟩) n c)) (hn : n ≤ 1048576) (hj : j < n) (hr : w.cell? ⟨gr, j * 2, none⟩ = some (.slice Aj m cj)) (hm : m ≤ 1048576) :
    Calls Tryd.prog 66 #[.pointer (some ⟨X, 0, none⟩), .int .i64 j, .int .i64 at'] w fun e w' => e = .returned (.bool (inB at' 0 ((m : Int) - 1))) ∧ w' = w := by
  have hI := fun (n lo hi : Int) (W : World) => impl_in n lo hi W
  have h : inB (j : Int) 0 ((n : Int) - 1) = true := by simp [inB]; omega
  have hjz : (j : Int) < (n : Int) := by omega
  generalize hq : inB at' 0 ((m : Int) - 1) = q
  go_enter Tryd.func66, Tryd.ntmps66
  go_wp2_with (go_at_call 59; refine (hI _ _ _ _).mono ?_; rintro e w' ⟨rfl, rfl⟩)
  go_ret
  exact ⟨rfl, rfl⟩
set_option maxRecDepth 100000 in
set_option maxHeartbeats 2000000 in
theorem span_body (g o Bc Br : Nat) (nc nr : Int) (v1 v2 : Value) (w : World) (hc : w.cell? ⟨Bc, 0, none⟩ = some (.int .i64 nc)) (hr : w.cell? ⟨Br, 0, none⟩ = some (.int .i64 nr))
    (h1 : w.cell? ⟨g, o + 1, none⟩ = some v1) (h2 : w.cell? ⟨g, o + 2, none⟩ = some v2) (f1 : w.frozen? ⟨g, o + 1, none⟩ = false) (f2 : w.frozen? ⟨g, o + 2, none⟩ = false) (hcg : Bc ≠ g) (hrg : Br ≠ g)
    (k1 : inB nc 1 4 = true) (k2 : inB nr 1 4 = true) :
    Calls Tryd.prog 58 #[.pointer (some ⟨g, o, none⟩), .pointer (some ⟨Bc, 0, none⟩), .pointer (some ⟨Br, 0, none⟩)] w fun e w' => e = .returned (.bool true) ∧ w' = ((w.setCell ⟨g, o + 1, none⟩ (.int .i64 nc)).setCell ⟨g, o + 2, none⟩ (.int .i64 nr)).drew := by
  have hI := fun (n lo hi : Int) (W : World) => impl_in n lo hi W
  go_enter Tryd.func58, Tryd.ntmps58
  go_wp2_with (go_at_call 59; refine (hI _ _ _ _).mono ?_; rintro e w' ⟨rfl, rfl⟩)
  have hgc : g ≠ Bc := fun e => hcg e.symm
  have hgr : g ≠ Br := fun e => hrg e.symm
  go_region_held3 (fun W => W.cell? ⟨Bc, 0, none⟩ = some (.int .i64 nc) ∧ W.cell? ⟨Br, 0, none⟩ = some (.int .i64 nr)) (first | with_reducible assumption | exact ⟨hc, hr⟩ | (refine ⟨?_, ?_⟩ <;> (repeat' (refine setO4 ?_ (fun e => by injection e with e; first | exact hgc e | exact hgr e))) <;> assumption)) (first | fail)
  go_wp2_with fail
  go_ret
  exact ⟨rfl, rfl⟩
set_option maxRecDepth 100000 in
set_option maxHeartbeats 2000000 in
theorem span_body0 (p : Option Addr) (Bc Br : Nat) (nc nr : Int) (w : World) (hc : w.cell? ⟨Bc, 0, none⟩ = some (.int .i64 nc)) (hr : w.cell? ⟨Br, 0, none⟩ = some (.int .i64 nr)) (h : (inB nc 1 4 && inB nr 1 4) = false) :
    Calls Tryd.prog 58 #[.pointer p, .pointer (some ⟨Bc, 0, none⟩), .pointer (some ⟨Br, 0, none⟩)] w fun e w' => e = .returned (.bool false) ∧ w' = w := by
  have hI := fun (n lo hi : Int) (W : World) => impl_in n lo hi W
  cases h1 : inB nc 1 4 with
  | false =>
    go_enter Tryd.func58, Tryd.ntmps58
    go_wp2_with (go_at_call 59; refine (hI _ _ _ _).mono ?_; rintro e w' ⟨rfl, rfl⟩)
    go_ret
    exact ⟨rfl, rfl⟩
  | true =>
    have h2 : inB nr 1 4 = false := by rw [h1] at h; simpa using h
    go_enter Tryd.func58, Tryd.ntmps58
    go_wp2_with (go_at_call 59; refine (hI _ _ _ _).mono ?_; rintro e w' ⟨rfl, rfl⟩)
    go_ret
    exact ⟨rfl, rfl⟩
/-- The cell's place is not there: nothing is called. -/
theorem setO5 {w : World} {B g o1 o2 : Nat} {u1 u2 v : Value} (h : w.cell? ⟨B, 0, none⟩ = some v) (hne : g ≠ B) : ((w.setCell ⟨g, o1, none⟩ u1).setCell ⟨g, o2, none⟩ u2).drew.cell? ⟨B, 0, none⟩ = some v :=
  setO4 (setO4 h (fun e => by injection e with e; exact hne e)) (fun e => by injection e with e; exact hne e)
set_option linter.unusedSimpArgs false in
set_option maxRecDepth 100000 in
set_option maxHeartbeats 4000000 in
theorem cellAt_no (X B1 B2 B3 Bc Br : Nat) (row at' : Int) (R : World → Prop) (w : World) (hR : R w.drew) (b1 : w.cell? ⟨B1, 0, none⟩ = some (.int .i64 row)) (b2 : w.cell? ⟨B2, 0, none⟩ = some (.int .i64 at')) (b3 : w.cell? ⟨B3, 0, none⟩ = some (.func (.func 58) #[] #[.pointer (some ⟨Bc, 0, none⟩), .pointer (some ⟨Br, 0, none⟩)]))
    (hh : ∀ W, R W → Calls Tryd.prog 66 #[.pointer (some ⟨X, 0, none⟩), .int .i64 row, .int .i64 at'] W fun e w' => e = .returned (.bool false) ∧ w' = W) :
    Calls Tryd.prog 96 #[.pointer (some ⟨X, 0, none⟩), .pointer (some ⟨B1, 0, none⟩), .pointer (some ⟨B2, 0, none⟩), .pointer (some ⟨B3, 0, none⟩)] w fun e w' => e = .returned (.bool false) ∧ w' = w.drew := by
  have HH := hide hh
  clear hh
  go_enter Tryd.func96, Tryd.ntmps96
  go_wp2_with fail
  refine wp_region_held_drew (S := fun W => R W ∧ W.cell? ⟨B1, 0, none⟩ = some (.int .i64 row) ∧ W.cell? ⟨B2, 0, none⟩ = some (.int .i64 at') ∧ W.cell? ⟨B3, 0, none⟩ = some (.func (.func 58) #[] #[.pointer (some ⟨Bc, 0, none⟩), .pointer (some ⟨Br, 0, none⟩)])) (by kernel_rfl) ⟨hR, b1, b2, b3⟩ (fun hSd => ?_)
  refine' wpAnyH_take (i := 0) (v := _) rfl (by kernel_rfl) (by kernel_rfl) (by kernel_rfl) (fun _ _ _ h => h) (Or.inl ⟨by rfl, ?hy0⟩) hSd ?_
  case hy0 => (intro w hSw; (try dsimp only at hSw); go_simp) <;> with_reducible rfl
  try simp only [Act.put, List.setIfInBounds_toArray, List.set_cons_zero, List.set_cons_succ]
  refine' wpAnyH_take (i := 1) (v := _) rfl (by kernel_rfl) (by kernel_rfl) (by kernel_rfl) (fun _ _ _ h => h) (Or.inl ⟨by rfl, ?hy1⟩) hSd ?_
  case hy1 => (intro w hSw; (try dsimp only at hSw); go_simp) <;> with_reducible rfl
  try simp only [Act.put, List.setIfInBounds_toArray, List.set_cons_zero, List.set_cons_succ]
  refine' wpAnyH_take (i := 2) (v := _) rfl (by kernel_rfl) (by kernel_rfl) (by kernel_rfl) (fun _ _ _ h => h) (Or.inl ⟨by rfl, ?hy2⟩) hSd ?_
  case hy2 => (intro w hSw; (try dsimp only at hSw); go_simp) <;> with_reducible rfl
  try simp only [Act.put, List.setIfInBounds_toArray, List.set_cons_zero, List.set_cons_succ]
  refine wpAnyH_ready (rs := [3]) (by kernel_rfl) (by simp) (AllReadyH.cons rfl (fun K hK => ?_) AllReadyH.nil)
  go_simp
  go_at_call 66
  refine (HH.out _ hSd.1).mono ?_
  rintro e w7 ⟨rfl, rfl⟩
  simp only []
  refine hK.out _ _ hSd (fun _ => ?_)
  clear hK K
  try simp only [Act.put, List.setIfInBounds_toArray, List.set_cons_zero, List.set_cons_succ]
  refine' wpAnyH_take (i := 4) (v := _) rfl (by kernel_rfl) (by kernel_rfl) (by kernel_rfl) (fun _ _ _ h => h) (Or.inl ⟨by rfl, ?hy4⟩) hSd ?_
  case hy4 => (intro w hSw; (try dsimp only at hSw); go_simp) <;> with_reducible rfl
  try simp only [Act.put, List.setIfInBounds_toArray, List.set_cons_zero, List.set_cons_succ]
  refine' wpAnyH_take (i := 5) (v := undef) rfl (by kernel_rfl) (by kernel_rfl) (by kernel_rfl) (fun _ _ _ h => h) (Or.inr ⟨by kernel_rfl, rfl⟩) hSd ?_
  try simp only [Act.put, List.setIfInBounds_toArray, List.set_cons_zero, List.set_cons_succ]
  refine' wpAnyH_take (i := 6) (v := undef) rfl (by kernel_rfl) (by kernel_rfl) (by kernel_rfl) (fun _ _ _ h => h) (Or.inr ⟨by kernel_rfl, rfl⟩) hSd ?_
  try simp only [Act.put, List.setIfInBounds_toArray, List.set_cons_zero, List.set_cons_succ]
  refine' wpAnyH_take (i := 7) (v := undef) rfl (by kernel_rfl) (by kernel_rfl) (by kernel_rfl) (fun _ _ _ h => h) (Or.inr ⟨by kernel_rfl, rfl⟩) hSd ?_
  try simp only [Act.put, List.setIfInBounds_toArray, List.set_cons_zero, List.set_cons_succ]
  refine' wpAnyH_take (i := 8) (v := undef) rfl (by kernel_rfl) (by kernel_rfl) (by kernel_rfl) (fun _ _ _ h => h) (Or.inr ⟨by kernel_rfl, rfl⟩) hSd ?_
  try simp only [Act.put, List.setIfInBounds_toArray, List.set_cons_zero, List.set_cons_succ]
  refine' wpAnyH_take (i := 9) (v := undef) rfl (by kernel_rfl) (by kernel_rfl) (by kernel_rfl) (fun _ _ _ h => h) (Or.inr ⟨by kernel_rfl, rfl⟩) hSd ?_
  try simp only [Act.put, List.setIfInBounds_toArray, List.set_cons_zero, List.set_cons_succ]
  refine' wpAnyH_take (i := 10) (v := undef) rfl (by kernel_rfl) (by kernel_rfl) (by kernel_rfl) (fun _ _ _ h => h) (Or.inr ⟨by kernel_rfl, rfl⟩) hSd ?_
  try simp only [Act.put, List.setIfInBounds_toArray, List.set_cons_zero, List.set_cons_succ]
  refine' wpAnyH_take (i := 11) (v := undef) rfl (by kernel_rfl) (by kernel_rfl) (by kernel_rfl) (fun _ _ _ h => h) (Or.inr ⟨by kernel_rfl, rfl⟩) hSd ?_
  try simp only [Act.put, List.setIfInBounds_toArray, List.set_cons_zero, List.set_cons_succ]
  refine' wpAnyH_take (i := 12) (v := undef) rfl (by kernel_rfl) (by kernel_rfl) (by kernel_rfl) (fun _ _ _ h => h) (Or.inr ⟨by kernel_rfl, rfl⟩) hSd ?_
  try simp only [Act.put, List.setIfInBounds_toArray, List.set_cons_zero, List.set_cons_succ]
  refine' wpAnyH_take (i := 13) (v := undef) rfl (by kernel_rfl) (by kernel_rfl) (by kernel_rfl) (fun _ _ _ h => h) (Or.inr ⟨by kernel_rfl, rfl⟩) hSd ?_
  try simp only [Act.put, List.setIfInBounds_toArray, List.set_cons_zero, List.set_cons_succ]
  refine' wpAnyH_take (i := 14) (v := undef) rfl (by kernel_rfl) (by kernel_rfl) (by kernel_rfl) (fun _ _ _ h => h) (Or.inr ⟨by kernel_rfl, rfl⟩) hSd ?_
  try simp only [Act.put, List.setIfInBounds_toArray, List.set_cons_zero, List.set_cons_succ]
  refine' wpAnyH_take (i := 15) (v := undef) rfl (by kernel_rfl) (by kernel_rfl) (by kernel_rfl) (fun _ _ _ h => h) (Or.inr ⟨by kernel_rfl, rfl⟩) hSd ?_
  try simp only [Act.put, List.setIfInBounds_toArray, List.set_cons_zero, List.set_cons_succ]
  refine' wpAnyH_take (i := 16) (v := undef) rfl (by kernel_rfl) (by kernel_rfl) (by kernel_rfl) (fun _ _ _ h => h) (Or.inr ⟨by kernel_rfl, rfl⟩) hSd ?_
  try simp only [Act.put, List.setIfInBounds_toArray, List.set_cons_zero, List.set_cons_succ]
  refine wpAnyH_ready (rs := [17]) (by kernel_rfl) (by simp) (AllReadyH.cons rfl (fun K hK => ?_) AllReadyH.nil)
  go_simp
  refine hK.out _ _ hSd (fun _ => ?_)
  clear hK K
  refine wpAnyH_ready (rs := [18]) (by kernel_rfl) (by simp) (AllReadyH.cons rfl (fun K hK => ?_) AllReadyH.nil)
  go_simp
  refine hK.out _ _ hSd (fun _ => ?_)
  clear hK K
  refine wpAnyH_done (by kernel_rfl) ?_ _
  go_wp2_with fail
  go_ret
  exact ⟨rfl, rfl⟩
set_option maxRecDepth 100000 in
set_option maxHeartbeats 4000000 in
theorem cellAt_yes (X B1 B2 B3 Bc Br gr g n cr m cg j i : Nat) (q : Bool) (G : World → World) (R : World → Prop) (w : World) (hS : (w.drew.cell? ⟨B1, 0, none⟩ = some (.int .i64 j) ∧ w.drew.cell? ⟨B2, 0, none⟩ = some (.int .i64 i) ∧ w.drew.cell? ⟨B3, 0, none⟩ = some (.func (.func 58) #[] #[.pointer (some ⟨Bc, 0, none⟩), .pointer (some ⟨Br, 0, none⟩)]) ∧ w.drew.cell? ⟨X, 3, none⟩ = some (.slice (some ⟨gr, 0, none⟩) n cr) ∧ w.drew.cell? ⟨gr, j * 2, none⟩ = some (.slice (some ⟨g, 0, none⟩) m cg)) ∧ R w.drew) (hj : j < n) (hi : i < m) (hn : n ≤ 1048576) (hm : m ≤ 1048576)
    (hf : ∀ W, (W.cell? ⟨B1, 0, none⟩ = some (.int .i64 j) ∧ W.cell? ⟨B2, 0, none⟩ = some (.int .i64 i) ∧ W.cell? ⟨B3, 0, none⟩ = some (.func (.func 58) #[] #[.pointer (some ⟨Bc, 0, none⟩), .pointer (some ⟨Br, 0, none⟩)]) ∧ W.cell? ⟨X, 3, none⟩ = some (.slice (some ⟨gr, 0, none⟩) n cr) ∧ W.cell? ⟨gr, j * 2, none⟩ = some (.slice (some ⟨g, 0, none⟩) m cg)) ∧ R W → Calls Tryd.prog 58 #[.pointer (some ⟨g, i * 11, none⟩), .pointer (some ⟨Bc, 0, none⟩), .pointer (some ⟨Br, 0, none⟩)] W fun e w' => e = .returned (.bool q) ∧ w' = G W)
    (hG : ∀ W, (W.cell? ⟨B1, 0, none⟩ = some (.int .i64 j) ∧ W.cell? ⟨B2, 0, none⟩ = some (.int .i64 i) ∧ W.cell? ⟨B3, 0, none⟩ = some (.func (.func 58) #[] #[.pointer (some ⟨Bc, 0, none⟩), .pointer (some ⟨Br, 0, none⟩)]) ∧ W.cell? ⟨X, 3, none⟩ = some (.slice (some ⟨gr, 0, none⟩) n cr) ∧ W.cell? ⟨gr, j * 2, none⟩ = some (.slice (some ⟨g, 0, none⟩) m cg)) ∧ R W → ((G W).cell? ⟨B1, 0, none⟩ = some (.int .i64 j) ∧ (G W).cell? ⟨B2, 0, none⟩ = some (.int .i64 i) ∧ (G W).cell? ⟨B3, 0, none⟩ = some (.func (.func 58) #[] #[.pointer (some ⟨Bc, 0, none⟩), .pointer (some ⟨Br, 0, none⟩)]) ∧ (G W).cell? ⟨X, 3, none⟩ = some (.slice (some ⟨gr, 0, none⟩) n cr) ∧ (G W).cell? ⟨gr, j * 2, none⟩ = some (.slice (some ⟨g, 0, none⟩) m cg)) ∧ R (G W)) :
    Calls Tryd.prog 96 #[.pointer (some ⟨X, 0, none⟩), .pointer (some ⟨B1, 0, none⟩), .pointer (some ⟨B2, 0, none⟩), .pointer (some ⟨B3, 0, none⟩)] w fun e w' => e = .returned (.bool q) ∧ w' = G w.drew := by
  have hin : inB (i : Int) 0 ((m : Int) - 1) = true := by simp [inB]; omega
  have HH : Hid (∀ W : World, (W.cell? ⟨B1, 0, none⟩ = some (.int .i64 j) ∧ W.cell? ⟨B2, 0, none⟩ = some (.int .i64 i) ∧ W.cell? ⟨B3, 0, none⟩ = some (.func (.func 58) #[] #[.pointer (some ⟨Bc, 0, none⟩), .pointer (some ⟨Br, 0, none⟩)]) ∧ W.cell? ⟨X, 3, none⟩ = some (.slice (some ⟨gr, 0, none⟩) n cr) ∧ W.cell? ⟨gr, j * 2, none⟩ = some (.slice (some ⟨g, 0, none⟩) m cg)) ∧ R W → Calls Tryd.prog 66 #[.pointer (some ⟨X, 0, none⟩), .int .i64 j, .int .i64 i] W fun e w' => e = .returned (.bool true) ∧ w' = W) := fun W h => by
    have := impl_has1 X n cr gr j m cg (some ⟨g, 0, none⟩) i W h.1.2.2.2.1 hn hj h.1.2.2.2.2 hm
    rw [hin] at this
    exact this
  have HF := hide hf
  have HG := hide hG
  have hjz : (j : Int) < (n : Int) := by omega
  have hiz : (i : Int) < (m : Int) := by omega
  have hj0 : (0 : Int) ≤ (j : Int) := by omega
  have hi0 : (0 : Int) ≤ (i : Int) := by omega
  have heg : ∀ args w, (callFunc 58 args).run Tryd.prog w = .ok (.enter 58 args) w := enters_of Tryd.func58 (by kernel_rfl) rfl
  clear hf hG hin
  go_enter Tryd.func96, Tryd.ntmps96
  go_wp2_with fail
  go_region_held3 (fun W => (W.cell? ⟨B1, 0, none⟩ = some (.int .i64 j) ∧ W.cell? ⟨B2, 0, none⟩ = some (.int .i64 i) ∧ W.cell? ⟨B3, 0, none⟩ = some (.func (.func 58) #[] #[.pointer (some ⟨Bc, 0, none⟩), .pointer (some ⟨Br, 0, none⟩)]) ∧ W.cell? ⟨X, 3, none⟩ = some (.slice (some ⟨gr, 0, none⟩) n cr) ∧ W.cell? ⟨gr, j * 2, none⟩ = some (.slice (some ⟨g, 0, none⟩) m cg)) ∧ R W) (first | with_reducible assumption | exact hS | exact HG.out _ (by with_reducible assumption)) (first | (go_at_call 66; refine (HH.out _ (by with_reducible assumption)).mono ?_; rintro e w7 ⟨rfl, rfl⟩) | (go_at_fn 58; refine (HF.out _ (by with_reducible assumption)).mono ?_; rintro e w7 ⟨rfl, rfl⟩))
  go_wp2_with fail
  go_ret
  exact ⟨rfl, rfl⟩
end Go.Proofs.YtfcogogpioeggaaDoor
