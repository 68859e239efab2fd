import Derived.Test.YtpfagdmmhgcmnaaGreatDoorMixKt
set_option linter.unusedVariables false
set_option linter.unusedSimpArgs false
namespace Go.Proofs.YtpfagdmmhgcmnaaGreatDoor
open Go.RowKit
def BrdPost (R N : Nat) (w : World) (e : Ending) (w' : World) : Prop :=
 ∃ s v : Int, e = .returned (.agg #[.int .i64 s, .int .i64 v]) ∧ -1 ≤ s ∧ s ≤ 5 ∧ -1 ≤ v ∧ v ≤ 5 ∧ RdrOk w' R N ∧ w.grownBy w' (some R)
def BSt (w W : World) (R N H : Nat) (s v : Int) : Prop :=
 RdrOk W R N ∧ w.grownBy W (some R) ∧ (w.heap.size ≤ H ∧ R < w.heap.size ∧ H + 1 < W.heap.size) ∧ W.cell? ⟨H, 0, none⟩ = some (.int .i64 0) ∧ W.cell? ⟨H, 1, none⟩ = some (.int .i64 0) ∧ W.cell? ⟨H + 1, 0, none⟩ = some (.int .i64 s) ∧ W.cell? ⟨H + 1, 1, none⟩ = some (.int .i64 v) ∧ (∀ i, W.frozen? ⟨H, i, none⟩ = false) ∧ (∀ i, W.frozen? ⟨H + 1, i, none⟩ = false)
theorem grow_setN {w W : World} {R : Nat} {a : Addr} (h : w.grownBy W (some R)) (ha : w.heap.size ≤ a.block) (u : Value) : w.grownBy (W.setCell a u) (some R) :=
 ⟨h.os, h.tape, h.output, by simpa using h.size, fun k hk hne => (heap_set W a u k (fun e => by omega)).trans (h.block k hk hne)⟩
theorem rdr_set {W : World} {R N : Nat} {a : Addr} (h : RdrOk W R N) (ha : R < a.block) (u : Value) : RdrOk (W.setCell a u) R N :=
 h.grow (row := some a.block) (grow_set W rfl u) (fun g e => by injection e with e; omega)
theorem BSt.pick {w W W' : World} {R N N' H : Nat} {s v : Int} (h : BSt w W R N H s v) (hR : RdrOk W' R N') (hg : W.grownBy W' (some R)) : BSt w W' R N' H s v := by
 obtain ⟨_, h2, ⟨a1, a2, a3⟩, h4, h5, h6, h7, h8, h9⟩ := h
 have k0 : W'.heap[H]? = W.heap[H]? := hg.block H (by omega) (fun e => by injection e with e; omega)
 have k1 : W'.heap[H + 1]? = W.heap[H + 1]? := hg.block (H + 1) (by omega) (fun e => by injection e with e; omega)
 exact ⟨hR, grow_trans h2 hg, ⟨a1, a2, Nat.lt_of_lt_of_le a3 hg.size⟩, (World.cell?_of_block k0).trans h4, (World.cell?_of_block k0).trans h5, (World.cell?_of_block k1).trans h6, (World.cell?_of_block k1).trans h7, fun i => (World.frozen?_of_block k0).trans (h8 i), fun i => (World.frozen?_of_block k1).trans (h9 i)⟩
theorem BSt.alloc {w W : World} {R N H : Nat} {s v : Int} (h : BSt w W R N H s v) (o : Obj) : BSt w (W.alloc o) R N H s v :=
 h.pick (h.1.below (balloc (brefl W) o)) (World.grownBy_alloc W o (some R))
theorem BSt.set0 {w W : World} {R N H : Nat} {s v : Int} (h : BSt w W R N H s v) (x : Int) : BSt w (W.setCell ⟨H + 1, 0, none⟩ (.int .i64 x)) R N H x v := by
 obtain ⟨h1, h2, ⟨a1, a2, a3⟩, h4, h5, h6, h7, h8, h9⟩ := h
 exact ⟨rdr_set h1 (by show R < H + 1; omega) _, grow_setN h2 (by show _ ≤ H + 1; omega) _, ⟨a1, a2, by simpa using a3⟩, setO4 h4 (by simp), setO4 h5 (by simp), setS4 h6, setO4 h7 (by simp), fun i => by simpa using h8 i, fun i => by simpa using h9 i⟩
theorem BSt.set1 {w W : World} {R N H : Nat} {s v : Int} (h : BSt w W R N H s v) (x : Int) : BSt w (W.setCell ⟨H + 1, 1, none⟩ (.int .i64 x)) R N H s x := by
 obtain ⟨h1, h2, ⟨a1, a2, a3⟩, h4, h5, h6, h7, h8, h9⟩ := h
 exact ⟨rdr_set h1 (by show R < H + 1; omega) _, grow_setN h2 (by show _ ≤ H + 1; omega) _, ⟨a1, a2, by simpa using a3⟩, setO4 h4 (by simp), setO4 h5 (by simp), setO4 h6 (by simp), setS4 h7, fun i => by simpa using h8 i, fun i => by simpa using h9 i⟩
theorem BSt.done {w W : World} {R N N' H : Nat} {s v : Int} (h : BSt w W R N H s v) (hN : N ≤ N') (x y : Value) : RdrOk ((W.setCell ⟨H, 0, none⟩ x).setCell ⟨H, 1, none⟩ y) R N' ∧ w.grownBy ((W.setCell ⟨H, 0, none⟩ x).setCell ⟨H, 1, none⟩ y) (some R) := by
 obtain ⟨h1, h2, ⟨a1, a2, a3⟩, h4, h5, h6, h7, h8, h9⟩ := h
 exact ⟨(rdr_set (rdr_set h1 (by show R < H; omega) _) (by show R < H; omega) _).mono hN, grow_setN (grow_setN h2 (by show _ ≤ H; omega) _) (by show _ ≤ H; omega) _⟩
theorem new_at (w : World) (H : Nat) (cs : Array Value) (t : TypeId) (k : Nat) (u : Value) (hH : w.heap.size = H) (h : cs[k]? = some u) : (w.alloc (.cells cs t)).cell? ⟨H, k, none⟩ = some u := by
 subst hH
 exact cell_new w cs t (0, 0) k u h
theorem BSt.new (w : World) (R N : Nat) (T : TypeId) (h : RdrOk w R N) : BSt w ((w.alloc (.cells #[.int .i64 0, .int .i64 0] T)).alloc (.cells #[.int .i64 0, .int .i64 0] T)) R N w.heap.size 0 0 := by
 have hl := h.lt
 refine ⟨h.below (balloc (balloc (brefl w) _) _), grow_below (balloc (balloc (brefl w) _) _), ⟨Nat.le_refl _, hl, by simp⟩, keepW (balloc (brefl _) _) (cell_new w _ _ _ 0 _ rfl), keepW (balloc (brefl _) _) (cell_new w _ _ _ 1 _ rfl), new_at _ _ _ _ 0 _ (by simp) rfl, new_at _ _ _ _ 1 _ (by simp) rfl, fun i => by simp, fun i => by simp⟩
def Nums (w : World) (X n : Nat) : Prop := ∀ j, j < n → ∃ z : Int, -1 ≤ z ∧ z ≤ 5 ∧ w.cell? ⟨X, j, none⟩ = some (.int .i64 z)
theorem Nums.grow {w w' : World} {X n R : Nat} (h : Nums w X n) (hX : X ≠ R) (hl : X < w.heap.size) (hg : w.grownBy w' (some R)) : Nums w' X n := by
 intro j hj
 obtain ⟨z, h1, h2, h3⟩ := h j hj
 exact ⟨z, h1, h2, (World.cell?_of_block (hg.block X hl (fun e => by injection e with e; omega))).trans h3⟩
theorem nums3 (w : World) (T : TypeId) : Nums (w.alloc (.cells #[.int .i64 (-1), .int .i64 5, .int .i64 1] T)) w.heap.size 3 := by
 intro j hj
 match j, hj with
 | 0, _ => exact ⟨-1, by decide, by decide, cell_new _ _ _ _ _ _ rfl⟩
 | 1, _ => exact ⟨5, by decide, by decide, cell_new _ _ _ _ _ _ rfl⟩
 | 2, _ => exact ⟨1, by decide, by decide, cell_new _ _ _ _ _ _ rfl⟩
 | j + 3, hj => exact absurd hj (by omega)
theorem nums4 (w : World) (T : TypeId) : Nums (w.alloc (.cells #[.int .i64 (-1), .int .i64 4, .int .i64 0, .int .i64 1] T)) w.heap.size 4 := by
 intro j hj
 match j, hj with
 | 0, _ => exact ⟨-1, by decide, by decide, cell_new _ _ _ _ _ _ rfl⟩
 | 1, _ => exact ⟨4, by decide, by decide, cell_new _ _ _ _ _ _ rfl⟩
 | 2, _ => exact ⟨0, by decide, by decide, cell_new _ _ _ _ _ _ rfl⟩
 | 3, _ => exact ⟨1, by decide, by decide, cell_new _ _ _ _ _ _ rfl⟩
 | j + 4, hj => exact absurd hj (by omega)
set_option maxRecDepth 100000 in
set_option maxHeartbeats 4000000 in
theorem rdBrd (R N : Nat) (n : Int) (w : World) (h : RdrOk w R N) (hN : N ≤ 900000) (hn1 : 1 ≤ n) (hn : n ≤ 1000000) :
  Calls Tryz.prog 139 #[.pointer (some ⟨R, 0, none⟩), .int .i64 n] w (BrdPost R (N + 6) w) := by
 have hRl := h.lt
 obtain ⟨H, hH⟩ : ∃ H, H = w.heap.size := ⟨_, rfl⟩
 have HB0 := hide (BSt.new w R N 50 h)
 clear h
 go_enter Tryz.func139, Tryz.ntmps139
 go_wp2_with fail
 refine (pick R _ 4 _ HB0.out.1 (by omega) (by first | decide | omega)).mono ?_
 rintro e w1 ⟨k1, rfl, hk01, hk11, hR1, hg1⟩
 have hl1 := hk11 (by first | decide | omega)
 have HB1 := hide (BSt.pick HB0.out hR1 hg1)
 obtain ⟨⟨x11, x21, x31⟩, c01, c11, c21, c31, f01, f11⟩ := HB1.out.2.2
 have hk4 : k1 = 0 ∨ k1 = 1 ∨ k1 = 2 ∨ k1 = 3 := by omega
 rcases hk4 with rfl | rfl | rfl | rfl
 ·
  go_wp2_with fail
  refine (pick R _ 3 _ HB1.out.1 (by omega) (by first | decide | omega)).mono ?_
  rintro e w2 ⟨k2, rfl, hk02, hk12, hR2, hg2⟩
  have hl2 := hk12 (by first | decide | omega)
  have HB2 := hide (BSt.pick HB1.out hR2 hg2)
  obtain ⟨⟨x12, x22, x32⟩, c02, c12, c22, c32, f02, f12⟩ := HB2.out.2.2
  go_wp2_with fail
  refine (pick R _ 3 _ HB2.out.1 (by omega) (by first | decide | omega)).mono ?_
  rintro e w3 ⟨k3, rfl, hk03, hk13, hR3, hg3⟩
  have hl3 := hk13 (by first | decide | omega)
  have HB3 := hide (BSt.pick HB2.out hR3 hg3)
  obtain ⟨⟨x13, x23, x33⟩, c03, c13, c23, c33, f03, f13⟩ := HB3.out.2.2
  have e2 : IntKind.i64.wrap (1 + k2) = 1 + k2 := IntWalk.i64_in _ (by omega)
  have e3 : IntKind.i64.wrap (1 + k3) = 1 + k3 := IntWalk.i64_in _ (by omega)
  go_wp2_with fail
  refine (pick R _ n _ ((HB3.out.set0 (1 + k2)).set1 (1 + k3)).1 (by omega) (by first | decide | omega)).mono ?_
  rintro e w4 ⟨k4, rfl, hk04, hk14, hR4, hg4⟩
  have hl4 := hk14 (by first | decide | omega)
  have HB4 := hide (BSt.pick ((HB3.out.set0 (1 + k2)).set1 (1 + k3)) hR4 hg4)
  obtain ⟨⟨x14, x24, x34⟩, c04, c14, c24, c34, f04, f14⟩ := HB4.out.2.2
  by_cases z4 : k4 = 0
  ·
   subst z4
   go_wp2_with fail
   refine (pick R _ 2 _ HB4.out.1 (by omega) (by first | decide | omega)).mono ?_
   rintro e w5 ⟨k5, rfl, hk05, hk15, hR5, hg5⟩
   have hl5 := hk15 (by first | decide | omega)
   have HB5 := hide (BSt.pick HB4.out hR5 hg5)
   obtain ⟨⟨x15, x25, x35⟩, c05, c15, c25, c35, f05, f15⟩ := HB5.out.2.2
   by_cases z5 : k5 = 0
   ·
    subst z5
    have HN5 := hide (nums3 w5 3)
    go_wp2_with fail
    refine (pick R _ 3 _ (HB5.out.alloc _).1 (by omega) (by first | decide | omega)).mono ?_
    rintro e w6 ⟨k6, rfl, hk06, hk16, hR6, hg6⟩
    have hl6 := hk16 (by first | decide | omega)
    have HB6 := hide (BSt.pick (HB5.out.alloc _) hR6 hg6)
    obtain ⟨⟨x16, x26, x36⟩, c06, c16, c26, c36, f06, f16⟩ := HB6.out.2.2
    have HN6 := hide (HN5.out.grow (by omega) (by simp) hg6)
    obtain ⟨i6, rfl⟩ := Int.eq_ofNat_of_zero_le hk06
    obtain ⟨z, hz1, hz2, hz3⟩ := HN6.out i6 (by omega)
    go_wp2_with fail
    exact bodyPost_ret (v := .agg #[.int .i64 z, .int .i64 (1 + k3)]) (by simp [results, Tryz.results139, go_sem, *]) rfl ⟨z, (1 + k3), rfl, by omega, by omega, by omega, by omega, (HB6.out.set0 z).done (by omega) _ _⟩
   ·
    skip
    have HN5 := hide (nums4 w5 3)
    go_wp2_with fail
    refine (pick R _ 4 _ (HB5.out.alloc _).1 (by omega) (by first | decide | omega)).mono ?_
    rintro e w6 ⟨k6, rfl, hk06, hk16, hR6, hg6⟩
    have hl6 := hk16 (by first | decide | omega)
    have HB6 := hide (BSt.pick (HB5.out.alloc _) hR6 hg6)
    obtain ⟨⟨x16, x26, x36⟩, c06, c16, c26, c36, f06, f16⟩ := HB6.out.2.2
    have HN6 := hide (HN5.out.grow (by omega) (by simp) hg6)
    obtain ⟨i6, rfl⟩ := Int.eq_ofNat_of_zero_le hk06
    obtain ⟨z, hz1, hz2, hz3⟩ := HN6.out i6 (by omega)
    go_wp2_with fail
    exact bodyPost_ret (v := .agg #[.int .i64 (1 + k2), .int .i64 z]) (by simp [results, Tryz.results139, go_sem, *]) rfl ⟨(1 + k2), z, rfl, by omega, by omega, by omega, by omega, (HB6.out.set1 z).done (by omega) _ _⟩
  ·
   skip
   go_wp2_with fail
   exact bodyPost_ret (v := .agg #[.int .i64 (1 + k2), .int .i64 (1 + k3)]) (by simp [results, Tryz.results139, go_sem, *]) rfl ⟨(1 + k2), (1 + k3), rfl, by omega, by omega, by omega, by omega, (HB4.out).done (by omega) _ _⟩
 ·
  go_wp2_with fail
  refine (pick R _ 3 _ HB1.out.1 (by omega) (by first | decide | omega)).mono ?_
  rintro e w2 ⟨k2, rfl, hk02, hk12, hR2, hg2⟩
  have hl2 := hk12 (by first | decide | omega)
  have HB2 := hide (BSt.pick HB1.out hR2 hg2)
  obtain ⟨⟨x12, x22, x32⟩, c02, c12, c22, c32, f02, f12⟩ := HB2.out.2.2
  go_wp2_with fail
  refine (pick R _ 3 _ HB2.out.1 (by omega) (by first | decide | omega)).mono ?_
  rintro e w3 ⟨k3, rfl, hk03, hk13, hR3, hg3⟩
  have hl3 := hk13 (by first | decide | omega)
  have HB3 := hide (BSt.pick HB2.out hR3 hg3)
  obtain ⟨⟨x13, x23, x33⟩, c03, c13, c23, c33, f03, f13⟩ := HB3.out.2.2
  have e2 : IntKind.i64.wrap (1 + k2) = 1 + k2 := IntWalk.i64_in _ (by omega)
  have e3 : IntKind.i64.wrap (1 + k3) = 1 + k3 := IntWalk.i64_in _ (by omega)
  go_wp2_with fail
  refine (pick R _ n _ ((HB3.out.set0 (1 + k2)).set1 (1 + k3)).1 (by omega) (by first | decide | omega)).mono ?_
  rintro e w4 ⟨k4, rfl, hk04, hk14, hR4, hg4⟩
  have hl4 := hk14 (by first | decide | omega)
  have HB4 := hide (BSt.pick ((HB3.out.set0 (1 + k2)).set1 (1 + k3)) hR4 hg4)
  obtain ⟨⟨x14, x24, x34⟩, c04, c14, c24, c34, f04, f14⟩ := HB4.out.2.2
  by_cases z4 : k4 = 0
  ·
   subst z4
   go_wp2_with fail
   refine (pick R _ 2 _ HB4.out.1 (by omega) (by first | decide | omega)).mono ?_
   rintro e w5 ⟨k5, rfl, hk05, hk15, hR5, hg5⟩
   have hl5 := hk15 (by first | decide | omega)
   have HB5 := hide (BSt.pick HB4.out hR5 hg5)
   obtain ⟨⟨x15, x25, x35⟩, c05, c15, c25, c35, f05, f15⟩ := HB5.out.2.2
   by_cases z5 : k5 = 0
   ·
    subst z5
    have HN5 := hide (nums3 w5 3)
    go_wp2_with fail
    refine (pick R _ 3 _ (HB5.out.alloc _).1 (by omega) (by first | decide | omega)).mono ?_
    rintro e w6 ⟨k6, rfl, hk06, hk16, hR6, hg6⟩
    have hl6 := hk16 (by first | decide | omega)
    have HB6 := hide (BSt.pick (HB5.out.alloc _) hR6 hg6)
    obtain ⟨⟨x16, x26, x36⟩, c06, c16, c26, c36, f06, f16⟩ := HB6.out.2.2
    have HN6 := hide (HN5.out.grow (by omega) (by simp) hg6)
    obtain ⟨i6, rfl⟩ := Int.eq_ofNat_of_zero_le hk06
    obtain ⟨z, hz1, hz2, hz3⟩ := HN6.out i6 (by omega)
    go_wp2_with fail
    exact bodyPost_ret (v := .agg #[.int .i64 z, .int .i64 (1 + k3)]) (by simp [results, Tryz.results139, go_sem, *]) rfl ⟨z, (1 + k3), rfl, by omega, by omega, by omega, by omega, (HB6.out.set0 z).done (by omega) _ _⟩
   ·
    skip
    have HN5 := hide (nums4 w5 3)
    go_wp2_with fail
    refine (pick R _ 4 _ (HB5.out.alloc _).1 (by omega) (by first | decide | omega)).mono ?_
    rintro e w6 ⟨k6, rfl, hk06, hk16, hR6, hg6⟩
    have hl6 := hk16 (by first | decide | omega)
    have HB6 := hide (BSt.pick (HB5.out.alloc _) hR6 hg6)
    obtain ⟨⟨x16, x26, x36⟩, c06, c16, c26, c36, f06, f16⟩ := HB6.out.2.2
    have HN6 := hide (HN5.out.grow (by omega) (by simp) hg6)
    obtain ⟨i6, rfl⟩ := Int.eq_ofNat_of_zero_le hk06
    obtain ⟨z, hz1, hz2, hz3⟩ := HN6.out i6 (by omega)
    go_wp2_with fail
    exact bodyPost_ret (v := .agg #[.int .i64 (1 + k2), .int .i64 z]) (by simp [results, Tryz.results139, go_sem, *]) rfl ⟨(1 + k2), z, rfl, by omega, by omega, by omega, by omega, (HB6.out.set1 z).done (by omega) _ _⟩
  ·
   skip
   go_wp2_with fail
   exact bodyPost_ret (v := .agg #[.int .i64 (1 + k2), .int .i64 (1 + k3)]) (by simp [results, Tryz.results139, go_sem, *]) rfl ⟨(1 + k2), (1 + k3), rfl, by omega, by omega, by omega, by omega, (HB4.out).done (by omega) _ _⟩
 ·
  go_wp2_with fail
  refine (pick R _ 3 _ HB1.out.1 (by omega) (by first | decide | omega)).mono ?_
  rintro e w2 ⟨k2, rfl, hk02, hk12, hR2, hg2⟩
  have hl2 := hk12 (by first | decide | omega)
  have HB2 := hide (BSt.pick HB1.out hR2 hg2)
  obtain ⟨⟨x12, x22, x32⟩, c02, c12, c22, c32, f02, f12⟩ := HB2.out.2.2
  by_cases z2 : k2 = 0
  ·
   subst z2
   go_wp2_with fail
   refine (pick R _ n _ (HB2.out.set0 4).1 (by omega) (by first | decide | omega)).mono ?_
   rintro e w4 ⟨k4, rfl, hk04, hk14, hR4, hg4⟩
   have hl4 := hk14 (by first | decide | omega)
   have HB4 := hide (BSt.pick (HB2.out.set0 4) hR4 hg4)
   obtain ⟨⟨x14, x24, x34⟩, c04, c14, c24, c34, f04, f14⟩ := HB4.out.2.2
   by_cases z4 : k4 = 0
   ·
    subst z4
    go_wp2_with fail
    refine (pick R _ 2 _ HB4.out.1 (by omega) (by first | decide | omega)).mono ?_
    rintro e w5 ⟨k5, rfl, hk05, hk15, hR5, hg5⟩
    have hl5 := hk15 (by first | decide | omega)
    have HB5 := hide (BSt.pick HB4.out hR5 hg5)
    obtain ⟨⟨x15, x25, x35⟩, c05, c15, c25, c35, f05, f15⟩ := HB5.out.2.2
    by_cases z5 : k5 = 0
    ·
     subst z5
     have HN5 := hide (nums3 w5 3)
     go_wp2_with fail
     refine (pick R _ 3 _ (HB5.out.alloc _).1 (by omega) (by first | decide | omega)).mono ?_
     rintro e w6 ⟨k6, rfl, hk06, hk16, hR6, hg6⟩
     have hl6 := hk16 (by first | decide | omega)
     have HB6 := hide (BSt.pick (HB5.out.alloc _) hR6 hg6)
     obtain ⟨⟨x16, x26, x36⟩, c06, c16, c26, c36, f06, f16⟩ := HB6.out.2.2
     have HN6 := hide (HN5.out.grow (by omega) (by simp) hg6)
     obtain ⟨i6, rfl⟩ := Int.eq_ofNat_of_zero_le hk06
     obtain ⟨z, hz1, hz2, hz3⟩ := HN6.out i6 (by omega)
     go_wp2_with fail
     exact bodyPost_ret (v := .agg #[.int .i64 z, .int .i64 0]) (by simp [results, Tryz.results139, go_sem, *]) rfl ⟨z, 0, rfl, by omega, by omega, by omega, by omega, (HB6.out.set0 z).done (by omega) _ _⟩
    ·
     skip
     have HN5 := hide (nums4 w5 3)
     go_wp2_with fail
     refine (pick R _ 4 _ (HB5.out.alloc _).1 (by omega) (by first | decide | omega)).mono ?_
     rintro e w6 ⟨k6, rfl, hk06, hk16, hR6, hg6⟩
     have hl6 := hk16 (by first | decide | omega)
     have HB6 := hide (BSt.pick (HB5.out.alloc _) hR6 hg6)
     obtain ⟨⟨x16, x26, x36⟩, c06, c16, c26, c36, f06, f16⟩ := HB6.out.2.2
     have HN6 := hide (HN5.out.grow (by omega) (by simp) hg6)
     obtain ⟨i6, rfl⟩ := Int.eq_ofNat_of_zero_le hk06
     obtain ⟨z, hz1, hz2, hz3⟩ := HN6.out i6 (by omega)
     go_wp2_with fail
     exact bodyPost_ret (v := .agg #[.int .i64 4, .int .i64 z]) (by simp [results, Tryz.results139, go_sem, *]) rfl ⟨4, z, rfl, by omega, by omega, by omega, by omega, (HB6.out.set1 z).done (by omega) _ _⟩
   ·
    skip
    go_wp2_with fail
    exact bodyPost_ret (v := .agg #[.int .i64 4, .int .i64 0]) (by simp [results, Tryz.results139, go_sem, *]) rfl ⟨4, 0, rfl, by omega, by omega, by omega, by omega, (HB4.out).done (by omega) _ _⟩
  ·
   go_wp2_with fail
   refine (pick R _ n _ HB2.out.1 (by omega) (by first | decide | omega)).mono ?_
   rintro e w4 ⟨k4, rfl, hk04, hk14, hR4, hg4⟩
   have hl4 := hk14 (by first | decide | omega)
   have HB4 := hide (BSt.pick HB2.out hR4 hg4)
   obtain ⟨⟨x14, x24, x34⟩, c04, c14, c24, c34, f04, f14⟩ := HB4.out.2.2
   by_cases z4 : k4 = 0
   ·
    subst z4
    go_wp2_with fail
    refine (pick R _ 2 _ HB4.out.1 (by omega) (by first | decide | omega)).mono ?_
    rintro e w5 ⟨k5, rfl, hk05, hk15, hR5, hg5⟩
    have hl5 := hk15 (by first | decide | omega)
    have HB5 := hide (BSt.pick HB4.out hR5 hg5)
    obtain ⟨⟨x15, x25, x35⟩, c05, c15, c25, c35, f05, f15⟩ := HB5.out.2.2
    by_cases z5 : k5 = 0
    ·
     subst z5
     have HN5 := hide (nums3 w5 3)
     go_wp2_with fail
     refine (pick R _ 3 _ (HB5.out.alloc _).1 (by omega) (by first | decide | omega)).mono ?_
     rintro e w6 ⟨k6, rfl, hk06, hk16, hR6, hg6⟩
     have hl6 := hk16 (by first | decide | omega)
     have HB6 := hide (BSt.pick (HB5.out.alloc _) hR6 hg6)
     obtain ⟨⟨x16, x26, x36⟩, c06, c16, c26, c36, f06, f16⟩ := HB6.out.2.2
     have HN6 := hide (HN5.out.grow (by omega) (by simp) hg6)
     obtain ⟨i6, rfl⟩ := Int.eq_ofNat_of_zero_le hk06
     obtain ⟨z, hz1, hz2, hz3⟩ := HN6.out i6 (by omega)
     go_wp2_with fail
     exact bodyPost_ret (v := .agg #[.int .i64 z, .int .i64 0]) (by simp [results, Tryz.results139, go_sem, *]) rfl ⟨z, 0, rfl, by omega, by omega, by omega, by omega, (HB6.out.set0 z).done (by omega) _ _⟩
    ·
     skip
     have HN5 := hide (nums4 w5 3)
     go_wp2_with fail
     refine (pick R _ 4 _ (HB5.out.alloc _).1 (by omega) (by first | decide | omega)).mono ?_
     rintro e w6 ⟨k6, rfl, hk06, hk16, hR6, hg6⟩
     have hl6 := hk16 (by first | decide | omega)
     have HB6 := hide (BSt.pick (HB5.out.alloc _) hR6 hg6)
     obtain ⟨⟨x16, x26, x36⟩, c06, c16, c26, c36, f06, f16⟩ := HB6.out.2.2
     have HN6 := hide (HN5.out.grow (by omega) (by simp) hg6)
     obtain ⟨i6, rfl⟩ := Int.eq_ofNat_of_zero_le hk06
     obtain ⟨z, hz1, hz2, hz3⟩ := HN6.out i6 (by omega)
     go_wp2_with fail
     exact bodyPost_ret (v := .agg #[.int .i64 0, .int .i64 z]) (by simp [results, Tryz.results139, go_sem, *]) rfl ⟨0, z, rfl, by omega, by omega, by omega, by omega, (HB6.out.set1 z).done (by omega) _ _⟩
   ·
    skip
    go_wp2_with fail
    exact bodyPost_ret (v := .agg #[.int .i64 0, .int .i64 0]) (by simp [results, Tryz.results139, go_sem, *]) rfl ⟨0, 0, rfl, by omega, by omega, by omega, by omega, (HB4.out).done (by omega) _ _⟩
 ·
  go_wp2_with fail
  refine (pick R _ n _ HB1.out.1 (by omega) (by first | decide | omega)).mono ?_
  rintro e w4 ⟨k4, rfl, hk04, hk14, hR4, hg4⟩
  have hl4 := hk14 (by first | decide | omega)
  have HB4 := hide (BSt.pick HB1.out hR4 hg4)
  obtain ⟨⟨x14, x24, x34⟩, c04, c14, c24, c34, f04, f14⟩ := HB4.out.2.2
  by_cases z4 : k4 = 0
  ·
   subst z4
   go_wp2_with fail
   refine (pick R _ 2 _ HB4.out.1 (by omega) (by first | decide | omega)).mono ?_
   rintro e w5 ⟨k5, rfl, hk05, hk15, hR5, hg5⟩
   have hl5 := hk15 (by first | decide | omega)
   have HB5 := hide (BSt.pick HB4.out hR5 hg5)
   obtain ⟨⟨x15, x25, x35⟩, c05, c15, c25, c35, f05, f15⟩ := HB5.out.2.2
   by_cases z5 : k5 = 0
   ·
    subst z5
    have HN5 := hide (nums3 w5 3)
    go_wp2_with fail
    refine (pick R _ 3 _ (HB5.out.alloc _).1 (by omega) (by first | decide | omega)).mono ?_
    rintro e w6 ⟨k6, rfl, hk06, hk16, hR6, hg6⟩
    have hl6 := hk16 (by first | decide | omega)
    have HB6 := hide (BSt.pick (HB5.out.alloc _) hR6 hg6)
    obtain ⟨⟨x16, x26, x36⟩, c06, c16, c26, c36, f06, f16⟩ := HB6.out.2.2
    have HN6 := hide (HN5.out.grow (by omega) (by simp) hg6)
    obtain ⟨i6, rfl⟩ := Int.eq_ofNat_of_zero_le hk06
    obtain ⟨z, hz1, hz2, hz3⟩ := HN6.out i6 (by omega)
    go_wp2_with fail
    exact bodyPost_ret (v := .agg #[.int .i64 z, .int .i64 0]) (by simp [results, Tryz.results139, go_sem, *]) rfl ⟨z, 0, rfl, by omega, by omega, by omega, by omega, (HB6.out.set0 z).done (by omega) _ _⟩
   ·
    skip
    have HN5 := hide (nums4 w5 3)
    go_wp2_with fail
    refine (pick R _ 4 _ (HB5.out.alloc _).1 (by omega) (by first | decide | omega)).mono ?_
    rintro e w6 ⟨k6, rfl, hk06, hk16, hR6, hg6⟩
    have hl6 := hk16 (by first | decide | omega)
    have HB6 := hide (BSt.pick (HB5.out.alloc _) hR6 hg6)
    obtain ⟨⟨x16, x26, x36⟩, c06, c16, c26, c36, f06, f16⟩ := HB6.out.2.2
    have HN6 := hide (HN5.out.grow (by omega) (by simp) hg6)
    obtain ⟨i6, rfl⟩ := Int.eq_ofNat_of_zero_le hk06
    obtain ⟨z, hz1, hz2, hz3⟩ := HN6.out i6 (by omega)
    go_wp2_with fail
    exact bodyPost_ret (v := .agg #[.int .i64 0, .int .i64 z]) (by simp [results, Tryz.results139, go_sem, *]) rfl ⟨0, z, rfl, by omega, by omega, by omega, by omega, (HB6.out.set1 z).done (by omega) _ _⟩
  ·
   skip
   go_wp2_with fail
   exact bodyPost_ret (v := .agg #[.int .i64 0, .int .i64 0]) (by simp [results, Tryz.results139, go_sem, *]) rfl ⟨0, 0, rfl, by omega, by omega, by omega, by omega, (HB4.out).done (by omega) _ _⟩
end Go.Proofs.YtpfagdmmhgcmnaaGreatDoor

namespace Go.Proofs.YtpfagdmmhgcmnaaGreatDoor
open Go.RowKit
section
variable {P : Program} {ops : Array Oper} {Q : Exit → Act → World → Prop} {md : Region.Mode} {S : World → Prop} {L : Nat}
theorem wpAnyT_pair {i j : Nat} {oi oj : Oper} {fuel : Nat} {listed : Array Bool} {a : Act} {w : World} (hr : Region.ready md ops listed = [i, j]) (hi : ops[i]? = some oi) (hj : ops[j]? = some oj)
  (h1 : ∀ K' : Act → World → Prop, Shut (∀ a w, (i ≠ L → S w) → wpAnyT P md ops Q S L fuel (listed.setIfInBounds i true) a w → K' a w) → if Region.wanted oi (yielded ops a.tmps) = true then Oper.wp P oi a w K' Q else K' (a.put oi.dst undef) w)
  (h2 : ∀ K' : Act → World → Prop, Shut (∀ a w, (j ≠ L → S w) → wpAnyT P md ops Q S L fuel (listed.setIfInBounds j true) a w → K' a w) → if Region.wanted oj (yielded ops a.tmps) = true then Oper.wp P oj a w K' Q else K' (a.put oj.dst undef) w) :
  wpAnyT P md ops Q S L (fuel + 1) listed a w := by
 refine And.intro (fun h0 => absurd (hr.symm.trans h0) (List.cons_ne_nil _ _)) ?_
 intro k hk
 rw [hr] at hk
 rcases List.mem_cons.1 hk with rfl | hk
 ·
  exact wpOp_step hi (fun K' hK => h1 K' (fun a w h1 h2 => hK a w ⟨h1, h2⟩))
 ·
  rw [List.mem_singleton] at hk
  subst hk
  exact wpOp_step hj (fun K' hK => h2 K' (fun a w h1 h2 => hK a w ⟨h1, h2⟩))
end
def AnyTextPost (R N : Nat) (w : World) (e : Ending) (w' : World) : Prop :=
 ∃ s : ByteArray, e = .returned (.string s) ∧ s.size ≤ 100 ∧ RdrOk w' R N ∧ w.grownBy w' (some R)
theorem words7 (w : World) (T : TypeId) : Words (w.alloc (.cells #[.string ⟨#[32]⟩, .string ⟨#[32, 32]⟩, .string ⟨#[65]⟩, .string ⟨#[49]⟩, .string ⟨#[45]⟩, .string ⟨#[0]⟩, .string ⟨#[97, 98, 99, 100, 101, 102, 103, 104, 105, 106, 97, 98, 99, 100, 101, 102, 103, 104, 105, 106, 97, 98, 99, 100, 101, 102, 103, 104, 105, 106, 120]⟩] T)) w.heap.size 31 7 := by
 intro j hj
 match j, hj with
 | 0, _ => exact ⟨_, by decide, cell_new _ _ _ _ _ _ rfl⟩
 | 1, _ => exact ⟨_, by decide, cell_new _ _ _ _ _ _ rfl⟩
 | 2, _ => exact ⟨_, by decide, cell_new _ _ _ _ _ _ rfl⟩
 | 3, _ => exact ⟨_, by decide, cell_new _ _ _ _ _ _ rfl⟩
 | 4, _ => exact ⟨_, by decide, cell_new _ _ _ _ _ _ rfl⟩
 | 5, _ => exact ⟨_, by decide, cell_new _ _ _ _ _ _ rfl⟩
 | 6, _ => exact ⟨_, by decide, cell_new _ _ _ _ _ _ rfl⟩
 | j + 7, hj => exact absurd hj (by omega)
set_option linter.unusedSimpArgs false in
set_option maxRecDepth 100000 in
set_option maxHeartbeats 4000000 in
theorem rdAnyText (R N : Nat) (n : Int) (w : World) (h : RdrOk w R N) (hN : N ≤ 800000) (hn1 : 1 ≤ n) (hn : n ≤ 1000000) :
  Calls Tryz.prog 75 #[.pointer (some ⟨R, 0, none⟩), .int .i64 n] w (AnyTextPost R (N + 10) w) := by
 have hRl := h.lt
 have HR := hide h
 clear h
 go_enter Tryz.func75, Tryz.ntmps75
 go_wp2_with fail
 refine (rdText R N _ HR.out (by omega)).mono ?_
 rintro e w1 ⟨s, rfl, hs, hR1, hg1⟩
 have H1 := hide (And.intro hR1 hg1)
 clear hR1 hg1
 go_wp2_with fail
 refine (pick R _ n _ H1.out.1 (by omega) hn).mono ?_
 rintro e w2 ⟨k2, rfl, hk02, hk12, hR2, hg2⟩
 have H2 := hide (And.intro hR2 (grow_trans H1.out.2 hg2))
 clear hR2 hg2 hk12
 by_cases z2 : k2 = 0
 ·
  subst z2
  have t1 : IntKind.i64.wrap ((s.size : Int) + 1) = (s.size : Int) + 1 := IntWalk.i64_in _ (by omega)
  go_wp2_with fail
  refine (pick R _ _ _ H2.out.1 (by omega) (by omega)).mono ?_
  rintro e w3 ⟨k3, rfl, hk03, hk13, hR3, hg3⟩
  have hl3 := hk13 (by omega)
  obtain ⟨i, rfl⟩ := Int.eq_ofNat_of_zero_le hk03
  have H3 := hide (And.intro hR3 (grow_trans H2.out.2 hg3))
  have hi : i ≤ s.size := by omega
  have hiz : (i : Int) ≤ (s.size : Int) := by omega
  clear hR3 hg3 hk13 hl3 hk03 t1
  go_wp2_with fail
  refine wp_region_T (S := fun _ => True) (L := 13) (by kernel_rfl) ?_
  have hSd : (fun _ : World => True) w3.drew := trivial
  refine' wpAnyT_take [13] (i := 0) (v := _) rfl (by kernel_rfl) (by kernel_rfl) (by kernel_rfl) (by kernel_rfl) (by kernel_rfl) (by kernel_rfl) (fun _ _ _ h => h) (Or.inl ⟨by rfl, ?hy0⟩) hSd ?_
  case hy0 => (intro w hSw; (try dsimp only at hSw); go_simp) <;> with_reducible rfl
  try simp only [Act.put, List.setIfInBounds_toArray, List.set_cons_zero, List.set_cons_succ]
  refine' wpAnyT_take [13] (i := 1) (v := _) rfl (by kernel_rfl) (by kernel_rfl) (by kernel_rfl) (by kernel_rfl) (by kernel_rfl) (by kernel_rfl) (fun _ _ _ h => h) (Or.inl ⟨by rfl, ?hy1⟩) hSd ?_
  case hy1 => (intro w hSw; (try dsimp only at hSw); go_simp) <;> with_reducible rfl
  try simp only [Act.put, List.setIfInBounds_toArray, List.set_cons_zero, List.set_cons_succ]
  refine' wpAnyT_take [13] (i := 2) (v := _) rfl (by kernel_rfl) (by kernel_rfl) (by kernel_rfl) (by kernel_rfl) (by kernel_rfl) (by kernel_rfl) (fun _ _ _ h => h) (Or.inl ⟨by rfl, ?hy2⟩) hSd ?_
  case hy2 => (intro w hSw; (try dsimp only at hSw); go_simp) <;> with_reducible rfl
  try simp only [Act.put, List.setIfInBounds_toArray, List.set_cons_zero, List.set_cons_succ]
  refine' wpAnyT_take [13] (i := 4) (v := _) rfl (by kernel_rfl) (by kernel_rfl) (by kernel_rfl) (by kernel_rfl) (by kernel_rfl) (by kernel_rfl) (fun _ _ _ h => h) (Or.inl ⟨by rfl, ?hy4⟩) hSd ?_
  case hy4 => (intro w hSw; (try dsimp only at hSw); go_simp) <;> with_reducible rfl
  try simp only [Act.put, List.setIfInBounds_toArray, List.set_cons_zero, List.set_cons_succ]
  refine' wpAnyT_take [13] (i := 9) (v := _) rfl (by kernel_rfl) (by kernel_rfl) (by kernel_rfl) (by kernel_rfl) (by kernel_rfl) (by kernel_rfl) (fun _ _ _ h => h) (Or.inl ⟨by rfl, ?hy9⟩) hSd ?_
  case hy9 => (intro w hSw; (try dsimp only at hSw); go_simp) <;> with_reducible rfl
  try simp only [Act.put, List.setIfInBounds_toArray, List.set_cons_zero, List.set_cons_succ]
  refine' wpAnyT_take [13] (i := 10) (v := _) rfl (by kernel_rfl) (by kernel_rfl) (by kernel_rfl) (by kernel_rfl) (by kernel_rfl) (by kernel_rfl) (fun _ _ _ h => h) (Or.inl ⟨by rfl, ?hy10⟩) hSd ?_
  case hy10 => (intro w hSw; (try dsimp only at hSw); go_simp) <;> with_reducible rfl
  try simp only [Act.put, List.setIfInBounds_toArray, List.set_cons_zero, List.set_cons_succ]
  refine' wpAnyT_take [13] (i := 11) (v := _) rfl (by kernel_rfl) (by kernel_rfl) (by kernel_rfl) (by kernel_rfl) (by kernel_rfl) (by kernel_rfl) (fun _ _ _ h => h) (Or.inl ⟨by rfl, ?hy11⟩) hSd ?_
  case hy11 => (intro w hSw; (try dsimp only at hSw); go_simp) <;> with_reducible rfl
  try simp only [Act.put, List.setIfInBounds_toArray, List.set_cons_zero, List.set_cons_succ]
  have hsa : (s.extract 0 i).size ≤ 30 := by simp; omega
  have hsb : (s.extract i s.size).size ≤ 30 := by simp; omega
  generalize s.extract 0 i = a at hsa ⊢
  generalize s.extract i s.size = b at hsb ⊢
  refine wpAnyT_pair (i := 3) (j := 5) (by kernel_rfl) rfl rfl (fun K hK => ?_) (fun K hK => ?_)
  ·
   go_simp
   refine hK.out _ _ (fun _ => trivial) ?_
   clear hK K
   try simp only [Act.put, List.setIfInBounds_toArray, List.set_cons_zero, List.set_cons_succ]
   refine wpAnyT_one (i := 5) (by kernel_rfl) rfl (fun K hK => ?_)
   have HA := hide (And.intro (H3.out.1.below (bdrew (balloc (brefl w3) (.cells #[.string ⟨#[32]⟩, .string ⟨#[32, 32]⟩, .string ⟨#[65]⟩, .string ⟨#[49]⟩, .string ⟨#[45]⟩, .string ⟨#[0]⟩, .string ⟨#[97, 98, 99, 100, 101, 102, 103, 104, 105, 106, 97, 98, 99, 100, 101, 102, 103, 104, 105, 106, 97, 98, 99, 100, 101, 102, 103, 104, 105, 106, 120]⟩] 9)))) (And.intro (grow_trans H3.out.2 (grow_below (bdrew (balloc (brefl w3) (.cells #[.string ⟨#[32]⟩, .string ⟨#[32, 32]⟩, .string ⟨#[65]⟩, .string ⟨#[49]⟩, .string ⟨#[45]⟩, .string ⟨#[0]⟩, .string ⟨#[97, 98, 99, 100, 101, 102, 103, 104, 105, 106, 97, 98, 99, 100, 101, 102, 103, 104, 105, 106, 97, 98, 99, 100, 101, 102, 103, 104, 105, 106, 120]⟩] 9))))) ((words7 w3 9).grow (R := R) (by have := H3.out.1.lt; omega) (by simp) (grow_below (bdrew (brefl _))))))
   go_simp
   refine (pick R _ 7 _ HA.out.1 (by omega) (by decide)).mono ?_
   rintro e w5 ⟨k5, rfl, hk05, hk15, hR5, hg5⟩
   have hl5 := hk15 (by decide)
   obtain ⟨q, rfl⟩ := Int.eq_ofNat_of_zero_le hk05
   obtain ⟨z, hz, hc⟩ := (HA.out.2.2.grow (by have := H3.out.1.lt; omega) (by simp) hg5) q (by omega)
   have H5 := hide (And.intro hR5 (grow_trans HA.out.2.1 hg5))
   clear hR5 hg5 hk15 hk05 HA
   refine hK.out _ _ (fun _ => trivial) ?_
   clear hK K
   try simp only [Act.put, List.setIfInBounds_toArray, List.set_cons_zero, List.set_cons_succ]
   have c1 : ¬ 9223372036854775807 < a.size + z.size := by omega
   have c2 : ¬ 9223372036854775807 < a.size + z.size + b.size := by omega
   refine wpAnyT_one (i := 6) (by kernel_rfl) rfl (fun K hK => ?_)
   go_simp
   refine hK.out _ _ (fun h => trivial) ?_
   clear hK K
   try simp only [Act.put, List.setIfInBounds_toArray, List.set_cons_zero, List.set_cons_succ]
   refine wpAnyT_one (i := 7) (by kernel_rfl) rfl (fun K hK => ?_)
   go_simp
   refine hK.out _ _ (fun h => trivial) ?_
   clear hK K
   try simp only [Act.put, List.setIfInBounds_toArray, List.set_cons_zero, List.set_cons_succ]
   refine wpAnyT_one (i := 8) (by kernel_rfl) rfl (fun K hK => ?_)
   go_simp
   refine hK.out _ _ (fun h => trivial) ?_
   clear hK K
   try simp only [Act.put, List.setIfInBounds_toArray, List.set_cons_zero, List.set_cons_succ]
   refine wpAnyT_one (i := 12) (by kernel_rfl) rfl (fun K hK => ?_)
   go_simp
   refine hK.out _ _ (fun h => trivial) ?_
   clear hK K
   try simp only [Act.put, List.setIfInBounds_toArray, List.set_cons_zero, List.set_cons_succ]
   refine wpAnyT_one (i := 13) (by kernel_rfl) rfl (fun K hK => ?_)
   go_simp
   refine hK.out _ _ (fun h => absurd rfl h) ?_
   clear hK K
   try simp only [Act.put, List.setIfInBounds_toArray, List.set_cons_zero, List.set_cons_succ]
   refine wpAnyT_done (by kernel_rfl) ?_ _
   go_wp2_with fail
   go_ret
   exact ⟨(a ++ z) ++ b, rfl, by rw [ByteArray.size_append, ByteArray.size_append]; omega, H5.out.1.mono (by omega), H5.out.2⟩
  ·
   go_simp
   refine (pick R _ 7 _ (H3.out.1.below (bdrew (brefl w3))) (by omega) (by decide)).mono ?_
   rintro e w5 ⟨k5, rfl, hk05, hk15, hR5, hg5⟩
   have hl5 := hk15 (by decide)
   obtain ⟨q, rfl⟩ := Int.eq_ofNat_of_zero_le hk05
   have H5 := hide (And.intro (hR5.below (balloc (brefl w5) (.cells #[.string ⟨#[32]⟩, .string ⟨#[32, 32]⟩, .string ⟨#[65]⟩, .string ⟨#[49]⟩, .string ⟨#[45]⟩, .string ⟨#[0]⟩, .string ⟨#[97, 98, 99, 100, 101, 102, 103, 104, 105, 106, 97, 98, 99, 100, 101, 102, 103, 104, 105, 106, 97, 98, 99, 100, 101, 102, 103, 104, 105, 106, 120]⟩] 9))) (grow_trans (grow_trans H3.out.2 (grow_trans (grow_below (bdrew (brefl w3))) hg5)) (World.grownBy_alloc w5 (.cells #[.string ⟨#[32]⟩, .string ⟨#[32, 32]⟩, .string ⟨#[65]⟩, .string ⟨#[49]⟩, .string ⟨#[45]⟩, .string ⟨#[0]⟩, .string ⟨#[97, 98, 99, 100, 101, 102, 103, 104, 105, 106, 97, 98, 99, 100, 101, 102, 103, 104, 105, 106, 97, 98, 99, 100, 101, 102, 103, 104, 105, 106, 120]⟩] 9) (some R))))
   obtain ⟨z, hz, hc⟩ := words7 w5 9 q (by omega)
   clear hR5 hg5 hk15 hk05
   refine hK.out _ _ (fun _ => trivial) ?_
   clear hK K
   try simp only [Act.put, List.setIfInBounds_toArray, List.set_cons_zero, List.set_cons_succ]
   refine wpAnyT_one (i := 3) (by kernel_rfl) rfl (fun K hK => ?_)
   go_simp
   refine hK.out _ _ (fun _ => trivial) ?_
   clear hK K
   try simp only [Act.put, List.setIfInBounds_toArray, List.set_cons_zero, List.set_cons_succ]
   have c1 : ¬ 9223372036854775807 < a.size + z.size := by omega
   have c2 : ¬ 9223372036854775807 < a.size + z.size + b.size := by omega
   refine wpAnyT_one (i := 6) (by kernel_rfl) rfl (fun K hK => ?_)
   go_simp
   refine hK.out _ _ (fun h => trivial) ?_
   clear hK K
   try simp only [Act.put, List.setIfInBounds_toArray, List.set_cons_zero, List.set_cons_succ]
   refine wpAnyT_one (i := 7) (by kernel_rfl) rfl (fun K hK => ?_)
   go_simp
   refine hK.out _ _ (fun h => trivial) ?_
   clear hK K
   try simp only [Act.put, List.setIfInBounds_toArray, List.set_cons_zero, List.set_cons_succ]
   refine wpAnyT_one (i := 8) (by kernel_rfl) rfl (fun K hK => ?_)
   go_simp
   refine hK.out _ _ (fun h => trivial) ?_
   clear hK K
   try simp only [Act.put, List.setIfInBounds_toArray, List.set_cons_zero, List.set_cons_succ]
   refine wpAnyT_one (i := 12) (by kernel_rfl) rfl (fun K hK => ?_)
   go_simp
   refine hK.out _ _ (fun h => trivial) ?_
   clear hK K
   try simp only [Act.put, List.setIfInBounds_toArray, List.set_cons_zero, List.set_cons_succ]
   refine wpAnyT_one (i := 13) (by kernel_rfl) rfl (fun K hK => ?_)
   go_simp
   refine hK.out _ _ (fun h => absurd rfl h) ?_
   clear hK K
   try simp only [Act.put, List.setIfInBounds_toArray, List.set_cons_zero, List.set_cons_succ]
   refine wpAnyT_done (by kernel_rfl) ?_ _
   go_wp2_with fail
   go_ret
   exact ⟨(a ++ z) ++ b, rfl, by rw [ByteArray.size_append, ByteArray.size_append]; omega, H5.out.1.mono (by omega), H5.out.2⟩
 ·
  have hkz : (0 : Int) < k2 := by omega
  go_wp2_with fail
  go_ret
  exact ⟨s, rfl, by omega, H2.out.1.mono (by omega), H2.out.2⟩
end Go.Proofs.YtpfagdmmhgcmnaaGreatDoor

namespace Go.Proofs.YtpfagdmmhgcmnaaGreatDoor
open Go.RowKit
section
variable {P : Program} {ops : Array Oper} {Q : Exit → Act → World → Prop} {md : Region.Mode}
theorem getD_any {l : Array Bool} {j : Nat} (h : j < l.size) (a b : Bool) : l.getD j a = l.getD j b := by
 simp [Array.getD, h]
theorem ready_nil_all (htop : ∀ (j : Nat) o, ops[j]? = some o → ∀ e ∈ o.after, e.on < j) {listed : Array Bool} (hsz : listed.size = ops.size) (h : Region.ready md ops listed = []) :
  ∀ j, j < ops.size → listed.getD j true = true := by
 intro j
 induction j using Nat.strongRecOn with
 | _ j ih =>
  intro hj
  cases hf : listed.getD j true with
  | true => rfl
  | false =>
   have : j ∈ Region.ready md ops listed := by
    refine mem_ready.2 ⟨hf, ops[j], Array.getElem?_eq_getElem hj, fun e he _ => ?_⟩
    have h1 := htop j _ (Array.getElem?_eq_getElem hj) e he
    rw [getD_any (by omega) false true]
    exact ih e.on h1 (by omega)
   rw [h] at this
   cases this
def opens (l : Array Bool) : Nat := l.toList.count false
theorem opens_set {l : Array Bool} {i : Nat} (h : l.getD i true = false) : opens (l.setIfInBounds i true) + 1 = opens l := by
 have hi : i < l.size := by
  cases Nat.lt_or_ge i l.size with
  | inl h1 => exact h1
  | inr h1 => simp [Array.getD, Nat.not_lt.2 h1] at h
 have hv : l[i] = false := by simpa [Array.getD, hi] using h
 unfold opens
 rw [Array.toList_setIfInBounds, List.count_set (by simpa using hi)]
 have hpos : 0 < l.toList.count false := List.count_pos_iff.2 (by rw [← hv]; simp)
 rw [if_pos (by simp [hv]), if_neg (by decide)]
 omega
theorem opens_zero {l : Array Bool} (h : opens l = 0) (j : Nat) : l.getD j true = true := by
 cases hf : l.getD j true with
 | true => rfl
 | false => have := opens_set hf; omega
theorem wpAny_inv (I : Array Bool → Act → World → Prop) (htop : ∀ (j : Nat) o, ops[j]? = some o → ∀ e ∈ o.after, e.on < j)
  (hstep : ∀ (listed : Array Bool) (a : Act) (w : World) (i : Nat) (o : Oper), ops[i]? = some o → listed.getD i true = false → (∀ e ∈ o.after, Region.binds md e = true → listed.getD e.on false = true) → listed.size = ops.size → I listed a w →
   ∀ K' : Act → World → Prop, Shut (∀ a w, I (listed.setIfInBounds i true) a w → K' a w) → if Region.wanted o (yielded ops a.tmps) = true then Oper.wp P o a w K' Q else K' (a.put o.dst undef) w)
  (hend : ∀ (listed : Array Bool) (a : Act) (w : World), (∀ j, j < ops.size → listed.getD j true = true) → I listed a w → Q .normal a w) :
  ∀ (fuel : Nat) (listed : Array Bool) (a : Act) (w : World), listed.size = ops.size → opens listed ≤ fuel → I listed a w → wpAny P md ops Q fuel listed a w := by
 intro fuel
 induction fuel with
 | zero =>
  intro listed a w hsz ho hI
  have hz := opens_zero (Nat.le_zero.1 ho)
  refine ⟨?_, hend listed a w (fun j _ => hz j) hI⟩
  cases hr : Region.ready md ops listed with
  | nil => rfl
  | cons i rs =>
   have hm : i ∈ Region.ready md ops listed := by rw [hr]; exact List.mem_cons_self
   have h1 := (mem_ready.1 hm).1
   rw [hz i] at h1
   cases h1
 | succ fuel ih =>
  intro listed a w hsz ho hI
  refine ⟨fun hr => hend listed a w (ready_nil_all htop hsz hr) hI, fun i hi => ?_⟩
  obtain ⟨h1, o, h2, h3⟩ := mem_ready.1 hi
  refine wpOp_mono (fun a' w' h => ?_) (wpOp_step (K := fun a w => I (listed.setIfInBounds i true) a w) h2 (fun K' hK => hstep listed a w i o h2 h1 h3 hsz hI K' hK))
  exact ih _ a' w' (by simpa using hsz) (by have := opens_set h1; omega) h
theorem wp_region_inv {id : Nat} {a : Act} {w : World} (I : Array Bool → Act → World → Prop) (hm : P.follows .mixedOrders = true) (htop : ∀ (j : Nat) o, ops[j]? = some o → ∀ e ∈ o.after, e.on < j)
  (h0 : I (Array.replicate ops.size false) a w.drew)
  (hstep : ∀ (listed : Array Bool) (a : Act) (w : World) (i : Nat) (o : Oper), ops[i]? = some o → listed.getD i true = false → (∀ e ∈ o.after, Region.binds .any e = true → listed.getD e.on false = true) → listed.size = ops.size → I listed a w →
   ∀ K' : Act → World → Prop, Shut (∀ a w, I (listed.setIfInBounds i true) a w → K' a w) → if Region.wanted o (yielded ops a.tmps) = true then Oper.wp P o a w K' Q else K' (a.put o.dst undef) w)
  (hend : ∀ (listed : Array Bool) (a : Act) (w : World), (∀ j, j < ops.size → listed.getD j true = true) → I listed a w → Q .normal a w) :
  (Code.region id ops true).wp P Q a w :=
 wp_region_any hm (wpAny_inv I htop hstep hend _ _ _ _ (by simp) (by simp [opens]) h0)
end
end Go.Proofs.YtpfagdmmhgcmnaaGreatDoor
namespace Go.Proofs.YtpfagdmmhgcmnaaGreatDoor
open Go.RowKit
def Zero11 (w : World) (C : Nat) : Prop := w.cell? ⟨C, 0, none⟩ = some (.string ⟨#[]⟩) ∧ (∀ k : Nat, 1 ≤ k → k < 11 → w.cell? ⟨C, k, none⟩ = some (.int .i64 0)) ∧ ∀ i, w.frozen? ⟨C, i, none⟩ = false
def NumsU (u : Int) (w : World) (X n : Nat) : Prop := ∀ j, j < n → ∃ z : Int, -1 ≤ z ∧ z ≤ u ∧ w.cell? ⟨X, j, none⟩ = some (.int .i64 z)
theorem NumsU.grow {u : Int} {w w' : World} {X n R : Nat} (h : NumsU u w X n) (hX : X ≠ R) (hl : X < w.heap.size) (hg : w.grownBy w' (some R)) : NumsU u w' X n := by
 intro j hj
 obtain ⟨z, h1, h2, h3⟩ := h j hj
 exact ⟨z, h1, h2, (World.cell?_of_block (hg.block X hl (fun e => by injection e with e; omega))).trans h3⟩
def ub (j : Nat) : Int := if j ≤ 6 then 5 else 3
def CF (R B : Nat) (j : Nat) (v : Value) (W : World) : Prop :=
 if j = 0 ∨ j = 3 ∨ j = 8 then v = .pointer (some ⟨R, 0, none⟩)
 else if j = 1 then ∃ tx : ByteArray, v = .string tx ∧ tx.size ≤ 30
 else if j = 2 ∨ j = 7 then ∃ X, v = .slice (some ⟨X, 0, none⟩) 6 6 ∧ NumsU (ub j) W X 6 ∧ X ≠ R ∧ X < W.heap.size
 else if j = 4 ∨ j = 9 then ∃ q : Nat, v = .int .i64 q ∧ q < 6
 else if j = 5 ∨ j = 10 then ∃ (X q : Nat) (z : Int), v = .pointer (some ⟨X, q, none⟩) ∧ W.cell? ⟨X, q, none⟩ = some (.int .i64 z) ∧ -1 ≤ z ∧ z ≤ ub j ∧ X ≠ R ∧ X < W.heap.size
 else if j = 6 ∨ j = 11 then ∃ z : Int, v = .int .i64 z ∧ -1 ≤ z ∧ z ≤ ub j
 else if j = 12 then ∃ (tx : ByteArray) (a b : Int), v = .agg #[.string tx, .int .i64 a, .int .i64 b, .int .i64 0, .int .i64 0, .int .i64 0, .int .i64 0, .int .i64 0, .int .i64 0, .int .i64 0, .int .i64 0] ∧ tx.size ≤ 30 ∧ -1 ≤ a ∧ a ≤ 5 ∧ -1 ≤ b ∧ b ≤ 3
 else if j = 13 then ∃ C, v = .pointer (some ⟨C, 0, none⟩) ∧ Zero11 W C ∧ C ≠ R ∧ B ≤ C ∧ C < W.heap.size
 else True
theorem CF.grow {R B j : Nat} {v : Value} {W W' : World} (h : CF R B j v W) (hg : W.grownBy W' (some R)) : CF R B j v W' := by
 have hk : ∀ X, X ≠ R → X < W.heap.size → W'.heap[X]? = W.heap[X]? := fun X h1 h2 => hg.block X h2 (fun e => by injection e with e; omega)
 unfold CF at *
 by_cases c1 : j = 0 ∨ j = 3 ∨ j = 8
 ·
  simpa only [if_pos c1] using h
 ·
  simp only [if_neg c1] at h ⊢
  by_cases c2 : j = 1
  ·
   simpa only [if_pos c2] using h
  ·
   simp only [if_neg c2] at h ⊢
   by_cases c3 : j = 2 ∨ j = 7
   ·
    simp only [if_pos c3] at h ⊢
    obtain ⟨X, h1, h2, h3, h4⟩ := h
    exact ⟨X, h1, h2.grow h3 h4 hg, h3, Nat.lt_of_lt_of_le h4 hg.size⟩
   ·
    simp only [if_neg c3] at h ⊢
    by_cases c4 : j = 4 ∨ j = 9
    ·
     simpa only [if_pos c4] using h
    ·
     simp only [if_neg c4] at h ⊢
     by_cases c5 : j = 5 ∨ j = 10
     ·
      simp only [if_pos c5] at h ⊢
      obtain ⟨X, q, z, h1, h2, h3, h4, h5, h6⟩ := h
      exact ⟨X, q, z, h1, (World.cell?_of_block (hk X h5 h6)).trans h2, h3, h4, h5, Nat.lt_of_lt_of_le h6 hg.size⟩
     ·
      simp only [if_neg c5] at h ⊢
      by_cases c6 : j = 6 ∨ j = 11
      ·
       simpa only [if_pos c6] using h
      ·
       simp only [if_neg c6] at h ⊢
       by_cases c7 : j = 12
       ·
        simpa only [if_pos c7] using h
       ·
        simp only [if_neg c7] at h ⊢
        by_cases c8 : j = 13
        ·
         simp only [if_pos c8] at h ⊢
         obtain ⟨C, h1, ⟨h2, h3, h4⟩, h5, h6, h7⟩ := h
         exact ⟨C, h1, ⟨(World.cell?_of_block (hk C h5 h7)).trans h2, fun k k1 k2 => (World.cell?_of_block (hk C h5 h7)).trans (h3 k k1 k2), fun i => (World.frozen?_of_block (hk C h5 h7)).trans (h4 i)⟩, h5, h6, Nat.lt_of_lt_of_le h7 hg.size⟩
        ·
         simp only [if_neg c8]
def cnt (l : Array Bool) : Nat := (if l.getD 1 false then 7 else 0) + (if l.getD 4 false then 1 else 0) + (if l.getD 9 false then 1 else 0)
def clit (R H : Nat) (n : Int) (vs : Nat → Value) : Act :=
 ⟨#[.pointer (some ⟨R, 0, none⟩), .int .i64 n, undef, undef, .pointer (some ⟨H, 0, none⟩), vs 13, vs 0, vs 1, vs 2, vs 3, vs 4, vs 5, vs 6, vs 7, vs 8, vs 9, vs 10, vs 11, vs 12, undef, undef, undef, undef, undef, undef, undef, undef, undef, undef, undef, undef, undef, undef, undef, undef, undef, undef, undef, undef, undef, undef, undef, undef, undef, undef, undef, undef, undef, undef, undef, undef, undef, undef, undef, undef, undef, undef, undef, undef, undef, undef, undef, undef, undef, undef, undef, undef, undef, undef, undef], []⟩
structure CMid (V : World) (R N : Nat) (l : Array Bool) (vs : Nat → Value) (W : World) : Prop where
 size : l.size = 15
 last : l.getD 14 false = false
 rdr : ∃ p, RdrOk W R p ∧ p ≤ N + cnt l
 grown : V.grownBy W (some R)
 held : ∀ j, l.getD j false = true → CF R V.heap.size j (vs j) W
def updV (vs : Nat → Value) (i : Nat) (v : Value) : Nat → Value := fun j => if j = i then v else vs j
theorem cnt_set {l : Array Bool} {i : Nat} (hl : l.getD i true = false) (hi : i < l.size) : cnt (l.setIfInBounds i true) = cnt l + (if i = 1 then 7 else if i = 4 ∨ i = 9 then 1 else 0) := by
 have hf : l.getD i false = false := by rw [getD_any hi false true]; exact hl
 have ht : (l.setIfInBounds i true).getD i false = true := by simp [Array.getD, hi]
 unfold cnt
 by_cases h1 : i = 1
 ·
  subst h1
  rw [ht, hf, getD_set_ne false (by decide), getD_set_ne false (by decide)]; simp; omega
 ·
  by_cases h4 : i = 4
  ·
   subst h4
   rw [ht, hf, getD_set_ne false (by decide), getD_set_ne false (by decide)]; simp; omega
  ·
   by_cases h9 : i = 9
   ·
    subst h9
    rw [ht, hf, getD_set_ne false (by decide), getD_set_ne false (by decide)]; simp
   ·
    rw [getD_set_ne false h1, getD_set_ne false h4, getD_set_ne false h9]; simp [h1, h4, h9]
theorem CMid.next {V : World} {R N : Nat} {l : Array Bool} {vs : Nat → Value} {W W' : World} (h : CMid V R N l vs W) {i : Nat} (hl : l.getD i true = false) (hi : i < l.size) (h14 : i ≠ 14) (v : Value)
  (hg : W.grownBy W' (some R)) (hr : ∀ p, RdrOk W R p → p ≤ N + cnt l → ∃ p', RdrOk W' R p' ∧ p' ≤ N + cnt (l.setIfInBounds i true)) (hF : CF R V.heap.size i v W') : CMid V R N (l.setIfInBounds i true) (updV vs i v) W' := by
 obtain ⟨p, hp1, hp2⟩ := h.rdr
 refine ⟨by simpa using h.size, by rw [getD_set_ne false h14]; exact h.last, hr p hp1 hp2, grow_trans h.grown hg, fun j hj => ?_⟩
 unfold updV
 by_cases e : j = i
 ·
  subst e; rw [if_pos rfl]; exact hF
 ·
  rw [if_neg e]
  rw [getD_set_ne false (Ne.symm e)] at hj
  exact (h.held j hj).grow hg
end Go.Proofs.YtpfagdmmhgcmnaaGreatDoor
namespace Go.Proofs.YtpfagdmmhgcmnaaGreatDoor
open Go.RowKit
def BlockAt (W : World) (C : Nat) (cs : List Value) : Prop := (∀ k u, cs[k]? = some u → W.cell? ⟨C, k, none⟩ = some u) ∧ ∀ i, W.frozen? ⟨C, i, none⟩ = false
theorem BlockAt.keep {W W' : World} {C : Nat} {cs : List Value} (h : BlockAt W C cs) (hk : W'.heap[C]? = W.heap[C]?) : BlockAt W' C cs :=
 ⟨fun k u hu => (World.cell?_of_block hk).trans (h.1 k u hu), fun i => (World.frozen?_of_block hk).trans (h.2 i)⟩
theorem BlockAt.set {W : World} {C : Nat} {cs : List Value} (h : BlockAt W C cs) {k : Nat} (hk : k < cs.length) (v : Value) : BlockAt (W.setCell ⟨C, k, none⟩ v) C (cs.set k v) := by
 refine ⟨fun j u hu => ?_, fun i => by simpa using h.2 i⟩
 by_cases e : k = j
 ·
  subst e
  rw [List.getElem?_set_self hk] at hu
  injection hu with hu
  subst hu
  exact setS4 (h.1 k _ (List.getElem?_eq_getElem hk))
 ·
  rw [List.getElem?_set_ne e] at hu
  exact setO4 (h.1 j u hu) (fun e' => by injection e' with _ e'; exact e e')
theorem BlockAt.other {W : World} {C : Nat} {cs : List Value} (h : BlockAt W C cs) {a : Addr} (ha : a.block ≠ C) (v : Value) : BlockAt (W.setCell a v) C cs :=
 h.keep (heap_set W a v C (Ne.symm ha))
theorem BlockAt.new (W : World) (cs : List Value) (T : TypeId) : BlockAt (W.alloc (.cells cs.toArray T)) W.heap.size cs :=
 ⟨fun k u hu => cell_new _ _ _ _ _ _ (by simpa using hu), fun i => by simp⟩
def zeros11 : List Value := [.string ⟨#[]⟩, .int .i64 0, .int .i64 0, .int .i64 0, .int .i64 0, .int .i64 0, .int .i64 0, .int .i64 0, .int .i64 0, .int .i64 0, .int .i64 0]
structure CSt (w W : World) (R N H C : Nat) (cs : List Value) : Prop where
 rdr : RdrOk W R N
 grown : w.grownBy W (some R)
 pos : w.heap.size ≤ H ∧ R < w.heap.size ∧ H < C ∧ C < W.heap.size
 res : BlockAt W H zeros11
 blk : BlockAt W C cs
 len : cs.length = 11
theorem CSt.pick {w W W' : World} {R N N' H C : Nat} {cs : List Value} (h : CSt w W R N H C cs) (hR : RdrOk W' R N') (hg : W.grownBy W' (some R)) : CSt w W' R N' H C cs := by
 obtain ⟨p1, p2, p3, p4⟩ := h.pos
 exact ⟨hR, grow_trans h.grown hg, ⟨p1, p2, p3, Nat.lt_of_lt_of_le p4 hg.size⟩, h.res.keep (hg.block H (by omega) (fun e => by injection e with e; omega)), h.blk.keep (hg.block C (by omega) (fun e => by injection e with e; omega)), h.len⟩
theorem CSt.alloc {w W : World} {R N H C : Nat} {cs : List Value} (h : CSt w W R N H C cs) (o : Obj) : CSt w (W.alloc o) R N H C cs :=
 h.pick (h.rdr.below (balloc (brefl W) o)) (World.grownBy_alloc W o (some R))
theorem CSt.set {w W : World} {R N H C : Nat} {cs : List Value} (h : CSt w W R N H C cs) (k : Nat) (hk : k < 11) (v : Value) : CSt w (W.setCell ⟨C, k, none⟩ v) R N H C (cs.set k v) := by
 obtain ⟨p1, p2, p3, p4⟩ := h.pos
 exact ⟨rdr_set h.rdr (by show R < C; omega) _, grow_setN h.grown (by show _ ≤ C; omega) _, ⟨p1, p2, p3, by simpa using p4⟩, h.res.other (by show C ≠ H; omega) _, h.blk.set (by rw [h.len]; exact hk) _, by rw [List.length_set]; exact h.len⟩
theorem CSt.mono {w W : World} {R N N' H C : Nat} {cs : List Value} (h : CSt w W R N H C cs) (hN : N ≤ N') : CSt w W R N' H C cs :=
 ⟨h.rdr.mono hN, h.grown, h.pos, h.res, h.blk, h.len⟩
theorem CSt.put {w W : World} {R N H C : Nat} {cs : List Value} (h : CSt w W R N H C cs) (k : Nat) (v : Value) : RdrOk (W.setCell ⟨H, k, none⟩ v) R N ∧ w.grownBy (W.setCell ⟨H, k, none⟩ v) (some R) := by
 obtain ⟨p1, p2, p3, p4⟩ := h.pos
 exact ⟨rdr_set h.rdr (by show R < H; omega) _, grow_setN h.grown (by show _ ≤ H; omega) _⟩
theorem put_more {w W : World} {R N H : Nat} (h : RdrOk W R N ∧ w.grownBy W (some R)) (hR : R < w.heap.size) (hH : w.heap.size ≤ H) (k : Nat) (v : Value) : RdrOk (W.setCell ⟨H, k, none⟩ v) R N ∧ w.grownBy (W.setCell ⟨H, k, none⟩ v) (some R) :=
 ⟨rdr_set h.1 (by show R < H; omega) _, grow_setN h.2 hH _⟩
def brdBd (b : Brd) : Prop := -1 ≤ b.s ∧ b.s ≤ 5 ∧ -1 ≤ b.w ∧ b.w ≤ 5
def cellBd (c : TCell) : Prop := c.t.size ≤ 100 ∧ -1 ≤ c.c ∧ c.c ≤ 5 ∧ -1 ≤ c.r ∧ c.r ≤ 5 ∧ c.r ≠ 4 ∧ brdBd c.top ∧ brdBd c.right ∧ brdBd c.bot ∧ brdBd c.left
def CellPost (R N : Nat) (w : World) (e : Ending) (w' : World) : Prop :=
 ∃ c : TCell, e = .returned (.agg (cellE c).toArray) ∧ cellBd c ∧ RdrOk w' R N ∧ w.grownBy w' (some R)
theorem CSt.cast {w W : World} {R N H C : Nat} {cs : List Value} (h : CSt w W R N H C cs) (cs' : List Value) (e : cs = cs') : CSt w W R N H C cs' := e ▸ h
theorem CSt.setAll {w W : World} {R N H C : Nat} {cs : List Value} (h : CSt w W R N H C cs) (v0 v1 v2 v3 v4 v5 v6 v7 v8 v9 v10 : Value) : CSt w (((((((((((W.setCell ⟨C, 0, none⟩ v0).setCell ⟨C, 1, none⟩ v1).setCell ⟨C, 2, none⟩ v2).setCell ⟨C, 3, none⟩ v3).setCell ⟨C, 4, none⟩ v4).setCell ⟨C, 5, none⟩ v5).setCell ⟨C, 6, none⟩ v6).setCell ⟨C, 7, none⟩ v7).setCell ⟨C, 8, none⟩ v8).setCell ⟨C, 9, none⟩ v9).setCell ⟨C, 10, none⟩ v10) R N H C [v0, v1, v2, v3, v4, v5, v6, v7, v8, v9, v10] := by
 refine ((((((((((((h.set 0 (by decide) v0).set 1 (by decide) v1).set 2 (by decide) v2).set 3 (by decide) v3).set 4 (by decide) v4).set 5 (by decide) v5).set 6 (by decide) v6).set 7 (by decide) v7).set 8 (by decide) v8).set 9 (by decide) v9).set 10 (by decide) v10)).cast _ ?_
 match cs, h.len with
 | [_, _, _, _, _, _, _, _, _, _, _], _ => rfl
theorem cst_new (w W : World) (R N C : Nat) (tx : ByteArray) (z1 z2 : Int) (T : TypeId) (hr : RdrOk W R N) (hRl : R < w.heap.size)
  (hg : (w.alloc (.cells #[.string ⟨#[]⟩, .int .i64 0, .int .i64 0, .int .i64 0, .int .i64 0, .int .i64 0, .int .i64 0, .int .i64 0, .int .i64 0, .int .i64 0, .int .i64 0] T)).grownBy W (some R))
  (hVC : (w.alloc (.cells #[.string ⟨#[]⟩, .int .i64 0, .int .i64 0, .int .i64 0, .int .i64 0, .int .i64 0, .int .i64 0, .int .i64 0, .int .i64 0, .int .i64 0, .int .i64 0] T)).heap.size ≤ C) (hCW : C < W.heap.size)
  (y0 : W.cell? ⟨C, 0, none⟩ = some (.string tx)) (y1 : W.cell? ⟨C, 1, none⟩ = some (.int .i64 z1)) (y2 : W.cell? ⟨C, 2, none⟩ = some (.int .i64 z2)) (yk : ∀ k : Nat, 3 ≤ k → k < 11 → W.cell? ⟨C, k, none⟩ = some (.int .i64 0)) (yf : ∀ i, W.frozen? ⟨C, i, none⟩ = false) :
  CSt w W R N w.heap.size C [.string tx, .int .i64 z1, .int .i64 z2, .int .i64 0, .int .i64 0, .int .i64 0, .int .i64 0, .int .i64 0, .int .i64 0, .int .i64 0, .int .i64 0] := by
 have hs : w.heap.size + 1 ≤ C := by simpa using hVC
 refine ⟨hr, grow_trans (World.grownBy_alloc w _ _) hg, ⟨Nat.le_refl _, hRl, by omega, hCW⟩, (BlockAt.new w zeros11 T).keep (hg.block w.heap.size (by simp) (fun e => by injection e with e; omega)), ⟨fun k u hu => ?_, yf⟩, rfl⟩
 match k, hu with
 | 0, hu => injection hu with hu; subst hu; exact y0
 | 1, hu => injection hu with hu; subst hu; exact y1
 | 2, hu => injection hu with hu; subst hu; exact y2
 | 3, hu => injection hu with hu; subst hu; exact yk 3 (by decide) (by decide)
 | 4, hu => injection hu with hu; subst hu; exact yk 4 (by decide) (by decide)
 | 5, hu => injection hu with hu; subst hu; exact yk 5 (by decide) (by decide)
 | 6, hu => injection hu with hu; subst hu; exact yk 6 (by decide) (by decide)
 | 7, hu => injection hu with hu; subst hu; exact yk 7 (by decide) (by decide)
 | 8, hu => injection hu with hu; subst hu; exact yk 8 (by decide) (by decide)
 | 9, hu => injection hu with hu; subst hu; exact yk 9 (by decide) (by decide)
 | 10, hu => injection hu with hu; subst hu; exact yk 10 (by decide) (by decide)
 | k + 11, hu => cases hu
theorem bd_c {z : Int} (h : -1 ≤ z) (h' : z ≤ 5) : -1 ≤ z ∧ z ≤ 5 := ⟨h, h'⟩
theorem bd_r {z : Int} (h : -1 ≤ z) (h' : z ≤ 3) : -1 ≤ z ∧ z ≤ 5 ∧ z ≠ 4 := by omega
theorem bd_1c : -1 ≤ (1 : Int) ∧ (1 : Int) ≤ 5 := by decide
theorem bd_1r : -1 ≤ (1 : Int) ∧ (1 : Int) ≤ 5 ∧ (1 : Int) ≠ 4 := by decide
theorem bd_0 : brdBd ⟨0, 0⟩ := by unfold brdBd; decide
theorem bd_t {s : ByteArray} (h : s.size ≤ 30) : s.size ≤ 100 := Nat.le_trans h (by decide)
theorem bd_zc {z : Int} (h : z = 0 ∨ z = 5 ∨ z = -1) : -1 ≤ z ∧ z ≤ 5 := by omega
theorem bd_zr {z : Int} (h : z = 0 ∨ z = 5 ∨ z = -1) : -1 ≤ z ∧ z ≤ 5 ∧ z ≠ 4 := by omega
theorem bd_all {c : TCell} (h : c.t.size ≤ 100) (h1 : -1 ≤ c.c ∧ c.c ≤ 5) (h2 : -1 ≤ c.r ∧ c.r ≤ 5 ∧ c.r ≠ 4) (h3 : brdBd c.top) (h4 : brdBd c.right) (h5 : brdBd c.bot) (h6 : brdBd c.left) : cellBd c :=
 ⟨h, h1.1, h1.2, h2.1, h2.2.1, h2.2.2, h3, h4, h5, h6⟩
def Nums3v (w : World) (X n : Nat) : Prop := ∀ j, j < n → ∃ z : Int, (z = 0 ∨ z = 5 ∨ z = -1) ∧ w.cell? ⟨X, j, none⟩ = some (.int .i64 z)
theorem Nums3v.grow {w w' : World} {X n R : Nat} (h : Nums3v w X n) (hX : X ≠ R) (hl : X < w.heap.size) (hg : w.grownBy w' (some R)) : Nums3v w' X n := by
 intro j hj
 obtain ⟨z, h1, h3⟩ := h j hj
 exact ⟨z, h1, (World.cell?_of_block (hg.block X hl (fun e => by injection e with e; omega))).trans h3⟩
theorem nums3v (w : World) (T : TypeId) : Nums3v (w.alloc (.cells #[.int .i64 0, .int .i64 5, .int .i64 (-1)] T)) w.heap.size 3 := by
 intro j hj
 match j, hj with
 | 0, _ => exact ⟨0, by decide, cell_new _ _ _ _ _ _ rfl⟩
 | 1, _ => exact ⟨5, by decide, cell_new _ _ _ _ _ _ rfl⟩
 | 2, _ => exact ⟨-1, by decide, cell_new _ _ _ _ _ _ rfl⟩
 | j + 3, hj => exact absurd hj (by omega)
end Go.Proofs.YtpfagdmmhgcmnaaGreatDoor
