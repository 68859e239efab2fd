import Derived.Test.YtgdmcmicfoamlaaGreatDoorMixDa
set_option linter.unusedVariables false
set_option linter.unusedSimpArgs false
set_option maxHeartbeats 4000000
set_option maxRecDepth 100000
namespace Go.Proofs.YtgdmcmicfoamlaaGreatDoor
open Go.RowKit
def Zun (R N : Nat) (w : World) (e : Ending) (w' : World) : Prop :=
 ∃ s v : Int, e = .returned (.agg #[.int .i64 s, .int .i64 v]) ∧ -1 ≤ s ∧ s ≤ 5 ∧ -1 ≤ v ∧ v ≤ 5 ∧ Qh w' R N ∧ w.grownBy w' (some R)
def BSt (w W : World) (R N H : Nat) (s v : Int) : Prop :=
 Qh W R N ∧ w.grownBy W (some R) ∧ (w.heap.size ≤ H ∧ R < w.heap.size ∧ H + 1 < W.heap.size) ∧ W.cell? ⟨H, 0, none⟩ = some (.int .i64 0) ∧ W.cell? ⟨H, 1, none⟩ = some (.int .i64 0) ∧ W.cell? ⟨H + 1, 0, none⟩ = some (.int .i64 s) ∧ W.cell? ⟨H + 1, 1, none⟩ = some (.int .i64 v) ∧ (∀ i, W.frozen? ⟨H, i, none⟩ = false) ∧ (∀ i, W.frozen? ⟨H + 1, i, none⟩ = false)
theorem Qs {w W : World} {R : Nat} {a : Addr} (h : w.grownBy W (some R)) (ha : w.heap.size ≤ a.block) (u : Value) : w.grownBy (W.setCell a u) (some R) :=
 ⟨h.os, h.tape, h.output, by simpa using h.size, fun k hk hne => (Zak W a u k (fun e => by omega)).trans (h.block k hk hne)⟩
theorem Js {W : World} {R N : Nat} {a : Addr} (h : Qh W R N) (ha : R < a.block) (u : Value) : Qh (W.setCell a u) R N :=
 h.grow (row := some a.block) (Qt W rfl u) (fun g e => by injection e with e; omega)
theorem BSt.pick {w W W' : World} {R N N' H : Nat} {s v : Int} (h : BSt w W R N H s v) (hR : Qh W' R N') (hg : W.grownBy W' (some R)) : BSt w W' R N' H s v := by
 obtain ⟨_, h2, ⟨a1, a2, a3⟩, h4, h5, h6, h7, h8, h9⟩ := h
 have k0 : W'.heap[H]? = W.heap[H]? := hg.block H (by omega) (fun e => by injection e with e; omega)
 have k1 : W'.heap[H + 1]? = W.heap[H + 1]? := hg.block (H + 1) (by omega) (fun e => by injection e with e; omega)
 exact ⟨hR, Zk h2 hg, ⟨a1, a2, Nat.lt_of_lt_of_le a3 hg.size⟩, (World.cell?_of_block k0).trans h4, (World.cell?_of_block k0).trans h5, (World.cell?_of_block k1).trans h6, (World.cell?_of_block k1).trans h7, fun i => (World.frozen?_of_block k0).trans (h8 i), fun i => (World.frozen?_of_block k1).trans (h9 i)⟩
theorem BSt.alloc {w W : World} {R N H : Nat} {s v : Int} (h : BSt w W R N H s v) (o : Obj) : BSt w (W.alloc o) R N H s v :=
 h.pick (h.1.below (Zc (Zf W) o)) (World.grownBy_alloc W o (some R))
theorem BSt.set0 {w W : World} {R N H : Nat} {s v : Int} (h : BSt w W R N H s v) (x : Int) : BSt w (W.setCell ⟨H + 1, 0, none⟩ (.int .i64 x)) R N H x v := by
 obtain ⟨h1, h2, ⟨a1, a2, a3⟩, h4, h5, h6, h7, h8, h9⟩ := h
 exact ⟨Js h1 (by show R < H + 1; omega) _, Qs h2 (by show _ ≤ H + 1; omega) _, ⟨a1, a2, by simpa using a3⟩, Zs h4 (by simp), Zs h5 (by simp), Zdq h6, Zs h7 (by simp), fun i => by simpa using h8 i, fun i => by simpa using h9 i⟩
theorem BSt.set1 {w W : World} {R N H : Nat} {s v : Int} (h : BSt w W R N H s v) (x : Int) : BSt w (W.setCell ⟨H + 1, 1, none⟩ (.int .i64 x)) R N H s x := by
 obtain ⟨h1, h2, ⟨a1, a2, a3⟩, h4, h5, h6, h7, h8, h9⟩ := h
 exact ⟨Js h1 (by show R < H + 1; omega) _, Qs h2 (by show _ ≤ H + 1; omega) _, ⟨a1, a2, by simpa using a3⟩, Zs h4 (by simp), Zs h5 (by simp), Zs h6 (by simp), Zdq h7, fun i => by simpa using h8 i, fun i => by simpa using h9 i⟩
theorem BSt.done {w W : World} {R N N' H : Nat} {s v : Int} (h : BSt w W R N H s v) (hN : N ≤ N') (x y : Value) : Qh ((W.setCell ⟨H, 0, none⟩ x).setCell ⟨H, 1, none⟩ y) R N' ∧ w.grownBy ((W.setCell ⟨H, 0, none⟩ x).setCell ⟨H, 1, none⟩ y) (some R) := by
 obtain ⟨h1, h2, ⟨a1, a2, a3⟩, h4, h5, h6, h7, h8, h9⟩ := h
 exact ⟨(Js (Js h1 (by show R < H; omega) _) (by show R < H; omega) _).mono hN, Qs (Qs h2 (by show _ ≤ H; omega) _) (by show _ ≤ H; omega) _⟩
theorem Zsw (w : World) (H : Nat) (cs : Array Value) (t : TypeId) (k : Nat) (u : Value) (hH : w.heap.size = H) (h : cs[k]? = some u) : (w.alloc (.cells cs t)).cell? ⟨H, k, none⟩ = some u := by
 subst hH
 exact Zj w cs t (0, 0) k u h
theorem BSt.new (w : World) (R N : Nat) (T : TypeId) (h : Qh w R N) : BSt w ((w.alloc (.cells #[.int .i64 0, .int .i64 0] T)).alloc (.cells #[.int .i64 0, .int .i64 0] T)) R N w.heap.size 0 0 := by
 have hl := h.lt
 refine ⟨h.below (Zc (Zc (Zf w) _) _), Qd (Zc (Zc (Zf w) _) _), ⟨Nat.le_refl _, hl, by simp⟩, Zg (Zc (Zf _) _) (Zj w _ _ _ 0 _ rfl), Zg (Zc (Zf _) _) (Zj w _ _ _ 1 _ rfl), Zsw _ _ _ _ 0 _ (by simp) rfl, Zsw _ _ _ _ 1 _ (by simp) rfl, fun i => by simp, fun i => by simp⟩
def Zsq (w : World) (X n : Nat) : Prop := ∀ j, j < n → ∃ z : Int, -1 ≤ z ∧ z ≤ 5 ∧ w.cell? ⟨X, j, none⟩ = some (.int .i64 z)
theorem Zsq.grow {w w' : World} {X n R : Nat} (h : Zsq w X n) (hX : X ≠ R) (hl : X < w.heap.size) (hg : w.grownBy w' (some R)) : Zsq w' X n := by
 intro j hj
 obtain ⟨z, h1, h2, h3⟩ := h j hj
 exact ⟨z, h1, h2, (World.cell?_of_block (hg.block X hl (fun e => by injection e with e; omega))).trans h3⟩
theorem Znu (w : World) (T : TypeId) : Zsq (w.alloc (.cells #[.int .i64 (-1), .int .i64 5, .int .i64 1] T)) w.heap.size 3 := by
 intro j hj
 match j, hj with
 | 0, _ => exact ⟨-1, by decide, by decide, Zj _ _ _ _ _ _ rfl⟩
 | 1, _ => exact ⟨5, by decide, by decide, Zj _ _ _ _ _ _ rfl⟩
 | 2, _ => exact ⟨1, by decide, by decide, Zj _ _ _ _ _ _ rfl⟩
 | j + 3, hj => exact absurd hj (by omega)
theorem Zod (w : World) (T : TypeId) : Zsq (w.alloc (.cells #[.int .i64 (-1), .int .i64 4, .int .i64 0, .int .i64 1] T)) w.heap.size 4 := by
 intro j hj
 match j, hj with
 | 0, _ => exact ⟨-1, by decide, by decide, Zj _ _ _ _ _ _ rfl⟩
 | 1, _ => exact ⟨4, by decide, by decide, Zj _ _ _ _ _ _ rfl⟩
 | 2, _ => exact ⟨0, by decide, by decide, Zj _ _ _ _ _ _ rfl⟩
 | 3, _ => exact ⟨1, by decide, by decide, Zj _ _ _ _ _ _ rfl⟩
 | j + 4, hj => exact absurd hj (by omega)
theorem Zlq (R N : Nat) (n : Int) (w : World) (h : Qh w R N) (hN : N ≤ 900000) (hn1 : 1 ≤ n) (hn : n ≤ 1000000) :
 Calls Tryz.prog 225 #[.pointer (some ⟨R, 0, none⟩), .int .i64 n] w (Zun R (N + 6) w) := by
 have hRl := h.lt
 obtain ⟨H, hH⟩ : ∃ H, H = w.heap.size := ⟨_, rfl⟩
 have HB0 := Za (BSt.new w R N 103 h)
 clear h
 go_enter Tryz.func225, Tryz.ntmps225
 go_wp2_with fail
 refine (pick R _ 4 _ HB0.out.1 (by omega) (by first | decide | omega)).mono ?_
 rintro e w1 ⟨k1, rfl, hk01, hk11, hR1, hg1⟩
 have hl1 := hk11 (by first | decide | omega)
 have HB1 := Za (BSt.pick HB0.out hR1 hg1)
 obtain ⟨⟨x11, x21, x31⟩, c01, c11, c21, c31, f01, f11⟩ := HB1.out.2.2
 have hk4 : k1 = 0 ∨ k1 = 1 ∨ k1 = 2 ∨ k1 = 3 := by omega
 rcases hk4 with rfl|rfl|rfl|rfl
 ·
  go_wp2_with fail
  refine (pick R _ 3 _ HB1.out.1 (by omega) (by first | decide | omega)).mono ?_
  rintro e w2 ⟨k2, rfl, hk02, hk12, hR2, hg2⟩
  have hl2 := hk12 (by first | decide | omega)
  have HB2 := Za (BSt.pick HB1.out hR2 hg2)
  obtain ⟨⟨x12, x22, x32⟩, c02, c12, c22, c32, f02, f12⟩ := HB2.out.2.2
  go_wp2_with fail
  refine (pick R _ 3 _ HB2.out.1 (by omega) (by first | decide | omega)).mono ?_
  rintro e w3 ⟨k3, rfl, hk03, hk13, hR3, hg3⟩
  have hl3 := hk13 (by first | decide | omega)
  have HB3 := Za (BSt.pick HB2.out hR3 hg3)
  obtain ⟨⟨x13, x23, x33⟩, c03, c13, c23, c33, f03, f13⟩ := HB3.out.2.2
  have e2 : IntKind.i64.wrap (1 + k2) = 1 + k2 := IntWalk.i64_in _ (by omega)
  have e3 : IntKind.i64.wrap (1 + k3) = 1 + k3 := IntWalk.i64_in _ (by omega)
  go_wp2_with fail
  refine (pick R _ n _ ((HB3.out.set0 (1 + k2)).set1 (1 + k3)).1 (by omega) (by first | decide | omega)).mono ?_
  rintro e w4 ⟨k4, rfl, hk04, hk14, hR4, hg4⟩
  have hl4 := hk14 (by first | decide | omega)
  have HB4 := Za (BSt.pick ((HB3.out.set0 (1 + k2)).set1 (1 + k3)) hR4 hg4)
  obtain ⟨⟨x14, x24, x34⟩, c04, c14, c24, c34, f04, f14⟩ := HB4.out.2.2
  by_cases z4 : k4 = 0
  ·
   subst z4
   go_wp2_with fail
   refine (pick R _ 2 _ HB4.out.1 (by omega) (by first | decide | omega)).mono ?_
   rintro e w5 ⟨k5, rfl, hk05, hk15, hR5, hg5⟩
   have hl5 := hk15 (by first | decide | omega)
   have HB5 := Za (BSt.pick HB4.out hR5 hg5)
   obtain ⟨⟨x15, x25, x35⟩, c05, c15, c25, c35, f05, f15⟩ := HB5.out.2.2
   by_cases z5 : k5 = 0
   ·
    subst z5
    have HN5 := Za (Znu w5 3)
    go_wp2_with fail
    refine (pick R _ 3 _ (HB5.out.alloc _).1 (by omega) (by first | decide | omega)).mono ?_
    rintro e w6 ⟨k6, rfl, hk06, hk16, hR6, hg6⟩
    have hl6 := hk16 (by first | decide | omega)
    have HB6 := Za (BSt.pick (HB5.out.alloc _) hR6 hg6)
    obtain ⟨⟨x16, x26, x36⟩, c06, c16, c26, c36, f06, f16⟩ := HB6.out.2.2
    have HN6 := Za (HN5.out.grow (by omega) (by simp) hg6)
    obtain ⟨i6, rfl⟩ := Int.eq_ofNat_of_zero_le hk06
    obtain ⟨z, hz1, hz2, hz3⟩ := HN6.out i6 (by omega)
    go_wp2_with fail
    exact bodyPost_ret (v := .agg #[.int .i64 z, .int .i64 (1 + k3)]) (by simp [results, Tryz.results225, go_sem, *]) rfl ⟨z, (1 + k3), rfl, by omega, by omega, by omega, by omega, (HB6.out.set0 z).done (by omega) _ _⟩
   skip
   have HN5 := Za (Zod w5 3)
   go_wp2_with fail
   refine (pick R _ 4 _ (HB5.out.alloc _).1 (by omega) (by first | decide | omega)).mono ?_
   rintro e w6 ⟨k6, rfl, hk06, hk16, hR6, hg6⟩
   have hl6 := hk16 (by first | decide | omega)
   have HB6 := Za (BSt.pick (HB5.out.alloc _) hR6 hg6)
   obtain ⟨⟨x16, x26, x36⟩, c06, c16, c26, c36, f06, f16⟩ := HB6.out.2.2
   have HN6 := Za (HN5.out.grow (by omega) (by simp) hg6)
   obtain ⟨i6, rfl⟩ := Int.eq_ofNat_of_zero_le hk06
   obtain ⟨z, hz1, hz2, hz3⟩ := HN6.out i6 (by omega)
   go_wp2_with fail
   exact bodyPost_ret (v := .agg #[.int .i64 (1 + k2), .int .i64 z]) (by simp [results, Tryz.results225, go_sem, *]) rfl ⟨(1 + k2), z, rfl, by omega, by omega, by omega, by omega, (HB6.out.set1 z).done (by omega) _ _⟩
  skip
  go_wp2_with fail
  exact bodyPost_ret (v := .agg #[.int .i64 (1 + k2), .int .i64 (1 + k3)]) (by simp [results, Tryz.results225, go_sem, *]) rfl ⟨(1 + k2), (1 + k3), rfl, by omega, by omega, by omega, by omega, (HB4.out).done (by omega) _ _⟩
 ·
  go_wp2_with fail
  refine (pick R _ 3 _ HB1.out.1 (by omega) (by first | decide | omega)).mono ?_
  rintro e w2 ⟨k2, rfl, hk02, hk12, hR2, hg2⟩
  have hl2 := hk12 (by first | decide | omega)
  have HB2 := Za (BSt.pick HB1.out hR2 hg2)
  obtain ⟨⟨x12, x22, x32⟩, c02, c12, c22, c32, f02, f12⟩ := HB2.out.2.2
  go_wp2_with fail
  refine (pick R _ 3 _ HB2.out.1 (by omega) (by first | decide | omega)).mono ?_
  rintro e w3 ⟨k3, rfl, hk03, hk13, hR3, hg3⟩
  have hl3 := hk13 (by first | decide | omega)
  have HB3 := Za (BSt.pick HB2.out hR3 hg3)
  obtain ⟨⟨x13, x23, x33⟩, c03, c13, c23, c33, f03, f13⟩ := HB3.out.2.2
  have e2 : IntKind.i64.wrap (1 + k2) = 1 + k2 := IntWalk.i64_in _ (by omega)
  have e3 : IntKind.i64.wrap (1 + k3) = 1 + k3 := IntWalk.i64_in _ (by omega)
  go_wp2_with fail
  refine (pick R _ n _ ((HB3.out.set0 (1 + k2)).set1 (1 + k3)).1 (by omega) (by first | decide | omega)).mono ?_
  rintro e w4 ⟨k4, rfl, hk04, hk14, hR4, hg4⟩
  have hl4 := hk14 (by first | decide | omega)
  have HB4 := Za (BSt.pick ((HB3.out.set0 (1 + k2)).set1 (1 + k3)) hR4 hg4)
  obtain ⟨⟨x14, x24, x34⟩, c04, c14, c24, c34, f04, f14⟩ := HB4.out.2.2
  by_cases z4 : k4 = 0
  ·
   subst z4
   go_wp2_with fail
   refine (pick R _ 2 _ HB4.out.1 (by omega) (by first | decide | omega)).mono ?_
   rintro e w5 ⟨k5, rfl, hk05, hk15, hR5, hg5⟩
   have hl5 := hk15 (by first | decide | omega)
   have HB5 := Za (BSt.pick HB4.out hR5 hg5)
   obtain ⟨⟨x15, x25, x35⟩, c05, c15, c25, c35, f05, f15⟩ := HB5.out.2.2
   by_cases z5 : k5 = 0
   ·
    subst z5
    have HN5 := Za (Znu w5 3)
    go_wp2_with fail
    refine (pick R _ 3 _ (HB5.out.alloc _).1 (by omega) (by first | decide | omega)).mono ?_
    rintro e w6 ⟨k6, rfl, hk06, hk16, hR6, hg6⟩
    have hl6 := hk16 (by first | decide | omega)
    have HB6 := Za (BSt.pick (HB5.out.alloc _) hR6 hg6)
    obtain ⟨⟨x16, x26, x36⟩, c06, c16, c26, c36, f06, f16⟩ := HB6.out.2.2
    have HN6 := Za (HN5.out.grow (by omega) (by simp) hg6)
    obtain ⟨i6, rfl⟩ := Int.eq_ofNat_of_zero_le hk06
    obtain ⟨z, hz1, hz2, hz3⟩ := HN6.out i6 (by omega)
    go_wp2_with fail
    exact bodyPost_ret (v := .agg #[.int .i64 z, .int .i64 (1 + k3)]) (by simp [results, Tryz.results225, go_sem, *]) rfl ⟨z, (1 + k3), rfl, by omega, by omega, by omega, by omega, (HB6.out.set0 z).done (by omega) _ _⟩
   skip
   have HN5 := Za (Zod w5 3)
   go_wp2_with fail
   refine (pick R _ 4 _ (HB5.out.alloc _).1 (by omega) (by first | decide | omega)).mono ?_
   rintro e w6 ⟨k6, rfl, hk06, hk16, hR6, hg6⟩
   have hl6 := hk16 (by first | decide | omega)
   have HB6 := Za (BSt.pick (HB5.out.alloc _) hR6 hg6)
   obtain ⟨⟨x16, x26, x36⟩, c06, c16, c26, c36, f06, f16⟩ := HB6.out.2.2
   have HN6 := Za (HN5.out.grow (by omega) (by simp) hg6)
   obtain ⟨i6, rfl⟩ := Int.eq_ofNat_of_zero_le hk06
   obtain ⟨z, hz1, hz2, hz3⟩ := HN6.out i6 (by omega)
   go_wp2_with fail
   exact bodyPost_ret (v := .agg #[.int .i64 (1 + k2), .int .i64 z]) (by simp [results, Tryz.results225, go_sem, *]) rfl ⟨(1 + k2), z, rfl, by omega, by omega, by omega, by omega, (HB6.out.set1 z).done (by omega) _ _⟩
  skip
  go_wp2_with fail
  exact bodyPost_ret (v := .agg #[.int .i64 (1 + k2), .int .i64 (1 + k3)]) (by simp [results, Tryz.results225, go_sem, *]) rfl ⟨(1 + k2), (1 + k3), rfl, by omega, by omega, by omega, by omega, (HB4.out).done (by omega) _ _⟩
 ·
  go_wp2_with fail
  refine (pick R _ 3 _ HB1.out.1 (by omega) (by first | decide | omega)).mono ?_
  rintro e w2 ⟨k2, rfl, hk02, hk12, hR2, hg2⟩
  have hl2 := hk12 (by first | decide | omega)
  have HB2 := Za (BSt.pick HB1.out hR2 hg2)
  obtain ⟨⟨x12, x22, x32⟩, c02, c12, c22, c32, f02, f12⟩ := HB2.out.2.2
  by_cases z2 : k2 = 0
  ·
   subst z2
   go_wp2_with fail
   refine (pick R _ n _ (HB2.out.set0 4).1 (by omega) (by first | decide | omega)).mono ?_
   rintro e w4 ⟨k4, rfl, hk04, hk14, hR4, hg4⟩
   have hl4 := hk14 (by first | decide | omega)
   have HB4 := Za (BSt.pick (HB2.out.set0 4) hR4 hg4)
   obtain ⟨⟨x14, x24, x34⟩, c04, c14, c24, c34, f04, f14⟩ := HB4.out.2.2
   by_cases z4 : k4 = 0
   ·
    subst z4
    go_wp2_with fail
    refine (pick R _ 2 _ HB4.out.1 (by omega) (by first | decide | omega)).mono ?_
    rintro e w5 ⟨k5, rfl, hk05, hk15, hR5, hg5⟩
    have hl5 := hk15 (by first | decide | omega)
    have HB5 := Za (BSt.pick HB4.out hR5 hg5)
    obtain ⟨⟨x15, x25, x35⟩, c05, c15, c25, c35, f05, f15⟩ := HB5.out.2.2
    by_cases z5 : k5 = 0
    ·
     subst z5
     have HN5 := Za (Znu w5 3)
     go_wp2_with fail
     refine (pick R _ 3 _ (HB5.out.alloc _).1 (by omega) (by first | decide | omega)).mono ?_
     rintro e w6 ⟨k6, rfl, hk06, hk16, hR6, hg6⟩
     have hl6 := hk16 (by first | decide | omega)
     have HB6 := Za (BSt.pick (HB5.out.alloc _) hR6 hg6)
     obtain ⟨⟨x16, x26, x36⟩, c06, c16, c26, c36, f06, f16⟩ := HB6.out.2.2
     have HN6 := Za (HN5.out.grow (by omega) (by simp) hg6)
     obtain ⟨i6, rfl⟩ := Int.eq_ofNat_of_zero_le hk06
     obtain ⟨z, hz1, hz2, hz3⟩ := HN6.out i6 (by omega)
     go_wp2_with fail
     exact bodyPost_ret (v := .agg #[.int .i64 z, .int .i64 0]) (by simp [results, Tryz.results225, go_sem, *]) rfl ⟨z, 0, rfl, by omega, by omega, by omega, by omega, (HB6.out.set0 z).done (by omega) _ _⟩
    skip
    have HN5 := Za (Zod w5 3)
    go_wp2_with fail
    refine (pick R _ 4 _ (HB5.out.alloc _).1 (by omega) (by first | decide | omega)).mono ?_
    rintro e w6 ⟨k6, rfl, hk06, hk16, hR6, hg6⟩
    have hl6 := hk16 (by first | decide | omega)
    have HB6 := Za (BSt.pick (HB5.out.alloc _) hR6 hg6)
    obtain ⟨⟨x16, x26, x36⟩, c06, c16, c26, c36, f06, f16⟩ := HB6.out.2.2
    have HN6 := Za (HN5.out.grow (by omega) (by simp) hg6)
    obtain ⟨i6, rfl⟩ := Int.eq_ofNat_of_zero_le hk06
    obtain ⟨z, hz1, hz2, hz3⟩ := HN6.out i6 (by omega)
    go_wp2_with fail
    exact bodyPost_ret (v := .agg #[.int .i64 4, .int .i64 z]) (by simp [results, Tryz.results225, go_sem, *]) rfl ⟨4, z, rfl, by omega, by omega, by omega, by omega, (HB6.out.set1 z).done (by omega) _ _⟩
   skip
   go_wp2_with fail
   exact bodyPost_ret (v := .agg #[.int .i64 4, .int .i64 0]) (by simp [results, Tryz.results225, go_sem, *]) rfl ⟨4, 0, rfl, by omega, by omega, by omega, by omega, (HB4.out).done (by omega) _ _⟩
  go_wp2_with fail
  refine (pick R _ n _ HB2.out.1 (by omega) (by first | decide | omega)).mono ?_
  rintro e w4 ⟨k4, rfl, hk04, hk14, hR4, hg4⟩
  have hl4 := hk14 (by first | decide | omega)
  have HB4 := Za (BSt.pick HB2.out hR4 hg4)
  obtain ⟨⟨x14, x24, x34⟩, c04, c14, c24, c34, f04, f14⟩ := HB4.out.2.2
  by_cases z4 : k4 = 0
  ·
   subst z4
   go_wp2_with fail
   refine (pick R _ 2 _ HB4.out.1 (by omega) (by first | decide | omega)).mono ?_
   rintro e w5 ⟨k5, rfl, hk05, hk15, hR5, hg5⟩
   have hl5 := hk15 (by first | decide | omega)
   have HB5 := Za (BSt.pick HB4.out hR5 hg5)
   obtain ⟨⟨x15, x25, x35⟩, c05, c15, c25, c35, f05, f15⟩ := HB5.out.2.2
   by_cases z5 : k5 = 0
   ·
    subst z5
    have HN5 := Za (Znu w5 3)
    go_wp2_with fail
    refine (pick R _ 3 _ (HB5.out.alloc _).1 (by omega) (by first | decide | omega)).mono ?_
    rintro e w6 ⟨k6, rfl, hk06, hk16, hR6, hg6⟩
    have hl6 := hk16 (by first | decide | omega)
    have HB6 := Za (BSt.pick (HB5.out.alloc _) hR6 hg6)
    obtain ⟨⟨x16, x26, x36⟩, c06, c16, c26, c36, f06, f16⟩ := HB6.out.2.2
    have HN6 := Za (HN5.out.grow (by omega) (by simp) hg6)
    obtain ⟨i6, rfl⟩ := Int.eq_ofNat_of_zero_le hk06
    obtain ⟨z, hz1, hz2, hz3⟩ := HN6.out i6 (by omega)
    go_wp2_with fail
    exact bodyPost_ret (v := .agg #[.int .i64 z, .int .i64 0]) (by simp [results, Tryz.results225, go_sem, *]) rfl ⟨z, 0, rfl, by omega, by omega, by omega, by omega, (HB6.out.set0 z).done (by omega) _ _⟩
   skip
   have HN5 := Za (Zod w5 3)
   go_wp2_with fail
   refine (pick R _ 4 _ (HB5.out.alloc _).1 (by omega) (by first | decide | omega)).mono ?_
   rintro e w6 ⟨k6, rfl, hk06, hk16, hR6, hg6⟩
   have hl6 := hk16 (by first | decide | omega)
   have HB6 := Za (BSt.pick (HB5.out.alloc _) hR6 hg6)
   obtain ⟨⟨x16, x26, x36⟩, c06, c16, c26, c36, f06, f16⟩ := HB6.out.2.2
   have HN6 := Za (HN5.out.grow (by omega) (by simp) hg6)
   obtain ⟨i6, rfl⟩ := Int.eq_ofNat_of_zero_le hk06
   obtain ⟨z, hz1, hz2, hz3⟩ := HN6.out i6 (by omega)
   go_wp2_with fail
   exact bodyPost_ret (v := .agg #[.int .i64 0, .int .i64 z]) (by simp [results, Tryz.results225, go_sem, *]) rfl ⟨0, z, rfl, by omega, by omega, by omega, by omega, (HB6.out.set1 z).done (by omega) _ _⟩
  skip
  go_wp2_with fail
  exact bodyPost_ret (v := .agg #[.int .i64 0, .int .i64 0]) (by simp [results, Tryz.results225, go_sem, *]) rfl ⟨0, 0, rfl, by omega, by omega, by omega, by omega, (HB4.out).done (by omega) _ _⟩
 go_wp2_with fail
 refine (pick R _ n _ HB1.out.1 (by omega) (by first | decide | omega)).mono ?_
 rintro e w4 ⟨k4, rfl, hk04, hk14, hR4, hg4⟩
 have hl4 := hk14 (by first | decide | omega)
 have HB4 := Za (BSt.pick HB1.out hR4 hg4)
 obtain ⟨⟨x14, x24, x34⟩, c04, c14, c24, c34, f04, f14⟩ := HB4.out.2.2
 by_cases z4 : k4 = 0
 ·
  subst z4
  go_wp2_with fail
  refine (pick R _ 2 _ HB4.out.1 (by omega) (by first | decide | omega)).mono ?_
  rintro e w5 ⟨k5, rfl, hk05, hk15, hR5, hg5⟩
  have hl5 := hk15 (by first | decide | omega)
  have HB5 := Za (BSt.pick HB4.out hR5 hg5)
  obtain ⟨⟨x15, x25, x35⟩, c05, c15, c25, c35, f05, f15⟩ := HB5.out.2.2
  by_cases z5 : k5 = 0
  ·
   subst z5
   have HN5 := Za (Znu w5 3)
   go_wp2_with fail
   refine (pick R _ 3 _ (HB5.out.alloc _).1 (by omega) (by first | decide | omega)).mono ?_
   rintro e w6 ⟨k6, rfl, hk06, hk16, hR6, hg6⟩
   have hl6 := hk16 (by first | decide | omega)
   have HB6 := Za (BSt.pick (HB5.out.alloc _) hR6 hg6)
   obtain ⟨⟨x16, x26, x36⟩, c06, c16, c26, c36, f06, f16⟩ := HB6.out.2.2
   have HN6 := Za (HN5.out.grow (by omega) (by simp) hg6)
   obtain ⟨i6, rfl⟩ := Int.eq_ofNat_of_zero_le hk06
   obtain ⟨z, hz1, hz2, hz3⟩ := HN6.out i6 (by omega)
   go_wp2_with fail
   exact bodyPost_ret (v := .agg #[.int .i64 z, .int .i64 0]) (by simp [results, Tryz.results225, go_sem, *]) rfl ⟨z, 0, rfl, by omega, by omega, by omega, by omega, (HB6.out.set0 z).done (by omega) _ _⟩
  skip
  have HN5 := Za (Zod w5 3)
  go_wp2_with fail
  refine (pick R _ 4 _ (HB5.out.alloc _).1 (by omega) (by first | decide | omega)).mono ?_
  rintro e w6 ⟨k6, rfl, hk06, hk16, hR6, hg6⟩
  have hl6 := hk16 (by first | decide | omega)
  have HB6 := Za (BSt.pick (HB5.out.alloc _) hR6 hg6)
  obtain ⟨⟨x16, x26, x36⟩, c06, c16, c26, c36, f06, f16⟩ := HB6.out.2.2
  have HN6 := Za (HN5.out.grow (by omega) (by simp) hg6)
  obtain ⟨i6, rfl⟩ := Int.eq_ofNat_of_zero_le hk06
  obtain ⟨z, hz1, hz2, hz3⟩ := HN6.out i6 (by omega)
  go_wp2_with fail
  exact bodyPost_ret (v := .agg #[.int .i64 0, .int .i64 z]) (by simp [results, Tryz.results225, go_sem, *]) rfl ⟨0, z, rfl, by omega, by omega, by omega, by omega, (HB6.out.set1 z).done (by omega) _ _⟩
 skip
 go_wp2_with fail
 exact bodyPost_ret (v := .agg #[.int .i64 0, .int .i64 0]) (by simp [results, Tryz.results225, go_sem, *]) rfl ⟨0, 0, rfl, by omega, by omega, by omega, by omega, (HB4.out).done (by omega) _ _⟩
section
variable {P : Program} {ops : Array Oper} {Q : Exit → Act → World → Prop} {md : Region.Mode} {S : World → Prop} {L : Nat}
theorem Zor {i j : Nat} {oi oj : Oper} {fuel : Nat} {listed : Array Bool} {a : Act} {w : World} (hr : Region.ready md ops listed = [i, j]) (hi : ops[i]? = some oi) (hj : ops[j]? = some oj)
 (h1 : ∀ K' : Act → World → Prop, Shut (∀ a w, (i ≠ L → S w) → Zcm P md ops Q S L fuel (listed.setIfInBounds i true) a w → K' a w) → if Region.wanted oi (yielded ops a.tmps) = true then Oper.wp P oi a w K' Q else K' (a.put oi.dst undef) w)
 (h2 : ∀ K' : Act → World → Prop, Shut (∀ a w, (j ≠ L → S w) → Zcm P md ops Q S L fuel (listed.setIfInBounds j true) a w → K' a w) → if Region.wanted oj (yielded ops a.tmps) = true then Oper.wp P oj a w K' Q else K' (a.put oj.dst undef) w) :
 Zcm P md ops Q S L (fuel + 1) listed a w := by
 refine And.intro (fun h0 => absurd (hr.symm.trans h0) (List.cons_ne_nil _ _)) ?_
 intro k hk
 rw [hr] at hk
 rcases List.mem_cons.1 hk with rfl | hk
 · exact wpOp_step hi (fun K' hK => h1 K' (fun a w h1 h2 => hK a w ⟨h1, h2⟩))
 rw [List.mem_singleton] at hk
 subst hk
 exact wpOp_step hj (fun K' hK => h2 K' (fun a w h1 h2 => hK a w ⟨h1, h2⟩))
end
def Zno (R N : Nat) (w : World) (e : Ending) (w' : World) : Prop :=
 ∃ s : ByteArray, e = .returned (.string s) ∧ s.size ≤ 100 ∧ Qh w' R N ∧ w.grownBy w' (some R)
theorem Zsp (w : World) (T : TypeId) : Zma (w.alloc (.cells #[.string ⟨#[32]⟩, .string ⟨#[32, 32]⟩, .string ⟨#[65]⟩, .string ⟨#[49]⟩, .string ⟨#[45]⟩, .string ⟨#[0]⟩, .string ⟨#[97, 98, 99, 100, 101, 102, 103, 104, 105, 106, 97, 98, 99, 100, 101, 102, 103, 104, 105, 106, 97, 98, 99, 100, 101, 102, 103, 104, 105, 106, 120]⟩] T)) w.heap.size 31 7 := by
 intro j hj
 match j, hj with
 | 0, _ => exact ⟨_, by decide, Zj _ _ _ _ _ _ rfl⟩
 | 1, _ => exact ⟨_, by decide, Zj _ _ _ _ _ _ rfl⟩
 | 2, _ => exact ⟨_, by decide, Zj _ _ _ _ _ _ rfl⟩
 | 3, _ => exact ⟨_, by decide, Zj _ _ _ _ _ _ rfl⟩
 | 4, _ => exact ⟨_, by decide, Zj _ _ _ _ _ _ rfl⟩
 | 5, _ => exact ⟨_, by decide, Zj _ _ _ _ _ _ rfl⟩
 | 6, _ => exact ⟨_, by decide, Zj _ _ _ _ _ _ rfl⟩
 | j + 7, hj => exact absurd hj (by omega)
theorem Zl2 (R N : Nat) (n : Int) (w : World) (h : Qh w R N) (hN : N ≤ 800000) (hn1 : 1 ≤ n) (hn : n ≤ 1000000) :
 Calls Tryz.prog 226 #[.pointer (some ⟨R, 0, none⟩), .int .i64 n] w (Zno R (N + 10) w) := by
 have hRl := h.lt
 have HR := Za h
 clear h
 go_enter Tryz.func226, Tryz.ntmps226
 go_wp2_with fail
 refine (Zsn R N _ HR.out (by omega)).mono ?_
 rintro e w1 ⟨s, rfl, hs, hR1, hg1⟩
 have H1 := Za (And.intro hR1 hg1)
 clear hR1 hg1
 go_wp2_with fail
 refine (pick R _ n _ H1.out.1 (by omega) hn).mono ?_
 rintro e w2 ⟨k2, rfl, hk02, hk12, hR2, hg2⟩
 have H2 := Za (And.intro hR2 (Zk H1.out.2 hg2))
 clear hR2 hg2 hk12
 by_cases z2 : k2 = 0
 ·
  subst z2
  have t1 : IntKind.i64.wrap ((s.size : Int) + 1) = (s.size : Int) + 1 := IntWalk.i64_in _ (by omega)
  go_wp2_with fail
  refine (pick R _ _ _ H2.out.1 (by omega) (by omega)).mono ?_
  rintro e w3 ⟨k3, rfl, hk03, hk13, hR3, hg3⟩
  have hl3 := hk13 (by omega)
  obtain ⟨i, rfl⟩ := Int.eq_ofNat_of_zero_le hk03
  have H3 := Za (And.intro hR3 (Zk H2.out.2 hg3))
  have hi : i ≤ s.size := by omega
  have hiz : (i : Int) ≤ (s.size : Int) := by omega
  clear hR3 hg3 hk13 hl3 hk03 t1
  go_wp2_with fail
  refine Zi0 (S := fun _ => True) (L := 13) (by kernel_rfl) ?_
  have hSd : (fun _ : World => True) w3.drew := trivial
  refine' Zm [13] (i := 0) (v := _) rfl (by kernel_rfl) (by kernel_rfl) (by kernel_rfl) (by kernel_rfl) (by kernel_rfl) (by kernel_rfl) (fun _ _ _ h => h) (Or.inl ⟨by rfl, ?hy0⟩) hSd ?_
  case hy0 => (intro w hSw; (try dsimp only at hSw); go_simp) <;> with_reducible rfl
  try simp only [Act.put, List.setIfInBounds_toArray, List.set_cons_zero, List.set_cons_succ]
  refine' Zm [13] (i := 1) (v := _) rfl (by kernel_rfl) (by kernel_rfl) (by kernel_rfl) (by kernel_rfl) (by kernel_rfl) (by kernel_rfl) (fun _ _ _ h => h) (Or.inl ⟨by rfl, ?hy1⟩) hSd ?_
  case hy1 => (intro w hSw; (try dsimp only at hSw); go_simp) <;> with_reducible rfl
  try simp only [Act.put, List.setIfInBounds_toArray, List.set_cons_zero, List.set_cons_succ]
  refine' Zm [13] (i := 2) (v := _) rfl (by kernel_rfl) (by kernel_rfl) (by kernel_rfl) (by kernel_rfl) (by kernel_rfl) (by kernel_rfl) (fun _ _ _ h => h) (Or.inl ⟨by rfl, ?hy2⟩) hSd ?_
  case hy2 => (intro w hSw; (try dsimp only at hSw); go_simp) <;> with_reducible rfl
  try simp only [Act.put, List.setIfInBounds_toArray, List.set_cons_zero, List.set_cons_succ]
  refine' Zm [13] (i := 4) (v := _) rfl (by kernel_rfl) (by kernel_rfl) (by kernel_rfl) (by kernel_rfl) (by kernel_rfl) (by kernel_rfl) (fun _ _ _ h => h) (Or.inl ⟨by rfl, ?hy4⟩) hSd ?_
  case hy4 => (intro w hSw; (try dsimp only at hSw); go_simp) <;> with_reducible rfl
  try simp only [Act.put, List.setIfInBounds_toArray, List.set_cons_zero, List.set_cons_succ]
  refine' Zm [13] (i := 9) (v := _) rfl (by kernel_rfl) (by kernel_rfl) (by kernel_rfl) (by kernel_rfl) (by kernel_rfl) (by kernel_rfl) (fun _ _ _ h => h) (Or.inl ⟨by rfl, ?hy9⟩) hSd ?_
  case hy9 => (intro w hSw; (try dsimp only at hSw); go_simp) <;> with_reducible rfl
  try simp only [Act.put, List.setIfInBounds_toArray, List.set_cons_zero, List.set_cons_succ]
  refine' Zm [13] (i := 10) (v := _) rfl (by kernel_rfl) (by kernel_rfl) (by kernel_rfl) (by kernel_rfl) (by kernel_rfl) (by kernel_rfl) (fun _ _ _ h => h) (Or.inl ⟨by rfl, ?hy10⟩) hSd ?_
  case hy10 => (intro w hSw; (try dsimp only at hSw); go_simp) <;> with_reducible rfl
  try simp only [Act.put, List.setIfInBounds_toArray, List.set_cons_zero, List.set_cons_succ]
  refine' Zm [13] (i := 11) (v := _) rfl (by kernel_rfl) (by kernel_rfl) (by kernel_rfl) (by kernel_rfl) (by kernel_rfl) (by kernel_rfl) (fun _ _ _ h => h) (Or.inl ⟨by rfl, ?hy11⟩) hSd ?_
  case hy11 => (intro w hSw; (try dsimp only at hSw); go_simp) <;> with_reducible rfl
  try simp only [Act.put, List.setIfInBounds_toArray, List.set_cons_zero, List.set_cons_succ]
  have hsa : (s.extract 0 i).size ≤ 30 := by simp; omega
  have hsb : (s.extract i s.size).size ≤ 30 := by simp; omega
  generalize s.extract 0 i = a at hsa ⊢
  generalize s.extract i s.size = b at hsb ⊢
  refine Zor (i := 3) (j := 5) (by kernel_rfl) rfl rfl (fun K hK => ?_) (fun K hK => ?_)
  ·
   go_simp
   refine hK.out _ _ (fun _ => trivial) ?_
   clear hK K
   try simp only [Act.put, List.setIfInBounds_toArray, List.set_cons_zero, List.set_cons_succ]
   refine Yg (i := 5) (by kernel_rfl) rfl (fun K hK => ?_)
   have HA := Za (And.intro (H3.out.1.below (Zt (Zc (Zf w3) (.cells #[.string ⟨#[32]⟩, .string ⟨#[32, 32]⟩, .string ⟨#[65]⟩, .string ⟨#[49]⟩, .string ⟨#[45]⟩, .string ⟨#[0]⟩, .string ⟨#[97, 98, 99, 100, 101, 102, 103, 104, 105, 106, 97, 98, 99, 100, 101, 102, 103, 104, 105, 106, 97, 98, 99, 100, 101, 102, 103, 104, 105, 106, 120]⟩] 9)))) (And.intro (Zk H3.out.2 (Qd (Zt (Zc (Zf w3) (.cells #[.string ⟨#[32]⟩, .string ⟨#[32, 32]⟩, .string ⟨#[65]⟩, .string ⟨#[49]⟩, .string ⟨#[45]⟩, .string ⟨#[0]⟩, .string ⟨#[97, 98, 99, 100, 101, 102, 103, 104, 105, 106, 97, 98, 99, 100, 101, 102, 103, 104, 105, 106, 97, 98, 99, 100, 101, 102, 103, 104, 105, 106, 120]⟩] 9))))) ((Zsp w3 9).grow (R := R) (by have := H3.out.1.lt; omega) (by simp) (Qd (Zt (Zf _))))))
   go_simp
   refine (pick R _ 7 _ HA.out.1 (by omega) (by decide)).mono ?_
   rintro e w5 ⟨k5, rfl, hk05, hk15, hR5, hg5⟩
   have hl5 := hk15 (by decide)
   obtain ⟨q, rfl⟩ := Int.eq_ofNat_of_zero_le hk05
   obtain ⟨z, hz, hc⟩ := (HA.out.2.2.grow (by have := H3.out.1.lt; omega) (by simp) hg5) q (by omega)
   have H5 := Za (And.intro hR5 (Zk HA.out.2.1 hg5))
   clear hR5 hg5 hk15 hk05 HA
   refine hK.out _ _ (fun _ => trivial) ?_
   clear hK K
   try simp only [Act.put, List.setIfInBounds_toArray, List.set_cons_zero, List.set_cons_succ]
   have c1 : ¬ 9223372036854775807 < a.size + z.size := by omega
   have c2 : ¬ 9223372036854775807 < a.size + z.size + b.size := by omega
   refine Yg (i := 6) (by kernel_rfl) rfl (fun K hK => ?_)
   go_simp
   refine hK.out _ _ (fun h => trivial) ?_
   clear hK K
   try simp only [Act.put, List.setIfInBounds_toArray, List.set_cons_zero, List.set_cons_succ]
   refine Yg (i := 7) (by kernel_rfl) rfl (fun K hK => ?_)
   go_simp
   refine hK.out _ _ (fun h => trivial) ?_
   clear hK K
   try simp only [Act.put, List.setIfInBounds_toArray, List.set_cons_zero, List.set_cons_succ]
   refine Yg (i := 8) (by kernel_rfl) rfl (fun K hK => ?_)
   go_simp
   refine hK.out _ _ (fun h => trivial) ?_
   clear hK K
   try simp only [Act.put, List.setIfInBounds_toArray, List.set_cons_zero, List.set_cons_succ]
   refine Yg (i := 12) (by kernel_rfl) rfl (fun K hK => ?_)
   go_simp
   refine hK.out _ _ (fun h => trivial) ?_
   clear hK K
   try simp only [Act.put, List.setIfInBounds_toArray, List.set_cons_zero, List.set_cons_succ]
   refine Yg (i := 13) (by kernel_rfl) rfl (fun K hK => ?_)
   go_simp
   refine hK.out _ _ (fun h => absurd rfl h) ?_
   clear hK K
   try simp only [Act.put, List.setIfInBounds_toArray, List.set_cons_zero, List.set_cons_succ]
   refine Zfg (by kernel_rfl) ?_ _
   go_wp2_with fail
   go_ret
   exact ⟨(a ++ z) ++ b, rfl, by rw [ByteArray.size_append, ByteArray.size_append]; omega, H5.out.1.mono (by omega), H5.out.2⟩
  go_simp
  refine (pick R _ 7 _ (H3.out.1.below (Zt (Zf w3))) (by omega) (by decide)).mono ?_
  rintro e w5 ⟨k5, rfl, hk05, hk15, hR5, hg5⟩
  have hl5 := hk15 (by decide)
  obtain ⟨q, rfl⟩ := Int.eq_ofNat_of_zero_le hk05
  have H5 := Za (And.intro (hR5.below (Zc (Zf w5) (.cells #[.string ⟨#[32]⟩, .string ⟨#[32, 32]⟩, .string ⟨#[65]⟩, .string ⟨#[49]⟩, .string ⟨#[45]⟩, .string ⟨#[0]⟩, .string ⟨#[97, 98, 99, 100, 101, 102, 103, 104, 105, 106, 97, 98, 99, 100, 101, 102, 103, 104, 105, 106, 97, 98, 99, 100, 101, 102, 103, 104, 105, 106, 120]⟩] 9))) (Zk (Zk H3.out.2 (Zk (Qd (Zt (Zf w3))) hg5)) (World.grownBy_alloc w5 (.cells #[.string ⟨#[32]⟩, .string ⟨#[32, 32]⟩, .string ⟨#[65]⟩, .string ⟨#[49]⟩, .string ⟨#[45]⟩, .string ⟨#[0]⟩, .string ⟨#[97, 98, 99, 100, 101, 102, 103, 104, 105, 106, 97, 98, 99, 100, 101, 102, 103, 104, 105, 106, 97, 98, 99, 100, 101, 102, 103, 104, 105, 106, 120]⟩] 9) (some R))))
  obtain ⟨z, hz, hc⟩ := Zsp w5 9 q (by omega)
  clear hR5 hg5 hk15 hk05
  refine hK.out _ _ (fun _ => trivial) ?_
  clear hK K
  try simp only [Act.put, List.setIfInBounds_toArray, List.set_cons_zero, List.set_cons_succ]
  refine Yg (i := 3) (by kernel_rfl) rfl (fun K hK => ?_)
  go_simp
  refine hK.out _ _ (fun _ => trivial) ?_
  clear hK K
  try simp only [Act.put, List.setIfInBounds_toArray, List.set_cons_zero, List.set_cons_succ]
  have c1 : ¬ 9223372036854775807 < a.size + z.size := by omega
  have c2 : ¬ 9223372036854775807 < a.size + z.size + b.size := by omega
  refine Yg (i := 6) (by kernel_rfl) rfl (fun K hK => ?_)
  go_simp
  refine hK.out _ _ (fun h => trivial) ?_
  clear hK K
  try simp only [Act.put, List.setIfInBounds_toArray, List.set_cons_zero, List.set_cons_succ]
  refine Yg (i := 7) (by kernel_rfl) rfl (fun K hK => ?_)
  go_simp
  refine hK.out _ _ (fun h => trivial) ?_
  clear hK K
  try simp only [Act.put, List.setIfInBounds_toArray, List.set_cons_zero, List.set_cons_succ]
  refine Yg (i := 8) (by kernel_rfl) rfl (fun K hK => ?_)
  go_simp
  refine hK.out _ _ (fun h => trivial) ?_
  clear hK K
  try simp only [Act.put, List.setIfInBounds_toArray, List.set_cons_zero, List.set_cons_succ]
  refine Yg (i := 12) (by kernel_rfl) rfl (fun K hK => ?_)
  go_simp
  refine hK.out _ _ (fun h => trivial) ?_
  clear hK K
  try simp only [Act.put, List.setIfInBounds_toArray, List.set_cons_zero, List.set_cons_succ]
  refine Yg (i := 13) (by kernel_rfl) rfl (fun K hK => ?_)
  go_simp
  refine hK.out _ _ (fun h => absurd rfl h) ?_
  clear hK K
  try simp only [Act.put, List.setIfInBounds_toArray, List.set_cons_zero, List.set_cons_succ]
  refine Zfg (by kernel_rfl) ?_ _
  go_wp2_with fail
  go_ret
  exact ⟨(a ++ z) ++ b, rfl, by rw [ByteArray.size_append, ByteArray.size_append]; omega, H5.out.1.mono (by omega), H5.out.2⟩
 have hkz : (0 : Int) < k2 := by omega
 go_wp2_with fail
 go_ret
 exact ⟨s, rfl, by omega, H2.out.1.mono (by omega), H2.out.2⟩
end Go.Proofs.YtgdmcmicfoamlaaGreatDoor
