import Derived.Test.YtpfagdmmhgcmnaaGreatDoorMixK
import Derived.Test.YtpfagdmmhgcmnaaGreatDoorMixW
set_option linter.unusedVariables false
set_option linter.unusedSimpArgs false
namespace Go.Proofs.YtpfagdmmhgcmnaaGreatDoor
open Go.RowKit
set_option maxHeartbeats 1000000 in
theorem spec_partX (t : Tbl) (A : Option Addr) (c : Nat) (A' : Option Addr) (c' : Nat) (r : Int) (w : World) (hl : t.rows.length ≤ 1000000) (hf : SmZ t.foot) :
  Calls Tryz.prog 143 #[.agg #[.slice A t.cols.length c, .int .i64 t.head, .int .i64 t.foot, .slice A' t.rows.length c', .int .i64 t.gap], .int .i64 r] w fun e w' => e = .returned (.int .i64 (partOf t r)) ∧ w' = w.alloc (.cells #[.slice A t.cols.length c, .int .i64 t.head, .int .i64 t.foot, .slice A' t.rows.length c', .int .i64 t.gap] 26) := by
 obtain ⟨f1, f2⟩ := hf
 unfold partOf
 go_enter Tryz.func143, Tryz.ntmps143
 by_cases h1 : r < t.head
 ·
  rw [if_pos h1]
  go_wp2_with fail
  go_ret
  exact ⟨rfl, rfl⟩
 ·
  rw [if_neg h1]
  by_cases h2 : (t.rows.length : Int) - t.foot ≤ r
  ·
   rw [if_pos h2]
   go_wp2_with fail
   go_ret
   exact ⟨rfl, rfl⟩
  ·
   rw [if_neg h2]
   go_wp2_with fail
   go_ret
   exact ⟨rfl, rfl⟩
set_option maxHeartbeats 1000000 in
theorem spec_endX (t : Tbl) (A : Option Addr) (c : Nat) (A' : Option Addr) (c' : Nat) (r : Int) (w : World) (hl : t.rows.length ≤ 1000000) (hf : SmZ t.foot) :
  Calls Tryz.prog 106 #[.agg #[.slice A t.cols.length c, .int .i64 t.head, .int .i64 t.foot, .slice A' t.rows.length c', .int .i64 t.gap], .int .i64 r] w fun e w' => e = .returned (.int .i64 (endOf t r)) ∧ w' = (w.alloc (.cells #[.slice A t.cols.length c, .int .i64 t.head, .int .i64 t.foot, .slice A' t.rows.length c', .int .i64 t.gap] 26)).alloc (.cells #[.slice A t.cols.length c, .int .i64 t.head, .int .i64 t.foot, .slice A' t.rows.length c', .int .i64 t.gap] 26) := by
 have hP := fun (W : World) => spec_partX t A c A' c' r W hl hf
 obtain ⟨f1, f2⟩ := hf
 unfold partOf at hP
 unfold endOf
 go_enter Tryz.func106, Tryz.ntmps106
 by_cases h1 : r < t.head
 ·
  rw [if_pos h1]
  simp only [if_pos h1] at hP
  go_wp2_with fail
  refine (hP _).mono ?_
  rintro e w1 ⟨rfl, rfl⟩
  go_wp2_with fail
  go_ret
  exact ⟨rfl, rfl⟩
 ·
  rw [if_neg h1]
  simp only [if_neg h1] at hP
  by_cases h2 : (t.rows.length : Int) - t.foot ≤ r
  ·
   rw [if_pos h2]
   simp only [if_pos h2] at hP
   go_wp2_with fail
   refine (hP _).mono ?_
   rintro e w1 ⟨rfl, rfl⟩
   go_wp2_with fail
   go_ret
   exact ⟨rfl, rfl⟩
  ·
   rw [if_neg h2]
   simp only [if_neg h2] at hP
   go_wp2_with fail
   refine (hP _).mono ?_
   rintro e w1 ⟨rfl, rfl⟩
   go_wp2_with fail
   go_ret
   exact ⟨rfl, rfl⟩
theorem spec_max (a b : Int) (w : World) : Calls Tryz.prog 105 #[.int .i64 a, .int .i64 b] w fun e w' => e = .returned (.int .i64 (max a b)) ∧ w' = w := by
 go_enter Tryz.func105, Tryz.ntmps105
 by_cases h : b < a
 ·
  rw [show max a b = a by omega]
  go_wp2_with fail
  go_ret
  exact ⟨rfl, rfl⟩
 ·
  rw [show max a b = b by omega]
  go_wp2_with fail
  go_ret
  exact ⟨rfl, rfl⟩
structure Shared (P : Prop) : Prop where
 out : P
theorem shareG {P Q : Prop} (h : Shared P → Q) (p : P) : Q := h ⟨p⟩
set_option maxRecDepth 100000 in
set_option maxHeartbeats 4000000 in
theorem spec_l3Of (t : Tbl) (A : Option Addr) (c : Nat) (A' : Option Addr) (c' : Nat) (w : World) (hok : tblOk t = true) (hc : Rd colR w A t.cols) (hr : Rd rowR w A' t.rows) :
    Calls Tryz.prog 57 #[.agg #[.slice A t.cols.length c, .int .i64 t.head, .int .i64 t.foot, .slice A' t.rows.length c', .int .i64 t.gap]] w (GrdPost ⟨t.rows.length, (gridL 90 t).2, (gridL 90 t).1⟩ w) := by
  have HOK := hide hok
  have l1 := hc.1
  have l2 := hr.1
  obtain ⟨⟨p1, p2⟩, p3, _, ⟨p4, p5⟩, ⟨p6, p7⟩, _, _⟩ := tblOk_parts hok
  clear hok hc
  have hM := fun (a b : Int) (W : World) => spec_max a b W
  go_enter Tryz.func57, Tryz.ntmps57
  go_wp2_with fail
  obtain ⟨wz, hwz⟩ : ∃ wz : World, wz = (w.alloc (.cells #[.slice A t.cols.length c, .int .i64 t.head, .int .i64 t.foot, .slice A' t.rows.length c', .int .i64 t.gap] 26)).alloc (.cells #[.int .i64 0, .int .i64 0, .slice none 0 0] 35) := ⟨_, rfl⟩
  rw [← hwz]
  have KB : Below w.heap.size w wz := hwz ▸ balloc (balloc (brefl w) _) _
  have z0 : wz.cell? ⟨w.heap.size, 0, none⟩ = some (.slice A t.cols.length c) := by rw [hwz]; simp
  have z1 : wz.cell? ⟨w.heap.size, 1, none⟩ = some (.int .i64 t.head) := by rw [hwz]; simp
  have z2 : wz.cell? ⟨w.heap.size, 2, none⟩ = some (.int .i64 t.foot) := by rw [hwz]; simp
  have z3 : wz.cell? ⟨w.heap.size, 3, none⟩ = some (.slice A' t.rows.length c') := by rw [hwz]; simp
  have z4 : wz.cell? ⟨w.heap.size, 4, none⟩ = some (.int .i64 t.gap) := by rw [hwz]; simp
  have u0 : wz.cell? ⟨w.heap.size + 1, 0, none⟩ = some (.int .i64 0) := by rw [hwz]; simp
  have u1 : wz.cell? ⟨w.heap.size + 1, 1, none⟩ = some (.int .i64 0) := by rw [hwz]; simp
  have u2 : wz.cell? ⟨w.heap.size + 1, 2, none⟩ = some (.slice none 0 0) := by rw [hwz]; simp
  have u3 : ∀ i, wz.frozen? ⟨w.heap.size + 1, i, none⟩ = false := fun i => by rw [hwz]; simp
  have zz : wz.heap.size = w.heap.size + 2 := by rw [hwz]; simp
  have HSS : Hid (∀ W : World, Below wz.heap.size wz W → Below wz.heap.size wz W ∧ W.cell? ⟨w.heap.size, 0, none⟩ = some (.slice A t.cols.length c) ∧ W.cell? ⟨w.heap.size, 3, none⟩ = some (.slice A' t.rows.length c')) := fun W hB => ⟨hB, keepC hB z0, keepC hB z3⟩
  have HG := hide (And.intro z0 (And.intro z1 (And.intro z2 (And.intro z3 (And.intro z4 (And.intro u0 (And.intro u1 (And.intro u2 u3))))))))
  have ZZ := hide zz
  clear hwz zz z0 z1 z2 z3 z4 u0 u1 u2 u3
  apply shareG
  · intro HSH
    go_region_held3 (fun W => Below wz.heap.size wz W ∧ W.cell? ⟨w.heap.size, 0, none⟩ = some (.slice A t.cols.length c) ∧ W.cell? ⟨w.heap.size, 3, none⟩ = some (.slice A' t.rows.length c')) (first | assumption | (refine HSS.out _ ?_; (repeat' (with_reducible first | exact brefl _ | refine bdrew ?_ | refine balloc ?_ _ | refine bset ?_ ?_ _)) <;> first | (simp; done) | (simp; omega))) (first | (go_at_call 105; refine (hM _ _ _).mono ?_; rintro e w7 ⟨rfl, rfl⟩))
    all_goals exact HSH.out
  · refine letter1 ?_
    intro wy hwy
    have YF : wy.cell? ⟨wz.heap.size, 0, none⟩ = some (.int .i64 t.rows.length) ∧ wy.cell? ⟨wz.heap.size, 1, none⟩ = some (.int .i64 (max 1 t.cols.length)) ∧ wy.cell? ⟨wz.heap.size, 2, none⟩ = some (.slice none 0 0) ∧ (∀ i, wy.frozen? ⟨wz.heap.size, i, none⟩ = false) ∧ Below wz.heap.size wz wy ∧ wz.heap.size < wy.heap.size := by
      subst hwy
      refine ⟨by simp, by simp, by simp, fun i => by simp, bdrew (balloc (brefl _) _), by simp⟩
    clear hwy
    obtain ⟨g0, g1, g2, gf, BY, gl⟩ := YF
    obtain ⟨z0, z1, z2, z3, z4, u0, u1, u2, u3⟩ := HG.out
    have hmx : max 1 (t.cols.length : Int) = (grid0 t).2 := by simp only [grid0]; omega
    rw [hmx] at g1
    clear hmx
    have y3 := keepC BY z3
    go_wp2_with fail
    go_loopg [4] t.rows.length (fun gg s4 wr => ∃ kk : Nat, kk ≤ t.rows.length ∧ t.rows.length - kk ≤ gg ∧ s4 = .int .i64 kk ∧ ∃ S AA cc, Aside (Below wz.heap.size wz wr) ∧ wr.cell? ⟨wz.heap.size, 0, none⟩ = some (.int .i64 t.rows.length) ∧ wr.cell? ⟨wz.heap.size, 1, none⟩ = some (.int .i64 S.2) ∧ wr.cell? ⟨wz.heap.size, 2, none⟩ = some (.slice AA S.1.length cc) ∧ (∀ i, wr.frozen? ⟨wz.heap.size, i, none⟩ = false) ∧ wz.heap.size < wr.heap.size ∧ Aside (wr.ownsRow (wz.heap.size + 1) 39 5 (.slice AA S.1.length cc) S.1.length (S.1.flatMap gcE)) ∧ Aside (GIn (5 * kk) S) ∧ Aside (rowsSt 90 t (t.rows.drop kk) kk S = gridL 90 t))
    case atStart =>
      refine ⟨0, Nat.zero_le _, by omega, rfl, grid0 t, none, 0, BY, g0, g1, by simpa [grid0] using g2, gf, gl, World.ownsRow_nil _ _ _ _, GIn.zero t p3, (show rowsSt 90 t (t.rows.drop 0) 0 _ = _ from rfl)⟩
    case round =>
      clear g0 g1 g2 gf gl y3
      obtain ⟨kk, hkk, hg, rfl, S, AA, cc, BW, g0, g1, g2, gf, gl, HO, HI, HS⟩ := hrel
      have y0 := keepC BW.out z0
      have y1 := keepC BW.out z1
      have y2 := keepC BW.out z2
      have y3 := keepC BW.out z3
      have y4 := keepC BW.out z4
      by_cases hlt : kk < t.rows.length
      · have hltz : (kk : Int) < (t.rows.length : Int) := by omega
        obtain ⟨b, o, d0, d1, rfl, hblt, hK, e0, e1⟩ := hr.at2 rfl (brefl w) kk hlt
        obtain ⟨v, hK', A1, n1, rfl, hl1, hr1⟩ := hK
        simp only [List.cons.injEq, and_true] at hK'
        obtain ⟨rfl, rfl⟩ := hK'
        have hlen := hr1.1
        have hn5 := ((tblOk_parts HOK.out).2.2.2.2.2.2 t.rows[kk] (List.getElem_mem hlt)).1
        have HS2 : Hid (rowsSt 90 t (t.rows.drop (kk + 1)) (kk + 1) (cellsSt 90 t kk t.rows[kk].cs 0 S) = gridL 90 t) := by
          have := HS.out
          rw [List.drop_eq_getElem_cons hlt, rowsSt] at this
          exact this
        have HR2 := hide hr1
        have HE0 := hide e0
        clear hr1 e0 e1
        go_wp2_with fail
        go_loopg [5] t.rows[kk].cs.length (fun gg s5 wr => ∃ k3 : Nat, k3 ≤ t.rows[kk].cs.length ∧ t.rows[kk].cs.length - k3 ≤ gg ∧ s5 = .int .i64 k3 ∧ ∃ S2 AA cc, Aside (Below wz.heap.size wz wr) ∧ wr.cell? ⟨wz.heap.size, 0, none⟩ = some (.int .i64 t.rows.length) ∧ wr.cell? ⟨wz.heap.size, 1, none⟩ = some (.int .i64 S2.2) ∧ wr.cell? ⟨wz.heap.size, 2, none⟩ = some (.slice AA S2.1.length cc) ∧ (∀ i, wr.frozen? ⟨wz.heap.size, i, none⟩ = false) ∧ wz.heap.size < wr.heap.size ∧ Aside (wr.ownsRow (wz.heap.size + 1) 39 5 (.slice AA S2.1.length cc) S2.1.length (S2.1.flatMap gcE)) ∧ Aside (GIn (5 * kk + k3) S2) ∧ Aside (cellsSt 90 t kk (t.rows[kk].cs.drop k3) k3 S2 = cellsSt 90 t kk t.rows[kk].cs 0 S))
        case atStart =>
          exact ⟨0, Nat.zero_le _, by omega, rfl, S, AA, cc, BW.out, g0, g1, g2, gf, gl, HO.out, HI.out, (show cellsSt 90 t kk (t.rows[kk].cs.drop 0) 0 S = _ from rfl)⟩
        case round =>
          clear g0 g1 g2 gf gl HO y0 y1 y2 y3 y4
          obtain ⟨k3, hk3, hg3, rfl, S2, A2, n2, BW2, g0, g1, g2, gf, gl, HO, HI2, HC⟩ := hrel
          have y0 := keepC BW2.out z0
          have y1 := keepC BW2.out z1
          have y2 := keepC BW2.out z2
          have y3 := keepC BW2.out z3
          have y4 := keepC BW2.out z4
          have e0 := keepC (step KB BW2.out) HE0.out
          by_cases hlt3 : k3 < t.rows[kk].cs.length
          · have hltz3 : (k3 : Int) < (t.rows[kk].cs.length : Int) := by omega
            obtain ⟨b3, o3, d0, d1, d2, d3, d4, d5, d6, d7, d8, d9, d10, rfl, hblt3, hK3, x0, x1, x2, x3, x4, x5, x6, x7, x8, x9, x10⟩ := HR2.out.at11 rfl (step KB BW2.out) k3 hlt3
            obtain ⟨hK3, _⟩ := hK3
            simp only [cellE, List.cons.injEq, and_true] at hK3
            obtain ⟨rfl, rfl, rfl, rfl, rfl, rfl, rfl, rfl, rfl, rfl, rfl⟩ := hK3
            have hok3 := cellOk_parts (((tblOk_parts HOK.out).2.2.2.2.2.2 t.rows[kk] (List.getElem_mem hlt)).2 _ (List.getElem_mem hlt3))
            have hE := fun (W : World) => spec_endX t A c (some ⟨b, o, none⟩) c' kk W (by omega) ⟨by omega, by omega⟩
            obtain ⟨heb1, heb2⟩ := end_bounds HOK.out hlt
            have hwr := IntWalk.i64_in (endOf t kk - kk) ⟨by omega, by omega⟩
            have hwr2 := IntWalk.i64_in (kk + t.rows[kk].cs[k3].r) ⟨by have := hok3.2; omega, by have := hok3.2; omega⟩
            go_wp2_with fail
            obtain ⟨wx, hwx⟩ : ∃ wx : World, wx = (wr.alloc (.cells #[.string t.rows[kk].cs[k3].t, .int .i64 t.rows[kk].cs[k3].c, .int .i64 t.rows[kk].cs[k3].r, .int .i64 t.rows[kk].cs[k3].top.s, .int .i64 t.rows[kk].cs[k3].top.w, .int .i64 t.rows[kk].cs[k3].right.s, .int .i64 t.rows[kk].cs[k3].right.w, .int .i64 t.rows[kk].cs[k3].bot.s, .int .i64 t.rows[kk].cs[k3].bot.w, .int .i64 t.rows[kk].cs[k3].left.s, .int .i64 t.rows[kk].cs[k3].left.w] 52)).alloc (.cells #[.int .i64 kk, .int .i64 0, .int .i64 t.rows[kk].cs[k3].r, .int .i64 t.rows[kk].cs[k3].c, .int .i64 k3] 39) := ⟨_, rfl⟩
            rw [← hwx]
            have KX : Below wr.heap.size wr wx := hwx ▸ balloc (balloc (brefl wr) _) _
            have a0 : wx.cell? ⟨wr.heap.size + 1, 0, none⟩ = some (.int .i64 kk) := by rw [hwx]; simp
            have a1 : wx.cell? ⟨wr.heap.size + 1, 1, none⟩ = some (.int .i64 0) := by rw [hwx]; simp
            have a2 : wx.cell? ⟨wr.heap.size + 1, 2, none⟩ = some (.int .i64 t.rows[kk].cs[k3].r) := by rw [hwx]; simp
            have a3 : wx.cell? ⟨wr.heap.size + 1, 3, none⟩ = some (.int .i64 t.rows[kk].cs[k3].c) := by rw [hwx]; simp
            have a4 : wx.cell? ⟨wr.heap.size + 1, 4, none⟩ = some (.int .i64 k3) := by rw [hwx]; simp
            have af : ∀ i, wx.frozen? ⟨wr.heap.size + 1, i, none⟩ = false := fun i => by rw [hwx]; simp
            have zx : wx.heap.size = wr.heap.size + 2 := by rw [hwx]; simp
            have HSX : Hid (∀ W : World, Below wx.heap.size wx W → Below wx.heap.size wx W ∧ W.cell? ⟨wr.heap.size + 1, 2, none⟩ = some (.int .i64 t.rows[kk].cs[k3].r) ∧ W.cell? ⟨w.heap.size, 0, none⟩ = some (.slice A t.cols.length c) ∧ W.cell? ⟨w.heap.size, 1, none⟩ = some (.int .i64 t.head) ∧ W.cell? ⟨w.heap.size, 2, none⟩ = some (.int .i64 t.foot) ∧ W.cell? ⟨w.heap.size, 3, none⟩ = some (.slice (some ⟨b, o, none⟩) t.rows.length c') ∧ W.cell? ⟨w.heap.size, 4, none⟩ = some (.int .i64 t.gap)) := fun W hB =>
              ⟨hB, keepC hB a2, keepC hB (keepC KX y0), keepC hB (keepC KX y1), keepC hB (keepC KX y2), keepC hB (keepC KX y3), keepC hB (keepC KX y4)⟩
            have HA := hide (And.intro a0 (And.intro a1 (And.intro a2 (And.intro a3 (And.intro a4 af)))))
            have HGG := hide (And.intro g0 (And.intro g1 (And.intro g2 gf)))
            have ZX := hide zx
            clear hwx zx a0 a1 a2 a3 a4 af g0 g1 g2 gf y0 y1 y2 y3 y4 e0 x0 x1 x2 x3 x4 x5 x6 x7 x8 x9 x10 z0 z1 z2 z3 z4 u0 u1 u2 u3
            apply shareG
            · intro HSH2
              go_region_held3 (fun W => Below wx.heap.size wx W ∧ W.cell? ⟨wr.heap.size + 1, 2, none⟩ = some (.int .i64 t.rows[kk].cs[k3].r) ∧ W.cell? ⟨w.heap.size, 0, none⟩ = some (.slice A t.cols.length c) ∧ W.cell? ⟨w.heap.size, 1, none⟩ = some (.int .i64 t.head) ∧ W.cell? ⟨w.heap.size, 2, none⟩ = some (.int .i64 t.foot) ∧ W.cell? ⟨w.heap.size, 3, none⟩ = some (.slice (some ⟨b, o, none⟩) t.rows.length c') ∧ W.cell? ⟨w.heap.size, 4, none⟩ = some (.int .i64 t.gap)) (first | assumption | (refine HSX.out _ ?_; (repeat' (with_reducible first | exact brefl _ | refine bdrew ?_ | refine balloc ?_ _ | refine bset ?_ ?_ _)) <;> first | (simp; done) | (simp; omega))) (first | (go_at_call 106; refine (hE _).mono ?_; rintro e w7 ⟨rfl, rfl⟩))
              all_goals exact HSH2.out
            · refine letter1 ?_
              intro wy2 hwy2
              have KY : Below wx.heap.size wx wy2 := by rw [hwy2]; exact bdrew (balloc (balloc (brefl _) _) _)
              clear hwy2
              obtain ⟨m0, m1, m2, m3, m4, mf⟩ := HA.out
              have hcx : wr.heap.size + 1 < wx.heap.size := by have := ZX.out; omega
              have a0 := keepC KY m0
              have a1 := keepC KY m1
              have a2 := keepC KY m2
              have a3 := keepC KY m3
              have a4 := keepC KY m4
              have af := keepF KY hcx mf
              clear m0 m1 m2 m3 m4 mf
              have hcy : wr.heap.size + 1 < wy2.heap.size := by have := KY.size; omega
              have hcy1 : ¬ wy2.heap.size ≤ wr.heap.size + 1 := by omega
              have KR := step KX KY
              have y0 := keepC (step BW2.out KR) (HG.out).1
              have y1 := keepC (step BW2.out KR) (HG.out).2.1
              have y2 := keepC (step BW2.out KR) (HG.out).2.2.1
              have y3 := keepC (step BW2.out KR) (HG.out).2.2.2.1
              have y4 := keepC (step BW2.out KR) (HG.out).2.2.2.2.1
              obtain ⟨V, hV, hcl⟩ : ∃ V, V = (min t.rows[kk].cs[k3].r (endOf t kk - kk)) ∧ ((endOf t kk < kk + t.rows[kk].cs[k3].r ∧ V = endOf t kk - kk) ∨ (¬ endOf t kk < kk + t.rows[kk].cs[k3].r ∧ V = t.rows[kk].cs[k3].r)) := by
                refine ⟨_, rfl, ?_⟩
                by_cases h : endOf t kk < kk + t.rows[kk].cs[k3].r
                · exact .inl ⟨h, by omega⟩
                · exact .inr ⟨h, by omega⟩
              have HV := hide hV
              clear hV HSX HA
              rcases hcl with ⟨hcl, rfl⟩ | ⟨hcl, rfl⟩
              all_goals
                go_wp2_with fail
                first
                | (refine (hE _).mono ?_
                   rintro e w1 ⟨rfl, rfl⟩
                   have KQ := balloc (balloc (brefl wy2) (.cells #[.slice A t.cols.length c, .int .i64 t.head, .int .i64 t.foot, .slice (some ⟨b, o, none⟩) t.rows.length c', .int .i64 t.gap] 26)) (.cells #[.slice A t.cols.length c, .int .i64 t.head, .int .i64 t.foot, .slice (some ⟨b, o, none⟩) t.rows.length c', .int .i64 t.gap] 26)
                   have qf := keepF KQ hcy af
                   have q2 := keepC KQ a2
                   clear KQ
                   go_wp2_with fail)
                | skip
                refine letter1 ?_
                intro wl hwl
                have YF : wl.cell? ⟨wr.heap.size + 1, 0, none⟩ = some (.int .i64 kk) ∧ wl.cell? ⟨wr.heap.size + 1, 1, none⟩ = some (.int .i64 0) ∧ (∃ V, V = (min t.rows[kk].cs[k3].r (endOf t kk - kk)) ∧ wl.cell? ⟨wr.heap.size + 1, 2, none⟩ = some (.int .i64 V)) ∧ wl.cell? ⟨wr.heap.size + 1, 3, none⟩ = some (.int .i64 t.rows[kk].cs[k3].c) ∧ wl.cell? ⟨wr.heap.size + 1, 4, none⟩ = some (.int .i64 k3) ∧ (∀ i, wl.frozen? ⟨wr.heap.size + 1, i, none⟩ = false) ∧ Below wr.heap.size wr wl ∧ wr.heap.size + 1 < wl.heap.size := by
                  subst hwl
                  first
                  | exact ⟨a0, a1, ⟨_, HV.out, a2⟩, a3, a4, af, KR, by omega⟩
                  | (have KQ := balloc (balloc (brefl wy2) (.cells #[.slice A t.cols.length c, .int .i64 t.head, .int .i64 t.foot, .slice (some ⟨b, o, none⟩) t.rows.length c', .int .i64 t.gap] 26)) (.cells #[.slice A t.cols.length c, .int .i64 t.head, .int .i64 t.foot, .slice (some ⟨b, o, none⟩) t.rows.length c', .int .i64 t.gap] 26)
                     exact ⟨setO (keepC KQ a0) (by simp), setO (keepC KQ a1) (by simp), ⟨_, HV.out, setS (keepC KQ a2)⟩, setO (keepC KQ a3) (by simp), setO (keepC KQ a4) (by simp), setF (keepF KQ hcy af), bset (step KR KQ) (Nat.le_succ _) _, by simp; omega⟩)
                clear hwl a0 a1 a2 a3 a4 af hcy hcy1 y0 y1 y2 y3 y4
                obtain ⟨a0, a1, ⟨V', hV', a2⟩, a3, a4, af, KL, hcl2⟩ := YF
                rw [hV'] at a2
                clear hV' V'
                obtain ⟨g0, g1, g2, gf⟩ := HGG.out
                obtain ⟨C, hC⟩ : ∃ C, C = wr.heap.size + 1 := ⟨_, rfl⟩
                rw [← hC] at a0 a1 a2 a3 a4 af hcl2 ⊢
                have hC1 : wr.heap.size ≤ C := by omega
                have CE : cell0 t kk k3 t.rows[kk].cs[k3] = ⟨kk, 0, (min t.rows[kk].cs[k3].r (endOf t kk - kk)), t.rows[kk].cs[k3].c, k3⟩ := rfl
                have CM : cellsSt 90 t kk (t.rows[kk].cs.drop (k3 + 1)) (k3 + 1) (step1 90 t kk k3 t.rows[kk].cs[k3] S2) = cellsSt 90 t kk t.rows[kk].cs 0 S := by
                  rw [← HC.out, List.drop_eq_getElem_cons hlt3, cellsSt]
                have CF := hide CE
                have CMH := hide CM
                have HTP : Hid (∀ b, (Value.slice A2 S2.1.length n2).ownBlock = some b → wz.heap.size + 1 ≤ b ∧ b < C) := fun b hb => ⟨(own_lt HO.out hb).1, by have := (own_lt HO.out hb).2; omega⟩
                have HHC := hide hC
                clear CE CM hC
                have hin := HI2.out
                obtain ⟨wq, rfl⟩ : ∃ W : World, W = wr := ⟨wr, rfl⟩
                go_wp2_with fail
                go_loopg [] 90 (fun gg wv => ∃ q : Nat, q ≤ 90 ∧ 90 - q ≤ gg ∧ wv.cell? ⟨C, 0, none⟩ = some (.int .i64 kk) ∧ wv.cell? ⟨C, 1, none⟩ = some (.int .i64 q) ∧ wv.cell? ⟨C, 2, none⟩ = some (.int .i64 (min t.rows[kk].cs[k3].r (endOf t kk - kk))) ∧ wv.cell? ⟨C, 3, none⟩ = some (.int .i64 t.rows[kk].cs[k3].c) ∧ wv.cell? ⟨C, 4, none⟩ = some (.int .i64 k3) ∧ (∀ i, wv.frozen? ⟨C, i, none⟩ = false) ∧ Aside (Below wq.heap.size wq wv) ∧ C < wv.heap.size ∧ Aside (freeFrom S2.1 (cell0 t kk k3 t.rows[kk].cs[k3]) (90 - q) q = freeFrom S2.1 (cell0 t kk k3 t.rows[kk].cs[k3]) 90 0))
                case atStart => exact ⟨0, by omega, by omega, a0, a1, a2, a3, a4, af, KL, hcl2, (show Aside _ from rfl)⟩
                case round =>
                  clear a0 a1 a2 a3 a4 af hcl2
                  obtain ⟨⟨hk4, hk5⟩, hk6, hk7⟩ := hok3
                  obtain ⟨q, hq4, hgq, a0, a1, a2, a3, a4, af, KV, hcl2, HF⟩ := hrel
                  have HOv := own_below HO.out KV.out
                  have g0 := keepC KV.out g0
                  have g1 := keepC KV.out g1
                  have g2 := keepC KV.out g2
                  have gf := keepF KV.out gl gf
                  have hrd : Rd gcR wr A2 S2.1 := by
                    obtain ⟨Ao, co, eo, _, ro⟩ := own_rd (enc := gcE) (hk := fun _ => rfl) HOv
                    injection eo with e1 _ _
                    rw [e1]
                    exact rd_mono (d := flat 5 gcE (fun _ => rfl)) (d' := gcR) rfl (fun a ha cs h => ⟨h, hin.sm (by omega) a ha⟩) ro
                  have hfr := fun (W : World) (hB : Below wr.heap.size wr W) => spec_free S2.1 A2 n2 ⟨kk, q, (min t.rows[kk].cs[k3].r (endOf t kk - kk)), t.rows[kk].cs[k3].c, k3⟩ W (hrd.below hB) (by refine ⟨?_, ?_, ?_, ?_, ?_⟩ <;> (dsimp only; constructor <;> omega))
                  clear hrd
                  have hmany : q < 90 → freeFrom S2.1 ⟨kk, 0, (min t.rows[kk].cs[k3].r (endOf t kk - kk)), t.rows[kk].cs[k3].c, k3⟩ (90 - q) q = (if S2.1.any (meets ⟨kk, q, (min t.rows[kk].cs[k3].r (endOf t kk - kk)), t.rows[kk].cs[k3].c, k3⟩) then freeFrom S2.1 ⟨kk, 0, (min t.rows[kk].cs[k3].r (endOf t kk - kk)), t.rows[kk].cs[k3].c, k3⟩ (90 - (q + 1)) (q + 1) else q) := fun h => by
                    rw [show 90 - q = (90 - (q + 1)) + 1 by omega, freeFrom]; rfl
                  rw [CF.out] at HF
                  have HF := hide HF.out
                  by_cases hq9 : q < 90
                  · have hq9z : (q : Int) < 90 := by omega
                    have HM := hmany hq9
                    rw [HF.out] at HM
                    have HFM := hide HM
                    clear HM hmany HF
                    cases hqb : S2.1.any (meets ⟨kk, q, (min t.rows[kk].cs[k3].r (endOf t kk - kk)), t.rows[kk].cs[k3].c, k3⟩) with
                    | true =>
                      rw [hqb] at hfr HFM
                      clear hqb
                      go_wp2_with fail
                      refine (hfr _ (brefl _)).mono ?_
                      rintro e w' ⟨rfl, hb'⟩
                      have a0 := keepC hb' a0
                      have a1 := keepC hb' a1
                      have a2 := keepC hb' a2
                      have a3 := keepC hb' a3
                      have a4 := keepC hb' a4
                      have af := keepF hb' hcl2 af
                      have hcl2 := Nat.lt_of_lt_of_le hcl2 hb'.size
                      have hqw := IntWalk.i64_in (q + 1) ⟨by omega, by omega⟩
                      clear hfr
                      go_wp2_with fail
                      go_roundg (90 - (q + 1))
                      case measure => omega
                      case rel =>
                        refine ⟨q + 1, by omega, by omega, setO a0 (by simp), (by have := setS (v := .int .i64 ((q : Int) + 1)) a1; simpa using this), setO a2 (by simp), setO a3 (by simp), setO a4 (by simp), setF af, bset (step KV.out hb') hC1 _, by simpa using hcl2, (show Aside _ from ?_)⟩
                        have h1 := HFM.out
                        rw [CF.out]
                        exact (h1.trans (if_pos (by simp))).symm
                    | false =>
                      rw [hqb] at hfr HFM
                      clear hqb
                      have HK : Hid (freeFrom S2.1 (cell0 t kk k3 t.rows[kk].cs[k3]) 90 0 = q) := by
                        have h1 := HFM.out
                        rw [CF.out]
                        exact h1.trans (if_neg (by simp))
                      clear HFM
                      go_wp2_with fail
                      refine (hfr _ (brefl _)).mono ?_
                      rintro e w' ⟨rfl, hb'⟩
                      have a0 := keepC hb' a0
                      have a1 := keepC hb' a1
                      have a2 := keepC hb' a2
                      have a3 := keepC hb' a3
                      have a4 := keepC hb' a4
                      have hcl2 := Nat.lt_of_lt_of_le hcl2 hb'.size
                      have g0 := keepC hb' g0
                      have g1 := keepC hb' g1
                      have g2 := keepC hb' g2
                      have gf := keepF hb' (Nat.lt_of_lt_of_le gl KV.out.size) gf
                      have HOv := own_below HOv hb'
                      have KV := step KV.out hb'
                      clear hfr hb'
                      have hGl : wz.heap.size < w'.heap.size := by have := KV.size; omega
                      have hTop' : ∀ b, b = wz.heap.size ∨ C ≤ b → (Value.slice A2 S2.1.length n2).ownBlock ≠ some b := fun b hb e => by
                        have h1 := HTP.out b e
                        omega
                      have BWw := step BW2.out KV
                      obtain ⟨i0, hi, hz0, hz1, hz2⟩ := info_parts infoG
                      go_wp2_with (at_builtin; refine wpList_append_own _ rfl _ _ 33 rfl (wz.heap.size + 1) 39 i0 _ 5 40 undG hi hz0 hz1 hz2 rfl (by decide) _ _ _ rfl (HOv.alloc _) ⟨w'.heap.size, 0, none⟩ 1 1 [.int .i64 kk, .int .i64 q, .int .i64 (min t.rows[kk].cs[k3].r (endOf t kk - kk)), .int .i64 t.rows[kk].cs[k3].c, .int .i64 k3] rfl rfl (news5 (cell_new _ _ _ _ _ _ rfl) (cell_new _ _ _ _ _ _ rfl) (cell_new _ _ _ _ _ _ rfl) (cell_new _ _ _ _ _ _ rfl) (cell_new _ _ _ _ _ _ rfl)) (ints5 _ _ _ _ _ _) (by have := hin.1; unfold maxLen; omega) (by have := hin.1; omega) (by simp; omega) ?_)
                      intro v' w2 HO2 hgr _
                      have AK := fun b h1 h2 => app_keep hgr b h1 h2
                      have BW3 := app_below BWw HOv (by omega) hgr
                      have HO3 := step_own HK.out HO2
                      obtain ⟨E1, E2⟩ := step_facts HK.out
                      have HRB := rows_bounds HOK.out hlt k3 _ ⟨hk6, hk7⟩
                      have HI3 := hin.step 90 t kk k3 t.rows[kk].cs[k3] (by omega) (by omega) ⟨hk4, hk5⟩ ⟨by omega, by omega⟩
                      obtain ⟨S3, hS3⟩ : ∃ S3, S3 = step1 90 t kk k3 t.rows[kk].cs[k3] S2 := ⟨_, rfl⟩
                      have CMH3 := CMH.out
                      rw [← hS3] at HO3 HI3 E2 CMH3
                      clear E1 HRB hS3 HO2 CMH
                      obtain ⟨A3, n3, rfl⟩ := own_form HO3
                      have HC3 := hide CMH3
                      have HE2 := hide E2
                      obtain ⟨b0, bf, bl⟩ := AK wz.heap.size (by omega) (hTop' _ (.inl rfl))
                      obtain ⟨d0, df, dl⟩ := AK C hcl2 (hTop' C (.inr (Nat.le_refl _)))
                      have g0 := (b0 0).trans g0
                      have g1 := (b0 1).trans g1
                      have g2 := (b0 2).trans g2
                      have gf : ∀ i, w2.frozen? ⟨wz.heap.size, i, none⟩ = false := fun i => (bf i).trans (gf i)
                      have a1 := (d0 1).trans a1
                      have a3 := (d0 3).trans a3
                      clear AK b0 bf d0 df CMH3 E2 hgr BWw HOv hTop'
                      obtain ⟨_, hin3, hin4⟩ := hin
                      obtain ⟨hin5, hin6⟩ := hin4
                      have hqw := IntWalk.i64_in (q + t.rows[kk].cs[k3].c) ⟨by omega, by omega⟩
                      go_wp2_with fail
                      refine (hM _ _ _).mono ?_
                      rintro e w7 ⟨rfl, rfl⟩
                      go_wp2_with fail
                      go_roundg (t.rows[kk].cs.length - (k3 + 1))
                      case measure => omega
                      case rel =>
                        refine ⟨k3 + 1, by omega, by omega, by go_num, S3, A3, n3, bset (bset BW3 (Nat.le_refl _) _) (Nat.le_refl _) _, setO (setO g0 (by simp)) (by simp), ?_, setO (setS g2) (by simp), setF (setF gf), by simpa using bl,
                          own_set (own_set HO3 (show wz.heap.size < wz.heap.size + 1 by omega) _) (show wz.heap.size < wz.heap.size + 1 by omega) _, HI3, HC3.out⟩
                        rw [HE2.out]
                        exact setS (setO g1 (by simp))
                  · have HK : Hid (freeFrom S2.1 (cell0 t kk k3 t.rows[kk].cs[k3]) 90 0 = q) := by
                      have h1 := HF.out
                      rw [CF.out, ← h1, show q = 90 by omega]; rfl
                    have hq9z : ¬ (q : Int) < 90 := by omega
                    clear hfr hmany HF
                    have KV := KV.out
                    have hGl : wz.heap.size < wr.heap.size := by have := KV.size; omega
                    have hTop' : ∀ b, b = wz.heap.size ∨ C ≤ b → (Value.slice A2 S2.1.length n2).ownBlock ≠ some b := fun b hb e => by
                      have h1 := HTP.out b e
                      omega
                    have BWw := step BW2.out KV
                    obtain ⟨i0, hi, hz0, hz1, hz2⟩ := info_parts infoG
                    go_wp2_with (at_builtin; refine wpList_append_own _ rfl _ _ 33 rfl (wz.heap.size + 1) 39 i0 _ 5 40 undG hi hz0 hz1 hz2 rfl (by decide) _ _ _ rfl (HOv.alloc _) ⟨wr.heap.size, 0, none⟩ 1 1 [.int .i64 kk, .int .i64 q, .int .i64 (min t.rows[kk].cs[k3].r (endOf t kk - kk)), .int .i64 t.rows[kk].cs[k3].c, .int .i64 k3] rfl rfl (news5 (cell_new _ _ _ _ _ _ rfl) (cell_new _ _ _ _ _ _ rfl) (cell_new _ _ _ _ _ _ rfl) (cell_new _ _ _ _ _ _ rfl) (cell_new _ _ _ _ _ _ rfl)) (ints5 _ _ _ _ _ _) (by have := hin.1; unfold maxLen; omega) (by have := hin.1; omega) (by simp; omega) ?_)
                    intro v' w2 HO2 hgr _
                    have AK := fun b h1 h2 => app_keep hgr b h1 h2
                    have BW3 := app_below BWw HOv (by omega) hgr
                    have HO3 := step_own HK.out HO2
                    obtain ⟨E1, E2⟩ := step_facts HK.out
                    have HRB := rows_bounds HOK.out hlt k3 _ ⟨hk6, hk7⟩
                    have HI3 := hin.step 90 t kk k3 t.rows[kk].cs[k3] (by omega) (by omega) ⟨hk4, hk5⟩ ⟨by omega, by omega⟩
                    obtain ⟨S3, hS3⟩ : ∃ S3, S3 = step1 90 t kk k3 t.rows[kk].cs[k3] S2 := ⟨_, rfl⟩
                    have CMH3 := CMH.out
                    rw [← hS3] at HO3 HI3 E2 CMH3
                    clear E1 HRB hS3 HO2 CMH
                    obtain ⟨A3, n3, rfl⟩ := own_form HO3
                    have HC3 := hide CMH3
                    have HE2 := hide E2
                    obtain ⟨b0, bf, bl⟩ := AK wz.heap.size (by omega) (hTop' _ (.inl rfl))
                    obtain ⟨d0, df, dl⟩ := AK C hcl2 (hTop' C (.inr (Nat.le_refl _)))
                    have g0 := (b0 0).trans g0
                    have g1 := (b0 1).trans g1
                    have g2 := (b0 2).trans g2
                    have gf : ∀ i, w2.frozen? ⟨wz.heap.size, i, none⟩ = false := fun i => (bf i).trans (gf i)
                    have a1 := (d0 1).trans a1
                    have a3 := (d0 3).trans a3
                    clear AK b0 bf d0 df CMH3 E2 hgr BWw HOv hTop'
                    obtain ⟨_, hin3, hin4⟩ := hin
                    obtain ⟨hin5, hin6⟩ := hin4
                    have hqw := IntWalk.i64_in (q + t.rows[kk].cs[k3].c) ⟨by omega, by omega⟩
                    go_wp2_with fail
                    refine (hM _ _ _).mono ?_
                    rintro e w7 ⟨rfl, rfl⟩
                    go_wp2_with fail
                    go_roundg (t.rows[kk].cs.length - (k3 + 1))
                    case measure => omega
                    case rel =>
                      refine ⟨k3 + 1, by omega, by omega, by go_num, S3, A3, n3, bset (bset BW3 (Nat.le_refl _) _) (Nat.le_refl _) _, setO (setO g0 (by simp)) (by simp), ?_, setO (setS g2) (by simp), setF (setF gf), by simpa using bl,
                        own_set (own_set HO3 (show wz.heap.size < wz.heap.size + 1 by omega) _) (show wz.heap.size < wz.heap.size + 1 by omega) _, HI3, HC3.out⟩
                      rw [HE2.out]
                      exact setS (setO g1 (by simp))
          · have hltz3 : ¬ (k3 : Int) < (t.rows[kk].cs.length : Int) := by omega
            have hk3e : k3 = t.rows[kk].cs.length := by omega
            have HS3 : Hid (rowsSt 90 t (t.rows.drop (kk + 1)) (kk + 1) S2 = gridL 90 t) := by
              have h1 := HC.out
              rw [hk3e, List.drop_length] at h1
              have h2 := HS2.out
              rw [← h1] at h2
              exact h2
            clear hk3e
            go_wp2_with fail
            go_roundg (t.rows.length - (kk + 1))
            case measure => omega
            case rel => exact ⟨kk + 1, by omega, by omega, by go_num, S2, A2, n2, BW2.out, g0, g1, g2, gf, gl, HO.out, HI2.out.le (by omega), HS3.out⟩
      · have hltz : ¬ (kk : Int) < (t.rows.length : Int) := by omega
        have HSE : Hid (S = gridL 90 t) := by
          have h1 := HS.out
          rw [show kk = t.rows.length by omega, List.drop_length] at h1
          exact h1
        have u0 := keepC BW.out u0
        have u1 := keepC BW.out u1
        have u2 := keepC BW.out u2
        have hu1 : w.heap.size + 1 < wz.heap.size := by have := ZZ.out; omega
        have u3 := keepF BW.out hu1 u3
        clear hM
        go_wp2_with fail
        refine bodyPost_ret (v := .agg #[.int .i64 t.rows.length, .int .i64 S.2, .slice AA S.1.length cc]) (by simp [results, Tryz.results57, go_sem, *]) rfl ?_
        have h1 := HSE.out
        rw [← h1]
        have hlt1 : w.heap.size + 1 < wz.heap.size + 1 := by omega
        exact ⟨AA, cc, rfl, own_base (own_set (own_set (own_set HO.out hlt1 _) hlt1 _) hlt1 _) (by omega), bset (bset (bset (step KB BW.out) (Nat.le_succ _) _) (Nat.le_succ _) _) (Nat.le_succ _) _⟩
end Go.Proofs.YtpfagdmmhgcmnaaGreatDoor

namespace Go.Proofs.YtpfagdmmhgcmnaaGreatDoor
open Go.RowKit
theorem GIn.rows {m : Nat} {t : Tbl} (h : tblOk t = true) : GIn 40 (gridL m t) := by
 obtain ⟨⟨p1, p2⟩, p3, _⟩ := tblOk_parts h
 have hcells : ∀ (r : Nat) (hr : r < t.rows.length) (xs : List TCell) (i n : Nat) (S : List GCell × Int), (∀ x ∈ xs, cellOk x = true) → i + xs.length ≤ 5 → GIn n S → GIn (n + xs.length) (cellsSt m t r xs i S) := by
  intro r hr xs
  induction xs with
  | nil => intro i n S _ _ hS; exact hS
  | cons x xs ih =>
   intro i n S hx hi hS
   simp only [List.length_cons] at hi ⊢
   have hx0 := cellOk_parts (hx x (List.mem_cons_self ..))
   have hb := rows_bounds h hr i x hx0.2
   have := ih (i + 1) (n + 1) _ (fun y hy => hx y (List.mem_cons_of_mem _ hy)) (by omega) (hS.step m t r i x (by omega) (by omega) hx0.1 ⟨by omega, by omega⟩)
   rw [show n + (xs.length + 1) = n + 1 + xs.length by omega]
   exact this
 have hrows : ∀ (k : Nat) (S : List GCell × Int), k ≤ t.rows.length → GIn (5 * (t.rows.length - k)) S → GIn (5 * t.rows.length) (rowsSt m t (t.rows.drop (t.rows.length - k)) (t.rows.length - k) S) := by
  intro k
  induction k with
  | zero => intro S _ hS; rw [Nat.sub_zero, List.drop_length]; exact hS
  | succ k ih =>
   intro S hk hS
   have hlt : t.rows.length - (k + 1) < t.rows.length := by omega
   rw [List.drop_eq_getElem_cons hlt, rowsSt]
   have hy := (tblOk_parts h).2.2.2.2.2.2 _ (List.getElem_mem hlt)
   have h1 := hcells _ hlt t.rows[t.rows.length - (k + 1)].cs 0 _ S hy.2 (by have := hy.1; omega) hS
   have h2 := h1.le (n' := 5 * (t.rows.length - k)) (by have := hy.1; omega)
   have h3 := ih _ (by omega) h2
   rw [show t.rows.length - k = t.rows.length - (k + 1) + 1 by omega] at h3
   exact h3
 have h0 := hrows t.rows.length (grid0 t) (Nat.le_refl _) (by rw [Nat.sub_self]; exact GIn.zero t p3)
 rw [Nat.sub_self] at h0
 exact GIn.le h0 (by omega)
theorem fieldC (a b : Int) (W : World) : (Instr.field 43 (.agg #[.int .i64 a, .int .i64 b]) 0).run Tryz.prog W = .ok (.int .i64 a) W := by kernel_rfl
end Go.Proofs.YtpfagdmmhgcmnaaGreatDoor
