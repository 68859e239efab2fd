import Derived.Test.YtpfagdmmhgcmnaaGreatDoorMixK
import Derived.Test.YtpfagdmmhgcmnaaGreatDoorMixKg
import Derived.Laws.IdiomStrings
set_option linter.unusedVariables false
set_option linter.unusedSimpArgs false
namespace Go.Proofs.YtpfagdmmhgcmnaaGreatDoor
open Go.RowKit
set_option maxHeartbeats 1000000 in
theorem spec_partX (t : Tbl) (A : Option Addr) (c : Nat) (A' : Option Addr) (c' : Nat) (r : Int) (w : World) (hl : t.rows.length ≤ 1000000) (hf : SmZ t.foot) :
  Calls Tryz.prog 143 #[.agg #[.slice A t.cols.length c, .int .i64 t.head, .int .i64 t.foot, .slice A' t.rows.length c', .int .i64 t.gap], .int .i64 r] w fun e w' => e = .returned (.int .i64 (partOf t r)) ∧ w' = w.alloc (.cells #[.slice A t.cols.length c, .int .i64 t.head, .int .i64 t.foot, .slice A' t.rows.length c', .int .i64 t.gap] 26) := by
 obtain ⟨f1, f2⟩ := hf
 unfold partOf
 go_enter Tryz.func143, Tryz.ntmps143
 by_cases h1 : r < t.head
 ·
  rw [if_pos h1]
  go_wp2_with fail
  go_ret
  exact ⟨rfl, rfl⟩
 ·
  rw [if_neg h1]
  by_cases h2 : (t.rows.length : Int) - t.foot ≤ r
  ·
   rw [if_pos h2]
   go_wp2_with fail
   go_ret
   exact ⟨rfl, rfl⟩
  ·
   rw [if_neg h2]
   go_wp2_with fail
   go_ret
   exact ⟨rfl, rfl⟩
set_option maxHeartbeats 1000000 in
theorem spec_endX (t : Tbl) (A : Option Addr) (c : Nat) (A' : Option Addr) (c' : Nat) (r : Int) (w : World) (hl : t.rows.length ≤ 1000000) (hf : SmZ t.foot) :
  Calls Tryz.prog 106 #[.agg #[.slice A t.cols.length c, .int .i64 t.head, .int .i64 t.foot, .slice A' t.rows.length c', .int .i64 t.gap], .int .i64 r] w fun e w' => e = .returned (.int .i64 (endOf t r)) ∧ w' = (w.alloc (.cells #[.slice A t.cols.length c, .int .i64 t.head, .int .i64 t.foot, .slice A' t.rows.length c', .int .i64 t.gap] 26)).alloc (.cells #[.slice A t.cols.length c, .int .i64 t.head, .int .i64 t.foot, .slice A' t.rows.length c', .int .i64 t.gap] 26) := by
 have hP := fun (W : World) => spec_partX t A c A' c' r W hl hf
 obtain ⟨f1, f2⟩ := hf
 unfold partOf at hP
 unfold endOf
 go_enter Tryz.func106, Tryz.ntmps106
 by_cases h1 : r < t.head
 ·
  rw [if_pos h1]
  simp only [if_pos h1] at hP
  go_wp2_with fail
  refine (hP _).mono ?_
  rintro e w1 ⟨rfl, rfl⟩
  go_wp2_with fail
  go_ret
  exact ⟨rfl, rfl⟩
 ·
  rw [if_neg h1]
  simp only [if_neg h1] at hP
  by_cases h2 : (t.rows.length : Int) - t.foot ≤ r
  ·
   rw [if_pos h2]
   simp only [if_pos h2] at hP
   go_wp2_with fail
   refine (hP _).mono ?_
   rintro e w1 ⟨rfl, rfl⟩
   go_wp2_with fail
   go_ret
   exact ⟨rfl, rfl⟩
  ·
   rw [if_neg h2]
   simp only [if_neg h2] at hP
   go_wp2_with fail
   refine (hP _).mono ?_
   rintro e w1 ⟨rfl, rfl⟩
   go_wp2_with fail
   go_ret
   exact ⟨rfl, rfl⟩
theorem spec_max (a b : Int) (w : World) : Calls Tryz.prog 105 #[.int .i64 a, .int .i64 b] w fun e w' => e = .returned (.int .i64 (max a b)) ∧ w' = w := by
 go_enter Tryz.func105, Tryz.ntmps105
 by_cases h : b < a
 ·
  rw [show max a b = a by omega]
  go_wp2_with fail
  go_ret
  exact ⟨rfl, rfl⟩
 ·
  rw [show max a b = b by omega]
  go_wp2_with fail
  go_ret
  exact ⟨rfl, rfl⟩
structure Shared (P : Prop) : Prop where
 out : P
theorem shareG {P Q : Prop} (h : Shared P → Q) (p : P) : Q := h ⟨p⟩
set_option maxRecDepth 100000 in
set_option maxHeartbeats 4000000 in
theorem spec_l3Of (t : Tbl) (A : Option Addr) (c : Nat) (A' : Option Addr) (c' : Nat) (w : World) (hok : tblOk t = true) (hc : Rd colR w A t.cols) (hr : Rd rowR w A' t.rows) :
    Calls Tryz.prog 57 #[.agg #[.slice A t.cols.length c, .int .i64 t.head, .int .i64 t.foot, .slice A' t.rows.length c', .int .i64 t.gap]] w (GrdPost ⟨t.rows.length, (gridL 90 t).2, (gridL 90 t).1⟩ w) := by
  have HOK := hide hok
  have l1 := hc.1
  have l2 := hr.1
  obtain ⟨⟨p1, p2⟩, p3, _, ⟨p4, p5⟩, ⟨p6, p7⟩, _, _⟩ := tblOk_parts hok
  clear hok hc
  have hM := fun (a b : Int) (W : World) => spec_max a b W
  go_enter Tryz.func57, Tryz.ntmps57
  go_wp2_with fail
  obtain ⟨wz, hwz⟩ : ∃ wz : World, wz = (w.alloc (.cells #[.slice A t.cols.length c, .int .i64 t.head, .int .i64 t.foot, .slice A' t.rows.length c', .int .i64 t.gap] 26)).alloc (.cells #[.int .i64 0, .int .i64 0, .slice none 0 0] 35) := ⟨_, rfl⟩
  rw [← hwz]
  have KB : Below w.heap.size w wz := hwz ▸ balloc (balloc (brefl w) _) _
  have z0 : wz.cell? ⟨w.heap.size, 0, none⟩ = some (.slice A t.cols.length c) := by rw [hwz]; simp
  have z1 : wz.cell? ⟨w.heap.size, 1, none⟩ = some (.int .i64 t.head) := by rw [hwz]; simp
  have z2 : wz.cell? ⟨w.heap.size, 2, none⟩ = some (.int .i64 t.foot) := by rw [hwz]; simp
  have z3 : wz.cell? ⟨w.heap.size, 3, none⟩ = some (.slice A' t.rows.length c') := by rw [hwz]; simp
  have z4 : wz.cell? ⟨w.heap.size, 4, none⟩ = some (.int .i64 t.gap) := by rw [hwz]; simp
  have u0 : wz.cell? ⟨w.heap.size + 1, 0, none⟩ = some (.int .i64 0) := by rw [hwz]; simp
  have u1 : wz.cell? ⟨w.heap.size + 1, 1, none⟩ = some (.int .i64 0) := by rw [hwz]; simp
  have u2 : wz.cell? ⟨w.heap.size + 1, 2, none⟩ = some (.slice none 0 0) := by rw [hwz]; simp
  have u3 : ∀ i, wz.frozen? ⟨w.heap.size + 1, i, none⟩ = false := fun i => by rw [hwz]; simp
  have zz : wz.heap.size = w.heap.size + 2 := by rw [hwz]; simp
  have HSS : Hid (∀ W : World, Below wz.heap.size wz W → Below wz.heap.size wz W ∧ W.cell? ⟨w.heap.size, 0, none⟩ = some (.slice A t.cols.length c) ∧ W.cell? ⟨w.heap.size, 3, none⟩ = some (.slice A' t.rows.length c')) := fun W hB => ⟨hB, keepC hB z0, keepC hB z3⟩
  have HG := hide (And.intro z0 (And.intro z1 (And.intro z2 (And.intro z3 (And.intro z4 (And.intro u0 (And.intro u1 (And.intro u2 u3))))))))
  have ZZ := hide zz
  clear hwz zz z0 z1 z2 z3 z4 u0 u1 u2 u3
  apply shareG
  · intro HSH
    go_region_held3 (fun W => Below wz.heap.size wz W ∧ W.cell? ⟨w.heap.size, 0, none⟩ = some (.slice A t.cols.length c) ∧ W.cell? ⟨w.heap.size, 3, none⟩ = some (.slice A' t.rows.length c')) (first | assumption | (refine HSS.out _ ?_; (repeat' (with_reducible first | exact brefl _ | refine bdrew ?_ | refine balloc ?_ _ | refine bset ?_ ?_ _)) <;> first | (simp; done) | (simp; omega))) (first | (go_at_call 105; refine (hM _ _ _).mono ?_; rintro e w7 ⟨rfl, rfl⟩))
    all_goals exact HSH.out
  · refine letter1 ?_
    intro wy hwy
    have YF : wy.cell? ⟨wz.heap.size, 0, none⟩ = some (.int .i64 t.rows.length) ∧ wy.cell? ⟨wz.heap.size, 1, none⟩ = some (.int .i64 (max 1 t.cols.length)) ∧ wy.cell? ⟨wz.heap.size, 2, none⟩ = some (.slice none 0 0) ∧ (∀ i, wy.frozen? ⟨wz.heap.size, i, none⟩ = false) ∧ Below wz.heap.size wz wy ∧ wz.heap.size < wy.heap.size := by
      subst hwy
      refine ⟨by simp, by simp, by simp, fun i => by simp, bdrew (balloc (brefl _) _), by simp⟩
    clear hwy
    obtain ⟨g0, g1, g2, gf, BY, gl⟩ := YF
    obtain ⟨z0, z1, z2, z3, z4, u0, u1, u2, u3⟩ := HG.out
    have hmx : max 1 (t.cols.length : Int) = (grid0 t).2 := by simp only [grid0]; omega
    rw [hmx] at g1
    clear hmx
    have y3 := keepC BY z3
    go_wp2_with fail
    go_loopg [4] t.rows.length (fun gg s4 wr => ∃ kk : Nat, kk ≤ t.rows.length ∧ t.rows.length - kk ≤ gg ∧ s4 = .int .i64 kk ∧ ∃ S AA cc, Aside (Below wz.heap.size wz wr) ∧ wr.cell? ⟨wz.heap.size, 0, none⟩ = some (.int .i64 t.rows.length) ∧ wr.cell? ⟨wz.heap.size, 1, none⟩ = some (.int .i64 S.2) ∧ wr.cell? ⟨wz.heap.size, 2, none⟩ = some (.slice AA S.1.length cc) ∧ (∀ i, wr.frozen? ⟨wz.heap.size, i, none⟩ = false) ∧ wz.heap.size < wr.heap.size ∧ Aside (wr.ownsRow (wz.heap.size + 1) 39 5 (.slice AA S.1.length cc) S.1.length (S.1.flatMap gcE)) ∧ Aside (GIn (5 * kk) S) ∧ Aside (rowsSt 90 t (t.rows.drop kk) kk S = gridL 90 t))
    case atStart =>
      refine ⟨0, Nat.zero_le _, by omega, rfl, grid0 t, none, 0, BY, g0, g1, by simpa [grid0] using g2, gf, gl, World.ownsRow_nil _ _ _ _, GIn.zero t p3, (show rowsSt 90 t (t.rows.drop 0) 0 _ = _ from rfl)⟩
    case round =>
      clear g0 g1 g2 gf gl y3
      obtain ⟨kk, hkk, hg, rfl, S, AA, cc, BW, g0, g1, g2, gf, gl, HO, HI, HS⟩ := hrel
      have y0 := keepC BW.out z0
      have y1 := keepC BW.out z1
      have y2 := keepC BW.out z2
      have y3 := keepC BW.out z3
      have y4 := keepC BW.out z4
      by_cases hlt : kk < t.rows.length
      · have hltz : (kk : Int) < (t.rows.length : Int) := by omega
        obtain ⟨b, o, d0, d1, rfl, hblt, hK, e0, e1⟩ := hr.at2 rfl (brefl w) kk hlt
        obtain ⟨v, hK', A1, n1, rfl, hl1, hr1⟩ := hK
        simp only [List.cons.injEq, and_true] at hK'
        obtain ⟨rfl, rfl⟩ := hK'
        have hlen := hr1.1
        have hn5 := ((tblOk_parts HOK.out).2.2.2.2.2.2 t.rows[kk] (List.getElem_mem hlt)).1
        have HS2 : Hid (rowsSt 90 t (t.rows.drop (kk + 1)) (kk + 1) (cellsSt 90 t kk t.rows[kk].cs 0 S) = gridL 90 t) := by
          have := HS.out
          rw [List.drop_eq_getElem_cons hlt, rowsSt] at this
          exact this
        have HR2 := hide hr1
        have HE0 := hide e0
        clear hr1 e0 e1
        go_wp2_with fail
        go_loopg [5] t.rows[kk].cs.length (fun gg s5 wr => ∃ k3 : Nat, k3 ≤ t.rows[kk].cs.length ∧ t.rows[kk].cs.length - k3 ≤ gg ∧ s5 = .int .i64 k3 ∧ ∃ S2 AA cc, Aside (Below wz.heap.size wz wr) ∧ wr.cell? ⟨wz.heap.size, 0, none⟩ = some (.int .i64 t.rows.length) ∧ wr.cell? ⟨wz.heap.size, 1, none⟩ = some (.int .i64 S2.2) ∧ wr.cell? ⟨wz.heap.size, 2, none⟩ = some (.slice AA S2.1.length cc) ∧ (∀ i, wr.frozen? ⟨wz.heap.size, i, none⟩ = false) ∧ wz.heap.size < wr.heap.size ∧ Aside (wr.ownsRow (wz.heap.size + 1) 39 5 (.slice AA S2.1.length cc) S2.1.length (S2.1.flatMap gcE)) ∧ Aside (GIn (5 * kk + k3) S2) ∧ Aside (cellsSt 90 t kk (t.rows[kk].cs.drop k3) k3 S2 = cellsSt 90 t kk t.rows[kk].cs 0 S))
        case atStart =>
          exact ⟨0, Nat.zero_le _, by omega, rfl, S, AA, cc, BW.out, g0, g1, g2, gf, gl, HO.out, HI.out, (show cellsSt 90 t kk (t.rows[kk].cs.drop 0) 0 S = _ from rfl)⟩
        case round =>
          clear g0 g1 g2 gf gl HO y0 y1 y2 y3 y4
          obtain ⟨k3, hk3, hg3, rfl, S2, A2, n2, BW2, g0, g1, g2, gf, gl, HO, HI2, HC⟩ := hrel
          have y0 := keepC BW2.out z0
          have y1 := keepC BW2.out z1
          have y2 := keepC BW2.out z2
          have y3 := keepC BW2.out z3
          have y4 := keepC BW2.out z4
          have e0 := keepC (step KB BW2.out) HE0.out
          by_cases hlt3 : k3 < t.rows[kk].cs.length
          · have hltz3 : (k3 : Int) < (t.rows[kk].cs.length : Int) := by omega
            obtain ⟨b3, o3, d0, d1, d2, d3, d4, d5, d6, d7, d8, d9, d10, rfl, hblt3, hK3, x0, x1, x2, x3, x4, x5, x6, x7, x8, x9, x10⟩ := HR2.out.at11 rfl (step KB BW2.out) k3 hlt3
            obtain ⟨hK3, _⟩ := hK3
            simp only [cellE, List.cons.injEq, and_true] at hK3
            obtain ⟨rfl, rfl, rfl, rfl, rfl, rfl, rfl, rfl, rfl, rfl, rfl⟩ := hK3
            have hok3 := cellOk_parts (((tblOk_parts HOK.out).2.2.2.2.2.2 t.rows[kk] (List.getElem_mem hlt)).2 _ (List.getElem_mem hlt3))
            have hE := fun (W : World) => spec_endX t A c (some ⟨b, o, none⟩) c' kk W (by omega) ⟨by omega, by omega⟩
            obtain ⟨heb1, heb2⟩ := end_bounds HOK.out hlt
            have hwr := IntWalk.i64_in (endOf t kk - kk) ⟨by omega, by omega⟩
            have hwr2 := IntWalk.i64_in (kk + t.rows[kk].cs[k3].r) ⟨by have := hok3.2; omega, by have := hok3.2; omega⟩
            go_wp2_with fail
            obtain ⟨wx, hwx⟩ : ∃ wx : World, wx = (wr.alloc (.cells #[.string t.rows[kk].cs[k3].t, .int .i64 t.rows[kk].cs[k3].c, .int .i64 t.rows[kk].cs[k3].r, .int .i64 t.rows[kk].cs[k3].top.s, .int .i64 t.rows[kk].cs[k3].top.w, .int .i64 t.rows[kk].cs[k3].right.s, .int .i64 t.rows[kk].cs[k3].right.w, .int .i64 t.rows[kk].cs[k3].bot.s, .int .i64 t.rows[kk].cs[k3].bot.w, .int .i64 t.rows[kk].cs[k3].left.s, .int .i64 t.rows[kk].cs[k3].left.w] 52)).alloc (.cells #[.int .i64 kk, .int .i64 0, .int .i64 t.rows[kk].cs[k3].r, .int .i64 t.rows[kk].cs[k3].c, .int .i64 k3] 39) := ⟨_, rfl⟩
            rw [← hwx]
            have KX : Below wr.heap.size wr wx := hwx ▸ balloc (balloc (brefl wr) _) _
            have a0 : wx.cell? ⟨wr.heap.size + 1, 0, none⟩ = some (.int .i64 kk) := by rw [hwx]; simp
            have a1 : wx.cell? ⟨wr.heap.size + 1, 1, none⟩ = some (.int .i64 0) := by rw [hwx]; simp
            have a2 : wx.cell? ⟨wr.heap.size + 1, 2, none⟩ = some (.int .i64 t.rows[kk].cs[k3].r) := by rw [hwx]; simp
            have a3 : wx.cell? ⟨wr.heap.size + 1, 3, none⟩ = some (.int .i64 t.rows[kk].cs[k3].c) := by rw [hwx]; simp
            have a4 : wx.cell? ⟨wr.heap.size + 1, 4, none⟩ = some (.int .i64 k3) := by rw [hwx]; simp
            have af : ∀ i, wx.frozen? ⟨wr.heap.size + 1, i, none⟩ = false := fun i => by rw [hwx]; simp
            have zx : wx.heap.size = wr.heap.size + 2 := by rw [hwx]; simp
            have HSX : Hid (∀ W : World, Below wx.heap.size wx W → Below wx.heap.size wx W ∧ W.cell? ⟨wr.heap.size + 1, 2, none⟩ = some (.int .i64 t.rows[kk].cs[k3].r) ∧ W.cell? ⟨w.heap.size, 0, none⟩ = some (.slice A t.cols.length c) ∧ W.cell? ⟨w.heap.size, 1, none⟩ = some (.int .i64 t.head) ∧ W.cell? ⟨w.heap.size, 2, none⟩ = some (.int .i64 t.foot) ∧ W.cell? ⟨w.heap.size, 3, none⟩ = some (.slice (some ⟨b, o, none⟩) t.rows.length c') ∧ W.cell? ⟨w.heap.size, 4, none⟩ = some (.int .i64 t.gap)) := fun W hB =>
              ⟨hB, keepC hB a2, keepC hB (keepC KX y0), keepC hB (keepC KX y1), keepC hB (keepC KX y2), keepC hB (keepC KX y3), keepC hB (keepC KX y4)⟩
            have HA := hide (And.intro a0 (And.intro a1 (And.intro a2 (And.intro a3 (And.intro a4 af)))))
            have HGG := hide (And.intro g0 (And.intro g1 (And.intro g2 gf)))
            have ZX := hide zx
            clear hwx zx a0 a1 a2 a3 a4 af g0 g1 g2 gf y0 y1 y2 y3 y4 e0 x0 x1 x2 x3 x4 x5 x6 x7 x8 x9 x10 z0 z1 z2 z3 z4 u0 u1 u2 u3
            apply shareG
            · intro HSH2
              go_region_held3 (fun W => Below wx.heap.size wx W ∧ W.cell? ⟨wr.heap.size + 1, 2, none⟩ = some (.int .i64 t.rows[kk].cs[k3].r) ∧ W.cell? ⟨w.heap.size, 0, none⟩ = some (.slice A t.cols.length c) ∧ W.cell? ⟨w.heap.size, 1, none⟩ = some (.int .i64 t.head) ∧ W.cell? ⟨w.heap.size, 2, none⟩ = some (.int .i64 t.foot) ∧ W.cell? ⟨w.heap.size, 3, none⟩ = some (.slice (some ⟨b, o, none⟩) t.rows.length c') ∧ W.cell? ⟨w.heap.size, 4, none⟩ = some (.int .i64 t.gap)) (first | assumption | (refine HSX.out _ ?_; (repeat' (with_reducible first | exact brefl _ | refine bdrew ?_ | refine balloc ?_ _ | refine bset ?_ ?_ _)) <;> first | (simp; done) | (simp; omega))) (first | (go_at_call 106; refine (hE _).mono ?_; rintro e w7 ⟨rfl, rfl⟩))
              all_goals exact HSH2.out
            · refine letter1 ?_
              intro wy2 hwy2
              have KY : Below wx.heap.size wx wy2 := by rw [hwy2]; exact bdrew (balloc (balloc (brefl _) _) _)
              clear hwy2
              obtain ⟨m0, m1, m2, m3, m4, mf⟩ := HA.out
              have hcx : wr.heap.size + 1 < wx.heap.size := by have := ZX.out; omega
              have a0 := keepC KY m0
              have a1 := keepC KY m1
              have a2 := keepC KY m2
              have a3 := keepC KY m3
              have a4 := keepC KY m4
              have af := keepF KY hcx mf
              clear m0 m1 m2 m3 m4 mf
              have hcy : wr.heap.size + 1 < wy2.heap.size := by have := KY.size; omega
              have hcy1 : ¬ wy2.heap.size ≤ wr.heap.size + 1 := by omega
              have KR := step KX KY
              have y0 := keepC (step BW2.out KR) (HG.out).1
              have y1 := keepC (step BW2.out KR) (HG.out).2.1
              have y2 := keepC (step BW2.out KR) (HG.out).2.2.1
              have y3 := keepC (step BW2.out KR) (HG.out).2.2.2.1
              have y4 := keepC (step BW2.out KR) (HG.out).2.2.2.2.1
              obtain ⟨V, hV, hcl⟩ : ∃ V, V = (min t.rows[kk].cs[k3].r (endOf t kk - kk)) ∧ ((endOf t kk < kk + t.rows[kk].cs[k3].r ∧ V = endOf t kk - kk) ∨ (¬ endOf t kk < kk + t.rows[kk].cs[k3].r ∧ V = t.rows[kk].cs[k3].r)) := by
                refine ⟨_, rfl, ?_⟩
                by_cases h : endOf t kk < kk + t.rows[kk].cs[k3].r
                · exact .inl ⟨h, by omega⟩
                · exact .inr ⟨h, by omega⟩
              have HV := hide hV
              clear hV HSX HA
              rcases hcl with ⟨hcl, rfl⟩ | ⟨hcl, rfl⟩
              all_goals
                go_wp2_with fail
                first
                | (refine (hE _).mono ?_
                   rintro e w1 ⟨rfl, rfl⟩
                   have KQ := balloc (balloc (brefl wy2) (.cells #[.slice A t.cols.length c, .int .i64 t.head, .int .i64 t.foot, .slice (some ⟨b, o, none⟩) t.rows.length c', .int .i64 t.gap] 26)) (.cells #[.slice A t.cols.length c, .int .i64 t.head, .int .i64 t.foot, .slice (some ⟨b, o, none⟩) t.rows.length c', .int .i64 t.gap] 26)
                   have qf := keepF KQ hcy af
                   have q2 := keepC KQ a2
                   clear KQ
                   go_wp2_with fail)
                | skip
                refine letter1 ?_
                intro wl hwl
                have YF : wl.cell? ⟨wr.heap.size + 1, 0, none⟩ = some (.int .i64 kk) ∧ wl.cell? ⟨wr.heap.size + 1, 1, none⟩ = some (.int .i64 0) ∧ (∃ V, V = (min t.rows[kk].cs[k3].r (endOf t kk - kk)) ∧ wl.cell? ⟨wr.heap.size + 1, 2, none⟩ = some (.int .i64 V)) ∧ wl.cell? ⟨wr.heap.size + 1, 3, none⟩ = some (.int .i64 t.rows[kk].cs[k3].c) ∧ wl.cell? ⟨wr.heap.size + 1, 4, none⟩ = some (.int .i64 k3) ∧ (∀ i, wl.frozen? ⟨wr.heap.size + 1, i, none⟩ = false) ∧ Below wr.heap.size wr wl ∧ wr.heap.size + 1 < wl.heap.size := by
                  subst hwl
                  first
                  | exact ⟨a0, a1, ⟨_, HV.out, a2⟩, a3, a4, af, KR, by omega⟩
                  | (have KQ := balloc (balloc (brefl wy2) (.cells #[.slice A t.cols.length c, .int .i64 t.head, .int .i64 t.foot, .slice (some ⟨b, o, none⟩) t.rows.length c', .int .i64 t.gap] 26)) (.cells #[.slice A t.cols.length c, .int .i64 t.head, .int .i64 t.foot, .slice (some ⟨b, o, none⟩) t.rows.length c', .int .i64 t.gap] 26)
                     exact ⟨setO (keepC KQ a0) (by simp), setO (keepC KQ a1) (by simp), ⟨_, HV.out, setS (keepC KQ a2)⟩, setO (keepC KQ a3) (by simp), setO (keepC KQ a4) (by simp), setF (keepF KQ hcy af), bset (step KR KQ) (Nat.le_succ _) _, by simp; omega⟩)
                clear hwl a0 a1 a2 a3 a4 af hcy hcy1 y0 y1 y2 y3 y4
                obtain ⟨a0, a1, ⟨V', hV', a2⟩, a3, a4, af, KL, hcl2⟩ := YF
                rw [hV'] at a2
                clear hV' V'
                obtain ⟨g0, g1, g2, gf⟩ := HGG.out
                obtain ⟨C, hC⟩ : ∃ C, C = wr.heap.size + 1 := ⟨_, rfl⟩
                rw [← hC] at a0 a1 a2 a3 a4 af hcl2 ⊢
                have hC1 : wr.heap.size ≤ C := by omega
                have CE : cell0 t kk k3 t.rows[kk].cs[k3] = ⟨kk, 0, (min t.rows[kk].cs[k3].r (endOf t kk - kk)), t.rows[kk].cs[k3].c, k3⟩ := rfl
                have CM : cellsSt 90 t kk (t.rows[kk].cs.drop (k3 + 1)) (k3 + 1) (step1 90 t kk k3 t.rows[kk].cs[k3] S2) = cellsSt 90 t kk t.rows[kk].cs 0 S := by
                  rw [← HC.out, List.drop_eq_getElem_cons hlt3, cellsSt]
                have CF := hide CE
                have CMH := hide CM
                have HTP : Hid (∀ b, (Value.slice A2 S2.1.length n2).ownBlock = some b → wz.heap.size + 1 ≤ b ∧ b < C) := fun b hb => ⟨(own_lt HO.out hb).1, by have := (own_lt HO.out hb).2; omega⟩
                have HHC := hide hC
                clear CE CM hC
                have hin := HI2.out
                obtain ⟨wq, rfl⟩ : ∃ W : World, W = wr := ⟨wr, rfl⟩
                go_wp2_with fail
                go_loopg [] 90 (fun gg wv => ∃ q : Nat, q ≤ 90 ∧ 90 - q ≤ gg ∧ wv.cell? ⟨C, 0, none⟩ = some (.int .i64 kk) ∧ wv.cell? ⟨C, 1, none⟩ = some (.int .i64 q) ∧ wv.cell? ⟨C, 2, none⟩ = some (.int .i64 (min t.rows[kk].cs[k3].r (endOf t kk - kk))) ∧ wv.cell? ⟨C, 3, none⟩ = some (.int .i64 t.rows[kk].cs[k3].c) ∧ wv.cell? ⟨C, 4, none⟩ = some (.int .i64 k3) ∧ (∀ i, wv.frozen? ⟨C, i, none⟩ = false) ∧ Aside (Below wq.heap.size wq wv) ∧ C < wv.heap.size ∧ Aside (freeFrom S2.1 (cell0 t kk k3 t.rows[kk].cs[k3]) (90 - q) q = freeFrom S2.1 (cell0 t kk k3 t.rows[kk].cs[k3]) 90 0))
                case atStart => exact ⟨0, by omega, by omega, a0, a1, a2, a3, a4, af, KL, hcl2, (show Aside _ from rfl)⟩
                case round =>
                  clear a0 a1 a2 a3 a4 af hcl2
                  obtain ⟨⟨hk4, hk5⟩, hk6, hk7⟩ := hok3
                  obtain ⟨q, hq4, hgq, a0, a1, a2, a3, a4, af, KV, hcl2, HF⟩ := hrel
                  have HOv := own_below HO.out KV.out
                  have g0 := keepC KV.out g0
                  have g1 := keepC KV.out g1
                  have g2 := keepC KV.out g2
                  have gf := keepF KV.out gl gf
                  have hrd : Rd gcR wr A2 S2.1 := by
                    obtain ⟨Ao, co, eo, _, ro⟩ := own_rd (enc := gcE) (hk := fun _ => rfl) HOv
                    injection eo with e1 _ _
                    rw [e1]
                    exact rd_mono (d := flat 5 gcE (fun _ => rfl)) (d' := gcR) rfl (fun a ha cs h => ⟨h, hin.sm (by omega) a ha⟩) ro
                  have hfr := fun (W : World) (hB : Below wr.heap.size wr W) => spec_free S2.1 A2 n2 ⟨kk, q, (min t.rows[kk].cs[k3].r (endOf t kk - kk)), t.rows[kk].cs[k3].c, k3⟩ W (hrd.below hB) (by refine ⟨?_, ?_, ?_, ?_, ?_⟩ <;> (dsimp only; constructor <;> omega))
                  clear hrd
                  have hmany : q < 90 → freeFrom S2.1 ⟨kk, 0, (min t.rows[kk].cs[k3].r (endOf t kk - kk)), t.rows[kk].cs[k3].c, k3⟩ (90 - q) q = (if S2.1.any (meets ⟨kk, q, (min t.rows[kk].cs[k3].r (endOf t kk - kk)), t.rows[kk].cs[k3].c, k3⟩) then freeFrom S2.1 ⟨kk, 0, (min t.rows[kk].cs[k3].r (endOf t kk - kk)), t.rows[kk].cs[k3].c, k3⟩ (90 - (q + 1)) (q + 1) else q) := fun h => by
                    rw [show 90 - q = (90 - (q + 1)) + 1 by omega, freeFrom]; rfl
                  rw [CF.out] at HF
                  have HF := hide HF.out
                  by_cases hq9 : q < 90
                  · have hq9z : (q : Int) < 90 := by omega
                    have HM := hmany hq9
                    rw [HF.out] at HM
                    have HFM := hide HM
                    clear HM hmany HF
                    cases hqb : S2.1.any (meets ⟨kk, q, (min t.rows[kk].cs[k3].r (endOf t kk - kk)), t.rows[kk].cs[k3].c, k3⟩) with
                    | true =>
                      rw [hqb] at hfr HFM
                      clear hqb
                      go_wp2_with fail
                      refine (hfr _ (brefl _)).mono ?_
                      rintro e w' ⟨rfl, hb'⟩
                      have a0 := keepC hb' a0
                      have a1 := keepC hb' a1
                      have a2 := keepC hb' a2
                      have a3 := keepC hb' a3
                      have a4 := keepC hb' a4
                      have af := keepF hb' hcl2 af
                      have hcl2 := Nat.lt_of_lt_of_le hcl2 hb'.size
                      have hqw := IntWalk.i64_in (q + 1) ⟨by omega, by omega⟩
                      clear hfr
                      go_wp2_with fail
                      go_roundg (90 - (q + 1))
                      case measure => omega
                      case rel =>
                        refine ⟨q + 1, by omega, by omega, setO a0 (by simp), (by have := setS (v := .int .i64 ((q : Int) + 1)) a1; simpa using this), setO a2 (by simp), setO a3 (by simp), setO a4 (by simp), setF af, bset (step KV.out hb') hC1 _, by simpa using hcl2, (show Aside _ from ?_)⟩
                        have h1 := HFM.out
                        rw [CF.out]
                        exact (h1.trans (if_pos (by simp))).symm
                    | false =>
                      rw [hqb] at hfr HFM
                      clear hqb
                      have HK : Hid (freeFrom S2.1 (cell0 t kk k3 t.rows[kk].cs[k3]) 90 0 = q) := by
                        have h1 := HFM.out
                        rw [CF.out]
                        exact h1.trans (if_neg (by simp))
                      clear HFM
                      go_wp2_with fail
                      refine (hfr _ (brefl _)).mono ?_
                      rintro e w' ⟨rfl, hb'⟩
                      have a0 := keepC hb' a0
                      have a1 := keepC hb' a1
                      have a2 := keepC hb' a2
                      have a3 := keepC hb' a3
                      have a4 := keepC hb' a4
                      have hcl2 := Nat.lt_of_lt_of_le hcl2 hb'.size
                      have g0 := keepC hb' g0
                      have g1 := keepC hb' g1
                      have g2 := keepC hb' g2
                      have gf := keepF hb' (Nat.lt_of_lt_of_le gl KV.out.size) gf
                      have HOv := own_below HOv hb'
                      have KV := step KV.out hb'
                      clear hfr hb'
                      have hGl : wz.heap.size < w'.heap.size := by have := KV.size; omega
                      have hTop' : ∀ b, b = wz.heap.size ∨ C ≤ b → (Value.slice A2 S2.1.length n2).ownBlock ≠ some b := fun b hb e => by
                        have h1 := HTP.out b e
                        omega
                      have BWw := step BW2.out KV
                      obtain ⟨i0, hi, hz0, hz1, hz2⟩ := info_parts infoG
                      go_wp2_with (at_builtin; refine wpList_append_own _ rfl _ _ 33 rfl (wz.heap.size + 1) 39 i0 _ 5 40 undG hi hz0 hz1 hz2 rfl (by decide) _ _ _ rfl (HOv.alloc _) ⟨w'.heap.size, 0, none⟩ 1 1 [.int .i64 kk, .int .i64 q, .int .i64 (min t.rows[kk].cs[k3].r (endOf t kk - kk)), .int .i64 t.rows[kk].cs[k3].c, .int .i64 k3] rfl rfl (news5 (cell_new _ _ _ _ _ _ rfl) (cell_new _ _ _ _ _ _ rfl) (cell_new _ _ _ _ _ _ rfl) (cell_new _ _ _ _ _ _ rfl) (cell_new _ _ _ _ _ _ rfl)) (ints5 _ _ _ _ _ _) (by have := hin.1; unfold maxLen; omega) (by have := hin.1; omega) (by simp; omega) ?_)
                      intro v' w2 HO2 hgr _
                      have AK := fun b h1 h2 => app_keep hgr b h1 h2
                      have BW3 := app_below BWw HOv (by omega) hgr
                      have HO3 := step_own HK.out HO2
                      obtain ⟨E1, E2⟩ := step_facts HK.out
                      have HRB := rows_bounds HOK.out hlt k3 _ ⟨hk6, hk7⟩
                      have HI3 := hin.step 90 t kk k3 t.rows[kk].cs[k3] (by omega) (by omega) ⟨hk4, hk5⟩ ⟨by omega, by omega⟩
                      obtain ⟨S3, hS3⟩ : ∃ S3, S3 = step1 90 t kk k3 t.rows[kk].cs[k3] S2 := ⟨_, rfl⟩
                      have CMH3 := CMH.out
                      rw [← hS3] at HO3 HI3 E2 CMH3
                      clear E1 HRB hS3 HO2 CMH
                      obtain ⟨A3, n3, rfl⟩ := own_form HO3
                      have HC3 := hide CMH3
                      have HE2 := hide E2
                      obtain ⟨b0, bf, bl⟩ := AK wz.heap.size (by omega) (hTop' _ (.inl rfl))
                      obtain ⟨d0, df, dl⟩ := AK C hcl2 (hTop' C (.inr (Nat.le_refl _)))
                      have g0 := (b0 0).trans g0
                      have g1 := (b0 1).trans g1
                      have g2 := (b0 2).trans g2
                      have gf : ∀ i, w2.frozen? ⟨wz.heap.size, i, none⟩ = false := fun i => (bf i).trans (gf i)
                      have a1 := (d0 1).trans a1
                      have a3 := (d0 3).trans a3
                      clear AK b0 bf d0 df CMH3 E2 hgr BWw HOv hTop'
                      obtain ⟨_, hin3, hin4⟩ := hin
                      obtain ⟨hin5, hin6⟩ := hin4
                      have hqw := IntWalk.i64_in (q + t.rows[kk].cs[k3].c) ⟨by omega, by omega⟩
                      go_wp2_with fail
                      refine (hM _ _ _).mono ?_
                      rintro e w7 ⟨rfl, rfl⟩
                      go_wp2_with fail
                      go_roundg (t.rows[kk].cs.length - (k3 + 1))
                      case measure => omega
                      case rel =>
                        refine ⟨k3 + 1, by omega, by omega, by go_num, S3, A3, n3, bset (bset BW3 (Nat.le_refl _) _) (Nat.le_refl _) _, setO (setO g0 (by simp)) (by simp), ?_, setO (setS g2) (by simp), setF (setF gf), by simpa using bl,
                          own_set (own_set HO3 (show wz.heap.size < wz.heap.size + 1 by omega) _) (show wz.heap.size < wz.heap.size + 1 by omega) _, HI3, HC3.out⟩
                        rw [HE2.out]
                        exact setS (setO g1 (by simp))
                  · have HK : Hid (freeFrom S2.1 (cell0 t kk k3 t.rows[kk].cs[k3]) 90 0 = q) := by
                      have h1 := HF.out
                      rw [CF.out, ← h1, show q = 90 by omega]; rfl
                    have hq9z : ¬ (q : Int) < 90 := by omega
                    clear hfr hmany HF
                    have KV := KV.out
                    have hGl : wz.heap.size < wr.heap.size := by have := KV.size; omega
                    have hTop' : ∀ b, b = wz.heap.size ∨ C ≤ b → (Value.slice A2 S2.1.length n2).ownBlock ≠ some b := fun b hb e => by
                      have h1 := HTP.out b e
                      omega
                    have BWw := step BW2.out KV
                    obtain ⟨i0, hi, hz0, hz1, hz2⟩ := info_parts infoG
                    go_wp2_with (at_builtin; refine wpList_append_own _ rfl _ _ 33 rfl (wz.heap.size + 1) 39 i0 _ 5 40 undG hi hz0 hz1 hz2 rfl (by decide) _ _ _ rfl (HOv.alloc _) ⟨wr.heap.size, 0, none⟩ 1 1 [.int .i64 kk, .int .i64 q, .int .i64 (min t.rows[kk].cs[k3].r (endOf t kk - kk)), .int .i64 t.rows[kk].cs[k3].c, .int .i64 k3] rfl rfl (news5 (cell_new _ _ _ _ _ _ rfl) (cell_new _ _ _ _ _ _ rfl) (cell_new _ _ _ _ _ _ rfl) (cell_new _ _ _ _ _ _ rfl) (cell_new _ _ _ _ _ _ rfl)) (ints5 _ _ _ _ _ _) (by have := hin.1; unfold maxLen; omega) (by have := hin.1; omega) (by simp; omega) ?_)
                    intro v' w2 HO2 hgr _
                    have AK := fun b h1 h2 => app_keep hgr b h1 h2
                    have BW3 := app_below BWw HOv (by omega) hgr
                    have HO3 := step_own HK.out HO2
                    obtain ⟨E1, E2⟩ := step_facts HK.out
                    have HRB := rows_bounds HOK.out hlt k3 _ ⟨hk6, hk7⟩
                    have HI3 := hin.step 90 t kk k3 t.rows[kk].cs[k3] (by omega) (by omega) ⟨hk4, hk5⟩ ⟨by omega, by omega⟩
                    obtain ⟨S3, hS3⟩ : ∃ S3, S3 = step1 90 t kk k3 t.rows[kk].cs[k3] S2 := ⟨_, rfl⟩
                    have CMH3 := CMH.out
                    rw [← hS3] at HO3 HI3 E2 CMH3
                    clear E1 HRB hS3 HO2 CMH
                    obtain ⟨A3, n3, rfl⟩ := own_form HO3
                    have HC3 := hide CMH3
                    have HE2 := hide E2
                    obtain ⟨b0, bf, bl⟩ := AK wz.heap.size (by omega) (hTop' _ (.inl rfl))
                    obtain ⟨d0, df, dl⟩ := AK C hcl2 (hTop' C (.inr (Nat.le_refl _)))
                    have g0 := (b0 0).trans g0
                    have g1 := (b0 1).trans g1
                    have g2 := (b0 2).trans g2
                    have gf : ∀ i, w2.frozen? ⟨wz.heap.size, i, none⟩ = false := fun i => (bf i).trans (gf i)
                    have a1 := (d0 1).trans a1
                    have a3 := (d0 3).trans a3
                    clear AK b0 bf d0 df CMH3 E2 hgr BWw HOv hTop'
                    obtain ⟨_, hin3, hin4⟩ := hin
                    obtain ⟨hin5, hin6⟩ := hin4
                    have hqw := IntWalk.i64_in (q + t.rows[kk].cs[k3].c) ⟨by omega, by omega⟩
                    go_wp2_with fail
                    refine (hM _ _ _).mono ?_
                    rintro e w7 ⟨rfl, rfl⟩
                    go_wp2_with fail
                    go_roundg (t.rows[kk].cs.length - (k3 + 1))
                    case measure => omega
                    case rel =>
                      refine ⟨k3 + 1, by omega, by omega, by go_num, S3, A3, n3, bset (bset BW3 (Nat.le_refl _) _) (Nat.le_refl _) _, setO (setO g0 (by simp)) (by simp), ?_, setO (setS g2) (by simp), setF (setF gf), by simpa using bl,
                        own_set (own_set HO3 (show wz.heap.size < wz.heap.size + 1 by omega) _) (show wz.heap.size < wz.heap.size + 1 by omega) _, HI3, HC3.out⟩
                      rw [HE2.out]
                      exact setS (setO g1 (by simp))
          · have hltz3 : ¬ (k3 : Int) < (t.rows[kk].cs.length : Int) := by omega
            have hk3e : k3 = t.rows[kk].cs.length := by omega
            have HS3 : Hid (rowsSt 90 t (t.rows.drop (kk + 1)) (kk + 1) S2 = gridL 90 t) := by
              have h1 := HC.out
              rw [hk3e, List.drop_length] at h1
              have h2 := HS2.out
              rw [← h1] at h2
              exact h2
            clear hk3e
            go_wp2_with fail
            go_roundg (t.rows.length - (kk + 1))
            case measure => omega
            case rel => exact ⟨kk + 1, by omega, by omega, by go_num, S2, A2, n2, BW2.out, g0, g1, g2, gf, gl, HO.out, HI2.out.le (by omega), HS3.out⟩
      · have hltz : ¬ (kk : Int) < (t.rows.length : Int) := by omega
        have HSE : Hid (S = gridL 90 t) := by
          have h1 := HS.out
          rw [show kk = t.rows.length by omega, List.drop_length] at h1
          exact h1
        have u0 := keepC BW.out u0
        have u1 := keepC BW.out u1
        have u2 := keepC BW.out u2
        have hu1 : w.heap.size + 1 < wz.heap.size := by have := ZZ.out; omega
        have u3 := keepF BW.out hu1 u3
        clear hM
        go_wp2_with fail
        refine bodyPost_ret (v := .agg #[.int .i64 t.rows.length, .int .i64 S.2, .slice AA S.1.length cc]) (by simp [results, Tryz.results57, go_sem, *]) rfl ?_
        have h1 := HSE.out
        rw [← h1]
        have hlt1 : w.heap.size + 1 < wz.heap.size + 1 := by omega
        exact ⟨AA, cc, rfl, own_base (own_set (own_set (own_set HO.out hlt1 _) hlt1 _) hlt1 _) (by omega), bset (bset (bset (step KB BW.out) (Nat.le_succ _) _) (Nat.le_succ _) _) (Nat.le_succ _) _⟩
end Go.Proofs.YtpfagdmmhgcmnaaGreatDoor

namespace Go.Proofs.YtpfagdmmhgcmnaaGreatDoor
open Go.RowKit
def strE (s : ByteArray) : List Value := [.string s]
def strR : Rep ByteArray := flat 1 strE (fun _ => rfl)
def cutA (s : ByteArray) : List ByteArray := (cutL [] s.data.toList).map fun x => ⟨x.toArray⟩
theorem cutA_words (s : ByteArray) : wordsB s = cutA s := by
 unfold cutA
 rw [← wordsB_data, List.map_map]
 conv => lhs; rw [← List.map_id (wordsB s)]
 refine List.map_congr_left fun x _ => ?_
 rfl
def wordsOf (s : ByteArray) : List ByteArray := if s.data.toList.isEmpty then [] else if txOk s then cutA s else []
def maxW (n : Int) (x : ByteArray) : Int := max n x.size
def leastT (s : ByteArray) : Int := (wordsOf s).foldl maxW 0
def wishT (s : ByteArray) : Int := if txOk s then s.size else 0
theorem cutA_size (s : ByteArray) (x : ByteArray) (h : x ∈ cutA s) : x.size ≤ s.size := by
 rw [← cutA_words] at h
 obtain ⟨j, hj, rfl⟩ := List.getElem_of_mem h
 exact wordsB_size s j hj
theorem wordsOf_size (s : ByteArray) (x : ByteArray) (h : x ∈ wordsOf s) : x.size ≤ s.size := by
 unfold wordsOf at h
 split at h
 ·
  cases h
 ·
  split at h
  ·
   exact cutA_size s x h
  ·
   cases h
theorem fold_max (xs : List ByteArray) (B : Nat) (h : ∀ x ∈ xs, x.size ≤ B) : ∀ n : Int, 0 ≤ n → n ≤ B → 0 ≤ xs.foldl maxW n ∧ xs.foldl maxW n ≤ B := by
 induction xs with
 | nil => intro n h0 h1; exact ⟨h0, h1⟩
 | cons x xs ih =>
  intro n h0 h1
  rw [List.foldl_cons]
  have hx := h x (List.mem_cons_self ..)
  exact ih (fun y hy => h y (List.mem_cons_of_mem _ hy)) _ (by unfold maxW; omega) (by unfold maxW; omega)
theorem leastT_in (s : ByteArray) : 0 ≤ leastT s ∧ leastT s ≤ s.size := fold_max _ s.size (wordsOf_size s) 0 (Int.le_refl _) (by omega)
theorem words_len (s : ByteArray) (hs : s.size ≤ 1048576) : (wordsOf s).length ≤ 2000000 := by
 unfold wordsOf
 split
 ·
  simp
 ·
  split
  ·
   rw [← cutA_words]
   have hlen := wordsB_length s
   have hcl := Lib.countB_le ⟨#[32]⟩ (by decide) s.size s (Nat.le_refl _)
   omega
  ·
   simp
theorem rd_str {w W : World} {A : Option Addr} {xs : List ByteArray} (h : Rd strR w A xs) (hb : Below w.heap.size w W) (k : Nat) (hk : k < xs.length) : ∃ b o, A = some ⟨b, o, none⟩ ∧ b < w.heap.size ∧ W.cell? ⟨b, o + k, none⟩ = some (.string xs[k]) := by
 obtain ⟨b, o, c0, e, hlt, hK, hc⟩ := h.at1 rfl hb k hk
 have q : [c0] = [.string xs[k]] := hK
 simp only [List.cons.injEq, and_true] at q
 subst q
 exact ⟨b, o, e, hlt, hc⟩
theorem rd_new (w : World) (xs : List ByteArray) (hl : xs.length ≤ 2000000) : Rd strR (w.alloc (.cells (xs.map Value.string).toArray 9)) (some ⟨w.heap.size, 0, none⟩) xs :=
 ⟨by omega, fun _ => ⟨w.heap.size, 0, rfl, by simp, fun j hj => ⟨[.string xs[j]], rfl, fun i u hu => by
  have : i = 0 := by have := (List.getElem?_eq_some_iff.1 hu).1; simp at this; omega
  subst this
  simp at hu; subst hu
  have e0 : (0 : Nat) + j * strR.sz + 0 = j := by show 0 + j * 1 + 0 = j; omega
  rw [e0]
  exact cell_new _ _ _ _ _ _ (by simp [hj])⟩⟩⟩
set_option maxHeartbeats 2000000 in
theorem impl_TxtWords (s : ByteArray) (w : World) (hs : s.size ≤ 1048576) (hw : Base w) : Calls Tryz.prog 67 #[.string s] w (fun e w' => ∃ A c, e = .returned (.slice A (wordsOf s).length c) ∧ Rd strR w' A (wordsOf s) ∧ Below w.heap.size w w') := by
 have hemp : s.toList.isEmpty = s.data.toList.isEmpty := by rw [ByteArray.toList_eq]
 have hwl := words_len s hs
 by_cases he : s.toList.isEmpty = true
 ·
  have hfin : wordsOf s = [] := by unfold wordsOf; rw [if_pos (by rw [← hemp]; exact he)]
  rw [hfin]
  clear hemp hfin hwl
  go_enter Tryz.func67, Tryz.ntmps67
  go_wp2_with fail
  go_ret
  exact ⟨none, 0, rfl, Rd.nil _ _ _, brefl _⟩
 ·
  have he' : s.toList.isEmpty = false := by simpa using he
  have hT := impl_TxtOk s w hs hw
  have hne : ¬ s.data.toList.isEmpty = true := by rw [← hemp]; exact he
  cases hok : txOk s with
  | false =>
   rw [hok] at hT
   have hfin : wordsOf s = [] := by unfold wordsOf; rw [if_neg hne, hok]; rfl
   rw [hfin]
   clear hemp hfin hwl hne he
   go_enter Tryz.func67, Tryz.ntmps67
   go_wp2_with fail
   refine hT.mono ?_
   rintro _ w' ⟨rfl, hb⟩
   go_wp2_with fail
   go_ret
   exact ⟨none, 0, rfl, Rd.nil _ _ _, hb⟩
  | true =>
   rw [hok] at hT
   have hfin : wordsOf s = wordsB s := by unfold wordsOf; rw [if_neg hne, hok, cutA_words]; rfl
   rw [hfin] at hwl ⊢
   have hS := fun (W : World) (hb : Below w.heap.size w W) => lib_Split s W hs (hw.below hb)
   clear hemp hfin hne he
   go_enter Tryz.func67, Tryz.ntmps67
   go_wp2_with fail
   refine hT.mono ?_
   rintro _ w' ⟨rfl, hb⟩
   have hS2 := hS w' hb
   clear hS hT
   go_wp2_with fail
   refine hS2.mono ?_
   rintro _ w2 ⟨rfl, rfl⟩
   go_wp2_with fail
   go_ret
   exact ⟨_, _, rfl, rd_new w' _ hwl, balloc hb _⟩
set_option maxHeartbeats 2000000 in
theorem impl_TxtLeast (s : ByteArray) (w : World) (hs : s.size ≤ 1048576) (hw : Base w) : Calls Tryz.prog 23 #[.string s] w fun e w' => e = .returned (.int .i64 (leastT s)) ∧ Below w.heap.size w w' := by
 have hW := impl_TxtWords s w hs hw
 have hlen := words_len s hs
 have hsz := wordsOf_size s
 unfold leastT
 generalize wordsOf s = ws at hW hlen hsz ⊢
 have HZ := hide hsz
 clear hsz hw
 go_enter Tryz.func23, Tryz.ntmps23
 go_wp2_with fail
 refine hW.mono ?_
 rintro _ w1 ⟨A, c, rfl, hr, hb⟩
 have HR := hide hr
 have HB := hide hb
 clear hr hb hW
 have hmax := max_int
 go_wp2_with fail
 go_loopg [3, 5, 9] ws.length (fun gg s3 s5 s9 wr => ∃ i : Nat, s9 = .int .i64 i ∧ i ≤ ws.length ∧ ws.length - i ≤ gg ∧ s3 = .int .i64 ((ws.take i).foldl maxW 0) ∧ wr = w1)
 case atStart => exact ⟨0, rfl, Nat.zero_le _, by omega, rfl, rfl⟩
 case round =>
  obtain ⟨i, rfl, hin, hgg, rfl, rfl⟩ := hrel
  by_cases hlt : i < ws.length
  ·
   have hltz : (i : Int) < (ws.length : Int) := by omega
   obtain ⟨b, o, rfl, _, c1⟩ := rd_str HR.out (brefl _) i hlt
   have hst : (ws.take (i + 1)).foldl maxW 0 = maxW ((ws.take i).foldl maxW 0) ws[i] := by rw [List.take_succ_eq_append_getElem hlt, List.foldl_append]; rfl
   unfold maxW at hst
   have HST := hide hst
   clear hst
   go_wp2_with fail
   go_roundg (ws.length - (i + 1))
   case measure => omega
   case rel => exact ⟨i + 1, by go_num, by omega, by omega, by rw [show maxW = (fun (n : Int) (x : ByteArray) => max n (x.size : Int)) from rfl, HST.out], rfl⟩
  ·
   have hltz : ¬ (i : Int) < (ws.length : Int) := by omega
   have hst := hide (show (ws.take i).foldl maxW 0 = ws.foldl maxW 0 by rw [List.take_of_length_le (by omega)])
   go_wp2_with fail
   go_ret
   exact ⟨by rw [hst.out]; rfl, HB.out⟩
set_option maxHeartbeats 2000000 in
theorem impl_TxtWish (s : ByteArray) (w : World) (hs : s.size ≤ 1048576) (hw : Base w) : Calls Tryz.prog 29 #[.string s] w fun e w' => e = .returned (.int .i64 (wishT s)) ∧ Below w.heap.size w w' := by
 have hT := impl_TxtOk s w hs hw
 unfold wishT
 cases hok : txOk s with
 | false =>
  rw [hok] at hT
  go_enter Tryz.func29, Tryz.ntmps29
  go_wp2_with fail
  refine hT.mono ?_
  rintro _ w1 ⟨rfl, hb⟩
  go_wp2_with fail
  go_ret
  exact ⟨rfl, hb⟩
 | true =>
  rw [hok] at hT
  go_enter Tryz.func29, Tryz.ntmps29
  go_wp2_with fail
  refine hT.mono ?_
  rintro _ w1 ⟨rfl, hb⟩
  go_wp2_with fail
  go_ret
  exact ⟨rfl, hb⟩
set_option maxHeartbeats 2000000 in
theorem spec_TxtWish (s : ByteArray) (w : World) (hs : s.size ≤ 1048576) : Calls Tryz.prog 140 #[.string s] w fun e w' => e = .returned (.int .i64 (wishT s)) ∧ w' = w := by
 have hT := spec_TxtOk s w hs
 unfold wishT
 cases hok : txOk s with
 | false =>
  rw [hok] at hT
  go_enter Tryz.func140, Tryz.ntmps140
  go_wp2_with fail
  refine hT.mono ?_
  rintro _ w1 ⟨rfl, hb⟩
  obtain rfl := hb.symm
  go_wp2_with fail
  go_ret
  exact ⟨rfl, rfl⟩
 | true =>
  rw [hok] at hT
  go_enter Tryz.func140, Tryz.ntmps140
  go_wp2_with fail
  refine hT.mono ?_
  rintro _ w1 ⟨rfl, hb⟩
  obtain rfl := hb.symm
  go_wp2_with fail
  go_ret
  exact ⟨rfl, rfl⟩
def SOwn (w : World) (base : Nat) (v : Value) (xs : List ByteArray) : Prop := w.ownsRow base 9 1 v xs.length (xs.flatMap strE)
theorem und_strs : Tryz.prog.underlying 68 = some (.slice 9) := by kernel_rfl
theorem info_strs : (Tryz.prog.info? 9).map (fun i => (i.zero, i.size, i.bytes)) = some (some (.string ⟨#[]⟩), 1, 16) := by kernel_rfl
theorem wpList_append_str {w : World} {ops : Array Oper} {rest : List Oper} {o : Oper} {a : Act} {Q : Exit → Act → World → Prop} (hgd : o.guard = none) (s x : Operand)
  (ho : o.op = .call { callee := .builtin .append, args := #[s, x], argTypes := #[68, 68] }) (base : Nat) (v : Value) (xs : List ByteArray) (hs : a.eval s = v) (hown : SOwn w base v xs)
  (ad : Addr) (c : Nat) (y : ByteArray) (hx : a.eval x = .slice (some ad) 1 c) (hc : w.cell? ad = some (.string y)) (hn : xs.length ≤ 3000000) (hbase : base ≤ w.heap.size)
  (h : ∀ v' w', Hid (SOwn w' base v' (xs ++ [y])) → Hid (w.grownBy w' v.ownBlock) → Hid (∀ b, v'.ownBlock = some b → v.ownBlock = some b ∨ w.heap.size ≤ b) → wpList Tryz.prog ops Q rest (a.put o.dst v') w') : wpList Tryz.prog ops Q (o :: rest) a w := by
 obtain ⟨i0, hi, hz0, hz1, hz2⟩ := info_parts info_strs
 refine wpList_append_at hgd s x 68 ho base 9 i0 _ 1 16 und_strs hi hz0 hz1 hz2 rfl (by decide) v xs.length (xs.flatMap strE) hs hown ad 1 c [.string y] hx rfl (fun j u hj => ?_) (fun u hu => by rw [List.mem_singleton.1 hu]; rfl) (by unfold maxLen; omega) (by omega) hbase fun v' w' h1 h2 h3 => h v' w' (show SOwn _ _ _ _ from ?_) h2 h3
 ·
  have : j = 0 := by have := (List.getElem?_eq_some_iff.1 hj).1; simp at this; omega
  subst this; simp at hj; subst hj
  obtain ⟨b, o, sp⟩ := ad
  simpa [Addr.add] using hc
 ·
  unfold SOwn
  rw [List.length_append, List.flatMap_append]
  exact h1
theorem SOwn.rd {w : World} {base : Nat} {v : Value} {xs : List ByteArray} (h : SOwn w base v xs) : IsSl strR w v xs := own_rd h
theorem SOwn.lt {w : World} {base : Nat} {v : Value} {xs : List ByteArray} (h : SOwn w base v xs) {b : Nat} (hb : v.ownBlock = some b) : base ≤ b ∧ b < w.heap.size := own_lt h hb
def toB (l : List UInt8) : ByteArray := ⟨l.toArray⟩
theorem byte_text (W : World) (ch : UInt8) : (convert 22 9 (.slice (some ⟨W.heap.size, 0, none⟩) 1 1)).run Tryz.prog (W.alloc (.cells #[.int .u8 ch.toNat] 5)) = .ok (.string ⟨#[ch]⟩) (W.alloc (.cells #[.int .u8 ch.toNat] 5)) := by
 refine run_convert_bytes_back (P := Tryz.prog) _ 22 9 5 ⟨W.heap.size, 0, none⟩ 1 [ch] (by kernel_rfl) (by kernel_rfl) (by kernel_rfl) ?_
 intro j hj
 have : j = 0 := by simpa using hj
 subst this
 rw [Addr.add_lit]
 exact cell_new _ _ _ _ _ _ (by simp)
theorem toB_snoc (l : List UInt8) (c : UInt8) : toB l ++ ⟨#[c]⟩ = toB (l ++ [c]) := by
 apply ByteArray.ext
 simp [toB]
theorem cut_count (s : ByteArray) : (cutA s).length ≤ s.size + 1 := by
 rw [← cutA_words]
 have hlen := wordsB_length s
 have hcl := Lib.countB_le ⟨#[32]⟩ (by decide) s.size s (Nat.le_refl _)
 omega
set_option maxRecDepth 100000 in
set_option maxHeartbeats 4000000 in
theorem spec_l1Cut (s : ByteArray) (w : World) (hs : s.size ≤ 1048576) : Calls Tryz.prog 177 #[.string s] w fun e w' => ∃ A c, e = .returned (.slice A (cutA s).length c) ∧ Rd strR w' A (cutA s) ∧ Below w.heap.size w w' := by
 have hcc := cut_count s
 go_enter Tryz.func177, Tryz.ntmps177
 go_wp2_with fail
 have h0 : SOwn (w.alloc (.cells #[] 9)) w.heap.size (.slice (some ⟨w.heap.size, 0, none⟩) 0 0) [] := World.ownsRow_made w #[] 0 (Nat.le_refl _) (Nat.zero_le _) (by simp)
 have H0 := hide h0
 clear h0
 go_loopg [3, 4, 5] s.size (fun gg s3 s4 s5 wr => ∃ (i : Nat) (xs : List ByteArray) (word : List UInt8), s5 = .int .i64 i ∧ i ≤ s.size ∧ s.size - i ≤ gg ∧ s4 = .string (toB word) ∧ word.length ≤ i ∧ Aside (SOwn wr w.heap.size s3 xs) ∧ Aside (Below w.heap.size w wr) ∧ Aside (xs ++ (cutL word (s.data.toList.drop i)).map toB = cutA s))
 case atStart => exact ⟨0, [], [], rfl, Nat.zero_le _, by omega, rfl, Nat.zero_le _, H0.out, balloc (brefl _) _, (show Aside _ from rfl)⟩
 case round =>
  obtain ⟨i, xs, word, rfl, hin, hgg, rfl, hwl, HO, HB, HX⟩ := hrel
  clear H0
  by_cases hlt : i < s.size
  ·
   have hltz : (i : Int) < (s.size : Int) := by omega
   have hdl : i < s.data.toList.length := by simpa using hlt
   have hx := HX.out
   rw [List.drop_eq_getElem_cons hdl, cutL] at hx
   have hget : s.data.toList[i] = s[i] := rfl
   rw [hget] at hx
   have eq32 : ∀ c : UInt8, ((c.toNat : Int) == 32) = decide (c = 32) := fun c => by
    rw [Bool.eq_iff_iff]; simp [← UInt8.toNat_inj]; omega
   by_cases hA : s[i] = 32
   ·
    rw [if_pos hA] at hx
    have hA' : ((s[i].toNat : Int) == 32) = true := by rw [eq32]; simpa using hA
    have HX2 : Hid ((xs ++ [toB word]) ++ (cutL [] (s.data.toList.drop (i + 1))).map toB = cutA s) := by show _ = _; rw [← hx]; simp
    have hxl : xs.length ≤ 3000000 := by have := congrArg List.length hx; simp at this; omega
    have HXL := hide hxl
    clear hx hA hget hxl eq32
    go_wp2_with (at_builtin; refine wpList_append_str rfl (.tmp 17) (.tmp 19) rfl w.heap.size _ xs rfl (own_below HO.out (balloc (brefl _) _)) ⟨wr.heap.size, 0, none⟩ 1 (toB word) rfl (cell_new _ _ _ _ 0 _ rfl) HXL.out (by have := HB.out.size; simp; omega) ?_)
    intro v' w4 H1 H2 H3
    have HB2 : Hid (Below w.heap.size w w4) := (balloc HB.out (.cells #[.string (toB word)] 9)).trans (grown_below H2.out (by have := HB.out.size; simp; omega) (fun b hb => (HO.out.lt hb).1))
    clear H2 H3 HB HO HX hA'
    go_wp2_with fail
    go_roundg (s.size - (i + 1))
    case measure => omega
    case rel => exact ⟨i + 1, _, [], by go_num, by omega, by omega, rfl, Nat.zero_le _, H1.out, HB2.out, HX2.out⟩
   ·
    rw [if_neg hA] at hx
    have hA' : ((s[i].toNat : Int) == 32) = false := by rw [eq32]; simpa using hA
    have HX2 := hide hx
    have hcv := byte_text
    have hsz : (toB word).size ≤ 1048576 := by show word.toArray.size ≤ _; simp; omega
    have hsz1 : ∀ c : UInt8, (ByteArray.mk #[c]).size = 1 := fun c => rfl
    have hsz2 : ∀ c : UInt8, (toB word).size + (ByteArray.mk #[c]).size ≤ 9223372036854775807 := fun c => by rw [hsz1]; omega
    clear hx hA hget eq32
    go_wp2_with fail
    go_roundg (s.size - (i + 1))
    case measure => omega
    case rel => exact ⟨i + 1, xs, word ++ [s[i]], by go_num, by omega, by omega, by rw [← toB_snoc], by simp; omega, own_below HO.out (balloc (brefl _) _), balloc HB.out _, HX2.out⟩
  ·
   have hltz : ¬ (i : Int) < (s.size : Int) := by omega
   have hx := HX.out
   rw [List.drop_eq_nil_of_le (by simp; omega), cutL] at hx
   have hxl : xs.length ≤ 3000000 := by have := congrArg List.length hx; simp at this; omega
   have HXL := hide hxl
   have HX2 : Hid (xs ++ [toB word] = cutA s) := hx
   clear hx hxl HX
   go_wp2_with (at_builtin; refine wpList_append_str rfl (.tmp 28) (.tmp 30) rfl w.heap.size _ xs rfl (own_below HO.out (balloc (brefl _) _)) ⟨wr.heap.size, 0, none⟩ 1 (toB word) rfl (cell_new _ _ _ _ 0 _ rfl) HXL.out (by have := HB.out.size; simp; omega) ?_)
   intro v' w4 H1 H2 H3
   have HB2 : Hid (Below w.heap.size w w4) := (balloc HB.out (.cells #[.string (toB word)] 9)).trans (grown_below H2.out (by have := HB.out.size; simp; omega) (fun b hb => (HO.out.lt hb).1))
   have h1 := H1.out
   rw [HX2.out] at h1
   obtain ⟨A, c, rfl, _, hr⟩ := h1.rd
   have HR := hide hr
   clear h1 hr H1 H2 H3
   go_wp2_with fail
   go_ret
   exact ⟨A, c, rfl, HR.out, HB2.out⟩
set_option maxHeartbeats 2000000 in
theorem spec_TxtWords (s : ByteArray) (w : World) (hs : s.size ≤ 1048576) : Calls Tryz.prog 164 #[.string s] w (fun e w' => ∃ A c, e = .returned (.slice A (wordsOf s).length c) ∧ Rd strR w' A (wordsOf s) ∧ Below w.heap.size w w') := by
 have hemp : s.toList.isEmpty = s.data.toList.isEmpty := by rw [ByteArray.toList_eq]
 by_cases he : s.toList.isEmpty = true
 ·
  have hfin : wordsOf s = [] := by unfold wordsOf; rw [if_pos (by rw [← hemp]; exact he)]
  rw [hfin]
  clear hemp hfin
  go_enter Tryz.func164, Tryz.ntmps164
  go_wp2_with fail
  go_ret
  exact ⟨_, _, rfl, Rd.nil _ _ _, balloc (brefl _) _⟩
 ·
  have he' : s.toList.isEmpty = false := by simpa using he
  have hT := spec_TxtOk s w hs
  have hne : ¬ s.data.toList.isEmpty = true := by rw [← hemp]; exact he
  cases hok : txOk s with
  | false =>
   rw [hok] at hT
   have hfin : wordsOf s = [] := by unfold wordsOf; rw [if_neg hne, hok]; rfl
   rw [hfin]
   clear hemp hfin hne he
   go_enter Tryz.func164, Tryz.ntmps164
   go_wp2_with fail
   refine hT.mono ?_
   rintro _ w' ⟨rfl, hb⟩
   obtain rfl := hb.symm
   go_wp2_with fail
   go_ret
   exact ⟨_, _, rfl, Rd.nil _ _ _, balloc (brefl _) _⟩
  | true =>
   rw [hok] at hT
   have hfin : wordsOf s = cutA s := by unfold wordsOf; rw [if_neg hne, hok]; rfl
   rw [hfin]
   have hS := spec_l1Cut s w hs
   clear hemp hfin hne he
   go_enter Tryz.func164, Tryz.ntmps164
   go_wp2_with fail
   refine hT.mono ?_
   rintro _ w' ⟨rfl, hb⟩
   obtain rfl := hb.symm
   clear hT
   go_wp2_with fail
   refine hS.mono ?_
   rintro _ w2 ⟨A, c, rfl, hr, hb2⟩
   go_wp2_with fail
   go_ret
   exact ⟨_, _, rfl, hr, hb2⟩
set_option maxHeartbeats 2000000 in
theorem spec_TxtLeast (s : ByteArray) (w : World) (hs : s.size ≤ 1048576) : Calls Tryz.prog 142 #[.string s] w fun e w' => e = .returned (.int .i64 (leastT s)) ∧ Below w.heap.size w w' := by
 have hW := spec_TxtWords s w hs
 have hlen := words_len s hs
 unfold leastT
 generalize wordsOf s = ws at hW hlen ⊢
 go_enter Tryz.func142, Tryz.ntmps142
 go_wp2_with fail
 refine hW.mono ?_
 rintro _ w1 ⟨A, c, rfl, hr, hb⟩
 have HR := hide hr
 have HB := hide hb
 clear hr hb hW
 have hmax := spec_max
 go_wp2_with fail
 go_loopg [4, 5] ws.length (fun gg s4 s5 wr => ∃ i : Nat, s5 = .int .i64 i ∧ i ≤ ws.length ∧ ws.length - i ≤ gg ∧ s4 = .int .i64 ((ws.take i).foldl maxW 0) ∧ wr = w1)
 case atStart => exact ⟨0, rfl, Nat.zero_le _, by omega, rfl, rfl⟩
 case round =>
  obtain ⟨i, rfl, hin, hgg, rfl, rfl⟩ := hrel
  by_cases hlt : i < ws.length
  ·
   have hltz : (i : Int) < (ws.length : Int) := by omega
   obtain ⟨b, o, rfl, _, c1⟩ := rd_str HR.out (brefl _) i hlt
   have hst : (ws.take (i + 1)).foldl maxW 0 = maxW ((ws.take i).foldl maxW 0) ws[i] := by rw [List.take_succ_eq_append_getElem hlt, List.foldl_append]; rfl
   unfold maxW at hst
   have HST := hide hst
   clear hst
   go_wp2_with fail
   refine (hmax _ _ _).mono ?_
   rintro _ w2 ⟨rfl, hw2⟩
   obtain rfl := hw2.symm
   go_wp2_with fail
   go_roundg (ws.length - (i + 1))
   case measure => omega
   case rel => exact ⟨i + 1, by go_num, by omega, by omega, by rw [show maxW = (fun (n : Int) (x : ByteArray) => max n (x.size : Int)) from rfl, HST.out], rfl⟩
  ·
   have hltz : ¬ (i : Int) < (ws.length : Int) := by omega
   have hst := hide (show (ws.take i).foldl maxW 0 = ws.foldl maxW 0 by rw [List.take_of_length_le (by omega)])
   go_wp2_with fail
   go_ret
   exact ⟨by rw [hst.out]; rfl, HB.out⟩
end Go.Proofs.YtpfagdmmhgcmnaaGreatDoor

namespace Go.Proofs.YtpfagdmmhgcmnaaGreatDoor
open Go.RowKit
theorem RowsOwn.snoc {w : World} {lo hi hi' : Nat} {vs : List Value} {rows : List TRow} {v : Value} {r : TRow} (h : RowsOwn w lo hi vs rows) (hv : w.ownsRow hi 52 11 v r.cs.length (r.cs.flatMap cellE)) (h1 : lo ≤ hi) (h2 : hi ≤ hi') (h3 : w.heap.size ≤ hi') :
  RowsOwn w lo hi' (vs ++ [v]) (rows ++ [r]) := by
 have hO := (Own.of hv h3).mono h1 (Nat.le_refl _)
 refine ⟨by simp [h.1], fun j a b => ?_, ?_⟩
 ·
  rcases Nat.lt_or_ge j vs.length with hj | hj
  ·
   have hj' : j < rows.length := by rw [← h.1]; exact hj
   rw [List.getElem_append_left hj, List.getElem_append_left hj']
   exact (h.2.1 j hj hj').mono (Nat.le_refl _) h2
  ·
   have e : j = vs.length := by simp at a; omega
   have e' : j = rows.length := by rw [← h.1]; exact e
   have g1 : (vs ++ [v])[j] = v := by rw [List.getElem_append_right (by omega)]; simp
   have g2 : (rows ++ [r])[j] = r := by rw [List.getElem_append_right (by omega)]; simp
   rw [g1, g2]; exact hO
 ·
  rw [List.pairwise_append]
  refine ⟨h.2.2, List.pairwise_singleton _ _, fun a ha b hb => ?_⟩
  rw [List.mem_singleton.1 hb]
  obtain ⟨i, hi1, rfl⟩ := List.getElem_of_mem ha
  intro g n c g' n' c' e1 e2 hn hn' e
  subst e
  have hA := h.2.1 i hi1 (by rw [← h.1]; exact hi1)
  rcases hA with ⟨h0, _, A, c0, e3⟩ | ⟨_, g1, c1, e3, b1, b2, _⟩
  ·
   rw [e3] at e1; injection e1 with _ e1 _; omega
  ·
   rw [e3] at e1; injection e1 with e1 _ _; injection e1 with e1; injection e1 with e1; subst e1
   have := own_lt hv (b := g1) (by rw [e2]; rfl)
   omega
theorem news2 {w : World} {b : Nat} {u0 u1 : Value} (h0 : w.cell? ⟨b, 0, none⟩ = some u0) (h1 : w.cell? ⟨b, 1, none⟩ = some u1) : ∀ j u, [u0, u1][j]? = some u → w.cell? ((⟨b, 0, none⟩ : Addr).add j) = some u := by
 intro j u hj
 have hadd : ∀ k, (⟨b, 0, none⟩ : Addr).add k = ⟨b, k, none⟩ := fun k => by rw [Addr.add_lit, Nat.zero_add]
 rw [hadd]
 match j, hj with
 | 0, hj => simp at hj; subst hj; exact h0
 | 1, hj => simp at hj; subst hj; exact h1
theorem row_one (A : Option Addr) (n c : Nat) (b : Bool) : ∀ u ∈ [Value.slice A n c, .bool b], u.oneCell' = true := by
 intro u hu
 simp only [List.mem_cons, List.not_mem_nil, or_false] at hu
 rcases hu with rfl | rfl <;> rfl
theorem RowsAll.mono {w : World} {lo hi lo' hi' : Nat} {v : Value} {vs : List Value} {rows : List TRow} (h : RowsAll w lo hi v vs rows) (hl : lo' ≤ lo) (hh : hi ≤ hi') : RowsAll w lo' hi' v vs rows := ⟨h.1.mono hl hh, h.2.mono hl hh⟩
theorem infoR : (Tryz.prog.info? 48).map (fun i => (i.zero, i.size, i.bytes)) = some (some (.agg #[.slice none 0 0, .bool false]), 2, 32) := by kernel_rfl
theorem undR : Tryz.prog.underlying 24 = some (.slice 48) := by kernel_rfl
end Go.Proofs.YtpfagdmmhgcmnaaGreatDoor
