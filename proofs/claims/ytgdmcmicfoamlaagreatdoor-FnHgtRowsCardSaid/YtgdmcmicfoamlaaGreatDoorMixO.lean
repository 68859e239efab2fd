import Derived.Test.YtgdmcmicfoamlaaGreatDoorMixK
set_option linter.unusedVariables false
set_option linter.unusedSimpArgs false
set_option maxHeartbeats 4000000
set_option maxRecDepth 100000
namespace Go.Proofs.YtgdmcmicfoamlaaGreatDoor
open Go.RowKit
theorem Zqb (t : Tbl) (A : Option Addr) (c : Nat) (A' : Option Addr) (c' : Nat) (r : Int) (w : World) (hl : t.rows.length ≤ 1000000) (hf : SmZ t.foot) :
 Calls Tryz.prog 180 #[.agg #[.slice A t.cols.length c, .int .i64 t.head, .int .i64 t.foot, .slice A' t.rows.length c', .int .i64 t.gap], .int .i64 r] w fun e w' => e = .returned (.int .i64 (Zgu t r)) ∧ w' = w.alloc (.cells #[.slice A t.cols.length c, .int .i64 t.head, .int .i64 t.foot, .slice A' t.rows.length c', .int .i64 t.gap] 26) := by
 obtain ⟨f1, f2⟩ := hf
 unfold Zgu
 go_enter Tryz.func180, Tryz.ntmps180
 by_cases h1 : r < t.head
 · rw [if_pos h1]
   go_wp2_with fail
   go_ret
   exact ⟨rfl, rfl⟩
 rw [if_neg h1]
 by_cases h2 : (t.rows.length : Int) - t.foot ≤ r
 · rw [if_pos h2]
   go_wp2_with fail
   go_ret
   exact ⟨rfl, rfl⟩
 rw [if_neg h2]
 go_wp2_with fail
 go_ret
 exact ⟨rfl, rfl⟩
theorem Zr3 (t : Tbl) (A : Option Addr) (c : Nat) (A' : Option Addr) (c' : Nat) (r : Int) (w : World) (hl : t.rows.length ≤ 1000000) (hf : SmZ t.foot) :
 Calls Tryz.prog 133 #[.agg #[.slice A t.cols.length c, .int .i64 t.head, .int .i64 t.foot, .slice A' t.rows.length c', .int .i64 t.gap], .int .i64 r] w fun e w' => e = .returned (.int .i64 (Ja t r)) ∧ w' = (w.alloc (.cells #[.slice A t.cols.length c, .int .i64 t.head, .int .i64 t.foot, .slice A' t.rows.length c', .int .i64 t.gap] 26)).alloc (.cells #[.slice A t.cols.length c, .int .i64 t.head, .int .i64 t.foot, .slice A' t.rows.length c', .int .i64 t.gap] 26) := by
 have hP := fun (W : World) => Zqb t A c A' c' r W hl hf
 obtain ⟨f1, f2⟩ := hf
 unfold Zgu at hP
 unfold Ja
 go_enter Tryz.func133, Tryz.ntmps133
 by_cases h1 : r < t.head
 ·
  rw [if_pos h1]
  simp only [if_pos h1] at hP
  go_wp2_with fail
  refine (hP _).mono ?_
  rintro e w1 ⟨rfl, rfl⟩
  go_wp2_with fail
  go_ret
  exact ⟨rfl, rfl⟩
 rw [if_neg h1]
 simp only [if_neg h1] at hP
 by_cases h2 : (t.rows.length : Int) - t.foot ≤ r
 ·
  rw [if_pos h2]
  simp only [if_pos h2] at hP
  go_wp2_with fail
  refine (hP _).mono ?_
  rintro e w1 ⟨rfl, rfl⟩
  go_wp2_with fail
  go_ret
  exact ⟨rfl, rfl⟩
 rw [if_neg h2]
 simp only [if_neg h2] at hP
 go_wp2_with fail
 refine (hP _).mono ?_
 rintro e w1 ⟨rfl, rfl⟩
 go_wp2_with fail
 go_ret
 exact ⟨rfl, rfl⟩
theorem Zjm (a b : Int) (w : World) : Calls Tryz.prog 132 #[.int .i64 a, .int .i64 b] w fun e w' => e = .returned (.int .i64 (max a b)) ∧ w' = w := by
 go_enter Tryz.func132, Tryz.ntmps132
 by_cases h : b < a
 · rw [show max a b = a by omega]
   go_wp2_with fail
   go_ret
   exact ⟨rfl, rfl⟩
 rw [show max a b = b by omega]
 go_wp2_with fail
 go_ret
 exact ⟨rfl, rfl⟩
structure Zvx (P : Prop) : Prop where
 out : P
theorem Zs7 {P Q : Prop} (h : Zvx P → Q) (p : P) : Q := h ⟨p⟩
theorem Zh4 (t : Tbl) (A : Option Addr) (c : Nat) (A' : Option Addr) (c' : Nat) (w : World) (hok : Qn t = true) (hc : Rd Zbz w A t.cols) (hr : Rd Zbp w A' t.rows) :
 Calls Tryz.prog 79 #[.agg #[.slice A t.cols.length c, .int .i64 t.head, .int .i64 t.foot, .slice A' t.rows.length c', .int .i64 t.gap]] w (Zi9 ⟨t.rows.length, (Zp 90 t).2, (Zp 90 t).1⟩ w) := by
 have HOK := Za hok
 have l1 := hc.1
 have l2 := hr.1
 obtain ⟨⟨p1, p2⟩, p3, _, ⟨p4, p5⟩, ⟨p6, p7⟩, _, _⟩ := Zx hok
 clear hok hc
 have hM := fun (a b : Int) (W : World) => Zjm a b W
 go_enter Tryz.func79, Tryz.ntmps79
 go_wp2_with fail
 obtain ⟨wz, hwz⟩ : ∃ wz : World, wz = (w.alloc (.cells #[.slice A t.cols.length c, .int .i64 t.head, .int .i64 t.foot, .slice A' t.rows.length c', .int .i64 t.gap] 26)).alloc (.cells #[.int .i64 0, .int .i64 0, .slice none 0 0] 39) := ⟨_, rfl⟩
 rw [← hwz]
 have KB : Below w.heap.size w wz := hwz ▸ Zc (Zc (Zf w) _) _
 have z0 : wz.cell? ⟨w.heap.size, 0, none⟩ = some (.slice A t.cols.length c) := by rw [hwz]; simp
 have z1 : wz.cell? ⟨w.heap.size, 1, none⟩ = some (.int .i64 t.head) := by rw [hwz]; simp
 have z2 : wz.cell? ⟨w.heap.size, 2, none⟩ = some (.int .i64 t.foot) := by rw [hwz]; simp
 have z3 : wz.cell? ⟨w.heap.size, 3, none⟩ = some (.slice A' t.rows.length c') := by rw [hwz]; simp
 have z4 : wz.cell? ⟨w.heap.size, 4, none⟩ = some (.int .i64 t.gap) := by rw [hwz]; simp
 have u0 : wz.cell? ⟨w.heap.size + 1, 0, none⟩ = some (.int .i64 0) := by rw [hwz]; simp
 have u1 : wz.cell? ⟨w.heap.size + 1, 1, none⟩ = some (.int .i64 0) := by rw [hwz]; simp
 have u2 : wz.cell? ⟨w.heap.size + 1, 2, none⟩ = some (.slice none 0 0) := by rw [hwz]; simp
 have u3 : ∀ i, wz.frozen? ⟨w.heap.size + 1, i, none⟩ = false := fun i => by rw [hwz]; simp
 have zz : wz.heap.size = w.heap.size + 2 := by rw [hwz]; simp
 have HSS : Hid (∀ W : World, Below wz.heap.size wz W → Below wz.heap.size wz W ∧ W.cell? ⟨w.heap.size, 0, none⟩ = some (.slice A t.cols.length c) ∧ W.cell? ⟨w.heap.size, 3, none⟩ = some (.slice A' t.rows.length c')) := fun W hB => ⟨hB, Zo hB z0, Zo hB z3⟩
 have HG := Za (And.intro z0 (And.intro z1 (And.intro z2 (And.intro z3 (And.intro z4 (And.intro u0 (And.intro u1 (And.intro u2 u3))))))))
 have ZZ := Za zz
 clear hwz zz z0 z1 z2 z3 z4 u0 u1 u2 u3
 apply Zs7
 · intro HSH
   go_region_held3 (fun W => Below wz.heap.size wz W ∧ W.cell? ⟨w.heap.size, 0, none⟩ = some (.slice A t.cols.length c) ∧ W.cell? ⟨w.heap.size, 3, none⟩ = some (.slice A' t.rows.length c')) (first | assumption | (refine HSS.out _ ?_; (repeat' (with_reducible first | exact Zf _ | refine Zt ?_ | refine Zc ?_ _ | refine Yi ?_ ?_ _)) <;> first | (simp; done) | (simp; omega))) (first | (go_at_call 132; refine (hM _ _ _).mono ?_; rintro e w7 ⟨rfl, rfl⟩))
   all_goals exact HSH.out
 refine Zhy ?_
 intro wy hwy
 have YF : wy.cell? ⟨wz.heap.size, 0, none⟩ = some (.int .i64 t.rows.length) ∧ wy.cell? ⟨wz.heap.size, 1, none⟩ = some (.int .i64 (max 1 t.cols.length)) ∧ wy.cell? ⟨wz.heap.size, 2, none⟩ = some (.slice none 0 0) ∧ (∀ i, wy.frozen? ⟨wz.heap.size, i, none⟩ = false) ∧ Below wz.heap.size wz wy ∧ wz.heap.size < wy.heap.size := by
  subst hwy
  refine ⟨by simp, by simp, by simp, fun i => by simp, Zt (Zc (Zf _) _), by simp⟩
 clear hwy
 obtain ⟨g0, g1, g2, gf, BY, gl⟩ := YF
 obtain ⟨z0, z1, z2, z3, z4, u0, u1, u2, u3⟩ := HG.out
 have hmx : max 1 (t.cols.length : Int) = (Zad t).2 := by simp only [Zad]; omega
 rw [hmx] at g1
 clear hmx
 have y3 := Zo BY z3
 go_wp2_with fail
 go_loopg [4] t.rows.length (fun gg s4 wr => ∃ kk : Nat, kk ≤ t.rows.length ∧ t.rows.length - kk ≤ gg ∧ s4 = .int .i64 kk ∧ ∃ S AA cc, Aside (Below wz.heap.size wz wr) ∧ wr.cell? ⟨wz.heap.size, 0, none⟩ = some (.int .i64 t.rows.length) ∧ wr.cell? ⟨wz.heap.size, 1, none⟩ = some (.int .i64 S.2) ∧ wr.cell? ⟨wz.heap.size, 2, none⟩ = some (.slice AA S.1.length cc) ∧ (∀ i, wr.frozen? ⟨wz.heap.size, i, none⟩ = false) ∧ wz.heap.size < wr.heap.size ∧ Aside (wr.ownsRow (wz.heap.size + 1) 43 5 (.slice AA S.1.length cc) S.1.length (S.1.flatMap gcE)) ∧ Aside (GIn (5 * kk) S) ∧ Aside (Yy 90 t (t.rows.drop kk) kk S = Zp 90 t))
 case atStart =>
  refine ⟨0, Nat.zero_le _, by omega, rfl, Zad t, none, 0, BY, g0, g1, by simpa [Zad] using g2, gf, gl, World.ownsRow_nil _ _ _ _, GIn.zero t p3, (show Yy 90 t (t.rows.drop 0) 0 _ = _ from rfl)⟩
 clear g0 g1 g2 gf gl y3
 obtain ⟨kk, hkk, hg, rfl, S, AA, cc, BW, g0, g1, g2, gf, gl, HO, HI, HS⟩ := hrel
 have y0 := Zo BW.out z0
 have y1 := Zo BW.out z1
 have y2 := Zo BW.out z2
 have y3 := Zo BW.out z3
 have y4 := Zo BW.out z4
 by_cases hlt : kk < t.rows.length
 ·
  have hltz : (kk : Int) < (t.rows.length : Int) := by omega
  obtain ⟨b, o, d0, d1, rfl, hblt, hK, e0, e1⟩ := hr.at2 rfl (Zf w) kk hlt
  obtain ⟨v, hK', A1, n1, rfl, hl1, hr1⟩ := hK
  simp only [List.cons.injEq, and_true] at hK'
  obtain ⟨rfl, rfl⟩ := hK'
  have hlen := hr1.1
  have hn5 := ((Zx HOK.out).2.2.2.2.2.2 t.rows[kk] (List.getElem_mem hlt)).1
  have HS2 : Hid (Yy 90 t (t.rows.drop (kk + 1)) (kk + 1) (Jf 90 t kk t.rows[kk].cs 0 S) = Zp 90 t) := by
   have := HS.out
   rw [List.drop_eq_getElem_cons hlt, Yy] at this
   exact this
  have HR2 := Za hr1
  have HE0 := Za e0
  clear hr1 e0 e1
  go_wp2_with fail
  go_loopg [5] t.rows[kk].cs.length (fun gg s5 wr => ∃ k3 : Nat, k3 ≤ t.rows[kk].cs.length ∧ t.rows[kk].cs.length - k3 ≤ gg ∧ s5 = .int .i64 k3 ∧ ∃ S2 AA cc, Aside (Below wz.heap.size wz wr) ∧ wr.cell? ⟨wz.heap.size, 0, none⟩ = some (.int .i64 t.rows.length) ∧ wr.cell? ⟨wz.heap.size, 1, none⟩ = some (.int .i64 S2.2) ∧ wr.cell? ⟨wz.heap.size, 2, none⟩ = some (.slice AA S2.1.length cc) ∧ (∀ i, wr.frozen? ⟨wz.heap.size, i, none⟩ = false) ∧ wz.heap.size < wr.heap.size ∧ Aside (wr.ownsRow (wz.heap.size + 1) 43 5 (.slice AA S2.1.length cc) S2.1.length (S2.1.flatMap gcE)) ∧ Aside (GIn (5 * kk + k3) S2) ∧ Aside (Jf 90 t kk (t.rows[kk].cs.drop k3) k3 S2 = Jf 90 t kk t.rows[kk].cs 0 S))
  case atStart =>
   exact ⟨0, Nat.zero_le _, by omega, rfl, S, AA, cc, BW.out, g0, g1, g2, gf, gl, HO.out, HI.out, (show Jf 90 t kk (t.rows[kk].cs.drop 0) 0 S = _ from rfl)⟩
  clear g0 g1 g2 gf gl HO y0 y1 y2 y3 y4
  obtain ⟨k3, hk3, hg3, rfl, S2, A2, n2, BW2, g0, g1, g2, gf, gl, HO, HI2, HC⟩ := hrel
  have y0 := Zo BW2.out z0
  have y1 := Zo BW2.out z1
  have y2 := Zo BW2.out z2
  have y3 := Zo BW2.out z3
  have y4 := Zo BW2.out z4
  have e0 := Zo (step KB BW2.out) HE0.out
  by_cases hlt3 : k3 < t.rows[kk].cs.length
  ·
   have hltz3 : (k3 : Int) < (t.rows[kk].cs.length : Int) := by omega
   obtain ⟨b3, o3, d0, d1, d2, d3, d4, d5, d6, d7, d8, d9, d10, rfl, hblt3, hK3, x0, x1, x2, x3, x4, x5, x6, x7, x8, x9, x10⟩ := HR2.out.at11 rfl (step KB BW2.out) k3 hlt3
   obtain ⟨hK3, _⟩ := hK3
   simp only [Qv, List.cons.injEq, and_true] at hK3
   obtain ⟨rfl, rfl, rfl, rfl, rfl, rfl, rfl, rfl, rfl, rfl, rfl⟩ := hK3
   have hok3 := Zag (((Zx HOK.out).2.2.2.2.2.2 t.rows[kk] (List.getElem_mem hlt)).2 _ (List.getElem_mem hlt3))
   have hE := fun (W : World) => Zr3 t A c (some ⟨b, o, none⟩) c' kk W (by omega) ⟨by omega, by omega⟩
   obtain ⟨heb1, heb2⟩ := Ze9 HOK.out hlt
   have hwr := IntWalk.i64_in (Ja t kk - kk) ⟨by omega, by omega⟩
   have hwr2 := IntWalk.i64_in (kk + t.rows[kk].cs[k3].r) ⟨by have := hok3.2; omega, by have := hok3.2; omega⟩
   go_wp2_with fail
   obtain ⟨wx, hwx⟩ : ∃ wx : World, wx = (wr.alloc (.cells #[.string t.rows[kk].cs[k3].t, .int .i64 t.rows[kk].cs[k3].c, .int .i64 t.rows[kk].cs[k3].r, .int .i64 t.rows[kk].cs[k3].top.s, .int .i64 t.rows[kk].cs[k3].top.w, .int .i64 t.rows[kk].cs[k3].right.s, .int .i64 t.rows[kk].cs[k3].right.w, .int .i64 t.rows[kk].cs[k3].bot.s, .int .i64 t.rows[kk].cs[k3].bot.w, .int .i64 t.rows[kk].cs[k3].left.s, .int .i64 t.rows[kk].cs[k3].left.w] 105)).alloc (.cells #[.int .i64 kk, .int .i64 0, .int .i64 t.rows[kk].cs[k3].r, .int .i64 t.rows[kk].cs[k3].c, .int .i64 k3] 43) := ⟨_, rfl⟩
   rw [← hwx]
   have KX : Below wr.heap.size wr wx := hwx ▸ Zc (Zc (Zf wr) _) _
   have a0 : wx.cell? ⟨wr.heap.size + 1, 0, none⟩ = some (.int .i64 kk) := by rw [hwx]; simp
   have a1 : wx.cell? ⟨wr.heap.size + 1, 1, none⟩ = some (.int .i64 0) := by rw [hwx]; simp
   have a2 : wx.cell? ⟨wr.heap.size + 1, 2, none⟩ = some (.int .i64 t.rows[kk].cs[k3].r) := by rw [hwx]; simp
   have a3 : wx.cell? ⟨wr.heap.size + 1, 3, none⟩ = some (.int .i64 t.rows[kk].cs[k3].c) := by rw [hwx]; simp
   have a4 : wx.cell? ⟨wr.heap.size + 1, 4, none⟩ = some (.int .i64 k3) := by rw [hwx]; simp
   have af : ∀ i, wx.frozen? ⟨wr.heap.size + 1, i, none⟩ = false := fun i => by rw [hwx]; simp
   have zx : wx.heap.size = wr.heap.size + 2 := by rw [hwx]; simp
   have HSX : Hid (∀ W : World, Below wx.heap.size wx W → Below wx.heap.size wx W ∧ W.cell? ⟨wr.heap.size + 1, 2, none⟩ = some (.int .i64 t.rows[kk].cs[k3].r) ∧ W.cell? ⟨w.heap.size, 0, none⟩ = some (.slice A t.cols.length c) ∧ W.cell? ⟨w.heap.size, 1, none⟩ = some (.int .i64 t.head) ∧ W.cell? ⟨w.heap.size, 2, none⟩ = some (.int .i64 t.foot) ∧ W.cell? ⟨w.heap.size, 3, none⟩ = some (.slice (some ⟨b, o, none⟩) t.rows.length c') ∧ W.cell? ⟨w.heap.size, 4, none⟩ = some (.int .i64 t.gap)) := fun W hB =>
    ⟨hB, Zo hB a2, Zo hB (Zo KX y0), Zo hB (Zo KX y1), Zo hB (Zo KX y2), Zo hB (Zo KX y3), Zo hB (Zo KX y4)⟩
   have HA := Za (And.intro a0 (And.intro a1 (And.intro a2 (And.intro a3 (And.intro a4 af)))))
   have HGG := Za (And.intro g0 (And.intro g1 (And.intro g2 gf)))
   have ZX := Za zx
   clear hwx zx a0 a1 a2 a3 a4 af g0 g1 g2 gf y0 y1 y2 y3 y4 e0 x0 x1 x2 x3 x4 x5 x6 x7 x8 x9 x10 z0 z1 z2 z3 z4 u0 u1 u2 u3
   apply Zs7
   · intro HSH2
     go_region_held3 (fun W => Below wx.heap.size wx W ∧ W.cell? ⟨wr.heap.size + 1, 2, none⟩ = some (.int .i64 t.rows[kk].cs[k3].r) ∧ W.cell? ⟨w.heap.size, 0, none⟩ = some (.slice A t.cols.length c) ∧ W.cell? ⟨w.heap.size, 1, none⟩ = some (.int .i64 t.head) ∧ W.cell? ⟨w.heap.size, 2, none⟩ = some (.int .i64 t.foot) ∧ W.cell? ⟨w.heap.size, 3, none⟩ = some (.slice (some ⟨b, o, none⟩) t.rows.length c') ∧ W.cell? ⟨w.heap.size, 4, none⟩ = some (.int .i64 t.gap)) (first | assumption | (refine HSX.out _ ?_; (repeat' (with_reducible first | exact Zf _ | refine Zt ?_ | refine Zc ?_ _ | refine Yi ?_ ?_ _)) <;> first | (simp; done) | (simp; omega))) (first | (go_at_call 133; refine (hE _).mono ?_; rintro e w7 ⟨rfl, rfl⟩))
     all_goals exact HSH2.out
   refine Zhy ?_
   intro wy2 hwy2
   have KY : Below wx.heap.size wx wy2 := by rw [hwy2]; exact Zt (Zc (Zc (Zf _) _) _)
   clear hwy2
   obtain ⟨m0, m1, m2, m3, m4, mf⟩ := HA.out
   have hcx : wr.heap.size + 1 < wx.heap.size := by have := ZX.out; omega
   have a0 := Zo KY m0
   have a1 := Zo KY m1
   have a2 := Zo KY m2
   have a3 := Zo KY m3
   have a4 := Zo KY m4
   have af := Zeq KY hcx mf
   clear m0 m1 m2 m3 m4 mf
   have hcy : wr.heap.size + 1 < wy2.heap.size := by have := KY.size; omega
   have hcy1 : ¬ wy2.heap.size ≤ wr.heap.size + 1 := by omega
   have KR := step KX KY
   have y0 := Zo (step BW2.out KR) (HG.out).1
   have y1 := Zo (step BW2.out KR) (HG.out).2.1
   have y2 := Zo (step BW2.out KR) (HG.out).2.2.1
   have y3 := Zo (step BW2.out KR) (HG.out).2.2.2.1
   have y4 := Zo (step BW2.out KR) (HG.out).2.2.2.2.1
   obtain ⟨V, hV, hcl⟩ : ∃ V, V = (min t.rows[kk].cs[k3].r (Ja t kk - kk)) ∧ ((Ja t kk < kk + t.rows[kk].cs[k3].r ∧ V = Ja t kk - kk) ∨ (¬ Ja t kk < kk + t.rows[kk].cs[k3].r ∧ V = t.rows[kk].cs[k3].r)) := by
    refine ⟨_, rfl, ?_⟩
    by_cases h : Ja t kk < kk + t.rows[kk].cs[k3].r
    · exact .inl ⟨h, by omega⟩
    exact .inr ⟨h, by omega⟩
   have HV := Za hV
   clear hV HSX HA
   rcases hcl with ⟨hcl, rfl⟩ | ⟨hcl, rfl⟩
   all_goals
    go_wp2_with fail
    first
    | (refine (hE _).mono ?_
       rintro e w1 ⟨rfl, rfl⟩
       have KQ := Zc (Zc (Zf wy2) (.cells #[.slice A t.cols.length c, .int .i64 t.head, .int .i64 t.foot, .slice (some ⟨b, o, none⟩) t.rows.length c', .int .i64 t.gap] 26)) (.cells #[.slice A t.cols.length c, .int .i64 t.head, .int .i64 t.foot, .slice (some ⟨b, o, none⟩) t.rows.length c', .int .i64 t.gap] 26)
       have qf := Zeq KQ hcy af
       have q2 := Zo KQ a2
       clear KQ
       go_wp2_with fail)
    | skip
    refine Zhy ?_
    intro wl hwl
    have YF : wl.cell? ⟨wr.heap.size + 1, 0, none⟩ = some (.int .i64 kk) ∧ wl.cell? ⟨wr.heap.size + 1, 1, none⟩ = some (.int .i64 0) ∧ (∃ V, V = (min t.rows[kk].cs[k3].r (Ja t kk - kk)) ∧ wl.cell? ⟨wr.heap.size + 1, 2, none⟩ = some (.int .i64 V)) ∧ wl.cell? ⟨wr.heap.size + 1, 3, none⟩ = some (.int .i64 t.rows[kk].cs[k3].c) ∧ wl.cell? ⟨wr.heap.size + 1, 4, none⟩ = some (.int .i64 k3) ∧ (∀ i, wl.frozen? ⟨wr.heap.size + 1, i, none⟩ = false) ∧ Below wr.heap.size wr wl ∧ wr.heap.size + 1 < wl.heap.size := by
     subst hwl
     first
     | exact ⟨a0, a1, ⟨_, HV.out, a2⟩, a3, a4, af, KR, by omega⟩
     | (have KQ := Zc (Zc (Zf wy2) (.cells #[.slice A t.cols.length c, .int .i64 t.head, .int .i64 t.foot, .slice (some ⟨b, o, none⟩) t.rows.length c', .int .i64 t.gap] 26)) (.cells #[.slice A t.cols.length c, .int .i64 t.head, .int .i64 t.foot, .slice (some ⟨b, o, none⟩) t.rows.length c', .int .i64 t.gap] 26)
        exact ⟨Zaa (Zo KQ a0) (by simp), Zaa (Zo KQ a1) (by simp), ⟨_, HV.out, Zii (Zo KQ a2)⟩, Zaa (Zo KQ a3) (by simp), Zaa (Zo KQ a4) (by simp), Zi6 (Zeq KQ hcy af), Yi (step KR KQ) (Nat.le_succ _) _, by simp; omega⟩)
    clear hwl a0 a1 a2 a3 a4 af hcy hcy1 y0 y1 y2 y3 y4
    obtain ⟨a0, a1, ⟨V', hV', a2⟩, a3, a4, af, KL, hcl2⟩ := YF
    rw [hV'] at a2
    clear hV' V'
    obtain ⟨g0, g1, g2, gf⟩ := HGG.out
    obtain ⟨C, hC⟩ : ∃ C, C = wr.heap.size + 1 := ⟨_, rfl⟩
    rw [← hC] at a0 a1 a2 a3 a4 af hcl2 ⊢
    have hC1 : wr.heap.size ≤ C := by omega
    have CE : Jp t kk k3 t.rows[kk].cs[k3] = ⟨kk, 0, (min t.rows[kk].cs[k3].r (Ja t kk - kk)), t.rows[kk].cs[k3].c, k3⟩ := rfl
    have CM : Jf 90 t kk (t.rows[kk].cs.drop (k3 + 1)) (k3 + 1) (Zai 90 t kk k3 t.rows[kk].cs[k3] S2) = Jf 90 t kk t.rows[kk].cs 0 S := by
     rw [← HC.out, List.drop_eq_getElem_cons hlt3, Jf]
    have CF := Za CE
    have CMH := Za CM
    have HTP : Hid (∀ b, (Value.slice A2 S2.1.length n2).ownBlock = some b → wz.heap.size + 1 ≤ b ∧ b < C) := fun b hb => ⟨(Qo HO.out hb).1, by have := (Qo HO.out hb).2; omega⟩
    have HHC := Za hC
    clear CE CM hC
    have hin := HI2.out
    obtain ⟨wq, rfl⟩ : ∃ W : World, W = wr := ⟨wr, rfl⟩
    go_wp2_with fail
    go_loopg [] 90 (fun gg wv => ∃ q : Nat, q ≤ 90 ∧ 90 - q ≤ gg ∧ wv.cell? ⟨C, 0, none⟩ = some (.int .i64 kk) ∧ wv.cell? ⟨C, 1, none⟩ = some (.int .i64 q) ∧ wv.cell? ⟨C, 2, none⟩ = some (.int .i64 (min t.rows[kk].cs[k3].r (Ja t kk - kk))) ∧ wv.cell? ⟨C, 3, none⟩ = some (.int .i64 t.rows[kk].cs[k3].c) ∧ wv.cell? ⟨C, 4, none⟩ = some (.int .i64 k3) ∧ (∀ i, wv.frozen? ⟨C, i, none⟩ = false) ∧ Aside (Below wq.heap.size wq wv) ∧ C < wv.heap.size ∧ Aside (Zv S2.1 (Jp t kk k3 t.rows[kk].cs[k3]) (90 - q) q = Zv S2.1 (Jp t kk k3 t.rows[kk].cs[k3]) 90 0))
    case atStart => exact ⟨0, by omega, by omega, a0, a1, a2, a3, a4, af, KL, hcl2, (show Aside _ from rfl)⟩
    clear a0 a1 a2 a3 a4 af hcl2
    obtain ⟨⟨hk4, hk5⟩, hk6, hk7⟩ := hok3
    obtain ⟨q, hq4, hgq, a0, a1, a2, a3, a4, af, KV, hcl2, HF⟩ := hrel
    have HOv := Qx HO.out KV.out
    have g0 := Zo KV.out g0
    have g1 := Zo KV.out g1
    have g2 := Zo KV.out g2
    have gf := Zeq KV.out gl gf
    have hrd : Rd gcR wr A2 S2.1 := by
     obtain ⟨Ao, co, eo, _, ro⟩ := Zdz (enc := gcE) (hk := fun _ => rfl) HOv
     injection eo with e1 _ _
     rw [e1]
     exact Zh1 (d := Zg9 5 gcE (fun _ => rfl)) (d' := gcR) rfl (fun a ha cs h => ⟨h, hin.sm (by omega) a ha⟩) ro
    have hfr := fun (W : World) (hB : Below wr.heap.size wr W) => Zse S2.1 A2 n2 ⟨kk, q, (min t.rows[kk].cs[k3].r (Ja t kk - kk)), t.rows[kk].cs[k3].c, k3⟩ W (hrd.below hB) (by refine ⟨?_, ?_, ?_, ?_, ?_⟩ <;> (dsimp only; constructor <;> omega))
    clear hrd
    have hmany : q < 90 → Zv S2.1 ⟨kk, 0, (min t.rows[kk].cs[k3].r (Ja t kk - kk)), t.rows[kk].cs[k3].c, k3⟩ (90 - q) q = (if S2.1.any (Yj ⟨kk, q, (min t.rows[kk].cs[k3].r (Ja t kk - kk)), t.rows[kk].cs[k3].c, k3⟩) then Zv S2.1 ⟨kk, 0, (min t.rows[kk].cs[k3].r (Ja t kk - kk)), t.rows[kk].cs[k3].c, k3⟩ (90 - (q + 1)) (q + 1) else q) := fun h => by
     rw [show 90 - q = (90 - (q + 1)) + 1 by omega, Zv]; rfl
    rw [CF.out] at HF
    have HF := Za HF.out
    by_cases hq9 : q < 90
    ·
     have hq9z : (q : Int) < 90 := by omega
     have HM := hmany hq9
     rw [HF.out] at HM
     have HFM := Za HM
     clear HM hmany HF
     cases hqb : S2.1.any (Yj ⟨kk, q, (min t.rows[kk].cs[k3].r (Ja t kk - kk)), t.rows[kk].cs[k3].c, k3⟩) with
     | true =>
      rw [hqb] at hfr HFM
      clear hqb
      go_wp2_with fail
      refine (hfr _ (Zf _)).mono ?_
      rintro e w' ⟨rfl, hb'⟩
      have a0 := Zo hb' a0
      have a1 := Zo hb' a1
      have a2 := Zo hb' a2
      have a3 := Zo hb' a3
      have a4 := Zo hb' a4
      have af := Zeq hb' hcl2 af
      have hcl2 := Nat.lt_of_lt_of_le hcl2 hb'.size
      have hqw := IntWalk.i64_in (q + 1) ⟨by omega, by omega⟩
      clear hfr
      go_wp2_with fail
      go_roundg (90 - (q + 1))
      case measure => omega
      refine ⟨q + 1, by omega, by omega, Zaa a0 (by simp), (by have := Zii (v := .int .i64 ((q : Int) + 1)) a1; simpa using this), Zaa a2 (by simp), Zaa a3 (by simp), Zaa a4 (by simp), Zi6 af, Yi (step KV.out hb') hC1 _, by simpa using hcl2, (show Aside _ from ?_)⟩
      have h1 := HFM.out
      rw [CF.out]
      exact (h1.trans (if_pos (by simp))).symm
     | false =>
      rw [hqb] at hfr HFM
      clear hqb
      have HK : Hid (Zv S2.1 (Jp t kk k3 t.rows[kk].cs[k3]) 90 0 = q) := by
       have h1 := HFM.out
       rw [CF.out]
       exact h1.trans (if_neg (by simp))
      clear HFM
      go_wp2_with fail
      refine (hfr _ (Zf _)).mono ?_
      rintro e w' ⟨rfl, hb'⟩
      have a0 := Zo hb' a0
      have a1 := Zo hb' a1
      have a2 := Zo hb' a2
      have a3 := Zo hb' a3
      have a4 := Zo hb' a4
      have hcl2 := Nat.lt_of_lt_of_le hcl2 hb'.size
      have g0 := Zo hb' g0
      have g1 := Zo hb' g1
      have g2 := Zo hb' g2
      have gf := Zeq hb' (Nat.lt_of_lt_of_le gl KV.out.size) gf
      have HOv := Qx HOv hb'
      have KV := step KV.out hb'
      clear hfr hb'
      have hGl : wz.heap.size < w'.heap.size := by have := KV.size; omega
      have hTop' : ∀ b, b = wz.heap.size ∨ C ≤ b → (Value.slice A2 S2.1.length n2).ownBlock ≠ some b := fun b hb e => by
       have h1 := HTP.out b e
       omega
      have BWw := step BW2.out KV
      obtain ⟨i0, hi, hz0, hz1, hz2⟩ := info_parts Zqv
      go_wp2_with (at_builtin; refine wpList_append_own _ rfl _ _ 37 rfl (wz.heap.size + 1) 43 i0 _ 5 40 Zur hi hz0 hz1 hz2 rfl (by decide) _ _ _ rfl (HOv.alloc _) ⟨w'.heap.size, 0, none⟩ 1 1 [.int .i64 kk, .int .i64 q, .int .i64 (min t.rows[kk].cs[k3].r (Ja t kk - kk)), .int .i64 t.rows[kk].cs[k3].c, .int .i64 k3] rfl rfl (Zq3 (Zj _ _ _ _ _ _ rfl) (Zj _ _ _ _ _ _ rfl) (Zj _ _ _ _ _ _ rfl) (Zj _ _ _ _ _ _ rfl) (Zj _ _ _ _ _ _ rfl)) (Zql _ _ _ _ _ _) (by have := hin.1; unfold maxLen; omega) (by have := hin.1; omega) (by simp; omega) ?_)
      intro v' w2 HO2 hgr _
      have AK := fun b h1 h2 => Zg8 hgr b h1 h2
      have BW3 := Zfy BWw HOv (by omega) hgr
      have HO3 := Zg4 HK.out HO2
      obtain ⟨E1, E2⟩ := Zdv HK.out
      have HRB := Zc2 HOK.out hlt k3 _ ⟨hk6, hk7⟩
      have HI3 := hin.step 90 t kk k3 t.rows[kk].cs[k3] (by omega) (by omega) ⟨hk4, hk5⟩ ⟨by omega, by omega⟩
      obtain ⟨S3, hS3⟩ : ∃ S3, S3 = Zai 90 t kk k3 t.rows[kk].cs[k3] S2 := ⟨_, rfl⟩
      have CMH3 := CMH.out
      rw [← hS3] at HO3 HI3 E2 CMH3
      clear E1 HRB hS3 HO2 CMH
      obtain ⟨A3, n3, rfl⟩ := Zbc HO3
      have HC3 := Za CMH3
      have HE2 := Za E2
      obtain ⟨b0, bf, bl⟩ := AK wz.heap.size (by omega) (hTop' _ (.inl rfl))
      obtain ⟨d0, df, dl⟩ := AK C hcl2 (hTop' C (.inr (Nat.le_refl _)))
      have g0 := (b0 0).trans g0
      have g1 := (b0 1).trans g1
      have g2 := (b0 2).trans g2
      have gf : ∀ i, w2.frozen? ⟨wz.heap.size, i, none⟩ = false := fun i => (bf i).trans (gf i)
      have a1 := (d0 1).trans a1
      have a3 := (d0 3).trans a3
      clear AK b0 bf d0 df CMH3 E2 hgr BWw HOv hTop'
      obtain ⟨_, hin3, hin4⟩ := hin
      obtain ⟨hin5, hin6⟩ := hin4
      have hqw := IntWalk.i64_in (q + t.rows[kk].cs[k3].c) ⟨by omega, by omega⟩
      go_wp2_with fail
      refine (hM _ _ _).mono ?_
      rintro e w7 ⟨rfl, rfl⟩
      go_wp2_with fail
      go_roundg (t.rows[kk].cs.length - (k3 + 1))
      case measure => omega
      refine ⟨k3 + 1, by omega, by omega, by go_num, S3, A3, n3, Yi (Yi BW3 (Nat.le_refl _) _) (Nat.le_refl _) _, Zaa (Zaa g0 (by simp)) (by simp), ?_, Zaa (Zii g2) (by simp), Zi6 (Zi6 gf), by simpa using bl,
       Za9 (Za9 HO3 (show wz.heap.size < wz.heap.size + 1 by omega) _) (show wz.heap.size < wz.heap.size + 1 by omega) _, HI3, HC3.out⟩
      rw [HE2.out]
      exact Zii (Zaa g1 (by simp))
    have HK : Hid (Zv S2.1 (Jp t kk k3 t.rows[kk].cs[k3]) 90 0 = q) := by
     have h1 := HF.out
     rw [CF.out, ← h1, show q = 90 by omega]; rfl
    have hq9z : ¬ (q : Int) < 90 := by omega
    clear hfr hmany HF
    have KV := KV.out
    have hGl : wz.heap.size < wr.heap.size := by have := KV.size; omega
    have hTop' : ∀ b, b = wz.heap.size ∨ C ≤ b → (Value.slice A2 S2.1.length n2).ownBlock ≠ some b := fun b hb e => by
     have h1 := HTP.out b e
     omega
    have BWw := step BW2.out KV
    obtain ⟨i0, hi, hz0, hz1, hz2⟩ := info_parts Zqv
    go_wp2_with (at_builtin; refine wpList_append_own _ rfl _ _ 37 rfl (wz.heap.size + 1) 43 i0 _ 5 40 Zur hi hz0 hz1 hz2 rfl (by decide) _ _ _ rfl (HOv.alloc _) ⟨wr.heap.size, 0, none⟩ 1 1 [.int .i64 kk, .int .i64 q, .int .i64 (min t.rows[kk].cs[k3].r (Ja t kk - kk)), .int .i64 t.rows[kk].cs[k3].c, .int .i64 k3] rfl rfl (Zq3 (Zj _ _ _ _ _ _ rfl) (Zj _ _ _ _ _ _ rfl) (Zj _ _ _ _ _ _ rfl) (Zj _ _ _ _ _ _ rfl) (Zj _ _ _ _ _ _ rfl)) (Zql _ _ _ _ _ _) (by have := hin.1; unfold maxLen; omega) (by have := hin.1; omega) (by simp; omega) ?_)
    intro v' w2 HO2 hgr _
    have AK := fun b h1 h2 => Zg8 hgr b h1 h2
    have BW3 := Zfy BWw HOv (by omega) hgr
    have HO3 := Zg4 HK.out HO2
    obtain ⟨E1, E2⟩ := Zdv HK.out
    have HRB := Zc2 HOK.out hlt k3 _ ⟨hk6, hk7⟩
    have HI3 := hin.step 90 t kk k3 t.rows[kk].cs[k3] (by omega) (by omega) ⟨hk4, hk5⟩ ⟨by omega, by omega⟩
    obtain ⟨S3, hS3⟩ : ∃ S3, S3 = Zai 90 t kk k3 t.rows[kk].cs[k3] S2 := ⟨_, rfl⟩
    have CMH3 := CMH.out
    rw [← hS3] at HO3 HI3 E2 CMH3
    clear E1 HRB hS3 HO2 CMH
    obtain ⟨A3, n3, rfl⟩ := Zbc HO3
    have HC3 := Za CMH3
    have HE2 := Za E2
    obtain ⟨b0, bf, bl⟩ := AK wz.heap.size (by omega) (hTop' _ (.inl rfl))
    obtain ⟨d0, df, dl⟩ := AK C hcl2 (hTop' C (.inr (Nat.le_refl _)))
    have g0 := (b0 0).trans g0
    have g1 := (b0 1).trans g1
    have g2 := (b0 2).trans g2
    have gf : ∀ i, w2.frozen? ⟨wz.heap.size, i, none⟩ = false := fun i => (bf i).trans (gf i)
    have a1 := (d0 1).trans a1
    have a3 := (d0 3).trans a3
    clear AK b0 bf d0 df CMH3 E2 hgr BWw HOv hTop'
    obtain ⟨_, hin3, hin4⟩ := hin
    obtain ⟨hin5, hin6⟩ := hin4
    have hqw := IntWalk.i64_in (q + t.rows[kk].cs[k3].c) ⟨by omega, by omega⟩
    go_wp2_with fail
    refine (hM _ _ _).mono ?_
    rintro e w7 ⟨rfl, rfl⟩
    go_wp2_with fail
    go_roundg (t.rows[kk].cs.length - (k3 + 1))
    case measure => omega
    refine ⟨k3 + 1, by omega, by omega, by go_num, S3, A3, n3, Yi (Yi BW3 (Nat.le_refl _) _) (Nat.le_refl _) _, Zaa (Zaa g0 (by simp)) (by simp), ?_, Zaa (Zii g2) (by simp), Zi6 (Zi6 gf), by simpa using bl,
     Za9 (Za9 HO3 (show wz.heap.size < wz.heap.size + 1 by omega) _) (show wz.heap.size < wz.heap.size + 1 by omega) _, HI3, HC3.out⟩
    rw [HE2.out]
    exact Zii (Zaa g1 (by simp))
  have hltz3 : ¬ (k3 : Int) < (t.rows[kk].cs.length : Int) := by omega
  have hk3e : k3 = t.rows[kk].cs.length := by omega
  have HS3 : Hid (Yy 90 t (t.rows.drop (kk + 1)) (kk + 1) S2 = Zp 90 t) := by
   have h1 := HC.out
   rw [hk3e, List.drop_length] at h1
   have h2 := HS2.out
   rw [← h1] at h2
   exact h2
  clear hk3e
  go_wp2_with fail
  go_roundg (t.rows.length - (kk + 1))
  case measure => omega
  case rel => exact ⟨kk + 1, by omega, by omega, by go_num, S2, A2, n2, BW2.out, g0, g1, g2, gf, gl, HO.out, HI2.out.le (by omega), HS3.out⟩
 have hltz : ¬ (kk : Int) < (t.rows.length : Int) := by omega
 have HSE : Hid (S = Zp 90 t) := by
  have h1 := HS.out
  rw [show kk = t.rows.length by omega, List.drop_length] at h1
  exact h1
 have u0 := Zo BW.out u0
 have u1 := Zo BW.out u1
 have u2 := Zo BW.out u2
 have hu1 : w.heap.size + 1 < wz.heap.size := by have := ZZ.out; omega
 have u3 := Zeq BW.out hu1 u3
 clear hM
 go_wp2_with fail
 refine bodyPost_ret (v := .agg #[.int .i64 t.rows.length, .int .i64 S.2, .slice AA S.1.length cc]) (by simp [results, Tryz.results79, go_sem, *]) rfl ?_
 have h1 := HSE.out
 rw [← h1]
 have hlt1 : w.heap.size + 1 < wz.heap.size + 1 := by omega
 exact ⟨AA, cc, rfl, Jw (Za9 (Za9 (Za9 HO.out hlt1 _) hlt1 _) hlt1 _) (by omega), Yi (Yi (Yi (step KB BW.out) (Nat.le_succ _) _) (Nat.le_succ _) _) (Nat.le_succ _) _⟩
end Go.Proofs.YtgdmcmicfoamlaaGreatDoor
