import Derived.Test.YtgdmcmicfoamlaaGreatDoorMixW
import Derived.OwnWalk
import Derived.Deep.RegionHeld3
set_option linter.unusedVariables false
set_option linter.unusedSimpArgs false
set_option maxHeartbeats 4000000
set_option maxRecDepth 100000
namespace Go.Proofs.YtgdmcmicfoamlaaGreatDoor
open Go.RowKit
def Zao (m : Nat) (t : Tbl) : Zvq := if Qn t = true then ⟨t.rows.length, (Zp m t).2, (Zp m t).1⟩ else ⟨0, 0, []⟩
def Zi9 (g : Zvq) (w : World) (e : Ending) (w' : World) : Prop :=
 ∃ A c, e = .returned (.agg #[.int .i64 g.rows, .int .i64 g.cols, .slice A g.cells.length c]) ∧ w'.ownsRow w.heap.size 43 5 (.slice A g.cells.length c) g.cells.length (g.cells.flatMap gcE) ∧ Below w.heap.size w w'
theorem Zkh (t : Tbl) (A : Option Addr) (c : Nat) (A' : Option Addr) (c' : Nat) (w : World) (hw : Zb9 w) (hc : Rd Zbz w A t.cols) (hr : Rd Zbp w A' t.rows) :
 Calls Tryz.prog 28 #[.agg #[.slice A t.cols.length c, .int .i64 t.head, .int .i64 t.foot, .slice A' t.rows.length c', .int .i64 t.gap]] w (Zi9 (Zao 400 t) w) := by
 have hT := fun (W : World) (h : Below w.heap.size w W) => Zj5 t A c A' c' W (hw.below h) (hc.below h) (hr.below h)
 have hmax := Zdc
 have hmin := Zus
 cases hok : Qn t with
 | false =>
  rw [hok] at hT
  have hres : Zao 400 t = ⟨0, 0, []⟩ := by unfold Zao; rw [if_neg (by simp [hok])]
  rw [hres]
  clear hres hok hw hc hr hmax hmin
  go_enter Tryz.func28, Tryz.ntmps28
  go_wp2_with fail
  refine (hT _ (Zc (Zc (Zf _) _) _)).mono ?_
  rintro e w1 ⟨rfl, hb⟩
  obtain ⟨c0, f0, s0⟩ := Jc w.heap.size (by first | (simp; omega) | simp [*]) hb
  obtain ⟨c1, f1, s1⟩ := Jc (w.heap.size + 1) (by first | (simp; omega) | simp [*]) hb
  go_wp2_with fail
  refine bodyPost_ret (v := .agg #[.int .i64 0, .int .i64 0, .slice none 0 0]) (by simp [results, Tryz.results28, go_sem, *]) rfl ⟨none, 0, rfl, World.ownsRow_nil _ _ _ _, ?_⟩
  (repeat' (with_reducible first | exact hb | refine Yi ?_ ?_ _ | refine Zc ?_ _ | exact Zf _ | refine step ?_ (by with_reducible assumption))) <;> first | (simp; done) | (simp; omega)
 | true =>
  rw [hok] at hT
  have hres : Zao 400 t = ⟨t.rows.length, (Zp 400 t).2, (Zp 400 t).1⟩ := by unfold Zao; rw [if_pos hok]
  rw [hres]
  have HOK := Za hok
  have l1 := hc.1
  have l2 := hr.1
  obtain ⟨⟨p1, p2⟩, p3, _, ⟨p4, p5⟩, ⟨p6, p7⟩, _, _⟩ := Zx hok
  clear hres hok
  go_enter Tryz.func28, Tryz.ntmps28
  go_wp2_with fail
  refine (hT _ (Zc (Zc (Zf _) _) _)).mono ?_
  rintro e w1 ⟨rfl, hb⟩
  obtain ⟨c0, f0, s0⟩ := Jc w.heap.size (by first | (simp; omega) | simp [*]) hb
  obtain ⟨c1, f1, s1⟩ := Jc (w.heap.size + 1) (by first | (simp; omega) | simp [*]) hb
  have HB := step (Zc (Zc (Zf w) _) _) hb
  have t0 : w1.cell? ⟨w.heap.size, 0, none⟩ = some (.slice A t.cols.length c) := by simp [c0]
  have t1 : w1.cell? ⟨w.heap.size, 1, none⟩ = some (.int .i64 t.head) := by simp [c0]
  have t2 : w1.cell? ⟨w.heap.size, 2, none⟩ = some (.int .i64 t.foot) := by simp [c0]
  have t3 : w1.cell? ⟨w.heap.size, 3, none⟩ = some (.slice A' t.rows.length c') := by simp [c0]
  have t4 : w1.cell? ⟨w.heap.size, 4, none⟩ = some (.int .i64 t.gap) := by simp [c0]
  have u0 : w1.cell? ⟨w.heap.size + 1, 0, none⟩ = some (.int .i64 0) := by simp [c1]
  have u1 : w1.cell? ⟨w.heap.size + 1, 1, none⟩ = some (.int .i64 0) := by simp [c1]
  have u2 : w1.cell? ⟨w.heap.size + 1, 2, none⟩ = some (.slice none 0 0) := by simp [c1]
  have u3 : ∀ i, w1.frozen? ⟨w.heap.size + 1, i, none⟩ = false := fun i => by simp [f1]
  clear hT hw hc c0 c1 f0 f1 hb
  go_wp2_with fail
  go_loopg [37] t.rows.length (fun gg s37 wr => ∃ kk : Nat, kk ≤ t.rows.length ∧ t.rows.length - kk ≤ gg ∧ s37 = .int .i64 kk ∧ ∃ S AA cc, Aside (Below w1.heap.size w1 wr) ∧ wr.cell? ⟨w1.heap.size, 0, none⟩ = some (.int .i64 t.rows.length) ∧ wr.cell? ⟨w1.heap.size, 1, none⟩ = some (.int .i64 S.2) ∧ wr.cell? ⟨w1.heap.size, 2, none⟩ = some (.slice AA S.1.length cc) ∧ (∀ i, wr.frozen? ⟨w1.heap.size, i, none⟩ = false) ∧ wr.cell? ⟨w1.heap.size + 1, 0, none⟩ = some (.int .i64 t.head) ∧ wr.cell? ⟨w1.heap.size + 1, 1, none⟩ = some (.int .i64 (t.rows.length - t.foot)) ∧ wr.cell? ⟨w1.heap.size + 1, 2, none⟩ = some (.int .i64 t.rows.length) ∧ w1.heap.size + 1 < wr.heap.size ∧ Aside (wr.ownsRow (w1.heap.size + 2) 43 5 (.slice AA S.1.length cc) S.1.length (S.1.flatMap gcE)) ∧ Aside (GIn (5 * kk) S) ∧ Aside (Yy 400 t (t.rows.drop kk) kk S = Zp 400 t))
  case atStart =>
   refine ⟨0, Nat.zero_le _, by omega, rfl, Zad t, none, 0, Zc (Zc (Zf _) _) _, by simp, by simp [Zad], by simp [Zad], fun i => by simp, by simp, by simp, by simp, by simp, World.ownsRow_nil _ _ _ _, GIn.zero t p3, (show Yy 400 t (t.rows.drop 0) 0 (Zad t) = Zp 400 t from rfl)⟩
  obtain ⟨kk, hkk, hg, rfl, S, AA, cc, BW, g0, g1, g2, gf, x0, x1, x2, gl, HO, HI, HS⟩ := hrel
  obtain ⟨c0, f0, s0'⟩ := Jc w.heap.size s0 BW.out
  by_cases hlt : kk < t.rows.length
  ·
   have hltz : (kk : Int) < (t.rows.length : Int) := by omega
   obtain ⟨b, o, d0, d1, rfl, hblt, hK, e0, e1⟩ := hr.at2 rfl (Zf w) kk hlt
   have e0 := Zo (step HB BW.out) e0
   have e1 := Zo (step HB BW.out) e1
   obtain ⟨v, hK', A1, n1, rfl, hl1, hr1⟩ := hK
   simp only [List.cons.injEq, and_true] at hK'
   obtain ⟨rfl, rfl⟩ := hK'
   have hlen := hr1.1
   have hn5 := ((Zx HOK.out).2.2.2.2.2.2 t.rows[kk] (List.getElem_mem hlt)).1
   have HS2 : Hid (Yy 400 t (t.rows.drop (kk + 1)) (kk + 1) (Jf 400 t kk t.rows[kk].cs 0 S) = Zp 400 t) := by
    have := HS.out
    rw [List.drop_eq_getElem_cons hlt, Yy] at this
    exact this
   go_wp2_with fail
   go_loopg [45] t.rows[kk].cs.length (fun gg s45 wr => ∃ k3 : Nat, k3 ≤ t.rows[kk].cs.length ∧ t.rows[kk].cs.length - k3 ≤ gg ∧ s45 = .int .i64 k3 ∧ ∃ S2 AA cc, Aside (Below w1.heap.size w1 wr) ∧ wr.cell? ⟨w1.heap.size, 0, none⟩ = some (.int .i64 t.rows.length) ∧ wr.cell? ⟨w1.heap.size, 1, none⟩ = some (.int .i64 S2.2) ∧ wr.cell? ⟨w1.heap.size, 2, none⟩ = some (.slice AA S2.1.length cc) ∧ (∀ i, wr.frozen? ⟨w1.heap.size, i, none⟩ = false) ∧ wr.cell? ⟨w1.heap.size + 1, 0, none⟩ = some (.int .i64 t.head) ∧ wr.cell? ⟨w1.heap.size + 1, 1, none⟩ = some (.int .i64 (t.rows.length - t.foot)) ∧ wr.cell? ⟨w1.heap.size + 1, 2, none⟩ = some (.int .i64 t.rows.length) ∧ w1.heap.size + 1 < wr.heap.size ∧ Aside (wr.ownsRow (w1.heap.size + 2) 43 5 (.slice AA S2.1.length cc) S2.1.length (S2.1.flatMap gcE)) ∧ Aside (GIn (5 * kk + k3) S2) ∧ Aside (Jf 400 t kk (t.rows[kk].cs.drop k3) k3 S2 = Jf 400 t kk t.rows[kk].cs 0 S))
   case atStart =>
    have KB := Zc (Zf wr) (.cells #[.slice A1 t.rows[kk].cs.length n1, .bool t.rows[kk].wh] 84)
    exact ⟨0, Nat.zero_le _, by omega, rfl, S, AA, cc, step BW.out KB, Zo KB g0, Zo KB g1, Zo KB g2, Zeq KB (by omega) gf, Zo KB x0, Zo KB x1, Zo KB x2, by simp; omega, Qx HO.out KB, HI.out, (show Jf 400 t kk (t.rows[kk].cs.drop 0) 0 S = _ from rfl)⟩
   clear c0 f0 g0 g1 g2 gf x0 x1 x2 HO e0 e1
   obtain ⟨k3, hk3, hg3, rfl, S2, A2, n2, BW2, g0, g1, g2, gf, x0, x1, x2, gl2, HO, HI2, HC⟩ := hrel
   obtain ⟨c0, f0, s0''⟩ := Jc w.heap.size s0 BW2.out
   by_cases hlt3 : k3 < t.rows[kk].cs.length
   ·
    have hltz3 : (k3 : Int) < (t.rows[kk].cs.length : Int) := by omega
    obtain ⟨b3, o3, d0, d1, d2, d3, d4, d5, d6, d7, d8, d9, d10, rfl, hblt3, hK3, e0, e1, e2, e3, e4, e5, e6, e7, e8, e9, e10⟩ := hr1.at11 rfl (step HB BW2.out) k3 hlt3
    obtain ⟨hK3, _⟩ := hK3
    simp only [Qv, List.cons.injEq, and_true] at hK3
    obtain ⟨rfl, rfl, rfl, rfl, rfl, rfl, rfl, rfl, rfl, rfl, rfl⟩ := hK3
    have hok3 := Zag (((Zx HOK.out).2.2.2.2.2.2 t.rows[kk] (List.getElem_mem hlt)).2 _ (List.getElem_mem hlt3))
    have HE : ∃ p : Nat, Zgu t kk = p ∧ p < 3 ∧ wr.cell? ⟨w1.heap.size + 1, p, none⟩ = some (.int .i64 (Ja t kk)) := by
     unfold Zgu Ja
     split
     · exact ⟨0, rfl, by omega, x0⟩
     split
     · exact ⟨2, rfl, by omega, x2⟩
     exact ⟨1, rfl, by omega, x1⟩
    obtain ⟨p, hp, hp3, hpe⟩ := HE
    have hP := fun (W : World) => Zp2 t A c (some ⟨b, o, none⟩) c' kk W (by omega) ⟨by omega, by omega⟩
    rw [hp] at hP
    have hpz : (p : Int) < 3 := by omega
    obtain ⟨heb1, heb2⟩ := Ze9 HOK.out hlt
    have hwr := IntWalk.i64_in (Ja t kk - kk) ⟨by omega, by omega⟩
    go_wp2_with fail
    obtain ⟨wz, hwz⟩ : ∃ wz : World, wz = wr.alloc (.cells #[.string t.rows[kk].cs[k3].t, .int .i64 t.rows[kk].cs[k3].c, .int .i64 t.rows[kk].cs[k3].r, .int .i64 t.rows[kk].cs[k3].top.s, .int .i64 t.rows[kk].cs[k3].top.w, .int .i64 t.rows[kk].cs[k3].right.s, .int .i64 t.rows[kk].cs[k3].right.w, .int .i64 t.rows[kk].cs[k3].bot.s, .int .i64 t.rows[kk].cs[k3].bot.w, .int .i64 t.rows[kk].cs[k3].left.s, .int .i64 t.rows[kk].cs[k3].left.w] 105) := ⟨_, rfl⟩
    rw [← hwz]
    have KB : Below wr.heap.size wr wz := hwz ▸ Zc (Zf wr) _
    have z0 : wz.cell? ⟨wr.heap.size, 1, none⟩ = some (.int .i64 t.rows[kk].cs[k3].c) := by rw [hwz]; simp
    have z1 : wz.cell? ⟨wr.heap.size, 2, none⟩ = some (.int .i64 t.rows[kk].cs[k3].r) := by rw [hwz]; simp
    have zz : wz.heap.size = wr.heap.size + 1 := by rw [hwz]; simp
    have hS : ∀ W : World, Below wz.heap.size wz W → Below wz.heap.size wz W ∧ W.cell? ⟨wr.heap.size, 1, none⟩ = some (.int .i64 t.rows[kk].cs[k3].c) ∧ W.cell? ⟨wr.heap.size, 2, none⟩ = some (.int .i64 t.rows[kk].cs[k3].r) ∧
     W.cell? ⟨w.heap.size, 0, none⟩ = some (.slice A t.cols.length c) ∧ W.cell? ⟨w.heap.size, 1, none⟩ = some (.int .i64 t.head) ∧ W.cell? ⟨w.heap.size, 2, none⟩ = some (.int .i64 t.foot) ∧ W.cell? ⟨w.heap.size, 3, none⟩ = some (.slice (some ⟨b, o, none⟩) t.rows.length c') ∧ W.cell? ⟨w.heap.size, 4, none⟩ = some (.int .i64 t.gap) ∧
     W.cell? ⟨w1.heap.size + 1, p, none⟩ = some (.int .i64 (Ja t kk)) := fun W hB => by
     refine ⟨hB, Zo hB z0, Zo hB z1, Zo hB (Zo KB (Zo BW2.out t0)), Zo hB (Zo KB (Zo BW2.out t1)), Zo hB (Zo KB (Zo BW2.out t2)), Zo hB (Zo KB (Zo BW2.out t3)), Zo hB (Zo KB (Zo BW2.out t4)), Zo hB (Zo KB hpe)⟩
    have HSS := Za hS
    have HG := Za (And.intro g0 (And.intro g1 (And.intro g2 (And.intro gf (And.intro x0 (And.intro x1 x2))))))
    have ZZ := Za zz
    clear hwz zz hS z0 z1 e0 e1 e2 e3 e4 e5 e6 e7 e8 e9 e10 g0 g1 g2 gf x0 x1 x2 hpe c0 f0 t0 t1 t2 t3 t4 u0 u1 u2 u3 hmax
    go_region_held3 (fun W => Below wz.heap.size wz W ∧ W.cell? ⟨wr.heap.size, 1, none⟩ = some (.int .i64 t.rows[kk].cs[k3].c) ∧ W.cell? ⟨wr.heap.size, 2, none⟩ = some (.int .i64 t.rows[kk].cs[k3].r) ∧ W.cell? ⟨w.heap.size, 0, none⟩ = some (.slice A t.cols.length c) ∧ W.cell? ⟨w.heap.size, 1, none⟩ = some (.int .i64 t.head) ∧ W.cell? ⟨w.heap.size, 2, none⟩ = some (.int .i64 t.foot) ∧ W.cell? ⟨w.heap.size, 3, none⟩ = some (.slice (some ⟨b, o, none⟩) t.rows.length c') ∧ W.cell? ⟨w.heap.size, 4, none⟩ = some (.int .i64 t.gap) ∧ W.cell? ⟨w1.heap.size + 1, p, none⟩ = some (.int .i64 (Ja t kk))) (first | assumption | (refine HSS.out _ ?_; (repeat' (with_reducible first | exact Zf _ | refine Zt ?_ | refine Zc ?_ _ | refine Yi ?_ ?_ _)) <;> first | (simp; done) | (simp; omega))) (first | (go_at_call 87; refine (hP _).mono ?_; rintro e w7 ⟨rfl, rfl⟩))
    iterate 2
     rotate_left
    ·
     refine Zhy ?_
     intro wy hwy
     obtain ⟨C, hC⟩ : ∃ C, C = wz.heap.size := ⟨_, rfl⟩
     have YF : wy.cell? ⟨C, 0, none⟩ = some (.int .i64 kk) ∧ wy.cell? ⟨C, 1, none⟩ = some (.int .i64 0) ∧ wy.cell? ⟨C, 2, none⟩ = some (.int .i64 (min t.rows[kk].cs[k3].r (Ja t kk - kk))) ∧ wy.cell? ⟨C, 3, none⟩ = some (.int .i64 t.rows[kk].cs[k3].c) ∧ wy.cell? ⟨C, 4, none⟩ = some (.int .i64 k3) ∧ (∀ i, wy.frozen? ⟨C, i, none⟩ = false) ∧ Below wz.heap.size wz wy ∧ wz.heap.size ≤ C ∧ C < wy.heap.size := by
      subst hC; subst hwy
      refine ⟨by simp, by simp, by simp [hwr], by simp, by simp, fun i => by simp, Zt (Zc (Zc (Zf _) _) _), by omega, by first | (simp; done) | (simp; omega)⟩
     try rw [← hC]
     clear hC hwy
     obtain ⟨y0, y1, y2, y3, y4, yf, KY, hC1, hC2⟩ := YF
     have CE : Jp t kk k3 t.rows[kk].cs[k3] = ⟨kk, 0, min t.rows[kk].cs[k3].r (Ja t kk - kk), t.rows[kk].cs[k3].c, k3⟩ := rfl
     have CM : Jf 400 t kk (t.rows[kk].cs.drop (k3 + 1)) (k3 + 1) (Zai 400 t kk k3 t.rows[kk].cs[k3] S2) = Jf 400 t kk t.rows[kk].cs 0 S := by
      rw [← HC.out, List.drop_eq_getElem_cons hlt3, Jf]
     have CF := Za CE
     have CMH := Za CM
     clear CE CM
     obtain ⟨g0, g1, g2, gf, x0, x1, x2⟩ := HG.out
     have hwz0 : ∀ {W : World}, Below wz.heap.size wz W → Below wr.heap.size wr W := fun h => step KB h
     obtain ⟨WQ, hWQ⟩ : ∃ WQ : World, WQ = wr := ⟨_, rfl⟩
     have hin := HI2.out
     have HTP : Hid (∀ b, (Value.slice A2 S2.1.length n2).ownBlock = some b → w1.heap.size + 2 ≤ b ∧ b < wz.heap.size) := fun b hb => ⟨(Qo HO.out hb).1, by have := (Qo HO.out hb).2; have := ZZ.out; omega⟩
     have heg : ∀ args w, (callFunc 89 args).run Tryz.prog w = .ok (.enter 89 args) w := enters_of Tryz.func89 (by kernel_rfl) rfl
     have hmf := @Zhu Tryz.prog
     go_wp2_with fail
     go_loopg [] 400 (fun gg wv => ∃ q : Nat, q ≤ 400 ∧ 400 - q ≤ gg ∧ wv.cell? ⟨C, 0, none⟩ = some (.int .i64 kk) ∧ wv.cell? ⟨C, 1, none⟩ = some (.int .i64 q) ∧ wv.cell? ⟨C, 2, none⟩ = some (.int .i64 (min t.rows[kk].cs[k3].r (Ja t kk - kk))) ∧ wv.cell? ⟨C, 3, none⟩ = some (.int .i64 t.rows[kk].cs[k3].c) ∧ wv.cell? ⟨C, 4, none⟩ = some (.int .i64 k3) ∧ (∀ i, wv.frozen? ⟨C, i, none⟩ = false) ∧ Aside (Below wz.heap.size wz wv) ∧ C < wv.heap.size ∧ Aside (Zv S2.1 (Jp t kk k3 t.rows[kk].cs[k3]) (400 - q) q = Zv S2.1 (Jp t kk k3 t.rows[kk].cs[k3]) 400 0))
     case atStart => exact ⟨0, by omega, by omega, y0, y1, y2, y3, y4, yf, KY, hC2, (show Aside _ from rfl)⟩
     case round =>
      obtain ⟨q, hq4, hgq, y0, y1, y2, y3, y4, yf, KV, hC2, HF⟩ := hrel
      have KW := Za (hwz0 KV.out)
      have HOv := Qx HO.out (KW.out)
      have g0 := Zo (KW.out) g0
      have g1 := Zo (KW.out) g1
      have g2 := Zo (KW.out) g2
      have hrd : Rd gcR wr A2 S2.1 := by
       obtain ⟨Ao, co, eo, _, ro⟩ := Zdz (enc := gcE) (hk := fun _ => rfl) HOv
       injection eo with e1 _ _
       rw [e1]
       exact Zh1 (d := Zg9 5 gcE (fun _ => rfl)) (d' := gcR) rfl (fun a ha cs h => ⟨h, hin.sm (by omega) a ha⟩) ro
      have hany := Zg5 gcR rfl (Yj ⟨kk, q, min t.rows[kk].cs[k3].r (Ja t kk - kk), t.rows[kk].cs[k3].c, k3⟩) 89 (.agg #[.int .i64 kk, .int .i64 q, .int .i64 (min t.rows[kk].cs[k3].r (Ja t kk - kk)), .int .i64 t.rows[kk].cs[k3].c, .int .i64 k3]) heg A2 n2 S2.1 wr (Zir _ wr ⟨⟨by show (-1000000 : Int) ≤ (kk : Int); omega, by show (kk : Int) ≤ 1000000; omega⟩, ⟨by show (-1000000 : Int) ≤ (q : Int); omega, by show (q : Int) ≤ 1000000; omega⟩, ⟨by show (-1000000 : Int) ≤ min _ _; omega, by show min _ _ ≤ (1000000 : Int); omega⟩, ⟨by show (-1000000 : Int) ≤ t.rows[kk].cs[k3].c; omega, by show t.rows[kk].cs[k3].c ≤ (1000000 : Int); omega⟩, ⟨by show (-1000000 : Int) ≤ (k3 : Int); omega, by show (k3 : Int) ≤ 1000000; omega⟩⟩) hrd
      have hblk := hin.blocked (Jp t kk k3 t.rows[kk].cs[k3]) q
      rw [CF.out] at hblk HF
      have HBK := Za hblk
      clear hblk hrd
      cases hqb : S2.1.any (Yj ⟨kk, q, min t.rows[kk].cs[k3].r (Ja t kk - kk), t.rows[kk].cs[k3].c, k3⟩) with
      | true =>
       rw [hqb] at hany
       have hq2 := HBK.out hqb
       have HQ := Za hqb; clear hqb
       have HFH := HF
       clear HF
       go_wp2_with fail
       refine hany.mono ?_
       rintro e w' ⟨rfl, hb'⟩
       have y0 := Zo hb' y0
       have y1 := Zo hb' y1
       have y2 := Zo hb' y2
       have y3 := Zo hb' y3
       have y4 := Zo hb' y4
       have yf := Zeq hb' hC2 yf
       have hC2 := Nat.lt_of_lt_of_le hC2 hb'.size
       go_wp2_with fail
       go_roundg (400 - (q + 1))
       case measure => omega
       refine ⟨q + 1, by omega, by omega, Zaa y0 (by simp), (by have := Zii (v := .int .i64 ((q : Int) + 1)) y1; simpa using this), Zaa y2 (by simp), Zaa y3 (by simp), Zaa y4 (by simp), Zi6 yf, Yi (step KV.out hb') hC1 _, by simpa using hC2, (show Aside _ from ?_)⟩
       have h1 := HFH.out
       rw [show 400 - q = (400 - (q + 1)) + 1 by omega, Zoh (c := ⟨kk, 0, min t.rows[kk].cs[k3].r (Ja t kk - kk), t.rows[kk].cs[k3].c, k3⟩) HQ.out] at h1
       rw [CF.out]; exact h1
      | false =>
       rw [hqb] at hany
       have HK : Hid (Zv S2.1 (Jp t kk k3 t.rows[kk].cs[k3]) 400 0 = q) := by
        have h1 := HF.out
        rw [Zl3 (c := ⟨kk, 0, min t.rows[kk].cs[k3].r (Ja t kk - kk), t.rows[kk].cs[k3].c, k3⟩) hqb] at h1
        show Zv _ (Jp t kk k3 t.rows[kk].cs[k3]) _ _ = _
        rw [CF.out]; exact h1.symm
       have HQ := Za hqb; clear hqb HF
       go_wp2_with fail
       refine hany.mono ?_
       rintro e w' ⟨rfl, hb'⟩
       have y0 := Zo hb' y0
       have y1 := Zo hb' y1
       have y2 := Zo hb' y2
       have y3 := Zo hb' y3
       have y4 := Zo hb' y4
       have hC2 := Nat.lt_of_lt_of_le hC2 hb'.size
       have g0 := Zo hb' g0
       have g1 := Zo hb' g1
       have g2 := Zo hb' g2
       have HOw := Qx HOv hb'
       have gf := Zeq (step KW.out hb') (by omega) gf
       have x0 := Zo (step KW.out hb') x0
       have x1 := Zo (step KW.out hb') x1
       have x2 := Zo (step KW.out hb') x2
       have BWw := step BW2.out (step KW.out hb')
       have hTop' : ∀ b, b = w1.heap.size ∨ b = w1.heap.size + 1 ∨ wz.heap.size ≤ b → (Value.slice A2 S2.1.length n2).ownBlock ≠ some b := fun b hb e => by
        have h1 := HTP.out b e
        omega
       have hGl : w1.heap.size + 1 < w'.heap.size := by have := (step KW.out hb').size; omega
       clear hany HOv KW hb'
       obtain ⟨i0, hi, hz0, hz1, hz2⟩ := info_parts Zqv
       go_wp2_with (at_builtin; refine wpList_append_own _ rfl _ _ 37 rfl (w1.heap.size + 2) 43 i0 _ 5 40 Zur hi hz0 hz1 hz2 rfl (by decide) _ _ _ rfl (HOw.alloc _) ⟨w'.heap.size, 0, none⟩ 1 1 [.int .i64 kk, .int .i64 q, .int .i64 (min t.rows[kk].cs[k3].r (Ja t kk - kk)), .int .i64 t.rows[kk].cs[k3].c, .int .i64 k3] rfl rfl (Zq3 (Zj _ _ _ _ _ _ rfl) (Zj _ _ _ _ _ _ rfl) (Zj _ _ _ _ _ _ rfl) (Zj _ _ _ _ _ _ rfl) (Zj _ _ _ _ _ _ rfl)) (Zql _ _ _ _ _ _) (by have := hin.1; unfold maxLen; omega) (by have := hin.1; omega) (by simp; omega) ?_)
       intro v' w2 HO2 hgr _
       have AK := fun b h1 h2 => Zg8 hgr b h1 h2
       have BW3 := Zfy BWw HOw (by omega) hgr
       have HO3 := Zg4 HK.out HO2
       obtain ⟨E1, E2⟩ := Zdv HK.out
       have HRB := Zc2 HOK.out hlt k3 _ hok3.2
       have HI3 := hin.step 400 t kk k3 t.rows[kk].cs[k3] (by omega) (by omega) hok3.1 ⟨by omega, by omega⟩
       obtain ⟨S3, hS3⟩ : ∃ S3, S3 = Zai 400 t kk k3 t.rows[kk].cs[k3] S2 := ⟨_, rfl⟩
       have CMH3 := CMH.out
       rw [← hS3] at HO3 HI3 E2 CMH3
       clear E1 HRB hS3 HO2 CMH
       obtain ⟨A3, n3, rfl⟩ := Zbc HO3
       have HC3 := Za CMH3
       have HE2 := Za E2
       obtain ⟨a0, af, al⟩ := AK w1.heap.size (by omega) (hTop' _ (.inl rfl))
       obtain ⟨b0, bf, bl⟩ := AK (w1.heap.size + 1) (by omega) (hTop' _ (.inr (.inl rfl)))
       obtain ⟨d0, df, dl⟩ := AK C hC2 (hTop' C (.inr (.inr hC1)))
       have g0 := (a0 0).trans g0
       have g1 := (a0 1).trans g1
       have g2 := (a0 2).trans g2
       have gf : ∀ i, w2.frozen? ⟨w1.heap.size, i, none⟩ = false := fun i => (af i).trans (gf i)
       have x0 := (b0 0).trans x0
       have x1 := (b0 1).trans x1
       have x2 := (b0 2).trans x2
       have y1 := (d0 1).trans y1
       have y3 := (d0 3).trans y3
       clear AK a0 af b0 bf d0 df CMH3 E2 hgr BWw HOw hTop'
       obtain ⟨_, hin3, hin4⟩ := hin
       obtain ⟨hin5, hin6⟩ := hin4
       obtain ⟨⟨hok4, hok5⟩, hok6, hok7⟩ := hok3
       have hmax := Zdc
       go_wp2_with fail
       go_roundg (t.rows[kk].cs.length - (k3 + 1))
       case measure => omega
       refine ⟨k3 + 1, by omega, by omega, by go_num, S3, A3, n3, Yi (Yi BW3 (Nat.le_refl _) _) (Nat.le_refl _) _, Zaa (Zaa g0 (by simp)) (by simp), ?_, Zaa (Zii g2) (by simp), Zi6 (Zi6 gf), Zaa (Zaa x0 (by simp)) (by simp), Zaa (Zaa x1 (by simp)) (by simp), Zaa (Zaa x2 (by simp)) (by simp), by simpa using bl,
        Za9 (Za9 HO3 (show w1.heap.size < w1.heap.size + 2 by omega) _) (show w1.heap.size < w1.heap.size + 2 by omega) _, HI3, HC3.out⟩
       rw [HE2.out]
       exact Zii (Zaa g1 (by simp))
    all_goals
     refine Zhy ?_
     intro wy hwy
     obtain ⟨C, hC⟩ : ∃ C, C = wz.heap.size + 1 := ⟨_, rfl⟩
     have YF : wy.cell? ⟨C, 0, none⟩ = some (.int .i64 kk) ∧ wy.cell? ⟨C, 1, none⟩ = some (.int .i64 0) ∧ wy.cell? ⟨C, 2, none⟩ = some (.int .i64 (min t.rows[kk].cs[k3].r (Ja t kk - kk))) ∧ wy.cell? ⟨C, 3, none⟩ = some (.int .i64 t.rows[kk].cs[k3].c) ∧ wy.cell? ⟨C, 4, none⟩ = some (.int .i64 k3) ∧ (∀ i, wy.frozen? ⟨C, i, none⟩ = false) ∧ Below wz.heap.size wz wy ∧ wz.heap.size ≤ C ∧ C < wy.heap.size := by
      subst hC; subst hwy
      refine ⟨by simp, by simp, by simp [hwr], by simp, by simp, fun i => by simp, Zt (Zc (Zc (Zf _) _) _), by omega, by first | (simp; done) | (simp; omega)⟩
     try rw [← hC]
     clear hC hwy
     obtain ⟨y0, y1, y2, y3, y4, yf, KY, hC1, hC2⟩ := YF
     have CE : Jp t kk k3 t.rows[kk].cs[k3] = ⟨kk, 0, min t.rows[kk].cs[k3].r (Ja t kk - kk), t.rows[kk].cs[k3].c, k3⟩ := rfl
     have CM : Jf 400 t kk (t.rows[kk].cs.drop (k3 + 1)) (k3 + 1) (Zai 400 t kk k3 t.rows[kk].cs[k3] S2) = Jf 400 t kk t.rows[kk].cs 0 S := by
      rw [← HC.out, List.drop_eq_getElem_cons hlt3, Jf]
     have CF := Za CE
     have CMH := Za CM
     clear CE CM
     obtain ⟨g0, g1, g2, gf, x0, x1, x2⟩ := HG.out
     have hwz0 : ∀ {W : World}, Below wz.heap.size wz W → Below wr.heap.size wr W := fun h => step KB h
     obtain ⟨WQ, hWQ⟩ : ∃ WQ : World, WQ = wr := ⟨_, rfl⟩
     have hin := HI2.out
     have HTP : Hid (∀ b, (Value.slice A2 S2.1.length n2).ownBlock = some b → w1.heap.size + 2 ≤ b ∧ b < wz.heap.size) := fun b hb => ⟨(Qo HO.out hb).1, by have := (Qo HO.out hb).2; have := ZZ.out; omega⟩
     have heg : ∀ args w, (callFunc 89 args).run Tryz.prog w = .ok (.enter 89 args) w := enters_of Tryz.func89 (by kernel_rfl) rfl
     have hmf := @Zhu Tryz.prog
     go_wp2_with fail
     go_loopg [] 400 (fun gg wv => ∃ q : Nat, q ≤ 400 ∧ 400 - q ≤ gg ∧ wv.cell? ⟨C, 0, none⟩ = some (.int .i64 kk) ∧ wv.cell? ⟨C, 1, none⟩ = some (.int .i64 q) ∧ wv.cell? ⟨C, 2, none⟩ = some (.int .i64 (min t.rows[kk].cs[k3].r (Ja t kk - kk))) ∧ wv.cell? ⟨C, 3, none⟩ = some (.int .i64 t.rows[kk].cs[k3].c) ∧ wv.cell? ⟨C, 4, none⟩ = some (.int .i64 k3) ∧ (∀ i, wv.frozen? ⟨C, i, none⟩ = false) ∧ Aside (Below wz.heap.size wz wv) ∧ C < wv.heap.size ∧ Aside (Zv S2.1 (Jp t kk k3 t.rows[kk].cs[k3]) (400 - q) q = Zv S2.1 (Jp t kk k3 t.rows[kk].cs[k3]) 400 0))
     case atStart => exact ⟨0, by omega, by omega, y0, y1, y2, y3, y4, yf, KY, hC2, (show Aside _ from rfl)⟩
     case round =>
      obtain ⟨q, hq4, hgq, y0, y1, y2, y3, y4, yf, KV, hC2, HF⟩ := hrel
      have KW := Za (hwz0 KV.out)
      have HOv := Qx HO.out (KW.out)
      have g0 := Zo (KW.out) g0
      have g1 := Zo (KW.out) g1
      have g2 := Zo (KW.out) g2
      have hrd : Rd gcR wr A2 S2.1 := by
       obtain ⟨Ao, co, eo, _, ro⟩ := Zdz (enc := gcE) (hk := fun _ => rfl) HOv
       injection eo with e1 _ _
       rw [e1]
       exact Zh1 (d := Zg9 5 gcE (fun _ => rfl)) (d' := gcR) rfl (fun a ha cs h => ⟨h, hin.sm (by omega) a ha⟩) ro
      have hany := Zg5 gcR rfl (Yj ⟨kk, q, min t.rows[kk].cs[k3].r (Ja t kk - kk), t.rows[kk].cs[k3].c, k3⟩) 89 (.agg #[.int .i64 kk, .int .i64 q, .int .i64 (min t.rows[kk].cs[k3].r (Ja t kk - kk)), .int .i64 t.rows[kk].cs[k3].c, .int .i64 k3]) heg A2 n2 S2.1 wr (Zir _ wr ⟨⟨by show (-1000000 : Int) ≤ (kk : Int); omega, by show (kk : Int) ≤ 1000000; omega⟩, ⟨by show (-1000000 : Int) ≤ (q : Int); omega, by show (q : Int) ≤ 1000000; omega⟩, ⟨by show (-1000000 : Int) ≤ min _ _; omega, by show min _ _ ≤ (1000000 : Int); omega⟩, ⟨by show (-1000000 : Int) ≤ t.rows[kk].cs[k3].c; omega, by show t.rows[kk].cs[k3].c ≤ (1000000 : Int); omega⟩, ⟨by show (-1000000 : Int) ≤ (k3 : Int); omega, by show (k3 : Int) ≤ 1000000; omega⟩⟩) hrd
      have hblk := hin.blocked (Jp t kk k3 t.rows[kk].cs[k3]) q
      rw [CF.out] at hblk HF
      have HBK := Za hblk
      clear hblk hrd
      cases hqb : S2.1.any (Yj ⟨kk, q, min t.rows[kk].cs[k3].r (Ja t kk - kk), t.rows[kk].cs[k3].c, k3⟩) with
      | true =>
       rw [hqb] at hany
       have hq2 := HBK.out hqb
       have HQ := Za hqb; clear hqb
       have HFH := HF
       clear HF
       go_wp2_with fail
       refine hany.mono ?_
       rintro e w' ⟨rfl, hb'⟩
       have y0 := Zo hb' y0
       have y1 := Zo hb' y1
       have y2 := Zo hb' y2
       have y3 := Zo hb' y3
       have y4 := Zo hb' y4
       have yf := Zeq hb' hC2 yf
       have hC2 := Nat.lt_of_lt_of_le hC2 hb'.size
       go_wp2_with fail
       go_roundg (400 - (q + 1))
       case measure => omega
       refine ⟨q + 1, by omega, by omega, Zaa y0 (by simp), (by have := Zii (v := .int .i64 ((q : Int) + 1)) y1; simpa using this), Zaa y2 (by simp), Zaa y3 (by simp), Zaa y4 (by simp), Zi6 yf, Yi (step KV.out hb') hC1 _, by simpa using hC2, (show Aside _ from ?_)⟩
       have h1 := HFH.out
       rw [show 400 - q = (400 - (q + 1)) + 1 by omega, Zoh (c := ⟨kk, 0, min t.rows[kk].cs[k3].r (Ja t kk - kk), t.rows[kk].cs[k3].c, k3⟩) HQ.out] at h1
       rw [CF.out]; exact h1
      | false =>
       rw [hqb] at hany
       have HK : Hid (Zv S2.1 (Jp t kk k3 t.rows[kk].cs[k3]) 400 0 = q) := by
        have h1 := HF.out
        rw [Zl3 (c := ⟨kk, 0, min t.rows[kk].cs[k3].r (Ja t kk - kk), t.rows[kk].cs[k3].c, k3⟩) hqb] at h1
        show Zv _ (Jp t kk k3 t.rows[kk].cs[k3]) _ _ = _
        rw [CF.out]; exact h1.symm
       have HQ := Za hqb; clear hqb HF
       go_wp2_with fail
       refine hany.mono ?_
       rintro e w' ⟨rfl, hb'⟩
       have y0 := Zo hb' y0
       have y1 := Zo hb' y1
       have y2 := Zo hb' y2
       have y3 := Zo hb' y3
       have y4 := Zo hb' y4
       have hC2 := Nat.lt_of_lt_of_le hC2 hb'.size
       have g0 := Zo hb' g0
       have g1 := Zo hb' g1
       have g2 := Zo hb' g2
       have HOw := Qx HOv hb'
       have gf := Zeq (step KW.out hb') (by omega) gf
       have x0 := Zo (step KW.out hb') x0
       have x1 := Zo (step KW.out hb') x1
       have x2 := Zo (step KW.out hb') x2
       have BWw := step BW2.out (step KW.out hb')
       have hTop' : ∀ b, b = w1.heap.size ∨ b = w1.heap.size + 1 ∨ wz.heap.size ≤ b → (Value.slice A2 S2.1.length n2).ownBlock ≠ some b := fun b hb e => by
        have h1 := HTP.out b e
        omega
       have hGl : w1.heap.size + 1 < w'.heap.size := by have := (step KW.out hb').size; omega
       clear hany HOv KW hb'
       obtain ⟨i0, hi, hz0, hz1, hz2⟩ := info_parts Zqv
       go_wp2_with (at_builtin; refine wpList_append_own _ rfl _ _ 37 rfl (w1.heap.size + 2) 43 i0 _ 5 40 Zur hi hz0 hz1 hz2 rfl (by decide) _ _ _ rfl (HOw.alloc _) ⟨w'.heap.size, 0, none⟩ 1 1 [.int .i64 kk, .int .i64 q, .int .i64 (min t.rows[kk].cs[k3].r (Ja t kk - kk)), .int .i64 t.rows[kk].cs[k3].c, .int .i64 k3] rfl rfl (Zq3 (Zj _ _ _ _ _ _ rfl) (Zj _ _ _ _ _ _ rfl) (Zj _ _ _ _ _ _ rfl) (Zj _ _ _ _ _ _ rfl) (Zj _ _ _ _ _ _ rfl)) (Zql _ _ _ _ _ _) (by have := hin.1; unfold maxLen; omega) (by have := hin.1; omega) (by simp; omega) ?_)
       intro v' w2 HO2 hgr _
       have AK := fun b h1 h2 => Zg8 hgr b h1 h2
       have BW3 := Zfy BWw HOw (by omega) hgr
       have HO3 := Zg4 HK.out HO2
       obtain ⟨E1, E2⟩ := Zdv HK.out
       have HRB := Zc2 HOK.out hlt k3 _ hok3.2
       have HI3 := hin.step 400 t kk k3 t.rows[kk].cs[k3] (by omega) (by omega) hok3.1 ⟨by omega, by omega⟩
       obtain ⟨S3, hS3⟩ : ∃ S3, S3 = Zai 400 t kk k3 t.rows[kk].cs[k3] S2 := ⟨_, rfl⟩
       have CMH3 := CMH.out
       rw [← hS3] at HO3 HI3 E2 CMH3
       clear E1 HRB hS3 HO2 CMH
       obtain ⟨A3, n3, rfl⟩ := Zbc HO3
       have HC3 := Za CMH3
       have HE2 := Za E2
       obtain ⟨a0, af, al⟩ := AK w1.heap.size (by omega) (hTop' _ (.inl rfl))
       obtain ⟨b0, bf, bl⟩ := AK (w1.heap.size + 1) (by omega) (hTop' _ (.inr (.inl rfl)))
       obtain ⟨d0, df, dl⟩ := AK C hC2 (hTop' C (.inr (.inr hC1)))
       have g0 := (a0 0).trans g0
       have g1 := (a0 1).trans g1
       have g2 := (a0 2).trans g2
       have gf : ∀ i, w2.frozen? ⟨w1.heap.size, i, none⟩ = false := fun i => (af i).trans (gf i)
       have x0 := (b0 0).trans x0
       have x1 := (b0 1).trans x1
       have x2 := (b0 2).trans x2
       have y1 := (d0 1).trans y1
       have y3 := (d0 3).trans y3
       clear AK a0 af b0 bf d0 df CMH3 E2 hgr BWw HOw hTop'
       obtain ⟨_, hin3, hin4⟩ := hin
       obtain ⟨hin5, hin6⟩ := hin4
       obtain ⟨⟨hok4, hok5⟩, hok6, hok7⟩ := hok3
       have hmax := Zdc
       go_wp2_with fail
       go_roundg (t.rows[kk].cs.length - (k3 + 1))
       case measure => omega
       refine ⟨k3 + 1, by omega, by omega, by go_num, S3, A3, n3, Yi (Yi BW3 (Nat.le_refl _) _) (Nat.le_refl _) _, Zaa (Zaa g0 (by simp)) (by simp), ?_, Zaa (Zii g2) (by simp), Zi6 (Zi6 gf), Zaa (Zaa x0 (by simp)) (by simp), Zaa (Zaa x1 (by simp)) (by simp), Zaa (Zaa x2 (by simp)) (by simp), by simpa using bl,
        Za9 (Za9 HO3 (show w1.heap.size < w1.heap.size + 2 by omega) _) (show w1.heap.size < w1.heap.size + 2 by omega) _, HI3, HC3.out⟩
       rw [HE2.out]
       exact Zii (Zaa g1 (by simp))
   have hltz3 : ¬ (k3 : Int) < (t.rows[kk].cs.length : Int) := by omega
   have hk3e : k3 = t.rows[kk].cs.length := by omega
   have HS3 : Hid (Yy 400 t (t.rows.drop (kk + 1)) (kk + 1) S2 = Zp 400 t) := by
    have h1 := HC.out
    rw [hk3e, List.drop_length] at h1
    have h2 := HS2.out
    rw [← h1] at h2
    exact h2
   clear hk3e
   go_wp2_with fail
   go_roundg (t.rows.length - (kk + 1))
   case measure => omega
   case rel => exact ⟨kk + 1, by omega, by omega, by go_num, S2, A2, n2, BW2.out, g0, g1, g2, gf, x0, x1, x2, gl2, HO.out, HI2.out.le (by omega), HS3.out⟩
  have hltz : ¬ (kk : Int) < (t.rows.length : Int) := by omega
  have HSE : Hid (S = Zp 400 t) := by
   have h1 := HS.out
   rw [show kk = t.rows.length by omega, List.drop_length] at h1
   exact h1
  have u0 := Zo BW.out u0
  have u1 := Zo BW.out u1
  have u2 := Zo BW.out u2
  have hu1 : w.heap.size + 1 < w1.heap.size := s1
  have u3 := Zeq BW.out hu1 u3
  clear t0 t1 t2 t3 t4 x0 x1 x2 hmax
  go_wp2_with fail
  refine bodyPost_ret (v := .agg #[.int .i64 t.rows.length, .int .i64 S.2, .slice AA S.1.length cc]) (by simp [results, Tryz.results28, go_sem, *]) rfl ?_
  have h1 := HSE.out
  rw [← h1]
  have hlt1 : w.heap.size + 1 < w1.heap.size + 2 := by omega
  exact ⟨AA, cc, rfl, Jw (Za9 (Za9 (Za9 HO.out hlt1 _) hlt1 _) hlt1 _) (by omega), Yi (Yi (Yi (step HB BW.out) (Nat.le_succ _) _) (Nat.le_succ _) _) (Nat.le_succ _) _⟩
end Go.Proofs.YtgdmcmicfoamlaaGreatDoor
