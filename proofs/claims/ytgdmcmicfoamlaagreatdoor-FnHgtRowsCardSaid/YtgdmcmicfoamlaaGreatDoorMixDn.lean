import Derived.Test.YtgdmcmicfoamlaaGreatDoorMixDm
set_option linter.unusedVariables false
set_option linter.unusedSimpArgs false
set_option maxHeartbeats 40000000
set_option maxRecDepth 100000
namespace Go.Proofs.YtgdmcmicfoamlaaGreatDoor
open Go.RowKit
theorem Zut (w W1 : World) (R N : Nat) (t : Tbl) (Ac : Option Addr) (kc : Nat) (Ar : Option Addr) (kr : Nat) (T0 : TypeId) (hRl : R < w.heap.size) (hR : Qh W1 R N)
 (hg : (w.alloc (.cells #[.slice none 0 0, .int .i64 0, .int .i64 0, .slice none 0 0, .int .i64 0] T0)).grownBy W1 (some R))
 (hO : Ju W1 (w.alloc (.cells #[.slice none 0 0, .int .i64 0, .int .i64 0, .slice none 0 0, .int .i64 0] T0)).heap.size (.slice Ac t.cols.length kc) (.slice Ar t.rows.length kr) t) :
 ASt w (W1.alloc (.cells #[.slice Ac t.cols.length kc, .int .i64 t.head, .int .i64 t.foot, .slice Ar t.rows.length kr, .int .i64 t.gap] 26)) R N w.heap.size W1.heap.size (.slice Ac t.cols.length kc) (.slice Ar t.rows.length kr) t := by
 have hs : w.heap.size < W1.heap.size := by have := hg.size; simp at this; omega
 have hb := Zc (Zf W1) (.cells #[.slice Ac t.cols.length kc, .int .i64 t.head, .int .i64 t.foot, .slice Ar t.rows.length kr, .int .i64 t.gap] 26)
 refine ⟨hR.below hb, Zk (Zk (World.grownBy_alloc w _ _) hg) (World.grownBy_alloc W1 _ _), ⟨Nat.le_refl _, hRl, hs, by simp⟩, ((Zh.new w Zec T0).keep (Qm hg (by omega) (by simp))).keep (hb.block _ hs), Zh.new W1 [.slice Ac t.cols.length kc, .int .i64 t.head, .int .i64 t.foot, .slice Ar t.rows.length kr, .int .i64 t.gap] 26, Jn.new _ _ _, ?_⟩
 exact (hO.below hb).base (by simp)
structure Zb2 (t : Tbl) : Prop where
 head : -1 ≤ t.head ∧ t.head ≤ 9
 foot : -1 ≤ t.foot ∧ t.foot ≤ 9
 gap : -1 ≤ t.gap ∧ t.gap ≤ 4
 cols : (∀ x ∈ t.cols, Yo x) ∧ t.cols.length ≤ 8
 rows : 1 ≤ t.rows.length ∧ t.rows.length ≤ 9
 cells : ∃ k : Nat, ∀ (i : Nat) (h : i < t.rows.length), t.rows[i].cs.length ≤ (if i = k then 5 else 4) ∧ ∀ c ∈ t.rows[i].cs, Zbl c
theorem Zuf {t : Tbl} (h : Zhw t) : 1 ≤ (t.rows.length : Int) ∧ (t.rows.length : Int) ≤ 6 := by have := h.2.2.2.2.2.2.1; omega
theorem Qp {t : Tbl} (h : Zhw t) : Zb2 t := by
 obtain ⟨b1, b2, b3, b4, b5, b6, b7, b8⟩ := h
 exact ⟨⟨b1, b2⟩, ⟨b3, b4⟩, b5, ⟨b6.1, by omega⟩, by omega, 0, fun i hi => ⟨by have := (b8 _ (List.getElem_mem hi)).1; split <;> omega, (b8 _ (List.getElem_mem hi)).2⟩⟩
theorem Zta {t : Tbl} (h : Zhw t) {z : Int} (h1 : -1 ≤ z) (h2 : z ≤ 9) : Zb2 { t with head := z } := ⟨⟨h1, h2⟩, (Qp h).foot, (Qp h).gap, (Qp h).cols, (Qp h).rows, (Qp h).cells⟩
theorem Ztg {t : Tbl} (h : Zhw t) {z : Int} (h1 : -1 ≤ z) (h2 : z ≤ 9) : Zb2 { t with foot := z } := ⟨(Qp h).head, ⟨h1, h2⟩, (Qp h).gap, (Qp h).cols, (Qp h).rows, (Qp h).cells⟩
theorem Zuh {t : Tbl} (h : Zhw t) {z : Int} (h1 : -1 ≤ z) (h2 : z ≤ 4) : Zb2 { t with gap := z } := ⟨(Qp h).head, (Qp h).foot, ⟨h1, h2⟩, (Qp h).cols, (Qp h).rows, (Qp h).cells⟩
theorem Zt5 {t : Tbl} (h : Zhw t) {x : Yq} (hx : Yo x) : Zb2 { t with cols := t.cols ++ [x] } :=
 ⟨(Qp h).head, (Qp h).foot, (Qp h).gap, ⟨fun y hy => (by
   rcases List.mem_append.1 hy with hy | hy
   · exact h.2.2.2.2.2.1.1 y hy
   rw [List.mem_singleton.1 hy]; exact hx), by have := h.2.2.2.2.2.1.2; simp; omega⟩, (Qp h).rows, (Qp h).cells⟩
theorem Zss {t : Tbl} (h : Zhw t) {j : Nat} (hj : j < t.rows.length) {c : Qi} (hc : Zbl c) : Zb2 { t with rows := t.rows.set j ⟨t.rows[j].cs ++ [c], t.rows[j].wh⟩ } := by
 refine ⟨(Qp h).head, (Qp h).foot, (Qp h).gap, (Qp h).cols, by simpa using (Qp h).rows, j, fun i hi => ?_⟩
 have hi' : i < t.rows.length := by simpa using hi
 have hr := h.2.2.2.2.2.2.2 _ (List.getElem_mem hi')
 by_cases e : j = i
 ·
  subst e
  simp only [List.getElem_set_self, if_true]
  refine ⟨by have := hr.1; simp; omega, fun y hy => ?_⟩
  rcases List.mem_append.1 hy with hy | hy
  · exact hr.2 y hy
  rw [List.mem_singleton.1 hy]; exact hc
 simp only [List.getElem_set_ne e, if_neg (Ne.symm e)]
 exact hr
theorem Ztr {t : Tbl} (h : Zhw t) {m : Nat} (hm : t.rows.length + m ≤ 9) : Zb2 { t with rows := t.rows ++ List.replicate m ⟨[], false⟩ } := by
 refine ⟨(Qp h).head, (Qp h).foot, (Qp h).gap, (Qp h).cols, by have := (Qp h).rows; simp; omega, 0, fun i hi => ?_⟩
 have hr : Zoj (t.rows ++ List.replicate m ⟨[], false⟩)[i] := by
  rcases List.mem_append.1 (List.getElem_mem hi) with hy | hy
  · exact h.2.2.2.2.2.2.2 _ hy
  rw [(List.mem_replicate.1 hy).2]; exact ⟨by decide, fun c hc => by simp at hc⟩
 refine ⟨?_, hr.2⟩
 have h4 : (t.rows ++ List.replicate m ⟨[], false⟩)[i].cs.length ≤ 4 := hr.1
 show (t.rows ++ List.replicate m ⟨[], false⟩)[i].cs.length ≤ _
 split <;> omega
def Zqr (R N : Nat) (w : World) (e : Ending) (w' : World) : Prop :=
 ∃ (t : Tbl) (vc vr : Value), e = .returned (.agg #[vc, .int .i64 t.head, .int .i64 t.foot, vr, .int .i64 t.gap]) ∧ Zb2 t ∧ Qh w' R N ∧ w.grownBy w' (some R) ∧ Ju w' w.heap.size vc vr t
theorem Zds {t : Tbl} {vc vr : Value} {w w' : World} {R N N' : Nat} (h : Qh w' R N ∧ w.grownBy w' (some R) ∧ Ju w' w.heap.size vc vr t) (hN : N ≤ N') (hb : Zb2 t) : Zqr R N' w (.returned (.agg #[vc, .int .i64 t.head, .int .i64 t.foot, vr, .int .i64 t.gap])) w' :=
 ⟨t, vc, vr, rfl, hb, h.1.mono hN, h.2.1, h.2.2⟩
theorem Zvj (w : World) (T : TypeId) : Zha 4 (w.alloc (.cells #[.int .i64 (-1), .int .i64 4] T)) w.heap.size 2 := by
 intro j hj
 match j, hj with
 | 0, _ => exact ⟨-1, by decide, by decide, Zj _ _ _ _ _ _ rfl⟩
 | 1, _ => exact ⟨4, by decide, by decide, Zj _ _ _ _ _ _ rfl⟩
 | j + 2, hj => exact absurd hj (by omega)
def kc9 (R T : Nat) (t : Tbl) (Ar : Option Addr) (kr fld : Nat) : Nat → Kd R
 | 0 => Zbv R (.pointer (some ⟨T, 3, none⟩))
 | 1 => Zbv R (.slice Ar t.rows.length kr)
 | 2 => Zbv R (.int .i64 (t.rows.length : Int))
 | 3 => Zul R 3 (fun z => -1 ≤ z ∧ z ≤ 9)
 | 4 => Zbv R (.pointer (some ⟨R, 0, none⟩))
 | 5 => Zla R (fun z => 0 ≤ z ∧ z < 3)
 | 6 => Zvw R (fun z => -1 ≤ z ∧ z ≤ 9)
 | 7 => Zla R (fun z => -1 ≤ z ∧ z ≤ 9)
 | 8 => Zbv R (.pointer (some ⟨T, fld, none⟩))
 | _ => Zr0 R
def Zwi (R T : Nat) (vc : Value) : Nat → Kd R
 | 0 => Zbv R (.pointer (some ⟨T, 0, none⟩))
 | 1 => Zbv R vc
 | 2 => Zbv R (.pointer (some ⟨R, 0, none⟩))
 | 3 => Zla R (fun z => 0 ≤ z ∧ z < 4)
 | 4 => Zul R 4 (fun z => -1 ≤ z ∧ z ≤ 101)
 | 5 => Zbv R (.pointer (some ⟨R, 0, none⟩))
 | 6 => Zla R (fun z => 0 ≤ z ∧ z < 4)
 | 7 => Zvw R (fun z => -1 ≤ z ∧ z ≤ 101)
 | 8 => Zla R (fun z => -1 ≤ z ∧ z ≤ 101)
 | 9 => Zsr R
 | 10 => Zlt R 1
 | _ => Zr0 R
def Zwk (R T g j : Nat) (t : Tbl) (kr : Nat) (uj : Value) : Nat → Kd R
 | 0 => Zbv R (.pointer (some ⟨T, 3, none⟩))
 | 1 => Zbv R (.slice (some ⟨g, 0, none⟩) t.rows.length kr)
 | 2 => Zbv R (.int .i64 (j : Int))
 | 3 => Zbv R (.pointer (some ⟨T, 3, none⟩))
 | 4 => Zbv R (.slice (some ⟨g, 0, none⟩) t.rows.length kr)
 | 5 => Zbv R (.int .i64 (j : Int))
 | 6 => Zbv R (.pointer (some ⟨g, j * 2, none⟩))
 | 7 => Zbv R (.pointer (some ⟨g, j * 2, none⟩))
 | 8 => Zbv R uj
 | 9 => Zbv R (.pointer (some ⟨R, 0, none⟩))
 | 10 => Zu9 R
 | 11 => Zow R
 | _ => Zr0 R
def Zn8 (lv : Nat → Option Value) (l : Array Bool) (vs : Nat → Value) : Prop := ∀ j u, lv j = some u → l.getD j false = true → vs j = u
theorem Zn8.set {lv : Nat → Option Value} {l : Array Bool} {vs : Nat → Value} (h : Zn8 lv l vs) (i : Nat) (v : Value) (hv : ∀ u, lv i = some u → v = u) : Zn8 lv (l.setIfInBounds i true) (Zd vs i v) := by
 intro j u hu hj
 unfold Zd
 by_cases e : j = i
 · subst e; rw [if_pos rfl]; exact hv u hu
 rw [if_neg e]; rw [getD_set_ne false (Ne.symm e)] at hj; exact h j u hu hj
def Zwm (g j : Nat) (t : Tbl) (kr T : Nat) : Nat → Option Value
 | 0 => some (.pointer (some ⟨T, 3, none⟩))
 | 1 => some (.slice (some ⟨g, 0, none⟩) t.rows.length kr)
 | 2 => some (.int .i64 (j : Int))
 | 13 => some (.pointer (some ⟨g, j * 2, none⟩))
 | 14 => some (.pointer (some ⟨g, j * 2, none⟩))
 | _ => none
theorem Zn7 {W : World} {base g n cap : Nat} {E : TypeId} {us : List Value} {rows : List Jv} (h : W.ownsRow base E 2 (.slice (some ⟨g, 0, none⟩) n cap) rows.length (Qj us rows)) (j : Nat) (hj : j < us.length) (hj' : j < rows.length) : W.cell? ⟨g, j * 2, none⟩ = some us[j] := by
 obtain ⟨_, _, e⟩ := Zbs h
 injection e with _ e2
 subst e2
 have := h.cellAt (j * 2) (by omega)
 rw [(Zcg us rows j hj hj').1] at this
 exact this
theorem Zua {W : World} {base : Nat} {E F : TypeId} {A : Option Addr} {n c : Nat} {rows : List Jv} (h : Qu W base E F (.slice A n c) rows) (hn : 0 < rows.length) : ∃ g us, A = some ⟨g, 0, none⟩ ∧ W.ownsRow base E 2 (.slice (some ⟨g, 0, none⟩) n c) rows.length (Qj us rows) ∧ Zaf W base F us rows := by
 obtain ⟨us, r1, r2, r3⟩ := h
 rcases r1.2 with ⟨_, h0⟩ | ⟨g, cap, cur, e, _⟩
 · omega
 injection e with e1 e2 e3
 subst e1
 exact ⟨g, us, rfl, r1, r2⟩
def Zgm (w : World) (R N H T : Nat) (vc vr : Value) (t : Tbl) (x : Yq) (v' : Value) (W : World) : Prop :=
 ∃ W0, ASt w W0 R N H T vc vr t ∧ W0.grownBy W vc.ownBlock ∧ W.ownsRow (H + 1) 100 2 v' (t.cols.length + 1) (t.cols.flatMap Zes ++ Zes x)
theorem Zgm.blk {w W : World} {R N H T : Nat} {vc vr v' : Value} {t : Tbl} {x : Yq} (h : Zgm w R N H T vc vr t x v' W) : Zh W T (Zd9 vc vr t) := by
 obtain ⟨W0, h1, h2, _⟩ := h
 exact h1.blk.keep (h2.block T h1.typ.lt (fun e => (Jo h1.own.cols e.symm).ne h1.typ (by decide) rfl))
theorem Zgm.form {w W : World} {R N H T : Nat} {vc vr v' : Value} {t : Tbl} {x : Yq} (h : Zgm w R N H T vc vr t x v' W) : ∃ A m c, v' = .slice A m c := by
 obtain ⟨W0, h1, h2, h3⟩ := h
 obtain ⟨A, c, e⟩ := Zbs h3
 exact ⟨A, _, c, e⟩
theorem Zgm.done {w W : World} {R N N' H T : Nat} {vc vr v' : Value} {t : Tbl} {x : Yq} (h : Zgm w R N H T vc vr t x v' W) (hN : N ≤ N') : ASt w (W.setCell ⟨T, 0, none⟩ v') R N' H T v' vr { t with cols := t.cols ++ [x] } := by
 obtain ⟨W0, h1, h2, h3⟩ := h
 exact h1.col hN x h2 h3
def Zbn (w : World) (R N H T : Nat) (vc : Value) (g n cap : Nat) (t : Tbl) (us : List Value) (j : Nat) (hj : j < us.length) (hj' : j < t.rows.length) (c : Qi) (v' : Value) (W : World) : Prop :=
 ∃ W0, ASt w W0 R N H T vc (.slice (some ⟨g, 0, none⟩) n cap) t ∧ W0.ownsRow (H + 1) 84 2 (.slice (some ⟨g, 0, none⟩) n cap) t.rows.length (Qj us t.rows) ∧ Zaf W0 (H + 1) 105 us t.rows ∧ W0.grownBy W us[j].ownBlock ∧
  W.ownsRow (H + 1) 105 11 v' (t.rows[j].cs.length + 1) (t.rows[j].cs.flatMap Qv ++ Qv c) ∧ ∀ b, v'.ownBlock = some b → us[j].ownBlock = some b ∨ W0.heap.size ≤ b
section
variable {w W : World} {R N N' H T g n cap j : Nat} {vc v' : Value} {t : Tbl} {us : List Value} {hj : j < us.length} {hj' : j < t.rows.length} {c : Qi}
theorem Zbn.blk (h : Zbn w R N H T vc g n cap t us j hj hj' c v' W) : Zh W T (Zd9 vc (.slice (some ⟨g, 0, none⟩) n cap) t) := by
 obtain ⟨W0, h1, _, r2, h2, _⟩ := h
 exact h1.blk.keep (h2.block T h1.typ.lt (fun e => (Jo (r2.2.1 j hj hj') e.symm).ne h1.typ (by decide) rfl))
theorem Zbn.rows (h : Zbn w R N H T vc g n cap t us j hj hj' c v' W) : W.ownsRow (H + 1) 84 2 (.slice (some ⟨g, 0, none⟩) n cap) t.rows.length (Qj us t.rows) := by
 obtain ⟨W0, h1, r1, r2, h2, _⟩ := h
 exact Zan r1 h2 (Zcf r1 (r2.2.1 j hj hj') (by decide))
theorem Zbn.cell (h : Zbn w R N H T vc g n cap t us j hj hj' c v' W) : W.cell? ⟨g, j * 2, none⟩ = some us[j] := Zn7 h.rows j hj hj'
theorem Zbn.free (h : Zbn w R N H T vc g n cap t us j hj hj' c v' W) : W.frozen? ⟨g, j * 2, none⟩ = false := by
 have h0 := h.rows
 obtain ⟨_, _, e⟩ := Zbs h0
 injection e with _ e2
 rw [e2] at h0
 exact h0.frozenAt (j * 2)
theorem Zbn.form (h : Zbn w R N H T vc g n cap t us j hj hj' c v' W) : ∃ A m c, v' = .slice A m c := by
 obtain ⟨W0, h1, _, _, _, h3, _⟩ := h
 obtain ⟨A, c, e⟩ := Zbs h3
 exact ⟨A, _, c, e⟩
theorem Zbn.done (h : Zbn w R N H T vc g n cap t us j hj hj' c v' W) (hN : N ≤ N') : ASt w (W.setCell ⟨g, j * 2, none⟩ v') R N' H T vc (.slice (some ⟨g, 0, none⟩) n cap) { t with rows := t.rows.set j ⟨t.rows[j].cs ++ [c], t.rows[j].wh⟩ } := by
 obtain ⟨W0, h1, r1, r2, h2, h3, h4⟩ := h
 exact h1.cell hN r1 r2 hj hj' c h2 h3 h4
end
theorem Zr7 {w W : World} {R N H T : Nat} {vc vr : Value} {t : Tbl} (h : ASt w W R N H T vc vr t) : ASt w W R N H T vc vr { t with rows := t.rows ++ List.replicate 0 ⟨[], false⟩ } := by
 simpa using h
theorem Zs1 {w W : World} {R N H T m : Nat} {vc vr : Value} {t : Tbl} (h : ASt w W R N H T vc vr { t with rows := t.rows ++ List.replicate m ⟨[], false⟩ ++ [⟨[], false⟩] }) : ASt w W R N H T vc vr { t with rows := t.rows ++ List.replicate (m + 1) ⟨[], false⟩ } := by
 rw [List.append_assoc, ← List.replicate_succ'] at h
 exact h
--TRACE
theorem Zp0 (R N : Nat) (n : Int) (w : World) (h : Qh w R N) (hN : N ≤ 400000) (_hn1 : 1 ≤ n) (hn : n ≤ 1000000) :
 Calls Tryz.prog 128 #[.pointer (some ⟨R, 0, none⟩), .int .i64 n] w (Zqr R (N + 2100) w) := by
 have hRl := h.lt
 have HR := Za h
 clear h
 go_enter Tryz.func128, Tryz.ntmps128
 go_wp2_with fail
 refine (Zt0 R N _ (HR.out.below (Zc (Zf w) _)) (by omega)).mono ?_
 rintro e W1 ⟨t, vc, vr, rfl, htb, hR1, hg1, hO1⟩
 obtain ⟨⟨Ac, kc, rfl⟩, Ar, kr, rfl⟩ := hO1.form
 have hs1 : w.heap.size < W1.heap.size := by have := hg1.size; simp at this; omega
 have HT1 := Za (Zut w W1 R (N + 2000) t Ac kc Ar kr 26 hRl hR1 hg1 hO1)
 have HB := Za htb
 clear hR1 hg1 hO1 htb
 go_wp2_with fail
 refine (pick R _ n _ HT1.out.rdr (by omega) hn).mono ?_
 rintro e W2 ⟨q, rfl, hq0, hq1, hR2, hg2⟩
 have HT2 := Za (HT1.out.pick hR2 hg2)
 clear hq1 hR2 hg2 HT1
 by_cases z : q = 0
 ·
  subst z
  have c0 := HT2.out.blk.1 0 _ rfl
  have c1 := HT2.out.blk.1 1 _ rfl
  have c2 := HT2.out.blk.1 2 _ rfl
  have c3 := HT2.out.blk.1 3 _ rfl
  have c4 := HT2.out.blk.1 4 _ rfl
  have cf := HT2.out.blk.2
  have hrl := Zuf HB.out
  go_wp2_with fail
  refine (pick R _ t.rows.length _ HT2.out.rdr (by omega) (by omega)).mono ?_
  rintro e W3 ⟨k, rfl, hk0, hk1, hR3, hg3⟩
  have hk2 := hk1 (by omega)
  have HT3 := Za (HT2.out.pick hR3 hg3)
  clear hk1 hR3 hg3 c0 c1 c2 c3 c4 cf HT2
  obtain ⟨j, rfl⟩ := Int.eq_ofNat_of_zero_le hk0
  have hj : j < t.rows.length := by omega
  go_wp2_with fail
  refine (pick R _ 6 _ HT3.out.rdr (by omega) (by decide)).mono ?_
  rintro e W4 ⟨s, rfl, hs0, hs1b, hR4, hg4⟩
  have hs6 := hs1b (by decide)
  have HT4 := Za (HT3.out.pick hR4 hg4)
  clear hs1b hR4 hg4 HT3
  have hs : s = 0 ∨ s = 1 ∨ s = 2 ∨ s = 3 ∨ s = 4 ∨ s = 5 := by omega
  rcases hs with rfl|rfl|rfl|rfl|rfl|rfl
  ·
   go_wp2_with fail
   have HTD := Za (HT4.out.pick (HT4.out.rdr.below (Zt (Zf W4))) (Qd (Zt (Zf _))))
   refine Qe (fun l a W => (∃ vs : Nat → Value, a = ⟨List.toArray (.pointer (some ⟨R, 0, none⟩) :: .int .i64 n :: Zb :: Zb :: .pointer (some ⟨w.heap.size, 0, none⟩) :: .pointer (some ⟨W1.heap.size, 0, none⟩) :: .int .i64 ↑j :: .pointer (some ⟨R, 0, none⟩) :: (Ya Ac t kc Ar kr) :: .pointer (some ⟨R, 0, none⟩) :: .int .i64 n :: .int .i64 0 :: .bool false :: Zb :: .pointer (some ⟨R, 0, none⟩) :: .pointer (some ⟨W1.heap.size, 3, none⟩) :: .slice Ar t.rows.length kr :: .int .i64 ↑t.rows.length :: .int .i64 ↑j :: .pointer (some ⟨R, 0, none⟩) :: .int .i64 0 :: Zb :: Zb :: Zb :: Zb :: Zb :: Zb :: Zb :: Zb :: Zb :: Zb :: .bool true :: .bool true :: vs 0 :: vs 1 :: vs 2 :: vs 3 :: vs 4 :: vs 5 :: vs 6 :: vs 7 :: vs 8 :: Zb :: Zb :: Zb :: Zb :: Zb :: Zb :: Zb :: Zb :: Zb :: Zb :: Zb :: Zb :: Zb :: Zb :: Zb :: Zb :: Zb :: Zb :: Zb :: Zb :: Zb :: Zb :: Zb :: Zb :: Zb :: Zb :: Zb :: Zb :: Zb :: Zb :: Zb :: Zb :: Zb :: Zb :: Zb :: Zb :: Zb :: Zb :: Zb :: Zb :: Zb :: Zb :: Zb :: Zb :: Zb :: Zb :: Zb :: Zb :: Zb :: Zb :: Zb :: Zb :: []), []⟩ ∧ Zb6 (kc9 R W1.heap.size t Ar kr 1) (fun j => if j = 5 then 1 else 0) (fun j => match j with | 1 => [0] | 2 => [1] | 3 => [2] | 5 => [4] | 6 => [3, 5] | 7 => [6] | _ => []) 10 9 (W4.drew) (N + 2000 + 1 + 1 + 1) l vs W) ∨ (∃ vs : Nat → Value, a = ⟨List.toArray (.pointer (some ⟨R, 0, none⟩) :: .int .i64 n :: Zb :: Zb :: .pointer (some ⟨w.heap.size, 0, none⟩) :: .pointer (some ⟨W1.heap.size, 0, none⟩) :: .int .i64 ↑j :: .pointer (some ⟨R, 0, none⟩) :: (Ya Ac t kc Ar kr) :: .pointer (some ⟨R, 0, none⟩) :: .int .i64 n :: .int .i64 0 :: .bool false :: Zb :: .pointer (some ⟨R, 0, none⟩) :: .pointer (some ⟨W1.heap.size, 3, none⟩) :: .slice Ar t.rows.length kr :: .int .i64 ↑t.rows.length :: .int .i64 ↑j :: .pointer (some ⟨R, 0, none⟩) :: .int .i64 0 :: Zb :: Zb :: Zb :: Zb :: Zb :: Zb :: Zb :: Zb :: Zb :: Zb :: .bool true :: .bool true :: vs 0 :: vs 1 :: vs 2 :: vs 3 :: vs 4 :: vs 5 :: vs 6 :: vs 7 :: vs 8 :: Zb :: Zb :: Zb :: Zb :: Zb :: Zb :: Zb :: Zb :: Zb :: Zb :: Zb :: Zb :: Zb :: Zb :: Zb :: Zb :: Zb :: Zb :: Zb :: Zb :: Zb :: Zb :: Zb :: Zb :: Zb :: Zb :: Zb :: Zb :: Zb :: Zb :: Zb :: Zb :: Zb :: Zb :: Zb :: Zb :: Zb :: Zb :: Zb :: Zb :: Zb :: Zb :: Zb :: Zb :: Zb :: Zb :: Zb :: Zb :: Zb :: Zb :: Zb :: Zb :: []), []⟩ ∧ (∀ j, j < 10 → l.getD j true = true) ∧ ∃ z : Int, (-1 ≤ z ∧ z ≤ 9) ∧ ASt w W R (N + 2000 + 1 + 1 + 1 + 1) w.heap.size W1.heap.size (.slice Ac t.cols.length kc) (.slice Ar t.rows.length kr) { t with head := z })) (by kernel_rfl) ?top ?start ?step ?fin
   case top => exact Zae (by kernel_rfl)
   case start => exact Or.inl ⟨(fun j => match j with | 0 => undef | 1 => undef | 2 => undef | 3 => undef | 4 => undef | 5 => undef | 6 => undef | 7 => undef | 8 => undef | _ => undef), rfl, Zb6.start HTD.out.rdr⟩
   case step =>
    intro l a W i o ho hl hpre hsz hI K hK
    have hi : i < 10 := (Array.getElem?_eq_some_iff.1 ho).1
    rcases hI with ⟨vs, rfl, hM⟩ | ⟨_, _, hall, _⟩
    ·
     obtain ⟨p, hr, hp⟩ := hM.rdr
     have hpM := hM.le (c := 1) rfl
     have hRW := hr.lt
     have hTW := HTD.out.pick hr hM.grown
     obtain rfl|rfl|rfl|rfl|rfl|rfl|rfl|rfl|rfl|rfl := Zve hi
     all_goals
      simp only [List.getElem?_toArray, List.getElem?_cons_zero, List.getElem?_cons_succ, Option.some.injEq] at ho
      subst ho
      have hPR := Zce hpre
     · go_simp
       exact hK.out _ _ (Or.inl ⟨Zd vs 0 (.pointer (some ⟨W1.heap.size, 3, none⟩)), rfl, hM.still hl (by decide) (by decide) rfl _ rfl⟩)
     · have hp0 := hPR 0 rfl
       have v0 : vs 0 = .pointer (some ⟨W1.heap.size, 3, none⟩) := hM.held 0 hp0
       have c9 : W.cell? ⟨W1.heap.size, 3, none⟩ = some (.slice Ar t.rows.length kr) := hTW.blk.1 3 _ rfl
       rw [v0]
       go_simp
       exact hK.out _ _ (Or.inl ⟨Zd vs 1 (.slice Ar t.rows.length kr), by simp [Zd, v0], hM.still hl (by decide) (by decide) (ga hp0 rfl) _ rfl⟩)
     · have hp1 := hPR 1 rfl
       have v1 : vs 1 = .slice Ar t.rows.length kr := hM.held 1 hp1
       rw [v1]
       go_simp
       exact hK.out _ _ (Or.inl ⟨Zd vs 2 (.int .i64 (t.rows.length : Int)), by simp [Zd, v1], hM.still hl (by decide) (by decide) (ga hp1 rfl) _ rfl⟩)
     · have hp2 := hPR 2 rfl
       have v2 : vs 2 = .int .i64 (t.rows.length : Int) := hM.held 2 hp2
       rw [v2]
       go_simp
       exact hK.out _ _ (Or.inl ⟨Zd vs 3 (.slice (some ⟨W.heap.size, 0, none⟩) 3 3), by simp [Zd, v2], hM.made hl (by decide) (by decide) (ga hp2 rfl) _ _ (Zhr R 3 _ W [-1, 9, (t.rows.length : Int)] _ rfl (by intro z hz; simp at hz; omega) hRW)⟩)
     · go_simp
       exact hK.out _ _ (Or.inl ⟨Zd vs 4 (.pointer (some ⟨R, 0, none⟩)), rfl, hM.still hl (by decide) (by decide) rfl _ rfl⟩)
     · have hp4 := hPR 4 rfl
       have v0 : vs 4 = .pointer (some ⟨R, 0, none⟩) := hM.held 4 hp4
       rw [v0]
       go_simp
       refine (pick R p 3 _ hr (by omega) (by first | decide | omega)).mono ?_
       rintro e W5 ⟨q, rfl, hq0, hq1, hR1, hg1⟩
       have hq2 := hq1 (by first | decide | omega)
       exact hK.out _ _ (Or.inl ⟨Zd vs 5 (.int .i64 q), by simp [Zd, v0], hM.picked hl (by decide) (by decide) (ga hp4 rfl) _ hp hg1 hR1 ⟨q, rfl, hq0, hq2⟩⟩)
     ·
      have hp3 := hPR 3 rfl
      have hp5 := hPR 5 rfl
      obtain ⟨X, v1, hX1, hX2, hX3⟩ : ∃ X, vs 3 = .slice (some ⟨X, 0, none⟩) 3 3 ∧ (∀ j, j < 3 → ∃ z : Int, (-1 ≤ z ∧ z ≤ 9) ∧ W.cell? ⟨X, j, none⟩ = some (.int .i64 z)) ∧ X ≠ R ∧ X < W.heap.size := hM.held 3 hp3
      obtain ⟨z, v2, hz1, hz2⟩ : ∃ z : Int, vs 5 = .int .i64 z ∧ 0 ≤ z ∧ z < 3 := hM.held 5 hp5
      obtain ⟨q, rfl⟩ := Int.eq_ofNat_of_zero_le hz1
      have hq4 : (q : Int) < 3 := hz2
      obtain ⟨y, hy1, hy2⟩ := hX1 q (by omega)
      rw [v1, v2]
      go_simp
      exact hK.out _ _ (Or.inl ⟨Zd vs 6 (.pointer (some ⟨X, q, none⟩)), by simp [Zd, v1, v2], hM.still hl (by decide) (by decide) (ga hp3 (ga hp5 rfl)) _ ⟨X, q, y, rfl, hy1, hy2, hX2, hX3⟩⟩)
     · have hp6 := hPR 6 rfl
       obtain ⟨X, q, y, v1, hy1, hy2, hX2, hX3⟩ : ∃ (X q : Nat) (z : Int), vs 6 = .pointer (some ⟨X, q, none⟩) ∧ (-1 ≤ z ∧ z ≤ 9) ∧ W.cell? ⟨X, q, none⟩ = some (.int .i64 z) ∧ X ≠ R ∧ X < W.heap.size := hM.held 6 hp6
       rw [v1]
       go_simp
       exact hK.out _ _ (Or.inl ⟨Zd vs 7 (.int .i64 y), by simp [Zd, v1], hM.still hl (by decide) (by decide) (ga hp6 rfl) _ ⟨y, rfl, hy1⟩⟩)
     · go_simp
       exact hK.out _ _ (Or.inl ⟨Zd vs 8 (.pointer (some ⟨W1.heap.size, 1, none⟩)), rfl, hM.still hl (by decide) (by decide) rfl _ rfl⟩)
     have hp8 := hPR 8 rfl
     have hp7 := hPR 7 rfl
     have hp5 := hPR 5 rfl
     obtain ⟨z, v7, hz⟩ : ∃ z : Int, vs 7 = .int .i64 z ∧ (-1 ≤ z ∧ z ≤ 9) := hM.held 7 hp7
     have v8 : vs 8 = .pointer (some ⟨W1.heap.size, 1, none⟩) := hM.held 8 hp8
     have c9 : W.cell? ⟨W1.heap.size, 1, none⟩ = some (.int .i64 t.head) := hTW.blk.1 1 _ rfl
     have f9 := hTW.blk.2 1
     rw [v7, v8]
     go_simp
     have hp0 := hPR 0 rfl
     have hp1 := hPR 1 rfl
     have hp2 := hPR 2 rfl
     have hp3 := hPR 3 rfl
     have hp4 := hPR 4 rfl
     have hp6 := hPR 6 rfl
     refine hK.out _ _ (Or.inr ⟨vs, by simp [v7, v8], fun j hj => ?_, z, hz, (hTW.field (t' := { t with head := z }) 1 (by decide) (.int .i64 z) rfl rfl rfl).mono (by omega)⟩)
     by_cases e : j = 9
     · subst e; simp [Array.getD, hM.size]
     rw [getD_set_ne true (Ne.symm e), Qa (by rw [hM.size]; omega) true false]
     obtain rfl|rfl|rfl|rfl|rfl|rfl|rfl|rfl|rfl : j = 0 ∨ j = 1 ∨ j = 2 ∨ j = 3 ∨ j = 4 ∨ j = 5 ∨ j = 6 ∨ j = 7 ∨ j = 8 := by omega
     all_goals assumption
    rw [hall i hi] at hl; cases hl
   rintro l a W hall (⟨vs, rfl, hM⟩ | ⟨vs, rfl, _, hT⟩)
   · have h2 := hall 9 (by decide)
     rw [Qa (by rw [hM.size]; decide) true false, hM.last 9 (by decide)] at h2
     cases h2
   obtain ⟨z, hz, hT⟩ := hT
   have HT5 := Za hT
   clear hT hall
   have c0 := HT5.out.blk.1 0 _ rfl
   have c1 := HT5.out.blk.1 1 _ rfl
   have c2 := HT5.out.blk.1 2 _ rfl
   have c3 := HT5.out.blk.1 3 _ rfl
   have c4 := HT5.out.blk.1 4 _ rfl
   have cf := HT5.out.blk.2
   have h0 := HT5.out.res.1 0 _ rfl
   have h1 := HT5.out.res.1 1 _ rfl
   have h2 := HT5.out.res.1 2 _ rfl
   have h3 := HT5.out.res.1 3 _ rfl
   have h4 := HT5.out.res.1 4 _ rfl
   have hf := HT5.out.res.2
   have s8 : w.heap.size < W.heap.size := by have := HT5.out.pos; omega
   go_wp2_with fail
   exact bodyPost_ret (v := .agg #[.slice Ac t.cols.length kc, .int .i64 z, .int .i64 t.foot, .slice Ar t.rows.length kr, .int .i64 t.gap]) (by simp [results, Tryz.results128, go_sem, *]) rfl (Zds (t := { t with head := z }) (Zle HT5.out.rdr HT5.out.grown HT5.out.own hRl (Nat.le_refl _) (by omega) _ _ _ _ _) (by omega) (Zta HB.out hz.1 hz.2))
  ·
   go_wp2_with fail
   have HTD := Za (HT4.out.pick (HT4.out.rdr.below (Zt (Zf W4))) (Qd (Zt (Zf _))))
   refine Qe (fun l a W => (∃ vs : Nat → Value, a = ⟨List.toArray (.pointer (some ⟨R, 0, none⟩) :: .int .i64 n :: Zb :: Zb :: .pointer (some ⟨w.heap.size, 0, none⟩) :: .pointer (some ⟨W1.heap.size, 0, none⟩) :: .int .i64 ↑j :: .pointer (some ⟨R, 0, none⟩) :: (Ya Ac t kc Ar kr) :: .pointer (some ⟨R, 0, none⟩) :: .int .i64 n :: .int .i64 0 :: .bool false :: Zb :: .pointer (some ⟨R, 0, none⟩) :: .pointer (some ⟨W1.heap.size, 3, none⟩) :: .slice Ar t.rows.length kr :: .int .i64 ↑t.rows.length :: .int .i64 ↑j :: .pointer (some ⟨R, 0, none⟩) :: .int .i64 1 :: Zb :: Zb :: Zb :: Zb :: Zb :: Zb :: Zb :: Zb :: Zb :: Zb :: .bool false :: .bool false :: Zb :: Zb :: Zb :: Zb :: Zb :: Zb :: Zb :: Zb :: Zb :: .bool true :: .bool true :: vs 0 :: vs 1 :: vs 2 :: vs 3 :: vs 4 :: vs 5 :: vs 6 :: vs 7 :: vs 8 :: Zb :: Zb :: Zb :: Zb :: Zb :: Zb :: Zb :: Zb :: Zb :: Zb :: Zb :: Zb :: Zb :: Zb :: Zb :: Zb :: Zb :: Zb :: Zb :: Zb :: Zb :: Zb :: Zb :: Zb :: Zb :: Zb :: Zb :: Zb :: Zb :: Zb :: Zb :: Zb :: Zb :: Zb :: Zb :: Zb :: Zb :: Zb :: Zb :: Zb :: Zb :: []), []⟩ ∧ Zb6 (kc9 R W1.heap.size t Ar kr 2) (fun j => if j = 5 then 1 else 0) (fun j => match j with | 1 => [0] | 2 => [1] | 3 => [2] | 5 => [4] | 6 => [3, 5] | 7 => [6] | _ => []) 10 9 (W4.drew) (N + 2000 + 1 + 1 + 1) l vs W) ∨ (∃ vs : Nat → Value, a = ⟨List.toArray (.pointer (some ⟨R, 0, none⟩) :: .int .i64 n :: Zb :: Zb :: .pointer (some ⟨w.heap.size, 0, none⟩) :: .pointer (some ⟨W1.heap.size, 0, none⟩) :: .int .i64 ↑j :: .pointer (some ⟨R, 0, none⟩) :: (Ya Ac t kc Ar kr) :: .pointer (some ⟨R, 0, none⟩) :: .int .i64 n :: .int .i64 0 :: .bool false :: Zb :: .pointer (some ⟨R, 0, none⟩) :: .pointer (some ⟨W1.heap.size, 3, none⟩) :: .slice Ar t.rows.length kr :: .int .i64 ↑t.rows.length :: .int .i64 ↑j :: .pointer (some ⟨R, 0, none⟩) :: .int .i64 1 :: Zb :: Zb :: Zb :: Zb :: Zb :: Zb :: Zb :: Zb :: Zb :: Zb :: .bool false :: .bool false :: Zb :: Zb :: Zb :: Zb :: Zb :: Zb :: Zb :: Zb :: Zb :: .bool true :: .bool true :: vs 0 :: vs 1 :: vs 2 :: vs 3 :: vs 4 :: vs 5 :: vs 6 :: vs 7 :: vs 8 :: Zb :: Zb :: Zb :: Zb :: Zb :: Zb :: Zb :: Zb :: Zb :: Zb :: Zb :: Zb :: Zb :: Zb :: Zb :: Zb :: Zb :: Zb :: Zb :: Zb :: Zb :: Zb :: Zb :: Zb :: Zb :: Zb :: Zb :: Zb :: Zb :: Zb :: Zb :: Zb :: Zb :: Zb :: Zb :: Zb :: Zb :: Zb :: Zb :: Zb :: Zb :: []), []⟩ ∧ (∀ j, j < 10 → l.getD j true = true) ∧ ∃ z : Int, (-1 ≤ z ∧ z ≤ 9) ∧ ASt w W R (N + 2000 + 1 + 1 + 1 + 1) w.heap.size W1.heap.size (.slice Ac t.cols.length kc) (.slice Ar t.rows.length kr) { t with foot := z })) (by kernel_rfl) ?top ?start ?step ?fin
   case top => exact Zae (by kernel_rfl)
   case start => exact Or.inl ⟨(fun j => match j with | 0 => undef | 1 => undef | 2 => undef | 3 => undef | 4 => undef | 5 => undef | 6 => undef | 7 => undef | 8 => undef | _ => undef), rfl, Zb6.start HTD.out.rdr⟩
   case step =>
    intro l a W i o ho hl hpre hsz hI K hK
    have hi : i < 10 := (Array.getElem?_eq_some_iff.1 ho).1
    rcases hI with ⟨vs, rfl, hM⟩ | ⟨_, _, hall, _⟩
    ·
     obtain ⟨p, hr, hp⟩ := hM.rdr
     have hpM := hM.le (c := 1) rfl
     have hRW := hr.lt
     have hTW := HTD.out.pick hr hM.grown
     obtain rfl|rfl|rfl|rfl|rfl|rfl|rfl|rfl|rfl|rfl := Zve hi
     all_goals
      simp only [List.getElem?_toArray, List.getElem?_cons_zero, List.getElem?_cons_succ, Option.some.injEq] at ho
      subst ho
      have hPR := Zce hpre
     · go_simp
       exact hK.out _ _ (Or.inl ⟨Zd vs 0 (.pointer (some ⟨W1.heap.size, 3, none⟩)), rfl, hM.still hl (by decide) (by decide) rfl _ rfl⟩)
     · have hp0 := hPR 0 rfl
       have v0 : vs 0 = .pointer (some ⟨W1.heap.size, 3, none⟩) := hM.held 0 hp0
       have c9 : W.cell? ⟨W1.heap.size, 3, none⟩ = some (.slice Ar t.rows.length kr) := hTW.blk.1 3 _ rfl
       rw [v0]
       go_simp
       exact hK.out _ _ (Or.inl ⟨Zd vs 1 (.slice Ar t.rows.length kr), by simp [Zd, v0], hM.still hl (by decide) (by decide) (ga hp0 rfl) _ rfl⟩)
     · have hp1 := hPR 1 rfl
       have v1 : vs 1 = .slice Ar t.rows.length kr := hM.held 1 hp1
       rw [v1]
       go_simp
       exact hK.out _ _ (Or.inl ⟨Zd vs 2 (.int .i64 (t.rows.length : Int)), by simp [Zd, v1], hM.still hl (by decide) (by decide) (ga hp1 rfl) _ rfl⟩)
     · have hp2 := hPR 2 rfl
       have v2 : vs 2 = .int .i64 (t.rows.length : Int) := hM.held 2 hp2
       rw [v2]
       go_simp
       exact hK.out _ _ (Or.inl ⟨Zd vs 3 (.slice (some ⟨W.heap.size, 0, none⟩) 3 3), by simp [Zd, v2], hM.made hl (by decide) (by decide) (ga hp2 rfl) _ _ (Zhr R 3 _ W [-1, 9, (t.rows.length : Int)] _ rfl (by intro z hz; simp at hz; omega) hRW)⟩)
     · go_simp
       exact hK.out _ _ (Or.inl ⟨Zd vs 4 (.pointer (some ⟨R, 0, none⟩)), rfl, hM.still hl (by decide) (by decide) rfl _ rfl⟩)
     · have hp4 := hPR 4 rfl
       have v0 : vs 4 = .pointer (some ⟨R, 0, none⟩) := hM.held 4 hp4
       rw [v0]
       go_simp
       refine (pick R p 3 _ hr (by omega) (by first | decide | omega)).mono ?_
       rintro e W5 ⟨q, rfl, hq0, hq1, hR1, hg1⟩
       have hq2 := hq1 (by first | decide | omega)
       exact hK.out _ _ (Or.inl ⟨Zd vs 5 (.int .i64 q), by simp [Zd, v0], hM.picked hl (by decide) (by decide) (ga hp4 rfl) _ hp hg1 hR1 ⟨q, rfl, hq0, hq2⟩⟩)
     ·
      have hp3 := hPR 3 rfl
      have hp5 := hPR 5 rfl
      obtain ⟨X, v1, hX1, hX2, hX3⟩ : ∃ X, vs 3 = .slice (some ⟨X, 0, none⟩) 3 3 ∧ (∀ j, j < 3 → ∃ z : Int, (-1 ≤ z ∧ z ≤ 9) ∧ W.cell? ⟨X, j, none⟩ = some (.int .i64 z)) ∧ X ≠ R ∧ X < W.heap.size := hM.held 3 hp3
      obtain ⟨z, v2, hz1, hz2⟩ : ∃ z : Int, vs 5 = .int .i64 z ∧ 0 ≤ z ∧ z < 3 := hM.held 5 hp5
      obtain ⟨q, rfl⟩ := Int.eq_ofNat_of_zero_le hz1
      have hq4 : (q : Int) < 3 := hz2
      obtain ⟨y, hy1, hy2⟩ := hX1 q (by omega)
      rw [v1, v2]
      go_simp
      exact hK.out _ _ (Or.inl ⟨Zd vs 6 (.pointer (some ⟨X, q, none⟩)), by simp [Zd, v1, v2], hM.still hl (by decide) (by decide) (ga hp3 (ga hp5 rfl)) _ ⟨X, q, y, rfl, hy1, hy2, hX2, hX3⟩⟩)
     · have hp6 := hPR 6 rfl
       obtain ⟨X, q, y, v1, hy1, hy2, hX2, hX3⟩ : ∃ (X q : Nat) (z : Int), vs 6 = .pointer (some ⟨X, q, none⟩) ∧ (-1 ≤ z ∧ z ≤ 9) ∧ W.cell? ⟨X, q, none⟩ = some (.int .i64 z) ∧ X ≠ R ∧ X < W.heap.size := hM.held 6 hp6
       rw [v1]
       go_simp
       exact hK.out _ _ (Or.inl ⟨Zd vs 7 (.int .i64 y), by simp [Zd, v1], hM.still hl (by decide) (by decide) (ga hp6 rfl) _ ⟨y, rfl, hy1⟩⟩)
     · go_simp
       exact hK.out _ _ (Or.inl ⟨Zd vs 8 (.pointer (some ⟨W1.heap.size, 2, none⟩)), rfl, hM.still hl (by decide) (by decide) rfl _ rfl⟩)
     have hp8 := hPR 8 rfl
     have hp7 := hPR 7 rfl
     have hp5 := hPR 5 rfl
     obtain ⟨z, v7, hz⟩ : ∃ z : Int, vs 7 = .int .i64 z ∧ (-1 ≤ z ∧ z ≤ 9) := hM.held 7 hp7
     have v8 : vs 8 = .pointer (some ⟨W1.heap.size, 2, none⟩) := hM.held 8 hp8
     have c9 : W.cell? ⟨W1.heap.size, 2, none⟩ = some (.int .i64 t.foot) := hTW.blk.1 2 _ rfl
     have f9 := hTW.blk.2 2
     rw [v7, v8]
     go_simp
     have hp0 := hPR 0 rfl
     have hp1 := hPR 1 rfl
     have hp2 := hPR 2 rfl
     have hp3 := hPR 3 rfl
     have hp4 := hPR 4 rfl
     have hp6 := hPR 6 rfl
     refine hK.out _ _ (Or.inr ⟨vs, by simp [v7, v8], fun j hj => ?_, z, hz, (hTW.field (t' := { t with foot := z }) 2 (by decide) (.int .i64 z) rfl rfl rfl).mono (by omega)⟩)
     by_cases e : j = 9
     · subst e; simp [Array.getD, hM.size]
     rw [getD_set_ne true (Ne.symm e), Qa (by rw [hM.size]; omega) true false]
     obtain rfl|rfl|rfl|rfl|rfl|rfl|rfl|rfl|rfl : j = 0 ∨ j = 1 ∨ j = 2 ∨ j = 3 ∨ j = 4 ∨ j = 5 ∨ j = 6 ∨ j = 7 ∨ j = 8 := by omega
     all_goals assumption
    rw [hall i hi] at hl; cases hl
   rintro l a W hall (⟨vs, rfl, hM⟩ | ⟨vs, rfl, _, hT⟩)
   · have h2 := hall 9 (by decide)
     rw [Qa (by rw [hM.size]; decide) true false, hM.last 9 (by decide)] at h2
     cases h2
   obtain ⟨z, hz, hT⟩ := hT
   have HT5 := Za hT
   clear hT hall
   have c0 := HT5.out.blk.1 0 _ rfl
   have c1 := HT5.out.blk.1 1 _ rfl
   have c2 := HT5.out.blk.1 2 _ rfl
   have c3 := HT5.out.blk.1 3 _ rfl
   have c4 := HT5.out.blk.1 4 _ rfl
   have cf := HT5.out.blk.2
   have h0 := HT5.out.res.1 0 _ rfl
   have h1 := HT5.out.res.1 1 _ rfl
   have h2 := HT5.out.res.1 2 _ rfl
   have h3 := HT5.out.res.1 3 _ rfl
   have h4 := HT5.out.res.1 4 _ rfl
   have hf := HT5.out.res.2
   have s8 : w.heap.size < W.heap.size := by have := HT5.out.pos; omega
   go_wp2_with fail
   exact bodyPost_ret (v := .agg #[.slice Ac t.cols.length kc, .int .i64 t.head, .int .i64 z, .slice Ar t.rows.length kr, .int .i64 t.gap]) (by simp [results, Tryz.results128, go_sem, *]) rfl (Zds (t := { t with foot := z }) (Zle HT5.out.rdr HT5.out.grown HT5.out.own hRl (Nat.le_refl _) (by omega) _ _ _ _ _) (by omega) (Ztg HB.out hz.1 hz.2))
  ·
   have HN := Za (Zvj W4 3)
   go_wp2_with fail
   refine (pick R _ 2 _ (HT4.out.alloc _).rdr (by omega) (by decide)).mono ?_
   rintro e W5 ⟨k7, rfl, hk70, hk71, hR7, hg7⟩
   have hl7 := hk71 (by decide)
   have HT5 := Za ((HT4.out.alloc _).pick hR7 hg7)
   have HM := Za (HN.out.grow (by have := HT4.out.pos; omega) (by simp) hg7)
   clear hR7 hg7 hk71
   obtain ⟨i7, rfl⟩ := Int.eq_ofNat_of_zero_le hk70
   obtain ⟨z, hz1, hz2, hz3⟩ := HM.out i7 (by omega)
   have HZ := Za (And.intro hz1 hz2)
   clear hz1 hz2
   have c0 := HT5.out.blk.1 0 _ rfl
   have c1 := HT5.out.blk.1 1 _ rfl
   have c2 := HT5.out.blk.1 2 _ rfl
   have c3 := HT5.out.blk.1 3 _ rfl
   have c4 := HT5.out.blk.1 4 _ rfl
   have cf := HT5.out.blk.2
   have h0 := HT5.out.res.1 0 _ rfl
   have h1 := HT5.out.res.1 1 _ rfl
   have h2 := HT5.out.res.1 2 _ rfl
   have h3 := HT5.out.res.1 3 _ rfl
   have h4 := HT5.out.res.1 4 _ rfl
   have hf := HT5.out.res.2
   have HT6 := Za (HT5.out.field (t' := { t with gap := z }) 4 (by decide) (.int .i64 z) rfl rfl rfl)
   have s8 : w.heap.size < W5.heap.size := by have := HT5.out.pos; omega
   have hne1 : ¬ w.heap.size = W1.heap.size := by omega
   have hne2 : ¬ W1.heap.size = w.heap.size := by omega
   go_wp2_with fail
   exact bodyPost_ret (v := .agg #[.slice Ac t.cols.length kc, .int .i64 t.head, .int .i64 t.foot, .slice Ar t.rows.length kr, .int .i64 z]) (by simp [results, Tryz.results128, go_sem, *]) rfl (Zds (t := { t with gap := z }) (Zle HT6.out.rdr HT6.out.grown HT6.out.own hRl (Nat.le_refl _) (by omega) _ _ _ _ _) (by omega) (Zuh HB.out HZ.out.1 HZ.out.2))
  ·
   go_wp2_with fail
   have HTD := Za (HT4.out.pick (HT4.out.rdr.below (Zt (Zf W4))) (Qd (Zt (Zf _))))
   refine Qe (fun l a W => (∃ vs : Nat → Value, a = ⟨List.toArray (.pointer (some ⟨R, 0, none⟩) :: .int .i64 n :: Zb :: Zb :: .pointer (some ⟨w.heap.size, 0, none⟩) :: .pointer (some ⟨W1.heap.size, 0, none⟩) :: .int .i64 ↑j :: .pointer (some ⟨R, 0, none⟩) :: (Ya Ac t kc Ar kr) :: .pointer (some ⟨R, 0, none⟩) :: .int .i64 n :: .int .i64 0 :: .bool false :: Zb :: .pointer (some ⟨R, 0, none⟩) :: .pointer (some ⟨W1.heap.size, 3, none⟩) :: .slice Ar t.rows.length kr :: .int .i64 ↑t.rows.length :: .int .i64 ↑j :: .pointer (some ⟨R, 0, none⟩) :: .int .i64 3 :: Zb :: Zb :: Zb :: Zb :: Zb :: Zb :: Zb :: Zb :: Zb :: Zb :: .bool false :: .bool false :: Zb :: Zb :: Zb :: Zb :: Zb :: Zb :: Zb :: Zb :: Zb :: .bool false :: .bool false :: Zb :: Zb :: Zb :: Zb :: Zb :: Zb :: Zb :: Zb :: Zb :: .bool false :: .bool false :: Zb :: Zb :: Zb :: Zb :: Zb :: Zb :: .bool true :: .bool true :: vs 0 :: vs 1 :: vs 2 :: vs 3 :: vs 4 :: vs 5 :: vs 6 :: vs 7 :: vs 8 :: vs 9 :: vs 10 :: vs 11 :: vs 12 :: Zb :: Zb :: Zb :: Zb :: Zb :: Zb :: Zb :: Zb :: Zb :: Zb :: Zb :: Zb :: Zb :: Zb :: Zb :: Zb :: Zb :: Zb :: []), []⟩ ∧ Zb6 (Zwi R W1.heap.size (.slice Ac t.cols.length kc)) (fun j => if j = 3 then 1 else if j = 6 then 1 else 0) (fun j => match j with | 1 => [0] | 3 => [2] | 6 => [5, 3] | 7 => [4, 6] | 8 => [7] | 9 => [3, 8] | 10 => [9] | _ => []) 14 11 (W4.drew) (N + 2000 + 1 + 1 + 1) l vs W) ∨ (∃ vs : Nat → Value, a = ⟨List.toArray (.pointer (some ⟨R, 0, none⟩) :: .int .i64 n :: Zb :: Zb :: .pointer (some ⟨w.heap.size, 0, none⟩) :: .pointer (some ⟨W1.heap.size, 0, none⟩) :: .int .i64 ↑j :: .pointer (some ⟨R, 0, none⟩) :: (Ya Ac t kc Ar kr) :: .pointer (some ⟨R, 0, none⟩) :: .int .i64 n :: .int .i64 0 :: .bool false :: Zb :: .pointer (some ⟨R, 0, none⟩) :: .pointer (some ⟨W1.heap.size, 3, none⟩) :: .slice Ar t.rows.length kr :: .int .i64 ↑t.rows.length :: .int .i64 ↑j :: .pointer (some ⟨R, 0, none⟩) :: .int .i64 3 :: Zb :: Zb :: Zb :: Zb :: Zb :: Zb :: Zb :: Zb :: Zb :: Zb :: .bool false :: .bool false :: Zb :: Zb :: Zb :: Zb :: Zb :: Zb :: Zb :: Zb :: Zb :: .bool false :: .bool false :: Zb :: Zb :: Zb :: Zb :: Zb :: Zb :: Zb :: Zb :: Zb :: .bool false :: .bool false :: Zb :: Zb :: Zb :: Zb :: Zb :: Zb :: .bool true :: .bool true :: vs 0 :: vs 1 :: vs 2 :: vs 3 :: vs 4 :: vs 5 :: vs 6 :: vs 7 :: vs 8 :: vs 9 :: vs 10 :: vs 11 :: vs 12 :: Zb :: Zb :: Zb :: Zb :: Zb :: Zb :: Zb :: Zb :: Zb :: Zb :: Zb :: Zb :: Zb :: Zb :: Zb :: Zb :: Zb :: Zb :: []), []⟩ ∧ ∃ (x : Yq) (v9 : Value), (∀ j, j < 12 → l.getD j false = true) ∧ l.size = 14 ∧ l.getD 13 false = false ∧ (l.getD 12 false = true → vs 12 = .pointer (some ⟨W1.heap.size, 0, none⟩)) ∧ Yo x ∧ vs 11 = v9 ∧ Zgm w R (N + 2000 + 1 + 1 + 1 + 2) w.heap.size W1.heap.size (.slice Ac t.cols.length kc) (.slice Ar t.rows.length kr) t x v9 W) ∨ (∃ vs : Nat → Value, a = ⟨List.toArray (.pointer (some ⟨R, 0, none⟩) :: .int .i64 n :: Zb :: Zb :: .pointer (some ⟨w.heap.size, 0, none⟩) :: .pointer (some ⟨W1.heap.size, 0, none⟩) :: .int .i64 ↑j :: .pointer (some ⟨R, 0, none⟩) :: (Ya Ac t kc Ar kr) :: .pointer (some ⟨R, 0, none⟩) :: .int .i64 n :: .int .i64 0 :: .bool false :: Zb :: .pointer (some ⟨R, 0, none⟩) :: .pointer (some ⟨W1.heap.size, 3, none⟩) :: .slice Ar t.rows.length kr :: .int .i64 ↑t.rows.length :: .int .i64 ↑j :: .pointer (some ⟨R, 0, none⟩) :: .int .i64 3 :: Zb :: Zb :: Zb :: Zb :: Zb :: Zb :: Zb :: Zb :: Zb :: Zb :: .bool false :: .bool false :: Zb :: Zb :: Zb :: Zb :: Zb :: Zb :: Zb :: Zb :: Zb :: .bool false :: .bool false :: Zb :: Zb :: Zb :: Zb :: Zb :: Zb :: Zb :: Zb :: Zb :: .bool false :: .bool false :: Zb :: Zb :: Zb :: Zb :: Zb :: Zb :: .bool true :: .bool true :: vs 0 :: vs 1 :: vs 2 :: vs 3 :: vs 4 :: vs 5 :: vs 6 :: vs 7 :: vs 8 :: vs 9 :: vs 10 :: vs 11 :: vs 12 :: Zb :: Zb :: Zb :: Zb :: Zb :: Zb :: Zb :: Zb :: Zb :: Zb :: Zb :: Zb :: Zb :: Zb :: Zb :: Zb :: Zb :: Zb :: []), []⟩ ∧ (∀ j, j < 14 → l.getD j true = true) ∧ ∃ (x : Yq) (v9 : Value), Yo x ∧ ASt w W R (N + 2000 + 1 + 1 + 1 + 2) w.heap.size W1.heap.size v9 (.slice Ar t.rows.length kr) { t with cols := t.cols ++ [x] })) (by kernel_rfl) ?top ?start ?step ?fin
   case top => exact Zae (by kernel_rfl)
   case start => exact Or.inl ⟨(fun j => match j with | 0 => undef | 1 => undef | 2 => undef | 3 => undef | 4 => undef | 5 => undef | 6 => undef | 7 => undef | 8 => undef | 9 => undef | 10 => undef | 11 => undef | 12 => undef | _ => undef), rfl, Zb6.start HTD.out.rdr⟩
   case step =>
    intro l a W i o ho hl hpre hsz hI K hK
    have hi : i < 14 := (Array.getElem?_eq_some_iff.1 ho).1
    rcases hI with ⟨vs, rfl, hM⟩ | ⟨vs, rfl, hS⟩ | ⟨_, _, hall, _⟩
    ·
     obtain ⟨p, hr, hp⟩ := hM.rdr
     have hpM := hM.le (c := 2) rfl
     have hRW := hr.lt
     have hTW := HTD.out.pick hr hM.grown
     obtain rfl|rfl|rfl|rfl|rfl|rfl|rfl|rfl|rfl|rfl|rfl|rfl|rfl|rfl := Zwh hi
     all_goals
      simp only [List.getElem?_toArray, List.getElem?_cons_zero, List.getElem?_cons_succ, Option.some.injEq] at ho
      subst ho
      have hPR := Zce hpre
     · go_simp
       exact hK.out _ _ (Or.inl ⟨Zd vs 0 (.pointer (some ⟨W1.heap.size, 0, none⟩)), rfl, hM.still hl (by decide) (by decide) rfl _ rfl⟩)
     · have hp0 := hPR 0 rfl
       have v0 : vs 0 = .pointer (some ⟨W1.heap.size, 0, none⟩) := hM.held 0 hp0
       have c9 : W.cell? ⟨W1.heap.size, 0, none⟩ = some (.slice Ac t.cols.length kc) := hTW.blk.1 0 _ rfl
       rw [v0]
       go_simp
       exact hK.out _ _ (Or.inl ⟨Zd vs 1 (.slice Ac t.cols.length kc), by simp [Zd, v0], hM.still hl (by decide) (by decide) (ga hp0 rfl) _ rfl⟩)
     · go_simp
       exact hK.out _ _ (Or.inl ⟨Zd vs 2 (.pointer (some ⟨R, 0, none⟩)), rfl, hM.still hl (by decide) (by decide) rfl _ rfl⟩)
     · have hp2 := hPR 2 rfl
       have v0 : vs 2 = .pointer (some ⟨R, 0, none⟩) := hM.held 2 hp2
       rw [v0]
       go_simp
       refine (pick R p 4 _ hr (by omega) (by first | decide | omega)).mono ?_
       rintro e W5 ⟨q, rfl, hq0, hq1, hR1, hg1⟩
       have hq2 := hq1 (by first | decide | omega)
       exact hK.out _ _ (Or.inl ⟨Zd vs 3 (.int .i64 q), by simp [Zd, v0], hM.picked hl (by decide) (by decide) (ga hp2 rfl) _ hp hg1 hR1 ⟨q, rfl, hq0, hq2⟩⟩)
     · go_simp
       exact hK.out _ _ (Or.inl ⟨Zd vs 4 (.slice (some ⟨W.heap.size, 0, none⟩) 4 4), rfl, hM.made hl (by decide) (by decide) rfl _ _ (Zhr R 4 _ W [-1, 0, 61, 101] _ rfl (by decide) hRW)⟩)
     · go_simp
       exact hK.out _ _ (Or.inl ⟨Zd vs 5 (.pointer (some ⟨R, 0, none⟩)), rfl, hM.still hl (by decide) (by decide) rfl _ rfl⟩)
     ·
      have hp5 := hPR 5 rfl
      have hp3 := hPR 3 rfl
      have v0 : vs 5 = .pointer (some ⟨R, 0, none⟩) := hM.held 5 hp5
      rw [v0]
      go_simp
      refine (pick R p 4 _ hr (by omega) (by first | decide | omega)).mono ?_
      rintro e W5 ⟨q, rfl, hq0, hq1, hR1, hg1⟩
      have hq2 := hq1 (by first | decide | omega)
      exact hK.out _ _ (Or.inl ⟨Zd vs 6 (.int .i64 q), by simp [Zd, v0], hM.picked hl (by decide) (by decide) (ga hp5 (ga hp3 rfl)) _ hp hg1 hR1 ⟨q, rfl, hq0, hq2⟩⟩)
     ·
      have hp4 := hPR 4 rfl
      have hp6 := hPR 6 rfl
      obtain ⟨X, v1, hX1, hX2, hX3⟩ : ∃ X, vs 4 = .slice (some ⟨X, 0, none⟩) 4 4 ∧ (∀ j, j < 4 → ∃ z : Int, (-1 ≤ z ∧ z ≤ 101) ∧ W.cell? ⟨X, j, none⟩ = some (.int .i64 z)) ∧ X ≠ R ∧ X < W.heap.size := hM.held 4 hp4
      obtain ⟨z, v2, hz1, hz2⟩ : ∃ z : Int, vs 6 = .int .i64 z ∧ 0 ≤ z ∧ z < 4 := hM.held 6 hp6
      obtain ⟨q, rfl⟩ := Int.eq_ofNat_of_zero_le hz1
      have hq4 : (q : Int) < 4 := hz2
      obtain ⟨y, hy1, hy2⟩ := hX1 q (by omega)
      rw [v1, v2]
      go_simp
      exact hK.out _ _ (Or.inl ⟨Zd vs 7 (.pointer (some ⟨X, q, none⟩)), by simp [Zd, v1, v2], hM.still hl (by decide) (by decide) (ga hp4 (ga hp6 rfl)) _ ⟨X, q, y, rfl, hy1, hy2, hX2, hX3⟩⟩)
     · have hp7 := hPR 7 rfl
       obtain ⟨X, q, y, v1, hy1, hy2, hX2, hX3⟩ : ∃ (X q : Nat) (z : Int), vs 7 = .pointer (some ⟨X, q, none⟩) ∧ (-1 ≤ z ∧ z ≤ 101) ∧ W.cell? ⟨X, q, none⟩ = some (.int .i64 z) ∧ X ≠ R ∧ X < W.heap.size := hM.held 7 hp7
       rw [v1]
       go_simp
       exact hK.out _ _ (Or.inl ⟨Zd vs 8 (.int .i64 y), by simp [Zd, v1], hM.still hl (by decide) (by decide) (ga hp7 rfl) _ ⟨y, rfl, hy1⟩⟩)
     · have hp3 := hPR 3 rfl
       have hp8 := hPR 8 rfl
       obtain ⟨z3, v3, hz3⟩ : ∃ z : Int, vs 3 = .int .i64 z ∧ (0 ≤ z ∧ z < 4) := hM.held 3 hp3
       obtain ⟨z8, v8, hz8⟩ : ∃ z : Int, vs 8 = .int .i64 z ∧ (-1 ≤ z ∧ z ≤ 101) := hM.held 8 hp8
       rw [v3, v8]
       go_simp
       exact hK.out _ _ (Or.inl ⟨Zd vs 9 (.agg #[.int .i64 z3, .int .i64 z8]), by simp [Zd, v3, v8], hM.still hl (by decide) (by decide) (ga hp3 (ga hp8 rfl)) _ ⟨⟨z3, z8⟩, rfl, hz3.1, by show z3 ≤ 3; omega, hz8.1, hz8.2⟩⟩)
     · have hp9 := hPR 9 rfl
       obtain ⟨x6, v6, hx6⟩ : ∃ x : Yq, vs 9 = .agg #[.int .i64 x.k, .int .i64 x.n] ∧ Yo x := hM.held 9 hp9
       rw [v6]
       go_simp
       exact hK.out _ _ (Or.inl ⟨Zd vs 10 (.slice (some ⟨W.heap.size, 0, none⟩) 1 1), by simp [Zd, v6], hM.made hl (by decide) (by decide) (ga hp9 rfl) _ _ (Zgj R W x6 _ hx6 hRW)⟩)
     ·
      have hp1 := hPR 1 rfl
      have hp10 := hPR 10 rfl
      have hp6 := hPR 6 rfl
      have v1 : vs 1 = .slice Ac t.cols.length kc := hM.held 1 hp1
      obtain ⟨X, v8, hX1, hX2, hX3⟩ : ∃ X, vs 10 = .slice (some ⟨X, 0, none⟩) 1 1 ∧ (∀ j, j < 1 → ∃ x : Yq, Yo x ∧ W.cell? ⟨X, j * 2, none⟩ = some (.int .i64 x.k) ∧ W.cell? ⟨X, j * 2 + 1, none⟩ = some (.int .i64 x.n)) ∧ X ≠ R ∧ X < W.heap.size := hM.held 10 hp10
      obtain ⟨x, hx0, hx1, hx2⟩ := hX1 0 (by decide)
      rw [Nat.zero_mul] at hx1 hx2
      have hp0 := Qw (hM.clo 1 hp1) (show 0 ∈ [0] by decide)
      have hp9 := Qw (hM.clo 10 hp10) (show 9 ∈ [9] by decide)
      have hp5 := Qw (hM.clo 6 hp6) (show 5 ∈ [5, 3] by decide)
      have hp3 := Qw (hM.clo 6 hp6) (show 3 ∈ [5, 3] by decide)
      have hp8 := Qw (hM.clo 9 hp9) (show 8 ∈ [3, 8] by decide)
      have hp2 := Qw (hM.clo 3 hp3) (show 2 ∈ [2] by decide)
      have hp7 := Qw (hM.clo 8 hp8) (show 7 ∈ [7] by decide)
      have hp4 := Qw (hM.clo 7 hp7) (show 4 ∈ [4, 6] by decide)
      obtain ⟨i0, hi0, hz0, hz1, hz2⟩ := info_parts Zdw
      have hlen : t.cols.length ≤ 5 := HB.out.2.2.2.2.2.1.2
      rw [if_pos (by simp [Region.wanted])]
      refine wp_append_own W (.tmp 64) (.tmp 73) 23 rfl (w.heap.size + 1) 100 i0 _ 2 16 Zee hi0 hz0 hz1 hz2 rfl (by decide) _ _ _ (by simp [Act.eval, v1]) hTW.own.cols ⟨X, 0, none⟩ 1 1 (Zes x) (by simp [Act.eval, v8]) rfl (Zo1 hx1 hx2) (Zpr _ _) (by unfold maxLen; omega) (by omega) (by have := hTW.pos; omega) ?_
      intro v9 W9 ho9 hg9 _
      have hlt11 : 11 < l.size := by rw [hM.size]; decide
      refine hK.out _ _ (Or.inr (Or.inl ⟨Zd vs 11 v9, by simp [Zd, Act.put], x, v9, ?_, by simpa using hM.size, by rw [getD_set_ne false (by decide)]; exact hM.last 13 (by decide), fun h => ?_, hx0, rfl, W, hTW.mono (by omega), hg9, ho9⟩))
      · intro j hj
        by_cases e : j = 11
        · subst e; simp [Array.getD, hM.size]
        rw [getD_set_ne false (Ne.symm e)]
        obtain rfl|rfl|rfl|rfl|rfl|rfl|rfl|rfl|rfl|rfl|rfl : j = 0 ∨ j = 1 ∨ j = 2 ∨ j = 3 ∨ j = 4 ∨ j = 5 ∨ j = 6 ∨ j = 7 ∨ j = 8 ∨ j = 9 ∨ j = 10 := by omega
        all_goals assumption
      rw [getD_set_ne false (by decide), hM.last 12 (by decide)] at h; cases h
     · have hm := hpre ⟨11, .phase⟩ (by simp) rfl
       rw [hM.last 11 (by decide)] at hm
       cases hm
     have hm := hpre ⟨11, .data⟩ (by simp) rfl
     rw [hM.last 11 (by decide)] at hm
     cases hm
    ·
     obtain ⟨x, v9, hall, hsz2, hl7, h6, hxb, h5, hS⟩ := hS
     have hno : ¬ i < 12 := fun h => by have h1 := hall i h; rw [Qa (by omega) false true, hl] at h1; cases h1
     obtain rfl|rfl : i = 12 ∨ i = 13 := by omega
     · simp only [List.getElem?_toArray, List.getElem?_cons_zero, List.getElem?_cons_succ, Option.some.injEq] at ho
       subst ho
       go_simp
       refine hK.out _ _ (Or.inr (Or.inl ⟨Zd vs 12 (.pointer (some ⟨W1.heap.size, 0, none⟩)), by simp [Zd, h5], x, v9, fun j hj => by rw [getD_set_ne false (by omega)]; exact hall j hj, by simpa using hsz2, by rw [getD_set_ne false (by decide)]; exact hl7, fun _ => rfl, hxb, h5, hS⟩))
     simp only [List.getElem?_toArray, List.getElem?_cons_zero, List.getElem?_cons_succ, Option.some.injEq] at ho
     subst ho
     have v6 := h6 (hpre ⟨12, .data⟩ (by simp) rfl)
     obtain ⟨A9, m9, k9, rfl⟩ := hS.form
     have c9 : W.cell? ⟨W1.heap.size, 0, none⟩ = some (.slice Ac t.cols.length kc) := hS.blk.1 0 _ rfl
     have f9 := hS.blk.2 0
     rw [v6, h5]
     go_simp
     refine hK.out _ _ (Or.inr (Or.inr ⟨vs, by simp [v6, h5], fun j hj => ?_, x, _, hxb, hS.done (Nat.le_refl _)⟩))
     by_cases e : j = 13
     · subst e; simp [Array.getD, hsz2]
     rw [getD_set_ne true (Ne.symm e), Qa (by omega) true false]
     by_cases e0 : j = 12
     · subst e0; exact hpre ⟨12, .data⟩ (by simp) rfl
     exact hall j (by omega)
    rw [hall i hi] at hl; cases hl
   rintro l a W hall (⟨vs, rfl, hM⟩ | ⟨vs, rfl, hS⟩ | ⟨vs, rfl, _, hT⟩)
   · have h2 := hall 13 (by decide)
     rw [Qa (by rw [hM.size]; decide) true false, hM.last 13 (by decide)] at h2
     cases h2
   · obtain ⟨x, v9, _, hsz2, hl7, _⟩ := hS
     have h2 := hall 13 (by decide)
     rw [Qa (by omega) true false, hl7] at h2
     cases h2
   obtain ⟨x, v9, hxb, hT⟩ := hT
   obtain ⟨⟨A9, k9, rfl⟩, _⟩ : (∃ A c, v9 = .slice A (t.cols ++ [x]).length c) ∧ _ := hT.own.form
   have HT5 := Za hT
   clear hT hall
   have c0 := HT5.out.blk.1 0 _ rfl
   have c1 := HT5.out.blk.1 1 _ rfl
   have c2 := HT5.out.blk.1 2 _ rfl
   have c3 := HT5.out.blk.1 3 _ rfl
   have c4 := HT5.out.blk.1 4 _ rfl
   have cf := HT5.out.blk.2
   have h0 := HT5.out.res.1 0 _ rfl
   have h1 := HT5.out.res.1 1 _ rfl
   have h2 := HT5.out.res.1 2 _ rfl
   have h3 := HT5.out.res.1 3 _ rfl
   have h4 := HT5.out.res.1 4 _ rfl
   have hf := HT5.out.res.2
   generalize hN9 : (t.cols ++ [x]).length = N9 at HT5 c0
   have s8 : w.heap.size < W.heap.size := by have := HT5.out.pos; omega
   go_wp2_with fail
   exact bodyPost_ret (v := .agg #[.slice A9 N9 k9, .int .i64 t.head, .int .i64 t.foot, .slice Ar t.rows.length kr, .int .i64 t.gap]) (by simp [results, Tryz.results128, go_sem, *]) rfl (Zds (t := { t with cols := t.cols ++ [x] }) (Zle HT5.out.rdr HT5.out.grown HT5.out.own hRl (Nat.le_refl _) (by omega) _ _ _ _ _) (by omega) (Zt5 HB.out hxb))
  ·
   go_wp2_with fail
   have hx17 : ∃ g us, Ar = some ⟨g, 0, none⟩ ∧ W4.ownsRow (w.heap.size + 1) 84 2 (.slice (some ⟨g, 0, none⟩) t.rows.length kr) t.rows.length (Qj us t.rows) ∧ Zaf W4 (w.heap.size + 1) 105 us t.rows := Zua HT4.out.own.rows (by omega)
   obtain ⟨g, us, rfl, r1, r2⟩ := hx17
   have hju : j < us.length := by rw [r2.1]; exact hj
   obtain ⟨uj, huj⟩ : ∃ u, u = us[j] := ⟨_, rfl⟩
   have HR1 := Za r1
   have HR2 := Za r2
   have HUJ := Za huj
   clear r1 r2 huj
   have hjz : (j : Int) < (t.rows.length : Int) := by omega
   have HTD := Za (HT4.out.pick (HT4.out.rdr.below (Zt (Zf W4))) (Qd (Zt (Zf _))))
   refine Qe (fun l a W => (∃ vs : Nat → Value, a = ⟨List.toArray (.pointer (some ⟨R, 0, none⟩) :: .int .i64 n :: Zb :: Zb :: .pointer (some ⟨w.heap.size, 0, none⟩) :: .pointer (some ⟨W1.heap.size, 0, none⟩) :: .int .i64 ↑j :: .pointer (some ⟨R, 0, none⟩) :: .agg #[.slice Ac t.cols.length kc, .int .i64 t.head, .int .i64 t.foot, .slice (some ⟨g, 0, none⟩) t.rows.length kr, .int .i64 t.gap] :: .pointer (some ⟨R, 0, none⟩) :: .int .i64 n :: .int .i64 0 :: .bool false :: Zb :: .pointer (some ⟨R, 0, none⟩) :: .pointer (some ⟨W1.heap.size, 3, none⟩) :: .slice (some ⟨g, 0, none⟩) t.rows.length kr :: .int .i64 ↑t.rows.length :: .int .i64 ↑j :: .pointer (some ⟨R, 0, none⟩) :: .int .i64 4 :: Zb :: Zb :: Zb :: Zb :: Zb :: Zb :: Zb :: Zb :: Zb :: Zb :: .bool false :: .bool false :: Zb :: Zb :: Zb :: Zb :: Zb :: Zb :: Zb :: Zb :: Zb :: .bool false :: .bool false :: Zb :: Zb :: Zb :: Zb :: Zb :: Zb :: Zb :: Zb :: Zb :: .bool false :: .bool false :: Zb :: Zb :: Zb :: Zb :: Zb :: Zb :: .bool false :: .bool false :: Zb :: Zb :: Zb :: Zb :: Zb :: Zb :: Zb :: Zb :: Zb :: Zb :: Zb :: Zb :: Zb :: .bool true :: .bool true :: vs 0 :: vs 1 :: vs 2 :: vs 3 :: vs 4 :: vs 5 :: vs 6 :: vs 7 :: vs 8 :: vs 9 :: vs 10 :: vs 11 :: vs 12 :: vs 13 :: vs 14 :: Zb :: []), []⟩ ∧ Zb6 (Zwk R W1.heap.size g j t kr uj) (fun j => if j = 10 then 60 else 0) (fun j => match j with | 1 => [0] | 4 => [3] | 6 => [4, 5] | 7 => [6] | 8 => [7] | 10 => [9] | 11 => [10] | _ => []) 16 12 (W4.drew) (N + 2000 + 1 + 1 + 1) l vs W) ∨ (∃ vs : Nat → Value, a = ⟨List.toArray (.pointer (some ⟨R, 0, none⟩) :: .int .i64 n :: Zb :: Zb :: .pointer (some ⟨w.heap.size, 0, none⟩) :: .pointer (some ⟨W1.heap.size, 0, none⟩) :: .int .i64 ↑j :: .pointer (some ⟨R, 0, none⟩) :: .agg #[.slice Ac t.cols.length kc, .int .i64 t.head, .int .i64 t.foot, .slice (some ⟨g, 0, none⟩) t.rows.length kr, .int .i64 t.gap] :: .pointer (some ⟨R, 0, none⟩) :: .int .i64 n :: .int .i64 0 :: .bool false :: Zb :: .pointer (some ⟨R, 0, none⟩) :: .pointer (some ⟨W1.heap.size, 3, none⟩) :: .slice (some ⟨g, 0, none⟩) t.rows.length kr :: .int .i64 ↑t.rows.length :: .int .i64 ↑j :: .pointer (some ⟨R, 0, none⟩) :: .int .i64 4 :: Zb :: Zb :: Zb :: Zb :: Zb :: Zb :: Zb :: Zb :: Zb :: Zb :: .bool false :: .bool false :: Zb :: Zb :: Zb :: Zb :: Zb :: Zb :: Zb :: Zb :: Zb :: .bool false :: .bool false :: Zb :: Zb :: Zb :: Zb :: Zb :: Zb :: Zb :: Zb :: Zb :: .bool false :: .bool false :: Zb :: Zb :: Zb :: Zb :: Zb :: Zb :: .bool false :: .bool false :: Zb :: Zb :: Zb :: Zb :: Zb :: Zb :: Zb :: Zb :: Zb :: Zb :: Zb :: Zb :: Zb :: .bool true :: .bool true :: vs 0 :: vs 1 :: vs 2 :: vs 3 :: vs 4 :: vs 5 :: vs 6 :: vs 7 :: vs 8 :: vs 9 :: vs 10 :: vs 11 :: vs 12 :: vs 13 :: vs 14 :: Zb :: []), []⟩ ∧ ∃ (c : Qi) (v9 : Value), (∀ j, 3 ≤ j → j < 13 → l.getD j false = true) ∧ l.size = 16 ∧ l.getD 15 false = false ∧ (l.getD 14 false = true → l.getD 13 false = true) ∧ Zn8 (Zwm g j t kr W1.heap.size) l vs ∧ Zbl c ∧ vs 12 = v9 ∧ Zbn w R (N + 2000 + 1 + 1 + 1 + 60) w.heap.size W1.heap.size (.slice Ac t.cols.length kc) g t.rows.length kr t us j hju hj c v9 W) ∨ (∃ vs : Nat → Value, a = ⟨List.toArray (.pointer (some ⟨R, 0, none⟩) :: .int .i64 n :: Zb :: Zb :: .pointer (some ⟨w.heap.size, 0, none⟩) :: .pointer (some ⟨W1.heap.size, 0, none⟩) :: .int .i64 ↑j :: .pointer (some ⟨R, 0, none⟩) :: .agg #[.slice Ac t.cols.length kc, .int .i64 t.head, .int .i64 t.foot, .slice (some ⟨g, 0, none⟩) t.rows.length kr, .int .i64 t.gap] :: .pointer (some ⟨R, 0, none⟩) :: .int .i64 n :: .int .i64 0 :: .bool false :: Zb :: .pointer (some ⟨R, 0, none⟩) :: .pointer (some ⟨W1.heap.size, 3, none⟩) :: .slice (some ⟨g, 0, none⟩) t.rows.length kr :: .int .i64 ↑t.rows.length :: .int .i64 ↑j :: .pointer (some ⟨R, 0, none⟩) :: .int .i64 4 :: Zb :: Zb :: Zb :: Zb :: Zb :: Zb :: Zb :: Zb :: Zb :: Zb :: .bool false :: .bool false :: Zb :: Zb :: Zb :: Zb :: Zb :: Zb :: Zb :: Zb :: Zb :: .bool false :: .bool false :: Zb :: Zb :: Zb :: Zb :: Zb :: Zb :: Zb :: Zb :: Zb :: .bool false :: .bool false :: Zb :: Zb :: Zb :: Zb :: Zb :: Zb :: .bool false :: .bool false :: Zb :: Zb :: Zb :: Zb :: Zb :: Zb :: Zb :: Zb :: Zb :: Zb :: Zb :: Zb :: Zb :: .bool true :: .bool true :: vs 0 :: vs 1 :: vs 2 :: vs 3 :: vs 4 :: vs 5 :: vs 6 :: vs 7 :: vs 8 :: vs 9 :: vs 10 :: vs 11 :: vs 12 :: vs 13 :: vs 14 :: Zb :: []), []⟩ ∧ (∀ j, j < 16 → l.getD j true = true) ∧ ∃ c : Qi, Zbl c ∧ ASt w W R (N + 2000 + 1 + 1 + 1 + 60) w.heap.size W1.heap.size (.slice Ac t.cols.length kc) (.slice (some ⟨g, 0, none⟩) t.rows.length kr) { t with rows := t.rows.set j ⟨t.rows[j].cs ++ [c], t.rows[j].wh⟩ })) (by kernel_rfl) ?top ?start ?step ?fin
   case top => exact Zae (by kernel_rfl)
   case start => exact Or.inl ⟨(fun j => match j with | 0 => undef | 1 => undef | 2 => undef | 3 => undef | 4 => undef | 5 => undef | 6 => undef | 7 => undef | 8 => undef | 9 => undef | 10 => undef | 11 => undef | 12 => undef | 13 => undef | 14 => undef | _ => undef), rfl, Zb6.start HTD.out.rdr⟩
   case step =>
    intro l a W i o ho hl hpre hsz hI K hK
    have hi : i < 16 := (Array.getElem?_eq_some_iff.1 ho).1
    rcases hI with ⟨vs, rfl, hM⟩ | ⟨vs, rfl, hS⟩ | ⟨_, _, hall, _⟩
    ·
     obtain ⟨p, hr, hp⟩ := hM.rdr
     have hpM := hM.le (c := 60) rfl
     have hRW := hr.lt
     have hTW := HTD.out.pick hr hM.grown
     have hGW := Zk (Qd (r := some R) (Zt (Zf W4))) hM.grown
     have hRH : R < w.heap.size + 1 := by omega
     have q1 := Zbu HR1.out hRH hGW
     have q2 : Zaf W (w.heap.size + 1) 105 us t.rows := ⟨HR2.out.1, fun a b c => Zbu (HR2.out.2.1 a b c) hRH hGW, HR2.out.2.2⟩
     obtain rfl|rfl|rfl|rfl|rfl|rfl|rfl|rfl|rfl|rfl|rfl|rfl|rfl|rfl|rfl|rfl := Zwc hi
     all_goals
      simp only [List.getElem?_toArray, List.getElem?_cons_zero, List.getElem?_cons_succ, Option.some.injEq] at ho
      subst ho
      have hPR := Zce hpre
     · go_simp
       exact hK.out _ _ (Or.inl ⟨Zd vs 0 (.pointer (some ⟨W1.heap.size, 3, none⟩)), rfl, hM.still hl (by decide) (by decide) rfl _ rfl⟩)
     · have hp0 := hPR 0 rfl
       have v0 : vs 0 = .pointer (some ⟨W1.heap.size, 3, none⟩) := hM.held 0 hp0
       have c9 : W.cell? ⟨W1.heap.size, 3, none⟩ = some (.slice (some ⟨g, 0, none⟩) t.rows.length kr) := hTW.blk.1 3 _ rfl
       rw [v0]
       go_simp
       exact hK.out _ _ (Or.inl ⟨Zd vs 1 (.slice (some ⟨g, 0, none⟩) t.rows.length kr), by simp [Zd, v0], hM.still hl (by decide) (by decide) (ga hp0 rfl) _ rfl⟩)
     · go_simp
       exact hK.out _ _ (Or.inl ⟨Zd vs 2 (.int .i64 (j : Int)), rfl, hM.still hl (by decide) (by decide) rfl _ rfl⟩)
     · go_simp
       exact hK.out _ _ (Or.inl ⟨Zd vs 3 (.pointer (some ⟨W1.heap.size, 3, none⟩)), rfl, hM.still hl (by decide) (by decide) rfl _ rfl⟩)
     · have hp3 := hPR 3 rfl
       have v0 : vs 3 = .pointer (some ⟨W1.heap.size, 3, none⟩) := hM.held 3 hp3
       have c9 : W.cell? ⟨W1.heap.size, 3, none⟩ = some (.slice (some ⟨g, 0, none⟩) t.rows.length kr) := hTW.blk.1 3 _ rfl
       rw [v0]
       go_simp
       exact hK.out _ _ (Or.inl ⟨Zd vs 4 (.slice (some ⟨g, 0, none⟩) t.rows.length kr), by simp [Zd, v0], hM.still hl (by decide) (by decide) (ga hp3 rfl) _ rfl⟩)
     · go_simp
       exact hK.out _ _ (Or.inl ⟨Zd vs 5 (.int .i64 (j : Int)), rfl, hM.still hl (by decide) (by decide) rfl _ rfl⟩)
     · have hp4 := hPR 4 rfl
       have hp5 := hPR 5 rfl
       have v1 : vs 4 = .slice (some ⟨g, 0, none⟩) t.rows.length kr := hM.held 4 hp4
       have v2 : vs 5 = .int .i64 (j : Int) := hM.held 5 hp5
       rw [v1, v2]
       go_simp
       exact hK.out _ _ (Or.inl ⟨Zd vs 6 (.pointer (some ⟨g, j * 2, none⟩)), by simp [Zd, v1, v2], hM.still hl (by decide) (by decide) (ga hp4 (ga hp5 rfl)) _ rfl⟩)
     · have hp6 := hPR 6 rfl
       have v1 : vs 6 = .pointer (some ⟨g, j * 2, none⟩) := hM.held 6 hp6
       rw [v1]
       go_simp
       exact hK.out _ _ (Or.inl ⟨Zd vs 7 (.pointer (some ⟨g, j * 2, none⟩)), by simp [Zd, v1], hM.still hl (by decide) (by decide) (ga hp6 rfl) _ rfl⟩)
     · have hp7 := hPR 7 rfl
       have v1 : vs 7 = .pointer (some ⟨g, j * 2, none⟩) := hM.held 7 hp7
       have c9 : W.cell? ⟨g, j * 2, none⟩ = some uj := by rw [HUJ.out]; exact Zn7 q1 j hju hj
       rw [v1]
       go_simp
       exact hK.out _ _ (Or.inl ⟨Zd vs 8 (uj), by simp [Zd, v1], hM.still hl (by decide) (by decide) (ga hp7 rfl) _ rfl⟩)
     · go_simp
       exact hK.out _ _ (Or.inl ⟨Zd vs 9 (.pointer (some ⟨R, 0, none⟩)), rfl, hM.still hl (by decide) (by decide) rfl _ rfl⟩)
     · have hp9 := hPR 9 rfl
       have v0 : vs 9 = .pointer (some ⟨R, 0, none⟩) := hM.held 9 hp9
       rw [v0]
       go_simp
       refine (Ztx R p 1 _ hr (by omega) (by decide) (by decide)).mono ?_
       rintro e W5 ⟨c, rfl, hcb, hR1, hg1⟩
       exact hK.out _ _ (Or.inl ⟨Zd vs 10 (.agg #[.string c.t, .int .i64 c.c, .int .i64 c.r, .int .i64 c.top.s, .int .i64 c.top.w, .int .i64 c.right.s, .int .i64 c.right.w, .int .i64 c.bot.s, .int .i64 c.bot.w, .int .i64 c.left.s, .int .i64 c.left.w]), by simp [Zd, v0, Qv], hM.picked hl (by decide) (by decide) (ga hp9 rfl) _ hp hg1 hR1 ⟨c, rfl, hcb⟩⟩)
     · have hp10 := hPR 10 rfl
       obtain ⟨c, v1, hc1⟩ : ∃ c : Qi, vs 10 = .agg #[.string c.t, .int .i64 c.c, .int .i64 c.r, .int .i64 c.top.s, .int .i64 c.top.w, .int .i64 c.right.s, .int .i64 c.right.w, .int .i64 c.bot.s, .int .i64 c.bot.w, .int .i64 c.left.s, .int .i64 c.left.w] ∧ Zbl c := hM.held 10 hp10
       rw [v1]
       go_simp
       exact hK.out _ _ (Or.inl ⟨Zd vs 11 (.slice (some ⟨W.heap.size, 0, none⟩) 1 1), by simp [Zd, v1], hM.made hl (by decide) (by decide) (ga hp10 rfl) _ _ (Zkq R W c _ hc1 hRW)⟩)
     ·
      have hp8 := hPR 8 rfl
      have hp11 := hPR 11 rfl
      have hp10 := hPR 10 rfl
      have hp7 := Qw (hM.clo 8 hp8) (show 7 ∈ [7] by decide)
      have hp9 := Qw (hM.clo 10 hp10) (show 9 ∈ [9] by decide)
      have hp6 := Qw (hM.clo 7 hp7) (show 6 ∈ [6] by decide)
      have hp4 := Qw (hM.clo 6 hp6) (show 4 ∈ [4, 5] by decide)
      have hp5 := Qw (hM.clo 6 hp6) (show 5 ∈ [4, 5] by decide)
      have hp3 := Qw (hM.clo 4 hp4) (show 3 ∈ [3] by decide)
      have v8 : vs 8 = uj := hM.held 8 hp8
      obtain ⟨Y, c, v11, hc1, hY1, hY2, hY3⟩ : ∃ (X : Nat) (c : Qi), vs 11 = .slice (some ⟨X, 0, none⟩) 1 1 ∧ Zbl c ∧ (∀ (j : Nat) (u : Value), (Qv c)[j]? = some u → W.cell? ⟨X, j, none⟩ = some u) ∧ X ≠ R ∧ X < W.heap.size := hM.held 11 hp11
      obtain ⟨i0, hi0, hz0, hz1, hz2⟩ := info_parts Zfb
      have hlen : t.rows[j].cs.length ≤ 4 := (HB.out.2.2.2.2.2.2.2 _ (List.getElem_mem hj)).1
      rw [if_pos (by simp [Region.wanted])]
      refine Zi8 W (.tmp 86) (.tmp 89) 82 rfl (w.heap.size + 1) 105 i0 _ 11 96 Zfs hi0 hz0 hz1 hz2 rfl (by decide) _ _ _ (by simp [Act.eval, v8]; exact HUJ.out) (q2.2.1 j hju hj) ⟨Y, 0, none⟩ 1 1 (Qv c) (by simp [Act.eval, v11]) rfl (Zqw hY1) (Zme c) (by unfold maxLen; omega) (by omega) (by have := hTW.pos; omega) ?_
      intro v9 W9 ho9 hg9 hw9
      have hlt12 : 12 < l.size := by rw [hM.size]; decide
      refine hK.out _ _ (Or.inr (Or.inl ⟨Zd vs 12 v9, by simp [Zd, Act.put], c, v9, fun j h3 hj => ?_, by simpa using hM.size, by rw [getD_set_ne false (by decide)]; exact hM.last 15 (by decide), (fun h => by (rw [getD_set_ne false (by decide), hM.last 14 (by decide)] at h; cases h)), ?_, hc1, rfl, W, hTW.mono (by omega), q1, q2, hg9, ho9, hw9⟩))
      · by_cases e : j = 12
        · subst e; simp [Array.getD, hM.size]
        rw [getD_set_ne false (Ne.symm e)]
        obtain rfl|rfl|rfl|rfl|rfl|rfl|rfl|rfl|rfl : j = 3 ∨ j = 4 ∨ j = 5 ∨ j = 6 ∨ j = 7 ∨ j = 8 ∨ j = 9 ∨ j = 10 ∨ j = 11 := by omega
        all_goals assumption
      refine Zn8.set (fun j u hu hlj => ?_) 12 v9 (fun u hu => by cases hu)
      rcases Nat.lt_or_ge j 12 with hj12 | hj12
      ·
       have hh := hM.held j hlj
       obtain rfl|rfl|rfl|rfl|rfl|rfl|rfl|rfl|rfl|rfl|rfl|rfl : j = 0 ∨ j = 1 ∨ j = 2 ∨ j = 3 ∨ j = 4 ∨ j = 5 ∨ j = 6 ∨ j = 7 ∨ j = 8 ∨ j = 9 ∨ j = 10 ∨ j = 11 := by omega
       · injection hu with hu; subst hu; exact hh
       · injection hu with hu; subst hu; exact hh
       · injection hu with hu; subst hu; exact hh
       · cases hu
       · cases hu
       · cases hu
       · cases hu
       · cases hu
       · cases hu
       · cases hu
       · cases hu
       cases hu
      rw [hM.last j hj12] at hlj; cases hlj
     · have hm := hpre ⟨12, .phase⟩ (by simp) rfl
       rw [hM.last 12 (by decide)] at hm
       cases hm
     · have hm := hpre ⟨12, .phase⟩ (by simp) rfl
       rw [hM.last 12 (by decide)] at hm
       cases hm
     have hm := hpre ⟨12, .data⟩ (by simp) rfl
     rw [hM.last 12 (by decide)] at hm
     cases hm
    ·
     obtain ⟨c, v9, hall, hsz2, hl15, h1413, hLV, hcb, h12, hS⟩ := hS
     have hno : ¬ (3 ≤ i ∧ i < 13) := fun h => by have h1 := hall i h.1 h.2; rw [Qa (by omega) false true, hl] at h1; cases h1
     obtain rfl|rfl|rfl|rfl|rfl|rfl : i = 0 ∨ i = 1 ∨ i = 2 ∨ i = 13 ∨ i = 14 ∨ i = 15 := by omega
     · simp only [List.getElem?_toArray, List.getElem?_cons_zero, List.getElem?_cons_succ, Option.some.injEq] at ho
       subst ho
       go_simp
       refine hK.out _ _ (Or.inr (Or.inl ⟨Zd vs 0 (.pointer (some ⟨W1.heap.size, 3, none⟩)), by simp [Zd, h12], c, v9, fun j h3 hj => ?_, by simpa using hsz2, by rw [getD_set_ne false (by decide)]; exact hl15, fun h => by rw [getD_set_ne false (by decide)] at h ⊢; exact h1413 h, hLV.set 0 _ (fun u hu => Option.some.inj hu), hcb, h12, hS⟩))
       by_cases e : 0 = j
       · subst e; simp [Array.getD, hsz2]
       rw [getD_set_ne false e]; exact hall j h3 hj
     ·
      simp only [List.getElem?_toArray, List.getElem?_cons_zero, List.getElem?_cons_succ, Option.some.injEq] at ho
      subst ho
      have v0 : vs 0 = .pointer (some ⟨W1.heap.size, 3, none⟩) := hLV 0 _ rfl (hpre ⟨0, .data⟩ (by simp) rfl)
      have c9 : W.cell? ⟨W1.heap.size, 3, none⟩ = some (.slice (some ⟨g, 0, none⟩) t.rows.length kr) := hS.blk.1 3 _ rfl
      rw [v0]
      go_simp
      refine hK.out _ _ (Or.inr (Or.inl ⟨Zd vs 1 (.slice (some ⟨g, 0, none⟩) t.rows.length kr), by simp [Zd, h12, v0], c, v9, fun j h3 hj => ?_, by simpa using hsz2, by rw [getD_set_ne false (by decide)]; exact hl15, fun h => by rw [getD_set_ne false (by decide)] at h ⊢; exact h1413 h, hLV.set 1 _ (fun u hu => Option.some.inj hu), hcb, h12, hS⟩))
      by_cases e : 1 = j
      · subst e; simp [Array.getD, hsz2]
      rw [getD_set_ne false e]; exact hall j h3 hj
     · simp only [List.getElem?_toArray, List.getElem?_cons_zero, List.getElem?_cons_succ, Option.some.injEq] at ho
       subst ho
       go_simp
       refine hK.out _ _ (Or.inr (Or.inl ⟨Zd vs 2 (.int .i64 (j : Int)), by simp [Zd, h12], c, v9, fun j h3 hj => ?_, by simpa using hsz2, by rw [getD_set_ne false (by decide)]; exact hl15, fun h => by rw [getD_set_ne false (by decide)] at h ⊢; exact h1413 h, hLV.set 2 _ (fun u hu => Option.some.inj hu), hcb, h12, hS⟩))
       by_cases e : 2 = j
       · subst e; simp [Array.getD, hsz2]
       rw [getD_set_ne false e]; exact hall j h3 hj
     ·
      simp only [List.getElem?_toArray, List.getElem?_cons_zero, List.getElem?_cons_succ, Option.some.injEq] at ho
      subst ho
      have v1 : vs 1 = .slice (some ⟨g, 0, none⟩) t.rows.length kr := hLV 1 _ rfl (hpre ⟨1, .data⟩ (by simp) rfl)
      have v2 : vs 2 = .int .i64 (j : Int) := hLV 2 _ rfl (hpre ⟨2, .data⟩ (by simp) rfl)
      rw [v1, v2]
      go_simp
      refine hK.out _ _ (Or.inr (Or.inl ⟨Zd vs 13 (.pointer (some ⟨g, j * 2, none⟩)), by simp [Zd, h12, v1, v2], c, v9, fun j h3 hj => ?_, by simpa using hsz2, by rw [getD_set_ne false (by decide)]; exact hl15, fun _ => by simp [Array.getD, hsz2], hLV.set 13 _ (fun u hu => Option.some.inj hu), hcb, h12, hS⟩))
      by_cases e : 13 = j
      · subst e; simp [Array.getD, hsz2]
      rw [getD_set_ne false e]; exact hall j h3 hj
     ·
      simp only [List.getElem?_toArray, List.getElem?_cons_zero, List.getElem?_cons_succ, Option.some.injEq] at ho
      subst ho
      have v13 : vs 13 = .pointer (some ⟨g, j * 2, none⟩) := hLV 13 _ rfl (hpre ⟨13, .data⟩ (by simp) rfl)
      rw [v13]
      go_simp
      refine hK.out _ _ (Or.inr (Or.inl ⟨Zd vs 14 (.pointer (some ⟨g, j * 2, none⟩)), by simp [Zd, h12, v13], c, v9, fun j h3 hj => ?_, by simpa using hsz2, by rw [getD_set_ne false (by decide)]; exact hl15, fun _ => by rw [getD_set_ne false (by decide)]; exact hpre ⟨13, .data⟩ (by simp) rfl, hLV.set 14 _ (fun u hu => Option.some.inj hu), hcb, h12, hS⟩))
      by_cases e : 14 = j
      · subst e; simp [Array.getD, hsz2]
      rw [getD_set_ne false e]; exact hall j h3 hj
     simp only [List.getElem?_toArray, List.getElem?_cons_zero, List.getElem?_cons_succ, Option.some.injEq] at ho
     subst ho
     have v14 : vs 14 = .pointer (some ⟨g, j * 2, none⟩) := hLV 14 _ rfl (hpre ⟨14, .data⟩ (by simp) rfl)
     obtain ⟨A9, m9, k9, rfl⟩ := hS.form
     have c9 : W.cell? ⟨g, j * 2, none⟩ = some uj := by rw [HUJ.out]; exact hS.cell
     have f9 := hS.free
     rw [v14, h12]
     go_simp
     refine hK.out _ _ (Or.inr (Or.inr ⟨vs, by simp [v14, h12], fun y hy => ?_, c, hcb, hS.done (Nat.le_refl _)⟩))
     by_cases e : y = 15
     · subst e; simp [Array.getD, hsz2]
     rw [getD_set_ne true (Ne.symm e), Qa (by omega) true false]
     by_cases e0 : 3 ≤ y ∧ y < 13
     · exact hall y e0.1 e0.2
     obtain rfl|rfl|rfl|rfl|rfl : y = 0 ∨ y = 1 ∨ y = 2 ∨ y = 13 ∨ y = 14 := by omega
     · exact hpre ⟨0, .phase⟩ (by simp) rfl
     · exact hpre ⟨1, .phase⟩ (by simp) rfl
     · exact hpre ⟨2, .phase⟩ (by simp) rfl
     · exact h1413 (hpre ⟨14, .data⟩ (by simp) rfl)
     exact hpre ⟨14, .data⟩ (by simp) rfl
    rw [hall i hi] at hl; cases hl
   rintro l a W hall (⟨vs, rfl, hM⟩ | ⟨vs, rfl, hS⟩ | ⟨vs, rfl, _, hT⟩)
   · have h2 := hall 15 (by decide)
     rw [Qa (by rw [hM.size]; decide) true false, hM.last 15 (by decide)] at h2
     cases h2
   · obtain ⟨c, v9, _, hsz2, hl15, _⟩ := hS
     have h2 := hall 15 (by decide)
     rw [Qa (by omega) true false, hl15] at h2
     cases h2
   obtain ⟨c, hcb, hT⟩ := hT
   have HT5 := Za hT
   clear hT hall
   have c0 := HT5.out.blk.1 0 _ rfl
   have c1 := HT5.out.blk.1 1 _ rfl
   have c2 := HT5.out.blk.1 2 _ rfl
   have c3 := HT5.out.blk.1 3 _ rfl
   have c4 := HT5.out.blk.1 4 _ rfl
   have cf := HT5.out.blk.2
   have h0 := HT5.out.res.1 0 _ rfl
   have h1 := HT5.out.res.1 1 _ rfl
   have h2 := HT5.out.res.1 2 _ rfl
   have h3 := HT5.out.res.1 3 _ rfl
   have h4 := HT5.out.res.1 4 _ rfl
   have hf := HT5.out.res.2
   have s8 : w.heap.size < W.heap.size := by have := HT5.out.pos; omega
   go_wp2_with fail
   exact bodyPost_ret (v := .agg #[.slice Ac t.cols.length kc, .int .i64 t.head, .int .i64 t.foot, .slice (some ⟨g, 0, none⟩) t.rows.length kr, .int .i64 t.gap]) (by simp [results, Tryz.results128, go_sem, *]) rfl (Zds (t := { t with rows := t.rows.set j ⟨t.rows[j].cs ++ [c], t.rows[j].wh⟩ }) (Zle HT5.out.rdr HT5.out.grown HT5.out.own hRl (Nat.le_refl _) (by omega) _ _ _ _ _) (by omega) (Zss HB.out hj hcb))
  clear hj
  have hrl2 := HB.out.2.2.2.2.2.2.1
  go_wp2_with fail
  go_loopg [] 9 (fun gg wr => ∃ (m : Nat) (Az : Option Addr) (kz : Nat), t.rows.length + m ≤ 9 ∧ 9 - (t.rows.length + m) ≤ gg ∧ Aside (ASt w wr R (N + 2000 + 1 + 1 + 1) w.heap.size W1.heap.size (.slice Ac t.cols.length kc) (.slice Az (t.rows.length + m) kz) { t with rows := t.rows ++ List.replicate m ⟨[], false⟩ }))
  case atStart => exact ⟨0, Ar, kr, by omega, by omega, (show Aside _ from Zr7 HT4.out)⟩
  obtain ⟨m, Az, kz, hm9, hg, AT⟩ := hrel
  clear HT4
  have c3 := AT.out.blk.1 3 _ rfl
  have f3 := AT.out.blk.2 3
  by_cases hlt : t.rows.length + m ≤ 8
  ·
   have hltz : ((t.rows.length + m : Nat) : Int) ≤ 8 := by omega
   obtain ⟨us, r1, r2, _⟩ := AT.out.own.rows
   have hlen9 : (t.rows ++ List.replicate m (⟨[], false⟩ : Jv)).length = t.rows.length + m := by simp
   have HLN := Za hlen9
   have HR1 : Hid (wr.ownsRow (w.heap.size + 1) 84 2 (.slice Az (t.rows.length + m) kz) (t.rows.length + m) (Qj us (t.rows ++ List.replicate m ⟨[], false⟩))) := Za (by have := r1; simp only [List.length_append, List.length_replicate] at this; exact this)
   have HR1b := Za r1
   have HR2 := Za r2
   have HP := Za AT.out.pos
   clear r1 r2 hlen9
   obtain ⟨i0, hi0, hz0, hz1, hz2⟩ := info_parts Zu8
   go_wp2_with (at_builtin; refine wpList_append_own _ rfl _ _ 24 rfl (w.heap.size + 1) 84 i0 _ 2 32 Zv9 hi0 hz0 hz1 hz2 rfl (by decide) _ _ _ rfl (Zcs HR1.out _) ⟨wr.heap.size, 0, none⟩ 1 1 [.slice none 0 0, .bool false] rfl rfl (Zu5 (Zj _ _ _ _ _ _ rfl) (Zj _ _ _ _ _ _ rfl)) (Zq2 _ _ _ _) (by unfold maxLen; omega) (by omega) (by have := HP.out; simp; omega) ?_)
   intro v9 W9 ho9 hg9 _
   obtain ⟨A9, k9, rfl⟩ := Zbs ho9
   have HT9 := Za (AT.out.alloc (.cells #[.slice none 0 0, .bool false] 84))
   have HB9 := Za (HT9.out.blk.keep (hg9.block W1.heap.size HT9.out.typ.lt (fun e => (Jo (Zcs HR1.out (.cells #[.slice none 0 0, .bool false] 84)) e.symm).ne HT9.out.typ (by decide) rfl)))
   have HT6 := Za (Zs1 (t := t) (m := m) (HT9.out.row (N' := N + 2000 + 1 + 1 + 1) (Nat.le_refl _) (Zcs HR1b.out _) (HR2.out.keep fun b _ hb => (Zc (Zf wr) _).block b hb) hg9 (by rw [HLN.out]; exact ho9)))
   have d3 : W9.cell? ⟨W1.heap.size, 3, none⟩ = some (.slice Az (t.rows.length + m) kz) := HB9.out.1 3 _ rfl
   have g3 := HB9.out.2 3
   clear ho9 hg9 c3 f3 HB9 HT9 HP HR1 HR1b HR2
   go_wp2_with fail
   go_roundg (9 - (t.rows.length + (m + 1)))
   case measure => omega
   case rel => exact ⟨m + 1, A9, k9, by omega, by omega, (show Aside _ from HT6.out)⟩
  have hltz : ¬ ((t.rows.length + m : Nat) : Int) ≤ 8 := by omega
  have HT5 := Za AT.out
  clear AT c3 f3
  have c0 := HT5.out.blk.1 0 _ rfl
  have c1 := HT5.out.blk.1 1 _ rfl
  have c2 := HT5.out.blk.1 2 _ rfl
  have c3 := HT5.out.blk.1 3 _ rfl
  have c4 := HT5.out.blk.1 4 _ rfl
  have cf := HT5.out.blk.2
  have h0 := HT5.out.res.1 0 _ rfl
  have h1 := HT5.out.res.1 1 _ rfl
  have h2 := HT5.out.res.1 2 _ rfl
  have h3 := HT5.out.res.1 3 _ rfl
  have h4 := HT5.out.res.1 4 _ rfl
  have hf := HT5.out.res.2
  have s8 : w.heap.size < wr.heap.size := by have := HT5.out.pos; omega
  go_wp2_with fail
  exact bodyPost_ret (v := .agg #[.slice Ac t.cols.length kc, .int .i64 t.head, .int .i64 t.foot, .slice Az (t.rows.length + m) kz, .int .i64 t.gap]) (by simp [results, Tryz.results128, go_sem, *]) rfl (Zds (t := { t with rows := t.rows ++ List.replicate m ⟨[], false⟩ }) (Zle HT5.out.rdr HT5.out.grown HT5.out.own hRl (Nat.le_refl _) (by omega) _ _ _ _ _) (by omega) (Ztr HB.out hm9))
 have hgt : 0 < q := by omega
 have c0 := HT2.out.blk.1 0 _ rfl
 have c1 := HT2.out.blk.1 1 _ rfl
 have c2 := HT2.out.blk.1 2 _ rfl
 have c3 := HT2.out.blk.1 3 _ rfl
 have c4 := HT2.out.blk.1 4 _ rfl
 have cf := HT2.out.blk.2
 have h0 := HT2.out.res.1 0 _ rfl
 have h1 := HT2.out.res.1 1 _ rfl
 have h2 := HT2.out.res.1 2 _ rfl
 have h3 := HT2.out.res.1 3 _ rfl
 have h4 := HT2.out.res.1 4 _ rfl
 have hf := HT2.out.res.2
 have s8 : w.heap.size < W2.heap.size := by have := HT2.out.pos; omega
 go_wp2_with fail
 exact bodyPost_ret (v := .agg #[.slice Ac t.cols.length kc, .int .i64 t.head, .int .i64 t.foot, .slice Ar t.rows.length kr, .int .i64 t.gap]) (by simp [results, Tryz.results128, go_sem, *]) rfl (Zds (t := t) (Zle HT2.out.rdr HT2.out.grown HT2.out.own hRl (Nat.le_refl _) (by omega) _ _ _ _ _) (by omega) (Qp HB.out))
end Go.Proofs.YtgdmcmicfoamlaaGreatDoor
