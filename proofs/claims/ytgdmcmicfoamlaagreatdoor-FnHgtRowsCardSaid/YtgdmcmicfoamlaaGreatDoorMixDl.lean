import Derived.Test.YtgdmcmicfoamlaaGreatDoorMixDk
set_option linter.unusedVariables false
set_option linter.unusedSimpArgs false
set_option maxHeartbeats 40000000
set_option maxRecDepth 100000
namespace Go.Proofs.YtgdmcmicfoamlaaGreatDoor
open Go.RowKit
def kc5 (R T : Nat) (vc : Value) : Nat → Kd R
 | 0 => Zbv R (.pointer (some ⟨T, 0, none⟩))
 | 1 => Zbv R vc
 | 2 => Zbv R (.agg #[.int .i64 0, .int .i64 0])
 | 3 => Zbv R (.agg #[.int .i64 0, .int .i64 0])
 | 4 => Zbv R (.pointer (some ⟨R, 0, none⟩))
 | 5 => Zla R (fun z => 0 ≤ z ∧ z < 30)
 | 6 => Zsr R
 | 7 => Zul R 4 (fun z => 0 ≤ z ∧ z ≤ 100)
 | 8 => Zbv R (.pointer (some ⟨R, 0, none⟩))
 | 9 => Zla R (fun z => 0 ≤ z ∧ z < 4)
 | 10 => Zvw R (fun z => 0 ≤ z ∧ z ≤ 100)
 | 11 => Zla R (fun z => 0 ≤ z ∧ z ≤ 100)
 | 12 => Zsr R
 | 13 => Zlt R 4
 | 14 => Zbv R (.pointer (some ⟨R, 0, none⟩))
 | 15 => Zla R (fun z => 0 ≤ z ∧ z < 4)
 | 16 => Zv7 R
 | 17 => Zsr R
 | 18 => Zlt R 1
 | _ => Zr0 R
def Zwg (R X : Nat) (vx : Value) : Nat → Kd R
 | 0 => Zbv R (.pointer (some ⟨X, 0, none⟩))
 | 1 => Zbv R vx
 | 2 => Zbv R (.pointer (some ⟨R, 0, none⟩))
 | 3 => Zu9 R
 | 4 => Zow R
 | _ => Zr0 R
theorem Zme (x : Qi) : ∀ u ∈ Qv x, u.oneCell' = true := by
 intro u hu
 simp only [Qv, List.mem_cons, List.not_mem_nil, or_false] at hu
 rcases hu with rfl|rfl|rfl|rfl|rfl|rfl|rfl|rfl|rfl|rfl|rfl <;> rfl
def Zud (j : Nat) : Nat := if j = 5 ∨ j = 9 ∨ j = 15 then 1 else 0
def Zvs : Nat → List Nat
 | 1 => [0] | 5 => [4] | 6 => [5] | 9 => [8, 5] | 10 => [7, 9] | 11 => [10] | 12 => [11] | 13 => [2, 3, 6, 12] | 15 => [14, 9] | 16 => [13, 15] | 17 => [16] | 18 => [17] | 19 => [1, 18, 15] | _ => []
theorem Zp8 (R : Nat) (W : World) (a b c d : Yq) (T : TypeId) (ha : Yo a) (hb : Yo b) (hc : Yo c) (hd : Yo d) (hR : R < W.heap.size) :
 (Zlt R 4).P (.slice (some ⟨W.heap.size, 0, none⟩) 4 4) (W.alloc (.cells #[.int .i64 a.k, .int .i64 a.n, .int .i64 b.k, .int .i64 b.n, .int .i64 c.k, .int .i64 c.n, .int .i64 d.k, .int .i64 d.n] T)) := by
 refine ⟨W.heap.size, rfl, fun j hj => ?_, by omega, by simp⟩
 match j, hj with
 | 0, _ => exact ⟨a, ha, Zj _ _ _ _ _ _ rfl, Zj _ _ _ _ _ _ rfl⟩
 | 1, _ => exact ⟨b, hb, Zj _ _ _ _ _ _ rfl, Zj _ _ _ _ _ _ rfl⟩
 | 2, _ => exact ⟨c, hc, Zj _ _ _ _ _ _ rfl, Zj _ _ _ _ _ _ rfl⟩
 | 3, _ => exact ⟨d, hd, Zj _ _ _ _ _ _ rfl, Zj _ _ _ _ _ _ rfl⟩
 | j + 4, hj => exact absurd hj (by omega)
theorem Zgj (R : Nat) (W : World) (a : Yq) (T : TypeId) (ha : Yo a) (hR : R < W.heap.size) :
 (Zlt R 1).P (.slice (some ⟨W.heap.size, 0, none⟩) 1 1) (W.alloc (.cells #[.int .i64 a.k, .int .i64 a.n] T)) := by
 refine ⟨W.heap.size, rfl, fun j hj => ?_, by omega, by simp⟩
 match j, hj with
 | 0, _ => exact ⟨a, ha, Zj _ _ _ _ _ _ rfl, Zj _ _ _ _ _ _ rfl⟩
 | j + 1, hj => exact absurd hj (by omega)
instance (x : Yq) : Decidable (Yo x) := by unfold Yo; infer_instance
theorem Zo1 {w : World} {X : Nat} {u0 u1 : Value} (h0 : w.cell? ⟨X, 0, none⟩ = some u0) (h1 : w.cell? ⟨X, 0 + 1, none⟩ = some u1) : ∀ (j : Nat) (u : Value), ([u0, u1] : List Value)[j]? = some u → w.cell? ((⟨X, 0, none⟩ : Addr).add j) = some u := by
 intro j u hu
 match j, hu with
 | 0, hu => injection hu with hu; subst hu; exact h0
 | 1, hu => injection hu with hu; subst hu; exact h1
 | j + 2, hu => cases hu
theorem Zpr (a b : Int) : ∀ u ∈ ([.int .i64 a, .int .i64 b] : List Value), u.oneCell' = true := by
 intro u hu
 simp only [List.mem_cons, List.not_mem_nil, or_false] at hu
 rcases hu with rfl|rfl <;> rfl
def Zoj (r : Jv) : Prop := r.cs.length ≤ 4 ∧ ∀ c ∈ r.cs, Zbl c
def Zhw (t : Tbl) : Prop := -1 ≤ t.head ∧ t.head ≤ 9 ∧ -1 ≤ t.foot ∧ t.foot ≤ 9 ∧ (-1 ≤ t.gap ∧ t.gap ≤ 4) ∧ ((∀ x ∈ t.cols, Yo x) ∧ t.cols.length ≤ 5) ∧ (1 ≤ t.rows.length ∧ t.rows.length ≤ 6) ∧ ∀ r ∈ t.rows, Zoj r
def Zjc (R N : Nat) (w : World) (e : Ending) (w' : World) : Prop :=
 ∃ (t : Tbl) (vc vr : Value), e = .returned (.agg #[vc, .int .i64 t.head, .int .i64 t.foot, vr, .int .i64 t.gap]) ∧ Zhw t ∧ Qh w' R N ∧ w.grownBy w' (some R) ∧ Ju w' w.heap.size vc vr t
theorem Zkk {t : Tbl} {vc vr : Value} {w w' : World} {R N N' : Nat} {m : Nat} (h : Qh w' R N ∧ w.grownBy w' (some R) ∧ Ju w' w.heap.size vc vr t) (hN : N ≤ N')
 (hb : -1 ≤ t.head ∧ t.head ≤ 9 ∧ -1 ≤ t.foot ∧ t.foot ≤ 9 ∧ (-1 ≤ t.gap ∧ t.gap ≤ 4) ∧ ((∀ x ∈ t.cols, Yo x) ∧ t.cols.length ≤ 5) ∧ (t.rows.length = m + 1 ∧ ∀ r ∈ t.rows, Zoj r)) (hm : m < 6) : Zjc R N' w (.returned (.agg #[vc, .int .i64 t.head, .int .i64 t.foot, vr, .int .i64 t.gap])) w' := by
 obtain ⟨b1, b2, b3, b4, b5, b6, b7, b8⟩ := hb
 exact ⟨t, vc, vr, rfl, ⟨b1, b2, b3, b4, b5, b6, by omega, b8⟩, h.1.mono hN, h.2.1, h.2.2⟩
theorem Zrw {vr : Value} {w w' : World} {R N N' : Nat} (h : Qh w' R N ∧ w.grownBy w' (some R) ∧ Ju w' w.heap.size (.slice none 0 0) vr ⟨[], 0, 0, [⟨[], false⟩], 0⟩) (hN : N ≤ N') :
 Zjc R N' w (.returned (.agg #[.slice none 0 0, .int .i64 0, .int .i64 0, vr, .int .i64 0])) w' :=
 ⟨⟨[], 0, 0, [⟨[], false⟩], 0⟩, _, vr, rfl, ⟨by decide, by decide, by decide, by decide, by decide, by constructor <;> simp, by decide, fun r hr => by rw [List.mem_singleton.1 hr]; exact ⟨by decide, fun c hc => by simp at hc⟩⟩, h.1.mono hN, h.2.1, h.2.2⟩
theorem Zig {w W : World} {R N N' H : Nat} (hr : Qh W R N) (hg : w.grownBy W (some R)) (hR : R < w.heap.size) (hH : w.heap.size ≤ H) (v0 v1 v2 v3 v4 : Value) (hN : N ≤ N') :
 Zjc R N' w (.returned (.agg #[.slice none 0 0, .int .i64 0, .int .i64 0, .slice (some ⟨W.heap.size, 0, none⟩) 1 1, .int .i64 0])) ((((((W.setCell ⟨H, 0, none⟩ v0).setCell ⟨H, 1, none⟩ v1).setCell ⟨H, 2, none⟩ v2).setCell ⟨H, 3, none⟩ v3).setCell ⟨H, 4, none⟩ v4).alloc (.cells #[.slice none 0 0, .bool false] 84)) := by
 have h1 := Ze (Ze (Ze (Ze (Ze (And.intro hr hg) hR hH 0 v0) hR hH 1 v1) hR hH 2 v2) hR hH 3 v3) hR hH 4 v4
 have hs : (((((W.setCell ⟨H, 0, none⟩ v0).setCell ⟨H, 1, none⟩ v1).setCell ⟨H, 2, none⟩ v2).setCell ⟨H, 3, none⟩ v3).setCell ⟨H, 4, none⟩ v4).heap.size = W.heap.size := by simp
 generalize (((((W.setCell ⟨H, 0, none⟩ v0).setCell ⟨H, 1, none⟩ v1).setCell ⟨H, 2, none⟩ v2).setCell ⟨H, 3, none⟩ v3).setCell ⟨H, 4, none⟩ v4) = U at h1 hs ⊢
 rw [← hs]
 exact Zrw ⟨h1.1.below (Zc (Zf U) _), Zk h1.2 (World.grownBy_alloc U _ _), Zrm U w.heap.size h1.2.size⟩ hN
theorem Zpd {g : Int} (h : 0 ≤ g ∧ g < 4) : -1 ≤ g ∧ g ≤ 4 := by omega
theorem Zgh {rows : List Jv} (h : ∀ r ∈ rows, Zoj r) : ∀ r ∈ rows, ∀ c ∈ r.cs, c.t.size ≤ 1048576 := fun r hr c hc => Nat.le_trans ((h r hr).2 c hc).1 (by decide)
theorem Zt0 (R N : Nat) (w : World) (h : Qh w R N) (hN : N ≤ 500000) :
 Calls Tryz.prog 185 #[.pointer (some ⟨R, 0, none⟩)] w (Zjc R (N + 2000) w) := by
 have hRl := h.lt
 have HR := Za h
 clear h
 go_enter Tryz.func185, Tryz.ntmps185
 go_wp2_with fail
 refine (pick R N 4 _ (HR.out.below (Zc (Zf w) _)) (by omega) (by decide)).mono ?_
 rintro e W1 ⟨gap, rfl, hg0, hg1, hR1, hgr1⟩
 have hl1 := hg1 (by decide)
 have hs1 : w.heap.size < W1.heap.size := by have := hgr1.size; simp at this; omega
 have HT1 := Za (TSt.new (H := w.heap.size) (T := W1.heap.size) (gap := gap) (hR1.below (Zc (Zf W1) (.cells #[.slice none 0 0, .int .i64 0, .int .i64 0, .slice none 0 0, .int .i64 gap] 26))) (Zk (Zk (World.grownBy_alloc w _ _) hgr1) (World.grownBy_alloc W1 _ _)) ⟨Nat.le_refl _, hRl, hs1, by simp⟩
  (((Zh.new w Zec 26).keep (Qm hgr1 (by omega) (by simp))).keep ((Zc (Zf W1) _).block _ hs1)) (Zh.new W1 [.slice none 0 0, .int .i64 0, .int .i64 0, .slice none 0 0, .int .i64 gap] 26))
 have HG := Za (And.intro hg0 hl1)
 clear hR1 hgr1 hg1 hg0 hl1
 go_wp2_with fail
 refine (pick R (N + 1) 6 _ HT1.out.rdr (by omega) (by decide)).mono ?_
 rintro e W2 ⟨k, rfl, hk0, hk1, hR2, hg2⟩
 have hk6 := hk1 (by decide)
 have HT2 := Za (HT1.out.pick hR2 hg2)
 clear hk1 hR2 hg2 HT1
 obtain ⟨n, rfl⟩ := Int.eq_ofNat_of_zero_le hk0
 go_wp2
 go_loopg [4] 6 (fun gg s4 wr => ∃ (kk : Nat) (xs : List Yq) (vc : Value), kk ≤ gg ∧ kk ≤ 5 ∧ s4 = .int .i64 kk ∧ Aside (TSt w wr R (N + 17 - 3 * kk) w.heap.size W1.heap.size vc (.slice none 0 0) ⟨xs, 0, 0, [], gap⟩) ∧ Aside ((∀ x ∈ xs, Yo x) ∧ xs.length + kk ≤ 5))
 case atStart => exact ⟨n, [], _, by omega, by omega, rfl, (show Aside _ from HT2.out.mono (by omega)), (show Aside _ from ⟨fun x hx => by simp at hx, by simp; omega⟩)⟩
 obtain ⟨kk, xs, vc, hg, hk5, rfl, AT, AX⟩ := hrel
 clear HT2
 by_cases hlt : 0 < kk
 ·
  have hltz : (0 : Int) < (kk : Int) := by omega
  go_wp2_with fail
  have HTD := Za (AT.out.pick (AT.out.rdr.below (Zt (Zf wr))) (Qd (Zt (Zf _))))
  refine Qe (fun l a W => (∃ vs : Nat → Value, a = ⟨List.toArray (.pointer (some ⟨R, 0, none⟩) :: Zb :: .pointer (some ⟨w.heap.size, 0, none⟩) :: .pointer (some ⟨W1.heap.size, 0, none⟩) :: .int .i64 ↑kk :: Zb :: Zb :: Zb :: Zb :: .pointer (some ⟨R, 0, none⟩) :: .int .i64 gap :: .agg #[.slice none 0 0, .int .i64 0, .int .i64 0, .slice none 0 0, .int .i64 gap] :: .pointer (some ⟨R, 0, none⟩) :: .int .i64 ↑n :: .int .i64 ↑kk :: .bool true :: u16 :: u17 :: vs 0 :: vs 1 :: vs 2 :: vs 3 :: vs 4 :: vs 5 :: vs 6 :: vs 7 :: vs 8 :: vs 9 :: vs 10 :: vs 11 :: vs 12 :: vs 13 :: vs 14 :: vs 15 :: vs 16 :: vs 17 :: vs 18 :: vs 19 :: vs 20 :: Zb :: Zb :: Zb :: Zb :: Zb :: Zb :: Zb :: Zb :: Zb :: Zb :: Zb :: Zb :: Zb :: Zb :: Zb :: Zb :: Zb :: Zb :: Zb :: Zb :: Zb :: Zb :: Zb :: Zb :: Zb :: Zb :: Zb :: Zb :: Zb :: Zb :: Zb :: Zb :: Zb :: Zb :: Zb :: Zb :: Zb :: Zb :: Zb :: Zb :: Zb :: Zb :: Zb :: Zb :: Zb :: Zb :: Zb :: Zb :: Zb :: Zb :: Zb :: Zb :: Zb :: Zb :: Zb :: []), []⟩ ∧ Zb6 (kc5 R W1.heap.size vc) Zud Zvs 22 19 wr.drew (N + 17 - 3 * kk) l vs W) ∨ (∃ (vs : Nat → Value) (x : Yq) (v9 : Value), a = ⟨List.toArray (.pointer (some ⟨R, 0, none⟩) :: Zb :: .pointer (some ⟨w.heap.size, 0, none⟩) :: .pointer (some ⟨W1.heap.size, 0, none⟩) :: .int .i64 ↑kk :: Zb :: Zb :: Zb :: Zb :: .pointer (some ⟨R, 0, none⟩) :: .int .i64 gap :: .agg #[.slice none 0 0, .int .i64 0, .int .i64 0, .slice none 0 0, .int .i64 gap] :: .pointer (some ⟨R, 0, none⟩) :: .int .i64 ↑n :: .int .i64 ↑kk :: .bool true :: u16 :: u17 :: vs 0 :: vs 1 :: vs 2 :: vs 3 :: vs 4 :: vs 5 :: vs 6 :: vs 7 :: vs 8 :: vs 9 :: vs 10 :: vs 11 :: vs 12 :: vs 13 :: vs 14 :: vs 15 :: vs 16 :: vs 17 :: vs 18 :: vs 19 :: vs 20 :: Zb :: Zb :: Zb :: Zb :: Zb :: Zb :: Zb :: Zb :: Zb :: Zb :: Zb :: Zb :: Zb :: Zb :: Zb :: Zb :: Zb :: Zb :: Zb :: Zb :: Zb :: Zb :: Zb :: Zb :: Zb :: Zb :: Zb :: Zb :: Zb :: Zb :: Zb :: Zb :: Zb :: Zb :: Zb :: Zb :: Zb :: Zb :: Zb :: Zb :: Zb :: Zb :: Zb :: Zb :: Zb :: Zb :: Zb :: Zb :: Zb :: Zb :: Zb :: Zb :: Zb :: Zb :: Zb :: []), []⟩ ∧ (∀ j, j < 20 → l.getD j false = true) ∧ l.size = 22 ∧ l.getD 21 false = false ∧ (l.getD 20 false = true → vs 20 = .pointer (some ⟨W1.heap.size, 0, none⟩)) ∧ Yo x ∧ vs 19 = v9 ∧ Zjn w R (N + 17 - 3 * kk + 3) w.heap.size W1.heap.size vc (.slice none 0 0) ⟨xs, 0, 0, [], gap⟩ x v9 W) ∨ (∃ (vs : Nat → Value) (x : Yq) (v9 : Value), a = ⟨List.toArray (.pointer (some ⟨R, 0, none⟩) :: Zb :: .pointer (some ⟨w.heap.size, 0, none⟩) :: .pointer (some ⟨W1.heap.size, 0, none⟩) :: .int .i64 ↑kk :: Zb :: Zb :: Zb :: Zb :: .pointer (some ⟨R, 0, none⟩) :: .int .i64 gap :: .agg #[.slice none 0 0, .int .i64 0, .int .i64 0, .slice none 0 0, .int .i64 gap] :: .pointer (some ⟨R, 0, none⟩) :: .int .i64 ↑n :: .int .i64 ↑kk :: .bool true :: u16 :: u17 :: vs 0 :: vs 1 :: vs 2 :: vs 3 :: vs 4 :: vs 5 :: vs 6 :: vs 7 :: vs 8 :: vs 9 :: vs 10 :: vs 11 :: vs 12 :: vs 13 :: vs 14 :: vs 15 :: vs 16 :: vs 17 :: vs 18 :: vs 19 :: vs 20 :: Zb :: Zb :: Zb :: Zb :: Zb :: Zb :: Zb :: Zb :: Zb :: Zb :: Zb :: Zb :: Zb :: Zb :: Zb :: Zb :: Zb :: Zb :: Zb :: Zb :: Zb :: Zb :: Zb :: Zb :: Zb :: Zb :: Zb :: Zb :: Zb :: Zb :: Zb :: Zb :: Zb :: Zb :: Zb :: Zb :: Zb :: Zb :: Zb :: Zb :: Zb :: Zb :: Zb :: Zb :: Zb :: Zb :: Zb :: Zb :: Zb :: Zb :: Zb :: Zb :: Zb :: Zb :: Zb :: []), []⟩ ∧ (∀ j, j < 22 → l.getD j true = true) ∧ Yo x ∧ TSt w W R (N + 17 - 3 * kk + 3) w.heap.size W1.heap.size v9 (.slice none 0 0) ⟨xs ++ [x], 0, 0, [], gap⟩)) (by kernel_rfl) ?top ?start ?step ?fin
  case top => exact Zae (by kernel_rfl)
  case start => exact Or.inl ⟨(fun j => match j with | 0 => u18 | 1 => u19 | 2 => u20 | 3 => u21 | 4 => u22 | 5 => u23 | 6 => u24 | 7 => u25 | 8 => u26 | 9 => u27 | 10 => u28 | 11 => u29 | 12 => u30 | 13 => u31 | 14 => u32 | 15 => u33 | 16 => u34 | 17 => u35 | 18 => u36 | 19 => u37 | 20 => u38 | _ => undef), rfl, Zb6.start HTD.out.rdr⟩
  case step =>
   intro l a W i o ho hl hpre hsz hI K hK
   have hi : i < 22 := (Array.getElem?_eq_some_iff.1 ho).1
   rcases hI with ⟨vs, rfl, hM⟩ | ⟨vs, x, v9, rfl, hall, hsz2, hl21, h20, hxb, h19, hS⟩ | ⟨_, _, _, _, hall, _⟩
   ·
    obtain ⟨p, hr, hp⟩ := hM.rdr
    have hpM := hM.le (c := 3) rfl
    have hTW := HTD.out.pick hr hM.grown
    have hRW := hr.lt
    obtain rfl|rfl|rfl|rfl|rfl|rfl|rfl|rfl|rfl|rfl|rfl|rfl|rfl|rfl|rfl|rfl|rfl|rfl|rfl|rfl|rfl|rfl := Zwl hi
    all_goals
     simp only [List.getElem?_toArray, List.getElem?_cons_zero, List.getElem?_cons_succ, Option.some.injEq] at ho
     subst ho
     have hPR := Zce hpre
    · go_simp
      exact hK.out _ _ (Or.inl ⟨Zd vs 0 (.pointer (some ⟨W1.heap.size, 0, none⟩)), rfl, hM.still hl (by decide) (by decide) rfl _ rfl⟩)
    · have hp0 := hPR 0 rfl
      have v0 : vs 0 = .pointer (some ⟨W1.heap.size, 0, none⟩) := hM.held 0 hp0
      have c9 : W.cell? ⟨W1.heap.size, 0, none⟩ = some vc := hTW.blk.1 0 _ rfl
      rw [v0]
      go_simp
      exact hK.out _ _ (Or.inl ⟨Zd vs 1 (vc), by simp [Zd, v0], hM.still hl (by decide) (by decide) (ga hp0 rfl) _ rfl⟩)
    · go_simp
      exact hK.out _ _ (Or.inl ⟨Zd vs 2 (.agg #[.int .i64 0, .int .i64 0]), rfl, hM.still hl (by decide) (by decide) rfl _ rfl⟩)
    · go_simp
      exact hK.out _ _ (Or.inl ⟨Zd vs 3 (.agg #[.int .i64 0, .int .i64 0]), rfl, hM.still hl (by decide) (by decide) rfl _ rfl⟩)
    · go_simp
      exact hK.out _ _ (Or.inl ⟨Zd vs 4 (.pointer (some ⟨R, 0, none⟩)), rfl, hM.still hl (by decide) (by decide) rfl _ rfl⟩)
    ·
     have hp4 := hPR 4 rfl
     have v0 : vs 4 = .pointer (some ⟨R, 0, none⟩) := hM.held 4 hp4
     rw [v0]
     go_simp
     refine (pick R p 30 _ hr (by omega) (by decide)).mono ?_
     rintro e W5 ⟨q, rfl, hq0, hq1, hR1, hg1⟩
     have hq2 := hq1 (by decide)
     exact hK.out _ _ (Or.inl ⟨Zd vs 5 (.int .i64 q), by simp [Zd, v0], hM.picked hl (by decide) (by decide) (ga hp4 rfl) _ hp hg1 hR1 ⟨q, rfl, hq0, hq2⟩⟩)
    · have hp5 := hPR 5 rfl
      obtain ⟨z, v0, hz1, hz2⟩ : ∃ z : Int, vs 5 = .int .i64 z ∧ 0 ≤ z ∧ z < 30 := hM.held 5 hp5
      rw [v0]
      go_simp
      exact hK.out _ _ (Or.inl ⟨Zd vs 6 (.agg #[.int .i64 1, .int .i64 z]), by simp [Zd, v0], hM.still hl (by decide) (by decide) (ga hp5 rfl) _ ⟨⟨1, z⟩, rfl, by show (0 : Int) ≤ 1; decide, by show (1 : Int) ≤ 3; decide, by show -1 ≤ z; omega, by show z ≤ 101; omega⟩⟩)
    · go_simp
      exact hK.out _ _ (Or.inl ⟨Zd vs 7 (.slice (some ⟨W.heap.size, 0, none⟩) 4 4), rfl, hM.made hl (by decide) (by decide) rfl _ _ (Zhr R 4 _ W [10, 25, 50, 100] _ rfl (by decide) hRW)⟩)
    · go_simp
      exact hK.out _ _ (Or.inl ⟨Zd vs 8 (.pointer (some ⟨R, 0, none⟩)), rfl, hM.still hl (by decide) (by decide) rfl _ rfl⟩)
    ·
     have hp8 := hPR 8 rfl
     have hp5 := hPR 5 rfl
     have v0 : vs 8 = .pointer (some ⟨R, 0, none⟩) := hM.held 8 hp8
     rw [v0]
     go_simp
     refine (pick R p 4 _ hr (by omega) (by decide)).mono ?_
     rintro e W5 ⟨q, rfl, hq0, hq1, hR1, hg1⟩
     have hq2 := hq1 (by decide)
     exact hK.out _ _ (Or.inl ⟨Zd vs 9 (.int .i64 q), by simp [Zd, v0], hM.picked hl (by decide) (by decide) (ga hp8 (ga hp5 rfl)) _ hp hg1 hR1 ⟨q, rfl, hq0, hq2⟩⟩)
    ·
     have hp7 := hPR 7 rfl
     have hp9 := hPR 9 rfl
     obtain ⟨X, v1, hX1, hX2, hX3⟩ : ∃ X, vs 7 = .slice (some ⟨X, 0, none⟩) 4 4 ∧ (∀ j, j < 4 → ∃ z : Int, (0 ≤ z ∧ z ≤ 100) ∧ W.cell? ⟨X, j, none⟩ = some (.int .i64 z)) ∧ X ≠ R ∧ X < W.heap.size := hM.held 7 hp7
     obtain ⟨z, v2, hz1, hz2⟩ : ∃ z : Int, vs 9 = .int .i64 z ∧ 0 ≤ z ∧ z < 4 := hM.held 9 hp9
     obtain ⟨q, rfl⟩ := Int.eq_ofNat_of_zero_le hz1
     have hq4 : (q : Int) < 4 := hz2
     obtain ⟨y, hy1, hy2⟩ := hX1 q (by omega)
     rw [v1, v2]
     go_simp
     exact hK.out _ _ (Or.inl ⟨Zd vs 10 (.pointer (some ⟨X, q, none⟩)), by simp [Zd, v1, v2], hM.still hl (by decide) (by decide) (ga hp7 (ga hp9 rfl)) _ ⟨X, q, y, rfl, hy1, hy2, hX2, hX3⟩⟩)
    · have hp10 := hPR 10 rfl
      obtain ⟨X, q, y, v1, hy1, hy2, hX2, hX3⟩ : ∃ (X q : Nat) (z : Int), vs 10 = .pointer (some ⟨X, q, none⟩) ∧ (0 ≤ z ∧ z ≤ 100) ∧ W.cell? ⟨X, q, none⟩ = some (.int .i64 z) ∧ X ≠ R ∧ X < W.heap.size := hM.held 10 hp10
      rw [v1]
      go_simp
      exact hK.out _ _ (Or.inl ⟨Zd vs 11 (.int .i64 y), by simp [Zd, v1], hM.still hl (by decide) (by decide) (ga hp10 rfl) _ ⟨y, rfl, hy1⟩⟩)
    · have hp11 := hPR 11 rfl
      obtain ⟨z, v0, hz1, hz2⟩ : ∃ z : Int, vs 11 = .int .i64 z ∧ 0 ≤ z ∧ z ≤ 100 := hM.held 11 hp11
      rw [v0]
      go_simp
      exact hK.out _ _ (Or.inl ⟨Zd vs 12 (.agg #[.int .i64 2, .int .i64 z]), by simp [Zd, v0], hM.still hl (by decide) (by decide) (ga hp11 rfl) _ ⟨⟨2, z⟩, rfl, by show (0 : Int) ≤ 2; decide, by show (2 : Int) ≤ 3; decide, by show -1 ≤ z; omega, by show z ≤ 101; omega⟩⟩)
    ·
     have hp2 := hPR 2 rfl
     have hp3 := hPR 3 rfl
     have hp6 := hPR 6 rfl
     have hp12 := hPR 12 rfl
     have v2 : vs 2 = .agg #[.int .i64 0, .int .i64 0] := hM.held 2 hp2
     have v3 : vs 3 = .agg #[.int .i64 0, .int .i64 0] := hM.held 3 hp3
     obtain ⟨x6, v6, hx6⟩ : ∃ x : Yq, vs 6 = .agg #[.int .i64 x.k, .int .i64 x.n] ∧ Yo x := hM.held 6 hp6
     obtain ⟨x12, v12, hx12⟩ : ∃ x : Yq, vs 12 = .agg #[.int .i64 x.k, .int .i64 x.n] ∧ Yo x := hM.held 12 hp12
     rw [v2, v3, v6, v12]
     go_simp
     exact hK.out _ _ (Or.inl ⟨Zd vs 13 (.slice (some ⟨W.heap.size, 0, none⟩) 4 4), by simp [Zd, v2, v3, v6, v12], hM.made hl (by decide) (by decide) (ga hp2 (ga hp3 (ga hp6 (ga hp12 rfl)))) _ _ (Zp8 R W ⟨0, 0⟩ ⟨0, 0⟩ x6 x12 _ (by decide) (by decide) hx6 hx12 hRW)⟩)
    · go_simp
      exact hK.out _ _ (Or.inl ⟨Zd vs 14 (.pointer (some ⟨R, 0, none⟩)), rfl, hM.still hl (by decide) (by decide) rfl _ rfl⟩)
    ·
     have hp14 := hPR 14 rfl
     have hp9 := hPR 9 rfl
     have v0 : vs 14 = .pointer (some ⟨R, 0, none⟩) := hM.held 14 hp14
     rw [v0]
     go_simp
     refine (pick R p 4 _ hr (by omega) (by decide)).mono ?_
     rintro e W5 ⟨q, rfl, hq0, hq1, hR1, hg1⟩
     have hq2 := hq1 (by decide)
     exact hK.out _ _ (Or.inl ⟨Zd vs 15 (.int .i64 q), by simp [Zd, v0], hM.picked hl (by decide) (by decide) (ga hp14 (ga hp9 rfl)) _ hp hg1 hR1 ⟨q, rfl, hq0, hq2⟩⟩)
    ·
     have hp13 := hPR 13 rfl
     have hp15 := hPR 15 rfl
     obtain ⟨X, v1, hX1, hX2, hX3⟩ : ∃ X, vs 13 = .slice (some ⟨X, 0, none⟩) 4 4 ∧ (∀ j, j < 4 → ∃ x : Yq, Yo x ∧ W.cell? ⟨X, j * 2, none⟩ = some (.int .i64 x.k) ∧ W.cell? ⟨X, j * 2 + 1, none⟩ = some (.int .i64 x.n)) ∧ X ≠ R ∧ X < W.heap.size := hM.held 13 hp13
     obtain ⟨z, v2, hz1, hz2⟩ : ∃ z : Int, vs 15 = .int .i64 z ∧ 0 ≤ z ∧ z < 4 := hM.held 15 hp15
     obtain ⟨q, rfl⟩ := Int.eq_ofNat_of_zero_le hz1
     have hq4 : (q : Int) < 4 := hz2
     obtain ⟨y, hy1, hy2, hy3⟩ := hX1 q (by omega)
     rw [v1, v2]
     go_simp
     exact hK.out _ _ (Or.inl ⟨Zd vs 16 (.pointer (some ⟨X, q * 2, none⟩)), by simp [Zd, v1, v2], hM.still hl (by decide) (by decide) (ga hp13 (ga hp15 rfl)) _ ⟨X, q * 2, y, rfl, hy1, hy2, hy3, hX2, hX3⟩⟩)
    · have hp16 := hPR 16 rfl
      obtain ⟨X, q, y, v1, hy1, hy2, hy3, hX2, hX3⟩ : ∃ (X q : Nat) (x : Yq), vs 16 = .pointer (some ⟨X, q, none⟩) ∧ Yo x ∧ W.cell? ⟨X, q, none⟩ = some (.int .i64 x.k) ∧ W.cell? ⟨X, q + 1, none⟩ = some (.int .i64 x.n) ∧ X ≠ R ∧ X < W.heap.size := hM.held 16 hp16
      rw [v1]
      go_simp
      exact hK.out _ _ (Or.inl ⟨Zd vs 17 (.agg #[.int .i64 y.k, .int .i64 y.n]), by simp [Zd, v1], hM.still hl (by decide) (by decide) (ga hp16 rfl) _ ⟨y, rfl, hy1⟩⟩)
    · have hp17 := hPR 17 rfl
      obtain ⟨x6, v6, hx6⟩ : ∃ x : Yq, vs 17 = .agg #[.int .i64 x.k, .int .i64 x.n] ∧ Yo x := hM.held 17 hp17
      rw [v6]
      go_simp
      exact hK.out _ _ (Or.inl ⟨Zd vs 18 (.slice (some ⟨W.heap.size, 0, none⟩) 1 1), by simp [Zd, v6], hM.made hl (by decide) (by decide) (ga hp17 rfl) _ _ (Zgj R W x6 _ hx6 hRW)⟩)
    ·
     have hp1 := hPR 1 rfl
     have hp18 := hPR 18 rfl
     have hp15 := hPR 15 rfl
     have v1 : vs 1 = vc := hM.held 1 hp1
     obtain ⟨X, v8, hX1, hX2, hX3⟩ : ∃ X, vs 18 = .slice (some ⟨X, 0, none⟩) 1 1 ∧ (∀ j, j < 1 → ∃ x : Yq, Yo x ∧ W.cell? ⟨X, j * 2, none⟩ = some (.int .i64 x.k) ∧ W.cell? ⟨X, j * 2 + 1, none⟩ = some (.int .i64 x.n)) ∧ X ≠ R ∧ X < W.heap.size := hM.held 18 hp18
     obtain ⟨x, hx0, hx1, hx2⟩ := hX1 0 (by decide)
     rw [Nat.zero_mul] at hx1 hx2
     have hp17 := Qw (hM.clo 18 hp18) (show 17 ∈ [17] by decide)
     have hp16 := Qw (hM.clo 17 hp17) (show 16 ∈ [16] by decide)
     have hp13 := Qw (hM.clo 16 hp16) (show 13 ∈ [13, 15] by decide)
     have hp2 := Qw (hM.clo 13 hp13) (show 2 ∈ [2, 3, 6, 12] by decide)
     have hp3 := Qw (hM.clo 13 hp13) (show 3 ∈ [2, 3, 6, 12] by decide)
     have hp6 := Qw (hM.clo 13 hp13) (show 6 ∈ [2, 3, 6, 12] by decide)
     have hp12 := Qw (hM.clo 13 hp13) (show 12 ∈ [2, 3, 6, 12] by decide)
     have hp11 := Qw (hM.clo 12 hp12) (show 11 ∈ [11] by decide)
     have hp10 := Qw (hM.clo 11 hp11) (show 10 ∈ [10] by decide)
     have hp7 := Qw (hM.clo 10 hp10) (show 7 ∈ [7, 9] by decide)
     have hp9 := Qw (hM.clo 10 hp10) (show 9 ∈ [7, 9] by decide)
     have hp8 := Qw (hM.clo 9 hp9) (show 8 ∈ [8, 5] by decide)
     have hp5 := Qw (hM.clo 9 hp9) (show 5 ∈ [8, 5] by decide)
     have hp4 := Qw (hM.clo 5 hp5) (show 4 ∈ [4] by decide)
     have hp14 := Qw (hM.clo 15 hp15) (show 14 ∈ [14, 9] by decide)
     have hp0 := Qw (hM.clo 1 hp1) (show 0 ∈ [0] by decide)
     obtain ⟨i0, hi0, hz0, hz1, hz2⟩ := info_parts Zdw
     have hlen : (⟨xs, 0, 0, [], gap⟩ : Tbl).cols.length ≤ 5 := by have := AX.out.2; show xs.length ≤ 5; omega
     rw [if_pos (by simp [Region.wanted])]
     refine wp_append_own W (.tmp 19) (.tmp 36) 23 rfl (W1.heap.size + 1) 100 i0 _ 2 16 Zee hi0 hz0 hz1 hz2 rfl (by decide) _ _ _ (by simp [Act.eval, v1]) hTW.cols ⟨X, 0, none⟩ 1 1 (Zes x) (by simp [Act.eval, v8]) rfl (Zo1 hx1 hx2) (Zpr _ _) (by unfold maxLen; omega) (by omega) (by have := hTW.pos; omega) ?_
     intro v9 W9 ho9 hg9 _
     have hlt19 : 19 < l.size := by rw [hM.size]; decide
     refine hK.out _ _ (Or.inr (Or.inl ⟨Zd vs 19 v9, x, v9, by simp [Zd, Act.put], fun j hj => ?_, by simpa using hM.size, by rw [getD_set_ne false (by decide)]; exact hM.last 21 (by decide), fun h => ?_, hx0, rfl, W, hTW.mono (by omega), hg9, ho9⟩))
     · by_cases e : j = 19
       · subst e; simp [Array.getD, hlt19]
       rw [getD_set_ne false (Ne.symm e)]
       obtain rfl|rfl|rfl|rfl|rfl|rfl|rfl|rfl|rfl|rfl|rfl|rfl|rfl|rfl|rfl|rfl|rfl|rfl|rfl : j = 0 ∨ j = 1 ∨ j = 2 ∨ j = 3 ∨ j = 4 ∨ j = 5 ∨ j = 6 ∨ j = 7 ∨ j = 8 ∨ j = 9 ∨ j = 10 ∨ j = 11 ∨ j = 12 ∨ j = 13 ∨ j = 14 ∨ j = 15 ∨ j = 16 ∨ j = 17 ∨ j = 18 := by omega
       all_goals assumption
     rw [getD_set_ne false (by decide), hM.last 20 (by decide)] at h; cases h
    · have h19 := hpre ⟨19, .phase⟩ (by simp) rfl
      rw [hM.last 19 (by decide)] at h19
      cases h19
    have h19 := hpre ⟨19, .data⟩ (by simp) rfl
    rw [hM.last 19 (by decide)] at h19
    cases h19
   ·
    have hno : ¬ i < 20 := fun h => by have h1 := hall i h; rw [Qa (by omega) false true, hl] at h1; cases h1
    obtain rfl|rfl : i = 20 ∨ i = 21 := by omega
    · simp only [List.getElem?_toArray, List.getElem?_cons_zero, List.getElem?_cons_succ, Option.some.injEq] at ho
      subst ho
      go_simp
      have hlt20 : 20 < l.size := by omega
      refine hK.out _ _ (Or.inr (Or.inl ⟨Zd vs 20 (.pointer (some ⟨W1.heap.size, 0, none⟩)), x, v9, by simp [Zd, h19], fun j hj => by rw [getD_set_ne false (by omega)]; exact hall j hj, by simpa using hsz2, by rw [getD_set_ne false (by decide)]; exact hl21, fun _ => rfl, hxb, h19, hS⟩))
    simp only [List.getElem?_toArray, List.getElem?_cons_zero, List.getElem?_cons_succ, Option.some.injEq] at ho
    subst ho
    have v20 := h20 (hpre ⟨20, .data⟩ (by simp) rfl)
    obtain ⟨A9, m9, k9, rfl⟩ := hS.form
    have c9 : W.cell? ⟨W1.heap.size, 0, none⟩ = some vc := hS.blk.1 0 _ rfl
    have f9 := hS.blk.2 0
    rw [v20, h19]
    go_simp
    refine hK.out _ _ (Or.inr (Or.inr ⟨vs, x, _, by simp [v20, h19], fun j hj => ?_, hxb, hS.done (Nat.le_refl _)⟩))
    by_cases e : j = 21
    · subst e; simp [Array.getD, hsz2]
    rw [getD_set_ne true (Ne.symm e), Qa (by omega) true false]
    by_cases e0 : j = 20
    · subst e0; exact hpre ⟨20, .data⟩ (by simp) rfl
    exact hall j (by omega)
   rw [hall i hi] at hl; cases hl
  rintro l a W hall (⟨vs, rfl, hM⟩ | ⟨vs, x, v9, rfl, _, hsz2, hl21, _⟩ | ⟨vs, x, v9, rfl, _, hxb, hT⟩)
  · have h2 := hall 21 (by decide)
    have h3 : 21 < l.size := by rw [hM.size]; decide
    rw [Qa h3 true false, hM.last 21 (by decide)] at h2
    cases h2
  · have h2 := hall 21 (by decide)
    rw [Qa (by omega) true false, hl21] at h2
    cases h2
  have HT5 := Za hT
  clear hT hall
  have t3 : IntKind.i64.wrap ((kk : Int) - 1) = (kk : Int) - 1 := IntWalk.i64_in _ (by omega)
  go_wp2_with fail
  go_roundg (kk - 1)
  case measure => omega
  refine ⟨kk - 1, xs ++ [x], v9, by omega, by omega, (by rw [Int.natCast_sub (by omega)]; rfl), (show Aside _ from HT5.out.mono (by omega)), (show Aside _ from ⟨fun y hy => ?_, by simp; have := AX.out.2; omega⟩)⟩
  rcases List.mem_append.1 hy with hy | hy
  · exact AX.out.1 y hy
  rw [List.mem_singleton.1 hy]; exact hxb
 have hltz : ¬ (0 : Int) < (kk : Int) := by omega
 have HT2 := Za (AT.out.mono (N' := N + 17) (by omega))
 have HX := Za (And.intro AX.out.1 (show xs.length ≤ 5 by have := AX.out.2; omega))
 clear AT AX
 go_wp2_with fail
 refine (pick R (N + 17) 6 _ HT2.out.rdr (by omega) (by decide)).mono ?_
 rintro e W3 ⟨q, rfl, hq0, hq1, hR3, hg3⟩
 have hq6 := hq1 (by decide)
 have HT3 := Za (HT2.out.pick hR3 hg3)
 clear hq1 hR3 hg3 HT2
 obtain ⟨m, rfl⟩ := Int.eq_ofNat_of_zero_le hq0
 have hm6 : m < 6 := by omega
 have tn : IntKind.i64.wrap (1 + (m : Int)) = ((m + 1 : Nat) : Int) := by rw [IntWalk.i64_in _ (by omega)]; omega
 go_wp2_with fail
 clear tn
 go_loopg [6] (m + 1) (fun gg s6 wr => ∃ (jj : Nat) (rows : List Jv) (vr : Value), jj ≤ m + 1 ∧ m + 1 - jj ≤ gg ∧ s6 = .int .i64 jj ∧ Aside (TSt w wr R (N + 18 + 250 * jj) w.heap.size W1.heap.size vc vr ⟨xs, 0, 0, rows, gap⟩) ∧ Aside (rows.length = jj ∧ ∀ r ∈ rows, Zoj r))
 case atStart => exact ⟨0, [], _, by omega, by omega, rfl, (show Aside _ from HT3.out.mono (by omega)), (show Aside _ from ⟨rfl, fun x hx => by simp at hx⟩)⟩
 obtain ⟨jj, rows, vr, hkm, hg, rfl, AT, AX⟩ := hrel
 clear HT3
 by_cases hlt : jj < m + 1
 ·
  have hltz : (jj : Int) < ((m + 1 : Nat) : Int) := by omega
  go_wp2_with fail
  refine (pick R _ 4 _ AT.out.rdr (by omega) (by decide)).mono ?_
  rintro e W0 ⟨q, rfl, hq0, hq1, hR3, hg3⟩
  have hq4 := hq1 (by decide)
  have HT0 := Za (AT.out.pick hR3 hg3)
  have HWH : ∃ wh : Bool, ((q : Int) == 0) = wh := ⟨_, rfl⟩
  obtain ⟨wh, hwh⟩ := HWH
  have HX0 := Za (XSt.new W0 R _ wh 84 hR3)
  clear hq1 hR3 hg3
  go_wp2_with fail
  refine (pick R _ 5 _ HX0.out.rdr (by omega) (by decide)).mono ?_
  rintro e W4 ⟨q5, rfl, hq50, hq51, hR4, hg4⟩
  have hq5 := hq51 (by decide)
  have HX4 := Za (HX0.out.pick hR4 hg4)
  clear hq51 hR4 hg4 HX0 hwh
  obtain ⟨c5, rfl⟩ := Int.eq_ofNat_of_zero_le hq50
  have hc5 : c5 < 5 := by omega
  go_wp2_with fail
  go_loopg [8] 5 (fun g8 s8 ws => ∃ (mm : Nat) (cs : List Qi) (vx : Value), mm ≤ g8 ∧ mm ≤ 4 ∧ s8 = .int .i64 mm ∧ Aside (XSt W0 ws R (N + 18 + 250 * jj + 2 + 60 * (4 - mm)) W0.heap.size vx wh cs) ∧ Aside (cs.length + mm ≤ 4 ∧ ∀ c ∈ cs, Zbl c))
  case atStart => exact ⟨c5, [], _, by omega, by omega, rfl, (show Aside _ from HX4.out.mono (by omega)), (show Aside _ from ⟨by simp; omega, fun x hx => by simp at hx⟩)⟩
  obtain ⟨mm, cs, vx, hg8, hm4, rfl, BX, BC⟩ := hrel
  clear HX4
  by_cases hlt8 : 0 < mm
  ·
   have hltz8 : (0 : Int) < (mm : Int) := by omega
   go_wp2_with fail
   have HXD := Za (BX.out.pick (BX.out.rdr.below (Zt (Zf wr))) (Qd (Zt (Zf _))))
   refine Qe (fun l a W => (∃ vs : Nat → Value, a = ⟨List.toArray (.pointer (some ⟨R, 0, none⟩) :: Zb :: .pointer (some ⟨w.heap.size, 0, none⟩) :: .pointer (some ⟨W1.heap.size, 0, none⟩) :: .int .i64 ↑kk :: .int .i64 (↑m + 1) :: .int .i64 ↑jj :: .pointer (some ⟨W0.heap.size, 0, none⟩) :: .int .i64 ↑mm :: .pointer (some ⟨R, 0, none⟩) :: .int .i64 gap :: .agg #[.slice none 0 0, .int .i64 0, .int .i64 0, .slice none 0 0, .int .i64 gap] :: .pointer (some ⟨R, 0, none⟩) :: .int .i64 ↑n :: .int .i64 ↑kk :: .bool false :: u16 :: u17 :: u18 :: u19 :: u20 :: u21 :: u22 :: u23 :: u24 :: u25 :: u26 :: u27 :: u28 :: u29 :: u30 :: u31 :: u32 :: u33 :: u34 :: u35 :: u36 :: u37 :: u38 :: .pointer (some ⟨R, 0, none⟩) :: .int .i64 ↑m :: .int .i64 (↑m + 1) :: .int .i64 ↑jj :: .int .i64 (↑m + 1) :: .bool true :: u45 :: u46 :: .pointer (some ⟨R, 0, none⟩) :: .int .i64 q :: .bool wh :: .agg #[.slice none 0 0, .bool wh] :: .pointer (some ⟨R, 0, none⟩) :: .int .i64 ↑c5 :: .int .i64 ↑mm :: .bool true :: u55 :: u56 :: vs 0 :: vs 1 :: vs 2 :: vs 3 :: vs 4 :: vs 5 :: vs 6 :: u64 :: u65 :: u66 :: u67 :: u68 :: u69 :: Zb :: Zb :: Zb :: Zb :: Zb :: Zb :: Zb :: Zb :: Zb :: Zb :: Zb :: Zb :: Zb :: Zb :: Zb :: Zb :: Zb :: Zb :: Zb :: Zb :: Zb :: Zb :: Zb :: Zb :: []), []⟩ ∧ Zb6 (Zwg R W0.heap.size vx) (fun j => if j = 3 then 60 else 0) (fun j => match j with | 1 => [0] | 3 => [2] | 4 => [3] | _ => []) 8 5 (wr.drew) (N + 18 + 250 * jj + 2 + 60 * (4 - mm)) l vs W) ∨ (∃ vs : Nat → Value, a = ⟨List.toArray (.pointer (some ⟨R, 0, none⟩) :: Zb :: .pointer (some ⟨w.heap.size, 0, none⟩) :: .pointer (some ⟨W1.heap.size, 0, none⟩) :: .int .i64 ↑kk :: .int .i64 (↑m + 1) :: .int .i64 ↑jj :: .pointer (some ⟨W0.heap.size, 0, none⟩) :: .int .i64 ↑mm :: .pointer (some ⟨R, 0, none⟩) :: .int .i64 gap :: .agg #[.slice none 0 0, .int .i64 0, .int .i64 0, .slice none 0 0, .int .i64 gap] :: .pointer (some ⟨R, 0, none⟩) :: .int .i64 ↑n :: .int .i64 ↑kk :: .bool false :: u16 :: u17 :: u18 :: u19 :: u20 :: u21 :: u22 :: u23 :: u24 :: u25 :: u26 :: u27 :: u28 :: u29 :: u30 :: u31 :: u32 :: u33 :: u34 :: u35 :: u36 :: u37 :: u38 :: .pointer (some ⟨R, 0, none⟩) :: .int .i64 ↑m :: .int .i64 (↑m + 1) :: .int .i64 ↑jj :: .int .i64 (↑m + 1) :: .bool true :: u45 :: u46 :: .pointer (some ⟨R, 0, none⟩) :: .int .i64 q :: .bool wh :: .agg #[.slice none 0 0, .bool wh] :: .pointer (some ⟨R, 0, none⟩) :: .int .i64 ↑c5 :: .int .i64 ↑mm :: .bool true :: u55 :: u56 :: vs 0 :: vs 1 :: vs 2 :: vs 3 :: vs 4 :: vs 5 :: vs 6 :: u64 :: u65 :: u66 :: u67 :: u68 :: u69 :: Zb :: Zb :: Zb :: Zb :: Zb :: Zb :: Zb :: Zb :: Zb :: Zb :: Zb :: Zb :: Zb :: Zb :: Zb :: Zb :: Zb :: Zb :: Zb :: Zb :: Zb :: Zb :: Zb :: Zb :: []), []⟩ ∧ ∃ (x : Qi) (v9 : Value), (∀ j, j < 6 → l.getD j false = true) ∧ l.size = 8 ∧ l.getD 7 false = false ∧ (l.getD 6 false = true → vs 6 = .pointer (some ⟨W0.heap.size, 0, none⟩)) ∧ Zbl x ∧ vs 5 = v9 ∧ Zgn W0 R (N + 18 + 250 * jj + 2 + 60 * (4 - mm) + 60) W0.heap.size vx wh cs x v9 W) ∨ (∃ vs : Nat → Value, a = ⟨List.toArray (.pointer (some ⟨R, 0, none⟩) :: Zb :: .pointer (some ⟨w.heap.size, 0, none⟩) :: .pointer (some ⟨W1.heap.size, 0, none⟩) :: .int .i64 ↑kk :: .int .i64 (↑m + 1) :: .int .i64 ↑jj :: .pointer (some ⟨W0.heap.size, 0, none⟩) :: .int .i64 ↑mm :: .pointer (some ⟨R, 0, none⟩) :: .int .i64 gap :: .agg #[.slice none 0 0, .int .i64 0, .int .i64 0, .slice none 0 0, .int .i64 gap] :: .pointer (some ⟨R, 0, none⟩) :: .int .i64 ↑n :: .int .i64 ↑kk :: .bool false :: u16 :: u17 :: u18 :: u19 :: u20 :: u21 :: u22 :: u23 :: u24 :: u25 :: u26 :: u27 :: u28 :: u29 :: u30 :: u31 :: u32 :: u33 :: u34 :: u35 :: u36 :: u37 :: u38 :: .pointer (some ⟨R, 0, none⟩) :: .int .i64 ↑m :: .int .i64 (↑m + 1) :: .int .i64 ↑jj :: .int .i64 (↑m + 1) :: .bool true :: u45 :: u46 :: .pointer (some ⟨R, 0, none⟩) :: .int .i64 q :: .bool wh :: .agg #[.slice none 0 0, .bool wh] :: .pointer (some ⟨R, 0, none⟩) :: .int .i64 ↑c5 :: .int .i64 ↑mm :: .bool true :: u55 :: u56 :: vs 0 :: vs 1 :: vs 2 :: vs 3 :: vs 4 :: vs 5 :: vs 6 :: u64 :: u65 :: u66 :: u67 :: u68 :: u69 :: Zb :: Zb :: Zb :: Zb :: Zb :: Zb :: Zb :: Zb :: Zb :: Zb :: Zb :: Zb :: Zb :: Zb :: Zb :: Zb :: Zb :: Zb :: Zb :: Zb :: Zb :: Zb :: Zb :: Zb :: []), []⟩ ∧ (∀ j, j < 8 → l.getD j true = true) ∧ ∃ (x : Qi) (v9 : Value), Zbl x ∧ XSt W0 W R (N + 18 + 250 * jj + 2 + 60 * (4 - mm) + 60) W0.heap.size v9 wh (cs ++ [x]))) (by kernel_rfl) ?top ?start ?step ?fin
   case top => exact Zae (by kernel_rfl)
   case start => exact Or.inl ⟨(fun j => match j with | 0 => u57 | 1 => u58 | 2 => u59 | 3 => u60 | 4 => u61 | 5 => u62 | 6 => u63 | _ => undef), rfl, Zb6.start HXD.out.rdr⟩
   case step =>
    intro l a W i o ho hl hpre hsz hI K hK
    have hi : i < 8 := (Array.getElem?_eq_some_iff.1 ho).1
    rcases hI with ⟨vs, rfl, hM⟩ | ⟨vs, rfl, hS⟩ | ⟨_, _, hall, _⟩
    ·
     obtain ⟨p, hr, hp⟩ := hM.rdr
     have hpM := hM.le (c := 60) rfl
     have hRW := hr.lt
     have hXW := HXD.out.pick hr hM.grown
     obtain rfl|rfl|rfl|rfl|rfl|rfl|rfl|rfl := cs8 hi
     all_goals
      simp only [List.getElem?_toArray, List.getElem?_cons_zero, List.getElem?_cons_succ, Option.some.injEq] at ho
      subst ho
      have hPR := Zce hpre
     · go_simp
       exact hK.out _ _ (Or.inl ⟨Zd vs 0 (.pointer (some ⟨W0.heap.size, 0, none⟩)), rfl, hM.still hl (by decide) (by decide) rfl _ rfl⟩)
     · have hp0 := hPR 0 rfl
       have v0 : vs 0 = .pointer (some ⟨W0.heap.size, 0, none⟩) := hM.held 0 hp0
       have c9 : W.cell? ⟨W0.heap.size, 0, none⟩ = some (vx) := hXW.blk.1 0 _ rfl
       rw [v0]
       go_simp
       exact hK.out _ _ (Or.inl ⟨Zd vs 1 (vx), by simp [Zd, v0], hM.still hl (by decide) (by decide) (ga hp0 rfl) _ rfl⟩)
     · go_simp
       exact hK.out _ _ (Or.inl ⟨Zd vs 2 (.pointer (some ⟨R, 0, none⟩)), rfl, hM.still hl (by decide) (by decide) rfl _ rfl⟩)
     · have hp2 := hPR 2 rfl
       have v0 : vs 2 = .pointer (some ⟨R, 0, none⟩) := hM.held 2 hp2
       rw [v0]
       go_simp
       refine (Ztx R p 99999 _ hr (by omega) (by decide) (by decide)).mono ?_
       rintro e W5 ⟨c, rfl, hcb, hR1, hg1⟩
       exact hK.out _ _ (Or.inl ⟨Zd vs 3 (.agg #[.string c.t, .int .i64 c.c, .int .i64 c.r, .int .i64 c.top.s, .int .i64 c.top.w, .int .i64 c.right.s, .int .i64 c.right.w, .int .i64 c.bot.s, .int .i64 c.bot.w, .int .i64 c.left.s, .int .i64 c.left.w]), by simp [Zd, v0, Qv], hM.picked hl (by decide) (by decide) (ga hp2 rfl) _ hp hg1 hR1 ⟨c, rfl, hcb⟩⟩)
     · have hp3 := hPR 3 rfl
       obtain ⟨c, v1, hc1⟩ : ∃ c : Qi, vs 3 = .agg #[.string c.t, .int .i64 c.c, .int .i64 c.r, .int .i64 c.top.s, .int .i64 c.top.w, .int .i64 c.right.s, .int .i64 c.right.w, .int .i64 c.bot.s, .int .i64 c.bot.w, .int .i64 c.left.s, .int .i64 c.left.w] ∧ Zbl c := hM.held 3 hp3
       rw [v1]
       go_simp
       exact hK.out _ _ (Or.inl ⟨Zd vs 4 (.slice (some ⟨W.heap.size, 0, none⟩) 1 1), by simp [Zd, v1], hM.made hl (by decide) (by decide) (ga hp3 rfl) _ _ (Zkq R W c _ hc1 hRW)⟩)
     ·
      have hp1 := hPR 1 rfl
      have hp4 := hPR 4 rfl
      have hp3 := hPR 3 rfl
      have v1 : vs 1 = vx := hM.held 1 hp1
      obtain ⟨Y, c, v8, hc1, hY1, hY2, hY3⟩ : ∃ (X : Nat) (c : Qi), vs 4 = .slice (some ⟨X, 0, none⟩) 1 1 ∧ Zbl c ∧ (∀ (j : Nat) (u : Value), (Qv c)[j]? = some u → W.cell? ⟨X, j, none⟩ = some u) ∧ X ≠ R ∧ X < W.heap.size := hM.held 4 hp4
      have hp0 := Qw (hM.clo 1 hp1) (show 0 ∈ [0] by decide)
      have hp2 := Qw (hM.clo 3 hp3) (show 2 ∈ [2] by decide)
      obtain ⟨i0, hi0, hz0, hz1, hz2⟩ := info_parts Zfb
      have hlen : cs.length ≤ 4 := by have := BC.out.1; omega
      rw [if_pos (by simp [Region.wanted])]
      refine wp_append_own W (.tmp 58) (.tmp 61) 82 rfl (W0.heap.size + 1) 105 i0 _ 11 96 Zfs hi0 hz0 hz1 hz2 rfl (by decide) _ _ _ (by simp [Act.eval, v1]) hXW.own ⟨Y, 0, none⟩ 1 1 (Qv c) (by simp [Act.eval, v8]) rfl (Zqw hY1) (Zme c) (by unfold maxLen; omega) (by omega) (by have := hXW.pos; omega) ?_
      intro v9 W9 ho9 hg9 _
      have hlt5 : 5 < l.size := by rw [hM.size]; decide
      refine hK.out _ _ (Or.inr (Or.inl ⟨Zd vs 5 v9, by simp [Zd, Act.put], c, v9, ?_, by simpa using hM.size, by rw [getD_set_ne false (by decide)]; exact hM.last 7 (by decide), fun h => ?_, hc1, rfl, W, hXW.mono (by omega), hg9, ho9⟩))
      · intro j hj
        by_cases e : j = 5
        · subst e; simp [Array.getD, hM.size]
        rw [getD_set_ne false (Ne.symm e)]
        obtain rfl|rfl|rfl|rfl|rfl : j = 0 ∨ j = 1 ∨ j = 2 ∨ j = 3 ∨ j = 4 := by omega
        all_goals assumption
      rw [getD_set_ne false (by decide), hM.last 6 (by decide)] at h; cases h
     · have hm := hpre ⟨5, .phase⟩ (by simp) rfl
       rw [hM.last 5 (by decide)] at hm
       cases hm
     have hm := hpre ⟨5, .data⟩ (by simp) rfl
     rw [hM.last 5 (by decide)] at hm
     cases hm
    ·
     obtain ⟨x, v9, hall, hsz2, hl7, h6, hxb, h5, hS⟩ := hS
     have hno : ¬ i < 6 := fun h => by have h1 := hall i h; rw [Qa (by omega) false true, hl] at h1; cases h1
     obtain rfl|rfl : i = 6 ∨ i = 7 := by omega
     · simp only [List.getElem?_toArray, List.getElem?_cons_zero, List.getElem?_cons_succ, Option.some.injEq] at ho
       subst ho
       go_simp
       refine hK.out _ _ (Or.inr (Or.inl ⟨Zd vs 6 (.pointer (some ⟨W0.heap.size, 0, none⟩)), by simp [Zd, h5], x, v9, fun j hj => by rw [getD_set_ne false (by omega)]; exact hall j hj, by simpa using hsz2, by rw [getD_set_ne false (by decide)]; exact hl7, fun _ => rfl, hxb, h5, hS⟩))
     simp only [List.getElem?_toArray, List.getElem?_cons_zero, List.getElem?_cons_succ, Option.some.injEq] at ho
     subst ho
     have v6 := h6 (hpre ⟨6, .data⟩ (by simp) rfl)
     obtain ⟨A9, m9, k9, rfl⟩ := hS.form
     have c9 : W.cell? ⟨W0.heap.size, 0, none⟩ = some vx := hS.blk.1 0 _ rfl
     have f9 := hS.blk.2 0
     rw [v6, h5]
     go_simp
     refine hK.out _ _ (Or.inr (Or.inr ⟨vs, by simp [v6, h5], fun j hj => ?_, x, _, hxb, hS.done (Nat.le_refl _)⟩))
     by_cases e : j = 7
     · subst e; simp [Array.getD, hsz2]
     rw [getD_set_ne true (Ne.symm e), Qa (by omega) true false]
     by_cases e0 : j = 6
     · subst e0; exact hpre ⟨6, .data⟩ (by simp) rfl
     exact hall j (by omega)
    rw [hall i hi] at hl; cases hl
   rintro l a W hall (⟨vs, rfl, hM⟩ | ⟨vs, rfl, hS⟩ | ⟨vs, rfl, _, hT⟩)
   · have h2 := hall 7 (by decide)
     rw [Qa (by rw [hM.size]; decide) true false, hM.last 7 (by decide)] at h2
     cases h2
   · obtain ⟨x, v9, _, hsz2, hl7, _⟩ := hS
     have h2 := hall 7 (by decide)
     rw [Qa (by omega) true false, hl7] at h2
     cases h2
   obtain ⟨x, v9, hxb, hX⟩ := hT
   have HX5 := Za hX
   clear hX hall
   have t8 : IntKind.i64.wrap ((mm : Int) - 1) = (mm : Int) - 1 := IntWalk.i64_in _ (by omega)
   go_wp2_with fail
   go_roundg (mm - 1)
   case measure => omega
   refine ⟨mm - 1, cs ++ [x], v9, by omega, by omega, (by rw [Int.natCast_sub (by omega)]; rfl), (show Aside _ from HX5.out.mono (by omega)), (show Aside _ from ⟨by simp; have := BC.out.1; omega, fun y hy => ?_⟩)⟩
   rcases List.mem_append.1 hy with hy | hy
   · exact BC.out.2 y hy
   rw [List.mem_singleton.1 hy]; exact hxb
  have hltz8 : ¬ (0 : Int) < (mm : Int) := by omega
  have hv := Zbs BX.out.own
  obtain ⟨Ax, kx, rfl⟩ := hv
  obtain ⟨Ar, kr, rfl⟩ : ∃ A c, vr = .slice A rows.length c := by obtain ⟨vs, r1, _⟩ := HT0.out.rows; exact Zbs r1
  have HW := Za (HT0.out.with_row BX.out)
  have HBC := Za (And.intro (show cs.length ≤ 4 by have := BC.out.1; omega) BC.out.2)
  have c3 : wr.cell? ⟨W1.heap.size, 3, none⟩ = some (.slice Ar rows.length kr) := HW.out.1.blk.1 3 _ rfl
  have f3 := HW.out.1.blk.2 3
  have x0 := BX.out.blk.1 0 _ rfl
  have x1 := BX.out.blk.1 1 _ rfl
  clear BX BC HT0
  obtain ⟨i0, hi0, hz0, hz1, hz2⟩ := info_parts Zu8
  obtain ⟨vs, r1, r2, r3, r4⟩ := HW.out.2
  have HR1 : Hid (wr.ownsRow (W1.heap.size + 1) 84 2 (.slice Ar rows.length kr) rows.length (Qj vs rows)) := Za r1
  have HR2 := Za r2
  have HR3 := Za r3
  have HR4 := Za r4
  have HL := Za AX.out
  have hl7 : rows.length ≤ 7 := by have := HL.out.1; omega
  have HP := Za HW.out.1.pos
  clear r1 r2 r3 r4 AX
  go_wp2_with (at_builtin; refine wpList_append_own _ rfl _ _ 24 rfl (W1.heap.size + 1) 84 i0 _ 2 32 Zv9 hi0 hz0 hz1 hz2 rfl (by decide) _ _ _ rfl (Zcs HR1.out _) ⟨wr.heap.size, 0, none⟩ 1 1 [.slice Ax cs.length kx, .bool wh] rfl rfl (Zu5 (Zj _ _ _ _ _ _ rfl) (Zj _ _ _ _ _ _ rfl)) (Zq2 _ _ _ _) (by unfold maxLen; omega) (by omega) (by have := HP.out; simp; omega) ?_)
  intro v9 W9 ho9 hg9 _
  obtain ⟨A9, k9, rfl⟩ := Zbs ho9
  have HT9 := Za (HW.out.1.alloc (.cells #[.slice Ax cs.length kx, .bool wh] 84))
  have HB9 := Za (HT9.out.blk.keep (hg9.block W1.heap.size (by have := HP.out; simp; omega) (fun e => by have := (Qo (Zcs HR1.out (.cells #[.slice Ax cs.length kx, .bool wh] 84)) e.symm).1; omega)))
  have HT6 := Za (HT9.out.row (N' := N + 18 + 250 * (jj + 1)) (by omega) ⟨cs, wh⟩ (Zcs HR1.out _) (HR2.out.keep fun b _ hb => (Zc (Zf wr) _).block b hb) (Zcs HR3.out _) HR4.out hg9 ho9)
  have d3 : W9.cell? ⟨W1.heap.size, 3, none⟩ = some (.slice Ar rows.length kr) := HB9.out.1 3 _ rfl
  have g3 := HB9.out.2 3
  clear ho9 hg9 c3 f3 x0 x1 HB9 HT9 HW HP HR1 HR2 HR3 HR4
  go_wp2_with fail
  go_roundg (m + 1 - (jj + 1))
  case measure => omega
  refine ⟨jj + 1, (rows ++ [(⟨cs, wh⟩ : Jv)]), .slice A9 (rows.length + 1) k9, by omega, by omega, by go_num, (show Aside _ from HT6.out), (show Aside _ from ⟨by simp; exact HL.out.1, fun y hy => ?_⟩)⟩
  rcases List.mem_append.1 hy with hy | hy
  · exact HL.out.2 y hy
  rw [List.mem_singleton.1 hy]; exact HBC.out
 have hltz : ¬ (jj : Int) < ((m + 1 : Nat) : Int) := by omega
 obtain ⟨⟨Ac, kc, rfl⟩, Ar, kr, rfl⟩ : (∃ A c, vc = .slice A xs.length c) ∧ ∃ A c, vr = .slice A rows.length c := AT.out.own.form
 have HT3 := Za (AT.out.mono (N' := N + 1518) (by omega))
 have HL := Za (And.intro (show rows.length = m + 1 by have := AX.out.1; omega) AX.out.2)
 clear AT AX
 go_wp2_with fail
 refine (pick R _ 2 _ HT3.out.rdr (by omega) (by decide)).mono ?_
 rintro e W5 ⟨q, rfl, hq0, hq1, hR5, hg5⟩
 have HT5 := Za (HT3.out.pick hR5 hg5)
 have hq2 := hq1 (by decide)
 clear hq1 hR5 hg5 HT3
 by_cases z5 : q = 0
 ·
  subst z5
  have c0 := HT5.out.blk.1 0 _ rfl
  have c1 := HT5.out.blk.1 1 _ rfl
  have c2 := HT5.out.blk.1 2 _ rfl
  have c3 := HT5.out.blk.1 3 _ rfl
  have c4 := HT5.out.blk.1 4 _ rfl
  have cf := HT5.out.blk.2
  go_wp2_with fail
  refine (pick R _ 2 _ HT5.out.rdr (by omega) (by decide)).mono ?_
  rintro e W6 ⟨h6, rfl, hh60, hh61, hR6, hg6⟩
  have hh62 := hh61 (by decide)
  have HT6 := Za (HT5.out.pick hR6 hg6)
  clear hh61 hR6 hg6 c0 c1 c2 c3 c4 cf HT5
  have c0 := HT6.out.blk.1 0 _ rfl
  have c1 := HT6.out.blk.1 1 _ rfl
  have c2 := HT6.out.blk.1 2 _ rfl
  have c3 := HT6.out.blk.1 3 _ rfl
  have c4 := HT6.out.blk.1 4 _ rfl
  have cf := HT6.out.blk.2
  have HT6b := Za (HT6.out.field (t' := ⟨xs, h6, 0, rows, gap⟩) 1 (by decide) (.int .i64 h6) rfl rfl rfl)
  go_wp2_with fail
  refine (pick R _ 2 _ HT6b.out.rdr (by omega) (by decide)).mono ?_
  rintro e W7 ⟨f7, rfl, hf70, hf71, hR7, hg7⟩
  have hf72 := hf71 (by decide)
  have HT7 := Za (HT6b.out.pick hR7 hg7)
  clear hf71 hR7 hg7 c0 c1 c2 c3 c4 cf HT6 HT6b
  have c0 := HT7.out.blk.1 0 _ rfl
  have c1 := HT7.out.blk.1 1 _ rfl
  have c2 := HT7.out.blk.1 2 _ rfl
  have c3 := HT7.out.blk.1 3 _ rfl
  have c4 := HT7.out.blk.1 4 _ rfl
  have cf := HT7.out.blk.2
  have HT7b := Za (HT7.out.field (t' := ⟨xs, h6, f7, rows, gap⟩) 2 (by decide) (.int .i64 f7) rfl rfl rfl)
  have t7 : IntKind.i64.wrap (h6 + f7) = h6 + f7 := IntWalk.i64_in _ (by omega)
  by_cases hs : h6 + f7 > (m : Int) + 1
  ·
   have HT7c := Za (HT7b.out.field (t' := ⟨xs, h6, 0, rows, gap⟩) 2 (by decide) (.int .i64 0) rfl rfl rfl)
   go_wp2_with fail
   have hTO := Zb0 ⟨xs, h6, 0, rows, gap⟩ Ac kc Ar kr _ HT7c.out.own.rdc (HT7c.out.own.rdr (Zgh HL.out.2))
   refine hTO.mono ?_
   clear hTO
   rintro e W8 ⟨rfl, hb8⟩
   have HT8 := Za (HT7c.out.pick (HT7c.out.rdr.below hb8) (Qd hb8))
   have hp8 := HT8.out.pos
   have s8 : w.heap.size < W8.heap.size := by omega
   have hne1 : ¬ w.heap.size = W8.heap.size := by omega
   have hne2 : ¬ W8.heap.size = w.heap.size := by omega
   clear hb8 c0 c1 c2 c3 c4 cf
   have c0 := HT8.out.blk.1 0 _ rfl
   have c1 := HT8.out.blk.1 1 _ rfl
   have c2 := HT8.out.blk.1 2 _ rfl
   have c3 := HT8.out.blk.1 3 _ rfl
   have c4 := HT8.out.blk.1 4 _ rfl
   have cf := HT8.out.blk.2
   have h0 := HT8.out.res.1 0 _ rfl
   have h1 := HT8.out.res.1 1 _ rfl
   have h2 := HT8.out.res.1 2 _ rfl
   have h3 := HT8.out.res.1 3 _ rfl
   have h4 := HT8.out.res.1 4 _ rfl
   have hf := HT8.out.res.2
   have hq8 : ∃ b, Qn ⟨xs, h6, 0, rows, gap⟩ = b := ⟨_, rfl⟩
   obtain ⟨b8, hb8⟩ := hq8
   have HOK := Za hb8
   rw [hb8]
   clear hb8
   cases b8 with
   | false =>
    go_wp2_with fail
    exact bodyPost_ret (v := .agg #[.slice none 0 0, .int .i64 0, .int .i64 0, .slice (some ⟨W8.heap.size, 0, none⟩) 1 1, .int .i64 0]) (by simp [results, Tryz.results185, go_sem, *]) rfl (Zig HT8.out.rdr HT8.out.grown hRl (Nat.le_refl _) _ _ _ _ _ (by omega))
   | true =>
    go_wp2_with fail
    exact bodyPost_ret (v := .agg #[.slice Ac xs.length kc, .int .i64 h6, .int .i64 0, .slice Ar rows.length kr, .int .i64 gap]) (by simp [results, Tryz.results185, go_sem, *]) rfl (Zkk (t := ⟨xs, h6, 0, rows, gap⟩) (Zle HT8.out.rdr HT8.out.grown HT8.out.own hRl (Nat.le_refl _) (by omega) _ _ _ _ _) (by omega) ⟨(by show -1 ≤ h6; omega), by show h6 ≤ 9; omega, by show (-1 : Int) ≤ 0; decide, by show (0 : Int) ≤ 9; decide, Zpd HG.out, HX.out, HL.out⟩ hm6)
  ·
   go_wp2_with fail
   have hTO := Zb0 ⟨xs, h6, f7, rows, gap⟩ Ac kc Ar kr _ HT7b.out.own.rdc (HT7b.out.own.rdr (Zgh HL.out.2))
   refine hTO.mono ?_
   clear hTO
   rintro e W8 ⟨rfl, hb8⟩
   have HT8 := Za (HT7b.out.pick (HT7b.out.rdr.below hb8) (Qd hb8))
   have hp8 := HT8.out.pos
   have s8 : w.heap.size < W8.heap.size := by omega
   have hne1 : ¬ w.heap.size = W8.heap.size := by omega
   have hne2 : ¬ W8.heap.size = w.heap.size := by omega
   clear hb8 c0 c1 c2 c3 c4 cf
   have c0 := HT8.out.blk.1 0 _ rfl
   have c1 := HT8.out.blk.1 1 _ rfl
   have c2 := HT8.out.blk.1 2 _ rfl
   have c3 := HT8.out.blk.1 3 _ rfl
   have c4 := HT8.out.blk.1 4 _ rfl
   have cf := HT8.out.blk.2
   have h0 := HT8.out.res.1 0 _ rfl
   have h1 := HT8.out.res.1 1 _ rfl
   have h2 := HT8.out.res.1 2 _ rfl
   have h3 := HT8.out.res.1 3 _ rfl
   have h4 := HT8.out.res.1 4 _ rfl
   have hf := HT8.out.res.2
   have hq8 : ∃ b, Qn ⟨xs, h6, f7, rows, gap⟩ = b := ⟨_, rfl⟩
   obtain ⟨b8, hb8⟩ := hq8
   have HOK := Za hb8
   rw [hb8]
   clear hb8
   cases b8 with
   | false =>
    go_wp2_with fail
    exact bodyPost_ret (v := .agg #[.slice none 0 0, .int .i64 0, .int .i64 0, .slice (some ⟨W8.heap.size, 0, none⟩) 1 1, .int .i64 0]) (by simp [results, Tryz.results185, go_sem, *]) rfl (Zig HT8.out.rdr HT8.out.grown hRl (Nat.le_refl _) _ _ _ _ _ (by omega))
   | true =>
    go_wp2_with fail
    exact bodyPost_ret (v := .agg #[.slice Ac xs.length kc, .int .i64 h6, .int .i64 f7, .slice Ar rows.length kr, .int .i64 gap]) (by simp [results, Tryz.results185, go_sem, *]) rfl (Zkk (t := ⟨xs, h6, f7, rows, gap⟩) (Zle HT8.out.rdr HT8.out.grown HT8.out.own hRl (Nat.le_refl _) (by omega) _ _ _ _ _) (by omega) ⟨(by show -1 ≤ h6; omega), by show h6 ≤ 9; omega, (by show -1 ≤ f7; omega), by show f7 ≤ 9; omega, Zpd HG.out, HX.out, HL.out⟩ hm6)
 ·
  have e0 : ((q : Int) == 0) = false := by simpa using z5
  have c0 := HT5.out.blk.1 0 _ rfl
  have c1 := HT5.out.blk.1 1 _ rfl
  have c2 := HT5.out.blk.1 2 _ rfl
  have c3 := HT5.out.blk.1 3 _ rfl
  have c4 := HT5.out.blk.1 4 _ rfl
  have cf := HT5.out.blk.2
  go_wp2_with fail
  have hTO := Zb0 ⟨xs, 0, 0, rows, gap⟩ Ac kc Ar kr _ HT5.out.own.rdc (HT5.out.own.rdr (Zgh HL.out.2))
  refine hTO.mono ?_
  clear hTO
  rintro e W8 ⟨rfl, hb8⟩
  have HT8 := Za (HT5.out.pick (HT5.out.rdr.below hb8) (Qd hb8))
  have hp8 := HT8.out.pos
  have s8 : w.heap.size < W8.heap.size := by omega
  have hne1 : ¬ w.heap.size = W8.heap.size := by omega
  have hne2 : ¬ W8.heap.size = w.heap.size := by omega
  clear hb8 c0 c1 c2 c3 c4 cf
  have c0 := HT8.out.blk.1 0 _ rfl
  have c1 := HT8.out.blk.1 1 _ rfl
  have c2 := HT8.out.blk.1 2 _ rfl
  have c3 := HT8.out.blk.1 3 _ rfl
  have c4 := HT8.out.blk.1 4 _ rfl
  have cf := HT8.out.blk.2
  have h0 := HT8.out.res.1 0 _ rfl
  have h1 := HT8.out.res.1 1 _ rfl
  have h2 := HT8.out.res.1 2 _ rfl
  have h3 := HT8.out.res.1 3 _ rfl
  have h4 := HT8.out.res.1 4 _ rfl
  have hf := HT8.out.res.2
  have hq8 : ∃ b, Qn ⟨xs, 0, 0, rows, gap⟩ = b := ⟨_, rfl⟩
  obtain ⟨b8, hb8⟩ := hq8
  have HOK := Za hb8
  rw [hb8]
  clear hb8
  cases b8 with
  | false =>
   go_wp2_with fail
   exact bodyPost_ret (v := .agg #[.slice none 0 0, .int .i64 0, .int .i64 0, .slice (some ⟨W8.heap.size, 0, none⟩) 1 1, .int .i64 0]) (by simp [results, Tryz.results185, go_sem, *]) rfl (Zig HT8.out.rdr HT8.out.grown hRl (Nat.le_refl _) _ _ _ _ _ (by omega))
  | true =>
   go_wp2_with fail
   exact bodyPost_ret (v := .agg #[.slice Ac xs.length kc, .int .i64 0, .int .i64 0, .slice Ar rows.length kr, .int .i64 gap]) (by simp [results, Tryz.results185, go_sem, *]) rfl (Zkk (t := ⟨xs, 0, 0, rows, gap⟩) (Zle HT8.out.rdr HT8.out.grown HT8.out.own hRl (Nat.le_refl _) (by omega) _ _ _ _ _) (by omega) ⟨by show (-1 : Int) ≤ 0; decide, by show (0 : Int) ≤ 9; decide, by show (-1 : Int) ≤ 0; decide, by show (0 : Int) ≤ 9; decide, Zpd HG.out, HX.out, HL.out⟩ hm6)
end Go.Proofs.YtgdmcmicfoamlaaGreatDoor
