import Derived.Test.YtgdmcmicfoamlaaGreatDoorMixDn
set_option linter.unusedVariables false
set_option linter.unusedSimpArgs false
set_option maxHeartbeats 40000000
set_option maxRecDepth 100000
namespace Go.Proofs.YtgdmcmicfoamlaaGreatDoor
open Go.RowKit
theorem Zn6 (g : Zvq) {w W : World} {A : Option Addr} {c : Nat} {base : Nat} (ho : W.ownsRow base 43 5 (.slice A g.cells.length c) g.cells.length (g.cells.flatMap gcE)) (hb : Below w.heap.size w W) (hbs : w.heap.size ≤ base) : Zi9 g w (.returned (.agg #[.int .i64 g.rows, .int .i64 g.cols, .slice A g.cells.length c])) W :=
 ⟨A, c, rfl, Jw ho hbs, hb⟩
theorem Zqa (t : Tbl) (A : Option Addr) (c : Nat) (A' : Option Addr) (c' : Nat) (w : World) (hc : Rd Zbz w A t.cols) (hr : Rd Zbp w A' t.rows) :
 Calls Tryz.prog 187 #[.agg #[.slice A t.cols.length c, .int .i64 t.head, .int .i64 t.foot, .slice A' t.rows.length c', .int .i64 t.gap]] w (Zi9 (Zao 90 t) w) := by
 have hT := fun (W : World) (h : Below w.heap.size w W) => Zb0 t A c A' c' W (hc.below h) (hr.below h)
 cases hok : Qn t with
 | false =>
  rw [hok] at hT
  have hres : Zao 90 t = ⟨0, 0, []⟩ := by unfold Zao; rw [if_neg (by simp [hok])]
  rw [hres]
  clear hres hok hc hr
  go_enter Tryz.func187, Tryz.ntmps187
  go_wp2_with fail
  refine (hT _ (Zc (Zc (Zf _) _) _)).mono ?_
  rintro e w1 ⟨rfl, hb⟩
  obtain ⟨c0, f0, s0⟩ := Jc (w.heap.size + 1) (by first | (simp; omega) | simp [*]) hb
  have HB := step (Zc (Zc (Zf w) _) _) hb
  go_wp2_with fail
  refine bodyPost_ret (v := .agg #[.int .i64 0, .int .i64 0, .slice none 0 0]) (by simp [results, Tryz.results187, go_sem, *]) rfl (Zn6 ⟨0, 0, []⟩ (base := w.heap.size) ⟨by simp, .inl ⟨rfl, rfl⟩⟩ ?_ (Nat.le_refl _))
  exact Yi (Yi (Yi HB (by show _ ≤ w.heap.size + 1; omega) _) (by show _ ≤ w.heap.size + 1; omega) _) (by show _ ≤ w.heap.size + 1; omega) _
 | true =>
  have hG := fun (W : World) (h : Below w.heap.size w W) => Zh4 t A c A' c' W hok (hc.below h) (hr.below h)
  rw [hok] at hT
  have hres : Zao 90 t = ⟨t.rows.length, (Zp 90 t).2, (Zp 90 t).1⟩ := by unfold Zao; rw [if_pos hok]
  rw [hres]
  clear hres hok hc hr
  generalize Zp 90 t = GG at hG ⊢
  obtain ⟨GL, GN⟩ := GG
  dsimp only at hG ⊢
  go_enter Tryz.func187, Tryz.ntmps187
  go_wp2_with fail
  refine (hT _ (Zc (Zc (Zf _) _) _)).mono ?_
  rintro e w1 ⟨rfl, hb⟩
  obtain ⟨c0, f0, s0⟩ := Jc w.heap.size (by first | (simp; omega) | simp [*]) hb
  obtain ⟨c1, f1, s1⟩ := Jc (w.heap.size + 1) (by first | (simp; omega) | simp [*]) hb
  have HB := step (Zc (Zc (Zf w) _) _) hb
  clear hT
  go_wp2_with fail
  refine (hG _ HB).mono ?_
  rintro e w2 ⟨GA, gc, rfl, ho, hb2⟩
  obtain ⟨k1, l1, m1⟩ := Jc (w.heap.size + 1) (by simp [*]) hb2
  have HB2 := step HB hb2
  have HO := Za ho
  clear hG ho
  go_wp2_with fail
  refine bodyPost_ret (v := .agg #[.int .i64 t.rows.length, .int .i64 GN, .slice GA GL.length gc]) (by simp [results, Tryz.results187, go_sem, *]) rfl (Zn6 ⟨t.rows.length, GN, GL⟩ (base := w1.heap.size) ?_ ?_ (by have := HB.size; omega))
  · exact Zbt (Zbt (Zbt HO.out (by show w.heap.size + 1 < _; omega) _) (by show w.heap.size + 1 < _; omega) _) (by show w.heap.size + 1 < _; omega) _
  exact Yi (Yi (Yi HB2 (by show _ ≤ w.heap.size + 1; omega) _) (by show _ ≤ w.heap.size + 1; omega) _) (by show _ ≤ w.heap.size + 1; omega) _
structure FS0 (w W : World) (R N b0 B : Nat) (vc vr : Value) (t : Tbl) : Prop where
 rdr : Qh W R N
 grown : w.grownBy W (some R)
 pos : b0 ≤ w.heap.size ∧ R < b0 ∧ w.heap.size ≤ B ∧ B + 1 < W.heap.size
 res : Zh W (B + 1) Zec
 blk : Zh W B (Zd9 vc vr t)
 typ : Jn W B 26
 typ1 : Jn W (B + 1) 26
 rows : Qu W b0 84 105 vr t.rows
structure FSt (w W : World) (R N b0 B : Nat) (vc vr : Value) (t : Tbl) (xs : List Yq) : Prop extends FS0 w W R N b0 B vc vr t where
 cols : W.ownsRow (B + 1) 100 2 vc xs.length (xs.flatMap Zes)
section
variable {w W W' : World} {R N N' b0 B : Nat} {vc vr v' : Value} {t : Tbl} {xs : List Yq}
theorem FS0.pick (h : FS0 w W R N b0 B vc vr t) (hR : Qh W' R N') (hg : W.grownBy W' (some R)) : FS0 w W' R N' b0 B vc vr t := by
 obtain ⟨p1, p2, p3, p4⟩ := h.pos
 exact ⟨hR, Zk h.grown hg, ⟨p1, p2, p3, Nat.lt_of_lt_of_le p4 hg.size⟩, h.res.keep (Qm hg (by omega) (by omega)), h.blk.keep (Qm hg (by omega) (by omega)), h.typ.keep (Qm hg (by omega) (by omega)), h.typ1.keep (Qm hg (by omega) (by omega)), h.rows.grow (by omega) hg⟩
theorem FSt.pick (h : FSt w W R N b0 B vc vr t xs) (hR : Qh W' R N') (hg : W.grownBy W' (some R)) : FSt w W' R N' b0 B vc vr t xs :=
 ⟨h.toFS0.pick hR hg, Zbu h.cols (by have := h.pos; omega) hg⟩
theorem FSt.mono (h : FSt w W R N b0 B vc vr t xs) (hN : N ≤ N') : FSt w W R N' b0 B vc vr t xs := ⟨⟨h.rdr.mono hN, h.grown, h.pos, h.res, h.blk, h.typ, h.typ1, h.rows⟩, h.cols⟩
theorem FS0.put {row : Option Nat} (h : FS0 w W R N b0 B vc vr t) (hN : N ≤ N') (hg : W.grownBy W' row) (hrow : ∀ b, row = some b → w.heap.size ≤ b ∧ b ≠ B ∧ b ≠ B + 1 ∧ Jn W b 100) :
 FS0 w (W'.setCell ⟨B, 0, none⟩ v') R N' b0 B v' vr t := by
 obtain ⟨p1, p2, p3, p4⟩ := h.pos
 have hlow : ∀ b, b < w.heap.size ∨ b = B ∨ b = B + 1 → W'.heap[b]? = W.heap[b]? := fun b hb' => hg.block b (by omega) (fun e => by have := hrow b e.symm; omega)
 have hgw : w.grownBy W' (some R) := ⟨hg.os.trans h.grown.os, hg.tape.trans h.grown.tape, hg.output.trans h.grown.output, Nat.le_trans h.grown.size hg.size, fun k hk hne => (hlow k (by omega)).trans (h.grown.block k hk hne)⟩
 have hR := h.rdr.grow hg (fun g e => by have := hrow g e; omega)
 refine ⟨(Js hR (by show R < B; omega) _).mono hN, Qs hgw (by show _ ≤ B; omega) _, ⟨p1, p2, p3, by have := hg.size; simp; omega⟩, (h.res.keep (hlow _ (by omega))).other (by show B ≠ B + 1; omega) _, (h.blk.keep (hlow B (by omega))).set (k := 0) (by show 0 < 5; omega) v', (h.typ.keep (hlow B (by omega))).set _ _, (h.typ1.keep (hlow _ (by omega))).set _ _, ?_⟩
 have h1 : Qu W' b0 84 105 vr t.rows := by
  cases row with
  | none =>
   obtain ⟨us, r1, r2, r3⟩ := h.rows
   exact ⟨us, Jl r1 fun b hb => hg.block b (Qo r1 hb).2 (by simp), r2.keep fun b _ hb => hg.block b hb (by simp), r3⟩
  | some b => exact h.rows.past hg (hrow b rfl).2.2.2 (by decide) (by decide)
 exact h1.past (Qt W' rfl v') (h.typ.keep (hlow B (by omega))) (by decide) (by decide)
end
def Zgp (w : World) (R N b0 B : Nat) (vc vr : Value) (t : Tbl) (xs : List Yq) (x : Yq) (v' : Value) (W : World) : Prop :=
 ∃ W0, FSt w W0 R N b0 B vc vr t xs ∧ W0.grownBy W vc.ownBlock ∧ W.ownsRow (B + 1) 100 2 v' (xs.length + 1) (xs.flatMap Zes ++ Zes x)
section
variable {w W : World} {R N N' b0 B : Nat} {vc vr v' : Value} {t : Tbl} {xs : List Yq} {x : Yq}
theorem Zgp.blk (h : Zgp w R N b0 B vc vr t xs x v' W) : Zh W B (Zd9 vc vr t) := by
 obtain ⟨W0, h1, h2, _⟩ := h
 exact h1.blk.keep (h2.block B h1.typ.lt (fun e => (Jo h1.cols e.symm).ne h1.typ (by decide) rfl))
theorem Zgp.form (h : Zgp w R N b0 B vc vr t xs x v' W) : ∃ A m c, v' = .slice A m c := by
 obtain ⟨W0, h1, h2, h3⟩ := h
 obtain ⟨A, c, e⟩ := Zbs h3
 exact ⟨A, _, c, e⟩
theorem Zgp.done (h : Zgp w R N b0 B vc vr t xs x v' W) (hN : N ≤ N') : FSt w (W.setCell ⟨B, 0, none⟩ v') R N' b0 B v' vr t (xs ++ [x]) := by
 obtain ⟨W0, h1, h2, h3⟩ := h
 have hp := h1.pos
 refine ⟨h1.toFS0.put hN h2 (fun b e => ⟨by have := (Qo h1.cols e).1; omega, (Jo h1.cols e).ne h1.typ (by decide), (Jo h1.cols e).ne h1.typ1 (by decide), Jo h1.cols e⟩), Zbt ?_ (by show B < B + 1; omega) _⟩
 simp only [List.length_append, List.length_singleton, List.flatMap_append, List.flatMap_singleton]
 exact h3
end
def kcF (R B : Nat) (vc : Value) : Nat → Kd R
 | 0 => Zbv R (.pointer (some ⟨B, 0, none⟩))
 | 1 => Zbv R vc
 | 2 => Zbv R (.pointer (some ⟨R, 0, none⟩))
 | 3 => Zla R (fun z => 0 ≤ z ∧ z < 20)
 | 4 => Zsr R
 | 5 => Zlt R 1
 | _ => Zr0 R
def Zqt (R N b0 : Nat) (t : Tbl) (vr : Value) (w : World) (e : Ending) (w' : World) : Prop :=
 ∃ (xs : List Yq) (vc : Value), e = .returned (.agg #[vc, .int .i64 t.head, .int .i64 t.foot, vr, .int .i64 t.gap]) ∧ ((∀ x ∈ xs, Yo x) ∧ xs.length ≤ 8) ∧ Qh w' R N ∧ w.grownBy w' (some R) ∧ Ju w' b0 vc vr { t with cols := xs }
theorem Zup (w W : World) (R N b0 : Nat) (t : Tbl) (vc vr : Value) (hR : Qh w R N) (hb0 : b0 ≤ w.heap.size) (hRb : R < b0) (ho : Ju w b0 vc vr t) (hb : Below ((w.alloc (.cells #[vc, .int .i64 t.head, .int .i64 t.foot, vr, .int .i64 t.gap] 26)).alloc (.cells #[.slice none 0 0, .int .i64 0, .int .i64 0, .slice none 0 0, .int .i64 0] 26)).heap.size ((w.alloc (.cells #[vc, .int .i64 t.head, .int .i64 t.foot, vr, .int .i64 t.gap] 26)).alloc (.cells #[.slice none 0 0, .int .i64 0, .int .i64 0, .slice none 0 0, .int .i64 0] 26)) W) :
 FSt w ((W.setCell ⟨w.heap.size, 0, none⟩ (.slice (some ⟨W.heap.size, 0, none⟩) 0 0)).alloc (.cells #[] 100)) R N b0 w.heap.size (.slice (some ⟨W.heap.size, 0, none⟩) 0 0) vr t [] := by
 have HB := step (Zc (Zc (Zf w) (.cells #[vc, .int .i64 t.head, .int .i64 t.foot, vr, .int .i64 t.gap] 26)) (.cells #[.slice none 0 0, .int .i64 0, .int .i64 0, .slice none 0 0, .int .i64 0] 26)) hb
 have hs := hb.size
 simp only [World.alloc, Array.size_push] at hs
 have k0 : W.heap[w.heap.size]? = some (.cells #[vc, .int .i64 t.head, .int .i64 t.foot, vr, .int .i64 t.gap] 26 (0, 0)) := (hb.block _ (by simp; omega)).trans (Zv3 _ _ (heap_alloc_new w _))
 have k1 : W.heap[w.heap.size + 1]? = some (.cells #[.slice none 0 0, .int .i64 0, .int .i64 0, .slice none 0 0, .int .i64 0] 26 (0, 0)) := (hb.block _ (by simp)).trans (Zvn _ _ _ _ (by simp))
 have mk : ∀ (X : Nat) (cs : List Value), W.heap[X]? = some (.cells cs.toArray 26 (0, 0)) → Zh W X cs := by
  intro X cs hX
  refine ⟨fun k u hu => ?_, fun i => ?_⟩
  · unfold World.cell?; simp only [hX]; simpa using hu
  unfold World.frozen?; simp [hX]
 have h0 : FS0 w W R N b0 w.heap.size vc vr t := ⟨hR.below HB, Qd HB, ⟨hb0, hRb, Nat.le_refl _, by omega⟩, mk _ Zec k1, mk _ (Zd9 vc vr t) k0, ⟨_, k0⟩, ⟨_, k1⟩, (ho.below HB).rows⟩
 have h1 := h0.put (v' := .slice (some ⟨W.heap.size, 0, none⟩) 0 0) (Nat.le_refl N) (Jk W none) (fun b e => by cases e)
 have h2 := h1.pick (h1.rdr.below (Zc (Zf _) (.cells #[] 100))) (World.grownBy_alloc _ (.cells #[] 100) (some R))
 exact ⟨h2, Zuz _ W.heap.size (by simp) (by omega)⟩
theorem Zne {w W : World} {R N b0 : Nat} {t : Tbl} {xs : List Yq} {vc vr : Value} (h : FSt w W R N b0 w.heap.size vc vr t xs) (hx : (∀ x ∈ xs, Yo x) ∧ xs.length ≤ 8) (v0 v1 v2 v3 v4 : Value) :
 Zqt R N b0 t vr w (.returned (.agg #[vc, .int .i64 t.head, .int .i64 t.foot, vr, .int .i64 t.gap])) (((((W.setCell ⟨w.heap.size + 1, 0, none⟩ v0).setCell ⟨w.heap.size + 1, 1, none⟩ v1).setCell ⟨w.heap.size + 1, 2, none⟩ v2).setCell ⟨w.heap.size + 1, 3, none⟩ v3).setCell ⟨w.heap.size + 1, 4, none⟩ v4) := by
 obtain ⟨p1, p2, p3, p4⟩ := h.pos
 have hs : ∀ (U : World) (k : Nat) (v : Value), (Qh U R N ∧ w.grownBy U (some R) ∧ Jn U (w.heap.size + 1) 26 ∧ Ju U b0 vc vr { t with cols := xs }) → Qh (U.setCell ⟨w.heap.size + 1, k, none⟩ v) R N ∧ w.grownBy (U.setCell ⟨w.heap.size + 1, k, none⟩ v) (some R) ∧ Jn (U.setCell ⟨w.heap.size + 1, k, none⟩ v) (w.heap.size + 1) 26 ∧ Ju (U.setCell ⟨w.heap.size + 1, k, none⟩ v) b0 vc vr { t with cols := xs } := by
  rintro U k v ⟨a1, a2, a3, a4⟩
  exact ⟨Js a1 (by show R < w.heap.size + 1; omega) _, Qs a2 (by show _ ≤ w.heap.size + 1; omega) _, a3.set _ _, a4.past (Qt U rfl v) a3 (by decide) (by decide) (by decide)⟩
 have hz := hs _ 4 v4 (hs _ 3 v3 (hs _ 2 v2 (hs _ 1 v1 (hs _ 0 v0 ⟨h.rdr, h.grown, h.typ1, Jw h.cols (by omega), h.rows⟩))))
 exact ⟨xs, vc, rfl, hx, hz.1, hz.2.1, hz.2.2.2⟩
--TRACE
theorem Zpn (R N b0 : Nat) (t : Tbl) (Ac : Option Addr) (kc : Nat) (Ar : Option Addr) (kr : Nat) (w : World) (h : Qh w R N) (hN : N ≤ 800000) (hb0 : b0 ≤ w.heap.size) (hRb : R < b0) (ho : Ju w b0 (.slice Ac t.cols.length kc) (.slice Ar t.rows.length kr) t) (hs : ∀ r ∈ t.rows, ∀ c ∈ r.cs, c.t.size ≤ 1048576) :
 Calls Tryz.prog 129 #[.pointer (some ⟨R, 0, none⟩), .agg #[.slice Ac t.cols.length kc, .int .i64 t.head, .int .i64 t.foot, .slice Ar t.rows.length kr, .int .i64 t.gap]] w (Zqt R (N + 8) b0 t (.slice Ar t.rows.length kr) w) := by
 have hRl := h.lt
 have hG := fun (W : World) (hb : Below w.heap.size w W) => Zqa t Ac kc Ar kr W (ho.rdc.below hb) ((ho.rdr hs).below hb)
 have HR := Za h
 have HO := Za ho
 have hgn : ∃ n : Int, (Zao 90 t).cols = n := ⟨_, rfl⟩
 obtain ⟨gn, hgn⟩ := hgn
 clear h ho
 go_enter Tryz.func129, Tryz.ntmps129
 go_wp2_with fail
 refine (hG _ (Zc (Zc (Zf _) _) _)).mono ?_
 rintro e W1 ⟨GA, gc, rfl, _, hb1⟩
 rw [hgn]
 obtain ⟨c0, f0, s0⟩ := Jc w.heap.size (by first | (simp; omega) | simp [*]) hb1
 have HT0 := Za (Zup w W1 R N b0 t (.slice Ac t.cols.length kc) (.slice Ar t.rows.length kr) HR.out hb0 hRb HO.out hb1)
 clear hG hgn
 have hfg := Zvk
 go_wp2_with fail
 go_loopg [6] 8 (fun gg s6 wr => ∃ (kk : Nat) (xs : List Yq) (vc : Value), kk ≤ 8 ∧ 8 - kk ≤ gg ∧ xs.length = kk ∧ s6 = .int .i64 kk ∧ Aside (FSt w wr R (N + kk) b0 w.heap.size vc (.slice Ar t.rows.length kr) t xs) ∧ Aside ((∀ x ∈ xs, Yo x) ∧ xs.length = kk))
 case atStart => exact ⟨0, [], _, by omega, by omega, rfl, rfl, (show Aside _ from HT0.out), (show Aside _ from ⟨fun x hx => by simp at hx, rfl⟩)⟩
 obtain ⟨kk, xs, vc, hk8, hg, hxl, rfl, AT, AX⟩ := hrel
 clear HT0 c0 f0 s0
 by_cases hlt : (kk : Int) < gn ∧ kk < 8
 ·
  obtain ⟨hl1, hl2⟩ := hlt
  have hl2z : (kk : Int) < 8 := by omega
  go_wp2_with fail
  have HTD := Za (AT.out.pick (AT.out.rdr.below (Zt (Zf wr))) (Qd (Zt (Zf _))))
  refine Qe (fun l a W => (∃ vs : Nat → Value, a = ⟨List.toArray (.pointer (some ⟨R, 0, none⟩) :: (Ya Ac t kc Ar kr) :: Zb :: .pointer (some ⟨w.heap.size, 0, none⟩) :: .pointer (some ⟨w.heap.size + 1, 0, none⟩) :: .int .i64 gn :: .int .i64 ↑kk :: (Ya Ac t kc Ar kr) :: .agg #[.int .i64 (Zao 90 t).rows, .int .i64 gn, .slice GA (Zao 90 t).cells.length gc] :: .int .i64 gn :: .slice (some ⟨W1.heap.size, 0, none⟩) 0 0 :: .pointer (some ⟨w.heap.size, 0, none⟩) :: .int .i64 ↑kk :: .int .i64 gn :: .bool true :: .bool true :: .int .i64 ↑kk :: .bool true :: .bool true :: u19 :: u20 :: vs 0 :: vs 1 :: vs 2 :: vs 3 :: vs 4 :: vs 5 :: vs 6 :: vs 7 :: Zb :: []), []⟩ ∧ Zb6 (kcF R w.heap.size vc) (fun j => if j = 3 then 1 else 0) (fun j => match j with | 1 => [0] | 3 => [2] | 4 => [3] | 5 => [4] | _ => []) 9 6 (wr.drew) (N + kk) l vs W) ∨ (∃ vs : Nat → Value, a = ⟨List.toArray (.pointer (some ⟨R, 0, none⟩) :: (Ya Ac t kc Ar kr) :: Zb :: .pointer (some ⟨w.heap.size, 0, none⟩) :: .pointer (some ⟨w.heap.size + 1, 0, none⟩) :: .int .i64 gn :: .int .i64 ↑kk :: (Ya Ac t kc Ar kr) :: .agg #[.int .i64 (Zao 90 t).rows, .int .i64 gn, .slice GA (Zao 90 t).cells.length gc] :: .int .i64 gn :: .slice (some ⟨W1.heap.size, 0, none⟩) 0 0 :: .pointer (some ⟨w.heap.size, 0, none⟩) :: .int .i64 ↑kk :: .int .i64 gn :: .bool true :: .bool true :: .int .i64 ↑kk :: .bool true :: .bool true :: u19 :: u20 :: vs 0 :: vs 1 :: vs 2 :: vs 3 :: vs 4 :: vs 5 :: vs 6 :: vs 7 :: Zb :: []), []⟩ ∧ ∃ (x : Yq) (v9 : Value), (∀ j, j < 7 → l.getD j false = true) ∧ l.size = 9 ∧ l.getD 8 false = false ∧ (l.getD 7 false = true → vs 7 = .pointer (some ⟨w.heap.size, 0, none⟩)) ∧ Yo x ∧ vs 6 = v9 ∧ Zgp w R (N + kk + 1) b0 w.heap.size vc (.slice Ar t.rows.length kr) t xs x v9 W) ∨ (∃ vs : Nat → Value, a = ⟨List.toArray (.pointer (some ⟨R, 0, none⟩) :: (Ya Ac t kc Ar kr) :: Zb :: .pointer (some ⟨w.heap.size, 0, none⟩) :: .pointer (some ⟨w.heap.size + 1, 0, none⟩) :: .int .i64 gn :: .int .i64 ↑kk :: (Ya Ac t kc Ar kr) :: .agg #[.int .i64 (Zao 90 t).rows, .int .i64 gn, .slice GA (Zao 90 t).cells.length gc] :: .int .i64 gn :: .slice (some ⟨W1.heap.size, 0, none⟩) 0 0 :: .pointer (some ⟨w.heap.size, 0, none⟩) :: .int .i64 ↑kk :: .int .i64 gn :: .bool true :: .bool true :: .int .i64 ↑kk :: .bool true :: .bool true :: u19 :: u20 :: vs 0 :: vs 1 :: vs 2 :: vs 3 :: vs 4 :: vs 5 :: vs 6 :: vs 7 :: Zb :: []), []⟩ ∧ (∀ j, j < 9 → l.getD j true = true) ∧ ∃ (x : Yq) (v9 : Value), Yo x ∧ FSt w W R (N + kk + 1) b0 w.heap.size v9 (.slice Ar t.rows.length kr) t (xs ++ [x]))) (by kernel_rfl) ?top ?start ?step ?fin
  case top => exact Zae (by kernel_rfl)
  case start => exact Or.inl ⟨(fun j => match j with | 0 => u21 | 1 => u22 | 2 => u23 | 3 => u24 | 4 => u25 | 5 => u26 | 6 => u27 | 7 => u28 | _ => undef), rfl, Zb6.start HTD.out.rdr⟩
  case step =>
   intro l a W i o ho hl hpre hsz hI K hK
   have hi : i < 9 := (Array.getElem?_eq_some_iff.1 ho).1
   rcases hI with ⟨vs, rfl, hM⟩ | ⟨vs, rfl, hS⟩ | ⟨_, _, hall, _⟩
   ·
    obtain ⟨p, hr, hp⟩ := hM.rdr
    have hpM := hM.le (c := 1) rfl
    have hRW := hr.lt
    have hTW := HTD.out.pick hr hM.grown
    obtain rfl|rfl|rfl|rfl|rfl|rfl|rfl|rfl|rfl := cs9 hi
    all_goals
     simp only [List.getElem?_toArray, List.getElem?_cons_zero, List.getElem?_cons_succ, Option.some.injEq] at ho
     subst ho
     have hPR := Zce hpre
    · go_simp
      exact hK.out _ _ (Or.inl ⟨Zd vs 0 (.pointer (some ⟨w.heap.size, 0, none⟩)), rfl, hM.still hl (by decide) (by decide) rfl _ rfl⟩)
    · have hp0 := hPR 0 rfl
      have v0 : vs 0 = .pointer (some ⟨w.heap.size, 0, none⟩) := hM.held 0 hp0
      have c9 : W.cell? ⟨w.heap.size, 0, none⟩ = some (vc) := hTW.blk.1 0 _ rfl
      rw [v0]
      go_simp
      exact hK.out _ _ (Or.inl ⟨Zd vs 1 (vc), by simp [Zd, v0], hM.still hl (by decide) (by decide) (ga hp0 rfl) _ rfl⟩)
    · go_simp
      exact hK.out _ _ (Or.inl ⟨Zd vs 2 (.pointer (some ⟨R, 0, none⟩)), rfl, hM.still hl (by decide) (by decide) rfl _ rfl⟩)
    ·
     have hp2 := hPR 2 rfl
     have v0 : vs 2 = .pointer (some ⟨R, 0, none⟩) := hM.held 2 hp2
     rw [v0]
     go_simp
     refine (pick R p 20 _ hr (by omega) (by first | decide | omega)).mono ?_
     rintro e W5 ⟨q, rfl, hq0, hq1, hR1, hg1⟩
     have hq2 := hq1 (by first | decide | omega)
     exact hK.out _ _ (Or.inl ⟨Zd vs 3 (.int .i64 q), by simp [Zd, v0], hM.picked hl (by decide) (by decide) (ga hp2 rfl) _ hp hg1 hR1 ⟨q, rfl, hq0, hq2⟩⟩)
    · have hp3 := hPR 3 rfl
      obtain ⟨z3, v3, hz3⟩ : ∃ z : Int, vs 3 = .int .i64 z ∧ (0 ≤ z ∧ z < 20) := hM.held 3 hp3
      rw [v3]
      go_simp
      exact hK.out _ _ (Or.inl ⟨Zd vs 4 (.agg #[.int .i64 1, .int .i64 z3]), by simp [Zd, v3], hM.still hl (by decide) (by decide) (ga hp3 rfl) _ ⟨⟨1, z3⟩, rfl, by show (0 : Int) ≤ 1; decide, by show (1 : Int) ≤ 3; decide, by show -1 ≤ z3; omega, by show z3 ≤ 101; omega⟩⟩)
    · have hp4 := hPR 4 rfl
      obtain ⟨x6, v6, hx6⟩ : ∃ x : Yq, vs 4 = .agg #[.int .i64 x.k, .int .i64 x.n] ∧ Yo x := hM.held 4 hp4
      rw [v6]
      go_simp
      exact hK.out _ _ (Or.inl ⟨Zd vs 5 (.slice (some ⟨W.heap.size, 0, none⟩) 1 1), by simp [Zd, v6], hM.made hl (by decide) (by decide) (ga hp4 rfl) _ _ (Zgj R W x6 _ hx6 hRW)⟩)
    ·
     have hp1 := hPR 1 rfl
     have hp5 := hPR 5 rfl
     have hp3 := hPR 3 rfl
     have v1 : vs 1 = vc := hM.held 1 hp1
     obtain ⟨X, v8, hX1, hX2, hX3⟩ : ∃ X, vs 5 = .slice (some ⟨X, 0, none⟩) 1 1 ∧ (∀ j, j < 1 → ∃ x : Yq, Yo x ∧ W.cell? ⟨X, j * 2, none⟩ = some (.int .i64 x.k) ∧ W.cell? ⟨X, j * 2 + 1, none⟩ = some (.int .i64 x.n)) ∧ X ≠ R ∧ X < W.heap.size := hM.held 5 hp5
     obtain ⟨x, hx0, hx1, hx2⟩ := hX1 0 (by decide)
     rw [Nat.zero_mul] at hx1 hx2
     have hp0 := Qw (hM.clo 1 hp1) (show 0 ∈ [0] by decide)
     have hp4 := Qw (hM.clo 5 hp5) (show 4 ∈ [4] by decide)
     have hp2 := Qw (hM.clo 3 hp3) (show 2 ∈ [2] by decide)
     obtain ⟨i0, hi0, hz0, hz1, hz2⟩ := info_parts Zdw
     have hlen : xs.length ≤ 8 := by have := AX.out.2; omega
     rw [if_pos (by simp [Region.wanted])]
     refine wp_append_own W (.tmp 22) (.tmp 26) 23 rfl (w.heap.size + 1) 100 i0 _ 2 16 Zee hi0 hz0 hz1 hz2 rfl (by decide) _ _ _ (by simp [Act.eval, v1]) hTW.cols ⟨X, 0, none⟩ 1 1 (Zes x) (by simp [Act.eval, v8]) rfl (Zo1 hx1 hx2) (Zpr _ _) (by unfold maxLen; omega) (by omega) (by have := hTW.pos; omega) ?_
     intro v9 W9 ho9 hg9 _
     have hlt6 : 6 < l.size := by rw [hM.size]; decide
     refine hK.out _ _ (Or.inr (Or.inl ⟨Zd vs 6 v9, by simp [Zd, Act.put], x, v9, ?_, by simpa using hM.size, by rw [getD_set_ne false (by decide)]; exact hM.last 8 (by decide), fun h => ?_, hx0, rfl, W, hTW.mono (by omega), hg9, ho9⟩))
     · intro j hj
       by_cases e : j = 6
       · subst e; simp [Array.getD, hM.size]
       rw [getD_set_ne false (Ne.symm e)]
       obtain rfl|rfl|rfl|rfl|rfl|rfl : j = 0 ∨ j = 1 ∨ j = 2 ∨ j = 3 ∨ j = 4 ∨ j = 5 := by omega
       all_goals assumption
     rw [getD_set_ne false (by decide), hM.last 7 (by decide)] at h; cases h
    · have hm := hpre ⟨6, .phase⟩ (by simp) rfl
      rw [hM.last 6 (by decide)] at hm
      cases hm
    have hm := hpre ⟨6, .data⟩ (by simp) rfl
    rw [hM.last 6 (by decide)] at hm
    cases hm
   ·
    obtain ⟨x, v9, hall, hsz2, hl7, h6, hxb, h5, hS⟩ := hS
    have hno : ¬ i < 7 := fun h => by have h1 := hall i h; rw [Qa (by omega) false true, hl] at h1; cases h1
    obtain rfl|rfl : i = 7 ∨ i = 8 := by omega
    · simp only [List.getElem?_toArray, List.getElem?_cons_zero, List.getElem?_cons_succ, Option.some.injEq] at ho
      subst ho
      go_simp
      refine hK.out _ _ (Or.inr (Or.inl ⟨Zd vs 7 (.pointer (some ⟨w.heap.size, 0, none⟩)), by simp [Zd, h5], x, v9, fun j hj => by rw [getD_set_ne false (by omega)]; exact hall j hj, by simpa using hsz2, by rw [getD_set_ne false (by decide)]; exact hl7, fun _ => rfl, hxb, h5, hS⟩))
    simp only [List.getElem?_toArray, List.getElem?_cons_zero, List.getElem?_cons_succ, Option.some.injEq] at ho
    subst ho
    have v6 := h6 (hpre ⟨7, .data⟩ (by simp) rfl)
    obtain ⟨A9, m9, k9, rfl⟩ := hS.form
    have c9 : W.cell? ⟨w.heap.size, 0, none⟩ = some vc := hS.blk.1 0 _ rfl
    have f9 := hS.blk.2 0
    rw [v6, h5]
    go_simp
    refine hK.out _ _ (Or.inr (Or.inr ⟨vs, by simp [v6, h5], fun j hj => ?_, x, _, hxb, hS.done (Nat.le_refl _)⟩))
    by_cases e : j = 8
    · subst e; simp [Array.getD, hsz2]
    rw [getD_set_ne true (Ne.symm e), Qa (by omega) true false]
    by_cases e0 : j = 7
    · subst e0; exact hpre ⟨7, .data⟩ (by simp) rfl
    exact hall j (by omega)
   rw [hall i hi] at hl; cases hl
  rintro l a W hall (⟨vs, rfl, hM⟩ | ⟨vs, rfl, hS⟩ | ⟨vs, rfl, _, hT⟩)
  · have h2 := hall 8 (by decide)
    rw [Qa (by rw [hM.size]; decide) true false, hM.last 8 (by decide)] at h2
    cases h2
  · obtain ⟨x, v9, _, hsz2, hl7, _⟩ := hS
    have h2 := hall 8 (by decide)
    rw [Qa (by omega) true false, hl7] at h2
    cases h2
  obtain ⟨x, v9, hxb, hT⟩ := hT
  have HT5 := Za hT
  clear hT hall
  go_wp2_with fail
  go_roundg (8 - (kk + 1))
  case measure => omega
  refine ⟨kk + 1, xs ++ [x], v9, by omega, by omega, (by simp; omega), by go_num, (show Aside _ from HT5.out), (show Aside _ from ⟨fun y hy => ?_, by simp; have := AX.out.2; omega⟩)⟩
  rcases List.mem_append.1 hy with hy | hy
  · exact AX.out.1 y hy
  rw [List.mem_singleton.1 hy]; exact hxb
 have HX := Za AX.out
 have HT5 := Za (AT.out.mono (N' := N + 8) (by omega))
 clear AT AX
 by_cases hlt2 : (kk : Int) < gn
 ·
  have hl2 : ¬ (kk : Int) < 8 := by omega
  have c0 := HT5.out.blk.1 0 _ rfl
  have c1 := HT5.out.blk.1 1 _ rfl
  have c2 := HT5.out.blk.1 2 _ rfl
  have c3 := HT5.out.blk.1 3 _ rfl
  have c4 := HT5.out.blk.1 4 _ rfl
  have h0 := HT5.out.res.1 0 _ rfl
  have h1 := HT5.out.res.1 1 _ rfl
  have h2 := HT5.out.res.1 2 _ rfl
  have h3 := HT5.out.res.1 3 _ rfl
  have h4 := HT5.out.res.1 4 _ rfl
  have hf := HT5.out.res.2
  have hv := Zbs HT5.out.cols
  obtain ⟨Az, kz, rfl⟩ := hv
  go_wp2_with fail
  exact bodyPost_ret (v := .agg #[.slice Az xs.length kz, .int .i64 t.head, .int .i64 t.foot, .slice Ar t.rows.length kr, .int .i64 t.gap]) (by simp [results, Tryz.results129, go_sem, *]) rfl (Zne HT5.out ⟨HX.out.1, by have := HX.out.2; omega⟩ _ _ _ _ _)
 skip
 have c0 := HT5.out.blk.1 0 _ rfl
 have c1 := HT5.out.blk.1 1 _ rfl
 have c2 := HT5.out.blk.1 2 _ rfl
 have c3 := HT5.out.blk.1 3 _ rfl
 have c4 := HT5.out.blk.1 4 _ rfl
 have h0 := HT5.out.res.1 0 _ rfl
 have h1 := HT5.out.res.1 1 _ rfl
 have h2 := HT5.out.res.1 2 _ rfl
 have h3 := HT5.out.res.1 3 _ rfl
 have h4 := HT5.out.res.1 4 _ rfl
 have hf := HT5.out.res.2
 have hv := Zbs HT5.out.cols
 obtain ⟨Az, kz, rfl⟩ := hv
 go_wp2_with fail
 exact bodyPost_ret (v := .agg #[.slice Az xs.length kz, .int .i64 t.head, .int .i64 t.foot, .slice Ar t.rows.length kr, .int .i64 t.gap]) (by simp [results, Tryz.results129, go_sem, *]) rfl (Zne HT5.out ⟨HX.out.1, by have := HX.out.2; omega⟩ _ _ _ _ _)
theorem Zsc {w W W' : World} {R : Nat} (hB : Below w.heap.size w W) (hg : W.grownBy W' (some R)) (hR : w.heap.size ≤ R) : Below w.heap.size w W' :=
 hB.trans ⟨hg.os, hg.tape, hg.output, hg.size, fun k hk => hg.block k (by have := hB.size; omega) (fun e => by injection e with e; omega)⟩
theorem Ztk {t : Tbl} (h : Zb2 t) {xs : List Yq} (hx : (∀ x ∈ xs, Yo x) ∧ xs.length ≤ 8) : Zb2 { t with cols := xs } := ⟨h.head, h.foot, h.gap, hx, h.rows, h.cells⟩
theorem Zlj {t : Tbl} (h : Zb2 t) : ∀ r ∈ t.rows, ∀ c ∈ r.cs, c.t.size ≤ 1048576 := by
 obtain ⟨k, hk⟩ := h.cells
 intro r hr c hc
 obtain ⟨i, hi, rfl⟩ := List.getElem_of_mem hr
 exact Nat.le_trans ((hk i hi).2 c hc).1 (by decide)
def Zty (lo hi : Int) (w : World) (e : Ending) (w' : World) : Prop :=
 ∃ (t : Tbl) (vc vr : Value) (k : Int), e = .returned (.tuple #[.agg #[vc, .int .i64 t.head, .int .i64 t.foot, vr, .int .i64 t.gap], .int .i64 k]) ∧ Zb2 t ∧ (lo ≤ k ∧ k ≤ hi) ∧ Ju w' w.heap.size vc vr t ∧ Below w.heap.size w w'
theorem Zwe {w W : World} {base : Nat} {vc vr : Value} {t : Tbl} (hB : Below w.heap.size w W) (ho : Ju W base vc vr t) (hb : w.heap.size < base) (v0 v1 v2 v3 v4 : Value) :
 Ju (((((W.setCell ⟨w.heap.size, 0, none⟩ v0).setCell ⟨w.heap.size, 1, none⟩ v1).setCell ⟨w.heap.size, 2, none⟩ v2).setCell ⟨w.heap.size, 3, none⟩ v3).setCell ⟨w.heap.size, 4, none⟩ v4) w.heap.size vc vr t ∧ Below w.heap.size w (((((W.setCell ⟨w.heap.size, 0, none⟩ v0).setCell ⟨w.heap.size, 1, none⟩ v1).setCell ⟨w.heap.size, 2, none⟩ v2).setCell ⟨w.heap.size, 3, none⟩ v3).setCell ⟨w.heap.size, 4, none⟩ v4) :=
 ⟨Ju.base (Ju.setA (Ju.setA (Ju.setA (Ju.setA (Ju.setA ho hb _) hb _) hb _) hb _) hb _) (by omega), Yi (Yi (Yi (Yi (Yi hB (Nat.le_refl _) _) (Nat.le_refl _) _) (Nat.le_refl _) _) (Nat.le_refl _) _) (Nat.le_refl _) _⟩
theorem Zvv {w W : World} {lo hi k : Int} {vc vr : Value} {t : Tbl} (h : Ju W w.heap.size vc vr t ∧ Below w.heap.size w W) (hb : Zb2 t) (hk : lo ≤ k ∧ k ≤ hi) : Zty lo hi w (.returned (.tuple #[.agg #[vc, .int .i64 t.head, .int .i64 t.foot, vr, .int .i64 t.gap], .int .i64 k])) W :=
 ⟨t, vc, vr, k, rfl, hb, hk, h.1, h.2⟩
end Go.Proofs.YtgdmcmicfoamlaaGreatDoor
namespace Go.Proofs.YtgdmcmicfoamlaaGreatDoor
open Go.RowKit
structure Zhv (vals : Nat → Value) (n : Nat) (V : World) (l : Array Bool) (vs : Nat → Value) (W : World) : Prop where
 size : l.size = n
 below : Below V.heap.size V W
 held : ∀ j, l.getD j false = true → vs j = vals j
section
variable {vals : Nat → Value} {n : Nat} {V : World} {l : Array Bool} {vs : Nat → Value} {W W' : World}
theorem Zhv.next (h : Zhv vals n V l vs W) (i : Nat) (v : Value) (hv : v = vals i) (hb : Below W.heap.size W W') : Zhv vals n V (l.setIfInBounds i true) (Zd vs i v) W' := by
 refine ⟨by simpa using h.size, step h.below hb, fun j hj => ?_⟩
 unfold Zd
 by_cases e : j = i
 · subst e; rw [if_pos rfl]; exact hv
 rw [if_neg e]
 rw [getD_set_ne false (Ne.symm e)] at hj
 exact h.held j hj
theorem Zhv.still (h : Zhv vals n V l vs W) (i : Nat) (v : Value) (hv : v = vals i) : Zhv vals n V (l.setIfInBounds i true) (Zd vs i v) W := h.next i v hv (Zf W)
theorem Zhv.start : Zhv vals n V (Array.replicate n false) vs V := ⟨by simp, Zf V, fun j hj => by simp [Array.getD] at hj⟩
end
structure Zbj (vals : Nat → Value) (n : Nat) (dep : Nat → List Nat) (V : World) (ad : Addr) (sv : Value) (l : Array Bool) (vs : Nat → Value) (W : World) : Prop where
 mid : ∃ W1, Zhv vals n V l vs W1 ∧ W = if l.getD (n - 1) false = true then W1.setCell ad sv else W1
 closed : ∀ j, l.getD j false = true → ∀ e ∈ dep j, l.getD e false = true
def Zl7 (n : Nat) (dep : Nat → List Nat) : Prop := ∀ L : Nat → Prop, (∀ j, L j → ∀ e ∈ dep j, L e) → L (n - 1) → ∀ j, j < n → L j
section
variable {vals : Nat → Value} {n : Nat} {dep : Nat → List Nat} {V : World} {ad : Addr} {sv : Value} {l : Array Bool} {vs : Nat → Value} {W W' : World}
theorem Zbj.start (hn : 0 < n) : Zbj vals n dep V ad sv (Array.replicate n false) vs V :=
 ⟨⟨V, Zhv.start, by rw [if_neg]; simp [Array.getD]⟩, fun j hj => by simp [Array.getD] at hj⟩
theorem Zbj.size (h : Zbj vals n dep V ad sv l vs W) : l.size = n := by obtain ⟨W1, h1, _⟩ := h.mid; exact h1.size
theorem Zbj.open (h : Zbj vals n dep V ad sv l vs W) (hL : Zl7 n dep) {i : Nat} (hi : i < n) (hl : l.getD i true = false) : Zhv vals n V l vs W := by
 obtain ⟨W1, h1, h2⟩ := h.mid
 have : ¬ l.getD (n - 1) false = true := fun h9 => by
  have := hL (fun j => l.getD j false = true) h.closed h9 i hi
  rw [Qa (by rw [h1.size]; exact hi) false true, hl] at this
  cases this
 rw [if_neg this] at h2
 rw [h2]; exact h1
theorem Zbj.closed_set (h : Zbj vals n dep V ad sv l vs W) (i : Nat) (hd : ∀ e ∈ dep i, l.getD e false = true) (hi : i < n) :
 ∀ j, (l.setIfInBounds i true).getD j false = true → ∀ e ∈ dep j, (l.setIfInBounds i true).getD e false = true := by
 intro j hj e he
 have hup : l.getD e false = true → (l.setIfInBounds i true).getD e false = true := fun h0 => by
  by_cases e1 : e = i
  · subst e1; simp [Array.getD, h.size, hi]
  rw [getD_set_ne false (Ne.symm e1)]; exact h0
 by_cases e2 : j = i
 · subst e2; exact hup (hd e he)
 rw [getD_set_ne false (Ne.symm e2)] at hj
 exact hup (h.closed j hj e he)
theorem Zbj.next (h : Zbj vals n dep V ad sv l vs W) (hL : Zl7 n dep) (i : Nat) (hi : i < n - 1) (hl : l.getD i true = false) (v : Value) (hv : v = vals i) (hd : ∀ e ∈ dep i, l.getD e false = true) (hb : Below W.heap.size W W') :
 Zbj vals n dep V ad sv (l.setIfInBounds i true) (Zd vs i v) W' := by
 have ho := h.open hL (by omega) hl
 refine ⟨⟨W', ho.next i v hv hb, ?_⟩, h.closed_set i hd (by omega)⟩
 rw [if_neg]
 rw [getD_set_ne false (by omega)]
 intro h9
 have := hL (fun j => l.getD j false = true) h.closed h9 i (by omega)
 rw [Qa (by rw [h.size]; omega) false true, hl] at this
 cases this
theorem Zbj.still (h : Zbj vals n dep V ad sv l vs W) (hL : Zl7 n dep) (i : Nat) (hi : i < n - 1) (hl : l.getD i true = false) (v : Value) (hv : v = vals i) (hd : ∀ e ∈ dep i, l.getD e false = true) :
 Zbj vals n dep V ad sv (l.setIfInBounds i true) (Zd vs i v) W := h.next hL i hi hl v hv hd (Zf W)
theorem Zbj.last (h : Zbj vals n dep V ad sv l vs W) (hL : Zl7 n dep) (i : Nat) (hi : i + 1 = n) (hl : l.getD i true = false) (v : Value) (hv : v = vals i) (hd : ∀ e ∈ dep i, l.getD e false = true) :
 Zbj vals n dep V ad sv (l.setIfInBounds i true) (Zd vs i v) (W.setCell ad sv) := by
 have ho := h.open hL (by omega) hl
 refine ⟨⟨W, ho.still i v hv, ?_⟩, h.closed_set i hd (by omega)⟩
 rw [if_pos]
 have : n - 1 = i := by omega
 rw [this]
 simp [Array.getD, ho.size]; omega
theorem Zbj.fin (h : Zbj vals n dep V ad sv l vs W) (hn : 0 < n) (hall : ∀ j, j < n → l.getD j true = true) : ∃ W1, Zhv vals n V l vs W1 ∧ W = W1.setCell ad sv := by
 obtain ⟨W1, h1, h2⟩ := h.mid
 have h9 := hall (n - 1) (by omega)
 rw [Qa (by rw [h1.size]; omega) true false] at h9
 rw [if_pos h9] at h2
 exact ⟨W1, h1, h2⟩
theorem Jt : ∀ e ∈ ([] : List Nat), l.getD e false = true := fun _ h => by cases h
theorem Jd {a : Nat} {xs : List Nat} (h : l.getD a false = true) (ht : ∀ e ∈ xs, l.getD e false = true) : ∀ e ∈ a :: xs, l.getD e false = true := List.forall_mem_cons.2 ⟨h, ht⟩
end
theorem Zhe (xs : List Int) : ∀ u ∈ xs.flatMap Zc5, u.oneCell' = true := by
 intro u hu
 obtain ⟨x, _, h⟩ := List.mem_flatMap.1 hu
 simp only [Zc5, List.mem_cons, List.not_mem_nil, or_false] at h
 subst h; rfl
theorem Zrh (v : Value) (xs : List Int) (w : World) (h : Zkz Zc5 w v xs) (hn : xs.length ≤ 1048576) :
 Calls Tryz.prog 210 #[v] w fun e w' => ∃ v', e = .returned v' ∧ Zn w' w.heap.size v' xs ∧ Below w.heap.size w w' := by
 have q22 : ∀ (w : World) (a : Option Addr) (n c n' c' : Nat), (binOp .eql 29 (.slice a n c) (.slice none n' c')).run Tryz.prog w = .ok (.bool a.isNone) w := fun w a n c n' c' => Lib.run_eql_slice_nil w _ _ a n c n' c' Yl
 rcases h with ⟨rfl, rfl⟩ | ⟨b, o, c, rfl, hlt, hc⟩
 · go_enter Tryz.func210, Tryz.ntmps210
   go_wp2_with fail
   go_ret
   exact ⟨_, rfl, Zn.nil _ _, Zf _⟩
 have HC := Za hc
 clear hc
 obtain ⟨i0, hi, hz0, hz1, hz2⟩ := info_parts Yu
 go_enter Tryz.func210, Tryz.ntmps210
 go_wp2_with (at_builtin; refine wpList_append_own _ rfl _ _ 29 rfl w.heap.size 3 i0 _ 1 8 Yl hi hz0 hz1 hz2 rfl (by decide) _ _ _ rfl (World.ownsRow_made w #[] 0 (Nat.le_refl _) (Nat.zero_le _) (by simp)) ⟨b, o, none⟩ xs.length c (xs.flatMap Zc5) rfl ?qc1 ?qc2 ?qc3 ?qc4 ?qc5 ?qc6 ?_)
 case qc1 => exact Zbh Zc5 1 (fun _ => rfl) xs
 case qc2 => exact fun j u hj => Zg (Zc (Zf _) _) (HC.out j u hj)
 case qc3 => exact Zhe xs
 case qc4 => unfold maxLen; omega
 case qc5 => omega
 case qc6 => simp
 intro v' w1 hown hgrow hnil
 go_wp2_with fail
 go_ret
 exact ⟨v', rfl, by simpa [Zn] using hown, ((Below.refl _ w).alloc (Nat.le_refl _) _).grown hgrow (by simp) (by intro k hk; simp [Value.ownBlock] at hk; omega)⟩
theorem Zkd (total sum : Int) (vs : List Int) (k : Nat) : (Jx total sum vs).getD k 0 = total * vs.getD k 0 % sum := by
 unfold Jx
 rw [List.getD_eq_getElem?_getD, List.getD_eq_getElem?_getD, List.getElem?_map]
 cases vs[k]? <;> simp
theorem Zgz {a b : Int} (ha : 0 ≤ a ∧ a ≤ 100000) (hb : 0 ≤ b ∧ b ≤ 100000) : 0 ≤ a * b ∧ a * b ≤ 10000000000 := by
 refine ⟨Int.mul_nonneg ha.1 hb.1, ?_⟩
 have h1 : a * b ≤ 100000 * b := Int.mul_le_mul_of_nonneg_right ha.2 hb.1
 omega
theorem Zsj (total sum : Int) (vs : List Int) (T Wb Sb b o c g n : Nat) (w : World) (ht : 0 ≤ total ∧ total ≤ 100000) (hv : ∀ x ∈ vs, 0 ≤ x ∧ x ≤ 100000) (hs : 0 < sum ∧ sum ≤ 100000000) (hn : vs.length = n)
 (cT : w.cell? ⟨T, 0, none⟩ = some (.int .i64 total)) (cW : w.cell? ⟨Wb, 0, none⟩ = some (.slice (some ⟨b, o, none⟩) n c)) (cS : w.cell? ⟨Sb, 0, none⟩ = some (.int .i64 sum))
 (hr : Rd Za4 w (some ⟨b, o, none⟩) vs) (nT : T ≠ g) (nW : Wb ≠ g) (nS : Sb ≠ g) (nb : b ≠ g) (hnn : n ≤ 1000) :
 Zip 213 #[.pointer (some ⟨T, 0, none⟩), .pointer (some ⟨Wb, 0, none⟩), .pointer (some ⟨Sb, 0, none⟩)] (Jx total sum vs) n g w := by
 intro W x y hG hx hy
 have keep : ∀ (B i : Nat) (v : Value), B ≠ g → w.cell? ⟨B, i, none⟩ = some v → W.cell? ⟨B, i, none⟩ = some v := fun B i v hB hc => by
  have hlt := World.block_lt_of_cell? w _ hc
  rw [World.cell?_of_block (hG.block B hlt (fun e => by injection e with e; exact hB e))]
  exact hc
 have dT := keep T 0 _ nT cT
 have dW := keep Wb 0 _ nW cW
 have dS := keep Sb 0 _ nS cS
 obtain ⟨b1, o1, e1, _, c1⟩ := Za3 hr (Zf _) x (by omega)
 obtain ⟨b2, o2, e2, _, c2⟩ := Za3 hr (Zf _) y (by omega)
 injection e1 with e1; injection e1 with e1 e1'; subst e1; subst e1'
 injection e2 with e2; injection e2 with e2 e2'; subst e2; subst e2'
 have d1 := keep _ _ _ nb c1
 have d2 := keep _ _ _ nb c2
 have hvx := Yn hv x (by omega)
 have hvy := Yn hv y (by omega)
 have hcz : Zm1 (Jx total sum vs) x y = (if total * vs.getD y 0 % sum < total * vs.getD x 0 % sum then -1 else if total * vs.getD x 0 % sum < total * vs.getD y 0 % sum then 1 else 0) := by
  unfold Zm1; rw [Zkd, Zkd]
 rw [hcz]
 generalize vs.getD x 0 = p at d1 hvx ⊢
 generalize vs.getD y 0 = q at d2 hvy ⊢
 obtain ⟨m1, m2⟩ := Zgz ht hvx
 obtain ⟨m3, m4⟩ := Zgz ht hvy
 have hcmp := Zm6 (total * q % sum) (total * p % sum)
 have r1 : (total * p).tmod sum = total * p % sum := Int.tmod_eq_emod_of_nonneg m1
 have r2 : (total * q).tmod sum = total * q % sum := Int.tmod_eq_emod_of_nonneg m3
 have l1 := Int.emod_nonneg (total * p) (show sum ≠ 0 by omega)
 have l2 := Int.emod_nonneg (total * q) (show sum ≠ 0 by omega)
 have u1 := Int.emod_lt_of_pos (total * p) hs.1
 have u2 := Int.emod_lt_of_pos (total * q) hs.1
 have t1 := IntWalk.i64_in (total * p) (by omega)
 have t2 := IntWalk.i64_in (total * q) (by omega)
 have hs0 : ¬ sum = 0 := by omega
 have hs1 : (sum == 0) = false := by simp; omega
 generalize hP : total * p = P at *
 generalize hQ : total * q = Q at *
 have t3 : IntKind.i64.wrap (P.tmod sum) = P % sum := by rw [r1, IntKind.wrap_i64]; omega
 have t4 : IntKind.i64.wrap (Q.tmod sum) = Q % sum := by rw [r2, IntKind.wrap_i64]; omega
 have z1 : (x : Int) < (n : Int) := by omega
 have z2 : (y : Int) < (n : Int) := by omega
 have HP := Za hP
 have HQ := Za hQ
 generalize (if Q % sum < P % sum then (-1 : Int) else if P % sum < Q % sum then 1 else 0) = cz at hcmp ⊢
 have HC := Za hcmp
 clear hr keep cT cW cS c1 c2 hG hcz m1 m2 m3 m4 l1 l2 u1 u2 hv hcmp hvx hvy ht
 show Calls _ _ #[.int .i64 (x : Int), .int .i64 (y : Int), .pointer (some ⟨T, 0, none⟩), .pointer (some ⟨Wb, 0, none⟩), .pointer (some ⟨Sb, 0, none⟩)] W _
 go_enter Tryz.func213, Tryz.ntmps213
 go_wp2_with fail
 go_quiet (first | (go_at_call 214; refine Calls.quiet_of_same (HC.out _)))
 go_wp2_with fail
 go_ret
 exact ⟨rfl, _, rfl⟩
end Go.Proofs.YtgdmcmicfoamlaaGreatDoor
