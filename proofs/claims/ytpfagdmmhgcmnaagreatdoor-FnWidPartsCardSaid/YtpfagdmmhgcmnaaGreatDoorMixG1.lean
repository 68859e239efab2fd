import Derived.Test.YtpfagdmmhgcmnaaGreatDoorMixS
import Derived.Test.YtpfagdmmhgcmnaaGreatDoorMixO
import Derived.Test.YtpfagdmmhgcmnaaGreatDoorMixDn
import Derived.Test.YtpfagdmmhgcmnaaGreatDoorMixV
import Derived.Test.YtpfagdmmhgcmnaaGreatDoorMixSa
set_option linter.unusedVariables false
set_option linter.unusedSimpArgs false
namespace Go.Proofs.YtpfagdmmhgcmnaaGreatDoor
theorem free_two (L : List GCell) (c : GCell) (n : Nat) : ∀ (m k : Nat), freeFrom L c m k = freeFrom L c (m + n) k ∨ (freeFrom L c m k = k + m ∧ k + m ≤ freeFrom L c (m + n) k)
 | 0, k => .inr ⟨rfl, by
   have : ∀ (j k : Nat), k ≤ freeFrom L c j k := fun j => by
    induction j with
    | zero => intro k; exact Nat.le_refl k
    | succ j ih => intro k; unfold freeFrom; split; exact Nat.le_trans (Nat.le_succ k) (ih (k + 1)); exact Nat.le_refl k
   exact this _ _⟩
 | m + 1, k => by
  rw [show m + 1 + n = (m + n) + 1 by omega]
  unfold freeFrom
  split
  ·
   rcases free_two L c n m (k + 1) with h | ⟨h1, h2⟩
   ·
    exact .inl h
   ·
    exact .inr ⟨by omega, by omega⟩
  ·
   exact .inl rfl
def Alike (S S' : List GCell × Int) : Prop := S = S' ∨ (90 ≤ S.2 ∧ 90 ≤ S'.2)
theorem Alike.step {S S' : List GCell × Int} (h : Alike S S') (t : Tbl) (r i : Nat) (x : TCell) (hx : 0 ≤ x.c) : Alike (step1 400 t r i x S) (step1 90 t r i x S') := by
 rcases h with rfl | ⟨h1, h2⟩
 ·
  have hf := free_two S.1 (cell0 t r i x) 310 90 0
  rw [show 90 + 310 = 400 from rfl] at hf
  rcases hf with h | ⟨h1, h2⟩
  ·
   left; unfold step1; rw [h]
  ·
   right
   simp only [step1]
   rw [h1]
   constructor <;> omega
 ·
  right; simp only [step1]; constructor <;> omega
theorem Alike.cells (t : Tbl) (r : Nat) : ∀ (xs : List TCell) (i : Nat) {S S' : List GCell × Int}, (∀ x ∈ xs, 0 ≤ x.c) → Alike S S' → Alike (cellsSt 400 t r xs i S) (cellsSt 90 t r xs i S')
 | [], _, _, _, _, h => h
 | x :: xs, i, _, _, hx, h => Alike.cells t r xs (i + 1) (fun y hy => hx y (List.mem_cons_of_mem _ hy)) (h.step t r i x (hx x (List.mem_cons_self ..)))
theorem Alike.rows (t : Tbl) : ∀ (ys : List TRow) (r : Nat) {S S' : List GCell × Int}, (∀ y ∈ ys, ∀ x ∈ y.cs, 0 ≤ x.c) → Alike S S' → Alike (rowsSt 400 t ys r S) (rowsSt 90 t ys r S')
 | [], _, _, _, _, h => h
 | y :: ys, r, _, _, hx, h => Alike.rows t ys (r + 1) (fun z hz => hx z (List.mem_cons_of_mem _ hz)) (Alike.cells t r y.cs 0 (hx y (List.mem_cons_self ..)) h)
theorem grid_alike {t : Tbl} (h : tblOk t = true) : Alike (gridL 400 t) (gridL 90 t) :=
 Alike.rows t t.rows 0 (fun y hy x hx => by have := (cellOk_parts (((tblOk_parts h).2.2.2.2.2.2 y hy).2 x hx)).1.1; omega) (.inl rfl)
def fixedTo (t : Tbl) (n : Int) : Bool := (List.range n.toNat).all fun k => decide ((saidOf t k).k = 1)
def allFixed (m : Nat) (t : Tbl) : Bool := tblOk t && fixedTo t (gridL m t).2
end Go.Proofs.YtpfagdmmhgcmnaaGreatDoor

namespace Go.Proofs.YtpfagdmmhgcmnaaGreatDoor
open Go.RowKit
theorem fixed_all {t : Tbl} {n : Int} (h : ∀ j : Nat, (j : Int) < n → decide ((saidOf t j).k = 1) = true) : fixedTo t n = true := by
 unfold fixedTo
 rw [List.all_eq_true]
 intro x hx
 exact h x (by have := List.mem_range.1 hx; omega)
theorem fixed_not {t : Tbl} {n : Int} {j : Nat} (hj : (j : Int) < n) (h : ¬ (saidOf t j).k = 1) : fixedTo t n = false := by
 unfold fixedTo
 rw [List.all_eq_false]
 exact ⟨j, List.mem_range.2 (by omega), by simpa using h⟩
theorem GIn.rows {m : Nat} {t : Tbl} (h : tblOk t = true) : GIn 40 (gridL m t) := by
 obtain ⟨⟨p1, p2⟩, p3, _⟩ := tblOk_parts h
 have hcells : ∀ (r : Nat) (hr : r < t.rows.length) (xs : List TCell) (i n : Nat) (S : List GCell × Int), (∀ x ∈ xs, cellOk x = true) → i + xs.length ≤ 5 → GIn n S → GIn (n + xs.length) (cellsSt m t r xs i S) := by
  intro r hr xs
  induction xs with
  | nil => intro i n S _ _ hS; exact hS
  | cons x xs ih =>
   intro i n S hx hi hS
   simp only [List.length_cons] at hi ⊢
   have hx0 := cellOk_parts (hx x (List.mem_cons_self ..))
   have hb := rows_bounds h hr i x hx0.2
   have := ih (i + 1) (n + 1) _ (fun y hy => hx y (List.mem_cons_of_mem _ hy)) (by omega) (hS.step m t r i x (by omega) (by omega) hx0.1 ⟨by omega, by omega⟩)
   rw [show n + (xs.length + 1) = n + 1 + xs.length by omega]
   exact this
 have hrows : ∀ (k : Nat) (S : List GCell × Int), k ≤ t.rows.length → GIn (5 * (t.rows.length - k)) S → GIn (5 * t.rows.length) (rowsSt m t (t.rows.drop (t.rows.length - k)) (t.rows.length - k) S) := by
  intro k
  induction k with
  | zero => intro S _ hS; rw [Nat.sub_zero, List.drop_length]; exact hS
  | succ k ih =>
   intro S hk hS
   have hlt : t.rows.length - (k + 1) < t.rows.length := by omega
   rw [List.drop_eq_getElem_cons hlt, rowsSt]
   have hy := (tblOk_parts h).2.2.2.2.2.2 _ (List.getElem_mem hlt)
   have h1 := hcells _ hlt t.rows[t.rows.length - (k + 1)].cs 0 _ S hy.2 (by have := hy.1; omega) hS
   have h2 := h1.le (n' := 5 * (t.rows.length - k)) (by have := hy.1; omega)
   have h3 := ih _ (by omega) h2
   rw [show t.rows.length - k = t.rows.length - (k + 1) + 1 by omega] at h3
   exact h3
 have h0 := hrows t.rows.length (grid0 t) (Nat.le_refl _) (by rw [Nat.sub_self]; exact GIn.zero t p3)
 rw [Nat.sub_self] at h0
 exact GIn.le h0 (by omega)
theorem grid_cols {m : Nat} {t : Tbl} (h : tblOk t = true) : 1 ≤ (gridL m t).2 ∧ (gridL m t).2 ≤ 200 := by
 have := (GIn.rows (m := m) h).2.2
 omega
theorem fieldG (a b : Int) (A : Option Addr) (l c : Nat) (W : World) : (Instr.field 35 (.agg #[.int .i64 a, .int .i64 b, .slice A l c]) 1).run Tryz.prog W = .ok (.int .i64 b) W := by kernel_rfl
theorem fieldC (a b : Int) (W : World) : (Instr.field 43 (.agg #[.int .i64 a, .int .i64 b]) 0).run Tryz.prog W = .ok (.int .i64 a) W := by kernel_rfl
set_option maxRecDepth 100000 in
set_option maxHeartbeats 2000000 in
theorem impl_ColAllFixed (t : Tbl) (A : Option Addr) (c : Nat) (A' : Option Addr) (c' : Nat) (w : World) (hw : Base w) (hc : Rd colR w A t.cols) (hr : Rd rowR w A' t.rows) :
  Calls Tryz.prog 46 #[.agg #[.slice A t.cols.length c, .int .i64 t.head, .int .i64 t.foot, .slice A' t.rows.length c', .int .i64 t.gap]] w (fun e w' => e = .returned (.bool (allFixed 400 t)) ∧ Below w.heap.size w w') := by
 have hT := fun (W : World) (h : Below w.heap.size w W) => impl_TblOk t A c A' c' W (hw.below h) (hc.below h) (hr.below h)
 cases hok : tblOk t with
 | false =>
  rw [hok] at hT
  have hres : allFixed 400 t = false := by unfold allFixed; rw [hok]; rfl
  rw [hres]
  clear hres hok hc hr hw
  go_enter Tryz.func46, Tryz.ntmps46
  go_wp2_with fail
  refine (hT _ (balloc (brefl _) _)).mono ?_
  rintro e w1 ⟨rfl, hb⟩
  go_wp2_with fail
  go_ret
  exact ⟨rfl, step (balloc (brefl _) _) hb⟩
 | true =>
  have hG := fun (W : World) (h : Below w.heap.size w W) => impl_GrdOf t A c A' c' W (hw.below h) (hc.below h) (hr.below h)
  have hS := fun (W : World) (h : Below w.heap.size w W) (col : Int) => impl_said t A c A' c' col W (hc.below h)
  rw [hok] at hT
  have hgr : gridOf 400 t = ⟨t.rows.length, (gridL 400 t).2, (gridL 400 t).1⟩ := by unfold gridOf; rw [if_pos hok]
  rw [hgr] at hG
  have hres : Hid (allFixed 400 t = fixedTo t (gridL 400 t).2) := by show allFixed 400 t = _; unfold allFixed; rw [hok]; rfl
  obtain ⟨hn1, hn2⟩ := grid_cols (m := 400) hok
  rw [hres.out]
  clear hgr hok hc hr hw hres
  generalize gridL 400 t = GG at hG hn1 hn2 ⊢
  obtain ⟨GL, GN⟩ := GG
  dsimp only at hG hn1 hn2 ⊢
  obtain ⟨n, rfl⟩ := Int.eq_ofNat_of_zero_le (show 0 ≤ GN by omega)
  go_enter Tryz.func46, Tryz.ntmps46
  go_wp2_with fail
  refine (hT _ (balloc (brefl _) _)).mono ?_
  rintro e w1 ⟨rfl, hb⟩
  obtain ⟨c0, f0, s0⟩ := seenBk w.heap.size (by first | (simp; omega) | simp [*]) hb
  have HB := step (balloc (brefl w) _) hb
  clear hT
  go_wp2_with fail
  refine (hG _ HB).mono ?_
  rintro e w2 ⟨GA, gc, rfl, _, hb2⟩
  obtain ⟨k0, l0, m0⟩ := seenBk w.heap.size (by simp [*]) hb2
  have HB2 := step HB hb2
  have y0 : w2.cell? ⟨w.heap.size, 0, none⟩ = some (.slice A t.cols.length c) := by simp [k0, c0]
  have y1 : w2.cell? ⟨w.heap.size, 1, none⟩ = some (.int .i64 t.head) := by simp [k0, c0]
  have y2 : w2.cell? ⟨w.heap.size, 2, none⟩ = some (.int .i64 t.foot) := by simp [k0, c0]
  have y3 : w2.cell? ⟨w.heap.size, 3, none⟩ = some (.slice A' t.rows.length c') := by simp [k0, c0]
  have y4 : w2.cell? ⟨w.heap.size, 4, none⟩ = some (.int .i64 t.gap) := by simp [k0, c0]
  clear k0 l0 c0 f0 hG
  have hfg := fieldG
  have hfc := fieldC
  go_wp2_with fail
  go_loopg [10] n (fun gg s10 wr => ∃ kk : Nat, kk ≤ n ∧ n - kk ≤ gg ∧ s10 = .int .i64 kk ∧ Aside (Below w2.heap.size w2 wr) ∧ Aside (∀ j : Nat, j < kk → decide ((saidOf t j).k = 1) = true))
  case atStart => exact ⟨0, Nat.zero_le _, by omega, rfl, brefl _, fun j hj => absurd hj (Nat.not_lt_zero _)⟩
  case round =>
   obtain ⟨kk, hkk, hg, rfl, BW, AA⟩ := hrel
   by_cases hlt : kk < n
   ·
    have hltz : (kk : Int) < (n : Int) := by omega
    have z0 := keepC BW.out y0
    have z1 := keepC BW.out y1
    have z2 := keepC BW.out y2
    have z3 := keepC BW.out y3
    have z4 := keepC BW.out y4
    have hcall := hS wr (step HB2 BW.out) kk (by omega) (by omega)
    by_cases hq : (saidOf t kk).k = 1
    ·
     have HQ := hide hq
     rw [hq] at hcall
     clear hq
     go_wp2_with fail
     refine hcall.mono ?_
     rintro e w' ⟨rfl, hb'⟩
     go_wp2_with fail
     go_roundg (n - (kk + 1))
     case measure => omega
     case rel =>
      refine ⟨kk + 1, by omega, by omega, by go_num, step BW.out hb', (show Aside _ from fun j hj => ?_)⟩
      by_cases e : j = kk
      ·
       subst e; exact decide_eq_true HQ.out
      ·
       exact AA.out j (by omega)
    ·
     go_wp2_with fail
     refine hcall.mono ?_
     rintro e w' ⟨rfl, hb'⟩
     go_wp2_with fail
     go_ret
     exact ⟨by rw [fixed_not hltz hq]; rfl, step (step HB2 BW.out) hb'⟩
   ·
    have hltz : ¬ (kk : Int) < (n : Int) := by omega
    go_wp2_with fail
    go_ret
    exact ⟨by rw [fixed_all (fun j hj => AA.out j (by omega))]; rfl, step HB2 BW.out⟩
end Go.Proofs.YtpfagdmmhgcmnaaGreatDoor

namespace Go.Proofs.YtpfagdmmhgcmnaaGreatDoor
open Go.RowKit
theorem grd_post (g : Grid) {w W : World} {A : Option Addr} {c : Nat} {base : Nat} (ho : W.ownsRow base 39 5 (.slice A g.cells.length c) g.cells.length (g.cells.flatMap gcE)) (hb : Below w.heap.size w W) (hbs : w.heap.size ≤ base) : GrdPost g w (.returned (.agg #[.int .i64 g.rows, .int .i64 g.cols, .slice A g.cells.length c])) W :=
 ⟨A, c, rfl, own_base ho hbs, hb⟩
set_option maxHeartbeats 2000000 in
theorem spec_GrdOf (t : Tbl) (A : Option Addr) (c : Nat) (A' : Option Addr) (c' : Nat) (w : World) (hc : Rd colR w A t.cols) (hr : Rd rowR w A' t.rows) :
  Calls Tryz.prog 160 #[.agg #[.slice A t.cols.length c, .int .i64 t.head, .int .i64 t.foot, .slice A' t.rows.length c', .int .i64 t.gap]] w (GrdPost (gridOf 90 t) w) := by
 have hT := fun (W : World) (h : Below w.heap.size w W) => spec_TblOk t A c A' c' W (hc.below h) (hr.below h)
 cases hok : tblOk t with
 | false =>
  rw [hok] at hT
  have hres : gridOf 90 t = ⟨0, 0, []⟩ := by unfold gridOf; rw [if_neg (by simp [hok])]
  rw [hres]
  clear hres hok hc hr
  go_enter Tryz.func160, Tryz.ntmps160
  go_wp2_with fail
  refine (hT _ (balloc (balloc (brefl _) _) _)).mono ?_
  rintro e w1 ⟨rfl, hb⟩
  obtain ⟨c0, f0, s0⟩ := seenBk (w.heap.size + 1) (by first | (simp; omega) | simp [*]) hb
  have HB := step (balloc (balloc (brefl w) _) _) hb
  go_wp2_with fail
  refine bodyPost_ret (v := .agg #[.int .i64 0, .int .i64 0, .slice none 0 0]) (by simp [results, Tryz.results160, go_sem, *]) rfl (grd_post ⟨0, 0, []⟩ (base := w.heap.size) ⟨by simp, .inl ⟨rfl, rfl⟩⟩ ?_ (Nat.le_refl _))
  exact bset (bset (bset HB (by show _ ≤ w.heap.size + 1; omega) _) (by show _ ≤ w.heap.size + 1; omega) _) (by show _ ≤ w.heap.size + 1; omega) _
 | true =>
  have hG := fun (W : World) (h : Below w.heap.size w W) => spec_l3Of t A c A' c' W hok (hc.below h) (hr.below h)
  rw [hok] at hT
  have hres : gridOf 90 t = ⟨t.rows.length, (gridL 90 t).2, (gridL 90 t).1⟩ := by unfold gridOf; rw [if_pos hok]
  rw [hres]
  clear hres hok hc hr
  generalize gridL 90 t = GG at hG ⊢
  obtain ⟨GL, GN⟩ := GG
  dsimp only at hG ⊢
  go_enter Tryz.func160, Tryz.ntmps160
  go_wp2_with fail
  refine (hT _ (balloc (balloc (brefl _) _) _)).mono ?_
  rintro e w1 ⟨rfl, hb⟩
  obtain ⟨c0, f0, s0⟩ := seenBk w.heap.size (by first | (simp; omega) | simp [*]) hb
  obtain ⟨c1, f1, s1⟩ := seenBk (w.heap.size + 1) (by first | (simp; omega) | simp [*]) hb
  have HB := step (balloc (balloc (brefl w) _) _) hb
  clear hT
  go_wp2_with fail
  refine (hG _ HB).mono ?_
  rintro e w2 ⟨GA, gc, rfl, ho, hb2⟩
  obtain ⟨k1, l1, m1⟩ := seenBk (w.heap.size + 1) (by simp [*]) hb2
  have HB2 := step HB hb2
  have HO := hide ho
  clear hG ho
  go_wp2_with fail
  refine bodyPost_ret (v := .agg #[.int .i64 t.rows.length, .int .i64 GN, .slice GA GL.length gc]) (by simp [results, Tryz.results160, go_sem, *]) rfl (grd_post ⟨t.rows.length, GN, GL⟩ (base := w1.heap.size) ?_ ?_ (by have := HB.size; omega))
  ·
   exact own_setA (own_setA (own_setA HO.out (by show w.heap.size + 1 < _; omega) _) (by show w.heap.size + 1 < _; omega) _) (by show w.heap.size + 1 < _; omega) _
  ·
   exact bset (bset (bset HB2 (by show _ ≤ w.heap.size + 1; omega) _) (by show _ ≤ w.heap.size + 1; omega) _) (by show _ ≤ w.heap.size + 1; omega) _
structure FS0 (w W : World) (R N b0 B : Nat) (vc vr : Value) (t : Tbl) : Prop where
 rdr : RdrOk W R N
 grown : w.grownBy W (some R)
 pos : b0 ≤ w.heap.size ∧ R < b0 ∧ w.heap.size ≤ B ∧ B + 1 < W.heap.size
 res : BlockAt W (B + 1) zeros5
 blk : BlockAt W B (tvals vc vr t)
 typ : Typed W B 26
 typ1 : Typed W (B + 1) 26
 rows : OwnRows W b0 48 52 vr t.rows
structure FSt (w W : World) (R N b0 B : Nat) (vc vr : Value) (t : Tbl) (xs : List TCol) : Prop extends FS0 w W R N b0 B vc vr t where
 cols : W.ownsRow (B + 1) 43 2 vc xs.length (xs.flatMap colE)
section
variable {w W W' : World} {R N N' b0 B : Nat} {vc vr v' : Value} {t : Tbl} {xs : List TCol}
theorem FS0.pick (h : FS0 w W R N b0 B vc vr t) (hR : RdrOk W' R N') (hg : W.grownBy W' (some R)) : FS0 w W' R N' b0 B vc vr t := by
 obtain ⟨p1, p2, p3, p4⟩ := h.pos
 exact ⟨hR, grow_trans h.grown hg, ⟨p1, p2, p3, Nat.lt_of_lt_of_le p4 hg.size⟩, h.res.keep (grow_blk hg (by omega) (by omega)), h.blk.keep (grow_blk hg (by omega) (by omega)), h.typ.keep (grow_blk hg (by omega) (by omega)), h.typ1.keep (grow_blk hg (by omega) (by omega)), h.rows.grow (by omega) hg⟩
theorem FSt.pick (h : FSt w W R N b0 B vc vr t xs) (hR : RdrOk W' R N') (hg : W.grownBy W' (some R)) : FSt w W' R N' b0 B vc vr t xs :=
 ⟨h.toFS0.pick hR hg, own_grow h.cols (by have := h.pos; omega) hg⟩
theorem FSt.mono (h : FSt w W R N b0 B vc vr t xs) (hN : N ≤ N') : FSt w W R N' b0 B vc vr t xs := ⟨⟨h.rdr.mono hN, h.grown, h.pos, h.res, h.blk, h.typ, h.typ1, h.rows⟩, h.cols⟩
theorem FS0.put {row : Option Nat} (h : FS0 w W R N b0 B vc vr t) (hN : N ≤ N') (hg : W.grownBy W' row) (hrow : ∀ b, row = some b → w.heap.size ≤ b ∧ b ≠ B ∧ b ≠ B + 1 ∧ Typed W b 43) :
  FS0 w (W'.setCell ⟨B, 0, none⟩ v') R N' b0 B v' vr t := by
 obtain ⟨p1, p2, p3, p4⟩ := h.pos
 have hlow : ∀ b, b < w.heap.size ∨ b = B ∨ b = B + 1 → W'.heap[b]? = W.heap[b]? := fun b hb' => hg.block b (by omega) (fun e => by have := hrow b e.symm; omega)
 have hgw : w.grownBy W' (some R) := ⟨hg.os.trans h.grown.os, hg.tape.trans h.grown.tape, hg.output.trans h.grown.output, Nat.le_trans h.grown.size hg.size, fun k hk hne => (hlow k (by omega)).trans (h.grown.block k hk hne)⟩
 have hR := h.rdr.grow hg (fun g e => by have := hrow g e; omega)
 refine ⟨(rdr_set hR (by show R < B; omega) _).mono hN, grow_setN hgw (by show _ ≤ B; omega) _, ⟨p1, p2, p3, by have := hg.size; simp; omega⟩, (h.res.keep (hlow _ (by omega))).other (by show B ≠ B + 1; omega) _, (h.blk.keep (hlow B (by omega))).set (k := 0) (by show 0 < 5; omega) v', (h.typ.keep (hlow B (by omega))).set _ _, (h.typ1.keep (hlow _ (by omega))).set _ _, ?_⟩
 have h1 : OwnRows W' b0 48 52 vr t.rows := by
  cases row with
  | none =>
   obtain ⟨us, r1, r2, r3⟩ := h.rows
   exact ⟨us, own_keep r1 fun b hb => hg.block b (own_lt r1 hb).2 (by simp), r2.keep fun b _ hb => hg.block b hb (by simp), r3⟩
  | some b => exact h.rows.past hg (hrow b rfl).2.2.2 (by decide) (by decide)
 exact h1.past (grow_set W' rfl v') (h.typ.keep (hlow B (by omega))) (by decide) (by decide)
end
def FColS1 (w : World) (R N b0 B : Nat) (vc vr : Value) (t : Tbl) (xs : List TCol) (x : TCol) (v' : Value) (W : World) : Prop :=
 ∃ W0, FSt w W0 R N b0 B vc vr t xs ∧ W0.grownBy W vc.ownBlock ∧ W.ownsRow (B + 1) 43 2 v' (xs.length + 1) (xs.flatMap colE ++ colE x)
section
variable {w W : World} {R N N' b0 B : Nat} {vc vr v' : Value} {t : Tbl} {xs : List TCol} {x : TCol}
theorem FColS1.blk (h : FColS1 w R N b0 B vc vr t xs x v' W) : BlockAt W B (tvals vc vr t) := by
 obtain ⟨W0, h1, h2, _⟩ := h
 exact h1.blk.keep (h2.block B h1.typ.lt (fun e => (own_block h1.cols e.symm).ne h1.typ (by decide) rfl))
theorem FColS1.form (h : FColS1 w R N b0 B vc vr t xs x v' W) : ∃ A m c, v' = .slice A m c := by
 obtain ⟨W0, h1, h2, h3⟩ := h
 obtain ⟨A, c, e⟩ := own_sl h3
 exact ⟨A, _, c, e⟩
theorem FColS1.done (h : FColS1 w R N b0 B vc vr t xs x v' W) (hN : N ≤ N') : FSt w (W.setCell ⟨B, 0, none⟩ v') R N' b0 B v' vr t (xs ++ [x]) := by
 obtain ⟨W0, h1, h2, h3⟩ := h
 have hp := h1.pos
 refine ⟨h1.toFS0.put hN h2 (fun b e => ⟨by have := (own_lt h1.cols e).1; omega, (own_block h1.cols e).ne h1.typ (by decide), (own_block h1.cols e).ne h1.typ1 (by decide), own_block h1.cols e⟩), own_setA ?_ (by show B < B + 1; omega) _⟩
 simp only [List.length_append, List.length_singleton, List.flatMap_append, List.flatMap_singleton]
 exact h3
end
def kcF (R B : Nat) (vc : Value) : Nat → Kd R
 | 0 => kVal R (.pointer (some ⟨B, 0, none⟩))
 | 1 => kVal R vc
 | 2 => kVal R (.pointer (some ⟨R, 0, none⟩))
 | 3 => kInt R (fun z => 0 ≤ z ∧ z < 20)
 | 4 => kCol R
 | 5 => kCols R 1
 | _ => kAny R
def FixPost (R N b0 : Nat) (t : Tbl) (vr : Value) (w : World) (e : Ending) (w' : World) : Prop :=
 ∃ (xs : List TCol) (vc : Value), e = .returned (.agg #[vc, .int .i64 t.head, .int .i64 t.foot, vr, .int .i64 t.gap]) ∧ ((∀ x ∈ xs, colBd x) ∧ xs.length ≤ 8) ∧ RdrOk w' R N ∧ w.grownBy w' (some R) ∧ OwnT w' b0 vc vr { t with cols := xs }
theorem fst_new (w W : World) (R N b0 : Nat) (t : Tbl) (vc vr : Value) (hR : RdrOk w R N) (hb0 : b0 ≤ w.heap.size) (hRb : R < b0) (ho : OwnT w b0 vc vr t) (hb : Below ((w.alloc (.cells #[vc, .int .i64 t.head, .int .i64 t.foot, vr, .int .i64 t.gap] 26)).alloc (.cells #[.slice none 0 0, .int .i64 0, .int .i64 0, .slice none 0 0, .int .i64 0] 26)).heap.size ((w.alloc (.cells #[vc, .int .i64 t.head, .int .i64 t.foot, vr, .int .i64 t.gap] 26)).alloc (.cells #[.slice none 0 0, .int .i64 0, .int .i64 0, .slice none 0 0, .int .i64 0] 26)) W) :
  FSt w ((W.setCell ⟨w.heap.size, 0, none⟩ (.slice (some ⟨W.heap.size, 0, none⟩) 0 0)).alloc (.cells #[] 43)) R N b0 w.heap.size (.slice (some ⟨W.heap.size, 0, none⟩) 0 0) vr t [] := by
 have HB := step (balloc (balloc (brefl w) (.cells #[vc, .int .i64 t.head, .int .i64 t.foot, vr, .int .i64 t.gap] 26)) (.cells #[.slice none 0 0, .int .i64 0, .int .i64 0, .slice none 0 0, .int .i64 0] 26)) hb
 have hs := hb.size
 simp only [World.alloc, Array.size_push] at hs
 have k0 : W.heap[w.heap.size]? = some (.cells #[vc, .int .i64 t.head, .int .i64 t.foot, vr, .int .i64 t.gap] 26 (0, 0)) := (hb.block _ (by simp; omega)).trans (old_ty _ _ (heap_alloc_new w _))
 have k1 : W.heap[w.heap.size + 1]? = some (.cells #[.slice none 0 0, .int .i64 0, .int .i64 0, .slice none 0 0, .int .i64 0] 26 (0, 0)) := (hb.block _ (by simp)).trans (new_ty _ _ _ _ (by simp))
 have mk : ∀ (X : Nat) (cs : List Value), W.heap[X]? = some (.cells cs.toArray 26 (0, 0)) → BlockAt W X cs := by
  intro X cs hX
  refine ⟨fun k u hu => ?_, fun i => ?_⟩
  ·
   unfold World.cell?; simp only [hX]; simpa using hu
  ·
   unfold World.frozen?; simp [hX]
 have h0 : FS0 w W R N b0 w.heap.size vc vr t := ⟨hR.below HB, grow_below HB, ⟨hb0, hRb, Nat.le_refl _, by omega⟩, mk _ zeros5 k1, mk _ (tvals vc vr t) k0, ⟨_, k0⟩, ⟨_, k1⟩, (ho.below HB).rows⟩
 have h1 := h0.put (v' := .slice (some ⟨W.heap.size, 0, none⟩) 0 0) (Nat.le_refl N) (grow_refl W none) (fun b e => by cases e)
 have h2 := h1.pick (h1.rdr.below (balloc (brefl _) (.cells #[] 43))) (World.grownBy_alloc _ (.cells #[] 43) (some R))
 exact ⟨h2, made_at _ W.heap.size (by simp) (by omega)⟩
theorem fix_post {w W : World} {R N b0 : Nat} {t : Tbl} {xs : List TCol} {vc vr : Value} (h : FSt w W R N b0 w.heap.size vc vr t xs) (hx : (∀ x ∈ xs, colBd x) ∧ xs.length ≤ 8) (v0 v1 v2 v3 v4 : Value) :
  FixPost R N b0 t vr w (.returned (.agg #[vc, .int .i64 t.head, .int .i64 t.foot, vr, .int .i64 t.gap])) (((((W.setCell ⟨w.heap.size + 1, 0, none⟩ v0).setCell ⟨w.heap.size + 1, 1, none⟩ v1).setCell ⟨w.heap.size + 1, 2, none⟩ v2).setCell ⟨w.heap.size + 1, 3, none⟩ v3).setCell ⟨w.heap.size + 1, 4, none⟩ v4) := by
 obtain ⟨p1, p2, p3, p4⟩ := h.pos
 have hs : ∀ (U : World) (k : Nat) (v : Value), (RdrOk U R N ∧ w.grownBy U (some R) ∧ Typed U (w.heap.size + 1) 26 ∧ OwnT U b0 vc vr { t with cols := xs }) → RdrOk (U.setCell ⟨w.heap.size + 1, k, none⟩ v) R N ∧ w.grownBy (U.setCell ⟨w.heap.size + 1, k, none⟩ v) (some R) ∧ Typed (U.setCell ⟨w.heap.size + 1, k, none⟩ v) (w.heap.size + 1) 26 ∧ OwnT (U.setCell ⟨w.heap.size + 1, k, none⟩ v) b0 vc vr { t with cols := xs } := by
  rintro U k v ⟨a1, a2, a3, a4⟩
  exact ⟨rdr_set a1 (by show R < w.heap.size + 1; omega) _, grow_setN a2 (by show _ ≤ w.heap.size + 1; omega) _, a3.set _ _, a4.past (grow_set U rfl v) a3 (by decide) (by decide) (by decide)⟩
 have hz := hs _ 4 v4 (hs _ 3 v3 (hs _ 2 v2 (hs _ 1 v1 (hs _ 0 v0 ⟨h.rdr, h.grown, h.typ1, own_base h.cols (by omega), h.rows⟩))))
 exact ⟨xs, vc, rfl, hx, hz.1, hz.2.1, hz.2.2.2⟩
--TRACE
set_option linter.unusedSimpArgs false in
set_option maxRecDepth 100000 in
set_option maxHeartbeats 40000000 in
theorem rdAllFixed (R N b0 : Nat) (t : Tbl) (Ac : Option Addr) (kc : Nat) (Ar : Option Addr) (kr : Nat) (w : World) (h : RdrOk w R N) (hN : N ≤ 800000) (hb0 : b0 ≤ w.heap.size) (hRb : R < b0) (ho : OwnT w b0 (.slice Ac t.cols.length kc) (.slice Ar t.rows.length kr) t) (hs : ∀ r ∈ t.rows, ∀ c ∈ r.cs, c.t.size ≤ 1048576) :
  Calls Tryz.prog 130 #[.pointer (some ⟨R, 0, none⟩), .agg #[.slice Ac t.cols.length kc, .int .i64 t.head, .int .i64 t.foot, .slice Ar t.rows.length kr, .int .i64 t.gap]] w (FixPost R (N + 8) b0 t (.slice Ar t.rows.length kr) w) := by
 have hRl := h.lt
 have hG := fun (W : World) (hb : Below w.heap.size w W) => spec_GrdOf t Ac kc Ar kr W (ho.rdc.below hb) ((ho.rdr hs).below hb)
 have HR := hide h
 have HO := hide ho
 have hgn : ∃ n : Int, (gridOf 90 t).cols = n := ⟨_, rfl⟩
 obtain ⟨gn, hgn⟩ := hgn
 clear h ho
 go_enter Tryz.func130, Tryz.ntmps130
 go_wp2_with fail
 refine (hG _ (balloc (balloc (brefl _) _) _)).mono ?_
 rintro e W1 ⟨GA, gc, rfl, _, hb1⟩
 rw [hgn]
 obtain ⟨c0, f0, s0⟩ := seenBk w.heap.size (by first | (simp; omega) | simp [*]) hb1
 have HT0 := hide (fst_new w W1 R N b0 t (.slice Ac t.cols.length kc) (.slice Ar t.rows.length kr) HR.out hb0 hRb HO.out hb1)
 clear hG hgn
 have hfg := fieldG
 go_wp2_with fail

 go_loopg [6] 8 (fun gg s6 wr => ∃ (kk : Nat) (xs : List TCol) (vc : Value), kk ≤ 8 ∧ 8 - kk ≤ gg ∧ xs.length = kk ∧ s6 = .int .i64 kk ∧ Aside (FSt w wr R (N + kk) b0 w.heap.size vc (.slice Ar t.rows.length kr) t xs) ∧ Aside ((∀ x ∈ xs, colBd x) ∧ xs.length = kk))
 case atStart => exact ⟨0, [], _, by omega, by omega, rfl, rfl, (show Aside _ from HT0.out), (show Aside _ from ⟨fun x hx => by simp at hx, rfl⟩)⟩
 case round =>
  obtain ⟨kk, xs, vc, hk8, hg, hxl, rfl, AT, AX⟩ := hrel
  clear HT0 c0 f0 s0
  by_cases hlt : (kk : Int) < gn ∧ kk < 8
  ·
   obtain ⟨hl1, hl2⟩ := hlt
   have hl2z : (kk : Int) < 8 := by omega
   go_wp2_with fail
   have HTD := hide (AT.out.pick (AT.out.rdr.below (bdrew (brefl wr))) (grow_below (bdrew (brefl _))))
   refine wp_region_inv (fun l a W => (∃ vs : Nat → Value, a = ⟨List.toArray (.pointer (some ⟨R, 0, none⟩) :: .agg #[.slice Ac t.cols.length kc, .int .i64 t.head, .int .i64 t.foot, .slice Ar t.rows.length kr, .int .i64 t.gap] :: undef :: .pointer (some ⟨w.heap.size, 0, none⟩) :: .pointer (some ⟨w.heap.size + 1, 0, none⟩) :: .int .i64 gn :: .int .i64 ↑kk :: .agg #[.slice Ac t.cols.length kc, .int .i64 t.head, .int .i64 t.foot, .slice Ar t.rows.length kr, .int .i64 t.gap] :: .agg #[.int .i64 (gridOf 90 t).rows, .int .i64 gn, .slice GA (gridOf 90 t).cells.length gc] :: .int .i64 gn :: .slice (some ⟨W1.heap.size, 0, none⟩) 0 0 :: .pointer (some ⟨w.heap.size, 0, none⟩) :: .int .i64 ↑kk :: .int .i64 gn :: .bool true :: .bool true :: .int .i64 ↑kk :: .bool true :: .bool true :: u19 :: u20 :: vs 0 :: vs 1 :: vs 2 :: vs 3 :: vs 4 :: vs 5 :: vs 6 :: vs 7 :: undef :: []), []⟩ ∧ GMid (kcF R w.heap.size vc) (fun j => if j = 3 then 1 else 0) (fun j => match j with | 1 => [0] | 3 => [2] | 4 => [3] | 5 => [4] | _ => []) 9 6 (wr.drew) (N + kk) l vs W) ∨ (∃ vs : Nat → Value, a = ⟨List.toArray (.pointer (some ⟨R, 0, none⟩) :: .agg #[.slice Ac t.cols.length kc, .int .i64 t.head, .int .i64 t.foot, .slice Ar t.rows.length kr, .int .i64 t.gap] :: undef :: .pointer (some ⟨w.heap.size, 0, none⟩) :: .pointer (some ⟨w.heap.size + 1, 0, none⟩) :: .int .i64 gn :: .int .i64 ↑kk :: .agg #[.slice Ac t.cols.length kc, .int .i64 t.head, .int .i64 t.foot, .slice Ar t.rows.length kr, .int .i64 t.gap] :: .agg #[.int .i64 (gridOf 90 t).rows, .int .i64 gn, .slice GA (gridOf 90 t).cells.length gc] :: .int .i64 gn :: .slice (some ⟨W1.heap.size, 0, none⟩) 0 0 :: .pointer (some ⟨w.heap.size, 0, none⟩) :: .int .i64 ↑kk :: .int .i64 gn :: .bool true :: .bool true :: .int .i64 ↑kk :: .bool true :: .bool true :: u19 :: u20 :: vs 0 :: vs 1 :: vs 2 :: vs 3 :: vs 4 :: vs 5 :: vs 6 :: vs 7 :: undef :: []), []⟩ ∧ ∃ (x : TCol) (v9 : Value), (∀ j, j < 7 → l.getD j false = true) ∧ l.size = 9 ∧ l.getD 8 false = false ∧ (l.getD 7 false = true → vs 7 = .pointer (some ⟨w.heap.size, 0, none⟩)) ∧ colBd x ∧ vs 6 = v9 ∧ FColS1 w R (N + kk + 1) b0 w.heap.size vc (.slice Ar t.rows.length kr) t xs x v9 W) ∨ (∃ vs : Nat → Value, a = ⟨List.toArray (.pointer (some ⟨R, 0, none⟩) :: .agg #[.slice Ac t.cols.length kc, .int .i64 t.head, .int .i64 t.foot, .slice Ar t.rows.length kr, .int .i64 t.gap] :: undef :: .pointer (some ⟨w.heap.size, 0, none⟩) :: .pointer (some ⟨w.heap.size + 1, 0, none⟩) :: .int .i64 gn :: .int .i64 ↑kk :: .agg #[.slice Ac t.cols.length kc, .int .i64 t.head, .int .i64 t.foot, .slice Ar t.rows.length kr, .int .i64 t.gap] :: .agg #[.int .i64 (gridOf 90 t).rows, .int .i64 gn, .slice GA (gridOf 90 t).cells.length gc] :: .int .i64 gn :: .slice (some ⟨W1.heap.size, 0, none⟩) 0 0 :: .pointer (some ⟨w.heap.size, 0, none⟩) :: .int .i64 ↑kk :: .int .i64 gn :: .bool true :: .bool true :: .int .i64 ↑kk :: .bool true :: .bool true :: u19 :: u20 :: vs 0 :: vs 1 :: vs 2 :: vs 3 :: vs 4 :: vs 5 :: vs 6 :: vs 7 :: undef :: []), []⟩ ∧ (∀ j, j < 9 → l.getD j true = true) ∧ ∃ (x : TCol) (v9 : Value), colBd x ∧ FSt w W R (N + kk + 1) b0 w.heap.size v9 (.slice Ar t.rows.length kr) t (xs ++ [x]))) (by kernel_rfl) ?top ?start ?step ?fin
   case top =>
    intro j o ho e he
    have hj : j < 9 := (Array.getElem?_eq_some_iff.1 ho).1
    have hA : (o.after.all fun e => decide (e.on < j)) = true := by
     obtain rfl | rfl | rfl | rfl | rfl | rfl | rfl | rfl | rfl : j = 0 ∨ j = 1 ∨ j = 2 ∨ j = 3 ∨ j = 4 ∨ j = 5 ∨ j = 6 ∨ j = 7 ∨ j = 8 := by omega
     all_goals
      simp only [List.getElem?_toArray, List.getElem?_cons_zero, List.getElem?_cons_succ, Option.some.injEq] at ho
      subst ho
      first | decide | kernel_rfl | simp
    simpa using Array.all_eq_true'.1 hA e he
   case start => exact Or.inl ⟨(fun j => match j with | 0 => u21 | 1 => u22 | 2 => u23 | 3 => u24 | 4 => u25 | 5 => u26 | 6 => u27 | 7 => u28 | _ => undef), rfl, GMid.start HTD.out.rdr⟩
   case step =>
    intro l a W i o ho hl hpre hsz hI K hK
    have hi : i < 9 := (Array.getElem?_eq_some_iff.1 ho).1
    rcases hI with ⟨vs, rfl, hM⟩ | ⟨vs, rfl, hS⟩ | ⟨_, _, hall, _⟩
    ·
     obtain ⟨p, hr, hp⟩ := hM.rdr
     have hpM := hM.le (c := 1) rfl
     have hRW := hr.lt
     have hTW := HTD.out.pick hr hM.grown
     obtain rfl | rfl | rfl | rfl | rfl | rfl | rfl | rfl | rfl : i = 0 ∨ i = 1 ∨ i = 2 ∨ i = 3 ∨ i = 4 ∨ i = 5 ∨ i = 6 ∨ i = 7 ∨ i = 8 := by omega
     ·
      simp only [List.getElem?_toArray, List.getElem?_cons_zero, List.getElem?_cons_succ, Option.some.injEq] at ho
      subst ho
      go_simp
      exact hK.out _ _ (Or.inl ⟨updV vs 0 (.pointer (some ⟨w.heap.size, 0, none⟩)), rfl, hM.still hl (by decide) (by decide) rfl _ rfl⟩)
     ·
      simp only [List.getElem?_toArray, List.getElem?_cons_zero, List.getElem?_cons_succ, Option.some.injEq] at ho
      subst ho
      have hp0 : l.getD 0 false = true := hpre ⟨0, .data⟩ (by simp) rfl
      have v0 : vs 0 = .pointer (some ⟨w.heap.size, 0, none⟩) := hM.held 0 hp0
      have c9 : W.cell? ⟨w.heap.size, 0, none⟩ = some (vc) := hTW.blk.1 0 _ rfl
      rw [v0]
      go_simp
      exact hK.out _ _ (Or.inl ⟨updV vs 1 (vc), by simp [updV, v0], hM.still hl (by decide) (by decide) (by show ((l.getD 0 false && true)) = true; rw [hp0]; rfl) _ rfl⟩)
     ·
      simp only [List.getElem?_toArray, List.getElem?_cons_zero, List.getElem?_cons_succ, Option.some.injEq] at ho
      subst ho
      go_simp
      exact hK.out _ _ (Or.inl ⟨updV vs 2 (.pointer (some ⟨R, 0, none⟩)), rfl, hM.still hl (by decide) (by decide) rfl _ rfl⟩)
     ·
      simp only [List.getElem?_toArray, List.getElem?_cons_zero, List.getElem?_cons_succ, Option.some.injEq] at ho
      subst ho
      have hp2 : l.getD 2 false = true := hpre ⟨2, .data⟩ (by simp) rfl
      have v0 : vs 2 = .pointer (some ⟨R, 0, none⟩) := hM.held 2 hp2
      rw [v0]
      go_simp
      refine (pick R p 20 _ hr (by omega) (by first | decide | omega)).mono ?_
      rintro e W5 ⟨q, rfl, hq0, hq1, hR1, hg1⟩
      have hq2 := hq1 (by first | decide | omega)
      exact hK.out _ _ (Or.inl ⟨updV vs 3 (.int .i64 q), by simp [updV, v0], hM.picked hl (by decide) (by decide) (by show ((l.getD 2 false && true)) = true; rw [hp2]; rfl) _ hp hg1 hR1 ⟨q, rfl, hq0, hq2⟩⟩)
     ·
      simp only [List.getElem?_toArray, List.getElem?_cons_zero, List.getElem?_cons_succ, Option.some.injEq] at ho
      subst ho
      have hp3 : l.getD 3 false = true := hpre ⟨3, .data⟩ (by simp) rfl
      obtain ⟨z3, v3, hz3⟩ : ∃ z : Int, vs 3 = .int .i64 z ∧ (0 ≤ z ∧ z < 20) := hM.held 3 hp3
      rw [v3]
      go_simp
      exact hK.out _ _ (Or.inl ⟨updV vs 4 (.agg #[.int .i64 1, .int .i64 z3]), by simp [updV, v3], hM.still hl (by decide) (by decide) (by show ((l.getD 3 false && true)) = true; rw [hp3]; rfl) _ ⟨⟨1, z3⟩, rfl, by show (0 : Int) ≤ 1; decide, by show (1 : Int) ≤ 3; decide, by show -1 ≤ z3; omega, by show z3 ≤ 101; omega⟩⟩)
     ·
      simp only [List.getElem?_toArray, List.getElem?_cons_zero, List.getElem?_cons_succ, Option.some.injEq] at ho
      subst ho
      have hp4 : l.getD 4 false = true := hpre ⟨4, .data⟩ (by simp) rfl
      obtain ⟨x6, v6, hx6⟩ : ∃ x : TCol, vs 4 = .agg #[.int .i64 x.k, .int .i64 x.n] ∧ colBd x := hM.held 4 hp4
      rw [v6]
      go_simp
      exact hK.out _ _ (Or.inl ⟨updV vs 5 (.slice (some ⟨W.heap.size, 0, none⟩) 1 1), by simp [updV, v6], hM.made hl (by decide) (by decide) (by show ((l.getD 4 false && true)) = true; rw [hp4]; rfl) _ _ (kCols_new1 R W x6 _ hx6 hRW)⟩)
     ·
      simp only [List.getElem?_toArray, List.getElem?_cons_zero, List.getElem?_cons_succ, Option.some.injEq] at ho
      subst ho
      have hp1 : l.getD 1 false = true := hpre ⟨1, .data⟩ (by simp) rfl
      have hp5 : l.getD 5 false = true := hpre ⟨5, .data⟩ (by simp) rfl
      have hp3 : l.getD 3 false = true := hpre ⟨3, .chain⟩ (by simp) rfl
      have v1 : vs 1 = vc := hM.held 1 hp1
      obtain ⟨X, v8, hX1, hX2, hX3⟩ : ∃ X, vs 5 = .slice (some ⟨X, 0, none⟩) 1 1 ∧ (∀ j, j < 1 → ∃ x : TCol, colBd x ∧ W.cell? ⟨X, j * 2, none⟩ = some (.int .i64 x.k) ∧ W.cell? ⟨X, j * 2 + 1, none⟩ = some (.int .i64 x.n)) ∧ X ≠ R ∧ X < W.heap.size := hM.held 5 hp5
      obtain ⟨x, hx0, hx1, hx2⟩ := hX1 0 (by decide)
      rw [Nat.zero_mul] at hx1 hx2
      have hp0 := all_mem (hM.clo 1 hp1) (show 0 ∈ [0] by decide)
      have hp4 := all_mem (hM.clo 5 hp5) (show 4 ∈ [4] by decide)
      have hp2 := all_mem (hM.clo 3 hp3) (show 2 ∈ [2] by decide)
      obtain ⟨i0, hi0, hz0, hz1, hz2⟩ := info_parts info_cloneCols
      have hlen : xs.length ≤ 8 := by have := AX.out.2; omega
      rw [if_pos (by simp [Region.wanted])]
      refine wp_append_own W (.tmp 22) (.tmp 26) 23 rfl (w.heap.size + 1) 43 i0 _ 2 16 und_cloneCols hi0 hz0 hz1 hz2 rfl (by decide) _ _ _ (by simp [Act.eval, v1]) hTW.cols ⟨X, 0, none⟩ 1 1 (colE x) (by simp [Act.eval, v8]) rfl (news2b hx1 hx2) (ints2b _ _) (by unfold maxLen; omega) (by omega) (by have := hTW.pos; omega) ?_
      intro v9 W9 ho9 hg9 _
      have hlt6 : 6 < l.size := by rw [hM.size]; decide
      refine hK.out _ _ (Or.inr (Or.inl ⟨updV vs 6 v9, by simp [updV, Act.put], x, v9, ?_, by simpa using hM.size, by rw [getD_set_ne false (by decide)]; exact hM.last 8 (by decide), fun h => ?_, hx0, rfl, W, hTW.mono (by omega), hg9, ho9⟩))
      ·
       intro j hj
       by_cases e : j = 6
       ·
        subst e; simp [Array.getD, hM.size]
       ·
        rw [getD_set_ne false (Ne.symm e)]
        obtain rfl | rfl | rfl | rfl | rfl | rfl : j = 0 ∨ j = 1 ∨ j = 2 ∨ j = 3 ∨ j = 4 ∨ j = 5 := by omega
        all_goals assumption
      ·
       rw [getD_set_ne false (by decide), hM.last 7 (by decide)] at h; cases h
     ·
      simp only [List.getElem?_toArray, List.getElem?_cons_zero, List.getElem?_cons_succ, Option.some.injEq] at ho
      subst ho
      have hm := hpre ⟨6, .phase⟩ (by simp) rfl
      rw [hM.last 6 (by decide)] at hm
      cases hm
     ·
      simp only [List.getElem?_toArray, List.getElem?_cons_zero, List.getElem?_cons_succ, Option.some.injEq] at ho
      subst ho
      have hm := hpre ⟨6, .data⟩ (by simp) rfl
      rw [hM.last 6 (by decide)] at hm
      cases hm
    ·
     obtain ⟨x, v9, hall, hsz2, hl7, h6, hxb, h5, hS⟩ := hS
     have hno : ¬ i < 7 := fun h => by have h1 := hall i h; rw [getD_any (by omega) false true, hl] at h1; cases h1
     obtain rfl | rfl : i = 7 ∨ i = 8 := by omega
     ·
      simp only [List.getElem?_toArray, List.getElem?_cons_zero, List.getElem?_cons_succ, Option.some.injEq] at ho
      subst ho
      go_simp
      refine hK.out _ _ (Or.inr (Or.inl ⟨updV vs 7 (.pointer (some ⟨w.heap.size, 0, none⟩)), by simp [updV, h5], x, v9, fun j hj => by rw [getD_set_ne false (by omega)]; exact hall j hj, by simpa using hsz2, by rw [getD_set_ne false (by decide)]; exact hl7, fun _ => rfl, hxb, h5, hS⟩))
     ·
      simp only [List.getElem?_toArray, List.getElem?_cons_zero, List.getElem?_cons_succ, Option.some.injEq] at ho
      subst ho
      have v6 := h6 (hpre ⟨7, .data⟩ (by simp) rfl)
      obtain ⟨A9, m9, k9, rfl⟩ := hS.form
      have c9 : W.cell? ⟨w.heap.size, 0, none⟩ = some vc := hS.blk.1 0 _ rfl
      have f9 := hS.blk.2 0
      rw [v6, h5]
      go_simp
      refine hK.out _ _ (Or.inr (Or.inr ⟨vs, by simp [v6, h5], fun j hj => ?_, x, _, hxb, hS.done (Nat.le_refl _)⟩))
      by_cases e : j = 8
      ·
       subst e; simp [Array.getD, hsz2]
      ·
       rw [getD_set_ne true (Ne.symm e), getD_any (by omega) true false]
       by_cases e0 : j = 7
       ·
        subst e0; exact hpre ⟨7, .data⟩ (by simp) rfl
       ·
        exact hall j (by omega)
    ·
     rw [hall i hi] at hl; cases hl
   case fin =>
    rintro l a W hall (⟨vs, rfl, hM⟩ | ⟨vs, rfl, hS⟩ | ⟨vs, rfl, _, hT⟩)
    ·
     have h2 := hall 8 (by decide)
     rw [getD_any (by rw [hM.size]; decide) true false, hM.last 8 (by decide)] at h2
     cases h2
    ·
     obtain ⟨x, v9, _, hsz2, hl7, _⟩ := hS
     have h2 := hall 8 (by decide)
     rw [getD_any (by omega) true false, hl7] at h2
     cases h2
    ·
     obtain ⟨x, v9, hxb, hT⟩ := hT
     have HT5 := hide hT
     clear hT hall
     go_wp2_with fail
     go_roundg (8 - (kk + 1))
     case measure => omega
     case rel =>
      refine ⟨kk + 1, xs ++ [x], v9, by omega, by omega, (by simp; omega), by go_num, (show Aside _ from HT5.out), (show Aside _ from ⟨fun y hy => ?_, by simp; have := AX.out.2; omega⟩)⟩
      rcases List.mem_append.1 hy with hy | hy
      ·
       exact AX.out.1 y hy
      ·
       rw [List.mem_singleton.1 hy]; exact hxb
  ·
   have HX := hide AX.out
   have HT5 := hide (AT.out.mono (N' := N + 8) (by omega))
   clear AT AX
   by_cases hlt2 : (kk : Int) < gn
   ·
    have hl2 : ¬ (kk : Int) < 8 := by omega
    have c0 : wr.cell? ⟨w.heap.size, 0, none⟩ = some (vc) := HT5.out.blk.1 0 _ rfl
    have c1 : wr.cell? ⟨w.heap.size, 1, none⟩ = some (.int .i64 t.head) := HT5.out.blk.1 1 _ rfl
    have c2 : wr.cell? ⟨w.heap.size, 2, none⟩ = some (.int .i64 t.foot) := HT5.out.blk.1 2 _ rfl
    have c3 : wr.cell? ⟨w.heap.size, 3, none⟩ = some (.slice Ar t.rows.length kr) := HT5.out.blk.1 3 _ rfl
    have c4 : wr.cell? ⟨w.heap.size, 4, none⟩ = some (.int .i64 t.gap) := HT5.out.blk.1 4 _ rfl
    have h0 : wr.cell? ⟨w.heap.size + 1, 0, none⟩ = some (.slice none 0 0) := HT5.out.res.1 0 _ rfl
    have h1 : wr.cell? ⟨w.heap.size + 1, 1, none⟩ = some (.int .i64 0) := HT5.out.res.1 1 _ rfl
    have h2 : wr.cell? ⟨w.heap.size + 1, 2, none⟩ = some (.int .i64 0) := HT5.out.res.1 2 _ rfl
    have h3 : wr.cell? ⟨w.heap.size + 1, 3, none⟩ = some (.slice none 0 0) := HT5.out.res.1 3 _ rfl
    have h4 : wr.cell? ⟨w.heap.size + 1, 4, none⟩ = some (.int .i64 0) := HT5.out.res.1 4 _ rfl
    have hf := HT5.out.res.2
    have hv := own_sl HT5.out.cols
    obtain ⟨Az, kz, rfl⟩ := hv
    go_wp2_with fail
    exact bodyPost_ret (v := .agg #[.slice Az xs.length kz, .int .i64 t.head, .int .i64 t.foot, .slice Ar t.rows.length kr, .int .i64 t.gap]) (by simp [results, Tryz.results130, go_sem, *]) rfl (fix_post HT5.out ⟨HX.out.1, by have := HX.out.2; omega⟩ _ _ _ _ _)
   ·
    skip
    have c0 : wr.cell? ⟨w.heap.size, 0, none⟩ = some (vc) := HT5.out.blk.1 0 _ rfl
    have c1 : wr.cell? ⟨w.heap.size, 1, none⟩ = some (.int .i64 t.head) := HT5.out.blk.1 1 _ rfl
    have c2 : wr.cell? ⟨w.heap.size, 2, none⟩ = some (.int .i64 t.foot) := HT5.out.blk.1 2 _ rfl
    have c3 : wr.cell? ⟨w.heap.size, 3, none⟩ = some (.slice Ar t.rows.length kr) := HT5.out.blk.1 3 _ rfl
    have c4 : wr.cell? ⟨w.heap.size, 4, none⟩ = some (.int .i64 t.gap) := HT5.out.blk.1 4 _ rfl
    have h0 : wr.cell? ⟨w.heap.size + 1, 0, none⟩ = some (.slice none 0 0) := HT5.out.res.1 0 _ rfl
    have h1 : wr.cell? ⟨w.heap.size + 1, 1, none⟩ = some (.int .i64 0) := HT5.out.res.1 1 _ rfl
    have h2 : wr.cell? ⟨w.heap.size + 1, 2, none⟩ = some (.int .i64 0) := HT5.out.res.1 2 _ rfl
    have h3 : wr.cell? ⟨w.heap.size + 1, 3, none⟩ = some (.slice none 0 0) := HT5.out.res.1 3 _ rfl
    have h4 : wr.cell? ⟨w.heap.size + 1, 4, none⟩ = some (.int .i64 0) := HT5.out.res.1 4 _ rfl
    have hf := HT5.out.res.2
    have hv := own_sl HT5.out.cols
    obtain ⟨Az, kz, rfl⟩ := hv
    go_wp2_with fail
    exact bodyPost_ret (v := .agg #[.slice Az xs.length kz, .int .i64 t.head, .int .i64 t.foot, .slice Ar t.rows.length kr, .int .i64 t.gap]) (by simp [results, Tryz.results130, go_sem, *]) rfl (fix_post HT5.out ⟨HX.out.1, by have := HX.out.2; omega⟩ _ _ _ _ _)
end Go.Proofs.YtpfagdmmhgcmnaaGreatDoor

namespace Go.Proofs.YtpfagdmmhgcmnaaGreatDoor
open Go.RowKit
theorem below_row {w W W' : World} {R : Nat} (hB : Below w.heap.size w W) (hg : W.grownBy W' (some R)) (hR : w.heap.size ≤ R) : Below w.heap.size w W' :=
 hB.trans ⟨hg.os, hg.tape, hg.output, hg.size, fun k hk => hg.block k (by have := hB.size; omega) (fun e => by injection e with e; omega)⟩
theorem any_cols {t : Tbl} (h : anyBd t) {xs : List TCol} (hx : (∀ x ∈ xs, colBd x) ∧ xs.length ≤ 8) : anyBd { t with cols := xs } := ⟨h.head, h.foot, h.gap, hx, h.rows, h.cells⟩
theorem any_sized {t : Tbl} (h : anyBd t) : ∀ r ∈ t.rows, ∀ c ∈ r.cs, c.t.size ≤ 1048576 := by
 obtain ⟨k, hk⟩ := h.cells
 intro r hr c hc
 obtain ⟨i, hi, rfl⟩ := List.getElem_of_mem hr
 exact Nat.le_trans ((hk i hi).2 c hc).1 (by decide)
def DrawTI (lo hi : Int) (w : World) (e : Ending) (w' : World) : Prop :=
 ∃ (t : Tbl) (vc vr : Value) (k : Int), e = .returned (.tuple #[.agg #[vc, .int .i64 t.head, .int .i64 t.foot, vr, .int .i64 t.gap], .int .i64 k]) ∧ anyBd t ∧ (lo ≤ k ∧ k ≤ hi) ∧ OwnT w' w.heap.size vc vr t ∧ Below w.heap.size w w'
theorem out5 {w W : World} {base : Nat} {vc vr : Value} {t : Tbl} (hB : Below w.heap.size w W) (ho : OwnT W base vc vr t) (hb : w.heap.size < base) (v0 v1 v2 v3 v4 : Value) :
  OwnT (((((W.setCell ⟨w.heap.size, 0, none⟩ v0).setCell ⟨w.heap.size, 1, none⟩ v1).setCell ⟨w.heap.size, 2, none⟩ v2).setCell ⟨w.heap.size, 3, none⟩ v3).setCell ⟨w.heap.size, 4, none⟩ v4) w.heap.size vc vr t ∧ Below w.heap.size w (((((W.setCell ⟨w.heap.size, 0, none⟩ v0).setCell ⟨w.heap.size, 1, none⟩ v1).setCell ⟨w.heap.size, 2, none⟩ v2).setCell ⟨w.heap.size, 3, none⟩ v3).setCell ⟨w.heap.size, 4, none⟩ v4) :=
 ⟨OwnT.base (OwnT.setA (OwnT.setA (OwnT.setA (OwnT.setA (OwnT.setA ho hb _) hb _) hb _) hb _) hb _) (by omega), bset (bset (bset (bset (bset hB (Nat.le_refl _) _) (Nat.le_refl _) _) (Nat.le_refl _) _) (Nat.le_refl _) _) (Nat.le_refl _) _⟩
theorem drawTI {w W : World} {lo hi k : Int} {vc vr : Value} {t : Tbl} (h : OwnT W w.heap.size vc vr t ∧ Below w.heap.size w W) (hb : anyBd t) (hk : lo ≤ k ∧ k ≤ hi) : DrawTI lo hi w (.returned (.tuple #[.agg #[vc, .int .i64 t.head, .int .i64 t.foot, vr, .int .i64 t.gap], .int .i64 k])) W :=
 ⟨t, vc, vr, k, rfl, hb, hk, h.1, h.2⟩
end Go.Proofs.YtpfagdmmhgcmnaaGreatDoor
namespace Go.Proofs.YtpfagdmmhgcmnaaGreatDoor
open Go.RowKit
structure BMid (vals : Nat → Value) (n : Nat) (V : World) (l : Array Bool) (vs : Nat → Value) (W : World) : Prop where
 size : l.size = n
 below : Below V.heap.size V W
 held : ∀ j, l.getD j false = true → vs j = vals j
section
variable {vals : Nat → Value} {n : Nat} {V : World} {l : Array Bool} {vs : Nat → Value} {W W' : World}
theorem BMid.next (h : BMid vals n V l vs W) (i : Nat) (v : Value) (hv : v = vals i) (hb : Below W.heap.size W W') : BMid vals n V (l.setIfInBounds i true) (updV vs i v) W' := by
 refine ⟨by simpa using h.size, step h.below hb, fun j hj => ?_⟩
 unfold updV
 by_cases e : j = i
 ·
  subst e; rw [if_pos rfl]; exact hv
 ·
  rw [if_neg e]
  rw [getD_set_ne false (Ne.symm e)] at hj
  exact h.held j hj
theorem BMid.still (h : BMid vals n V l vs W) (i : Nat) (v : Value) (hv : v = vals i) : BMid vals n V (l.setIfInBounds i true) (updV vs i v) W := h.next i v hv (brefl W)
theorem BMid.start : BMid vals n V (Array.replicate n false) vs V := ⟨by simp, brefl V, fun j hj => by simp [Array.getD] at hj⟩
end
end Go.Proofs.YtpfagdmmhgcmnaaGreatDoor

namespace Go.Proofs.YtpfagdmmhgcmnaaGreatDoor
def stepCol (gap : Int) (need : GCell → Int) (span : Nat) (cols : List Int) (c : GCell) : List Int :=
 if c.cols = (span : Int) then
  if 0 < need c - winS cols c.col.toNat span - gap * ((span : Int) - 1) then
   addAt cols c.col.toNat (share (need c - winS cols c.col.toNat span - gap * ((span : Int) - 1)) ((cols.drop c.col.toNat).take span))
  else cols
 else cols
def madeS (gap : Int) (need : GCell → Int) (span : Nat) (cells : List GCell) (cols : List Int) : List Int := cells.foldl (stepCol gap need span) cols
def made (gap : Int) (need : GCell → Int) (cells : List GCell) (n : Nat) : List Int :=
 madeS gap need 4 cells (madeS gap need 3 cells (madeS gap need 2 cells (madeS gap need 1 cells (List.replicate n 0))))
def ColsIn (n : Nat) (cols : List Int) : Prop := cols.length = n ∧ ∀ x ∈ cols, 0 ≤ x ∧ x ≤ 30
def CellIn (n : Nat) (need : GCell → Int) (c : GCell) : Prop := 0 ≤ c.col ∧ 1 ≤ c.cols ∧ c.cols ≤ 4 ∧ c.col + c.cols ≤ n ∧ need c ≤ 30
theorem getD_in {n : Nat} {cols : List Int} (h : ColsIn n cols) (j : Nat) : 0 ≤ cols.getD j 0 ∧ cols.getD j 0 ≤ 30 := by
 rw [List.getD_eq_getElem?_getD]
 cases e : cols[j]? with
 | none => exact ⟨by simp, by simp⟩
 | some v => exact h.2 v (List.mem_of_getElem? e)
theorem winS_nonneg {n : Nat} {cols : List Int} (h : ColsIn n cols) (a k : Nat) : 0 ≤ winS cols a k :=
 sumI_nonneg fun x hx => (h.2 x (List.mem_of_mem_drop (List.mem_of_mem_take hx))).1
theorem win_length {n : Nat} {cols : List Int} (h : cols.length = n) {a k : Nat} (hk : a + k ≤ n) : ((cols.drop a).take k).length = k := by simp; omega
theorem step_spec {n : Nat} {gap : Int} {need : GCell → Int} {span : Nat} {cols : List Int} {c : GCell} (hg : 0 ≤ gap) (hs : 1 ≤ span) (h : ColsIn n cols) (hc : CellIn n need c) :
  ColsIn n (stepCol gap need span cols c) ∧ (∀ j, cols.getD j 0 ≤ (stepCol gap need span cols c).getD j 0) ∧ (c.cols = (span : Int) → need c ≤ winS (stepCol gap need span cols c) c.col.toNat span + gap * ((span : Int) - 1)) := by
 unfold stepCol
 by_cases e : c.cols = (span : Int)
 ·
  rw [if_pos e]
  obtain ⟨c1, c2, c3, c4, c5⟩ := hc
  have hk : c.col.toNat + span ≤ n := by omega
  by_cases hl : 0 < need c - winS cols c.col.toNat span - gap * ((span : Int) - 1)
  ·
   rw [if_pos hl]
   have hwl := win_length h.1 hk
   have hw0 : ∀ x ∈ (cols.drop c.col.toNat).take span, 0 ≤ x := fun x hx => (h.2 x (List.mem_of_mem_drop (List.mem_of_mem_take hx))).1
   have hne : (cols.drop c.col.toNat).take span ≠ [] := by intro e0; rw [e0] at hwl; simp at hwl; omega
   obtain ⟨s1, s2, s3⟩ := share_spec (total := need c - winS cols c.col.toNat span - gap * ((span : Int) - 1)) (by omega) hw0 hne
   generalize hsh : share (need c - winS cols c.col.toNat span - gap * ((span : Int) - 1)) ((cols.drop c.col.toNat).take span) = sh at s1 s2 s3 ⊢
   rw [hwl] at s1
   have hal : c.col.toNat + sh.length ≤ cols.length := by rw [h.1, s1]; exact hk
   have hwin := winS_add hal
   rw [s1, s2] at hwin
   have hgs : 0 ≤ gap * ((span : Int) - 1) := Int.mul_nonneg hg (by omega)
   have hge := addAt_ge s3 hal
   refine ⟨⟨by rw [addAt_length]; exact h.1, fun x hx => ?_⟩, hge, fun _ => by omega⟩
   obtain ⟨j, hj, rfl⟩ := List.getElem_of_mem hx
   have hjl : j < cols.length := by rw [addAt_length] at hj; exact hj
   have hgj : (addAt cols c.col.toNat sh)[j] = (addAt cols c.col.toNat sh).getD j 0 := by rw [List.getD_eq_getElem?_getD, List.getElem?_eq_getElem hj]; rfl
   rw [hgj]
   refine ⟨Int.le_trans (getD_in h j).1 (hge j), ?_⟩
   by_cases hin : c.col.toNat ≤ j ∧ j < c.col.toNat + sh.length
   ·
    -- one of the cell's own: no more than all of them
    have h1 : ∀ x ∈ ((addAt cols c.col.toNat sh).drop c.col.toNat).take span, 0 ≤ x := by
     intro x hx
     obtain ⟨i, hi, rfl⟩ := List.getElem_of_mem (List.mem_of_mem_drop (List.mem_of_mem_take hx))
     have : (addAt cols c.col.toNat sh)[i] = (addAt cols c.col.toNat sh).getD i 0 := by rw [List.getD_eq_getElem?_getD, List.getElem?_eq_getElem hi]; rfl
     rw [this]
     exact Int.le_trans (getD_in h i).1 (hge i)
    have h2 : (addAt cols c.col.toNat sh).getD j 0 ∈ ((addAt cols c.col.toNat sh).drop c.col.toNat).take span := by
     rw [← hgj]
     have hd : j - c.col.toNat < (((addAt cols c.col.toNat sh).drop c.col.toNat).take span).length := by simp [addAt_length]; omega
     have : (((addAt cols c.col.toNat sh).drop c.col.toNat).take span)[j - c.col.toNat] = (addAt cols c.col.toNat sh)[j] := by
      simp only [List.getElem_take, List.getElem_drop]
      congr 1
      omega
     rw [← this]
     exact List.getElem_mem hd
    have h3 := sumI_ge h1 _ h2
    have h4 : sumI (((addAt cols c.col.toNat sh).drop c.col.toNat).take span) = winS (addAt cols c.col.toNat sh) c.col.toNat span := rfl
    have h5 := winS_nonneg h c.col.toNat span
    omega
   ·
    rw [addAt_get sh cols _ j hal, if_neg hin]
    have := (getD_in h j).2
    omega
  ·
   rw [if_neg hl]
   exact ⟨h, fun _ => Int.le_refl _, fun _ => by omega⟩
 ·
  rw [if_neg e]
  exact ⟨h, fun _ => Int.le_refl _, fun h' => absurd h' e⟩
theorem madeS_spec {n : Nat} {gap : Int} {need : GCell → Int} {span : Nat} (hg : 0 ≤ gap) (hs : 1 ≤ span) : ∀ (cells : List GCell) (cols : List Int), ColsIn n cols → (∀ c ∈ cells, CellIn n need c) →
  ColsIn n (madeS gap need span cells cols) ∧ (∀ j, cols.getD j 0 ≤ (madeS gap need span cells cols).getD j 0) ∧ ∀ c ∈ cells, c.cols = (span : Int) → need c ≤ winS (madeS gap need span cells cols) c.col.toNat span + gap * ((span : Int) - 1)
 | [], cols, h, _ => ⟨h, fun _ => Int.le_refl _, fun c hc => by cases hc⟩
 | c :: cells, cols, h, hc => by
  obtain ⟨a1, a2, a3⟩ := step_spec (span := span) hg hs h (hc c (List.mem_cons_self ..))
  obtain ⟨b1, b2, b3⟩ := madeS_spec hg hs cells (stepCol gap need span cols c) a1 (fun d hd => hc d (List.mem_cons_of_mem _ hd))
  refine ⟨b1, fun j => Int.le_trans (a2 j) (b2 j), fun d hd he => ?_⟩
  rcases List.mem_cons.1 hd with rfl | hd
  ·
   obtain ⟨c1, c2, c3, c4, c5⟩ := hc d (List.mem_cons_self ..)
   have := winS_le (a1.1.trans b1.1.symm) b2 d.col.toNat span (by rw [a1.1]; omega)
   have := a3 he
   show need d ≤ winS (madeS gap need span cells (stepCol gap need span cols d)) d.col.toNat span + _
   omega
  ·
   exact b3 d hd he
theorem made_spec {n : Nat} {gap : Int} {need : GCell → Int} {cells : List GCell} (hg : 0 ≤ gap) (hc : ∀ c ∈ cells, CellIn n need c) :
  ColsIn n (made gap need cells n) ∧ ∀ c ∈ cells, need c ≤ winS (made gap need cells n) c.col.toNat c.cols.toNat + gap * (c.cols - 1) := by
 unfold made
 have h0 : ColsIn n (List.replicate n 0) := ⟨by simp, fun x hx => by rw [(List.mem_replicate.1 hx).2]; decide⟩
 obtain ⟨a1, a2, a3⟩ := madeS_spec (span := 1) hg (by decide) cells _ h0 hc
 obtain ⟨b1, b2, b3⟩ := madeS_spec (span := 2) hg (by decide) cells _ a1 hc
 obtain ⟨c1, c2, c3⟩ := madeS_spec (span := 3) hg (by decide) cells _ b1 hc
 obtain ⟨d1, d2, d3⟩ := madeS_spec (span := 4) hg (by decide) cells _ c1 hc
 refine ⟨d1, fun c hcm => ?_⟩
 obtain ⟨e1, e2, e3, e4, e5⟩ := hc c hcm
 have hk : ∀ k : Nat, c.cols = (k : Int) → c.col.toNat + k ≤ n := fun k hk => by omega
 obtain h | h | h | h : c.cols = 1 ∨ c.cols = 2 ∨ c.cols = 3 ∨ c.cols = 4 := by omega
 ·
  have := a3 c hcm h
  have w := winS_le (a1.1.trans d1.1.symm) (fun j => Int.le_trans (b2 j) (Int.le_trans (c2 j) (d2 j))) c.col.toNat 1 (by rw [a1.1]; exact hk 1 h)
  rw [h]; simp only [Int.toNat_one] at *; omega
 ·
  have := b3 c hcm h
  have w := winS_le (b1.1.trans d1.1.symm) (fun j => Int.le_trans (c2 j) (d2 j)) c.col.toNat 2 (by rw [b1.1]; exact hk 2 h)
  rw [h]; show _ ≤ winS _ _ 2 + _; omega
 ·
  have := c3 c hcm h
  have w := winS_le (c1.1.trans d1.1.symm) (fun j => d2 j) c.col.toNat 3 (by rw [c1.1]; exact hk 3 h)
  rw [h]; show _ ≤ winS _ _ 3 + _; omega
 ·
  have := d3 c hcm h
  rw [h]; show _ ≤ winS _ _ 4 + _; omega
end Go.Proofs.YtpfagdmmhgcmnaaGreatDoor
