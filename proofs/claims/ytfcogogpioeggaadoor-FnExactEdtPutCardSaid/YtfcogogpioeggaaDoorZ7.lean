import Derived.Test.YtfcogogpioeggaaDoorKp
import Derived.Test.YtfcogogpioeggaaDoorPx
import Derived.Test.YtfcogogpioeggaaDoorZ1
import Derived.Deep.RegionWith
import Derived.Deep.RegionHeld3
import Derived.Deep.DeepCutAuto
import Derived.Outline
namespace Go.Proofs.YtfcogogpioeggaaDoor
open Go.RowKit
/- EdtPut answers as the reference, and its answer is its own: the statement's own walk. -/
theorem W5.keep {w w' : World} {b : Nat} {u0 u1 u2 u3 u4 : Value} (h : W5 w b u0 u1 u2 u3 u4) (hb : Below w.heap.size w w') : W5 w' b u0 u1 u2 u3 u4 := ⟨keepW hb h.1, keepW hb h.2.1, keepW hb h.2.2.1, keepW hb h.2.2.2.1, keepW hb h.2.2.2.2⟩
theorem W5.within {w w' : World} {lo hi b : Nat} {u0 u1 u2 u3 u4 : Value} (h : W5 w b u0 u1 u2 u3 u4) (hw : Within lo hi w w') (hd : b < lo ∨ hi ≤ b) : W5 w' b u0 u1 u2 u3 u4 :=
  h.block (hw.block b (World.block_lt_of_cell? w _ h.1) hd)
theorem ss_keep {w W U : World} {t : Tbl} {x : TCell} {A A' : Option Addr} {c c' : Nat} (h : (fun U : World => (U.cell? ⟨w.heap.size, 0, none⟩ = some (.slice A t.cols.length c) ∧ U.cell? ⟨w.heap.size, 1, none⟩ = some (.int .i64 t.head) ∧ U.cell? ⟨w.heap.size, 2, none⟩ = some (.int .i64 t.foot) ∧ U.cell? ⟨w.heap.size, 3, none⟩ = some (.slice A' t.rows.length c') ∧ U.cell? ⟨w.heap.size, 4, none⟩ = some (.int .i64 t.gap)) ∧ (U.cell? ⟨w.heap.size + 1, 0, none⟩ = some (.string x.t) ∧ U.cell? ⟨w.heap.size + 1, 1, none⟩ = some (.int .i64 x.c) ∧ U.cell? ⟨w.heap.size + 1, 2, none⟩ = some (.int .i64 x.r) ∧ U.cell? ⟨w.heap.size + 1, 3, none⟩ = some (.int .i64 x.top.s) ∧ U.cell? ⟨w.heap.size + 1, 4, none⟩ = some (.int .i64 x.top.w) ∧ U.cell? ⟨w.heap.size + 1, 5, none⟩ = some (.int .i64 x.right.s) ∧ U.cell? ⟨w.heap.size + 1, 6, none⟩ = some (.int .i64 x.right.w) ∧ U.cell? ⟨w.heap.size + 1, 7, none⟩ = some (.int .i64 x.bot.s) ∧ U.cell? ⟨w.heap.size + 1, 8, none⟩ = some (.int .i64 x.bot.w) ∧ U.cell? ⟨w.heap.size + 1, 9, none⟩ = some (.int .i64 x.left.s) ∧ U.cell? ⟨w.heap.size + 1, 10, none⟩ = some (.int .i64 x.left.w))) W) (hb : Below W.heap.size W U) : (fun U : World => (U.cell? ⟨w.heap.size, 0, none⟩ = some (.slice A t.cols.length c) ∧ U.cell? ⟨w.heap.size, 1, none⟩ = some (.int .i64 t.head) ∧ U.cell? ⟨w.heap.size, 2, none⟩ = some (.int .i64 t.foot) ∧ U.cell? ⟨w.heap.size, 3, none⟩ = some (.slice A' t.rows.length c') ∧ U.cell? ⟨w.heap.size, 4, none⟩ = some (.int .i64 t.gap)) ∧ (U.cell? ⟨w.heap.size + 1, 0, none⟩ = some (.string x.t) ∧ U.cell? ⟨w.heap.size + 1, 1, none⟩ = some (.int .i64 x.c) ∧ U.cell? ⟨w.heap.size + 1, 2, none⟩ = some (.int .i64 x.r) ∧ U.cell? ⟨w.heap.size + 1, 3, none⟩ = some (.int .i64 x.top.s) ∧ U.cell? ⟨w.heap.size + 1, 4, none⟩ = some (.int .i64 x.top.w) ∧ U.cell? ⟨w.heap.size + 1, 5, none⟩ = some (.int .i64 x.right.s) ∧ U.cell? ⟨w.heap.size + 1, 6, none⟩ = some (.int .i64 x.right.w) ∧ U.cell? ⟨w.heap.size + 1, 7, none⟩ = some (.int .i64 x.bot.s) ∧ U.cell? ⟨w.heap.size + 1, 8, none⟩ = some (.int .i64 x.bot.w) ∧ U.cell? ⟨w.heap.size + 1, 9, none⟩ = some (.int .i64 x.left.s) ∧ U.cell? ⟨w.heap.size + 1, 10, none⟩ = some (.int .i64 x.left.w))) U := by
  obtain ⟨⟨a0, a1, a2, a3, a4⟩, b⟩ := h
  exact ⟨⟨keepW hb a0, keepW hb a1, keepW hb a2, keepW hb a3, keepW hb a4⟩, cc_keep b hb⟩
theorem withSeen {W w1 : World} {G : Prop} (B : Nat) (hb : Below W.heap.size W w1) (hB : B < W.heap.size) (k : (∀ o, w1.cell? ⟨B, o, none⟩ = W.cell? ⟨B, o, none⟩) → (∀ o, w1.frozen? ⟨B, o, none⟩ = W.frozen? ⟨B, o, none⟩) → B < w1.heap.size → G) : G :=
  k (seenBk B hB hb).1 (seenBk B hB hb).2.1 (seenBk B hB hb).2.2
theorem ss_block {w W U : World} {t : Tbl} {x : TCell} {A A' : Option Addr} {c c' : Nat} (h : (fun U : World => (U.cell? ⟨w.heap.size, 0, none⟩ = some (.slice A t.cols.length c) ∧ U.cell? ⟨w.heap.size, 1, none⟩ = some (.int .i64 t.head) ∧ U.cell? ⟨w.heap.size, 2, none⟩ = some (.int .i64 t.foot) ∧ U.cell? ⟨w.heap.size, 3, none⟩ = some (.slice A' t.rows.length c') ∧ U.cell? ⟨w.heap.size, 4, none⟩ = some (.int .i64 t.gap)) ∧ (U.cell? ⟨w.heap.size + 1, 0, none⟩ = some (.string x.t) ∧ U.cell? ⟨w.heap.size + 1, 1, none⟩ = some (.int .i64 x.c) ∧ U.cell? ⟨w.heap.size + 1, 2, none⟩ = some (.int .i64 x.r) ∧ U.cell? ⟨w.heap.size + 1, 3, none⟩ = some (.int .i64 x.top.s) ∧ U.cell? ⟨w.heap.size + 1, 4, none⟩ = some (.int .i64 x.top.w) ∧ U.cell? ⟨w.heap.size + 1, 5, none⟩ = some (.int .i64 x.right.s) ∧ U.cell? ⟨w.heap.size + 1, 6, none⟩ = some (.int .i64 x.right.w) ∧ U.cell? ⟨w.heap.size + 1, 7, none⟩ = some (.int .i64 x.bot.s) ∧ U.cell? ⟨w.heap.size + 1, 8, none⟩ = some (.int .i64 x.bot.w) ∧ U.cell? ⟨w.heap.size + 1, 9, none⟩ = some (.int .i64 x.left.s) ∧ U.cell? ⟨w.heap.size + 1, 10, none⟩ = some (.int .i64 x.left.w))) W) (e1 : U.heap[w.heap.size]? = W.heap[w.heap.size]?) (e2 : U.heap[w.heap.size + 1]? = W.heap[w.heap.size + 1]?) : (fun U : World => (U.cell? ⟨w.heap.size, 0, none⟩ = some (.slice A t.cols.length c) ∧ U.cell? ⟨w.heap.size, 1, none⟩ = some (.int .i64 t.head) ∧ U.cell? ⟨w.heap.size, 2, none⟩ = some (.int .i64 t.foot) ∧ U.cell? ⟨w.heap.size, 3, none⟩ = some (.slice A' t.rows.length c') ∧ U.cell? ⟨w.heap.size, 4, none⟩ = some (.int .i64 t.gap)) ∧ (U.cell? ⟨w.heap.size + 1, 0, none⟩ = some (.string x.t) ∧ U.cell? ⟨w.heap.size + 1, 1, none⟩ = some (.int .i64 x.c) ∧ U.cell? ⟨w.heap.size + 1, 2, none⟩ = some (.int .i64 x.r) ∧ U.cell? ⟨w.heap.size + 1, 3, none⟩ = some (.int .i64 x.top.s) ∧ U.cell? ⟨w.heap.size + 1, 4, none⟩ = some (.int .i64 x.top.w) ∧ U.cell? ⟨w.heap.size + 1, 5, none⟩ = some (.int .i64 x.right.s) ∧ U.cell? ⟨w.heap.size + 1, 6, none⟩ = some (.int .i64 x.right.w) ∧ U.cell? ⟨w.heap.size + 1, 7, none⟩ = some (.int .i64 x.bot.s) ∧ U.cell? ⟨w.heap.size + 1, 8, none⟩ = some (.int .i64 x.bot.w) ∧ U.cell? ⟨w.heap.size + 1, 9, none⟩ = some (.int .i64 x.left.s) ∧ U.cell? ⟨w.heap.size + 1, 10, none⟩ = some (.int .i64 x.left.w))) U := by
  obtain ⟨⟨a0, a1, a2, a3, a4⟩, b0, b1, b2, b3, b4, b5, b6, b7, b8, b9, b10⟩ := h
  have k1 : ∀ i, U.cell? ⟨w.heap.size, i, none⟩ = W.cell? ⟨w.heap.size, i, none⟩ := fun i => World.cell?_of_block e1
  have k2 : ∀ i, U.cell? ⟨w.heap.size + 1, i, none⟩ = W.cell? ⟨w.heap.size + 1, i, none⟩ := fun i => World.cell?_of_block e2
  exact ⟨⟨(k1 _).trans a0, (k1 _).trans a1, (k1 _).trans a2, (k1 _).trans a3, (k1 _).trans a4⟩, (k2 _).trans b0, (k2 _).trans b1, (k2 _).trans b2, (k2 _).trans b3, (k2 _).trans b4, (k2 _).trans b5, (k2 _).trans b6, (k2 _).trans b7, (k2 _).trans b8, (k2 _).trans b9, (k2 _).trans b10⟩
/-- A table that toTable has handed out. -/
def IsTbl (W : World) (gc gr : Nat) (t : Tbl) : Prop :=
  Rd colR W (some ⟨gc, 0, none⟩) t.cols ∧ Rd rowR W (some ⟨gr, 0, none⟩) t.rows ∧ Lies colE W (.slice (some ⟨gc, 0, none⟩) t.cols.length t.cols.length) t.cols ∧ Rd rowO W (some ⟨gr, 0, none⟩) t.rows
theorem IsTbl.below {W U : World} {gc gr : Nat} {t : Tbl} (h : IsTbl W gc gr t) (hb : Below W.heap.size W U) : IsTbl U gc gr t := ⟨h.1.below hb, h.2.1.below hb, h.2.2.1.below hb, h.2.2.2.below hb⟩
/-- A variable that holds a table of one's own; it lies beside the table's own blocks. -/
def Var (g : Tbl × Bool) (base : Nat) (s s' : Value) (w : World) : Prop :=
  ∃ (lo hi B : Nat) (Ac : Option Addr) (cc : Nat) (Ar : Option Addr) (cr : Nat), s = .pointer (some ⟨B, 0, none⟩) ∧ s' = .bool g.2 ∧ base ≤ lo ∧ lo ≤ hi ∧ hi ≤ w.heap.size ∧ base ≤ B ∧ (B < lo ∨ hi ≤ B) ∧
    W5 w B (.slice Ac g.1.cols.length cc) (.int .i64 g.1.head) (.int .i64 g.1.foot) (.slice Ar g.1.rows.length cr) (.int .i64 g.1.gap) ∧ OwnTbl w lo hi (.slice Ac g.1.cols.length cc) (.slice Ar g.1.rows.length cr) g.1
theorem five_new (w : World) (H : Nat) (a b c d e : Value) (T : TypeId) (hH : w.heap.size = H) : ∀ i, i < 5 → ∃ u, (w.alloc (.cells #[a, b, c, d, e] T)).cell? ⟨H, i, none⟩ = some u := fun i hi => by
  match i, hi with
  | 0, _ => exact ⟨a, cell_new2 _ _ _ _ 0 _ hH rfl⟩
  | 1, _ => exact ⟨b, cell_new2 _ _ _ _ 1 _ hH rfl⟩
  | 2, _ => exact ⟨c, cell_new2 _ _ _ _ 2 _ hH rfl⟩
  | 3, _ => exact ⟨d, cell_new2 _ _ _ _ 3 _ hH rfl⟩
  | 4, _ => exact ⟨e, cell_new2 _ _ _ _ 4 _ hH rfl⟩
theorem var_old (g : Tbl × Bool) (base lo B : Nat) (w : World) (Ac : Option Addr) (cc : Nat) (Ar : Option Addr) (cr : Nat) (hB : B < lo) (hbase : base ≤ B) (hlo : lo ≤ w.heap.size) (hc : ∀ i, i < 5 → ∃ u, w.cell? ⟨B, i, none⟩ = some u) (ho : OwnTbl w lo w.heap.size (.slice Ac g.1.cols.length cc) (.slice Ar g.1.rows.length cr) g.1) :
    Var g base (.pointer (some ⟨B, 0, none⟩)) (.bool g.2) (((((w.setCell ⟨B, 0, none⟩ (.slice Ac g.1.cols.length cc)).setCell ⟨B, 1, none⟩ (.int .i64 g.1.head)).setCell ⟨B, 2, none⟩ (.int .i64 g.1.foot)).setCell ⟨B, 3, none⟩ (.slice Ar g.1.rows.length cr)).setCell ⟨B, 4, none⟩ (.int .i64 g.1.gap)) := by
  obtain ⟨u0, h0⟩ := hc 0 (by omega)
  obtain ⟨u1, h1⟩ := hc 1 (by omega)
  obtain ⟨u2, h2⟩ := hc 2 (by omega)
  obtain ⟨u3, h3⟩ := hc 3 (by omega)
  obtain ⟨u4, h4⟩ := hc 4 (by omega)
  refine ⟨lo, w.heap.size, B, Ac, cc, Ar, cr, rfl, rfl, by omega, hlo, by simp, hbase, .inl hB, ⟨?_, ?_, ?_, ?_, ?_⟩, ho.keep (fun b h1 h2 => ?_)⟩
  · exact setB0 (setB0 (setB0 (setB0 (setS4 h0) (by decide)) (by decide)) (by decide)) (by decide)
  · exact setB0 (setB0 (setB0 (setS4 (setB0 h1 (by decide))) (by decide)) (by decide)) (by decide)
  · exact setB0 (setB0 (setS4 (setB0 (setB0 h2 (by decide)) (by decide))) (by decide)) (by decide)
  · exact setB0 (setS4 (setB0 (setB0 (setB0 h3 (by decide)) (by decide)) (by decide))) (by decide)
  · exact setS4 (setB0 (setB0 (setB0 (setB0 h4 (by decide)) (by decide)) (by decide)) (by decide))
  · exact (heap_set _ _ _ _ (show b ≠ B by omega)).trans ((heap_set _ _ _ _ (show b ≠ B by omega)).trans ((heap_set _ _ _ _ (show b ≠ B by omega)).trans ((heap_set _ _ _ _ (show b ≠ B by omega)).trans (heap_set _ _ _ _ (show b ≠ B by omega)))))
theorem var_new (g : Tbl × Bool) (base lo : Nat) (w : World) (Ac : Option Addr) (cc : Nat) (Ar : Option Addr) (cr : Nat) (hbase : base ≤ lo) (hlo : lo ≤ w.heap.size) (T : TypeId) (ho : OwnTbl w lo w.heap.size (.slice Ac g.1.cols.length cc) (.slice Ar g.1.rows.length cr) g.1) :
    Var g base (.pointer (some ⟨w.heap.size, 0, none⟩)) (.bool g.2) (w.alloc (.cells #[.slice Ac g.1.cols.length cc, .int .i64 g.1.head, .int .i64 g.1.foot, .slice Ar g.1.rows.length cr, .int .i64 g.1.gap] T)) :=
  ⟨lo, w.heap.size, w.heap.size, Ac, cc, Ar, cr, rfl, rfl, hbase, hlo, by simp, by omega, .inr (Nat.le_refl _), W5.new _ _ _ _ _ _ _, ho.keep (fun b _ h => heap_alloc_old _ _ h)⟩
set_option maxRecDepth 100000 in
set_option maxHeartbeats 16000000 in
theorem law_EdtPut (t : Tbl) (A : Option Addr) (c : Nat) (A' : Option Addr) (c' : Nat) (row at' : Int) (x : TCell) (w : World) (hw : Base w) (hc : Rd colR w A t.cols) (hr : Rd rowA w A' t.rows)
    (hs : ∀ r ∈ t.rows, ∀ x ∈ r.cs, x.t.size ≤ 9223372036854775807) (hx : x.t.size ≤ 9223372036854775807) :
    Calls Tryd.prog 9 #[.agg #[.slice A t.cols.length c, .int .i64 t.head, .int .i64 t.foot, .slice A' t.rows.length c', .int .i64 t.gap], .int .i64 row, .int .i64 at', .agg #[.string x.t, .int .i64 x.c, .int .i64 x.r, .int .i64 x.top.s, .int .i64 x.top.w, .int .i64 x.right.s, .int .i64 x.right.w, .int .i64 x.bot.s, .int .i64 x.bot.w, .int .i64 x.left.s, .int .i64 x.left.w]] w fun e w' => e = .returned (.bool true) ∧ Below w.heap.size w w' := by
  have hZ := fun (W : World) (h : Below w.heap.size w W) => szTable t A c A' c' 1048576 W (by omega) (by omega) hc.1 (hr.below h) hs
  have HZ2 : Hid (∀ (n : Int) (W : World), 0 ≤ n → n ≤ 1048576 → Calls Tryd.prog 31 #[.agg #[.string x.t, .int .i64 x.c, .int .i64 x.r, .int .i64 x.top.s, .int .i64 x.top.w, .int .i64 x.right.s, .int .i64 x.right.w, .int .i64 x.bot.s, .int .i64 x.bot.w, .int .i64 x.left.s, .int .i64 x.left.w], .int .i64 n] W (SzPost n (Sized x) W)) := fun n W h0 h1 => szCell x n W h0 h1 hx
  go_enter Tryd.func9, Tryd.ntmps9
  go_wp2_with fail
  refine (hZ _ (balloc (balloc (brefl _) _) _)).mono ?_
  rintro e w1 ⟨n, rfl, hn, hb1⟩
  have HS : Hid ((fun U : World => (U.cell? ⟨w.heap.size, 0, none⟩ = some (.slice A t.cols.length c) ∧ U.cell? ⟨w.heap.size, 1, none⟩ = some (.int .i64 t.head) ∧ U.cell? ⟨w.heap.size, 2, none⟩ = some (.int .i64 t.foot) ∧ U.cell? ⟨w.heap.size, 3, none⟩ = some (.slice A' t.rows.length c') ∧ U.cell? ⟨w.heap.size, 4, none⟩ = some (.int .i64 t.gap)) ∧ (U.cell? ⟨w.heap.size + 1, 0, none⟩ = some (.string x.t) ∧ U.cell? ⟨w.heap.size + 1, 1, none⟩ = some (.int .i64 x.c) ∧ U.cell? ⟨w.heap.size + 1, 2, none⟩ = some (.int .i64 x.r) ∧ U.cell? ⟨w.heap.size + 1, 3, none⟩ = some (.int .i64 x.top.s) ∧ U.cell? ⟨w.heap.size + 1, 4, none⟩ = some (.int .i64 x.top.w) ∧ U.cell? ⟨w.heap.size + 1, 5, none⟩ = some (.int .i64 x.right.s) ∧ U.cell? ⟨w.heap.size + 1, 6, none⟩ = some (.int .i64 x.right.w) ∧ U.cell? ⟨w.heap.size + 1, 7, none⟩ = some (.int .i64 x.bot.s) ∧ U.cell? ⟨w.heap.size + 1, 8, none⟩ = some (.int .i64 x.bot.w) ∧ U.cell? ⟨w.heap.size + 1, 9, none⟩ = some (.int .i64 x.left.s) ∧ U.cell? ⟨w.heap.size + 1, 10, none⟩ = some (.int .i64 x.left.w))) w1) := ss_keep (W := (w.alloc (.cells #[.slice A t.cols.length c, .int .i64 t.head, .int .i64 t.foot, .slice A' t.rows.length c', .int .i64 t.gap] 25)).alloc (.cells #[.string x.t, .int .i64 x.c, .int .i64 x.r, .int .i64 x.top.s, .int .i64 x.top.w, .int .i64 x.right.s, .int .i64 x.right.w, .int .i64 x.bot.s, .int .i64 x.bot.w, .int .i64 x.left.s, .int .i64 x.left.w] 60)) ⟨⟨keepW (balloc (brefl _) _) (cell_new w _ _ _ 0 _ rfl), keepW (balloc (brefl _) _) (cell_new w _ _ _ 1 _ rfl), keepW (balloc (brefl _) _) (cell_new w _ _ _ 2 _ rfl), keepW (balloc (brefl _) _) (cell_new w _ _ _ 3 _ rfl), keepW (balloc (brefl _) _) (cell_new w _ _ _ 4 _ rfl)⟩,
    cell_new2 _ _ _ _ 0 _ (by simp) rfl, cell_new2 _ _ _ _ 1 _ (by simp) rfl, cell_new2 _ _ _ _ 2 _ (by simp) rfl, cell_new2 _ _ _ _ 3 _ (by simp) rfl, cell_new2 _ _ _ _ 4 _ (by simp) rfl, cell_new2 _ _ _ _ 5 _ (by simp) rfl, cell_new2 _ _ _ _ 6 _ (by simp) rfl, cell_new2 _ _ _ _ 7 _ (by simp) rfl, cell_new2 _ _ _ _ 8 _ (by simp) rfl, cell_new2 _ _ _ _ 9 _ (by simp) rfl, cell_new2 _ _ _ _ 10 _ (by simp) rfl⟩ hb1
  have HB1 := step (balloc (balloc (brefl w) _) _) hb1
  have hsz1 : w.heap.size + 2 ≤ w1.heap.size := by have := hb1.size; simpa using this
  clear hb1
  rcases hn with rfl | ⟨n0, n1, hP⟩
  · go_wp2_with fail
    go_ret
    exact ⟨rfl, HB1⟩
  · have n2 : ¬ n < 0 := by omega
    obtain ⟨d0, d1, d2, d3, d4, d5, d6, d7, d8, d9, d10⟩ := HS.out.2
    go_wp2_with fail
    refine (HZ2.out n _ n0 n1).mono ?_
    rintro e w1' ⟨m, rfl, hm, hb1⟩
    have HS := hide (ss_keep HS.out hb1)
    have HB1 := step HB1 hb1
    have hsz1 : w.heap.size + 2 ≤ w1'.heap.size := by have := hb1.size; omega
    clear hb1 d0 d1 d2 d3 d4 d5 d6 d7 d8 d9 d10
    rcases hm with rfl | ⟨m0, m1, hPx⟩
    · go_wp2_with fail
      go_ret
      exact ⟨rfl, HB1⟩
    have m2 : ¬ m < 0 := by omega
    obtain ⟨hP1, hP2⟩ := hP
    have hT := fun (W : World) (h : Below w.heap.size w W) => toTable t A c A' c' W (hc.below h) (hr.below h) hP1 hP2
    have hTC := fun (W : World) => toCell x W
    have HP2 := hide hP2
    have HSM : Hid (SmallT t) := ⟨hP1, hP2.1, fun r hr => (hP2.2 r hr).1⟩
    have HSZ : Hid (SizedC t.rows) := fun r hr x hx => (hP2.2 r hr).2 x hx
    have hXS : x.t.size ≤ 1048576 := hPx
    have HG1 := hide (put_sized HSZ.out row at' x hXS)
    have HG2 := hide (put_small HSM.out row at' x)
    have hSp := fun (W : World) (gc gr : Nat) (h1 : IsTbl W gc gr t) => spec_EdtPut t (some ⟨gc, 0, none⟩) t.cols.length (some ⟨gr, 0, none⟩) t.rows.length row at' x W hXS h1.1 h1.2.1 h1.2.2.1 h1.2.2.2
    have hIm := fun (W : World) (gc gr : Nat) (hW : Below w.heap.size w W) (h1 : IsTbl W gc gr t) => impl_EdtPut t (some ⟨gc, 0, none⟩) t.cols.length (some ⟨gr, 0, none⟩) t.rows.length row at' x W (hw.below hW) hXS h1.1 h1.2.1 h1.2.2.1 h1.2.2.2
    generalize hGG : edtPut t row at' x = G at hSp hIm HG1 HG2
    clear hGG hZ HZ2 hP2 hP1 hPx
    have HK : Hid (∀ U : World, Below w1'.heap.size w1' U → (fun U : World => (U.cell? ⟨w.heap.size, 0, none⟩ = some (.slice A t.cols.length c) ∧ U.cell? ⟨w.heap.size, 1, none⟩ = some (.int .i64 t.head) ∧ U.cell? ⟨w.heap.size, 2, none⟩ = some (.int .i64 t.foot) ∧ U.cell? ⟨w.heap.size, 3, none⟩ = some (.slice A' t.rows.length c') ∧ U.cell? ⟨w.heap.size, 4, none⟩ = some (.int .i64 t.gap)) ∧ (U.cell? ⟨w.heap.size + 1, 0, none⟩ = some (.string x.t) ∧ U.cell? ⟨w.heap.size + 1, 1, none⟩ = some (.int .i64 x.c) ∧ U.cell? ⟨w.heap.size + 1, 2, none⟩ = some (.int .i64 x.r) ∧ U.cell? ⟨w.heap.size + 1, 3, none⟩ = some (.int .i64 x.top.s) ∧ U.cell? ⟨w.heap.size + 1, 4, none⟩ = some (.int .i64 x.top.w) ∧ U.cell? ⟨w.heap.size + 1, 5, none⟩ = some (.int .i64 x.right.s) ∧ U.cell? ⟨w.heap.size + 1, 6, none⟩ = some (.int .i64 x.right.w) ∧ U.cell? ⟨w.heap.size + 1, 7, none⟩ = some (.int .i64 x.bot.s) ∧ U.cell? ⟨w.heap.size + 1, 8, none⟩ = some (.int .i64 x.bot.w) ∧ U.cell? ⟨w.heap.size + 1, 9, none⟩ = some (.int .i64 x.left.s) ∧ U.cell? ⟨w.heap.size + 1, 10, none⟩ = some (.int .i64 x.left.w))) U) := fun U h => ss_keep HS.out h
    have HT := hide hT
    have HTC := hide hTC
    have HSP := hide hSp
    have HIM := hide hIm
    clear hT hTC hSp hIm
    go_upto_region 8 with fail
    go_cut [10, 11] (fun s10 s11 wx => Var G w1'.heap.size s10 s11 wx ∧ Below w1'.heap.size w1' wx)
    case first =>
      have hq : (fun U : World => (U.cell? ⟨w.heap.size, 0, none⟩ = some (.slice A t.cols.length c) ∧ U.cell? ⟨w.heap.size, 1, none⟩ = some (.int .i64 t.head) ∧ U.cell? ⟨w.heap.size, 2, none⟩ = some (.int .i64 t.foot) ∧ U.cell? ⟨w.heap.size, 3, none⟩ = some (.slice A' t.rows.length c') ∧ U.cell? ⟨w.heap.size, 4, none⟩ = some (.int .i64 t.gap)) ∧ (U.cell? ⟨w.heap.size + 1, 0, none⟩ = some (.string x.t) ∧ U.cell? ⟨w.heap.size + 1, 1, none⟩ = some (.int .i64 x.c) ∧ U.cell? ⟨w.heap.size + 1, 2, none⟩ = some (.int .i64 x.r) ∧ U.cell? ⟨w.heap.size + 1, 3, none⟩ = some (.int .i64 x.top.s) ∧ U.cell? ⟨w.heap.size + 1, 4, none⟩ = some (.int .i64 x.top.w) ∧ U.cell? ⟨w.heap.size + 1, 5, none⟩ = some (.int .i64 x.right.s) ∧ U.cell? ⟨w.heap.size + 1, 6, none⟩ = some (.int .i64 x.right.w) ∧ U.cell? ⟨w.heap.size + 1, 7, none⟩ = some (.int .i64 x.bot.s) ∧ U.cell? ⟨w.heap.size + 1, 8, none⟩ = some (.int .i64 x.bot.w) ∧ U.cell? ⟨w.heap.size + 1, 9, none⟩ = some (.int .i64 x.left.s) ∧ U.cell? ⟨w.heap.size + 1, 10, none⟩ = some (.int .i64 x.left.w))) w1' := HS.out
      go_region_held3 (fun U : World => (U.cell? ⟨w.heap.size, 0, none⟩ = some (.slice A t.cols.length c) ∧ U.cell? ⟨w.heap.size, 1, none⟩ = some (.int .i64 t.head) ∧ U.cell? ⟨w.heap.size, 2, none⟩ = some (.int .i64 t.foot) ∧ U.cell? ⟨w.heap.size, 3, none⟩ = some (.slice A' t.rows.length c') ∧ U.cell? ⟨w.heap.size, 4, none⟩ = some (.int .i64 t.gap)) ∧ (U.cell? ⟨w.heap.size + 1, 0, none⟩ = some (.string x.t) ∧ U.cell? ⟨w.heap.size + 1, 1, none⟩ = some (.int .i64 x.c) ∧ U.cell? ⟨w.heap.size + 1, 2, none⟩ = some (.int .i64 x.r) ∧ U.cell? ⟨w.heap.size + 1, 3, none⟩ = some (.int .i64 x.top.s) ∧ U.cell? ⟨w.heap.size + 1, 4, none⟩ = some (.int .i64 x.top.w) ∧ U.cell? ⟨w.heap.size + 1, 5, none⟩ = some (.int .i64 x.right.s) ∧ U.cell? ⟨w.heap.size + 1, 6, none⟩ = some (.int .i64 x.right.w) ∧ U.cell? ⟨w.heap.size + 1, 7, none⟩ = some (.int .i64 x.bot.s) ∧ U.cell? ⟨w.heap.size + 1, 8, none⟩ = some (.int .i64 x.bot.w) ∧ U.cell? ⟨w.heap.size + 1, 9, none⟩ = some (.int .i64 x.left.s) ∧ U.cell? ⟨w.heap.size + 1, 10, none⟩ = some (.int .i64 x.left.w))) (first | with_reducible assumption | (refine HK.out _ ?_; ((repeat' (with_reducible first | exact HB1 | exact brefl _ | refine bdrew ?_ | refine balloc ?_ _ | refine bset ?_ ?_ _ | refine step ?_ (by with_reducible assumption))) <;> first | (simp; done) | (simp; omega)))) (first | (go_simp; go_at_call 12; refine (HT.out _ ?_).mono ?_; ((repeat' (with_reducible first | exact HB1 | exact brefl _ | refine bdrew ?_ | refine balloc ?_ _ | refine bset ?_ ?_ _ | refine step ?_ (by with_reducible assumption))) <;> first | (simp; done) | (simp; omega)); rintro e w7 ⟨gc7, gr7, rfl, hcols, hrows, hb7⟩; have it7 : Hid (IsTbl w7 gc7 gr7 t) := ⟨own_rd_cols hcols, own_rd_rows hrows HP2.out, Lies.of hcols, rdO_of_rows hrows HSM.out.2.2 HSM.out.2.1⟩; clear hcols hrows; have z7 := hb7.size; (try simp at z7); (try (refine withSeen w1'.heap.size hb7 ?_ ?_; (focus (first | (simp; done) | (simp; omega) | omega)); intro ca0 fa0 sa0)); simp only []) | (go_simp; go_at_call 33; refine (HTC.out _).mono ?_; rintro e w8 ⟨rfl, hb8⟩; have z8 := hb8.size; (try simp at z8); (try (refine withSeen w1'.heap.size hb8 ?_ ?_; (focus (first | (simp; done) | (simp; omega) | omega)); intro cb0 fb0 sb0)) ; (try (refine withSeen w7.heap.size hb8 ?_ ?_; (focus (first | (simp; done) | (simp; omega) | omega)); intro cb1 fb1 sb1)); simp only []) | (go_simp; go_at_call 32; refine (HSP.out _ gc7 gr7 (it7.out.below ?_)).mono ?_; ((repeat' (with_reducible first | exact HB1 | exact brefl _ | refine bdrew ?_ | refine balloc ?_ _ | refine bset ?_ ?_ _ | refine step ?_ (by with_reducible assumption))) <;> first | (simp; done) | (simp; omega)); rintro e w9 ⟨vc9, vr9, rfl, ho9, hb9⟩; obtain ⟨Ac9, cc9, hvc9⟩ := ho9.1.form; obtain ⟨Ar9, cr9, hvr9⟩ := (show ∃ A c, vr9 = .slice A G.1.rows.length c by obtain ⟨_, vs, hra⟩ := ho9; exact hra.len); subst hvc9; subst hvr9; have HO9 := hide ho9; clear ho9; have z9 := hb9.size; (try simp at z9); (try (refine withSeen w1'.heap.size hb9 ?_ ?_; (focus (first | (simp; done) | (simp; omega) | omega)); intro cc0 fc0 sc0)) ; (try (refine withSeen w7.heap.size hb9 ?_ ?_; (focus (first | (simp; done) | (simp; omega) | omega)); intro cc1 fc1 sc1)) ; (try (refine withSeen w8.heap.size hb9 ?_ ?_; (focus (first | (simp; done) | (simp; omega) | omega)); intro cc2 fc2 sc2)); simp only []))
      all_goals (go_wp2_with fail; go_meet)
      all_goals
        refine ⟨?_, ?_⟩
        · first
            | exact var_new G _ w8.heap.size w9 _ _ _ _ (by omega) (by omega) _ HO9.out
            | exact var_old G _ w8.heap.size w1'.heap.size w9 _ _ _ _ (by omega) (by omega) (by omega) (fun i hi => by rw [cc0, cb0, ca0]; exact five_new w1' _ _ _ _ _ _ _ rfl i hi) HO9.out
            | exact var_old G _ w8.heap.size w7.heap.size w9 _ _ _ _ (by omega) (by omega) (by omega) (fun i hi => by rw [cc1, cb1]; exact five_new w7 _ _ _ _ _ _ _ rfl i hi) HO9.out
            | exact var_old G _ _ w8.heap.size w9 _ _ _ _ (by simp) (by omega) (by simp; omega) (fun i hi => by rw [cc2]; exact five_new w8 _ _ _ _ _ _ _ rfl i hi) HO9.out
        · ((repeat' (with_reducible first | exact HB1 | exact brefl _ | refine bdrew ?_ | refine balloc ?_ _ | refine bset ?_ ?_ _ | refine step ?_ (by with_reducible assumption))) <;> first | (simp; done) | (simp; omega))
    case rest =>
      obtain ⟨⟨lo0, hi0, B0, Ac0, cc0, Ar0, cr0, rfl, rfl, q1, q2, q3, q4, q5, hV0, hO0⟩, hbc⟩ := hcut
      obtain ⟨wz, rfl⟩ : ∃ wz : World, wz = wc := ⟨_, rfl⟩
      have hB0 : B0 < wz.heap.size := World.block_lt_of_cell? wz _ hV0.1
      have HV0 := hide hV0
      have HO0 := hide hO0
      have HS := hide (ss_keep HS.out hbc)
      have HBc := hide (HB1.trans (hbc.mono HB1.size))
      have hszc : w.heap.size + 2 ≤ wz.heap.size := by have := hbc.size; omega
      clear hV0 hO0 hbc HB1 HK
      obtain ⟨a0, a1, a2, a3, a4⟩ := HS.out.1
      go_wp2_with fail
      refine (HT.out _ HBc.out).mono ?_
      rintro e w4 ⟨gcx, grx, rfl, hcols, hrows, hb4⟩
      have IT4 : Hid (IsTbl w4 gcx grx t) := ⟨own_rd_cols hcols, own_rd_rows hrows HP2.out, Lies.of hcols, rdO_of_rows hrows HSM.out.2.2 HSM.out.2.1⟩
      have HX0 := hide (own_of_table hcols hrows)
      have HV0 := hide (HV0.out.keep hb4)
      have HO0 := hide (HO0.out.keep (w' := w4) (fun b _ h => hb4.block b (by omega)))
      have HS := hide (ss_keep HS.out hb4)
      have HB4 := hide (HBc.out.trans (hb4.mono HBc.out.size))
      have h4 : wz.heap.size ≤ w4.heap.size := hb4.size
      clear hcols hrows hb4 a0 a1 a2 a3 a4
      go_upto_region 10 with fail
      obtain ⟨V, hV⟩ : ∃ V : World, V = w4.alloc (.cells #[.slice (some ⟨gcx, 0, none⟩) t.cols.length t.cols.length, .int .i64 t.head, .int .i64 t.foot, .slice (some ⟨grx, 0, none⟩) t.rows.length t.rows.length, .int .i64 t.gap] 33) := ⟨_, rfl⟩
      rw [← hV]
      have BV : Below w4.heap.size w4 V := hV ▸ balloc (brefl w4) _
      have HVX : Hid (W5 V w4.heap.size (.slice (some ⟨gcx, 0, none⟩) t.cols.length t.cols.length) (.int .i64 t.head) (.int .i64 t.foot) (.slice (some ⟨grx, 0, none⟩) t.rows.length t.rows.length) (.int .i64 t.gap)) := by rw [hV]; exact W5.new _ _ _ _ _ _ _
      have hVs : w4.heap.size + 1 ≤ V.heap.size := by rw [hV]; simp
      have ITV := hide (IT4.out.below BV)
      have HX0 := hide (HX0.out.keep (w' := V) (fun b _ h => BV.block b h))
      have HV0 := hide (HV0.out.keep BV)
      have HO0 := hide (HO0.out.keep (w' := V) (fun b _ h => BV.block b (by omega)))
      have HS := hide (ss_keep HS.out BV)
      have HBV := HB4.out.trans (BV.mono HB4.out.size)
      clear hV BV IT4 HB4
      have HK : Hid (∀ U : World, Below V.heap.size V U → (fun U : World => (U.cell? ⟨w4.heap.size, 0, none⟩ = some (.slice (some ⟨gcx, 0, none⟩) t.cols.length t.cols.length) ∧ U.cell? ⟨w4.heap.size, 1, none⟩ = some (.int .i64 t.head) ∧ U.cell? ⟨w4.heap.size, 2, none⟩ = some (.int .i64 t.foot) ∧ U.cell? ⟨w4.heap.size, 3, none⟩ = some (.slice (some ⟨grx, 0, none⟩) t.rows.length t.rows.length) ∧ U.cell? ⟨w4.heap.size, 4, none⟩ = some (.int .i64 t.gap)) ∧ (U.cell? ⟨w.heap.size + 1, 0, none⟩ = some (.string x.t) ∧ U.cell? ⟨w.heap.size + 1, 1, none⟩ = some (.int .i64 x.c) ∧ U.cell? ⟨w.heap.size + 1, 2, none⟩ = some (.int .i64 x.r) ∧ U.cell? ⟨w.heap.size + 1, 3, none⟩ = some (.int .i64 x.top.s) ∧ U.cell? ⟨w.heap.size + 1, 4, none⟩ = some (.int .i64 x.top.w) ∧ U.cell? ⟨w.heap.size + 1, 5, none⟩ = some (.int .i64 x.right.s) ∧ U.cell? ⟨w.heap.size + 1, 6, none⟩ = some (.int .i64 x.right.w) ∧ U.cell? ⟨w.heap.size + 1, 7, none⟩ = some (.int .i64 x.bot.s) ∧ U.cell? ⟨w.heap.size + 1, 8, none⟩ = some (.int .i64 x.bot.w) ∧ U.cell? ⟨w.heap.size + 1, 9, none⟩ = some (.int .i64 x.left.s) ∧ U.cell? ⟨w.heap.size + 1, 10, none⟩ = some (.int .i64 x.left.w))) U) := fun U h => ⟨HVX.out.keep h, (ss_keep HS.out h).2⟩
      have HB1 := brefl V
      go_cut [13, 14] (fun s13 s14 wx => Var G V.heap.size s13 s14 wx ∧ Below V.heap.size V wx)
      case first =>
        have hq : (fun U : World => (U.cell? ⟨w4.heap.size, 0, none⟩ = some (.slice (some ⟨gcx, 0, none⟩) t.cols.length t.cols.length) ∧ U.cell? ⟨w4.heap.size, 1, none⟩ = some (.int .i64 t.head) ∧ U.cell? ⟨w4.heap.size, 2, none⟩ = some (.int .i64 t.foot) ∧ U.cell? ⟨w4.heap.size, 3, none⟩ = some (.slice (some ⟨grx, 0, none⟩) t.rows.length t.rows.length) ∧ U.cell? ⟨w4.heap.size, 4, none⟩ = some (.int .i64 t.gap)) ∧ (U.cell? ⟨w.heap.size + 1, 0, none⟩ = some (.string x.t) ∧ U.cell? ⟨w.heap.size + 1, 1, none⟩ = some (.int .i64 x.c) ∧ U.cell? ⟨w.heap.size + 1, 2, none⟩ = some (.int .i64 x.r) ∧ U.cell? ⟨w.heap.size + 1, 3, none⟩ = some (.int .i64 x.top.s) ∧ U.cell? ⟨w.heap.size + 1, 4, none⟩ = some (.int .i64 x.top.w) ∧ U.cell? ⟨w.heap.size + 1, 5, none⟩ = some (.int .i64 x.right.s) ∧ U.cell? ⟨w.heap.size + 1, 6, none⟩ = some (.int .i64 x.right.w) ∧ U.cell? ⟨w.heap.size + 1, 7, none⟩ = some (.int .i64 x.bot.s) ∧ U.cell? ⟨w.heap.size + 1, 8, none⟩ = some (.int .i64 x.bot.w) ∧ U.cell? ⟨w.heap.size + 1, 9, none⟩ = some (.int .i64 x.left.s) ∧ U.cell? ⟨w.heap.size + 1, 10, none⟩ = some (.int .i64 x.left.w))) V := HK.out _ (brefl _)
        go_region_held3 (fun U : World => (U.cell? ⟨w4.heap.size, 0, none⟩ = some (.slice (some ⟨gcx, 0, none⟩) t.cols.length t.cols.length) ∧ U.cell? ⟨w4.heap.size, 1, none⟩ = some (.int .i64 t.head) ∧ U.cell? ⟨w4.heap.size, 2, none⟩ = some (.int .i64 t.foot) ∧ U.cell? ⟨w4.heap.size, 3, none⟩ = some (.slice (some ⟨grx, 0, none⟩) t.rows.length t.rows.length) ∧ U.cell? ⟨w4.heap.size, 4, none⟩ = some (.int .i64 t.gap)) ∧ (U.cell? ⟨w.heap.size + 1, 0, none⟩ = some (.string x.t) ∧ U.cell? ⟨w.heap.size + 1, 1, none⟩ = some (.int .i64 x.c) ∧ U.cell? ⟨w.heap.size + 1, 2, none⟩ = some (.int .i64 x.r) ∧ U.cell? ⟨w.heap.size + 1, 3, none⟩ = some (.int .i64 x.top.s) ∧ U.cell? ⟨w.heap.size + 1, 4, none⟩ = some (.int .i64 x.top.w) ∧ U.cell? ⟨w.heap.size + 1, 5, none⟩ = some (.int .i64 x.right.s) ∧ U.cell? ⟨w.heap.size + 1, 6, none⟩ = some (.int .i64 x.right.w) ∧ U.cell? ⟨w.heap.size + 1, 7, none⟩ = some (.int .i64 x.bot.s) ∧ U.cell? ⟨w.heap.size + 1, 8, none⟩ = some (.int .i64 x.bot.w) ∧ U.cell? ⟨w.heap.size + 1, 9, none⟩ = some (.int .i64 x.left.s) ∧ U.cell? ⟨w.heap.size + 1, 10, none⟩ = some (.int .i64 x.left.w))) (first | with_reducible assumption | (refine HK.out _ ?_; ((repeat' (with_reducible first | exact HB1 | exact brefl _ | refine bdrew ?_ | refine balloc ?_ _ | refine bset ?_ ?_ _ | refine step ?_ (by with_reducible assumption))) <;> first | (simp; done) | (simp; omega)))) (first | (go_simp; go_at_call 33; refine (HTC.out _).mono ?_; rintro e w8 ⟨rfl, hb8⟩; have z8 := hb8.size; (try simp at z8); (try (refine withSeen V.heap.size hb8 ?_ ?_; (focus (first | (simp; done) | (simp; omega) | omega)); intro cb0 fb0 sb0)); simp only []) | (go_simp; go_at_call 34; refine (HIM.out _ gcx grx ?_ (ITV.out.below ?_)).mono ?_; ((repeat' (with_reducible first | exact HBV | refine bdrew ?_ | refine balloc ?_ _ | refine bset ?_ ?_ _ | refine step ?_ (by with_reducible assumption))) <;> first | (simp; done) | (simp; omega)); ((repeat' (with_reducible first | exact HB1 | exact brefl _ | refine bdrew ?_ | refine balloc ?_ _ | refine bset ?_ ?_ _ | refine step ?_ (by with_reducible assumption))) <;> first | (simp; done) | (simp; omega)); rintro e w9 ⟨vc9, vr9, rfl, ho9, hb9⟩; obtain ⟨Ac9, cc9, hvc9⟩ := ho9.1.form; obtain ⟨Ar9, cr9, hvr9⟩ := (show ∃ A c, vr9 = .slice A G.1.rows.length c by obtain ⟨_, vs, hra⟩ := ho9; exact hra.len); subst hvc9; subst hvr9; have HO9 := hide ho9; clear ho9; have z9 := hb9.size; (try simp at z9); (try (refine withSeen V.heap.size hb9 ?_ ?_; (focus (first | (simp; done) | (simp; omega) | omega)); intro cc0 fc0 sc0)) ; (try (refine withSeen w8.heap.size hb9 ?_ ?_; (focus (first | (simp; done) | (simp; omega) | omega)); intro cc1 fc1 sc1)); simp only []))
        all_goals (go_wp2_with fail; go_meet)
        all_goals
          refine ⟨?_, ?_⟩
          · first
              | exact var_new G _ w8.heap.size w9 _ _ _ _ (by omega) (by omega) _ HO9.out
              | exact var_old G _ w8.heap.size V.heap.size w9 _ _ _ _ (by omega) (by omega) (by omega) (fun i hi => by rw [cc0, cb0]; exact five_new V _ _ _ _ _ _ _ rfl i hi) HO9.out
              | exact var_old G _ _ w8.heap.size w9 _ _ _ _ (by simp) (by omega) (by simp; omega) (fun i hi => by rw [cc1]; exact five_new w8 _ _ _ _ _ _ _ rfl i hi) HO9.out
          · ((repeat' (with_reducible first | exact HB1 | exact brefl _ | refine bdrew ?_ | refine balloc ?_ _ | refine bset ?_ ?_ _ | refine step ?_ (by with_reducible assumption))) <;> first | (simp; done) | (simp; omega))
      case rest =>
        obtain ⟨⟨lo1, hi1, B1, Ac1, cc1, Ar1, cr1, rfl, rfl, p1, p2, p3, p4, p5, hV1, hO1⟩, hbw5⟩ := hcut
        obtain ⟨w5, rfl⟩ : ∃ w5 : World, w5 = wc := ⟨_, rfl⟩
        have hB1 : B1 < w5.heap.size := World.block_lt_of_cell? w5 _ hV1.1
        have HV1 := hide hV1
        have HO1 := hide hO1
        have HB := hide HBV
        clear hV1 hO1 HK HB1 HBV
        have HS := hide (ss_keep HS.out hbw5)
        have HV0 := hide (HV0.out.keep hbw5)
        have HO0 := hide (HO0.out.keep (w' := w5) (fun b _ h => Below.block hbw5 b (by omega)))
        have HVX := hide (HVX.out.keep hbw5)
        have HX0 := hide (HX0.out.keep (w' := w5) (fun b _ h => Below.block hbw5 b (by omega)))
        have HB := hide (HB.out.trans (Below.mono hbw5 HB.out.size))
        have zzw5 := Below.size hbw5
        clear hbw5
        have hGs : G.1.rows.length ≤ 1048576 := HG2.out.2.1
        obtain ⟨k0, k1, k2, k3, k4⟩ := HV1.out
        obtain ⟨l0, l1, l2, l3, l4⟩ := HV0.out
        have R1 := HO1.out.rd HG1.out hGs
        have R0 := HO0.out.rd HG1.out hGs
        have hEq := eqTable G.1 Ac1 Ar1 Ac0 Ar0 cc1 cr1 cc0 cr0 _ R1.1 R1.2 R0.1 R0.2
        clear R1 R0
        go_wp2_with fail
        refine hEq.mono ?_
        rintro e w6 ⟨rfl, hb6⟩
        have HS := hide (ss_keep HS.out hb6)
        have HV0 := hide (HV0.out.keep hb6)
        have HO0 := hide (HO0.out.keep (w' := w6) (fun b _ h => Below.block hb6 b (by omega)))
        have HVX := hide (HVX.out.keep hb6)
        have HX0 := hide (HX0.out.keep (w' := w6) (fun b _ h => Below.block hb6 b (by omega)))
        have HV1 := hide (HV1.out.keep hb6)
        have HO1 := hide (HO1.out.keep (w' := w6) (fun b _ h => Below.block hb6 b (by omega)))
        have HB := hide (HB.out.trans (Below.mono hb6 HB.out.size))
        have zzw6 := Below.size hb6
        clear hEq hb6 k0 k1 k2 k3 k4 l0 l1 l2 l3 l4
        have RX := HX0.out.rd HSZ.out HSM.out.2.1
        have hEqX := fun (W : World) (h : Below w6.heap.size w6 W) (gd gs : Nat) (it : IsTbl W gd gs t) => eqTable t (some ⟨gcx, 0, none⟩) (some ⟨grx, 0, none⟩) (some ⟨gd, 0, none⟩) (some ⟨gs, 0, none⟩) t.cols.length t.rows.length t.cols.length t.rows.length W (RX.1.below h) (RX.2.below h) it.1 it.2.1
        have HEQX := hide hEqX
        clear hEqX RX
        have HK : Hid (∀ U : World, Below w6.heap.size w6 U → (fun U : World => (U.cell? ⟨w4.heap.size, 0, none⟩ = some (.slice (some ⟨gcx, 0, none⟩) t.cols.length t.cols.length) ∧ U.cell? ⟨w4.heap.size, 1, none⟩ = some (.int .i64 t.head) ∧ U.cell? ⟨w4.heap.size, 2, none⟩ = some (.int .i64 t.foot) ∧ U.cell? ⟨w4.heap.size, 3, none⟩ = some (.slice (some ⟨grx, 0, none⟩) t.rows.length t.rows.length) ∧ U.cell? ⟨w4.heap.size, 4, none⟩ = some (.int .i64 t.gap)) ∧ (U.cell? ⟨w.heap.size, 0, none⟩ = some (.slice A t.cols.length c) ∧ U.cell? ⟨w.heap.size, 1, none⟩ = some (.int .i64 t.head) ∧ U.cell? ⟨w.heap.size, 2, none⟩ = some (.int .i64 t.foot) ∧ U.cell? ⟨w.heap.size, 3, none⟩ = some (.slice A' t.rows.length c') ∧ U.cell? ⟨w.heap.size, 4, none⟩ = some (.int .i64 t.gap))) U) := fun U h => ⟨HVX.out.keep h, (ss_keep HS.out h).1⟩
        have HB1 := brefl w6
        have HBV := HB.out
        have hq : (fun U : World => (U.cell? ⟨w4.heap.size, 0, none⟩ = some (.slice (some ⟨gcx, 0, none⟩) t.cols.length t.cols.length) ∧ U.cell? ⟨w4.heap.size, 1, none⟩ = some (.int .i64 t.head) ∧ U.cell? ⟨w4.heap.size, 2, none⟩ = some (.int .i64 t.foot) ∧ U.cell? ⟨w4.heap.size, 3, none⟩ = some (.slice (some ⟨grx, 0, none⟩) t.rows.length t.rows.length) ∧ U.cell? ⟨w4.heap.size, 4, none⟩ = some (.int .i64 t.gap)) ∧ (U.cell? ⟨w.heap.size, 0, none⟩ = some (.slice A t.cols.length c) ∧ U.cell? ⟨w.heap.size, 1, none⟩ = some (.int .i64 t.head) ∧ U.cell? ⟨w.heap.size, 2, none⟩ = some (.int .i64 t.foot) ∧ U.cell? ⟨w.heap.size, 3, none⟩ = some (.slice A' t.rows.length c') ∧ U.cell? ⟨w.heap.size, 4, none⟩ = some (.int .i64 t.gap))) w6 := HK.out _ (brefl _)
        go_wp2_with fail
        go_region_held3 (fun U : World => (U.cell? ⟨w4.heap.size, 0, none⟩ = some (.slice (some ⟨gcx, 0, none⟩) t.cols.length t.cols.length) ∧ U.cell? ⟨w4.heap.size, 1, none⟩ = some (.int .i64 t.head) ∧ U.cell? ⟨w4.heap.size, 2, none⟩ = some (.int .i64 t.foot) ∧ U.cell? ⟨w4.heap.size, 3, none⟩ = some (.slice (some ⟨grx, 0, none⟩) t.rows.length t.rows.length) ∧ U.cell? ⟨w4.heap.size, 4, none⟩ = some (.int .i64 t.gap)) ∧ (U.cell? ⟨w.heap.size, 0, none⟩ = some (.slice A t.cols.length c) ∧ U.cell? ⟨w.heap.size, 1, none⟩ = some (.int .i64 t.head) ∧ U.cell? ⟨w.heap.size, 2, none⟩ = some (.int .i64 t.foot) ∧ U.cell? ⟨w.heap.size, 3, none⟩ = some (.slice A' t.rows.length c') ∧ U.cell? ⟨w.heap.size, 4, none⟩ = some (.int .i64 t.gap))) (first | with_reducible assumption | (refine HK.out _ ?_; ((repeat' (with_reducible first | exact HB1 | exact brefl _ | refine bdrew ?_ | refine balloc ?_ _ | refine bset ?_ ?_ _ | refine step ?_ (by with_reducible assumption))) <;> first | (simp; done) | (simp; omega)))) (first | (go_simp; go_at_call 12; refine (HT.out _ ?_).mono ?_; ((repeat' (with_reducible first | exact HBV | refine bdrew ?_ | refine balloc ?_ _ | refine bset ?_ ?_ _ | refine step ?_ (by with_reducible assumption))) <;> first | (simp; done) | (simp; omega)); rintro e w7 ⟨gc7, gr7, rfl, hcols, hrows, hb7⟩; have it7 : Hid (IsTbl w7 gc7 gr7 t) := ⟨own_rd_cols hcols, own_rd_rows hrows HP2.out, Lies.of hcols, rdO_of_rows hrows HSM.out.2.2 HSM.out.2.1⟩; clear hcols hrows; simp only []) | (go_simp; go_at_call 15; refine (HEQX.out _ ?_ gc7 gr7 (it7.out.below ?_)).mono ?_; ((repeat' (with_reducible first | exact HB1 | exact brefl _ | refine bdrew ?_ | refine balloc ?_ _ | refine bset ?_ ?_ _ | refine step ?_ (by with_reducible assumption))) <;> first | (simp; done) | (simp; omega)); ((repeat' (with_reducible first | exact HB1 | exact brefl _ | refine bdrew ?_ | refine balloc ?_ _ | refine bset ?_ ?_ _ | refine step ?_ (by with_reducible assumption))) <;> first | (simp; done) | (simp; omega)); rintro e w8 ⟨rfl, hb8⟩; simp only []))
        have hb68 : Below w6.heap.size w6 w8 := by ((repeat' (with_reducible first | exact HB1 | exact brefl _ | refine bdrew ?_ | refine balloc ?_ _ | refine bset ?_ ?_ _ | refine step ?_ (by with_reducible assumption))) <;> first | (simp; done) | (simp; omega))
        have HS := hide (ss_keep HS.out hb68)
        have HV0 := hide (HV0.out.keep hb68)
        have HO0 := hide (HO0.out.keep (w' := w8) (fun b _ h => Below.block hb68 b (by omega)))
        have HVX := hide (HVX.out.keep hb68)
        have HX0 := hide (HX0.out.keep (w' := w8) (fun b _ h => Below.block hb68 b (by omega)))
        have HV1 := hide (HV1.out.keep hb68)
        have HO1 := hide (HO1.out.keep (w' := w8) (fun b _ h => Below.block hb68 b (by omega)))
        have HB := hide (HB.out.trans (Below.mono hb68 HB.out.size))
        have zzw8 := Below.size hb68
        clear HK HB1 HBV hq hb68 hb7 hb8 it7 HEQX
        obtain ⟨d0, d1, d2, d3, d4⟩ := HVX.out
        have hMx := markTable t 1 _ _ _ _ w8 HX0.out (by omega) HSM.out (by omega)
        have hkp : ¬ ((endT t 1 : Nat) : Int) < 0 := by omega
        generalize endT t 1 = kx at hMx hkp
        go_wp2_with fail
        refine hMx.mono ?_
        rintro e w9 ⟨rfl, _, hw9⟩
        have HS := hide (ss_block HS.out (hw9.block _ (by omega) (.inl (by omega))) (hw9.block _ (by omega) (.inl (by omega))))
        have HV0 := hide (HV0.out.within hw9 (.inl (by omega)))
        have HO0 := hide (HO0.out.keep (w' := w9) (fun b _ h => hw9.block b (by omega) (.inl (by omega))))
        have HV1 := hide (HV1.out.within hw9 (.inr (by omega)))
        have HO1 := hide (HO1.out.keep (w' := w9) (fun b h1 h => hw9.block b (by omega) (.inr (by omega))))
        have HB := hide (below_within HB.out hw9 (by omega))
        have zzw9 := hw9.size
        clear d0 d1 d2 d3 d4 hMx hw9 HX0 HVX
        obtain ⟨k0, k1, k2, k3, k4⟩ := HV1.out
        obtain ⟨l0, l1, l2, l3, l4⟩ := HV0.out
        have R1 := HO1.out.rd HG1.out hGs
        have R0 := HO0.out.rd HG1.out hGs
        have hEq := eqTable G.1 Ac1 Ar1 Ac0 Ar0 cc1 cr1 cc0 cr0 _ R1.1 R1.2 R0.1 R0.2
        clear R1 R0
        go_wp2_with fail
        refine hEq.mono ?_
        rintro e w10 ⟨rfl, hb10⟩
        have HS := hide (ss_keep HS.out hb10)
        have HV0 := hide (HV0.out.keep hb10)
        have HO0 := hide (HO0.out.keep (w' := w10) (fun b _ h => Below.block hb10 b (by omega)))
        have HV1 := hide (HV1.out.keep hb10)
        have HO1 := hide (HO1.out.keep (w' := w10) (fun b _ h => Below.block hb10 b (by omega)))
        have HB := hide (HB.out.trans (Below.mono hb10 HB.out.size))
        have zzw10 := Below.size hb10
        clear hEq hb10 k0 k1 k2 k3 k4 l0 l1 l2 l3 l4
        obtain ⟨d0, d1, d2, d3, d4⟩ := HV1.out
        have hMg := markTable G.1 1 _ _ _ _ w10 HO1.out (by omega) HG2.out (by omega)
        generalize hkg : endT G.1 1 = kg at hMg
        have HKG := hide hkg
        clear hkg
        go_wp2_with fail
        refine hMg.mono ?_
        rintro e w11 ⟨rfl, hog, hw11⟩
        have HS := hide (ss_block HS.out (hw11.block _ (by omega) (.inl (by omega))) (hw11.block _ (by omega) (.inl (by omega))))
        have HV0 := hide (HV0.out.within hw11 (.inl (by omega)))
        have HO0 := hide (HO0.out.keep (w' := w11) (fun b _ h => hw11.block b (by omega) (.inl (by omega))))
        have HV1 := hide (HV1.out.within hw11 (by omega))
        have HO1 := hide hog
        have HB := hide (below_within HB.out hw11 (by omega))
        have zzw11 := hw11.size
        clear d0 d1 d2 d3 d4 hMg hw11 hog
        have hml : (markT G.1 1).rows.length ≤ 1048576 := by show (markR _ _).length ≤ _; rw [markR_length]; exact hGs
        have RM := HO1.out.rd (markR_sized _ _) hml
        have hHd := fun (W : World) (h : Below w11.heap.size w11 W) => heldTable G.1 1 Ac1 Ar1 cc1 cr1 W (RM.1.below h) (RM.2.below h) HG2.out (by omega)
        rw [HKG.out] at hHd
        have hkq : ¬ ((kg : Nat) : Int) < 0 := by omega
        clear RM hml
        have HHD := hide hHd
        clear hHd
        obtain ⟨d0, d1, d2, d3, d4⟩ := HV1.out
        go_wp2_with fail
        refine (HHD.out _ (brefl _)).mono ?_
        rintro e w12 ⟨rfl, hb12⟩
        have HS := hide (ss_keep HS.out hb12)
        have HV0 := hide (HV0.out.keep hb12)
        have HO0 := hide (HO0.out.keep (w' := w12) (fun b _ h => Below.block hb12 b (by omega)))
        have HV1 := hide (HV1.out.keep hb12)
        have HB := hide (HB.out.trans (Below.mono hb12 HB.out.size))
        have zzw12 := Below.size hb12
        have HBM := hide (step (brefl w11) hb12)
        clear d0 d1 d2 d3 d4 hb12 HO1
        go_upto_region 27 with fail
        have HK : Hid (∀ U : World, Below w12.heap.size w12 U → (fun U : World => (U.cell? ⟨w.heap.size, 0, none⟩ = some (.slice A t.cols.length c) ∧ U.cell? ⟨w.heap.size, 1, none⟩ = some (.int .i64 t.head) ∧ U.cell? ⟨w.heap.size, 2, none⟩ = some (.int .i64 t.foot) ∧ U.cell? ⟨w.heap.size, 3, none⟩ = some (.slice A' t.rows.length c') ∧ U.cell? ⟨w.heap.size, 4, none⟩ = some (.int .i64 t.gap)) ∧ (U.cell? ⟨w.heap.size + 1, 0, none⟩ = some (.string x.t) ∧ U.cell? ⟨w.heap.size + 1, 1, none⟩ = some (.int .i64 x.c) ∧ U.cell? ⟨w.heap.size + 1, 2, none⟩ = some (.int .i64 x.r) ∧ U.cell? ⟨w.heap.size + 1, 3, none⟩ = some (.int .i64 x.top.s) ∧ U.cell? ⟨w.heap.size + 1, 4, none⟩ = some (.int .i64 x.top.w) ∧ U.cell? ⟨w.heap.size + 1, 5, none⟩ = some (.int .i64 x.right.s) ∧ U.cell? ⟨w.heap.size + 1, 6, none⟩ = some (.int .i64 x.right.w) ∧ U.cell? ⟨w.heap.size + 1, 7, none⟩ = some (.int .i64 x.bot.s) ∧ U.cell? ⟨w.heap.size + 1, 8, none⟩ = some (.int .i64 x.bot.w) ∧ U.cell? ⟨w.heap.size + 1, 9, none⟩ = some (.int .i64 x.left.s) ∧ U.cell? ⟨w.heap.size + 1, 10, none⟩ = some (.int .i64 x.left.w))) U) := fun U h => ss_keep HS.out h
        have HB1 := brefl w12
        have HBV := HB.out
        go_cut [18, 19] (fun s18 s19 wx => Var G w12.heap.size s18 s19 wx ∧ Below w12.heap.size w12 wx)
        case first =>
          have hq : (fun U : World => (U.cell? ⟨w.heap.size, 0, none⟩ = some (.slice A t.cols.length c) ∧ U.cell? ⟨w.heap.size, 1, none⟩ = some (.int .i64 t.head) ∧ U.cell? ⟨w.heap.size, 2, none⟩ = some (.int .i64 t.foot) ∧ U.cell? ⟨w.heap.size, 3, none⟩ = some (.slice A' t.rows.length c') ∧ U.cell? ⟨w.heap.size, 4, none⟩ = some (.int .i64 t.gap)) ∧ (U.cell? ⟨w.heap.size + 1, 0, none⟩ = some (.string x.t) ∧ U.cell? ⟨w.heap.size + 1, 1, none⟩ = some (.int .i64 x.c) ∧ U.cell? ⟨w.heap.size + 1, 2, none⟩ = some (.int .i64 x.r) ∧ U.cell? ⟨w.heap.size + 1, 3, none⟩ = some (.int .i64 x.top.s) ∧ U.cell? ⟨w.heap.size + 1, 4, none⟩ = some (.int .i64 x.top.w) ∧ U.cell? ⟨w.heap.size + 1, 5, none⟩ = some (.int .i64 x.right.s) ∧ U.cell? ⟨w.heap.size + 1, 6, none⟩ = some (.int .i64 x.right.w) ∧ U.cell? ⟨w.heap.size + 1, 7, none⟩ = some (.int .i64 x.bot.s) ∧ U.cell? ⟨w.heap.size + 1, 8, none⟩ = some (.int .i64 x.bot.w) ∧ U.cell? ⟨w.heap.size + 1, 9, none⟩ = some (.int .i64 x.left.s) ∧ U.cell? ⟨w.heap.size + 1, 10, none⟩ = some (.int .i64 x.left.w))) w12 := HS.out
          go_region_held3 (fun U : World => (U.cell? ⟨w.heap.size, 0, none⟩ = some (.slice A t.cols.length c) ∧ U.cell? ⟨w.heap.size, 1, none⟩ = some (.int .i64 t.head) ∧ U.cell? ⟨w.heap.size, 2, none⟩ = some (.int .i64 t.foot) ∧ U.cell? ⟨w.heap.size, 3, none⟩ = some (.slice A' t.rows.length c') ∧ U.cell? ⟨w.heap.size, 4, none⟩ = some (.int .i64 t.gap)) ∧ (U.cell? ⟨w.heap.size + 1, 0, none⟩ = some (.string x.t) ∧ U.cell? ⟨w.heap.size + 1, 1, none⟩ = some (.int .i64 x.c) ∧ U.cell? ⟨w.heap.size + 1, 2, none⟩ = some (.int .i64 x.r) ∧ U.cell? ⟨w.heap.size + 1, 3, none⟩ = some (.int .i64 x.top.s) ∧ U.cell? ⟨w.heap.size + 1, 4, none⟩ = some (.int .i64 x.top.w) ∧ U.cell? ⟨w.heap.size + 1, 5, none⟩ = some (.int .i64 x.right.s) ∧ U.cell? ⟨w.heap.size + 1, 6, none⟩ = some (.int .i64 x.right.w) ∧ U.cell? ⟨w.heap.size + 1, 7, none⟩ = some (.int .i64 x.bot.s) ∧ U.cell? ⟨w.heap.size + 1, 8, none⟩ = some (.int .i64 x.bot.w) ∧ U.cell? ⟨w.heap.size + 1, 9, none⟩ = some (.int .i64 x.left.s) ∧ U.cell? ⟨w.heap.size + 1, 10, none⟩ = some (.int .i64 x.left.w))) (first | with_reducible assumption | (refine HK.out _ ?_; ((repeat' (with_reducible first | exact HB1 | exact brefl _ | refine bdrew ?_ | refine balloc ?_ _ | refine bset ?_ ?_ _ | refine step ?_ (by with_reducible assumption))) <;> first | (simp; done) | (simp; omega)))) (first | (go_simp; go_at_call 12; refine (HT.out _ ?_).mono ?_; ((repeat' (with_reducible first | exact HBV | refine bdrew ?_ | refine balloc ?_ _ | refine bset ?_ ?_ _ | refine step ?_ (by with_reducible assumption))) <;> first | (simp; done) | (simp; omega)); rintro e w17 ⟨gc7, gr7, rfl, hcols, hrows, hb7⟩; have it7 : Hid (IsTbl w17 gc7 gr7 t) := ⟨own_rd_cols hcols, own_rd_rows hrows HP2.out, Lies.of hcols, rdO_of_rows hrows HSM.out.2.2 HSM.out.2.1⟩; clear hcols hrows; have z7 := hb7.size; (try simp at z7); (try (refine withSeen w12.heap.size hb7 ?_ ?_; (focus (first | (simp; done) | (simp; omega) | omega)); intro ca0 fa0 sa0)); simp only []) | (go_simp; go_at_call 33; refine (HTC.out _).mono ?_; rintro e w18 ⟨rfl, hb8⟩; have z8 := hb8.size; (try simp at z8); (try (refine withSeen w12.heap.size hb8 ?_ ?_; (focus (first | (simp; done) | (simp; omega) | omega)); intro cb0 fb0 sb0)) ; (try (refine withSeen w17.heap.size hb8 ?_ ?_; (focus (first | (simp; done) | (simp; omega) | omega)); intro cb1 fb1 sb1)); simp only []) | (go_simp; go_at_call 34; refine (HIM.out _ gc7 gr7 ?_ (it7.out.below ?_)).mono ?_; ((repeat' (with_reducible first | exact HBV | refine bdrew ?_ | refine balloc ?_ _ | refine bset ?_ ?_ _ | refine step ?_ (by with_reducible assumption))) <;> first | (simp; done) | (simp; omega)); ((repeat' (with_reducible first | exact HB1 | exact brefl _ | refine bdrew ?_ | refine balloc ?_ _ | refine bset ?_ ?_ _ | refine step ?_ (by with_reducible assumption))) <;> first | (simp; done) | (simp; omega)); rintro e w19 ⟨vc9, vr9, rfl, ho9, hb9⟩; obtain ⟨Ac9, cc9, hvc9⟩ := ho9.1.form; obtain ⟨Ar9, cr9, hvr9⟩ := (show ∃ A c, vr9 = .slice A G.1.rows.length c by obtain ⟨_, vs, hra⟩ := ho9; exact hra.len); subst hvc9; subst hvr9; have HO9 := hide ho9; clear ho9; have z9 := hb9.size; (try simp at z9); (try (refine withSeen w12.heap.size hb9 ?_ ?_; (focus (first | (simp; done) | (simp; omega) | omega)); intro cc0 fc0 sc0)) ; (try (refine withSeen w17.heap.size hb9 ?_ ?_; (focus (first | (simp; done) | (simp; omega) | omega)); intro cc1 fc1 sc1)) ; (try (refine withSeen w18.heap.size hb9 ?_ ?_; (focus (first | (simp; done) | (simp; omega) | omega)); intro cc2 fc2 sc2)); simp only []))
          all_goals (go_wp2_with fail; go_meet)
          all_goals
            refine ⟨?_, ?_⟩
            · first
                | exact var_new G _ w18.heap.size w19 _ _ _ _ (by omega) (by omega) _ HO9.out
                | exact var_old G _ w18.heap.size w12.heap.size w19 _ _ _ _ (by omega) (by omega) (by omega) (fun i hi => by rw [cc0, cb0, ca0]; exact five_new w12 _ _ _ _ _ _ _ rfl i hi) HO9.out
                | exact var_old G _ w18.heap.size w17.heap.size w19 _ _ _ _ (by omega) (by omega) (by omega) (fun i hi => by rw [cc1, cb1]; exact five_new w17 _ _ _ _ _ _ _ rfl i hi) HO9.out
                | exact var_old G _ _ w18.heap.size w19 _ _ _ _ (by simp) (by omega) (by simp; omega) (fun i hi => by rw [cc2]; exact five_new w18 _ _ _ _ _ _ _ rfl i hi) HO9.out
            · ((repeat' (with_reducible first | exact HB1 | exact brefl _ | refine bdrew ?_ | refine balloc ?_ _ | refine bset ?_ ?_ _ | refine step ?_ (by with_reducible assumption))) <;> first | (simp; done) | (simp; omega))
        case rest =>
          obtain ⟨⟨lo2, hi2, B2, Ac2, cc2, Ar2, cr2, rfl, rfl, r1, r2, r3, r4, r5, hV2, hO2⟩, hb13⟩ := hcut
          obtain ⟨w13, rfl⟩ : ∃ w13 : World, w13 = wc := ⟨_, rfl⟩
          have HV2 := hide hV2
          have HO2 := hide hO2
          clear hV2 hO2 HK HB1 HBV
          have HS := hide (ss_keep HS.out hb13)
          have HV0 := hide (HV0.out.keep hb13)
          have HO0 := hide (HO0.out.keep (w' := w13) (fun b _ h => Below.block hb13 b (by omega)))
          have HV1 := hide (HV1.out.keep hb13)
          have HB := hide (HB.out.trans (Below.mono hb13 HB.out.size))
          have zzw13 := Below.size hb13
          have HBM := hide (step HBM.out hb13)
          clear hb13
          obtain ⟨k0, k1, k2, k3, k4⟩ := HV2.out
          obtain ⟨l0, l1, l2, l3, l4⟩ := HV0.out
          have R1 := HO2.out.rd HG1.out hGs
          have R0 := HO0.out.rd HG1.out hGs
          have hEq := eqTable G.1 Ac2 Ar2 Ac0 Ar0 cc2 cr2 cc0 cr0 _ R1.1 R1.2 R0.1 R0.2
          clear R1 R0
          go_wp2_with fail
          refine hEq.mono ?_
          rintro e w14 ⟨rfl, hb14⟩
          have HB := hide (HB.out.trans (hb14.mono HB.out.size))
          have HBM := hide (step HBM.out hb14)
          have HV1 := hide (HV1.out.keep hb14)
          clear k0 k1 k2 k3 k4 l0 l1 l2 l3 l4 hEq hb14
          obtain ⟨d0, d1, d2, d3, d4⟩ := HV1.out
          go_wp2_with fail
          refine (HHD.out _ HBM.out).mono ?_
          rintro e w15 ⟨rfl, hb15⟩
          have HB := hide (HB.out.trans (hb15.mono HB.out.size))
          clear d0 d1 d2 d3 d4 hb15 HBM
          go_wp2_with fail
          go_ret
          exact ⟨rfl, HB.out⟩
end Go.Proofs.YtfcogogpioeggaaDoor
