import Derived.Test.YtfcogogpioeggaaDoorM
namespace Go.Proofs.YtfcogogpioeggaaDoor
open Go.RowKit

def RowPost (x : TRow) (w : World) (e : Ending) (w' : World) : Prop :=
  ∃ g, e = .returned (.agg #[.slice (some ⟨g, 0, none⟩) x.cs.length x.cs.length, .bool x.wh]) ∧ w'.ownsRow w.heap.size 65 11 (.slice (some ⟨g, 0, none⟩) x.cs.length x.cs.length) x.cs.length (x.cs.flatMap cellE) ∧ Below w.heap.size w w'
theorem own_setA {w : World} {base : Nat} {E : TypeId} {k n : Nat} {v : Value} {xs : List Value} (h : w.ownsRow base E k v n xs) {p : Addr} (hp : p.block < base) (u : Value) : (w.setCell p u).ownsRow base E k v n xs :=
  own_keep h fun b e => heap_set w p u b (by have := (own_lt h e).1; omega)
theorem own_alloc {w : World} {base : Nat} {E : TypeId} {k n : Nat} {v : Value} {xs : List Value} (h : w.ownsRow base E k v n xs) (o : Obj) : (w.alloc o).ownsRow base E k v n xs := own_below h (balloc (brefl _) o)

set_option maxHeartbeats 1000000 in
theorem toRow (A : Option Addr) (c : Nat) (x : TRow) (w : World) (hr : Rd cellA w A x.cs) (hb : x.cs.length ≤ 1048576) :
    Calls Tryd.prog 76 #[.agg #[.slice A x.cs.length c, .bool x.wh]] w (RowPost x w) := by
  have hC := fun (W : World) (h : Below w.heap.size w W) => toCells A c x.cs W (hr.below h) hb
  clear hr
  go_enter Tryd.func76, Tryd.ntmps76
  go_wp2_with fail
  refine (hC _ (balloc (balloc (balloc (brefl _) _) _) _)).mono ?_
  rintro e w' ⟨g, rfl, HO, hb1⟩
  obtain ⟨c0, f0, s0⟩ := seenBk w.heap.size (by first | (simp; omega) | simp [*]) hb1
  obtain ⟨c1, f1, s1⟩ := seenBk (w.heap.size + 1) (by first | (simp; omega) | simp [*]) hb1
  obtain ⟨c2, f2, s2⟩ := seenBk (w.heap.size + 1 + 1) (by first | (simp; omega) | simp [*]) hb1
  have HO1 := own_base HO (base' := w.heap.size + 3) (by simp)
  clear hC HO
  go_wp2_with fail
  refine bodyPost_ret (v := .agg #[.slice (some ⟨g, 0, none⟩) x.cs.length x.cs.length, .bool x.wh]) (by simp [results, Tryd.results76, go_sem, *]) rfl ⟨g, rfl, ?_, ?_⟩
  · refine own_base (base := w.heap.size + 3) ?_ (by omega)
    (repeat' (with_reducible first | exact HO1 | refine own_setA ?_ ?_ _)) <;> first | (simp; done) | (simp; omega)
  · have HB := step (balloc (balloc (balloc (brefl w) _) _) _) hb1
    (repeat' (with_reducible first | exact HB | refine bset ?_ ?_ _)) <;> first | (simp; done) | (simp; omega)

def RowsPost (xs : List TRow) (w : World) (e : Ending) (w' : World) : Prop :=
  ∃ g, e = .returned (.slice (some ⟨g, 0, none⟩) xs.length xs.length) ∧ OwnRows w' w.heap.size 84 65 (.slice (some ⟨g, 0, none⟩) xs.length xs.length) xs ∧ Below w.heap.size w w'

set_option maxHeartbeats 2000000 in
theorem toRows (A : Option Addr) (c : Nat) (xs : List TRow) (w : World) (hr : Rd rowA w A xs) (hb : xs.length ≤ 1048576) (hbs : ∀ r ∈ xs, r.cs.length ≤ 1048576) :
    Calls Tryd.prog 39 #[.slice A xs.length c] w (RowsPost xs w) := by
  have hl := hr.1
  have hmk := make_eq (P := Tryd.prog) (z := .agg #[.slice none 0 0, .bool false]) (k := 2) (bytes := 32) Tryd.underlying31 (by kernel_rfl) xs.length (by omega) hl
  have own0 := made_own w w.heap.size #[.slice none 0 0, .bool false] 2 xs.length 84 (Nat.le_refl _) hl
  go_enter Tryd.func39, Tryd.ntmps39
  go_wp2_with fail
  go_loopg [4] xs.length (fun gg s4 wr => ∃ kk : Nat, kk ≤ xs.length ∧ xs.length - kk ≤ gg ∧ s4 = .int .i64 kk ∧ Aside (Below w.heap.size w wr ∧ w.heap.size + 1 ≤ wr.heap.size) ∧ Aside (∃ X vs, wr.ownsRow w.heap.size 84 2 (.slice (some ⟨w.heap.size, 0, none⟩) xs.length xs.length) xs.length X ∧ X.take (kk * 2) = rowCells vs (xs.take kk) ∧ RowsIn wr (w.heap.size + 1) 65 vs (xs.take kk)))
  case atStart => exact ⟨0, Nat.zero_le _, by omega, rfl, ⟨balloc (brefl _) _, by simp⟩, _, [], own0, by simp [rowCells], RowsIn.nil _ _ _⟩
  case round =>
    obtain ⟨kk, hkk, hg, rfl, ⟨BW, BS⟩, X, vs, HO, HX, HR⟩ := hrel
    clear own0 hmk
    have hXl := HO.1
    by_cases hlt : kk < xs.length
    · have hltz : (kk : Int) < (xs.length : Int) := by omega
      obtain ⟨b, o, c0, c1, rfl, hblt, ⟨v, hK, A1, n1, rfl, hl1, hr1⟩, e0, e1⟩ := hr.at2 rfl BW kk hlt
      simp only [List.cons.injEq, and_true] at hK
      obtain ⟨rfl, rfl⟩ := hK
      have hC := toRow A1 n1 xs[kk] wr hr1 (hbs _ (List.getElem_mem hlt))
      have HT := hide (show xs.take (kk + 1) = xs.take kk ++ [xs[kk]] from List.take_succ_eq_append_getElem hlt)
      have HXH := hide HX
      have HXL := hide hXl
      clear hr hr1 HX hXl
      go_wp2_with fail
      refine hC.mono ?_
      rintro e w' ⟨g, rfl, HI, hb⟩
      have HO' := own_below HO hb
      have x0 := HO'.cellAt (kk * 2) (by omega)
      have x1 := HO'.cellAt (kk * 2 + 1) (by omega)
      rw [List.getElem?_eq_getElem (by rw [HXL.out]; omega)] at x0 x1
      have y0 := HO'.frozenAt (kk * 2)
      have y1 := HO'.frozenAt (kk * 2 + 1)
      have HO2 := own_store2 HO' (kk * 2) (.slice (some ⟨g, 0, none⟩) xs[kk].cs.length xs[kk].cs.length) (.bool xs[kk].wh)
      have HS := hb.size
      clear HO hC
      go_wp2_with fail
      go_roundg (xs.length - (kk + 1))
      case measure => omega
      case rel =>
        refine ⟨kk + 1, by omega, by omega, by go_num, ⟨bset (bset (step BW hb) (Nat.le_refl _) _) (Nat.le_refl _) _, by simp; omega⟩, (show Aside _ from ⟨_, vs ++ [.slice (some ⟨g, 0, none⟩) xs[kk].cs.length xs[kk].cs.length], HO2, ?_, ?_⟩)⟩
        · have := setL_take [.slice (some ⟨g, 0, none⟩) xs[kk].cs.length xs[kk].cs.length, .bool xs[kk].wh] X (kk * 2) (by rw [HXL.out]; simp; omega)
          rw [show (kk + 1) * 2 = kk * 2 + ([.slice (some ⟨g, 0, none⟩) xs[kk].cs.length xs[kk].cs.length, .bool xs[kk].wh] : List Value).length by simp; omega, this, HXH.out, HT.out, rowCells_snoc _ _ _ _ HR.1]
        · rw [HT.out]
          refine RowsIn.snoc ?_ ?_ ?_
          · refine HR.keep fun b hb1 hb2 => ?_
            rw [heap_set _ _ _ _ (by show b ≠ w.heap.size; omega), heap_set _ _ _ _ (by show b ≠ w.heap.size; omega)]
            exact hb.block b hb2
          · exact own_setA (own_setA (own_base HI (by omega)) (by show w.heap.size < _; omega) _) (by show w.heap.size < _; omega) _
          · intro a ha k hk
            obtain ⟨i, hi, rfl⟩ := List.getElem_of_mem ha
            have h1 := (own_lt (HR.2.1 i hi (by rw [← HR.1]; exact hi)) hk).2
            have h2 := (own_lt HI (b := g) rfl).1
            intro e
            have : g = k := by simpa [Value.ownBlock] using e
            omega
    · have hltz : ¬ (kk : Int) < (xs.length : Int) := by omega
      have HL := hide (show kk = xs.length by omega)
      have HXH := hide HX
      have HXL := hide hXl
      clear hr HX hXl
      go_wp2_with fail
      go_ret
      have h1 : X = rowCells vs xs := by
        have := HXH.out
        rw [HL.out, List.take_length, ← HXL.out, List.take_length] at this
        exact this
      rw [HL.out, List.take_length] at HR
      refine ⟨w.heap.size, rfl, ⟨vs, by rw [← h1]; exact HO, ⟨HR.1, fun j a b => own_base (HR.2.1 j a b) (by omega), HR.2.2⟩, fun a ha k hk => ?_⟩, BW⟩
      obtain ⟨i, hi, rfl⟩ := List.getElem_of_mem ha
      intro e
      have := (own_lt (HR.2.1 i hi (by rw [← HR.1]; exact hi)) e).1
      have : w.heap.size = k := by simpa [Value.ownBlock] using hk
      omega

theorem OwnRows.mono {w : World} {base base' : Nat} {E F : TypeId} {v : Value} {rows : List TRow} (h : OwnRows w base E F v rows) (hb : base' ≤ base) : OwnRows w base' E F v rows := by
  obtain ⟨vs, h1, h2, h3⟩ := h
  exact ⟨vs, own_base h1 hb, ⟨h2.1, fun j a b => own_base (h2.2.1 j a b) hb, h2.2.2⟩, h3⟩
theorem OwnRows.set {w : World} {base : Nat} {E F : TypeId} {v : Value} {rows : List TRow} (h : OwnRows w base E F v rows) {p : Addr} (hp : p.block < base) (u : Value) : OwnRows (w.setCell p u) base E F v rows := by
  obtain ⟨vs, h1, h2, h3⟩ := h
  exact ⟨vs, own_setA h1 hp u, h2.keep fun b hb _ => heap_set w p u b (by omega), h3⟩

/-- A table of one's own, as a value. -/
def TblPost (t : Tbl) (w : World) (e : Ending) (w' : World) : Prop :=
  ∃ gc gr, e = .returned (.agg #[.slice (some ⟨gc, 0, none⟩) t.cols.length t.cols.length, .int .i64 t.head, .int .i64 t.foot, .slice (some ⟨gr, 0, none⟩) t.rows.length t.rows.length, .int .i64 t.gap]) ∧ w'.ownsRow w.heap.size 28 2 (.slice (some ⟨gc, 0, none⟩) t.cols.length t.cols.length) t.cols.length (t.cols.flatMap colE) ∧
    OwnRows w' w.heap.size 84 65 (.slice (some ⟨gr, 0, none⟩) t.rows.length t.rows.length) t.rows ∧ Below w.heap.size w w'

set_option maxHeartbeats 2000000 in
theorem toTable (t : Tbl) (A : Option Addr) (c : Nat) (A' : Option Addr) (c' : Nat) (w : World) (hc : Rd colR w A t.cols) (hr : Rd rowA w A' t.rows) (hb : t.cols.length ≤ 1048576) (hs : SizedR t.rows) :
    Calls Tryd.prog 12 #[.agg #[.slice A t.cols.length c, .int .i64 t.head, .int .i64 t.foot, .slice A' t.rows.length c', .int .i64 t.gap]] w (TblPost t w) := by
  have hC1 := fun (W : World) (h : Below w.heap.size w W) => toCols A c t.cols W (hc.below h) hb
  have hC2 := fun (W : World) (h : Below w.heap.size w W) => toRows A' c' t.rows W (hr.below h) hs.1 (fun r hr => (hs.2 r hr).1)
  clear hc hr hs
  go_enter Tryd.func12, Tryd.ntmps12
  go_wp2_with fail
  refine (hC1 _ (balloc (balloc (balloc (brefl _) _) _) _)).mono ?_
  rintro e w1 ⟨gc, rfl, HC, hb1⟩
  obtain ⟨c0, f0, s0⟩ := seenBk w.heap.size (by first | (simp; omega) | simp [*]) hb1
  obtain ⟨c1, f1, s1⟩ := seenBk (w.heap.size + 1) (by first | (simp; omega) | simp [*]) hb1
  obtain ⟨c2, f2, s2⟩ := seenBk (w.heap.size + 1 + 1) (by first | (simp; omega) | simp [*]) hb1
  have HB1 := step (balloc (balloc (balloc (brefl w) _) _) _) hb1
  have HC1 := own_base HC (base' := w.heap.size + 3) (by simp)
  clear HC hC1
  go_wp2_with fail
  refine (hC2 _ (bset (bset (bset HB1 (by show _ ≤ w.heap.size + 1 + 1; omega) _) (by show _ ≤ w.heap.size + 1 + 1; omega) _) (by show _ ≤ w.heap.size + 1 + 1; omega) _)).mono ?_
  rintro e w2 ⟨gr, rfl, HR, hb2⟩
  have HC2 := own_below (own_setA (own_setA (own_setA HC1 (by show w.heap.size + 1 + 1 < _; omega) _) (by show w.heap.size + 1 + 1 < _; omega) _) (by show w.heap.size + 1 + 1 < _; omega) _) hb2
  have HB2 := step (bset (bset (bset HB1 (by show _ ≤ w.heap.size + 1 + 1; omega) _) (by show _ ≤ w.heap.size + 1 + 1; omega) _) (by show _ ≤ w.heap.size + 1 + 1; omega) _) hb2
  obtain ⟨c0', f0', s0'⟩ := seenBk w.heap.size (by simp [*]) hb2
  obtain ⟨c1', f1', s1'⟩ := seenBk (w.heap.size + 1) (by simp [*]) hb2
  obtain ⟨c2', f2', s2'⟩ := seenBk (w.heap.size + 1 + 1) (by simp [*]) hb2
  have HR1 := OwnRows.mono HR (base' := w.heap.size + 3) (by simp; omega)
  clear HR HC1 hC2
  go_wp2_with fail
  refine bodyPost_ret (v := .agg #[.slice (some ⟨gc, 0, none⟩) t.cols.length t.cols.length, .int .i64 t.head, .int .i64 t.foot, .slice (some ⟨gr, 0, none⟩) t.rows.length t.rows.length, .int .i64 t.gap]) (by simp [results, Tryd.results12, go_sem, *]) rfl ⟨gc, gr, rfl, ?_, ?_, ?_⟩
  · refine own_base (base := w.heap.size + 3) ?_ (by omega)
    (repeat' (with_reducible first | exact HC2 | refine own_setA ?_ ?_ _)) <;> first | (simp; done) | (simp; omega)
  · refine OwnRows.mono (base := w.heap.size + 3) ?_ (by omega)
    (repeat' (with_reducible first | exact HR1 | refine OwnRows.set ?_ ?_ _)) <;> first | (simp; done) | (simp; omega)
  · (repeat' (with_reducible first | exact HB2 | refine bset ?_ ?_ _)) <;> first | (simp; done) | (simp; omega)
end Go.Proofs.YtfcogogpioeggaaDoor
