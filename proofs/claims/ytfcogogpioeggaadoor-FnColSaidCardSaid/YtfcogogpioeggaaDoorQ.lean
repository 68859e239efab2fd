import Derived.Test.YtfcogogpioeggaaDoorL
import Derived.Deep.Slices
import Derived.ChangeSame
import Derived.Below
import Derived.Shelf.Vars
namespace Go.Proofs.YtfcogogpioeggaaDoor
open Go.RowKit Go.WideShapes Go.ChangeShapes
/- What a statement's reading of its arguments gives: tables as plain data. -/
section
variable {H : Type} {enc : TypeId × Value → H} {w : World} {base : Nat} {spare : Nat → Bool} {held : Bool} {fuel : Nat}

theorem at_plain {w : World} {a : Addr} {v : Value} (h : w.cell? a = some v) : a.spot = none := by
  simp only [World.cell?] at h
  split at h
  · split at h
    · cases h
    · rename_i h1; simpa using h1
  · cases h
theorem add_plain (b o i : Nat) : (⟨b, o, none⟩ : Addr).add i = ⟨b, o + i, none⟩ := by
  unfold Addr.add; split <;> simp_all

/-- A slice that is read whole is the plain data its elements are. -/
theorem rd_slice {P : Program} {α : Type} {t e : TypeId} {v : Value} {x : DataW H × List MemPlace} (d : Rep α) (ht : P.underlying t = some (.slice e)) (hc : P.cellsOf e = d.sz) (h0 : 0 < d.sz)
    (hel : ∀ n cs y, cs.length = d.sz → DataW.trod enc P w base spare held n e cs = some y → ∃ a, d.K w a cs)
    (h : DataW.trod enc P w base spare held fuel t [v] = some x) : ∃ xs, IsSl d w v xs := by
  rcases Deep.open_slice ht h with ⟨e1, _⟩ | ⟨a, len, cap, m, n, D, Pl, e1, hb, hl, hm, hmm, rfl, hx⟩
  · obtain rfl := List.singleton_inj.1 e1
    exact ⟨[], none, 0, rfl, by simp, Rd.nil d w none⟩
  · obtain rfl := List.singleton_inj.1 e1
    have hlen : len ≤ m := by rw [hmm]; split <;> omega
    have hk : ∀ i, i < len → ∃ a', ∃ cs, w.cells? base (a.add (i * d.sz)) d.sz = some cs ∧ d.K w a' cs := by
      intro i hi
      obtain ⟨cs, h1, h2⟩ := hx i (by omega)
      rw [hc] at h1
      obtain ⟨_, h3, _⟩ := World.cells?_some h1
      obtain ⟨a', h4⟩ := hel n cs _ h3 h2
      exact ⟨a', cs, h1, h4⟩
    rcases Nat.eq_zero_or_pos len with rfl | hp
    · exact ⟨[], some a, cap, rfl, by simp, Rd.nil d w _⟩
    · obtain ⟨a0, _⟩ := hk 0 hp
      haveI : Inhabited α := ⟨a0⟩
      obtain ⟨f, hf⟩ := Deep.choose_lt hk
      obtain ⟨b, o, s⟩ := a
      have hs : s = none := by
        obtain ⟨cs, h1, h2⟩ := hf 0 hp
        obtain ⟨_, h3, h4⟩ := World.cells?_some h1
        have h5 := h4 0 h0
        obtain ⟨u, hu⟩ : ∃ u, cs[0]? = some u := ⟨cs[0], List.getElem?_eq_getElem (by omega)⟩
        rw [hu] at h5
        have h6 := at_plain h5
        simpa [Addr.add] using h6
      subst hs
      refine ⟨(List.range len).map f, some ⟨b, o, none⟩, cap, by simp, by simpa using hl, ?_, fun _ => ⟨b, o, rfl, ?_, ?_⟩⟩
      · simp only [List.length_map, List.length_range]; have : maxLen ≤ 9223372036854775807 := by decide
        omega
      · obtain ⟨cs, h1, h2⟩ := hf 0 hp
        obtain ⟨_, h3, h4⟩ := World.cells?_some h1
        have h5 := h4 0 h0
        obtain ⟨u, hu⟩ : ∃ u, cs[0]? = some u := ⟨cs[0], List.getElem?_eq_getElem (by omega)⟩
        rw [hu] at h5
        have := World.block_lt_of_cell? w _ h5
        simpa [Addr.add] using this
      · intro j hj
        have hj' : j < len := by simpa using hj
        obtain ⟨cs, h1, h2⟩ := hf j hj'
        obtain ⟨_, h3, h4⟩ := World.cells?_some h1
        refine ⟨cs, by simpa using h2, ?_⟩
        intro i u hu
        have hi : i < d.sz := by rw [← h3]; exact (List.getElem?_eq_some_iff.1 hu).1
        have h5 := h4 i hi
        rw [Deep.add_add, hu] at h5
        rw [add_plain, ← Nat.add_assoc] at h5
        exact h5

theorem get_at {P : Program} {t : TypeId} {cs : List Value} {fs : Array Field} {x : DataW H × List MemPlace} (ht : P.underlying t = some (.struct fs)) (h : DataW.trod enc P w base spare held fuel t cs = some x) :
    ∃ n, ∀ (i : Nat) (f : Field), fs[i]? = some f → ∃ y, DataW.trod enc P w base spare held n f.type ((cs.drop f.offset).take (P.cellsOf f.type)) = some y := by
  obtain ⟨xs, n, _, _, _, hl, hf⟩ := DataW.trod_struct ht h
  refine ⟨n, fun i f hi => ?_⟩
  have h1 := hf i f hi
  have hi' : i < xs.length := by rw [hl]; exact (Array.getElem?_eq_some_iff.1 hi).1
  rw [List.getElem?_eq_getElem hi'] at h1
  exact ⟨_, h1⟩

theorem one_int {P : Program} {t : TypeId} {v : Value} {x : DataW H × List MemPlace} (ht : P.underlying t = some (.int .i64)) (h : DataW.trod enc P w base spare held fuel t [v] = some x) :
    ∃ n : Int, v = .int .i64 n ∧ -9223372036854775808 ≤ n ∧ n ≤ 9223372036854775807 := by
  obtain ⟨n, e, _, hw⟩ := DataW.trod_int ht h
  refine ⟨n, List.singleton_inj.1 e, ?_⟩
  have h1 : IntKind.i64.min = -9223372036854775808 := by decide
  simpa [Lit.wf, h1] using hw
theorem int_of_wf {n : Int} (hw : (Lit.int .i64 n).wf = true) : -9223372036854775808 ≤ n ∧ n ≤ 9223372036854775807 := by
  have h1 : IntKind.i64.min = -9223372036854775808 := by decide
  simpa [Lit.wf, h1] using hw
theorem one_bool {P : Program} {t : TypeId} {v : Value} {x : DataW H × List MemPlace} (ht : P.underlying t = some .bool) (h : DataW.trod enc P w base spare held fuel t [v] = some x) : ∃ b, v = .bool b := by
  obtain ⟨b, e, _⟩ := DataW.trod_bool ht h
  exact ⟨b, List.singleton_inj.1 e⟩
theorem one_string {P : Program} {t : TypeId} {v : Value} {x : DataW H × List MemPlace} (ht : P.underlying t = some .string) (h : DataW.trod enc P w base spare held fuel t [v] = some x) : ∃ s : ByteArray, v = .string s ∧ s.size ≤ 9223372036854775807 := by
  obtain ⟨s, e, _, hs⟩ := DataW.trod_string ht h
  exact ⟨s, List.singleton_inj.1 e, Nat.le_trans hs (by decide)⟩

set_option maxRecDepth 100000 in
theorem open_col {cs : List Value} {x : DataW H × List MemPlace} (hl : cs.length = 2) (h : DataW.trod enc Tryd.prog w base spare held fuel 111 cs = some x) : ∃ c : TCol, cs = colE c := by
  obtain ⟨n, hf⟩ := get_at Tryd.underlying111 h
  match cs, hl with
  | [a, b], _ =>
    obtain ⟨y0, h0⟩ := hf 0 _ rfl
    obtain ⟨y1, h1⟩ := hf 1 _ rfl
    obtain ⟨k, rfl, _⟩ := one_int Tryd.underlying3 h0
    obtain ⟨m, rfl, _⟩ := one_int Tryd.underlying3 h1
    exact ⟨⟨k, m⟩, rfl⟩
set_option maxRecDepth 100000 in
theorem open_brd {cs : List Value} {x : DataW H × List MemPlace} (hl : cs.length = 2) (h : DataW.trod enc Tryd.prog w base spare held fuel 58 cs = some x) : ∃ c : Brd, cs = brdE c := by
  obtain ⟨n, hf⟩ := get_at Tryd.underlying58 h
  match cs, hl with
  | [a, b], _ =>
    obtain ⟨y0, h0⟩ := hf 0 _ rfl
    obtain ⟨y1, h1⟩ := hf 1 _ rfl
    obtain ⟨k, rfl, _⟩ := one_int Tryd.underlying3 h0
    obtain ⟨m, rfl, _⟩ := one_int Tryd.underlying3 h1
    exact ⟨⟨k, m⟩, rfl⟩

set_option maxRecDepth 100000 in
theorem open_cell {cs : List Value} {x : DataW H × List MemPlace} (hl : cs.length = 11) (h : DataW.trod enc Tryd.prog w base spare held fuel 60 cs = some x) : ∃ c : TCell, cs = cellE c ∧ c.t.size ≤ 9223372036854775807 := by
  obtain ⟨n, hf⟩ := get_at Tryd.underlying60 h
  match cs, hl with
  | [a0, a1, a2, a3, a4, a5, a6, a7, a8, a9, a10], _ =>
    obtain ⟨y0, h0⟩ := hf 0 _ rfl
    obtain ⟨y1, h1⟩ := hf 1 _ rfl
    obtain ⟨y2, h2⟩ := hf 2 _ rfl
    obtain ⟨y3, h3⟩ := hf 3 _ rfl
    obtain ⟨y4, h4⟩ := hf 4 _ rfl
    obtain ⟨y5, h5⟩ := hf 5 _ rfl
    obtain ⟨y6, h6⟩ := hf 6 _ rfl
    obtain ⟨t, rfl, ht⟩ := one_string Tryd.underlying9 h0
    obtain ⟨c, rfl, _⟩ := one_int Tryd.underlying3 h1
    obtain ⟨r, rfl, _⟩ := one_int Tryd.underlying3 h2
    obtain ⟨⟨p, q⟩, e3⟩ := open_brd (cs := [a3, a4]) rfl h3
    obtain ⟨⟨p', q'⟩, e4⟩ := open_brd (cs := [a5, a6]) rfl h4
    obtain ⟨⟨p1, q1⟩, e5⟩ := open_brd (cs := [a7, a8]) rfl h5
    obtain ⟨⟨p2, q2⟩, e6⟩ := open_brd (cs := [a9, a10]) rfl h6
    simp only [brdE, List.cons.injEq, and_true] at e3 e4 e5 e6
    obtain ⟨rfl, rfl⟩ := e3
    obtain ⟨rfl, rfl⟩ := e4
    obtain ⟨rfl, rfl⟩ := e5
    obtain ⟨rfl, rfl⟩ := e6
    exact ⟨⟨t, c, r, ⟨p, q⟩, ⟨p', q'⟩, ⟨p1, q1⟩, ⟨p2, q2⟩⟩, rfl, ht⟩
/-- As 'cellA', its texts no longer than a text can be. -/
def cellL : Rep TCell where
  sz := 11
  K := fun _ x cs => cs = cellE x ∧ x.t.size ≤ 9223372036854775807
  len := by rintro w x cs ⟨rfl, _⟩; rfl
  below := fun _ h => h
def rowL : Rep TRow where
  sz := 2
  K := fun w x cs => ∃ v, cs = [v, .bool x.wh] ∧ IsSl cellA w v x.cs ∧ ∀ c ∈ x.cs, c.t.size ≤ 9223372036854775807
  len := by rintro w x cs ⟨v, rfl, _⟩; rfl
  below := by rintro w w1 x cs hb ⟨v, rfl, h, hs⟩; exact ⟨v, rfl, h.below hb, hs⟩
theorem rd_mono {α : Type} {d d' : Rep α} {w : World} {A : Option Addr} {xs : List α} (hz : d'.sz = d.sz) (hk : ∀ x ∈ xs, ∀ cs, d.K w x cs → d'.K w x cs) (h : Rd d w A xs) : Rd d' w A xs :=
  ⟨h.1, fun hn => by
    obtain ⟨b, o, e, hlt, hc⟩ := h.2 hn
    refine ⟨b, o, e, hlt, fun j hj => ?_⟩
    obtain ⟨cs, hK, hcell⟩ := hc j hj
    rw [hz]
    exact ⟨cs, hk _ (List.getElem_mem hj) cs hK, hcell⟩⟩
theorem rd_all {α : Type} {d : Rep α} {w : World} {A : Option Addr} {xs : List α} {p : α → Prop} (hk : ∀ x cs, d.K w x cs → p x) (h : Rd d w A xs) : ∀ x ∈ xs, p x := by
  intro x hx
  obtain ⟨j, hj, rfl⟩ := List.mem_iff_getElem.1 hx
  obtain ⟨b, o, e, hlt, hc⟩ := h.2 (by rintro rfl; simp at hj)
  obtain ⟨cs, hK, _⟩ := hc j hj
  exact hk _ cs hK
set_option maxRecDepth 100000 in
theorem open_row {cs : List Value} {x : DataW H × List MemPlace} (hl : cs.length = 2) (h : DataW.trod enc Tryd.prog w base spare held fuel 109 cs = some x) : ∃ r : TRow, rowL.K w r cs := by
  obtain ⟨n, hf⟩ := get_at Tryd.underlying109 h
  match cs, hl with
  | [a, b], _ =>
    obtain ⟨y0, h0⟩ := hf 0 _ rfl
    obtain ⟨y1, h1⟩ := hf 1 _ rfl
    obtain ⟨xs, A, c, e, hx, hr⟩ := rd_slice (v := a) cellL Tryd.underlying107 (by kernel_rfl) (by decide) (fun n cs y hl h => open_cell hl h) h0
    obtain ⟨m, rfl⟩ := one_bool Tryd.underlying4 h1
    exact ⟨⟨xs, m⟩, a, rfl, ⟨A, c, e, hx, rd_mono (d := cellL) (d' := cellA) rfl (fun _ _ _ h => h.1) hr⟩, rd_all (d := cellL) (p := fun c : TCell => c.t.size ≤ 9223372036854775807) (fun _ _ h => h.2) hr⟩
set_option maxRecDepth 100000 in
theorem open_table {cs : List Value} {x : DataW H × List MemPlace} (hl : cs.length = 5) (h : DataW.trod enc Tryd.prog w base spare held fuel 25 cs = some x) :
    ∃ (t : Tbl) (A : Option Addr) (c : Nat) (A' : Option Addr) (c' : Nat), cs = [.slice A t.cols.length c, .int .i64 t.head, .int .i64 t.foot, .slice A' t.rows.length c', .int .i64 t.gap] ∧ Rd colR w A t.cols ∧ Rd rowA w A' t.rows ∧
      ∀ r ∈ t.rows, ∀ x ∈ r.cs, x.t.size ≤ 9223372036854775807 := by
  obtain ⟨n, hf⟩ := get_at Tryd.underlying25 h
  match cs, hl with
  | [a0, a1, a2, a3, a4], _ =>
    obtain ⟨y0, h0⟩ := hf 0 _ rfl
    obtain ⟨y1, h1⟩ := hf 1 _ rfl
    obtain ⟨y2, h2⟩ := hf 2 _ rfl
    obtain ⟨y3, h3⟩ := hf 3 _ rfl
    obtain ⟨y4, h4⟩ := hf 4 _ rfl
    obtain ⟨xs, A, c, rfl, hx, hr⟩ := rd_slice (v := a0) colR Tryd.underlying22 (by kernel_rfl) (by decide) (fun n cs y hl h => open_col hl h) h0
    obtain ⟨p, rfl, _⟩ := one_int Tryd.underlying3 h1
    obtain ⟨q, rfl, _⟩ := one_int Tryd.underlying3 h2
    obtain ⟨ys, A', c', rfl, hy, hs⟩ := rd_slice (v := a3) rowL Tryd.underlying23 (by kernel_rfl) (by decide) (fun n cs y hl h => open_row hl h) h3
    obtain ⟨g, rfl, _⟩ := one_int Tryd.underlying3 h4
    exact ⟨⟨xs, p, q, ys, g⟩, A, c, A', c', rfl, hr, rd_mono (d := rowL) (d' := rowA) rfl (fun _ _ _ h => let ⟨v, e, k, _⟩ := h; ⟨v, e, k⟩) hs, rd_all (d := rowL) (p := fun r : TRow => ∀ x ∈ r.cs, x.t.size ≤ 9223372036854775807) (fun _ _ h => let ⟨v, e, k, j⟩ := h; j) hs⟩
end
end Go.Proofs.YtfcogogpioeggaaDoor
