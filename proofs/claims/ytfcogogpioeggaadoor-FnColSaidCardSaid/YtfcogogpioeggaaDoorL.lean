import Derived.Test.YtfcogogpioeggaaDoorW
import Derived.Test.YtfcogogpioeggaaDoorA
namespace Go.Proofs.YtfcogogpioeggaaDoor
open Go.RowKit
/- The statements' own helpers: how large an argument is. -/

/-- Cells as they come in: texts of whatever size. -/
def cellA : Rep TCell := flat 11 cellE (fun _ => rfl)
def rowA : Rep TRow where
  sz := 2
  K := fun w x cs => ∃ v, cs = [v, .bool x.wh] ∧ IsSl cellA w v x.cs
  len := by rintro w x cs ⟨v, rfl, _⟩; rfl
  below := by rintro w w1 x cs hb ⟨v, rfl, h⟩; exact ⟨v, rfl, h.below hb⟩

def SzPost (left : Int) (P : Prop) (w : World) (e : Ending) (w' : World) : Prop :=
  ∃ n : Int, e = .returned (.int .i64 n) ∧ (n = -1 ∨ (0 ≤ n ∧ n ≤ left ∧ P)) ∧ Below w.heap.size w w'
def Sized (c : TCell) : Prop := c.t.size ≤ 1048576
def SizedS (cs : List TCell) : Prop := cs.length ≤ 1048576 ∧ ∀ c ∈ cs, Sized c
def SizedR (rs : List TRow) : Prop := rs.length ≤ 1048576 ∧ ∀ r ∈ rs, SizedS r.cs

theorem szCols (A : Option Addr) (c : Nat) (xs : List TCol) (left : Int) (w : World) (h0 : 0 ≤ left) (h1 : left ≤ 1048576) (hl : xs.length ≤ 9223372036854775807) :
    Calls Tryd.prog 35 #[.slice A xs.length c, .int .i64 left] w (SzPost left (xs.length ≤ 1048576) w) := by
  by_cases h : left - xs.length < 0
  · go_enter Tryd.func35, Tryd.ntmps35
    go_wp2_with fail
    go_ret
    exact ⟨_, rfl, .inl rfl, brefl _⟩
  · go_enter Tryd.func35, Tryd.ntmps35
    go_wp2_with fail
    go_ret
    exact ⟨_, rfl, .inr ⟨by omega, by omega, by omega⟩, brefl _⟩

theorem szCell (x : TCell) (left : Int) (w : World) (h0 : 0 ≤ left) (h1 : left ≤ 1048576) (hl : x.t.size ≤ 9223372036854775807) :
    Calls Tryd.prog 31 #[.agg (cellE x).toArray, .int .i64 left] w (SzPost left (Sized x) w) := by
  show Calls _ _ #[.agg #[.string x.t, .int .i64 x.c, .int .i64 x.r, .int .i64 x.top.s, .int .i64 x.top.w, .int .i64 x.right.s, .int .i64 x.right.w, .int .i64 x.bot.s, .int .i64 x.bot.w, .int .i64 x.left.s, .int .i64 x.left.w], _] _ _
  by_cases h : left - x.t.size < 0
  · go_enter Tryd.func31, Tryd.ntmps31
    go_wp2_with fail
    go_ret
    exact ⟨_, rfl, .inl rfl, balloc (brefl _) _⟩
  · go_enter Tryd.func31, Tryd.ntmps31
    go_wp2_with fail
    go_ret
    exact ⟨_, rfl, .inr ⟨by omega, by omega, by unfold Sized; omega⟩, balloc (brefl _) _⟩

set_option maxRecDepth 100000 in
set_option maxHeartbeats 1000000 in
theorem szCells (A : Option Addr) (c : Nat) (xs : List TCell) (left : Int) (w : World) (h0 : 0 ≤ left) (h1 : left ≤ 1048576) (hr : Rd cellA w A xs) (hs : ∀ x ∈ xs, x.t.size ≤ 9223372036854775807) :
    Calls Tryd.prog 105 #[.slice A xs.length c, .int .i64 left] w (SzPost left (SizedS xs) w) := by
  have hl := hr.1
  by_cases h : left - xs.length < 0
  · go_enter Tryd.func105, Tryd.ntmps105
    go_wp2_with fail
    go_ret
    exact ⟨_, rfl, .inl rfl, brefl _⟩
  · go_enter Tryd.func105, Tryd.ntmps105
    go_wp2_with fail
    go_loopg [1, 5] xs.length (fun gg s1 s5 wr => ∃ (kk : Nat) (m : Int), kk ≤ xs.length ∧ xs.length - kk ≤ gg ∧ s5 = .int .i64 kk ∧ s1 = .int .i64 m ∧ 0 ≤ m ∧ m ≤ left ∧ Aside (Below w.heap.size w wr) ∧ Aside (∀ j (h : j < xs.length), j < kk → Sized xs[j]))
    case atStart => exact ⟨0, _, Nat.zero_le _, by omega, rfl, rfl, by omega, by omega, brefl _, fun j _ hj => absurd hj (Nat.not_lt_zero _)⟩
    case round =>
      obtain ⟨kk, m, hkk, hg, rfl, rfl, hm0, hm1, BW, AA⟩ := hrel
      by_cases hlt : kk < xs.length
      · have hltz : (kk : Int) < (xs.length : Int) := by omega
        obtain ⟨b3, o3, d0, d1, d2, d3, d4, d5, d6, d7, d8, d9, d10, rfl, hblt3, hK3, f0, f1, f2, f3, f4, f5, f6, f7, f8, f9, f10⟩ := hr.at11 rfl BW.out kk hlt
        have hC := szCell xs[kk] m wr hm0 (by omega) (hs _ (List.getElem_mem hlt))
        have hK4 : [d0, d1, d2, d3, d4, d5, d6, d7, d8, d9, d10] = cellE xs[kk] := hK3
        rw [← hK4] at hC
        clear hK3 hK4 hr
        go_wp2_with fail
        refine hC.mono ?_
        rintro e w' ⟨n, rfl, hn, hb⟩
        rcases hn with rfl | ⟨n0, n1, hP⟩
        · go_wp2_with fail
          go_ret
          exact ⟨_, rfl, .inl rfl, step BW.out hb⟩
        · have HP := hide hP; clear hP
          have n2 : ¬ n < 0 := by omega
          go_wp2_with fail
          go_roundg (xs.length - (kk + 1))
          case measure => omega
          case rel =>
            refine ⟨kk + 1, n, by omega, by omega, by go_num, rfl, n0, by omega, step BW.out hb, (show Aside _ from fun j hj hjk => ?_)⟩
            by_cases e : j = kk
            · subst e; exact HP.out
            · exact AA.out j hj (by omega)
      · have hltz : ¬ (kk : Int) < (xs.length : Int) := by omega
        clear hr
        go_wp2_with fail
        go_ret
        refine ⟨_, rfl, .inr ⟨hm0, hm1, by omega, fun x hx => ?_⟩, BW.out⟩
        obtain ⟨i, hi, rfl⟩ := List.getElem_of_mem hx
        exact AA.out i hi (by omega)

theorem szRow (A : Option Addr) (c : Nat) (x : TRow) (left : Int) (w : World) (h0 : 0 ≤ left) (h1 : left ≤ 1048576) (hr : Rd cellA w A x.cs) (hs : ∀ y ∈ x.cs, y.t.size ≤ 9223372036854775807) :
    Calls Tryd.prog 74 #[.agg #[.slice A x.cs.length c, .bool x.wh], .int .i64 left] w (SzPost left (SizedS x.cs) w) := by
  have hC := fun o => szCells A c x.cs left (w.alloc o) h0 h1 (hr.below (balloc (brefl _) o)) hs
  go_enter Tryd.func74, Tryd.ntmps74
  go_wp2_with fail
  refine (hC _).mono ?_
  rintro e w' ⟨n, rfl, hn, hb⟩
  rcases hn with rfl | ⟨n0, n1, hP⟩
  · go_wp2_with fail
    go_ret
    exact ⟨_, rfl, .inl rfl, step (balloc (brefl _) _) hb⟩
  · have HP := hide hP; clear hP
    have n2 : ¬ n < 0 := by omega
    go_wp2_with fail
    go_ret
    exact ⟨_, rfl, .inr ⟨n0, n1, HP.out⟩, step (balloc (brefl _) _) hb⟩

set_option maxRecDepth 100000 in
set_option maxHeartbeats 1000000 in
theorem szRows (A : Option Addr) (c : Nat) (xs : List TRow) (left : Int) (w : World) (h0 : 0 ≤ left) (h1 : left ≤ 1048576) (hr : Rd rowA w A xs) (hs : ∀ r ∈ xs, ∀ x ∈ r.cs, x.t.size ≤ 9223372036854775807) :
    Calls Tryd.prog 36 #[.slice A xs.length c, .int .i64 left] w (SzPost left (SizedR xs) w) := by
  have hl := hr.1
  by_cases h : left - xs.length < 0
  · go_enter Tryd.func36, Tryd.ntmps36
    go_wp2_with fail
    go_ret
    exact ⟨_, rfl, .inl rfl, brefl _⟩
  · go_enter Tryd.func36, Tryd.ntmps36
    go_wp2_with fail
    go_loopg [1, 5] xs.length (fun gg s1 s5 wr => ∃ (kk : Nat) (m : Int), kk ≤ xs.length ∧ xs.length - kk ≤ gg ∧ s5 = .int .i64 kk ∧ s1 = .int .i64 m ∧ 0 ≤ m ∧ m ≤ left ∧ Aside (Below w.heap.size w wr) ∧ Aside (∀ j (h : j < xs.length), j < kk → SizedS xs[j].cs))
    case atStart => exact ⟨0, _, Nat.zero_le _, by omega, rfl, rfl, by omega, by omega, brefl _, fun j _ hj => absurd hj (Nat.not_lt_zero _)⟩
    case round =>
      obtain ⟨kk, m, hkk, hg, rfl, rfl, hm0, hm1, BW, AA⟩ := hrel
      by_cases hlt : kk < xs.length
      · have hltz : (kk : Int) < (xs.length : Int) := by omega
        obtain ⟨b3, o3, d0, d1, rfl, hblt3, ⟨v, hK, A1, n1, rfl, hl1, hr1⟩, f0, f1⟩ := hr.at2 rfl BW.out kk hlt
        simp only [List.cons.injEq, and_true] at hK
        obtain ⟨rfl, rfl⟩ := hK
        have hC := szRow A1 n1 xs[kk] m wr hm0 (by omega) hr1 (hs _ (List.getElem_mem hlt))
        clear hr hr1
        go_wp2_with fail
        refine hC.mono ?_
        rintro e w' ⟨n, rfl, hn, hb⟩
        rcases hn with rfl | ⟨n0, n1, hP⟩
        · go_wp2_with fail
          go_ret
          exact ⟨_, rfl, .inl rfl, step BW.out hb⟩
        · have HP := hide hP; clear hP
          have n2 : ¬ n < 0 := by omega
          go_wp2_with fail
          go_roundg (xs.length - (kk + 1))
          case measure => omega
          case rel =>
            refine ⟨kk + 1, n, by omega, by omega, by go_num, rfl, n0, by omega, step BW.out hb, (show Aside _ from fun j hj hjk => ?_)⟩
            by_cases e : j = kk
            · subst e; exact HP.out
            · exact AA.out j hj (by omega)
      · have hltz : ¬ (kk : Int) < (xs.length : Int) := by omega
        clear hr
        go_wp2_with fail
        go_ret
        refine ⟨_, rfl, .inr ⟨hm0, hm1, by omega, fun x hx => ?_⟩, BW.out⟩
        obtain ⟨i, hi, rfl⟩ := List.getElem_of_mem hx
        exact AA.out i hi (by omega)

set_option maxHeartbeats 1000000 in
theorem szTable (t : Tbl) (A : Option Addr) (c : Nat) (A' : Option Addr) (c' : Nat) (left : Int) (w : World) (h0 : 0 ≤ left) (h1 : left ≤ 1048576) (hl : t.cols.length ≤ 9223372036854775807) (hr : Rd rowA w A' t.rows) (hs : ∀ r ∈ t.rows, ∀ x ∈ r.cs, x.t.size ≤ 9223372036854775807) :
    Calls Tryd.prog 10 #[.agg #[.slice A t.cols.length c, .int .i64 t.head, .int .i64 t.foot, .slice A' t.rows.length c', .int .i64 t.gap], .int .i64 left] w (SzPost left (t.cols.length ≤ 1048576 ∧ SizedR t.rows) w) := by
  have hC1 := fun W => szCols A c t.cols left W h0 h1 hl
  have hC2 := fun (W : World) (hb : Below w.heap.size w W) (m : Int) (hm0 : 0 ≤ m) (hm1 : m ≤ 1048576) => szRows A' c' t.rows m W hm0 hm1 (hr.below hb) hs
  clear hr hs
  go_enter Tryd.func10, Tryd.ntmps10
  go_wp2_with fail
  refine (hC1 _).mono ?_
  rintro e w' ⟨n, rfl, hn, hb⟩
  rcases hn with rfl | ⟨n0, n1, hPc⟩
  · go_wp2_with fail
    go_ret
    exact ⟨_, rfl, .inl rfl, step (balloc (brefl _) _) hb⟩
  · have n2 : ¬ n < 0 := by omega
    have HB := step (balloc (brefl _) _) hb
    obtain ⟨H, hc, hf, hz, hn, h0⟩ := seenS (brefl _) hb
    have hC3 := hC2 _ HB n n0 (by omega)
    clear hC1 hC2
    go_wp2_with fail
    refine hC3.mono ?_
    rintro e w2 ⟨m, rfl, hm, hb2⟩
    rcases hm with rfl | ⟨m0, m1, hP⟩
    · go_wp2_with fail
      go_ret
      exact ⟨_, rfl, .inl rfl, step HB hb2⟩
    · have n2 : ¬ m < 0 := by omega
      have HP := hide hP; clear hP
      go_wp2_with fail
      go_ret
      exact ⟨_, rfl, .inr ⟨m0, by omega, hPc, HP.out⟩, step HB hb2⟩
end Go.Proofs.YtfcogogpioeggaaDoor
