import Derived.Test.YtfcogogpioeggaaDoorG
namespace Go.Proofs.YtfcogogpioeggaaDoor
open Go.RowKit
/- The grid: method values, the free place, the end of a part. -/
def Pred1 {α : Type} (P : Program) (g : Nat) (v : Value) (d : Rep α) (p : α → Bool) (w : World) : Prop :=
  ∀ (W : World) (x : α) (cs : List Value), Below w.heap.size w W → d.K W x cs → Calls P g #[v, agg cs] W fun e w' => e = .returned (.bool (p x)) ∧ Below W.heap.size W w'
variable {α : Type}
set_option maxHeartbeats 2000000 in
theorem idx1_GrdCell (d : Rep α) (hsz : d.sz = 5) (p : α → Bool) (g : Nat) (v : Value) (eg : ∀ args w, (callFunc g args).run Tryd.prog w = .ok (.enter g args) w) (A : Option Addr) (c : Nat) (xs : List α) (w : World)
    (hp : Pred1 Tryd.prog g v d p w) (hr : Rd d w A xs) :
    Calls Tryd.prog 93 #[.slice A xs.length c, .func (.func g) #[v] #[]] w fun e w' => e = .returned (.int .i64 (idxZ p xs)) ∧ Below w.heap.size w w' := by
  have hl := hr.1
  go_enter Tryd.func93, Tryd.ntmps93
  go_wp2
  go_loopg [5, 8] xs.length (fun gg _ s8 wr => ∃ kk : Nat, kk ≤ xs.length ∧ xs.length - kk ≤ gg ∧ s8 = .int .i64 kk ∧ Aside (Below w.heap.size w wr) ∧ Aside (∀ j (h : j < xs.length), j < kk → p xs[j] = false))
  case atStart => exact ⟨0, Nat.zero_le _, by omega, rfl, Below.refl _ w, fun j _ hj => absurd hj (Nat.not_lt_zero _)⟩
  case round =>
    obtain ⟨kk, hkk, hg, rfl, BW, AA⟩ := hrel
    by_cases hlt : kk < xs.length
    · have hltz : (kk : Int) < (xs.length : Int) := by omega
      obtain ⟨b, o, c0, c1, c2, c3, c4, rfl, hblt, hK, h0, h1, h2, h3, h4⟩ := hr.at5 hsz BW.out kk hlt
      have hcall := hp wr _ _ BW.out hK
      clear hp hr
      cases hq : p xs[kk] with
      | true =>
        rw [hq] at hcall
        have Hq := hide hq; clear hq
        go_wp2_with (go_at_fn g; refine hcall.mono ?_; rintro e w' ⟨rfl, hb'⟩)
        go_ret
        exact ⟨by rw [idxZ_hit p xs kk hlt Hq.out AA.out]; rfl, step BW.out hb'⟩
      | false =>
        rw [hq] at hcall
        have Hq := hide hq; clear hq
        go_wp2_with (go_at_fn g; refine hcall.mono ?_; rintro e w' ⟨rfl, hb'⟩)
        go_roundg (xs.length - (kk + 1))
        case measure => omega
        case rel =>
          refine ⟨kk + 1, by omega, by omega, by go_num, step BW.out hb', (show Aside _ from fun j hj hjk => ?_)⟩
          by_cases e : j = kk
          · subst e; exact Hq.out
          · exact AA.out j hj (by omega)
    · have hltz : ¬ (kk : Int) < (xs.length : Int) := by omega
      have hkl : kk = xs.length := by omega
      have HK := hide hkl; clear hkl
      go_wp2
      go_ret
      exact ⟨by rw [idxZ_miss p xs (fun j h _ => AA.out j h (by have := HK.out; omega))]; rfl, BW.out⟩
theorem any1_GrdCell (d : Rep α) (hsz : d.sz = 5) (p : α → Bool) (g : Nat) (v : Value) (eg : ∀ args w, (callFunc g args).run Tryd.prog w = .ok (.enter g args) w) (A : Option Addr) (c : Nat) (xs : List α) (w : World)
    (hp : Pred1 Tryd.prog g v d p w) (hr : Rd d w A xs) :
    Calls Tryd.prog 53 #[.slice A xs.length c, .func (.func g) #[v] #[]] w fun e w' => e = .returned (.bool (xs.any p)) ∧ Below w.heap.size w w' := by
  rw [← idxZ_any p xs]
  go_enter Tryd.func53, Tryd.ntmps53
  go_wp2_with (go_at_call 93; refine (idx1_GrdCell d hsz p g v eg A c xs w hp hr).mono ?_; rintro e w' ⟨rfl, hb'⟩)
  go_ret
  exact ⟨rfl, hb'⟩

theorem impl_meets1 (a : GCell) (w : World) (ha : GSm a) : Pred1 Tryd.prog 54 (.agg #[.int .i64 a.row, .int .i64 a.col, .int .i64 a.rows, .int .i64 a.cols, .int .i64 a.inn]) gcR (meets a) w := by
  rintro W x cs _ ⟨rfl, hx⟩
  exact impl_meets a x W ha hx

set_option maxHeartbeats 1000000 in
theorem spec_end (t : Tbl) (A : Option Addr) (c : Nat) (A' : Option Addr) (c' : Nat) (r : Int) (w : World) (hl : t.rows.length ≤ 1000000) (hf : SmZ t.foot) :
    Calls Tryd.prog 89 #[.agg #[.slice A t.cols.length c, .int .i64 t.head, .int .i64 t.foot, .slice A' t.rows.length c', .int .i64 t.gap], .int .i64 r] w fun e w' => e = .returned (.int .i64 (endOf t r)) ∧ Below w.heap.size w w' := by
  have hP := fun (W : World) => spec_part t A c A' c' r W hl hf
  obtain ⟨f1, f2⟩ := hf
  unfold partOf at hP
  unfold endOf
  go_enter Tryd.func89, Tryd.ntmps89
  by_cases h1 : r < t.head
  · rw [if_pos h1]
    simp only [if_pos h1] at hP
    go_wp2_with fail
    refine (hP _).mono ?_
    rintro e w1 ⟨rfl, hb⟩
    obtain ⟨c0, f0, s0⟩ := seenBk w.heap.size (by first | (simp; omega) | simp [*]) hb
    go_wp2_with fail
    go_ret
    exact ⟨rfl, step (balloc (brefl _) _) hb⟩
  · rw [if_neg h1]
    simp only [if_neg h1] at hP
    by_cases h2 : (t.rows.length : Int) - t.foot ≤ r
    · rw [if_pos h2]
      simp only [if_pos h2] at hP
      go_wp2_with fail
      refine (hP _).mono ?_
      rintro e w1 ⟨rfl, hb⟩
      obtain ⟨c0, f0, s0⟩ := seenBk w.heap.size (by first | (simp; omega) | simp [*]) hb
      go_wp2_with fail
      go_ret
      exact ⟨rfl, step (balloc (brefl _) _) hb⟩
    · rw [if_neg h2]
      simp only [if_neg h2] at hP
      go_wp2_with fail
      refine (hP _).mono ?_
      rintro e w1 ⟨rfl, hb⟩
      obtain ⟨c0, f0, s0⟩ := seenBk w.heap.size (by first | (simp; omega) | simp [*]) hb
      go_wp2_with fail
      go_ret
      exact ⟨rfl, step (balloc (brefl _) _) hb⟩

theorem any_take_hit {L : List GCell} {p : GCell → Bool} {k : Nat} (h : k < L.length) (hp : p L[k] = true) : L.any p = true := List.any_eq_true.2 ⟨_, List.getElem_mem h, hp⟩
theorem any_none {L : List GCell} {p : GCell → Bool} (h : ∀ j (hj : j < L.length), p L[j] = false) : L.any p = false := by
  rw [Bool.eq_false_iff]
  intro hn
  obtain ⟨x, hx, hp⟩ := List.any_eq_true.1 hn
  obtain ⟨j, hj, rfl⟩ := List.mem_iff_getElem.1 hx
  rw [h j hj] at hp; cases hp

set_option maxRecDepth 100000 in
set_option maxHeartbeats 2000000 in
theorem spec_free (L : List GCell) (A : Option Addr) (c : Nat) (a : GCell) (w : World) (hr : Rd gcR w A L) (ha : GSm a) :
    Calls Tryd.prog 90 #[.slice A L.length c, .agg #[.int .i64 a.row, .int .i64 a.col, .int .i64 a.rows, .int .i64 a.cols, .int .i64 a.inn]] w fun e w' => e = .returned (.bool (!L.any (meets a))) ∧ Below w.heap.size w w' := by
  have hl := hr.1
  go_enter Tryd.func90, Tryd.ntmps90
  go_wp2
  go_loopg [5] L.length (fun gg s5 wr => ∃ kk : Nat, kk ≤ L.length ∧ L.length - kk ≤ gg ∧ s5 = .int .i64 kk ∧ Aside (Below w.heap.size w wr) ∧ Aside (∀ j (h : j < L.length), j < kk → meets a L[j] = false) ∧
    wr.cell? ⟨w.heap.size, 0, none⟩ = some (.int .i64 a.row) ∧ wr.cell? ⟨w.heap.size, 1, none⟩ = some (.int .i64 a.col) ∧ wr.cell? ⟨w.heap.size, 2, none⟩ = some (.int .i64 a.rows) ∧ wr.cell? ⟨w.heap.size, 3, none⟩ = some (.int .i64 a.cols) ∧ wr.cell? ⟨w.heap.size, 4, none⟩ = some (.int .i64 a.inn) ∧ w.heap.size < wr.heap.size)
  case atStart => exact ⟨0, Nat.zero_le _, by omega, rfl, balloc (brefl w) _, fun j _ hj => absurd hj (Nat.not_lt_zero _), by simp, by simp, by simp, by simp, by simp, by simp⟩
  case round =>
    obtain ⟨kk, hkk, hg, rfl, BW, AA, g0, g1, g2, g3, g4, gl⟩ := hrel
    by_cases hlt : kk < L.length
    · have hltz : (kk : Int) < (L.length : Int) := by omega
      obtain ⟨b, o, c0, c1, c2, c3, c4, rfl, hblt, hK, h0, h1, h2, h3, h4⟩ := hr.at5 rfl BW.out kk hlt
      obtain ⟨hK1, hK2⟩ := hK
      have hcall := fun (W : World) => spec_meets L[kk] a W hK2 ha
      simp only [gcE, List.cons.injEq, and_true] at hK1
      obtain ⟨rfl, rfl, rfl, rfl, rfl⟩ := hK1
      rw [meets_comm] at hcall
      clear hr
      cases hq : meets a L[kk] with
      | true =>
        rw [hq] at hcall
        have Hq := hide hq; clear hq
        go_wp2_with fail
        go_still_tail 5, (by kernel_rfl)
        go_wp2_with fail
        refine (hcall _).mono ?_
        rintro e w' ⟨rfl, hb'⟩
        go_wp2_with fail
        go_ret
        exact ⟨by rw [any_take_hit hlt Hq.out]; rfl, step (bdrew BW.out) hb'⟩
      | false =>
        rw [hq] at hcall
        have Hq := hide hq; clear hq
        go_wp2_with fail
        go_still_tail 5, (by kernel_rfl)
        go_wp2_with fail
        refine (hcall _).mono ?_
        rintro e w' ⟨rfl, hb'⟩
        obtain ⟨k0, l0, s0⟩ := seenBk w.heap.size (by simpa using gl) hb'
        go_wp2_with fail
        go_roundg (L.length - (kk + 1))
        case measure => omega
        case rel =>
          refine ⟨kk + 1, by omega, by omega, by go_num, step (bdrew BW.out) hb', (show Aside _ from fun j hj hjk => ?_), by simp [*], by simp [*], by simp [*], by simp [*], by simp [*], s0⟩
          by_cases e : j = kk
          · subst e; exact Hq.out
          · exact AA.out j hj (by omega)
    · have hltz : ¬ (kk : Int) < (L.length : Int) := by omega
      have hkl : kk = L.length := by omega
      have HK := hide hkl; clear hkl
      go_wp2
      go_ret
      exact ⟨by rw [any_none (fun j h => AA.out j h (by have := HK.out; omega))]; rfl, BW.out⟩
end Go.Proofs.YtfcogogpioeggaaDoor
