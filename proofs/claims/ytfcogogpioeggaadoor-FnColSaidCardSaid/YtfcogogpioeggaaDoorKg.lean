import Derived.Test.YtfcogogpioeggaaDoorKf
namespace Go.Proofs.YtfcogogpioeggaaDoor
open Go.RowKit
/- The statements' own helpers: what was marked is found again: rows and tables. -/
set_option maxRecDepth 100000 in
set_option maxHeartbeats 2000000 in
theorem heldRows (A : Option Addr) (c k : Nat) (rows : List TRow) (w : World) (hr : Rd rowR w A (markR rows k)) (hn : rows.length ≤ 1048576) (hs : ∀ r ∈ rows, r.cs.length ≤ 1048576) (hk : k ≤ 1000000000) :
    Calls Tryd.prog 63 #[.slice A rows.length c, .int .i64 k] w fun e w' => e = .returned (.int .i64 (endR rows k : Nat)) ∧ Below w.heap.size w w' := by
  have hml := markR_length rows k
  have hs1 : Hid (∀ r ∈ rows, r.cs.length ≤ 1048576) := hs
  clear hs
  go_enter Tryd.func63, Tryd.ntmps63
  go_wp2_with fail
  go_loopg [1, 5] rows.length (fun gg s1 s5 wr => ∃ kk m : Nat, kk ≤ rows.length ∧ rows.length - kk ≤ gg ∧ s5 = .int .i64 kk ∧ s1 = .int .i64 m ∧ Aside (m = endR (rows.take kk) k) ∧ Aside (Below w.heap.size w wr))
  case atStart => exact ⟨0, k, Nat.zero_le _, by omega, rfl, rfl, (show k = endR (rows.take 0) k from rfl), brefl _⟩
  case round =>
    obtain ⟨kk, m, hkk, hg, rfl, rfl, HM, BW⟩ := hrel
    by_cases hlt : kk < rows.length
    · have hltz : (kk : Int) < (rows.length : Int) := by omega
      have hm : m ≤ 100000000000000 := by
        have h1 := endR_le rows k hs1.out kk hkk
        have := HM.out
        have : kk * 11534337 ≤ 1048576 * 11534337 := Nat.mul_le_mul_right _ (by omega)
        omega
      have hlen : rows[kk].cs.length ≤ 1048576 := hs1.out _ (List.getElem_mem hlt)
      obtain ⟨b, o, c0, c1, rfl, hblt, ⟨v, hK, A1, n1, rfl, hl1, hr1⟩, e0, e1⟩ := hr.at2 rfl BW.out kk (by omega)
      simp only [List.cons.injEq, and_true] at hK
      obtain ⟨rfl, rfl⟩ := hK
      have hgt := markR_get rows k kk hlt (by omega)
      rw [← HM.out] at hgt
      rw [hgt] at e0 e1 hr1
      dsimp only at e0 e1 hr1
      rw [markL_length] at e0
      have hC := heldCells A1 n1 rows[kk].cs.length m wr hr1 hlen (by omega)
      have HE := hide (endR_succ rows k kk hlt)
      have hwe := whole_eq m rows[kk].cs.length
      clear hr hr1 hgt
      go_wp2_with fail
      refine hC.mono ?_
      rintro e w' ⟨rfl, hb⟩
      have e1 := keepW hb e1
      have hpos : ¬ ((m : Int) + 11 * (rows[kk].cs.length : Int)) < 0 := by omega
      clear hC e0
      go_wp2_with fail
      go_roundg (rows.length - (kk + 1))
      case measure => omega
      case rel =>
        exact ⟨kk + 1, m + 11 * rows[kk].cs.length + 1, by omega, by omega, by go_num, by go_num, (show _ = endR (rows.take (kk + 1)) k from by rw [HE.out, ← HM.out]), step BW.out hb⟩
    · have hltz : ¬ (kk : Int) < (rows.length : Int) := by omega
      have HL := hide (show kk = rows.length by omega)
      clear hr
      go_wp2_with fail
      go_ret
      exact ⟨by rw [HM.out, HL.out, List.take_length]; rfl, BW.out⟩
set_option maxRecDepth 100000 in
set_option maxHeartbeats 1000000 in
theorem heldTable (t : Tbl) (k : Nat) (A A' : Option Addr) (c c' : Nat) (w : World) (hc : Rd colR w A (markT t k).cols) (hr : Rd rowR w A' (markT t k).rows) (hs : SmallT t) (hk : k ≤ 1000) :
    Calls Tryd.prog 26 #[.agg #[.slice A t.cols.length c, .int .i64 t.head, .int .i64 t.foot, .slice A' t.rows.length c', .int .i64 t.gap], .int .i64 k] w fun e w' => e = .returned (.int .i64 (endT t k : Nat)) ∧ Below w.heap.size w w' := by
  obtain ⟨hs1, hs2, hs3⟩ := hs
  have hC := fun (W : World) (h : Below w.heap.size w W) => heldCols A c t.cols.length k W (hc.below h) hs1 (by omega)
  have hR := fun (W : World) (h : Below w.heap.size w W) => heldRows A' c' (k + 2 * t.cols.length) t.rows W (hr.below h) hs2 hs3 (by omega)
  have hend : k + 2 * t.cols.length ≤ endT t k := by
    unfold endT
    have : ∀ (rows : List TRow) (k : Nat), k ≤ endR rows k := fun rows => by
      induction rows with
      | nil => intro k; exact Nat.le_refl _
      | cons r rs ih => intro k; have := ih (k + 11 * r.cs.length + 1); simp only [endR]; omega
    exact this _ _
  have hE : Hid (endT t k = endR t.rows (k + 2 * t.cols.length)) := rfl
  rw [← hE.out] at hR
  clear hc hr hs3
  go_enter Tryd.func26, Tryd.ntmps26
  go_wp2_with fail
  refine (hC _ (balloc (brefl _) _)).mono ?_
  rintro e w1 ⟨rfl, hb⟩
  obtain ⟨c0, f0, s0⟩ := seenBk w.heap.size (by first | (simp; omega) | simp [*]) hb
  have HB := step (balloc (brefl w) _) hb
  have hp1 : ¬ ((k : Int) + 2 * (t.cols.length : Int)) < 0 := by omega
  clear hC
  go_wp2_with fail
  refine (hR _ HB).mono ?_
  rintro e w2 ⟨rfl, hb2⟩
  have hp2 : ¬ ((endT t k : Nat) : Int) < 0 := by omega
  clear hR
  go_wp2_with fail
  go_ret
  exact ⟨rfl, step HB hb2⟩
/-- What is of one's own reads as what it says. -/
theorem Own.rd {α : Type} {enc : α → List Value} {k : Nat} {hk : ∀ x, (enc x).length = k} {w : World} {lo hi : Nat} {E : TypeId} {A : Option Addr} {n c : Nat} {xs : List α} (h : Own w lo hi E k (.slice A n c) xs.length (xs.flatMap enc)) : Rd (flat k enc hk) w A xs := by
  rcases h with ⟨h0, _⟩ | ⟨hn, g, c', e, h1, h2, h3⟩
  · obtain rfl : xs = [] := List.eq_nil_of_length_eq_zero h0
    exact Rd.nil _ _ _
  · obtain ⟨A1, c1, e1, _, hr⟩ := own_rd (enc := enc) (hk := hk) h3
    injection e1 with e1 _ _
    rw [e1]; exact hr
theorem cell_rd {w : World} {A : Option Addr} {xs : List TCell} (h : Rd (flat 11 cellE (fun _ => rfl)) w A xs) (hs : ∀ x ∈ xs, x.t.size ≤ 1048576) : Rd cellR w A xs := by
  refine ⟨h.1, fun hn => ?_⟩
  obtain ⟨b, o, e, hlt, hc⟩ := h.2 hn
  refine ⟨b, o, e, hlt, fun i hi => ?_⟩
  obtain ⟨cs, hK, hcell⟩ := hc i hi
  exact ⟨cs, ⟨hK, hs _ (List.getElem_mem hi)⟩, hcell⟩
def SizedC (rows : List TRow) : Prop := ∀ r ∈ rows, ∀ x ∈ r.cs, x.t.size ≤ 1048576
theorem Own.cap {w : World} {lo hi : Nat} {E : TypeId} {k : Nat} {v : Value} {n : Nat} {xs : List Value} (h : Own w lo hi E k v n xs) : ∃ A c, v = .slice A n c ∧ n ≤ c := by
  rcases h with ⟨rfl, _, A, c, rfl⟩ | ⟨_, g, c, rfl, _, _, h3⟩
  · exact ⟨A, c, rfl, Nat.zero_le _⟩
  · rcases h3.2 with ⟨e, _⟩ | ⟨g', cap, cur, e, _, _, h4, _⟩
    · cases e
    · injection e with _ _ e; subst e; exact ⟨_, _, rfl, h4⟩
theorem RowsAll.rd {w : World} {lo hi n c : Nat} {A : Option Addr} {vs : List Value} {rows : List TRow} (h : RowsAll w lo hi (.slice A n c) vs rows) (hs : SizedC rows) (hl : rows.length ≤ 9223372036854775807) : Rd rowR w A rows := by
  obtain ⟨h1, h2, h3, h4⟩ := h
  rcases h1 with ⟨h0, _⟩ | ⟨hn, g, c', e, b1, b2, b3⟩
  · obtain rfl : rows = [] := List.eq_nil_of_length_eq_zero h0
    exact Rd.nil _ _ _
  · injection e with e e2 _
    subst e
    subst e2
    refine ⟨hl, fun hne => ⟨g, 0, rfl, (own_lt b3 (b := g) rfl).2, fun j hj => ?_⟩⟩
    have hv : j < vs.length := by omega
    obtain ⟨g0, g1⟩ := rowCells_get vs rows j hv hj
    have h5 := h3 j hv hj
    obtain ⟨A1, c1, e1, e2⟩ := h5.cap
    rw [e1] at h5
    have hrd := cell_rd h5.rd (hs _ (List.getElem_mem hj))
    refine ⟨[vs[j], .bool rows[j].wh], ⟨vs[j], rfl, A1, c1, e1, e2, hrd⟩, fun i u hu => ?_⟩
    have hl := b3.1
    have e0 := b3.cellAt (j * 2) (by omega)
    have e1 := b3.cellAt (j * 2 + 1) (by omega)
    rw [g0] at e0
    rw [g1] at e1
    match i, hu with
    | 0, hu => simp at hu; subst hu; simpa [rowR] using e0
    | 1, hu => simp at hu; subst hu; simpa [rowR] using e1
end Go.Proofs.YtfcogogpioeggaaDoor
