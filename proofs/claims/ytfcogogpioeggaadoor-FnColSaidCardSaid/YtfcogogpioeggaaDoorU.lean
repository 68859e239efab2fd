import Derived.Test.YtfcogogpioeggaaDoorS
namespace Go.Proofs.YtfcogogpioeggaaDoor
open Go.RowKit

theorem all_to {α : Type} (p : α → Bool) (xs : List α) (h : ∀ j (h : j < xs.length), p xs[j] = true) : xs.all p = true := by
  rw [List.all_eq_true]; intro x hx
  obtain ⟨i, hi, rfl⟩ := List.getElem_of_mem hx
  exact h i hi
theorem all_not {α : Type} (p : α → Bool) (xs : List α) (j : Nat) (h : j < xs.length) (hp : p xs[j] = false) : xs.all p = false := by
  rw [List.all_eq_false]; exact ⟨_, List.getElem_mem h, by simp [hp]⟩

set_option maxRecDepth 100000 in
set_option maxHeartbeats 8000000 in
theorem spec_TblOk (t : Tbl) (A : Option Addr) (c : Nat) (A' : Option Addr) (c' : Nat) (w : World) (hcols : Rd colR w A t.cols) (hrows : Rd rowR w A' t.rows) :
    Calls Tryd.prog 20 #[.agg #[.slice A t.cols.length c, .int .i64 t.head, .int .i64 t.foot, .slice A' t.rows.length c', .int .i64 t.gap]] w fun e w' => e = .returned (.bool (tblOk t)) ∧ Below w.heap.size w w' := by
  have l1 := hcols.1
  have l2 := hrows.1
  have HF : Hid (tblOk t = (inB t.rows.length 1 8 && (decide ((t.cols.length : Int) ≤ 8) && (inB t.gap 0 3 && (inB t.head 0 t.rows.length && (inB t.foot 0 (t.rows.length - t.head) && (t.cols.all colOk && t.rows.all rowOk))))))) := rfl
  by_cases hall : inB t.rows.length 1 8 = true ∧ ¬ (8 : Int) < t.cols.length ∧ inB t.head 0 t.rows.length = true ∧ inB t.foot 0 (t.rows.length - t.head) = true ∧ inB t.gap 0 3 = true
  · obtain ⟨q1, q2, q3, q4, q5⟩ := hall
    have HF2 : Hid (tblOk t = (t.cols.all colOk && t.rows.all rowOk)) := by
      show tblOk t = _
      rw [HF.out, q1, q3, q4, q5, show decide ((t.cols.length : Int) ≤ 8) = true from decide_eq_true (by omega)]; rfl
    have hb0 : 0 ≤ t.head ∧ t.head ≤ t.rows.length := by simpa [inB] using q3
    obtain ⟨g0, g1⟩ := hb0
    go_enter Tryd.func20, Tryd.ntmps20
    go_wp2_with (first | (go_at_call 49; refine (spec_l1In _ _ _ _).mono ?_; rintro e w' ⟨rfl, rfl⟩))
    go_loopg [3] t.cols.length (fun gg s3 wr => ∃ kk : Nat, kk ≤ t.cols.length ∧ t.cols.length - kk ≤ gg ∧ s3 = .int .i64 kk ∧ Aside (Below (w.alloc (.cells #[.slice A t.cols.length c, .int .i64 t.head, .int .i64 t.foot, .slice A' t.rows.length c', .int .i64 t.gap] 33)).heap.size (w.alloc (.cells #[.slice A t.cols.length c, .int .i64 t.head, .int .i64 t.foot, .slice A' t.rows.length c', .int .i64 t.gap] 33)) wr) ∧ Aside (∀ j (h : j < t.cols.length), j < kk → colOk t.cols[j] = true))
    case atStart => exact ⟨0, Nat.zero_le _, by omega, rfl, Below.refl _ _, fun j _ hj => absurd hj (Nat.not_lt_zero _)⟩
    case round =>
      obtain ⟨kk, hkk, hg, rfl, BW, AA⟩ := hrel
      obtain ⟨H, hc, hf, hz, hn, h0⟩ := seenS BW.out (brefl _)
      by_cases hlt : kk < t.cols.length
      · have hltz : (kk : Int) < (t.cols.length : Int) := by omega
        obtain ⟨b, o, c0, c1, rfl, hblt, hK, e0, e1⟩ := hcols.at2 rfl (Below.refl _ _) kk hlt
        have hK' : [c0, c1] = [.int .i64 t.cols[kk].k, .int .i64 t.cols[kk].n] := hK
        simp only [List.cons.injEq, and_true] at hK'
        obtain ⟨rfl, rfl⟩ := hK'
        have hb1 : b < w.heap.size + 1 := by omega
        have hb2 : ¬ b = w.heap.size := by omega
        have hC := spec_l2Col t.cols[kk] wr
        clear hK hcols hrows H
        cases hq : colOk t.cols[kk] with
        | true =>
          rw [hq] at hC
          have Hq := hide hq; clear hq
          go_wp2_with (go_at_call 50; refine hC.mono ?_; rintro e w' ⟨rfl, hb⟩)
          go_roundg (t.cols.length - (kk + 1))
          case measure => omega
          case rel =>
            refine ⟨kk + 1, by omega, by omega, by go_num, step BW.out hb, (show Aside _ from fun j hj hjk => ?_)⟩
            by_cases e : j = kk
            · subst e; exact Hq.out
            · exact AA.out j hj (by omega)
        | false =>
          rw [hq] at hC
          have hno : tblOk t = false := by rw [HF2.out, all_not _ _ kk hlt hq]; rfl
          have Hno := hide hno; clear hno hq
          go_wp2_with (go_at_call 50; refine hC.mono ?_; rintro e w' ⟨rfl, hb⟩)
          go_ret
          exact ⟨by rw [Hno.out]; rfl, step (step (balloc (brefl _) _) BW.out) hb⟩
      · have hltz : ¬ (kk : Int) < (t.cols.length : Int) := by omega
        have HF3 : Hid (tblOk t = t.rows.all rowOk) := by
          show tblOk t = _
          rw [HF2.out, all_to _ _ (fun j hj => AA.out j hj (by omega))]; rfl
        clear HF2 AA HF hcols
        go_wp2_with fail
        go_loopg [4, 5] t.rows.length (fun gg s4 s5 wr => ∃ kk : Nat, kk ≤ t.rows.length ∧ t.rows.length - kk ≤ gg ∧ s4 = .int .i64 kk ∧ Aside (Below (w.alloc (.cells #[.slice A t.cols.length c, .int .i64 t.head, .int .i64 t.foot, .slice A' t.rows.length c', .int .i64 t.gap] 33)).heap.size (w.alloc (.cells #[.slice A t.cols.length c, .int .i64 t.head, .int .i64 t.foot, .slice A' t.rows.length c', .int .i64 t.gap] 33)) wr) ∧ Aside (∀ j (h : j < t.rows.length), j < kk → rowOk t.rows[j] = true))
        case atStart => exact ⟨0, Nat.zero_le _, by omega, rfl, BW, fun j _ hj => absurd hj (Nat.not_lt_zero _)⟩
        case round =>
          obtain ⟨k2, hk2, hg2, rfl, BW2, AA2⟩ := hrel
          obtain ⟨H, hc, hf, hz, hn, h0⟩ := seenS BW2.out (brefl _)
          obtain ⟨wo, rfl⟩ : ∃ wo : World, wo = wr := ⟨_, rfl⟩
          by_cases hlt2 : k2 < t.rows.length
          · have hltz2 : (k2 : Int) < (t.rows.length : Int) := by omega
            obtain ⟨b, o, c0, c1, rfl, hblt, hK, e0, e1⟩ := hrows.at2 rfl (Below.refl _ _) k2 hlt2
            obtain ⟨v, hK', A1, n1, rfl, hl1, hr1⟩ := hK
            simp only [List.cons.injEq, and_true] at hK'
            obtain ⟨rfl, rfl⟩ := hK'
            have hb1 : b < w.heap.size + 1 := by omega
            have hb2 : ¬ b = w.heap.size := by omega
            have hlen := hr1.1
            have HN : Hid (rowOk t.rows[k2] = false → tblOk t = false) := fun h => by rw [HF3.out, all_not _ _ k2 hlt2 h]
            have HRB : Hid (∀ q, t.rows[k2].cs.all cellOk = q → ¬ (5 : Int) < t.rows[k2].cs.length → rowOk t.rows[k2] = q) := fun q h h5 => by
              unfold rowOk; rw [h, decide_eq_true (by omega : (t.rows[k2].cs.length : Int) ≤ 5)]; rfl
            clear H HF3 hrows
            by_cases h5 : (5 : Int) < t.rows[k2].cs.length
            · have hno := HN.out (by unfold rowOk; rw [decide_eq_false (by omega)]; rfl)
              have Hno := hide hno; clear hno
              go_wp2_with fail
              go_ret
              exact ⟨by rw [Hno.out]; rfl, step (balloc (brefl _) _) BW2.out⟩
            · go_wp2_with fail
              go_loopg [5] t.rows[k2].cs.length (fun gg s5 wr => ∃ k3 : Nat, k3 ≤ t.rows[k2].cs.length ∧ t.rows[k2].cs.length - k3 ≤ gg ∧ s5 = .int .i64 k3 ∧ Aside (Below (w.alloc (.cells #[.slice A t.cols.length c, .int .i64 t.head, .int .i64 t.foot, .slice (some ⟨b, o, none⟩) t.rows.length c', .int .i64 t.gap] 33)).heap.size (w.alloc (.cells #[.slice A t.cols.length c, .int .i64 t.head, .int .i64 t.foot, .slice (some ⟨b, o, none⟩) t.rows.length c', .int .i64 t.gap] 33)) wr) ∧ Aside (∀ j (h : j < t.rows[k2].cs.length), j < k3 → cellOk t.rows[k2].cs[j] = true))
              case atStart => exact ⟨0, Nat.zero_le _, by omega, rfl, BW2, fun j _ hj => absurd hj (Nat.not_lt_zero _)⟩
              case round =>
                clear hc hf hz hn h0
                obtain ⟨k3, hk3, hg3, rfl, BW3, AA3⟩ := hrel
                obtain ⟨H, hc, hf, hz, hn, h0⟩ := seenS BW3.out (brefl _)
                clear H
                by_cases hlt3 : k3 < t.rows[k2].cs.length
                · have hltz3 : (k3 : Int) < (t.rows[k2].cs.length : Int) := by omega
                  obtain ⟨b3, o3, d0, d1, d2, d3, d4, d5, d6, d7, d8, d9, d10, rfl, hblt3, hK3, f0, f1, f2, f3, f4, f5, f6, f7, f8, f9, f10⟩ := hr1.at11 rfl (Below.refl _ _) k3 hlt3
                  have hC := spec_CellOk t.rows[k2].cs[k3] wr hK3.2
                  have hK4 := hK3.1
                  rw [← hK4] at hC
                  have hb3 : b3 < w.heap.size + 1 := by omega
                  have hb4 : ¬ b3 = w.heap.size := by omega
                  clear hK3 hK4 hr1
                  cases hq : cellOk t.rows[k2].cs[k3] with
                  | true =>
                    rw [hq] at hC
                    have Hq := hide hq; clear hq
                    go_wp2_with (go_at_call 51; refine hC.mono ?_; rintro e w' ⟨rfl, hb⟩)
                    go_roundg (t.rows[k2].cs.length - (k3 + 1))
                    case measure => omega
                    case rel =>
                      refine ⟨k3 + 1, by omega, by omega, by go_num, step BW3.out hb, (show Aside _ from fun j hj hjk => ?_)⟩
                      by_cases e : j = k3
                      · subst e; exact Hq.out
                      · exact AA3.out j hj (by omega)
                  | false =>
                    rw [hq] at hC
                    have hno := HN.out (HRB.out false (all_not _ _ k3 hlt3 hq) h5)
                    have Hno := hide hno; clear hno hq
                    go_wp2_with (go_at_call 51; refine hC.mono ?_; rintro e w' ⟨rfl, hb⟩)
                    go_ret
                    exact ⟨by rw [Hno.out]; rfl, step (step (balloc (brefl _) _) BW3.out) hb⟩
                · have hltz3 : ¬ (k3 : Int) < (t.rows[k2].cs.length : Int) := by omega
                  have Hrow := hide (HRB.out true (all_to _ _ (fun j hj => AA3.out j hj (by omega))) h5)
                  clear hr1
                  go_wp2_with fail
                  go_roundg (t.rows.length - (k2 + 1))
                  case measure => omega
                  case rel =>
                    refine ⟨k2 + 1, by omega, by omega, by go_num, BW3, (show Aside _ from fun j hj hjk => ?_)⟩
                    by_cases e : j = k2
                    · subst e; exact Hrow.out
                    · exact AA2.out j hj (by omega)
          · have hltz2 : ¬ (k2 : Int) < (t.rows.length : Int) := by omega
            have hyes : tblOk t = true := by rw [HF3.out, all_to _ _ (fun j hj => AA2.out j hj (by omega))]
            have Hyes := hide hyes; clear hyes
            clear hrows H
            go_wp2_with fail
            go_ret
            exact ⟨by rw [Hyes.out]; rfl, step (balloc (brefl _) _) BW2.out⟩
  · have hno : tblOk t = false := by
      rw [HF.out]
      cases h : (inB t.rows.length 1 8 && (decide ((t.cols.length : Int) ≤ 8) && (inB t.gap 0 3 && (inB t.head 0 t.rows.length && inB t.foot 0 (t.rows.length - t.head))))) with
      | true =>
        simp only [Bool.and_eq_true, decide_eq_true_eq] at h
        exact absurd ⟨h.1, by omega, h.2.2.2.1, h.2.2.2.2, h.2.2.1⟩ hall
      | false =>
        simp only [Bool.and_eq_false_iff] at h ⊢
        rcases h with h | h | h | h | h <;> simp [h]
    have Hno := hide hno
    have HA := hide hall
    clear hno HF hcols hrows hall
    by_cases q3 : inB t.head 0 t.rows.length = true
    · have hb0 : 0 ≤ t.head ∧ t.head ≤ t.rows.length := by simpa [inB] using q3
      obtain ⟨g0, g1⟩ := hb0
      go_enter Tryd.func20, Tryd.ntmps20
      go_wp2_with (first | (go_at_call 49; refine (spec_l1In _ _ _ _).mono ?_; rintro e w' ⟨rfl, rfl⟩))
      all_goals first | (go_ret; exact ⟨by rw [Hno.out]; rfl, balloc (brefl _) _⟩) | skip
      all_goals (have h := HA.out; exfalso; clear Hno HA; simp_all)
    · have q3' : inB t.head 0 t.rows.length = false := by simpa using q3
      go_enter Tryd.func20, Tryd.ntmps20
      go_wp2_with (first | (go_at_call 49; refine (spec_l1In _ _ _ _).mono ?_; rintro e w' ⟨rfl, rfl⟩))
      all_goals (go_ret; exact ⟨by rw [Hno.out]; rfl, balloc (brefl _) _⟩)
end Go.Proofs.YtfcogogpioeggaaDoor
