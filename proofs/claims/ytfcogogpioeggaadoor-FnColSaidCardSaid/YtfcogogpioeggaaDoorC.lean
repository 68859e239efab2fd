import Derived.Test.YtfcogogpioeggaaDoorU
namespace Go.Proofs.YtfcogogpioeggaaDoor
open Go.RowKit
/- What is said of a column: the program's and the reference's. -/
theorem saidOf_in (t : Tbl) (k : Nat) (h : k < t.cols.length) : saidOf t k = t.cols[k] := by
  unfold saidOf; rw [if_pos ⟨by omega, by omega⟩]; simp [h]
theorem saidOf_out (t : Tbl) (col : Int) (h : col < 0 ∨ t.cols.length ≤ col) : saidOf t col = ⟨0, 0⟩ := by
  unfold saidOf; rw [if_neg (by omega)]

theorem impl_said (t : Tbl) (A : Option Addr) (c : Nat) (A' : Option Addr) (c' : Nat) (col : Int) (w : World) (hc : Rd colR w A t.cols) (hi : -9223372036854775808 ≤ col) (hi2 : col ≤ 9223372036854775807) :
    Calls Tryd.prog 41 #[.agg #[.slice A t.cols.length c, .int .i64 t.head, .int .i64 t.foot, .slice A' t.rows.length c', .int .i64 t.gap], .int .i64 col] w (fun e w' => e = .returned (.agg #[.int .i64 (saidOf t col).k, .int .i64 (saidOf t col).n]) ∧ Below w.heap.size w w') := by
  have hl := hc.1
  by_cases hin : 0 ≤ col ∧ col < t.cols.length
  · obtain ⟨k, rfl⟩ := Int.eq_ofNat_of_zero_le hin.1
    have hlt : k < t.cols.length := by omega
    have hltz : (k : Int) < (t.cols.length : Int) := by omega
    obtain ⟨b, o, c0, c1, rfl, hblt, hK, e0, e1⟩ := hc.at2 rfl (brefl _) k hlt
    have q : [c0, c1] = [.int .i64 t.cols[k].k, .int .i64 t.cols[k].n] := hK
    simp only [List.cons.injEq, and_true] at q
    obtain ⟨rfl, rfl⟩ := q
    rw [saidOf_in t k hlt]
    have hin1 : inB (k : Int) 0 ((t.cols.length : Int) - 1) = true := by simp [inB]; omega
    clear hK hc hin
    go_enter Tryd.func41, Tryd.ntmps41
    go_wp2_with (go_at_call 59; refine (impl_in _ _ _ _).mono ?_; rintro e w' ⟨rfl, rfl⟩)
    exact bodyPost_ret (v := .agg #[.int .i64 t.cols[k].k, .int .i64 t.cols[k].n]) (by simp [results, Tryd.results41, go_sem]) rfl ⟨rfl, balloc (balloc (brefl _) _) _⟩
  · rw [saidOf_out t col (by omega)]
    have hin1 : inB col 0 ((t.cols.length : Int) - 1) = false := by simp [inB]; omega
    clear hc hin
    go_enter Tryd.func41, Tryd.ntmps41
    go_wp2_with (go_at_call 59; refine (impl_in _ _ _ _).mono ?_; rintro e w' ⟨rfl, rfl⟩)
    exact bodyPost_ret (v := .agg #[.int .i64 0, .int .i64 0]) (by simp [results, Tryd.results41, go_sem]) rfl ⟨rfl, balloc (balloc (brefl _) _) _⟩

theorem spec_l5Said (t : Tbl) (A : Option Addr) (c : Nat) (A' : Option Addr) (c' : Nat) (col : Int) (w : World) (hc : Rd colR w A t.cols) (h0 : 0 ≤ col) :
    Calls Tryd.prog 37 #[.agg #[.slice A t.cols.length c, .int .i64 t.head, .int .i64 t.foot, .slice A' t.rows.length c', .int .i64 t.gap], .int .i64 col] w (fun e w' => e = .returned (.agg #[.int .i64 (saidOf t col).k, .int .i64 (saidOf t col).n]) ∧ Below w.heap.size w w') := by
  have hl := hc.1
  obtain ⟨k, rfl⟩ := Int.eq_ofNat_of_zero_le h0
  by_cases hlt : k < t.cols.length
  · have hltz : (k : Int) < (t.cols.length : Int) := by omega
    obtain ⟨b, o, c0, c1, rfl, hblt, hK, e0, e1⟩ := hc.at2 rfl (brefl _) k hlt
    have q : [c0, c1] = [.int .i64 t.cols[k].k, .int .i64 t.cols[k].n] := hK
    simp only [List.cons.injEq, and_true] at q
    obtain ⟨rfl, rfl⟩ := q
    rw [saidOf_in t k hlt]
    clear hK hc
    go_enter Tryd.func37, Tryd.ntmps37
    go_wp2_with fail
    exact bodyPost_ret (v := .agg #[.int .i64 t.cols[k].k, .int .i64 t.cols[k].n]) (by simp [results, Tryd.results37, go_sem]) rfl ⟨rfl, balloc (balloc (brefl _) _) _⟩
  · rw [saidOf_out t k (by omega)]
    have hltz : ¬ (k : Int) < (t.cols.length : Int) := by omega
    clear hc
    go_enter Tryd.func37, Tryd.ntmps37
    go_wp2_with fail
    exact bodyPost_ret (v := .agg #[.int .i64 0, .int .i64 0]) (by simp [results, Tryd.results37, go_sem]) rfl ⟨rfl, balloc (balloc (brefl _) _) _⟩

set_option maxHeartbeats 1000000 in
theorem impl_ColSaid (t : Tbl) (A : Option Addr) (c : Nat) (A' : Option Addr) (c' : Nat) (col : Int) (w : World) (hw : Base w) (hc : Rd colR w A t.cols) (hr : Rd rowR w A' t.rows) (hi : -9223372036854775808 ≤ col) (hi2 : col ≤ 9223372036854775807) :
    Calls Tryd.prog 13 #[.agg #[.slice A t.cols.length c, .int .i64 t.head, .int .i64 t.foot, .slice A' t.rows.length c', .int .i64 t.gap], .int .i64 col] w (fun e w' => e = .returned (.agg #[.int .i64 (colSaid t col).k, .int .i64 (colSaid t col).n]) ∧ Below w.heap.size w w') := by
  have hT := fun (W : World) (h : Below w.heap.size w W) => impl_TblOk t A c A' c' W (hw.below h) (hc.below h) (hr.below h)
  have hS := fun (W : World) (h : Below w.heap.size w W) => impl_said t A c A' c' col W (hc.below h) hi hi2
  clear hc hr hw
  cases hok : tblOk t with
  | false =>
    rw [hok] at hT
    have hres : colSaid t col = ⟨0, 0⟩ := by unfold colSaid; rw [if_neg (by simp [hok])]
    rw [hres]
    clear hres hok hS
    go_enter Tryd.func13, Tryd.ntmps13
    go_wp2_with fail
    refine (hT _ (balloc (balloc (brefl _) _) _)).mono ?_
    rintro e w1 ⟨rfl, hb⟩
    obtain ⟨c0, f0, s0⟩ := seenBk w.heap.size (by first | (simp; omega) | simp [*]) hb
    obtain ⟨c1, f1, s1⟩ := seenBk (w.heap.size + 1) (by first | (simp; omega) | simp [*]) hb
    go_wp2_with fail
    refine bodyPost_ret (v := .agg #[.int .i64 0, .int .i64 0]) (by simp [results, Tryd.results13, go_sem, *]) rfl ⟨rfl, ?_⟩
    exact bset (bset (step (balloc (balloc (brefl _) _) _) hb) (by show _ ≤ w.heap.size + 1; omega) _) (by show _ ≤ w.heap.size + 1; omega) _
  | true =>
    rw [hok] at hT
    have hres : colSaid t col = saidOf t col := by unfold colSaid; rw [if_pos hok]
    rw [hres]
    clear hres hok
    go_enter Tryd.func13, Tryd.ntmps13
    go_wp2_with fail
    refine (hT _ (balloc (balloc (brefl _) _) _)).mono ?_
    rintro e w1 ⟨rfl, hb⟩
    obtain ⟨c0, f0, s0⟩ := seenBk w.heap.size (by first | (simp; omega) | simp [*]) hb
    obtain ⟨c1, f1, s1⟩ := seenBk (w.heap.size + 1) (by first | (simp; omega) | simp [*]) hb
    have HB := step (balloc (balloc (brefl w) _) _) hb
    go_wp2_with fail
    refine (hS _ HB).mono ?_
    rintro e w2 ⟨rfl, hb2⟩
    obtain ⟨c0', f0', s0'⟩ := seenBk w.heap.size (by simp [*]) hb2
    obtain ⟨c1', f1', s1'⟩ := seenBk (w.heap.size + 1) (by simp [*]) hb2
    go_wp2_with fail
    refine bodyPost_ret (v := .agg #[.int .i64 (saidOf t col).k, .int .i64 (saidOf t col).n]) (by simp [results, Tryd.results13, go_sem, *]) rfl ⟨rfl, ?_⟩
    exact bset (bset (step HB hb2) (by show _ ≤ w.heap.size + 1; omega) _) (by show _ ≤ w.heap.size + 1; omega) _

set_option maxHeartbeats 1000000 in
theorem spec_ColSaid (t : Tbl) (A : Option Addr) (c : Nat) (A' : Option Addr) (c' : Nat) (col : Int) (w : World) (hc : Rd colR w A t.cols) (hr : Rd rowR w A' t.rows) :
    Calls Tryd.prog 11 #[.agg #[.slice A t.cols.length c, .int .i64 t.head, .int .i64 t.foot, .slice A' t.rows.length c', .int .i64 t.gap], .int .i64 col] w (fun e w' => e = .returned (.agg #[.int .i64 (colSaid t col).k, .int .i64 (colSaid t col).n]) ∧ Below w.heap.size w w') := by
  have hT := fun (W : World) (h : Below w.heap.size w W) => spec_TblOk t A c A' c' W (hc.below h) (hr.below h)
  have hS := fun (W : World) (h : Below w.heap.size w W) (h0 : 0 ≤ col) => spec_l5Said t A c A' c' col W (hc.below h) h0
  clear hc hr
  by_cases hbad : tblOk t = false ∨ col < 0
  · have hres : colSaid t col = ⟨0, 0⟩ := by
      unfold colSaid
      rcases hbad with h | h
      · rw [if_neg (by simp [h])]
      · split
        · exact saidOf_out t col (.inl h)
        · rfl
    rw [hres]
    clear hres hS
    generalize tblOk t = q at hT hbad
    have HBAD := hide hbad
    clear hbad
    go_enter Tryd.func11, Tryd.ntmps11
    go_wp2_with fail
    refine (hT _ (balloc (balloc (brefl _) _) _)).mono ?_
    rintro e w1 ⟨rfl, hb⟩
    obtain ⟨c0, f0, s0⟩ := seenBk w.heap.size (by first | (simp; omega) | simp [*]) hb
    obtain ⟨c1, f1, s1⟩ := seenBk (w.heap.size + 1) (by first | (simp; omega) | simp [*]) hb
    cases q with
    | false =>
      go_wp2_with fail
      refine bodyPost_ret (v := .agg #[.int .i64 0, .int .i64 0]) (by simp [results, Tryd.results11, go_sem, *]) rfl ⟨rfl, ?_⟩
      exact bset (bset (step (balloc (balloc (brefl _) _) _) hb) (by show _ ≤ w.heap.size + 1; omega) _) (by show _ ≤ w.heap.size + 1; omega) _
    | true =>
      have hneg : col < 0 := by rcases HBAD.out with h | h; · simp at h
                                · exact h
      go_wp2_with fail
      refine bodyPost_ret (v := .agg #[.int .i64 0, .int .i64 0]) (by simp [results, Tryd.results11, go_sem, *]) rfl ⟨rfl, ?_⟩
      exact bset (bset (step (balloc (balloc (brefl _) _) _) hb) (by show _ ≤ w.heap.size + 1; omega) _) (by show _ ≤ w.heap.size + 1; omega) _
  · have hok : tblOk t = true := by simpa using fun h => hbad (.inl h)
    have h0 : 0 ≤ col := by
      rcases Int.lt_or_le col 0 with h | h
      · exact absurd (.inr h) hbad
      · exact h
    have hres : colSaid t col = saidOf t col := by unfold colSaid; rw [if_pos hok]
    rw [hok] at hT
    rw [hres]
    clear hres hok hbad
    go_enter Tryd.func11, Tryd.ntmps11
    go_wp2_with fail
    refine (hT _ (balloc (balloc (brefl _) _) _)).mono ?_
    rintro e w1 ⟨rfl, hb⟩
    obtain ⟨c0, f0, s0⟩ := seenBk w.heap.size (by first | (simp; omega) | simp [*]) hb
    obtain ⟨c1, f1, s1⟩ := seenBk (w.heap.size + 1) (by first | (simp; omega) | simp [*]) hb
    have HB := step (balloc (balloc (brefl w) _) _) hb
    go_wp2_with fail
    refine (hS _ HB h0).mono ?_
    rintro e w2 ⟨rfl, hb2⟩
    obtain ⟨c0', f0', s0'⟩ := seenBk w.heap.size (by simp [*]) hb2
    obtain ⟨c1', f1', s1'⟩ := seenBk (w.heap.size + 1) (by simp [*]) hb2
    go_wp2_with fail
    refine bodyPost_ret (v := .agg #[.int .i64 (saidOf t col).k, .int .i64 (saidOf t col).n]) (by simp [results, Tryd.results11, go_sem, *]) rfl ⟨rfl, ?_⟩
    exact bset (bset (step HB hb2) (by show _ ≤ w.heap.size + 1; omega) _) (by show _ ≤ w.heap.size + 1; omega) _
end Go.Proofs.YtfcogogpioeggaaDoor
