import Derived.Test.YtpfagdmmhgcmnaaGreatDoorMixV
set_option linter.unusedVariables false
set_option linter.unusedSimpArgs false
namespace Go.Proofs.YtpfagdmmhgcmnaaGreatDoor
open Go.RowKit
theorem spec_l1In (n lo hi : Int) (w : World) :
  Calls Tryz.prog 58 #[.int .i64 n, .int .i64 lo, .int .i64 hi] w fun e w' => e = .returned (.bool (inB n lo hi)) ∧ w = w' := by
 unfold inB
 by_cases h1 : lo ≤ n <;> by_cases h2 : n ≤ hi
 all_goals
  go_enter Tryz.func58, Tryz.ntmps58
  go_wp2
  go_ret
  exact ⟨by simp [h1, h2], rfl⟩
set_option maxHeartbeats 1000000 in
theorem spec_TxtOk (s : ByteArray) (w : World) (hs : s.size ≤ 1048576) :
  Calls Tryz.prog 88 #[.string s] w fun e w' => e = .returned (.bool (txOk s)) ∧ w = w' := by
 have hsz : s.size = s.data.toList.length := Lib.size_eq s
 by_cases h30 : (30 : Int) < s.size
 ·
  have hn : txOk s = false := by
   unfold txOk txtOk
   have h1 : s.data.toList.isEmpty = false := by cases h : s.data.toList <;> simp_all
   have h2 : decide (s.data.toList.length ≤ 30) = false := by simp; omega
   rw [h1, h2]; simp
  clear hsz
  go_enter Tryz.func88, Tryz.ntmps88
  go_wp2
  go_ret
  exact ⟨by rw [hn]; rfl, rfl⟩
 ·
  have hle : s.data.toList.length ≤ 30 := by omega
  have HZ := hide hsz
  clear hsz
  go_enter Tryz.func88, Tryz.ntmps88
  go_wp2
  go_loopg [3] s.size (fun gg s3 wr => ∃ kk : Nat, kk ≤ s.size ∧ s.size - kk ≤ gg ∧ s3 = .int .i64 kk ∧ Aside (w = wr) ∧ Aside (okAt s.data.toList kk = okAt s.data.toList 0 ∧ (kk = s.size → 0 < kk → s.data.toList[kk - 1]? ≠ some 32)))
  case atStart => exact ⟨0, Nat.zero_le _, by omega, rfl, rfl, rfl, fun _ h => absurd h (Nat.lt_irrefl _)⟩
  case round =>
   obtain ⟨kk, hkk, hg, rfl, BW, AA⟩ := hrel
   by_cases hlt : kk < s.size
   ·
    have hltz : (kk : Int) < (s.size : Int) := by omega
    have hll : kk < s.data.toList.length := by have := HZ.out; omega
    have hget : s.data.toList[kk] = s[kk] := rfl
    have hget1 : s.data.toList[kk - 1]? = some (s[kk - 1]'(by omega)) := Lib.data_getElem? s (kk - 1) (by omega)
    have hne : s.data.toList ≠ [] := by intro h; rw [h] at hll; simp at hll
    have hx0 : txOk s = okAt s.data.toList kk := by rw [AA.out.1]; exact (txtOk_okF _ hle hne).trans (by rfl)
    have HX := hide hx0
    have eq32 : ∀ c : UInt8, ((c.toNat : Int) == 32) = decide (c = 32) := fun c => by
     rw [Bool.eq_iff_iff]; simp [← UInt8.toNat_inj]; omega
    by_cases hA : s[kk] = 32
    ·
     have hA' : ((s[kk].toNat : Int) == 32) = true := by rw [eq32]; simpa using hA
     have hA2 : ((s[kk].toNat : Int) != 32) = false := by rw [bne, hA']; rfl
     by_cases hbad : kk = 0 ∨ kk = s.size - 1 ∨ s[kk - 1] = 32
     ·
      have hno : txOk s = false := by
       rw [hx0]
       refine okAt_bad _ kk hll (hget.trans hA) ?_
       rcases hbad with h | h | h
       ·
        exact .inl h
       ·
        exact .inr (.inl (by have := HZ.out; omega))
       ·
        exact .inr (.inr (by rw [hget1, h]))
      have HNO := hide hno
      have HB := hide hbad
      have H32 := hide eq32
      clear hno hbad eq32 hA hget hget1 hne hx0
      go_wp2_with fail
      all_goals first | (go_ret; exact ⟨by rw [HNO.out]; rfl, BW.out⟩) | skip
      all_goals exfalso
      all_goals rcases HB.out with h | h | h
      all_goals first | omega | (simp [h] at *; done) | (simp_all; omega)
     ·
      have h1 : ¬ kk = 0 := fun h => hbad (.inl h)
      have h2 : ¬ (kk : Int) = (s.size : Int) - 1 := fun h => hbad (.inr (.inl (by omega)))
      have h3 : ((s[kk - 1].toNat : Int) == 32) = false := by
       rw [eq32]; simpa using fun h => hbad (.inr (.inr h))
      have hgood : okAt s.data.toList (kk + 1) = okAt s.data.toList kk := okAt_good _ kk hll (hget.trans hA) h1 (by rw [hget1]; simpa using fun h => hbad (.inr (.inr h)))
      have h1b : ((kk : Int) == 0) = false := by simp; omega
      have h2b : ((kk : Int) == (s.size : Int) - 1) = false := by simp; omega
      have h4 : 1 ≤ (kk : Int) := by omega
      have h5 : (kk : Int) - 1 < s.size := by omega
      have HG := hide hgood
      clear hgood hbad eq32 hA hget hget1 hne hx0
      go_wp2_with fail
      go_roundg (s.size - (kk + 1))
      case measure => omega
      case rel =>
       refine ⟨kk + 1, by omega, by omega, by go_num, BW, (show Aside _ from ⟨HG.out.trans AA.out.1, fun h _ => by omega⟩)⟩
    ·
     have hA' : ((s[kk].toNat : Int) == 32) = false := by rw [eq32]; simpa using hA
     have hA2 : ((s[kk].toNat : Int) != 32) = true := by rw [bne, hA']; rfl
     have h256 : (s[kk].toNat : Int) ≤ 255 := by have := s[kk].toNat_lt; omega
     have hlow : ∀ c : UInt8, inB (c.toNat : Int) 97 122 = lowB c := fun c => by
      unfold inB lowB
      rw [Bool.eq_iff_iff]; simp [UInt8.le_iff_toNat_le]; omega
     have hl := hlow s[kk]
     have hstep := okAt_low _ kk hll (by rw [hget]; exact hA)
     rw [hget] at hstep
     have hnx : kk + 1 = s.size → 0 < kk + 1 → s.data.toList[kk + 1 - 1]? ≠ some 32 := fun _ _ => by
      rw [show kk + 1 - 1 = kk from rfl, Lib.data_getElem? s kk hlt]; simpa using hA
     have HN := hide hnx
     have HS := hide hstep
     clear hnx hstep hlow eq32 hA hget hget1 hne hx0
     cases hb : lowB s[kk] with
     | true =>
      rw [hb] at hl
      have HB := hide hb; clear hb
      go_wp2_with (go_at_call 58; refine (spec_l1In _ _ _ _).mono ?_; rintro e w' ⟨rfl, rfl⟩)
      go_roundg (s.size - (kk + 1))
      case measure => omega
      case rel =>
       refine ⟨kk + 1, by omega, by omega, by go_num, BW, (show Aside _ from ⟨?_, HN.out⟩)⟩
       rw [← AA.out.1, HS.out, HB.out, Bool.true_and]
     | false =>
      rw [hb] at hl
      have HB := hide hb; clear hb
      go_wp2_with (go_at_call 58; refine (spec_l1In _ _ _ _).mono ?_; rintro e w' ⟨rfl, rfl⟩)
      go_ret
      exact ⟨by rw [HX.out, HS.out, HB.out]; rfl, BW.out⟩
   ·
    have hltz : ¬ (kk : Int) < (s.size : Int) := by omega
    have hfin : txOk s = true := by
     by_cases h0 : s.data.toList = []
     ·
      unfold txOk txtOk; rw [h0]; rfl
     ·
      have hlen : s.data.toList.length = kk := by have := HZ.out; omega
      have h1 : txOk s = okAt s.data.toList 0 := (txtOk_okF _ hle h0).trans rfl
      have hp : 0 < s.data.toList.length := List.length_pos_iff.2 h0
      rw [h1, ← AA.out.1, ← hlen]
      exact okAt_end _ hp (by rw [hlen]; exact AA.out.2 (by omega) (by omega))
    have HFIN := hide hfin
    clear hfin
    go_wp2_with fail
    go_ret
    exact ⟨by rw [HFIN.out]; rfl, BW.out⟩
theorem spec_l2Col (x : TCol) (w : World) :
  Calls Tryz.prog 59 #[.agg #[.int .i64 x.k, .int .i64 x.n]] w fun e w' => e = .returned (.bool (colOk x)) ∧ Below w.heap.size w w' := by
 go_enter Tryz.func59, Tryz.ntmps59
 go_wp2_with (go_at_call 58; refine (spec_l1In _ _ _ _).mono ?_; rintro e w' ⟨rfl, rfl⟩)
 all_goals (go_ret; exact ⟨by simp_all [colOk], balloc (Below.refl _ _) _⟩)
theorem spec_BrdOk (b : Brd) (w : World) :
  Calls Tryz.prog 108 #[.agg #[.int .i64 b.s, .int .i64 b.w]] w fun e w' => e = .returned (.bool (brdOk b)) ∧ Below w.heap.size w w' := by
 have hfin : brdOk b = if b.s = 0 ∨ b.s = 4 then b.w == 0 else inB b.s 1 3 && inB b.w 1 3 := by
  unfold brdOk seenB
  by_cases h0 : b.s = 0
  ·
   simp [h0, inB]
  ·
   by_cases h4 : b.s = 4
   ·
    simp [h4, inB]
   ·
    cases h : inB b.s 1 3 <;> simp [h0, h4]
 rw [hfin]
 clear hfin
 by_cases h0 : b.s = 0
 ·
  rw [if_pos (.inl h0)]
  have H := hide h0
  have h0b : (b.s == 0) = true := by simpa using h0
  clear h0
  go_enter Tryz.func108, Tryz.ntmps108
  go_wp2_with fail
  all_goals (go_ret; exact ⟨by simp_all, balloc (Below.refl _ _) _⟩)
 ·
  by_cases h4 : b.s = 4
  ·
   rw [if_pos (.inr h4)]
   have H := hide h4
   have h0b : (b.s == 0) = false := by simpa using h0
   have h4b : (b.s == 4) = true := by simpa using h4
   clear h4
   go_enter Tryz.func108, Tryz.ntmps108
   go_wp2_with fail
   all_goals (go_ret; exact ⟨by simp_all, balloc (Below.refl _ _) _⟩)
  ·
   rw [if_neg (by simp [h0, h4])]
   have h0b : (b.s == 0) = false := by simpa using h0
   have h4b : (b.s == 4) = false := by simpa using h4
   go_enter Tryz.func108, Tryz.ntmps108
   go_wp2_with (go_at_call 58; refine (spec_l1In _ _ _ _).mono ?_; rintro e w' ⟨rfl, rfl⟩)
   all_goals (go_ret; exact ⟨by simp_all, balloc (Below.refl _ _) _⟩)
set_option maxHeartbeats 1000000 in
theorem spec_CellOk (x : TCell) (w : World) (hs : x.t.size ≤ 1048576) :
  Calls Tryz.prog 60 #[.agg (cellE x).toArray] w fun e w' => e = .returned (.bool (cellOk x)) ∧ Below w.heap.size w w' := by
 show Calls _ _ #[.agg #[.string x.t, .int .i64 x.c, .int .i64 x.r, .int .i64 x.top.s, .int .i64 x.top.w, .int .i64 x.right.s, .int .i64 x.right.w, .int .i64 x.bot.s, .int .i64 x.bot.w, .int .i64 x.left.s, .int .i64 x.left.w]] _ _
 have H := brefl (w.alloc (.cells #[.string x.t, .int .i64 x.c, .int .i64 x.r, .int .i64 x.top.s, .int .i64 x.top.w, .int .i64 x.right.s, .int .i64 x.right.w, .int .i64 x.bot.s, .int .i64 x.bot.w, .int .i64 x.left.s, .int .i64 x.left.w] 52))
 go_enter Tryz.func60, Tryz.ntmps60
 go_wp2_with (first | (go_at_call 58; refine (spec_l1In _ _ _ _).mono ?_; rintro e w' ⟨rfl, rfl⟩) | (go_at_call 88; refine (spec_TxtOk _ _ hs).mono ?_; rintro e w' ⟨rfl, rfl⟩) | (go_at_call 108; refine (spec_BrdOk ⟨_, _⟩ _).mono ?_; rintro e w' ⟨rfl, hb⟩; obtain ⟨H, hc, hf, hz, hn, h0⟩ := seenS H hb))
 all_goals (go_ret; refine ⟨?_, step (balloc (Below.refl _ _) _) H⟩)
 all_goals (clear hs; simp_all [cellOk])
end Go.Proofs.YtpfagdmmhgcmnaaGreatDoor

namespace Go.Proofs.YtpfagdmmhgcmnaaGreatDoor
open Go.RowKit
theorem all_to {α : Type} (p : α → Bool) (xs : List α) (h : ∀ j (h : j < xs.length), p xs[j] = true) : xs.all p = true := by
 rw [List.all_eq_true]; intro x hx
 obtain ⟨i, hi, rfl⟩ := List.getElem_of_mem hx
 exact h i hi
theorem all_not {α : Type} (p : α → Bool) (xs : List α) (j : Nat) (h : j < xs.length) (hp : p xs[j] = false) : xs.all p = false := by
 rw [List.all_eq_false]; exact ⟨_, List.getElem_mem h, by simp [hp]⟩
set_option maxRecDepth 100000 in
set_option maxHeartbeats 8000000 in
theorem spec_TblOk (t : Tbl) (A : Option Addr) (c : Nat) (A' : Option Addr) (c' : Nat) (w : World) (hcols : Rd colR w A t.cols) (hrows : Rd rowR w A' t.rows) :
  Calls Tryz.prog 19 #[.agg #[.slice A t.cols.length c, .int .i64 t.head, .int .i64 t.foot, .slice A' t.rows.length c', .int .i64 t.gap]] w fun e w' => e = .returned (.bool (tblOk t)) ∧ Below w.heap.size w w' := by
 have l1 := hcols.1
 have l2 := hrows.1
 have HF : Hid (tblOk t = (inB t.rows.length 1 8 && (decide ((t.cols.length : Int) ≤ 8) && (inB t.gap 0 3 && (inB t.head 0 t.rows.length && (inB t.foot 0 (t.rows.length - t.head) && (t.cols.all colOk && t.rows.all rowOk))))))) := rfl
 by_cases hall : inB t.rows.length 1 8 = true ∧ ¬ (8 : Int) < t.cols.length ∧ inB t.head 0 t.rows.length = true ∧ inB t.foot 0 (t.rows.length - t.head) = true ∧ inB t.gap 0 3 = true
 ·
  obtain ⟨q1, q2, q3, q4, q5⟩ := hall
  have HF2 : Hid (tblOk t = (t.cols.all colOk && t.rows.all rowOk)) := by
   show tblOk t = _
   rw [HF.out, q1, q3, q4, q5, show decide ((t.cols.length : Int) ≤ 8) = true from decide_eq_true (by omega)]; rfl
  have hb0 : 0 ≤ t.head ∧ t.head ≤ t.rows.length := by simpa [inB] using q3
  obtain ⟨g0, g1⟩ := hb0
  go_enter Tryz.func19, Tryz.ntmps19
  go_wp2_with (first | (go_at_call 58; refine (spec_l1In _ _ _ _).mono ?_; rintro e w' ⟨rfl, rfl⟩))
  go_loopg [3] t.cols.length (fun gg s3 wr => ∃ kk : Nat, kk ≤ t.cols.length ∧ t.cols.length - kk ≤ gg ∧ s3 = .int .i64 kk ∧ Aside (Below (w.alloc (.cells #[.slice A t.cols.length c, .int .i64 t.head, .int .i64 t.foot, .slice A' t.rows.length c', .int .i64 t.gap] 26)).heap.size (w.alloc (.cells #[.slice A t.cols.length c, .int .i64 t.head, .int .i64 t.foot, .slice A' t.rows.length c', .int .i64 t.gap] 26)) wr) ∧ Aside (∀ j (h : j < t.cols.length), j < kk → colOk t.cols[j] = true))
  case atStart => exact ⟨0, Nat.zero_le _, by omega, rfl, Below.refl _ _, fun j _ hj => absurd hj (Nat.not_lt_zero _)⟩
  case round =>
   obtain ⟨kk, hkk, hg, rfl, BW, AA⟩ := hrel
   obtain ⟨H, hc, hf, hz, hn, h0⟩ := seenS BW.out (brefl _)
   by_cases hlt : kk < t.cols.length
   ·
    have hltz : (kk : Int) < (t.cols.length : Int) := by omega
    obtain ⟨b, o, c0, c1, rfl, hblt, hK, e0, e1⟩ := hcols.at2 rfl (Below.refl _ _) kk hlt
    have hK' : [c0, c1] = [.int .i64 t.cols[kk].k, .int .i64 t.cols[kk].n] := hK
    simp only [List.cons.injEq, and_true] at hK'
    obtain ⟨rfl, rfl⟩ := hK'
    have hb1 : b < w.heap.size + 1 := by omega
    have hb2 : ¬ b = w.heap.size := by omega
    have hC := spec_l2Col t.cols[kk] wr
    clear hK hcols hrows H
    cases hq : colOk t.cols[kk] with
    | true =>
     rw [hq] at hC
     have Hq := hide hq; clear hq
     go_wp2_with (go_at_call 59; refine hC.mono ?_; rintro e w' ⟨rfl, hb⟩)
     go_roundg (t.cols.length - (kk + 1))
     case measure => omega
     case rel =>
      refine ⟨kk + 1, by omega, by omega, by go_num, step BW.out hb, (show Aside _ from fun j hj hjk => ?_)⟩
      by_cases e : j = kk
      ·
       subst e; exact Hq.out
      ·
       exact AA.out j hj (by omega)
    | false =>
     rw [hq] at hC
     have hno : tblOk t = false := by rw [HF2.out, all_not _ _ kk hlt hq]; rfl
     have Hno := hide hno; clear hno hq
     go_wp2_with (go_at_call 59; refine hC.mono ?_; rintro e w' ⟨rfl, hb⟩)
     go_ret
     exact ⟨by rw [Hno.out]; rfl, step (step (balloc (brefl _) _) BW.out) hb⟩
   ·
    have hltz : ¬ (kk : Int) < (t.cols.length : Int) := by omega
    have HF3 : Hid (tblOk t = t.rows.all rowOk) := by
     show tblOk t = _
     rw [HF2.out, all_to _ _ (fun j hj => AA.out j hj (by omega))]; rfl
    clear HF2 AA HF hcols
    go_wp2_with fail
    go_loopg [4, 5] t.rows.length (fun gg s4 s5 wr => ∃ kk : Nat, kk ≤ t.rows.length ∧ t.rows.length - kk ≤ gg ∧ s4 = .int .i64 kk ∧ Aside (Below (w.alloc (.cells #[.slice A t.cols.length c, .int .i64 t.head, .int .i64 t.foot, .slice A' t.rows.length c', .int .i64 t.gap] 26)).heap.size (w.alloc (.cells #[.slice A t.cols.length c, .int .i64 t.head, .int .i64 t.foot, .slice A' t.rows.length c', .int .i64 t.gap] 26)) wr) ∧ Aside (∀ j (h : j < t.rows.length), j < kk → rowOk t.rows[j] = true))
    case atStart => exact ⟨0, Nat.zero_le _, by omega, rfl, BW, fun j _ hj => absurd hj (Nat.not_lt_zero _)⟩
    case round =>
     obtain ⟨k2, hk2, hg2, rfl, BW2, AA2⟩ := hrel
     obtain ⟨H, hc, hf, hz, hn, h0⟩ := seenS BW2.out (brefl _)
     obtain ⟨wo, rfl⟩ : ∃ wo : World, wo = wr := ⟨_, rfl⟩
     by_cases hlt2 : k2 < t.rows.length
     ·
      have hltz2 : (k2 : Int) < (t.rows.length : Int) := by omega
      obtain ⟨b, o, c0, c1, rfl, hblt, hK, e0, e1⟩ := hrows.at2 rfl (Below.refl _ _) k2 hlt2
      obtain ⟨v, hK', A1, n1, rfl, hl1, hr1⟩ := hK
      simp only [List.cons.injEq, and_true] at hK'
      obtain ⟨rfl, rfl⟩ := hK'
      have hb1 : b < w.heap.size + 1 := by omega
      have hb2 : ¬ b = w.heap.size := by omega
      have hlen := hr1.1
      have HN : Hid (rowOk t.rows[k2] = false → tblOk t = false) := fun h => by rw [HF3.out, all_not _ _ k2 hlt2 h]
      have HRB : Hid (∀ q, t.rows[k2].cs.all cellOk = q → ¬ (5 : Int) < t.rows[k2].cs.length → rowOk t.rows[k2] = q) := fun q h h5 => by
       unfold rowOk; rw [h, decide_eq_true (by omega : (t.rows[k2].cs.length : Int) ≤ 5)]; rfl
      clear H HF3 hrows
      by_cases h5 : (5 : Int) < t.rows[k2].cs.length
      ·
       have hno := HN.out (by unfold rowOk; rw [decide_eq_false (by omega)]; rfl)
       have Hno := hide hno; clear hno
       go_wp2_with fail
       go_ret
       exact ⟨by rw [Hno.out]; rfl, step (balloc (brefl _) _) BW2.out⟩
      ·
       go_wp2_with fail
       go_loopg [5] t.rows[k2].cs.length (fun gg s5 wr => ∃ k3 : Nat, k3 ≤ t.rows[k2].cs.length ∧ t.rows[k2].cs.length - k3 ≤ gg ∧ s5 = .int .i64 k3 ∧ Aside (Below (w.alloc (.cells #[.slice A t.cols.length c, .int .i64 t.head, .int .i64 t.foot, .slice (some ⟨b, o, none⟩) t.rows.length c', .int .i64 t.gap] 26)).heap.size (w.alloc (.cells #[.slice A t.cols.length c, .int .i64 t.head, .int .i64 t.foot, .slice (some ⟨b, o, none⟩) t.rows.length c', .int .i64 t.gap] 26)) wr) ∧ Aside (∀ j (h : j < t.rows[k2].cs.length), j < k3 → cellOk t.rows[k2].cs[j] = true))
       case atStart => exact ⟨0, Nat.zero_le _, by omega, rfl, BW2, fun j _ hj => absurd hj (Nat.not_lt_zero _)⟩
       case round =>
        clear hc hf hz hn h0
        obtain ⟨k3, hk3, hg3, rfl, BW3, AA3⟩ := hrel
        obtain ⟨H, hc, hf, hz, hn, h0⟩ := seenS BW3.out (brefl _)
        clear H
        by_cases hlt3 : k3 < t.rows[k2].cs.length
        ·
         have hltz3 : (k3 : Int) < (t.rows[k2].cs.length : Int) := by omega
         obtain ⟨b3, o3, d0, d1, d2, d3, d4, d5, d6, d7, d8, d9, d10, rfl, hblt3, hK3, f0, f1, f2, f3, f4, f5, f6, f7, f8, f9, f10⟩ := hr1.at11 rfl (Below.refl _ _) k3 hlt3
         have hC := spec_CellOk t.rows[k2].cs[k3] wr hK3.2
         have hK4 := hK3.1
         rw [← hK4] at hC
         have hb3 : b3 < w.heap.size + 1 := by omega
         have hb4 : ¬ b3 = w.heap.size := by omega
         clear hK3 hK4 hr1
         cases hq : cellOk t.rows[k2].cs[k3] with
         | true =>
          rw [hq] at hC
          have Hq := hide hq; clear hq
          go_wp2_with (go_at_call 60; refine hC.mono ?_; rintro e w' ⟨rfl, hb⟩)
          go_roundg (t.rows[k2].cs.length - (k3 + 1))
          case measure => omega
          case rel =>
           refine ⟨k3 + 1, by omega, by omega, by go_num, step BW3.out hb, (show Aside _ from fun j hj hjk => ?_)⟩
           by_cases e : j = k3
           ·
            subst e; exact Hq.out
           ·
            exact AA3.out j hj (by omega)
         | false =>
          rw [hq] at hC
          have hno := HN.out (HRB.out false (all_not _ _ k3 hlt3 hq) h5)
          have Hno := hide hno; clear hno hq
          go_wp2_with (go_at_call 60; refine hC.mono ?_; rintro e w' ⟨rfl, hb⟩)
          go_ret
          exact ⟨by rw [Hno.out]; rfl, step (step (balloc (brefl _) _) BW3.out) hb⟩
        ·
         have hltz3 : ¬ (k3 : Int) < (t.rows[k2].cs.length : Int) := by omega
         have Hrow := hide (HRB.out true (all_to _ _ (fun j hj => AA3.out j hj (by omega))) h5)
         clear hr1
         go_wp2_with fail
         go_roundg (t.rows.length - (k2 + 1))
         case measure => omega
         case rel =>
          refine ⟨k2 + 1, by omega, by omega, by go_num, BW3, (show Aside _ from fun j hj hjk => ?_)⟩
          by_cases e : j = k2
          ·
           subst e; exact Hrow.out
          ·
           exact AA2.out j hj (by omega)
     ·
      have hltz2 : ¬ (k2 : Int) < (t.rows.length : Int) := by omega
      have hyes : tblOk t = true := by rw [HF3.out, all_to _ _ (fun j hj => AA2.out j hj (by omega))]
      have Hyes := hide hyes; clear hyes
      clear hrows H
      go_wp2_with fail
      go_ret
      exact ⟨by rw [Hyes.out]; rfl, step (balloc (brefl _) _) BW2.out⟩
 ·
  have hno : tblOk t = false := by
   rw [HF.out]
   cases h : (inB t.rows.length 1 8 && (decide ((t.cols.length : Int) ≤ 8) && (inB t.gap 0 3 && (inB t.head 0 t.rows.length && inB t.foot 0 (t.rows.length - t.head))))) with
   | true =>
    simp only [Bool.and_eq_true, decide_eq_true_eq] at h
    exact absurd ⟨h.1, by omega, h.2.2.2.1, h.2.2.2.2, h.2.2.1⟩ hall
   | false =>
    simp only [Bool.and_eq_false_iff] at h ⊢
    rcases h with h | h | h | h | h <;> simp [h]
  have Hno := hide hno
  have HA := hide hall
  clear hno HF hcols hrows hall
  by_cases q3 : inB t.head 0 t.rows.length = true
  ·
   have hb0 : 0 ≤ t.head ∧ t.head ≤ t.rows.length := by simpa [inB] using q3
   obtain ⟨g0, g1⟩ := hb0
   go_enter Tryz.func19, Tryz.ntmps19
   go_wp2_with (first | (go_at_call 58; refine (spec_l1In _ _ _ _).mono ?_; rintro e w' ⟨rfl, rfl⟩))
   all_goals first | (go_ret; exact ⟨by rw [Hno.out]; rfl, balloc (brefl _) _⟩) | skip
   all_goals (have h := HA.out; exfalso; clear Hno HA; simp_all)
  ·
   have q3' : inB t.head 0 t.rows.length = false := by simpa using q3
   go_enter Tryz.func19, Tryz.ntmps19
   go_wp2_with (first | (go_at_call 58; refine (spec_l1In _ _ _ _).mono ?_; rintro e w' ⟨rfl, rfl⟩))
   all_goals (go_ret; exact ⟨by rw [Hno.out]; rfl, balloc (brefl _) _⟩)
end Go.Proofs.YtpfagdmmhgcmnaaGreatDoor

namespace Go.Proofs.YtpfagdmmhgcmnaaGreatDoor
open Go.RowKit
theorem saidOf_in (t : Tbl) (k : Nat) (h : k < t.cols.length) : saidOf t k = t.cols[k] := by
 unfold saidOf; rw [if_pos ⟨by omega, by omega⟩]; simp [h]
theorem saidOf_out (t : Tbl) (col : Int) (h : col < 0 ∨ t.cols.length ≤ col) : saidOf t col = ⟨0, 0⟩ := by
 unfold saidOf; rw [if_neg (by omega)]
theorem impl_said (t : Tbl) (A : Option Addr) (c : Nat) (A' : Option Addr) (c' : Nat) (col : Int) (w : World) (hc : Rd colR w A t.cols) (hi : -9223372036854775808 ≤ col) (hi2 : col ≤ 9223372036854775807) :
  Calls Tryz.prog 68 #[.agg #[.slice A t.cols.length c, .int .i64 t.head, .int .i64 t.foot, .slice A' t.rows.length c', .int .i64 t.gap], .int .i64 col] w (fun e w' => e = .returned (.agg #[.int .i64 (saidOf t col).k, .int .i64 (saidOf t col).n]) ∧ Below w.heap.size w w') := by
 have hl := hc.1
 by_cases hin : 0 ≤ col ∧ col < t.cols.length
 ·
  obtain ⟨k, rfl⟩ := Int.eq_ofNat_of_zero_le hin.1
  have hlt : k < t.cols.length := by omega
  have hltz : (k : Int) < (t.cols.length : Int) := by omega
  obtain ⟨b, o, c0, c1, rfl, hblt, hK, e0, e1⟩ := hc.at2 rfl (brefl _) k hlt
  have q : [c0, c1] = [.int .i64 t.cols[k].k, .int .i64 t.cols[k].n] := hK
  simp only [List.cons.injEq, and_true] at q
  obtain ⟨rfl, rfl⟩ := q
  rw [saidOf_in t k hlt]
  have hin1 : inB (k : Int) 0 ((t.cols.length : Int) - 1) = true := by simp [inB]; omega
  clear hK hc hin
  go_enter Tryz.func68, Tryz.ntmps68
  go_wp2_with (go_at_call 76; refine (impl_in _ _ _ _).mono ?_; rintro e w' ⟨rfl, rfl⟩)
  exact bodyPost_ret (v := .agg #[.int .i64 t.cols[k].k, .int .i64 t.cols[k].n]) (by simp [results, Tryz.results68, go_sem]) rfl ⟨rfl, balloc (balloc (brefl _) _) _⟩
 ·
  rw [saidOf_out t col (by omega)]
  have hin1 : inB col 0 ((t.cols.length : Int) - 1) = false := by simp [inB]; omega
  clear hc hin
  go_enter Tryz.func68, Tryz.ntmps68
  go_wp2_with (go_at_call 76; refine (impl_in _ _ _ _).mono ?_; rintro e w' ⟨rfl, rfl⟩)
  exact bodyPost_ret (v := .agg #[.int .i64 0, .int .i64 0]) (by simp [results, Tryz.results68, go_sem]) rfl ⟨rfl, balloc (balloc (brefl _) _) _⟩
theorem spec_l5Said (t : Tbl) (A : Option Addr) (c : Nat) (A' : Option Addr) (c' : Nat) (col : Int) (w : World) (hc : Rd colR w A t.cols) (h0 : 0 ≤ col) :
  Calls Tryz.prog 104 #[.agg #[.slice A t.cols.length c, .int .i64 t.head, .int .i64 t.foot, .slice A' t.rows.length c', .int .i64 t.gap], .int .i64 col] w (fun e w' => e = .returned (.agg #[.int .i64 (saidOf t col).k, .int .i64 (saidOf t col).n]) ∧ Below w.heap.size w w') := by
 have hl := hc.1
 obtain ⟨k, rfl⟩ := Int.eq_ofNat_of_zero_le h0
 by_cases hlt : k < t.cols.length
 ·
  have hltz : (k : Int) < (t.cols.length : Int) := by omega
  obtain ⟨b, o, c0, c1, rfl, hblt, hK, e0, e1⟩ := hc.at2 rfl (brefl _) k hlt
  have q : [c0, c1] = [.int .i64 t.cols[k].k, .int .i64 t.cols[k].n] := hK
  simp only [List.cons.injEq, and_true] at q
  obtain ⟨rfl, rfl⟩ := q
  rw [saidOf_in t k hlt]
  clear hK hc
  go_enter Tryz.func104, Tryz.ntmps104
  go_wp2_with fail
  exact bodyPost_ret (v := .agg #[.int .i64 t.cols[k].k, .int .i64 t.cols[k].n]) (by simp [results, Tryz.results104, go_sem]) rfl ⟨rfl, balloc (balloc (brefl _) _) _⟩
 ·
  rw [saidOf_out t k (by omega)]
  have hltz : ¬ (k : Int) < (t.cols.length : Int) := by omega
  clear hc
  go_enter Tryz.func104, Tryz.ntmps104
  go_wp2_with fail
  exact bodyPost_ret (v := .agg #[.int .i64 0, .int .i64 0]) (by simp [results, Tryz.results104, go_sem]) rfl ⟨rfl, balloc (balloc (brefl _) _) _⟩
set_option maxHeartbeats 1000000 in
theorem impl_ColSaid (t : Tbl) (A : Option Addr) (c : Nat) (A' : Option Addr) (c' : Nat) (col : Int) (w : World) (hw : Base w) (hc : Rd colR w A t.cols) (hr : Rd rowR w A' t.rows) (hi : -9223372036854775808 ≤ col) (hi2 : col ≤ 9223372036854775807) :
  Calls Tryz.prog 25 #[.agg #[.slice A t.cols.length c, .int .i64 t.head, .int .i64 t.foot, .slice A' t.rows.length c', .int .i64 t.gap], .int .i64 col] w (fun e w' => e = .returned (.agg #[.int .i64 (colSaid t col).k, .int .i64 (colSaid t col).n]) ∧ Below w.heap.size w w') := by
 have hT := fun (W : World) (h : Below w.heap.size w W) => impl_TblOk t A c A' c' W (hw.below h) (hc.below h) (hr.below h)
 have hS := fun (W : World) (h : Below w.heap.size w W) => impl_said t A c A' c' col W (hc.below h) hi hi2
 clear hc hr hw
 cases hok : tblOk t with
 | false =>
  rw [hok] at hT
  have hres : colSaid t col = ⟨0, 0⟩ := by unfold colSaid; rw [if_neg (by simp [hok])]
  rw [hres]
  clear hres hok hS
  go_enter Tryz.func25, Tryz.ntmps25
  go_wp2_with fail
  refine (hT _ (balloc (balloc (brefl _) _) _)).mono ?_
  rintro e w1 ⟨rfl, hb⟩
  obtain ⟨c0, f0, s0⟩ := seenBk w.heap.size (by first | (simp; omega) | simp [*]) hb
  obtain ⟨c1, f1, s1⟩ := seenBk (w.heap.size + 1) (by first | (simp; omega) | simp [*]) hb
  go_wp2_with fail
  refine bodyPost_ret (v := .agg #[.int .i64 0, .int .i64 0]) (by simp [results, Tryz.results25, go_sem, *]) rfl ⟨rfl, ?_⟩
  exact bset (bset (step (balloc (balloc (brefl _) _) _) hb) (by show _ ≤ w.heap.size + 1; omega) _) (by show _ ≤ w.heap.size + 1; omega) _
 | true =>
  rw [hok] at hT
  have hres : colSaid t col = saidOf t col := by unfold colSaid; rw [if_pos hok]
  rw [hres]
  clear hres hok
  go_enter Tryz.func25, Tryz.ntmps25
  go_wp2_with fail
  refine (hT _ (balloc (balloc (brefl _) _) _)).mono ?_
  rintro e w1 ⟨rfl, hb⟩
  obtain ⟨c0, f0, s0⟩ := seenBk w.heap.size (by first | (simp; omega) | simp [*]) hb
  obtain ⟨c1, f1, s1⟩ := seenBk (w.heap.size + 1) (by first | (simp; omega) | simp [*]) hb
  have HB := step (balloc (balloc (brefl w) _) _) hb
  go_wp2_with fail
  refine (hS _ HB).mono ?_
  rintro e w2 ⟨rfl, hb2⟩
  obtain ⟨c0', f0', s0'⟩ := seenBk w.heap.size (by simp [*]) hb2
  obtain ⟨c1', f1', s1'⟩ := seenBk (w.heap.size + 1) (by simp [*]) hb2
  go_wp2_with fail
  refine bodyPost_ret (v := .agg #[.int .i64 (saidOf t col).k, .int .i64 (saidOf t col).n]) (by simp [results, Tryz.results25, go_sem, *]) rfl ⟨rfl, ?_⟩
  exact bset (bset (step HB hb2) (by show _ ≤ w.heap.size + 1; omega) _) (by show _ ≤ w.heap.size + 1; omega) _
end Go.Proofs.YtpfagdmmhgcmnaaGreatDoor

namespace Go.Proofs.YtpfagdmmhgcmnaaGreatDoor
open Go.RowKit
variable {α : Type}
theorem flatMap_length (enc : α → List Value) (k : Nat) (hk : ∀ x, (enc x).length = k) (xs : List α) : (xs.flatMap enc).length = xs.length * k := by
 induction xs with
 | nil => simp
 | cons x xs ih => rw [List.flatMap_cons, List.length_append, ih, hk, List.length_cons, Nat.succ_mul]; omega
theorem flatMap_get (enc : α → List Value) (k : Nat) (hk : ∀ x, (enc x).length = k) : ∀ (xs : List α) (j i : Nat) (u : Value) (hj : j < xs.length), (enc xs[j])[i]? = some u → (xs.flatMap enc)[j * k + i]? = some u
 | x :: xs, 0, i, u, _, hu => by
  rw [List.flatMap_cons, Nat.zero_mul, Nat.zero_add]
  have hi : i < (enc x).length := (List.getElem?_eq_some_iff.1 hu).1
  rw [List.getElem?_append_left hi]; exact hu
 | x :: xs, j + 1, i, u, hj, hu => by
  rw [List.flatMap_cons, List.getElem?_append_right (by rw [hk, Nat.succ_mul]; omega), hk, show (j + 1) * k + i - k = j * k + i by rw [Nat.succ_mul]; omega]
  exact flatMap_get enc k hk xs j i u (by simpa using hj) hu
theorem own_rd {enc : α → List Value} {k : Nat} {hk : ∀ x, (enc x).length = k} {w : World} {base : Nat} {E : TypeId} {v : Value} {xs : List α} (h : w.ownsRow base E k v xs.length (xs.flatMap enc)) : IsSl (flat k enc hk) w v xs := by
 rcases h.2 with ⟨rfl, h0⟩ | ⟨g, cap, cur, rfl, hb, hh, h1, h2, h3, h4⟩
 ·
  have : xs = [] := List.eq_nil_of_length_eq_zero h0
  subst this
  exact ⟨none, 0, rfl, Nat.le_refl _, Rd.nil _ _ _⟩
 ·
  refine ⟨some ⟨g, 0, none⟩, cap, rfl, h1, by simp only [maxLen] at h2; omega, fun hn => ⟨g, 0, rfl, (Array.getElem?_eq_some_iff.1 hh).1, fun j hj => ⟨enc xs[j], rfl, fun i u hu => ?_⟩⟩⟩
  have hlt : i < k := by have := (List.getElem?_eq_some_iff.1 hu).1; rw [hk] at this; exact this
  have hjk : j * k + i < xs.length * k := Nat.lt_of_lt_of_le (show j * k + i < (j + 1) * k by rw [Nat.succ_mul]; omega) (Nat.mul_le_mul_right _ hj)
  have e := h.cellAt (j * k + i) hjk
  rw [flatMap_get enc k hk xs j i u hj hu] at e
  have e0 : (0 : Nat) + j * (flat k enc hk).sz + i = j * k + i := by show 0 + j * k + i = _; omega
  rw [e0]; exact e
theorem own_keep {w w' : World} {base : Nat} {E : TypeId} {k n : Nat} {v : Value} {xs : List Value} (h : w.ownsRow base E k v n xs) (hk : ∀ b, v.ownBlock = some b → w'.heap[b]? = w.heap[b]?) : w'.ownsRow base E k v n xs := by
 refine ⟨h.1, ?_⟩
 rcases h.2 with h0 | ⟨g, cap, cur, rfl, hb, hh, r⟩
 ·
  exact .inl h0
 ·
  exact .inr ⟨g, cap, cur, rfl, hb, (hk g rfl).trans hh, r⟩
theorem own_lt {w : World} {base : Nat} {E : TypeId} {k n : Nat} {v : Value} {xs : List Value} (h : w.ownsRow base E k v n xs) {b : Nat} (hb : v.ownBlock = some b) : base ≤ b ∧ b < w.heap.size := h.lt b hb
theorem own_below {w w' : World} {base : Nat} {E : TypeId} {k n : Nat} {v : Value} {xs : List Value} (h : w.ownsRow base E k v n xs) (hb : Below w.heap.size w w') : w'.ownsRow base E k v n xs :=
 own_keep h fun b e => hb.block b (own_lt h e).2
theorem own_base {w : World} {base base' : Nat} {E : TypeId} {k n : Nat} {v : Value} {xs : List Value} (h : w.ownsRow base E k v n xs) (hb : base' ≤ base) : w.ownsRow base' E k v n xs := by
 refine ⟨h.1, ?_⟩
 rcases h.2 with h0 | ⟨g, cap, cur, rfl, hg, r⟩
 ·
  exact .inl h0
 ·
  exact .inr ⟨g, cap, cur, rfl, by omega, r⟩
theorem heap_set (w : World) (a : Addr) (u : Value) (k : Nat) (h : k ≠ a.block) : (w.setCell a u).heap[k]? = w.heap[k]? := Below.heap_setCell w a u k h
def Apart (a b : Value) : Prop := ∀ k, a.ownBlock = some k → b.ownBlock ≠ some k
def rowCells (vs : List Value) (rows : List TRow) : List Value := (vs.zip rows).flatMap fun p => [p.1, .bool p.2.wh]
def RowsIn (w : World) (base : Nat) (E : TypeId) (vs : List Value) (rows : List TRow) : Prop :=
 vs.length = rows.length ∧ (∀ (j : Nat) (h : j < vs.length) (h' : j < rows.length), w.ownsRow base E 11 vs[j] rows[j].cs.length (rows[j].cs.flatMap cellE)) ∧ vs.Pairwise Apart
theorem RowsIn.nil (w : World) (base : Nat) (E : TypeId) : RowsIn w base E [] [] := ⟨rfl, fun _ h => absurd h (Nat.not_lt_zero _), List.Pairwise.nil⟩
theorem RowsIn.keep {w w' : World} {base : Nat} {E : TypeId} {vs : List Value} {rows : List TRow} (h : RowsIn w base E vs rows) (hk : ∀ b, base ≤ b → b < w.heap.size → w'.heap[b]? = w.heap[b]?) : RowsIn w' base E vs rows :=
 ⟨h.1, fun j h1 h2 => own_keep (h.2.1 j h1 h2) fun b hb => hk b (own_lt (h.2.1 j h1 h2) hb).1 (own_lt (h.2.1 j h1 h2) hb).2, h.2.2⟩
theorem RowsIn.snoc {w : World} {base : Nat} {E : TypeId} {vs : List Value} {rows : List TRow} {v : Value} {r : TRow} (h : RowsIn w base E vs rows) (hv : w.ownsRow base E 11 v r.cs.length (r.cs.flatMap cellE)) (ha : ∀ a ∈ vs, Apart a v) : RowsIn w base E (vs ++ [v]) (rows ++ [r]) := by
 refine ⟨by simp [h.1], fun j h1 h2 => ?_, ?_⟩
 ·
  rcases Nat.lt_or_ge j vs.length with hj | hj
  ·
   have hj' : j < rows.length := by rw [← h.1]; exact hj
   rw [List.getElem_append_left hj, List.getElem_append_left hj']
   exact h.2.1 j hj hj'
  ·
   have e : j = vs.length := by simp at h1; omega
   have e' : j = rows.length := by rw [← h.1]; exact e
   have g1 : (vs ++ [v])[j] = v := by rw [List.getElem_append_right (by omega)]; simp
   have g2 : (rows ++ [r])[j] = r := by rw [List.getElem_append_right (by omega)]; simp
   rw [g1, g2]; exact hv
 ·
  rw [List.pairwise_append]
  exact ⟨h.2.2, List.pairwise_singleton _ _, fun a ha' b hb => by rw [List.mem_singleton.1 hb]; exact ha a ha'⟩
theorem rowCells_snoc (vs : List Value) (rows : List TRow) (v : Value) (r : TRow) (h : vs.length = rows.length) : rowCells (vs ++ [v]) (rows ++ [r]) = rowCells vs rows ++ [v, .bool r.wh] := by
 unfold rowCells
 rw [List.zip_append h, List.flatMap_append]; rfl
def OwnRows (w : World) (base : Nat) (E F : TypeId) (v : Value) (rows : List TRow) : Prop :=
 ∃ vs, w.ownsRow base E 2 v rows.length (rowCells vs rows) ∧ RowsIn w base F vs rows ∧ ∀ a ∈ vs, Apart v a
theorem OwnRows.below {w w' : World} {base : Nat} {E F : TypeId} {v : Value} {rows : List TRow} (h : OwnRows w base E F v rows) (hb : Below w.heap.size w w') : OwnRows w' base E F v rows := by
 obtain ⟨vs, h1, h2, h3⟩ := h
 exact ⟨vs, own_below h1 hb, h2.keep fun b _ hlt => hb.block b hlt, h3⟩
theorem rowCells_get (vs : List Value) (rows : List TRow) : ∀ (j : Nat) (h1 : j < vs.length) (h2 : j < rows.length), (rowCells vs rows)[j * 2]? = some vs[j] ∧ (rowCells vs rows)[j * 2 + 1]? = some (.bool rows[j].wh) := by
 induction vs generalizing rows with
 | nil => intro j h; exact absurd h (Nat.not_lt_zero _)
 | cons v vs ih =>
  cases rows with
  | nil => intro j _ h; exact absurd h (Nat.not_lt_zero _)
  | cons r rows =>
   intro j h1 h2
   cases j with
   | zero => exact ⟨rfl, rfl⟩
   | succ j =>
    have := ih rows j (by simpa using h1) (by simpa using h2)
    have e : rowCells (v :: vs) (r :: rows) = v :: .bool r.wh :: rowCells vs rows := rfl
    rw [e, show (j + 1) * 2 = j * 2 + 1 + 1 by omega]
    exact this
theorem OwnRows.rd {w : World} {base : Nat} {E F : TypeId} {v : Value} {rows : List TRow} (h : OwnRows w base E F v rows) (hs : ∀ r ∈ rows, ∀ c ∈ r.cs, c.t.size ≤ 1048576) : IsSl rowR w v rows := by
 obtain ⟨vs, h1, h2, _⟩ := h
 rcases h1.2 with ⟨rfl, h0⟩ | ⟨g, cap, cur, rfl, hb, hh, k1, k2, k3, k4⟩
 ·
  have : rows = [] := List.eq_nil_of_length_eq_zero h0
  subst this
  exact ⟨none, 0, rfl, Nat.le_refl _, Rd.nil _ _ _⟩
 ·
  refine ⟨some ⟨g, 0, none⟩, cap, rfl, k1, by simp only [maxLen] at k2; omega, fun hn => ⟨g, 0, rfl, (Array.getElem?_eq_some_iff.1 hh).1, fun j hj => ?_⟩⟩
  have hv : j < vs.length := by rw [h2.1]; exact hj
  obtain ⟨g0, g1⟩ := rowCells_get vs rows j hv hj
  obtain ⟨A, c, e1, e2, e3⟩ := own_rd (enc := cellE) (k := 11) (hk := fun _ => rfl) (h2.2.1 j hv hj)
  refine ⟨[vs[j], .bool rows[j].wh], ⟨vs[j], rfl, A, c, e1, e2, e3.1, fun hn => ?_⟩, fun i u hu => ?_⟩
  ·
   obtain ⟨b, o, ha, hlt, hc⟩ := e3.2 hn
   refine ⟨b, o, ha, hlt, fun i hi => ?_⟩
   obtain ⟨cs, hk, hcell⟩ := hc i hi
   exact ⟨cs, ⟨hk, hs _ (List.getElem_mem hj) _ (List.getElem_mem hi)⟩, hcell⟩
  ·
   have e0 := h1.cellAt (j * 2) (by omega)
   have e1 := h1.cellAt (j * 2 + 1) (by omega)
   rw [g0] at e0
   rw [g1] at e1
   match i, hu with
   | 0, hu => simp at hu; subst hu; simpa [rowR] using e0
   | 1, hu => simp at hu; subst hu; simpa [rowR] using e1
theorem grow_refl (w : World) (r : Option Nat) : w.grownBy w r := World.grownBy.refl w r
theorem grow_trans {w w1 w2 : World} {r : Option Nat} (h : w.grownBy w1 r) (h' : w1.grownBy w2 r) : w.grownBy w2 r :=
 ⟨h'.os.trans h.os, h'.tape.trans h.tape, h'.output.trans h.output, Nat.le_trans h.size h'.size, fun k hk hne => (h'.block k (Nat.lt_of_lt_of_le hk h.size) hne).trans (h.block k hk hne)⟩
theorem grow_below {w w1 : World} {r : Option Nat} (h : Below w.heap.size w w1) : w.grownBy w1 r := ⟨h.os, h.tape, h.output, h.size, fun k hk _ => h.block k hk⟩
theorem grow_set (w : World) {g : Nat} {a : Addr} (ha : a.block = g) (u : Value) : w.grownBy (w.setCell a u) (some g) :=
 ⟨rfl, rfl, rfl, by simp, fun k _ hne => heap_set w a u k (fun e => hne (by rw [e, ha]))⟩
end Go.Proofs.YtpfagdmmhgcmnaaGreatDoor

namespace Go.Proofs.YtpfagdmmhgcmnaaGreatDoor
open Go.RowKit
def gcE (c : GCell) : List Value := [.int .i64 c.row, .int .i64 c.col, .int .i64 c.rows, .int .i64 c.cols, .int .i64 c.inn]
def SmZ (n : Int) : Prop := -1000000 ≤ n ∧ n ≤ 1000000
def GSm (x : GCell) : Prop := SmZ x.row ∧ SmZ x.col ∧ SmZ x.rows ∧ SmZ x.cols ∧ SmZ x.inn
def gcR : Rep GCell where
 sz := 5
 K := fun _ x cs => cs = gcE x ∧ GSm x
 len := by rintro w x cs ⟨rfl, _⟩; rfl
 below := fun _ h => h
def meets (a b : GCell) : Bool := decide (a.row < b.row + b.rows) && decide (b.row < a.row + a.rows) && decide (a.col < b.col + b.cols) && decide (b.col < a.col + a.cols)
def partOf (t : Tbl) (r : Int) : Int := if r < t.head then 0 else if (t.rows.length : Int) - t.foot ≤ r then 2 else 1
def endOf (t : Tbl) (r : Int) : Int := if r < t.head then t.head else if (t.rows.length : Int) - t.foot ≤ r then t.rows.length else t.rows.length - t.foot
def atCol (c : GCell) (k : Int) : GCell := { c with col := k }
def freeFrom (L : List GCell) (c : GCell) : Nat → Nat → Nat
 | 0, k => k
 | n + 1, k => if L.any (meets (atCol c k)) then freeFrom L c n (k + 1) else k
def cell0 (t : Tbl) (r i : Nat) (x : TCell) : GCell := ⟨r, 0, min x.r (endOf t r - r), x.c, i⟩
def step1 (m : Nat) (t : Tbl) (r i : Nat) (x : TCell) (S : List GCell × Int) : List GCell × Int :=
 let k := freeFrom S.1 (cell0 t r i x) m 0
 (S.1 ++ [atCol (cell0 t r i x) k], max S.2 (k + x.c))
def cellsSt (m : Nat) (t : Tbl) (r : Nat) : List TCell → Nat → List GCell × Int → List GCell × Int
 | [], _, S => S
 | x :: xs, i, S => cellsSt m t r xs (i + 1) (step1 m t r i x S)
def rowsSt (m : Nat) (t : Tbl) : List TRow → Nat → List GCell × Int → List GCell × Int
 | [], _, S => S
 | y :: ys, r, S => rowsSt m t ys (r + 1) (cellsSt m t r y.cs 0 S)
def grid0 (t : Tbl) : List GCell × Int := ([], max (t.cols.length : Int) 1)
def gridL (m : Nat) (t : Tbl) : List GCell × Int := rowsSt m t t.rows 0 (grid0 t)
set_option maxHeartbeats 1000000 in
theorem impl_meets (a b : GCell) (w : World) (ha : GSm a) (hb : GSm b) :
  Calls Tryz.prog 64 #[.agg #[.int .i64 a.row, .int .i64 a.col, .int .i64 a.rows, .int .i64 a.cols, .int .i64 a.inn], .agg #[.int .i64 b.row, .int .i64 b.col, .int .i64 b.rows, .int .i64 b.cols, .int .i64 b.inn]] w fun e w' => e = .returned (.bool (meets a b)) ∧ Below w.heap.size w w' := by
 obtain ⟨⟨a1, a2⟩, ⟨a3, a4⟩, ⟨a5, a6⟩, ⟨a7, a8⟩, _⟩ := ha
 obtain ⟨⟨b1, b2⟩, ⟨b3, b4⟩, ⟨b5, b6⟩, ⟨b7, b8⟩, _⟩ := hb
 unfold meets
 go_enter Tryz.func64, Tryz.ntmps64
 by_cases h1 : a.row < b.row + b.rows
 ·
  by_cases h2 : b.row < a.row + a.rows
  ·
   by_cases h3 : a.col < b.col + b.cols
   ·
    by_cases h4 : b.col < a.col + a.cols
    all_goals go_wp2_with fail
    all_goals go_ret
    all_goals exact ⟨by first | (simp [*]; done) | (simp [*]; omega), balloc (balloc (brefl _) _) _⟩
   ·
    go_wp2_with fail
    go_ret
    exact ⟨by first | (simp [*]; done) | (simp [*]; omega), balloc (balloc (brefl _) _) _⟩
  ·
   go_wp2_with fail
   go_ret
   exact ⟨by first | (simp [*]; done) | (simp [*]; omega), balloc (balloc (brefl _) _) _⟩
 ·
  go_wp2_with fail
  go_ret
  exact ⟨by first | (simp [*]; done) | (simp [*]; omega), balloc (balloc (brefl _) _) _⟩
set_option maxHeartbeats 1000000 in
theorem spec_meets (a b : GCell) (w : World) (ha : GSm a) (hb : GSm b) :
  Calls Tryz.prog 144 #[.agg #[.int .i64 a.row, .int .i64 a.col, .int .i64 a.rows, .int .i64 a.cols, .int .i64 a.inn], .agg #[.int .i64 b.row, .int .i64 b.col, .int .i64 b.rows, .int .i64 b.cols, .int .i64 b.inn]] w fun e w' => e = .returned (.bool (meets a b)) ∧ Below w.heap.size w w' := by
 obtain ⟨⟨a1, a2⟩, ⟨a3, a4⟩, ⟨a5, a6⟩, ⟨a7, a8⟩, _⟩ := ha
 obtain ⟨⟨b1, b2⟩, ⟨b3, b4⟩, ⟨b5, b6⟩, ⟨b7, b8⟩, _⟩ := hb
 unfold meets
 go_enter Tryz.func144, Tryz.ntmps144
 by_cases h1 : a.row < b.row + b.rows
 ·
  by_cases h2 : b.row < a.row + a.rows
  ·
   by_cases h3 : a.col < b.col + b.cols
   ·
    by_cases h4 : b.col < a.col + a.cols
    all_goals go_wp2_with fail
    all_goals go_ret
    all_goals exact ⟨by first | (simp [*]; done) | (simp [*]; omega), balloc (balloc (brefl _) _) _⟩
   ·
    go_wp2_with fail
    go_ret
    exact ⟨by first | (simp [*]; done) | (simp [*]; omega), balloc (balloc (brefl _) _) _⟩
  ·
   go_wp2_with fail
   go_ret
   exact ⟨by first | (simp [*]; done) | (simp [*]; omega), balloc (balloc (brefl _) _) _⟩
 ·
  go_wp2_with fail
  go_ret
  exact ⟨by first | (simp [*]; done) | (simp [*]; omega), balloc (balloc (brefl _) _) _⟩
theorem meets_comm (a b : GCell) : meets a b = meets b a := by
 unfold meets; rw [Bool.eq_iff_iff]; simp only [Bool.and_eq_true, decide_eq_true_eq]
 constructor <;> rintro ⟨⟨⟨h1, h2⟩, h3⟩, h4⟩ <;> exact ⟨⟨⟨h2, h1⟩, h4⟩, h3⟩
set_option maxHeartbeats 1000000 in
theorem impl_partX (t : Tbl) (A : Option Addr) (c : Nat) (A' : Option Addr) (c' : Nat) (r : Int) (w : World) (hl : t.rows.length ≤ 1000000) (hf : SmZ t.foot) :
  Calls Tryz.prog 62 #[.agg #[.slice A t.cols.length c, .int .i64 t.head, .int .i64 t.foot, .slice A' t.rows.length c', .int .i64 t.gap], .int .i64 r] w fun e w' => e = .returned (.int .i64 (partOf t r)) ∧ w' = w.alloc (.cells #[.slice A t.cols.length c, .int .i64 t.head, .int .i64 t.foot, .slice A' t.rows.length c', .int .i64 t.gap] 26) := by
 obtain ⟨f1, f2⟩ := hf
 unfold partOf
 go_enter Tryz.func62, Tryz.ntmps62
 by_cases h1 : r < t.head
 ·
  rw [if_pos h1]
  go_wp2_with fail
  go_ret
  exact ⟨rfl, rfl⟩
 ·
  rw [if_neg h1]
  by_cases h2 : (t.rows.length : Int) - t.foot ≤ r
  ·
   rw [if_pos h2]
   go_wp2_with fail
   go_ret
   exact ⟨rfl, rfl⟩
  ·
   rw [if_neg h2]
   go_wp2_with fail
   go_ret
   exact ⟨rfl, rfl⟩
end Go.Proofs.YtpfagdmmhgcmnaaGreatDoor

namespace Go.Proofs.YtpfagdmmhgcmnaaGreatDoor
open Go.RowKit
def Pred1 {α : Type} (P : Program) (g : Nat) (v : Value) (d : Rep α) (p : α → Bool) (w : World) : Prop :=
 ∀ (W : World) (x : α) (cs : List Value), Below w.heap.size w W → d.K W x cs → Calls P g #[v, agg cs] W fun e w' => e = .returned (.bool (p x)) ∧ Below W.heap.size W w'
variable {α : Type}
set_option maxHeartbeats 2000000 in
theorem idx1_GrdCell (d : Rep α) (hsz : d.sz = 5) (p : α → Bool) (g : Nat) (v : Value) (eg : ∀ args w, (callFunc g args).run Tryz.prog w = .ok (.enter g args) w) (A : Option Addr) (c : Nat) (xs : List α) (w : World)
  (hp : Pred1 Tryz.prog g v d p w) (hr : Rd d w A xs) :
  Calls Tryz.prog 111 #[.slice A xs.length c, .func (.func g) #[v] #[]] w fun e w' => e = .returned (.int .i64 (idxZ p xs)) ∧ Below w.heap.size w w' := by
 have hl := hr.1
 go_enter Tryz.func111, Tryz.ntmps111
 go_wp2
 go_loopg [5, 8] xs.length (fun gg _ s8 wr => ∃ kk : Nat, kk ≤ xs.length ∧ xs.length - kk ≤ gg ∧ s8 = .int .i64 kk ∧ Aside (Below w.heap.size w wr) ∧ Aside (∀ j (h : j < xs.length), j < kk → p xs[j] = false))
 case atStart => exact ⟨0, Nat.zero_le _, by omega, rfl, Below.refl _ w, fun j _ hj => absurd hj (Nat.not_lt_zero _)⟩
 case round =>
  obtain ⟨kk, hkk, hg, rfl, BW, AA⟩ := hrel
  by_cases hlt : kk < xs.length
  ·
   have hltz : (kk : Int) < (xs.length : Int) := by omega
   obtain ⟨b, o, c0, c1, c2, c3, c4, rfl, hblt, hK, h0, h1, h2, h3, h4⟩ := hr.at5 hsz BW.out kk hlt
   have hcall := hp wr _ _ BW.out hK
   clear hp hr
   cases hq : p xs[kk] with
   | true =>
    rw [hq] at hcall
    have Hq := hide hq; clear hq
    go_wp2_with (go_at_fn g; refine hcall.mono ?_; rintro e w' ⟨rfl, hb'⟩)
    go_ret
    exact ⟨by rw [idxZ_hit p xs kk hlt Hq.out AA.out]; rfl, step BW.out hb'⟩
   | false =>
    rw [hq] at hcall
    have Hq := hide hq; clear hq
    go_wp2_with (go_at_fn g; refine hcall.mono ?_; rintro e w' ⟨rfl, hb'⟩)
    go_roundg (xs.length - (kk + 1))
    case measure => omega
    case rel =>
     refine ⟨kk + 1, by omega, by omega, by go_num, step BW.out hb', (show Aside _ from fun j hj hjk => ?_)⟩
     by_cases e : j = kk
     ·
      subst e; exact Hq.out
     ·
      exact AA.out j hj (by omega)
  ·
   have hltz : ¬ (kk : Int) < (xs.length : Int) := by omega
   have hkl : kk = xs.length := by omega
   have HK := hide hkl; clear hkl
   go_wp2
   go_ret
   exact ⟨by rw [idxZ_miss p xs (fun j h _ => AA.out j h (by have := HK.out; omega))]; rfl, BW.out⟩
theorem any1_GrdCell (d : Rep α) (hsz : d.sz = 5) (p : α → Bool) (g : Nat) (v : Value) (eg : ∀ args w, (callFunc g args).run Tryz.prog w = .ok (.enter g args) w) (A : Option Addr) (c : Nat) (xs : List α) (w : World)
  (hp : Pred1 Tryz.prog g v d p w) (hr : Rd d w A xs) :
  Calls Tryz.prog 63 #[.slice A xs.length c, .func (.func g) #[v] #[]] w fun e w' => e = .returned (.bool (xs.any p)) ∧ Below w.heap.size w w' := by
 rw [← idxZ_any p xs]
 go_enter Tryz.func63, Tryz.ntmps63
 go_wp2_with (go_at_call 111; refine (idx1_GrdCell d hsz p g v eg A c xs w hp hr).mono ?_; rintro e w' ⟨rfl, hb'⟩)
 go_ret
 exact ⟨rfl, hb'⟩
theorem impl_meets1 (a : GCell) (w : World) (ha : GSm a) : Pred1 Tryz.prog 64 (.agg #[.int .i64 a.row, .int .i64 a.col, .int .i64 a.rows, .int .i64 a.cols, .int .i64 a.inn]) gcR (meets a) w := by
 rintro W x cs _ ⟨rfl, hx⟩
 exact impl_meets a x W ha hx
theorem any_take_hit {L : List GCell} {p : GCell → Bool} {k : Nat} (h : k < L.length) (hp : p L[k] = true) : L.any p = true := List.any_eq_true.2 ⟨_, List.getElem_mem h, hp⟩
theorem any_none {L : List GCell} {p : GCell → Bool} (h : ∀ j (hj : j < L.length), p L[j] = false) : L.any p = false := by
 rw [Bool.eq_false_iff]
 intro hn
 obtain ⟨x, hx, hp⟩ := List.any_eq_true.1 hn
 obtain ⟨j, hj, rfl⟩ := List.mem_iff_getElem.1 hx
 rw [h j hj] at hp; cases hp
set_option maxRecDepth 100000 in
set_option maxHeartbeats 2000000 in
theorem spec_free (L : List GCell) (A : Option Addr) (c : Nat) (a : GCell) (w : World) (hr : Rd gcR w A L) (ha : GSm a) :
  Calls Tryz.prog 107 #[.slice A L.length c, .agg #[.int .i64 a.row, .int .i64 a.col, .int .i64 a.rows, .int .i64 a.cols, .int .i64 a.inn]] w fun e w' => e = .returned (.bool (!L.any (meets a))) ∧ Below w.heap.size w w' := by
 have hl := hr.1
 go_enter Tryz.func107, Tryz.ntmps107
 go_wp2
 go_loopg [5] L.length (fun gg s5 wr => ∃ kk : Nat, kk ≤ L.length ∧ L.length - kk ≤ gg ∧ s5 = .int .i64 kk ∧ Aside (Below w.heap.size w wr) ∧ Aside (∀ j (h : j < L.length), j < kk → meets a L[j] = false) ∧
  wr.cell? ⟨w.heap.size, 0, none⟩ = some (.int .i64 a.row) ∧ wr.cell? ⟨w.heap.size, 1, none⟩ = some (.int .i64 a.col) ∧ wr.cell? ⟨w.heap.size, 2, none⟩ = some (.int .i64 a.rows) ∧ wr.cell? ⟨w.heap.size, 3, none⟩ = some (.int .i64 a.cols) ∧ wr.cell? ⟨w.heap.size, 4, none⟩ = some (.int .i64 a.inn) ∧ w.heap.size < wr.heap.size)
 case atStart => exact ⟨0, Nat.zero_le _, by omega, rfl, balloc (brefl w) _, fun j _ hj => absurd hj (Nat.not_lt_zero _), by simp, by simp, by simp, by simp, by simp, by simp⟩
 case round =>
  obtain ⟨kk, hkk, hg, rfl, BW, AA, g0, g1, g2, g3, g4, gl⟩ := hrel
  by_cases hlt : kk < L.length
  ·
   have hltz : (kk : Int) < (L.length : Int) := by omega
   obtain ⟨b, o, c0, c1, c2, c3, c4, rfl, hblt, hK, h0, h1, h2, h3, h4⟩ := hr.at5 rfl BW.out kk hlt
   obtain ⟨hK1, hK2⟩ := hK
   have hcall := fun (W : World) => spec_meets L[kk] a W hK2 ha
   simp only [gcE, List.cons.injEq, and_true] at hK1
   obtain ⟨rfl, rfl, rfl, rfl, rfl⟩ := hK1
   rw [meets_comm] at hcall
   clear hr
   cases hq : meets a L[kk] with
   | true =>
    rw [hq] at hcall
    have Hq := hide hq; clear hq
    go_wp2_with fail
    go_still_tail 5, (by kernel_rfl)
    go_wp2_with fail
    refine (hcall _).mono ?_
    rintro e w' ⟨rfl, hb'⟩
    go_wp2_with fail
    go_ret
    exact ⟨by rw [any_take_hit hlt Hq.out]; rfl, step (bdrew BW.out) hb'⟩
   | false =>
    rw [hq] at hcall
    have Hq := hide hq; clear hq
    go_wp2_with fail
    go_still_tail 5, (by kernel_rfl)
    go_wp2_with fail
    refine (hcall _).mono ?_
    rintro e w' ⟨rfl, hb'⟩
    obtain ⟨k0, l0, s0⟩ := seenBk w.heap.size (by simpa using gl) hb'
    go_wp2_with fail
    go_roundg (L.length - (kk + 1))
    case measure => omega
    case rel =>
     refine ⟨kk + 1, by omega, by omega, by go_num, step (bdrew BW.out) hb', (show Aside _ from fun j hj hjk => ?_), by simp [*], by simp [*], by simp [*], by simp [*], by simp [*], s0⟩
     by_cases e : j = kk
     ·
      subst e; exact Hq.out
     ·
      exact AA.out j hj (by omega)
  ·
   have hltz : ¬ (kk : Int) < (L.length : Int) := by omega
   have hkl : kk = L.length := by omega
   have HK := hide hkl; clear hkl
   go_wp2
   go_ret
   exact ⟨by rw [any_none (fun j h => AA.out j h (by have := HK.out; omega))]; rfl, BW.out⟩
end Go.Proofs.YtpfagdmmhgcmnaaGreatDoor

namespace Go.Proofs.YtpfagdmmhgcmnaaGreatDoor
open Go.RowKit
theorem free_le {L : List GCell} {c : GCell} {B : Nat} (hB : ∀ k : Nat, L.any (meets (atCol c k)) = true → k < B) : ∀ (m k : Nat), freeFrom L c m k ≤ max k B
 | 0, k => by simp [freeFrom]; omega
 | m + 1, k => by
  unfold freeFrom
  split
  ·
   rename_i h
   have := free_le hB m (k + 1)
   have := hB k h
   omega
  ·
   omega
theorem free_hit {L : List GCell} {c : GCell} {m k : Nat} (h : L.any (meets (atCol c k)) = true) : freeFrom L c (m + 1) k = freeFrom L c m (k + 1) := by rw [freeFrom, if_pos h]
theorem free_stop {L : List GCell} {c : GCell} {k : Nat} (h : L.any (meets (atCol c k)) = false) : ∀ m, freeFrom L c m k = k
 | 0 => rfl
 | m + 1 => by rw [freeFrom, if_neg (by simp [h])]
def GIn (n : Nat) (S : List GCell × Int) : Prop :=
 S.1.length ≤ n ∧ (∀ x ∈ S.1, (0 ≤ x.row ∧ x.row ≤ 8) ∧ (0 ≤ x.col ∧ x.col + x.cols ≤ 4 * n) ∧ (-8 ≤ x.rows ∧ x.rows ≤ 8) ∧ (1 ≤ x.cols ∧ x.cols ≤ 4) ∧ (0 ≤ x.inn ∧ x.inn ≤ 8)) ∧ 1 ≤ S.2 ∧ S.2 ≤ 8 + 4 * n
theorem GIn.sm {n : Nat} {S : List GCell × Int} (h : GIn n S) (hn : n ≤ 1000) : ∀ x ∈ S.1, GSm x := by
 intro x hx
 obtain ⟨⟨a1, a2⟩, ⟨a3, a4⟩, ⟨a5, a6⟩, ⟨a7, a8⟩, a9, a10⟩ := h.2.1 x hx
 refine ⟨?_, ?_, ?_, ?_, ?_⟩ <;> constructor <;> omega
theorem GIn.le {n n' : Nat} {S : List GCell × Int} (h : GIn n S) (hn : n ≤ n') : GIn n' S := by
 refine ⟨by have := h.1; omega, fun x hx => ?_, h.2.2.1, by have := h.2.2.2; omega⟩
 obtain ⟨b1, ⟨b2, b3⟩, b4⟩ := h.2.1 x hx
 exact ⟨b1, ⟨b2, by omega⟩, b4⟩
theorem GIn.blocked {n : Nat} {S : List GCell × Int} (h : GIn n S) (c : GCell) (k : Nat) (hb : S.1.any (meets (atCol c k)) = true) : k < 4 * n := by
 obtain ⟨x, hx, hm⟩ := List.any_eq_true.1 hb
 have := (h.2.1 x hx).2.1.2
 unfold meets at hm
 rw [Bool.and_eq_true, Bool.and_eq_true] at hm
 have h2 := of_decide_eq_true hm.1.2
 simp only [atCol] at h2
 omega
theorem GIn.free {n : Nat} {S : List GCell × Int} (h : GIn n S) (c : GCell) (m : Nat) : freeFrom S.1 c m 0 ≤ 4 * n := by
 have := free_le (fun k hk => h.blocked c k hk) m 0
 omega
theorem GIn.step {n : Nat} {S : List GCell × Int} (h : GIn n S) (m : Nat) (t : Tbl) (r i : Nat) (x : TCell) (hr : r ≤ 8) (hi : i ≤ 8) (hc : 1 ≤ x.c ∧ x.c ≤ 4) (hs : -8 ≤ (cell0 t r i x).rows ∧ (cell0 t r i x).rows ≤ 8) :
  GIn (n + 1) (step1 m t r i x S) := by
 have hk := h.free (cell0 t r i x) m
 unfold step1
 generalize freeFrom S.1 (cell0 t r i x) m 0 = K at hk ⊢
 dsimp only
 refine ⟨by simp only [List.length_append, List.length_singleton]; have := h.1; omega, ?_, ?_, ?_⟩
 ·
  intro y hy
  simp only [List.mem_append, List.mem_singleton] at hy
  rcases hy with hy | rfl
  ·
   obtain ⟨b1, ⟨b2, b3⟩, b4⟩ := h.2.1 y hy
   exact ⟨b1, ⟨b2, by omega⟩, b4⟩
  ·
   refine ⟨⟨?_, ?_⟩, ⟨?_, ?_⟩, hs, ?_, ?_, ?_⟩ <;> simp only [atCol, cell0] <;> omega
 ·
  have := h.2.2.1; omega
 ·
  have := h.2.2.2; omega
theorem GIn.zero (t : Tbl) (h : t.cols.length ≤ 8) : GIn 0 (grid0 t) := ⟨by simp [grid0], by simp [grid0], by simp only [grid0]; omega, by simp only [grid0]; omega⟩
theorem grown_seen {w w1 : World} {row : Option Nat} (hg : w.grownBy w1 row) (k : Nat) (hk : k < w.heap.size) (hne : row ≠ some k) :
  (∀ i, w1.cell? ⟨k, i, none⟩ = w.cell? ⟨k, i, none⟩) ∧ (∀ i, w1.frozen? ⟨k, i, none⟩ = w.frozen? ⟨k, i, none⟩) ∧ k < w1.heap.size := by
 have h := hg.block k hk (fun e => hne e.symm)
 exact ⟨fun i => World.cell?_of_block h, fun i => World.frozen?_of_block h, Nat.lt_of_lt_of_le hk hg.size⟩
theorem grown_below {w w1 : World} {row : Option Nat} {B : Nat} (hg : w.grownBy w1 row) (hB : B ≤ w.heap.size) (hne : ∀ k, row = some k → B ≤ k) : Below B w w1 :=
 ⟨hg.os, hg.tape, hg.output, hg.size, fun k hk => hg.block k (by omega) (fun e => by have := hne k e.symm; omega)⟩
theorem tblOk_parts {t : Tbl} (h : tblOk t = true) : (1 ≤ t.rows.length ∧ t.rows.length ≤ 8) ∧ t.cols.length ≤ 8 ∧ (0 ≤ t.gap ∧ t.gap ≤ 3) ∧ (0 ≤ t.head ∧ t.head ≤ t.rows.length) ∧ (0 ≤ t.foot ∧ t.foot ≤ t.rows.length - t.head) ∧
  (∀ x ∈ t.cols, colOk x = true) ∧ (∀ y ∈ t.rows, y.cs.length ≤ 5 ∧ ∀ x ∈ y.cs, cellOk x = true) := by
 simp only [tblOk, inB, Bool.and_eq_true, decide_eq_true_eq, List.all_eq_true] at h
 obtain ⟨⟨h1, h2⟩, h3, ⟨h4, h5⟩, ⟨h6, h7⟩, ⟨h8, h9⟩, h10, h11⟩ := h
 refine ⟨by omega, by omega, ⟨h4, h5⟩, ⟨h6, h7⟩, ⟨h8, h9⟩, h10, fun y hy => ?_⟩
 obtain ⟨k1, k2⟩ := h11 y hy
 exact ⟨by omega, k2⟩
theorem cellOk_parts {x : TCell} (h : cellOk x = true) : (1 ≤ x.c ∧ x.c ≤ 4) ∧ (1 ≤ x.r ∧ x.r ≤ 4) := by
 simp only [cellOk, inB, Bool.and_eq_true, decide_eq_true_eq] at h
 exact ⟨h.2.1, h.2.2.1⟩
theorem end_bounds {t : Tbl} (h : tblOk t = true) {r : Nat} (hr : r < t.rows.length) : (r : Int) < endOf t r ∧ endOf t r ≤ 8 := by
 obtain ⟨⟨_, h1⟩, _, _, ⟨h3, h4⟩, ⟨h5, h6⟩, _⟩ := tblOk_parts h
 unfold endOf
 split
 ·
  omega
 ·
  split <;> omega
theorem rows_bounds {t : Tbl} (h : tblOk t = true) {r : Nat} (hr : r < t.rows.length) (i : Nat) (x : TCell) (hx : 1 ≤ x.r ∧ x.r ≤ 4) : 1 ≤ (cell0 t r i x).rows ∧ (cell0 t r i x).rows ≤ 8 := by
 have := end_bounds h hr
 simp only [cell0]
 omega
theorem letter1 {f : World → Prop} {W : World} (h : ∀ wy, wy = W → f wy) : f W := h W rfl
theorem keepC {w w1 : World} (hb : Below w.heap.size w w1) {p : Addr} {v : Value} (h : w.cell? p = some v) : w1.cell? p = some v := (hb.cell (World.block_lt_of_cell? w _ h)).trans h
theorem keepF {w w1 : World} (hb : Below w.heap.size w w1) {k : Nat} (hk : k < w.heap.size) (h : ∀ i, w.frozen? ⟨k, i, none⟩ = false) : ∀ i, w1.frozen? ⟨k, i, none⟩ = false := fun i => ((seenBk k hk hb).2.1 i).trans (h i)
theorem max_int (ats : Array TypeId) (ty : TypeId) (k k' : IntKind) (x y : Int) : Builtin.max_ ats ty #[.int k x, .int k' y] = pure (.int k (max x y)) := by
 simp only [Builtin.max_, List.foldlM_cons, List.foldlM_nil, Builtin.max2, gt_iff_lt]
 have : (if x < y then y else x) = max x y := by split <;> omega
 rw [this]; rfl
theorem min_int (ats : Array TypeId) (ty : TypeId) (k k' : IntKind) (x y : Int) : Builtin.min_ ats ty #[.int k x, .int k' y] = pure (.int k (min x y)) := by
 simp only [Builtin.min_, List.foldlM_cons, List.foldlM_nil, Builtin.min2]
 have : (if y < x then y else x) = min x y := by split <;> omega
 rw [this]; rfl
theorem app_keep {w w2 : World} {o : Obj} {v : Value} (hg : (w.alloc o).grownBy w2 v.ownBlock) (b : Nat) (hb : b < w.heap.size) (hne : v.ownBlock ≠ some b) :
  (∀ i, w2.cell? ⟨b, i, none⟩ = w.cell? ⟨b, i, none⟩) ∧ (∀ i, w2.frozen? ⟨b, i, none⟩ = w.frozen? ⟨b, i, none⟩) ∧ b < w2.heap.size := by
 have hs : b < (w.alloc o).heap.size := by simp; omega
 obtain ⟨h1, h2, h3⟩ := grown_seen hg b hs hne
 obtain ⟨k1, k2, _⟩ := seenBk b hb (balloc (brefl w) o)
 exact ⟨fun i => (h1 i).trans (k1 i), fun i => (h2 i).trans (k2 i), h3⟩
theorem app_below {w0 w w2 : World} {o : Obj} {v : Value} {base E k n : Nat} {xs : List Value} (hB : Below w0.heap.size w0 w) (ho : w.ownsRow base E k v n xs) (hbase : w0.heap.size ≤ base) (hg : (w.alloc o).grownBy w2 v.ownBlock) : Below w0.heap.size w0 w2 :=
 (balloc hB o).trans (grown_below hg (by have := hB.size; simp; omega) (fun b hb => by have := (own_lt ho hb).1; omega))
theorem own_form {w : World} {base E k n : Nat} {v : Value} {xs : List Value} (h : w.ownsRow base E k v n xs) : ∃ A c, v = .slice A n c := by
 rcases h.2 with ⟨rfl, rfl⟩ | ⟨g, cap, cur, rfl, _⟩
 ·
  exact ⟨none, 0, rfl⟩
 ·
  exact ⟨_, _, rfl⟩
theorem own_set {w : World} {base E k n : Nat} {v : Value} {xs : List Value} (h : w.ownsRow base E k v n xs) {a : Addr} (ha : a.block < base) (u : Value) : (w.setCell a u).ownsRow base E k v n xs :=
 own_keep h fun b hb => heap_set w a u b (by have := (own_lt h hb).1; omega)
theorem setO {w : World} {a b : Addr} {u v : Value} (h : w.cell? b = some v) (hne : a ≠ b) : (w.setCell a u).cell? b = some v := by rw [World.cell?_setCell_other (h := hne)]; exact h
theorem setS {w : World} {a : Addr} {u v : Value} (h : w.cell? a = some u) : (w.setCell a v).cell? a = some v := by rw [World.cell?_setCell_same (h := h)]
theorem setF {w : World} {a : Addr} {u : Value} {b : Nat} (h : ∀ i, w.frozen? ⟨b, i, none⟩ = false) : ∀ i, (w.setCell a u).frozen? ⟨b, i, none⟩ = false := fun i => by rw [World.frozen?_setCell]; exact h i
theorem step_facts {m : Nat} {t : Tbl} {r i q : Nat} {x : TCell} {S : List GCell × Int} (hk : freeFrom S.1 (cell0 t r i x) m 0 = q) :
  (step1 m t r i x S).1 = S.1 ++ [⟨r, q, min x.r (endOf t r - r), x.c, i⟩] ∧ (step1 m t r i x S).2 = max S.2 (q + x.c) := by
 unfold step1; rw [hk]; exact ⟨rfl, rfl⟩
theorem step_own {m : Nat} {t : Tbl} {r i q : Nat} {x : TCell} {S : List GCell × Int} (hk : freeFrom S.1 (cell0 t r i x) m 0 = q) {w : World} {base E : Nat} {v : Value}
  (h : w.ownsRow base E 5 v (S.1.length + 1) (S.1.flatMap gcE ++ [.int .i64 r, .int .i64 q, .int .i64 (min x.r (endOf t r - r)), .int .i64 x.c, .int .i64 i])) :
  w.ownsRow base E 5 v (step1 m t r i x S).1.length ((step1 m t r i x S).1.flatMap gcE) := by
 rw [(step_facts hk).1]
 simpa [gcE, List.flatMap_append] using h
theorem news5 {w : World} {b : Nat} {u0 u1 u2 u3 u4 : Value} (h0 : w.cell? ⟨b, 0, none⟩ = some u0) (h1 : w.cell? ⟨b, 1, none⟩ = some u1) (h2 : w.cell? ⟨b, 2, none⟩ = some u2) (h3 : w.cell? ⟨b, 3, none⟩ = some u3) (h4 : w.cell? ⟨b, 4, none⟩ = some u4) :
  ∀ j u, [u0, u1, u2, u3, u4][j]? = some u → w.cell? ((⟨b, 0, none⟩ : Addr).add j) = some u := by
 intro j u hj
 have hadd : ∀ k, (⟨b, 0, none⟩ : Addr).add k = ⟨b, k, none⟩ := fun k => by rw [Addr.add_lit, Nat.zero_add]
 rw [hadd]
 match j, hj with
 | 0, hj => simp at hj; subst hj; exact h0
 | 1, hj => simp at hj; subst hj; exact h1
 | 2, hj => simp at hj; subst hj; exact h2
 | 3, hj => simp at hj; subst hj; exact h3
 | 4, hj => simp at hj; subst hj; exact h4
theorem ints5 (k : IntKind) (a b c d e : Int) : ∀ u ∈ [Value.int k a, .int k b, .int k c, .int k d, .int k e], u.oneCell' = true := by
 intro u hu
 simp only [List.mem_cons, List.not_mem_nil, or_false] at hu
 rcases hu with rfl | rfl | rfl | rfl | rfl <;> rfl
theorem infoG : (Tryz.prog.info? 39).map (fun i => (i.zero, i.size, i.bytes)) = some (some (.agg #[.int .i64 0, .int .i64 0, .int .i64 0, .int .i64 0, .int .i64 0]), 5, 40) := by kernel_rfl
theorem undG : Tryz.prog.underlying 33 = some (.slice 39) := by kernel_rfl
end Go.Proofs.YtpfagdmmhgcmnaaGreatDoor
