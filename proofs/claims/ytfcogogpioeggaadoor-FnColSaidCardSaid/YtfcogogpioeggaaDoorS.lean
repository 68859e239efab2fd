import Derived.Test.YtfcogogpioeggaaDoorA
namespace Go.Proofs.YtfcogogpioeggaaDoor
open Go.RowKit

theorem spec_l1In (n lo hi : Int) (w : World) :
    Calls Tryd.prog 49 #[.int .i64 n, .int .i64 lo, .int .i64 hi] w fun e w' => e = .returned (.bool (inB n lo hi)) ∧ w = w' := by
  unfold inB
  by_cases h1 : lo ≤ n <;> by_cases h2 : n ≤ hi
  all_goals
    go_enter Tryd.func49, Tryd.ntmps49
    go_wp2
    go_ret
    exact ⟨by simp [h1, h2], rfl⟩

set_option maxHeartbeats 1000000 in
theorem spec_TxtOk (s : ByteArray) (w : World) (hs : s.size ≤ 1048576) :
    Calls Tryd.prog 91 #[.string s] w fun e w' => e = .returned (.bool (txOk s)) ∧ w = w' := by
  have hsz : s.size = s.data.toList.length := Lib.size_eq s
  by_cases h30 : (30 : Int) < s.size
  · have hn : txOk s = false := by
      unfold txOk txtOk
      have h1 : s.data.toList.isEmpty = false := by cases h : s.data.toList <;> simp_all
      have h2 : decide (s.data.toList.length ≤ 30) = false := by simp; omega
      rw [h1, h2]; simp
    clear hsz
    go_enter Tryd.func91, Tryd.ntmps91
    go_wp2
    go_ret
    exact ⟨by rw [hn]; rfl, rfl⟩
  · have hle : s.data.toList.length ≤ 30 := by omega
    have HZ := hide hsz
    clear hsz
    go_enter Tryd.func91, Tryd.ntmps91
    go_wp2
    go_loopg [3] s.size (fun gg s3 wr => ∃ kk : Nat, kk ≤ s.size ∧ s.size - kk ≤ gg ∧ s3 = .int .i64 kk ∧ Aside (w = wr) ∧ Aside (okAt s.data.toList kk = okAt s.data.toList 0 ∧ (kk = s.size → 0 < kk → s.data.toList[kk - 1]? ≠ some 32)))
    case atStart => exact ⟨0, Nat.zero_le _, by omega, rfl, rfl, rfl, fun _ h => absurd h (Nat.lt_irrefl _)⟩
    case round =>
      obtain ⟨kk, hkk, hg, rfl, BW, AA⟩ := hrel
      by_cases hlt : kk < s.size
      · have hltz : (kk : Int) < (s.size : Int) := by omega
        have hll : kk < s.data.toList.length := by have := HZ.out; omega
        have hget : s.data.toList[kk] = s[kk] := rfl
        have hget1 : s.data.toList[kk - 1]? = some (s[kk - 1]'(by omega)) := Lib.data_getElem? s (kk - 1) (by omega)
        have hne : s.data.toList ≠ [] := by intro h; rw [h] at hll; simp at hll
        have hx0 : txOk s = okAt s.data.toList kk := by rw [AA.out.1]; exact (txtOk_okF _ hle hne).trans (by rfl)
        have HX := hide hx0
        have eq32 : ∀ c : UInt8, ((c.toNat : Int) == 32) = decide (c = 32) := fun c => by
          rw [Bool.eq_iff_iff]; simp [← UInt8.toNat_inj]; omega
        by_cases hA : s[kk] = 32
        · have hA' : ((s[kk].toNat : Int) == 32) = true := by rw [eq32]; simpa using hA
          have hA2 : ((s[kk].toNat : Int) != 32) = false := by rw [bne, hA']; rfl
          by_cases hbad : kk = 0 ∨ kk = s.size - 1 ∨ s[kk - 1] = 32
          · have hno : txOk s = false := by
              rw [hx0]
              refine okAt_bad _ kk hll (hget.trans hA) ?_
              rcases hbad with h | h | h
              · exact .inl h
              · exact .inr (.inl (by have := HZ.out; omega))
              · exact .inr (.inr (by rw [hget1, h]))
            have HNO := hide hno
            have HB := hide hbad
            have H32 := hide eq32
            clear hno hbad eq32 hA hget hget1 hne hx0
            go_wp2_with fail
            all_goals first | (go_ret; exact ⟨by rw [HNO.out]; rfl, BW.out⟩) | skip
            all_goals exfalso
            all_goals rcases HB.out with h | h | h
            all_goals first | omega | (simp [h] at *; done) | (simp_all; omega)
          · have h1 : ¬ kk = 0 := fun h => hbad (.inl h)
            have h2 : ¬ (kk : Int) = (s.size : Int) - 1 := fun h => hbad (.inr (.inl (by omega)))
            have h3 : ((s[kk - 1].toNat : Int) == 32) = false := by
              rw [eq32]; simpa using fun h => hbad (.inr (.inr h))
            have hgood : okAt s.data.toList (kk + 1) = okAt s.data.toList kk := okAt_good _ kk hll (hget.trans hA) h1 (by rw [hget1]; simpa using fun h => hbad (.inr (.inr h)))
            have h1b : ((kk : Int) == 0) = false := by simp; omega
            have h2b : ((kk : Int) == (s.size : Int) - 1) = false := by simp; omega
            have h4 : 1 ≤ (kk : Int) := by omega
            have h5 : (kk : Int) - 1 < s.size := by omega
            have HG := hide hgood
            clear hgood hbad eq32 hA hget hget1 hne hx0
            go_wp2_with fail
            go_roundg (s.size - (kk + 1))
            case measure => omega
            case rel =>
              refine ⟨kk + 1, by omega, by omega, by go_num, BW, (show Aside _ from ⟨HG.out.trans AA.out.1, fun h _ => by omega⟩)⟩
        · have hA' : ((s[kk].toNat : Int) == 32) = false := by rw [eq32]; simpa using hA
          have hA2 : ((s[kk].toNat : Int) != 32) = true := by rw [bne, hA']; rfl
          have h256 : (s[kk].toNat : Int) ≤ 255 := by have := s[kk].toNat_lt; omega
          have hlow : ∀ c : UInt8, inB (c.toNat : Int) 97 122 = lowB c := fun c => by
            unfold inB lowB
            rw [Bool.eq_iff_iff]; simp [UInt8.le_iff_toNat_le]; omega
          have hl := hlow s[kk]
          have hstep := okAt_low _ kk hll (by rw [hget]; exact hA)
          rw [hget] at hstep
          have hnx : kk + 1 = s.size → 0 < kk + 1 → s.data.toList[kk + 1 - 1]? ≠ some 32 := fun _ _ => by
            rw [show kk + 1 - 1 = kk from rfl, Lib.data_getElem? s kk hlt]; simpa using hA
          have HN := hide hnx
          have HS := hide hstep
          clear hnx hstep hlow eq32 hA hget hget1 hne hx0
          cases hb : lowB s[kk] with
          | true =>
            rw [hb] at hl
            have HB := hide hb; clear hb
            go_wp2_with (go_at_call 49; refine (spec_l1In _ _ _ _).mono ?_; rintro e w' ⟨rfl, rfl⟩)
            go_roundg (s.size - (kk + 1))
            case measure => omega
            case rel =>
              refine ⟨kk + 1, by omega, by omega, by go_num, BW, (show Aside _ from ⟨?_, HN.out⟩)⟩
              rw [← AA.out.1, HS.out, HB.out, Bool.true_and]
          | false =>
            rw [hb] at hl
            have HB := hide hb; clear hb
            go_wp2_with (go_at_call 49; refine (spec_l1In _ _ _ _).mono ?_; rintro e w' ⟨rfl, rfl⟩)
            go_ret
            exact ⟨by rw [HX.out, HS.out, HB.out]; rfl, BW.out⟩
      · have hltz : ¬ (kk : Int) < (s.size : Int) := by omega
        have hfin : txOk s = true := by
          by_cases h0 : s.data.toList = []
          · unfold txOk txtOk; rw [h0]; rfl
          · have hlen : s.data.toList.length = kk := by have := HZ.out; omega
            have h1 : txOk s = okAt s.data.toList 0 := (txtOk_okF _ hle h0).trans rfl
            have hp : 0 < s.data.toList.length := List.length_pos_iff.2 h0
            rw [h1, ← AA.out.1, ← hlen]
            exact okAt_end _ hp (by rw [hlen]; exact AA.out.2 (by omega) (by omega))
        have HFIN := hide hfin
        clear hfin
        go_wp2_with fail
        go_ret
        exact ⟨by rw [HFIN.out]; rfl, BW.out⟩

theorem spec_l2Col (x : TCol) (w : World) :
    Calls Tryd.prog 50 #[.agg #[.int .i64 x.k, .int .i64 x.n]] w fun e w' => e = .returned (.bool (colOk x)) ∧ Below w.heap.size w w' := by
  go_enter Tryd.func50, Tryd.ntmps50
  go_wp2_with (go_at_call 49; refine (spec_l1In _ _ _ _).mono ?_; rintro e w' ⟨rfl, rfl⟩)
  all_goals (go_ret; exact ⟨by simp_all [colOk], balloc (Below.refl _ _) _⟩)

theorem spec_BrdOk (b : Brd) (w : World) :
    Calls Tryd.prog 92 #[.agg #[.int .i64 b.s, .int .i64 b.w]] w fun e w' => e = .returned (.bool (brdOk b)) ∧ Below w.heap.size w w' := by
  have hfin : brdOk b = if b.s = 0 ∨ b.s = 4 then b.w == 0 else inB b.s 1 3 && inB b.w 1 3 := by
    unfold brdOk seenB
    by_cases h0 : b.s = 0
    · simp [h0, inB]
    · by_cases h4 : b.s = 4
      · simp [h4, inB]
      · cases h : inB b.s 1 3 <;> simp [h0, h4]
  rw [hfin]
  clear hfin
  by_cases h0 : b.s = 0
  · rw [if_pos (.inl h0)]
    have H := hide h0
    have h0b : (b.s == 0) = true := by simpa using h0
    clear h0
    go_enter Tryd.func92, Tryd.ntmps92
    go_wp2_with fail
    all_goals (go_ret; exact ⟨by simp_all, balloc (Below.refl _ _) _⟩)
  · by_cases h4 : b.s = 4
    · rw [if_pos (.inr h4)]
      have H := hide h4
      have h0b : (b.s == 0) = false := by simpa using h0
      have h4b : (b.s == 4) = true := by simpa using h4
      clear h4
      go_enter Tryd.func92, Tryd.ntmps92
      go_wp2_with fail
      all_goals (go_ret; exact ⟨by simp_all, balloc (Below.refl _ _) _⟩)
    · rw [if_neg (by simp [h0, h4])]
      have h0b : (b.s == 0) = false := by simpa using h0
      have h4b : (b.s == 4) = false := by simpa using h4
      go_enter Tryd.func92, Tryd.ntmps92
      go_wp2_with (go_at_call 49; refine (spec_l1In _ _ _ _).mono ?_; rintro e w' ⟨rfl, rfl⟩)
      all_goals (go_ret; exact ⟨by simp_all, balloc (Below.refl _ _) _⟩)

set_option maxHeartbeats 1000000 in
theorem spec_CellOk (x : TCell) (w : World) (hs : x.t.size ≤ 1048576) :
    Calls Tryd.prog 51 #[.agg (cellE x).toArray] w fun e w' => e = .returned (.bool (cellOk x)) ∧ Below w.heap.size w w' := by
  show Calls _ _ #[.agg #[.string x.t, .int .i64 x.c, .int .i64 x.r, .int .i64 x.top.s, .int .i64 x.top.w, .int .i64 x.right.s, .int .i64 x.right.w, .int .i64 x.bot.s, .int .i64 x.bot.w, .int .i64 x.left.s, .int .i64 x.left.w]] _ _
  have H := brefl (w.alloc (.cells #[.string x.t, .int .i64 x.c, .int .i64 x.r, .int .i64 x.top.s, .int .i64 x.top.w, .int .i64 x.right.s, .int .i64 x.right.w, .int .i64 x.bot.s, .int .i64 x.bot.w, .int .i64 x.left.s, .int .i64 x.left.w] 65))
  go_enter Tryd.func51, Tryd.ntmps51
  go_wp2_with (first | (go_at_call 49; refine (spec_l1In _ _ _ _).mono ?_; rintro e w' ⟨rfl, rfl⟩) | (go_at_call 91; refine (spec_TxtOk _ _ hs).mono ?_; rintro e w' ⟨rfl, rfl⟩) | (go_at_call 92; refine (spec_BrdOk ⟨_, _⟩ _).mono ?_; rintro e w' ⟨rfl, hb⟩; obtain ⟨H, hc, hf, hz, hn, h0⟩ := seenS H hb))
  all_goals (go_ret; refine ⟨?_, step (balloc (Below.refl _ _) _) H⟩)
  all_goals (clear hs; simp_all [cellOk])
end Go.Proofs.YtfcogogpioeggaaDoor
