import Derived.Test.YtpfagdmmhgcmnaaGreatDoorMixZR12R12ad
import Derived.BigRegion
import Derived.Shelf.RegionOpenPlain
import Derived.Deep.Cut
import Derived.Deep.CutRange
import Derived.Test.YtpfagdmmhgcmnaaGreatDoorMixZR12R12ab
import Derived.Test.YtpfagdmmhgcmnaaGreatDoorMixZR12R12aa
import Derived.Laws.IdiomStrings
set_option linter.unusedVariables false
set_option linter.unusedSimpArgs false
namespace Go.Proofs.YtpfagdmmhgcmnaaGreatDoor
open Go.RowKit
/- Go's stable sort: exchange of stretches, rotation, insertion. -/
set_option maxRecDepth 100000 in
set_option maxHeartbeats 4000000 in
theorem srt_swap (w0 : World) (base g c n : Nat) (cmp : Value) (a b k : Nat) (W : World) (L : List Nat) (h : SSt w0 base g c n W L) (ha : a + k ≤ n) (hb : b + k ≤ n) (hab : a < b) (hn : n ≤ 1000000) :
    Calls Tryz.prog 198 #[.slice (some ⟨g, 0, none⟩) n c, .int .i64 a, .int .i64 b, .int .i64 k, cmp] W fun e w' => e = .returned (.tuple #[]) ∧ SSt w0 base g c n w' (swapN L a b k) := by
  have H0 := hide h
  clear h
  go_enter Tryz.func198, Tryz.ntmps198
  go_wp2_with fail
  go_loopg [10] k (fun gg s10 wr => ∃ i : Nat, i ≤ k ∧ k - i ≤ gg ∧ s10 = .int .i64 i ∧ Aside (SSt w0 base g c n wr (swapN L a b i)))
  case atStart => exact ⟨0, Nat.zero_le _, by omega, rfl, H0.out⟩
  case round =>
    obtain ⟨i, hi, hg, rfl, HS⟩ := hrel
    by_cases hlt : i < k
    · have hltz : (i : Int) < (k : Int) := by omega
      obtain ⟨M, hM⟩ : ∃ M, M = swapN L a b i := ⟨_, rfl⟩
      have HS1 := HS.out
      rw [← hM] at HS1
      have ca := HS1.cell (j := a + i) (by omega)
      have cb := HS1.cell (j := b + i) (by omega)
      have fa := HS1.frozen (a + i)
      have fb := HS1.frozen (b + i)
      have t1 : IntKind.i64.wrap ((a : Int) + (i : Int)) = ((a + i : Nat) : Int) := by rw [IntKind.wrap_i64]; omega
      have t2 : IntKind.i64.wrap ((b : Int) + (i : Int)) = ((b + i : Nat) : Int) := by rw [IntKind.wrap_i64]; omega
      have z1 : ((a + i : Nat) : Int) < (n : Int) := by omega
      have z2 : ((b + i : Nat) : Int) < (n : Int) := by omega
      obtain ⟨x, hx⟩ : ∃ x, M.getD (a + i) 0 = x := ⟨_, rfl⟩
      obtain ⟨y, hy⟩ : ∃ y, M.getD (b + i) 0 = y := ⟨_, rfl⟩
      rw [hx] at ca
      rw [hy] at cb
      have HSN := (HS1.swap (i := a + i) (j := b + i) (by omega) (by omega)).drew
      rw [hx, hy] at HSN
      have HSH : Hid (SSt w0 base g c n ((wr.setCell ⟨g, a + i, none⟩ (.int .i64 y)).setCell ⟨g, b + i, none⟩ (.int .i64 x)).drew (swp M (a + i) (b + i))) := HSN
      have HM := hide hM
      clear HSN HS1 hx hy hM
      obtain ⟨p, hp⟩ : ∃ p, p = a + i := ⟨_, rfl⟩
      obtain ⟨q, hq⟩ : ∃ q, q = b + i := ⟨_, rfl⟩
      rw [← hp] at ca fa t1 z1 HSH
      rw [← hq] at cb fb t2 z2 HSH
      have n1 : ¬ p = q := by omega
      have n2 : ¬ q = p := by omega
      have HP := hide hp
      have HQ := hide hq
      clear hp hq
      go_wp2_with fail
      go_big_region
      go_wp2_with fail
      go_roundg (k - (i + 1))
      case measure => omega
      case rel => exact ⟨i + 1, by omega, by omega, by go_num, (show Aside _ from by have := HSH.out; rw [HP.out, HQ.out, HM.out] at this; rw [HP.out, HQ.out]; exact this)⟩
    · have hltz : ¬ (i : Int) < (k : Int) := by omega
      have hik := hide (show i = k by omega)
      go_wp2_with fail
      go_end0
      exact ⟨rfl, by rw [← hik.out]; exact HS.out⟩
set_option maxRecDepth 100000 in
set_option maxHeartbeats 4000000 in
theorem srt_rot (w0 : World) (base g c n : Nat) (cmp : Value) (a m b : Nat) (W : World) (L : List Nat) (h : SSt w0 base g c n W L) (ha : a < m) (hb : m < b) (hbn : b ≤ n) (hn : n ≤ 1000000) :
    Calls Tryz.prog 195 #[.slice (some ⟨g, 0, none⟩) n c, .int .i64 a, .int .i64 m, .int .i64 b, cmp] W fun e w' => e = .returned (.tuple #[]) ∧ SSt w0 base g c n w' (rotate a m b L) := by
  have H0 := hide h
  clear h
  have t1 : IntKind.i64.wrap ((m : Int) - (a : Int)) = ((m - a : Nat) : Int) := by rw [IntKind.wrap_i64]; omega
  have t2 : IntKind.i64.wrap ((b : Int) - (m : Int)) = ((b - m : Nat) : Int) := by rw [IntKind.wrap_i64]; omega
  go_enter Tryz.func195, Tryz.ntmps195
  go_wp2_with fail
  go_loopg [10, 11] (b - a) (fun gg s10 s11 wr => ∃ (i j fu : Nat) (M : List Nat), s10 = .int .i64 i ∧ s11 = .int .i64 j ∧ 0 < i ∧ 0 < j ∧ i ≤ m ∧ m + j ≤ n ∧ i + j ≤ fu ∧ fu ≤ gg ∧ Aside (SSt w0 base g c n wr M) ∧ Aside (rotL m fu i j M = rotate a m b L))
  case atStart => exact ⟨m - a, b - m, b - a, L, rfl, rfl, by omega, by omega, by omega, by omega, by omega, Nat.le_refl _, H0.out, (show Aside _ from rfl)⟩
  case round =>
    obtain ⟨i, j, fu, M, rfl, rfl, hi, hj, him, hjn, hg, hfg, HS, HR⟩ := hrel
    clear t1 t2
    obtain ⟨f, rfl⟩ : ∃ f, fu = f + 1 := ⟨fu - 1, by omega⟩
    have HR' := HR.out
    rw [rotL] at HR'
    have t1 : IntKind.i64.wrap ((m : Int) - (i : Int)) = ((m - i : Nat) : Int) := by rw [IntKind.wrap_i64]; omega
    by_cases hij : i = j
    · subst hij
      rw [if_pos rfl] at HR'
      have HR2 := hide HR'
      have hS := srt_swap w0 base g c n cmp (m - i) m i wr M HS.out (by omega) (by omega) (by omega) hn
      clear HR' HR
      go_wp2_with fail
      refine hS.mono ?_
      rintro e w' ⟨rfl, HS'⟩
      go_wp2_with fail
      go_end0
      exact ⟨rfl, by rw [← HR2.out]; exact HS'⟩
    · have hijz : ¬ (i : Int) = (j : Int) := by omega
      rw [if_neg hij] at HR'
      by_cases hlt : j < i
      · have hltz : (j : Int) < (i : Int) := by omega
        rw [if_pos hlt] at HR'
        have HR2 := hide HR'
        have t2 : IntKind.i64.wrap ((i : Int) - (j : Int)) = ((i - j : Nat) : Int) := by rw [IntKind.wrap_i64]; omega
        have hS := srt_swap w0 base g c n cmp (m - i) m j wr M HS.out (by omega) (by omega) (by omega) hn
        clear HR' HR
        go_wp2_with fail
        refine hS.mono ?_
        rintro e w' ⟨rfl, HS'⟩
        have HS2 := hide HS'
        clear HS' hS
        go_wp2_with fail
        go_roundg f
        case measure => omega
        case rel => exact ⟨i - j, j, f, _, rfl, rfl, by omega, by omega, by omega, by omega, by omega, Nat.le_refl _, HS2.out, HR2.out⟩
      · have hltz : ¬ (j : Int) < (i : Int) := by omega
        rw [if_neg hlt] at HR'
        have HR2 := hide HR'
        have t2 : IntKind.i64.wrap ((j : Int) - (i : Int)) = ((j - i : Nat) : Int) := by rw [IntKind.wrap_i64]; omega
        obtain ⟨u, hu⟩ : ∃ u, u = m + j := ⟨_, rfl⟩
        obtain ⟨v, hv⟩ : ∃ v, v = m + j - i := ⟨_, rfl⟩
        have t3 : IntKind.i64.wrap ((m : Int) + (j : Int)) = (u : Int) := by rw [IntKind.wrap_i64]; omega
        have t4 : IntKind.i64.wrap ((u : Int) - (i : Int)) = (v : Int) := by rw [IntKind.wrap_i64]; omega
        rw [← hv] at HR2
        have hS := srt_swap w0 base g c n cmp (m - i) v i wr M HS.out (by omega) (by omega) (by omega) hn
        have HU := hide hu
        have HV := hide hv
        clear hu hv
        clear HR' HR
        go_wp2_with fail
        refine hS.mono ?_
        rintro e w' ⟨rfl, HS'⟩
        have HS2 := hide HS'
        clear HS' hS
        go_wp2_with fail
        go_roundg f
        case measure => omega
        case rel => exact ⟨i, j - i, f, _, rfl, rfl, by omega, by omega, by omega, by omega, by omega, Nat.le_refl _, HS2.out, HR2.out⟩
theorem insIn_go {left : List Int} {a j : Nat} {L : List Nat} (h : a < j + 1) (hl : ltL left (L.getD (j + 1) 0) (L.getD j 0)) : insIn left a (j + 1) L = insIn left a j (swp L (j + 1) j) := by rw [insIn, if_pos ⟨h, hl⟩]
theorem insIn_stop {left : List Int} {a j : Nat} {L : List Nat} (hl : ¬ ltL left (L.getD (j + 1) 0) (L.getD j 0)) : insIn left a (j + 1) L = L := by rw [insIn, if_neg (fun h => hl h.2)]
theorem insIn_end {left : List Int} {a j : Nat} {L : List Nat} (h : j ≤ a) : insIn left a j L = L := by
  cases j with
  | zero => rfl
  | succ j => rw [insIn, if_neg (fun h' => by omega)]
theorem insOut_go {left : List Int} {a b i : Nat} {L : List Nat} (h : i < b) : insOut left a (b - i) i L = insOut left a (b - (i + 1)) (i + 1) (insIn left a i L) := by
  rw [show b - i = (b - (i + 1)) + 1 by omega, insOut]
theorem insOut_end {left : List Int} {a b i : Nat} {L : List Nat} (h : ¬ i < b) : insOut left a (b - i) i L = L := by
  rw [show b - i = 0 by omega, insOut]
set_option maxRecDepth 100000 in
set_option maxHeartbeats 8000000 in
theorem srt_ins (w0 : World) (base g c n : Nat) (f : Nat) (lb : Array Value) (left : List Int) (eg : ∀ args w, (callFunc f args).run Tryz.prog w = .ok (.enter f args) w) (hc : CmpOk f lb left n g w0) (a b : Nat) (W : World) (L : List Nat)
    (h : SSt w0 base g c n W L) (hab : a ≤ b) (hbn : b ≤ n) (hn : n ≤ 1000000) :
    Calls Tryz.prog 187 #[.slice (some ⟨g, 0, none⟩) n c, .int .i64 a, .int .i64 b, .func (.func f) #[] lb] W fun e w' => e = .returned (.tuple #[]) ∧ SSt w0 base g c n w' (insSort left a b L) := by
  have H0 := hide h
  have HC := hide hc
  clear h hc
  go_enter Tryz.func187, Tryz.ntmps187
  go_wp2_with fail
  go_loopg [8] (b - a) (fun gg s8 wr => ∃ (i : Nat) (M : List Nat), s8 = .int .i64 i ∧ a < i ∧ i ≤ b + 1 ∧ b - i ≤ gg ∧ Aside (SSt w0 base g c n wr M) ∧ Aside (insOut left a (b - i) i M = insSort left a b L))
  case atStart => exact ⟨a + 1, L, by go_num, by omega, by omega, by omega, H0.out, (show Aside _ from rfl)⟩
  case round =>
    obtain ⟨i, M, rfl, hai, hib, hg, HS, HO⟩ := hrel
    by_cases hlt : i < b
    · have hltz : (i : Int) < (b : Int) := by omega
      have HO1 := HO.out
      rw [insOut_go hlt] at HO1
      have HO2 := hide HO1
      clear HO HO1
      go_wp2_with fail
      go_loopg [9] i (fun g2 s9 wr2 => ∃ (j : Nat) (N : List Nat), s9 = .int .i64 j ∧ a ≤ j ∧ j ≤ i ∧ j ≤ g2 ∧ Aside (SSt w0 base g c n wr2 N) ∧ Aside (insIn left a j N = insIn left a i M))
      case atStart => exact ⟨i, M, rfl, by omega, Nat.le_refl _, Nat.le_refl _, HS.out, (show Aside _ from rfl)⟩
      case round =>
        obtain ⟨j, N, rfl, haj, hji, hg2, HT, HI⟩ := hrel
        by_cases hja : a < j
        · obtain ⟨jp, rfl⟩ : ∃ jp, j = jp + 1 := ⟨j - 1, by omega⟩
          have HT1 := HT.out
          have ca := HT1.cell (j := jp + 1) (by omega)
          have cb := HT1.cell (j := jp) (by omega)
          have fa := HT1.frozen (jp + 1)
          have fb := HT1.frozen jp
          have hx1 := HT1.get (j := jp + 1) (by omega)
          have hy1 := HT1.get (j := jp) (by omega)
          have hcall := fun q => HC.out (wr.drewN q) _ _ (HT1.drewN q).grow hx1 hy1
          have hltl := cmpZ_lt left (N.getD (jp + 1) 0) (N.getD jp 0)
          have hsw := fun q => ((HT1.drewN q).swap (i := jp + 1) (j := jp) (by omega) (by omega)).drew
          have HN1 := fun (hl : ltL left (N.getD (jp + 1) 0) (N.getD jp 0)) => insIn_go (a := a) (L := N) hja hl
          have HN2 := fun (hl : ¬ ltL left (N.getD (jp + 1) 0) (N.getD jp 0)) => insIn_stop (a := a) (L := N) hl
          generalize N.getD (jp + 1) 0 = x at ca hcall hltl hsw HN1 HN2
          generalize N.getD jp 0 = y at cb hcall hltl hsw HN1 HN2
          generalize hcz : cmpZ left x y = cz at hcall hltl
          obtain ⟨j1, hj1⟩ : ∃ j1, j1 = jp + 1 := ⟨_, rfl⟩
          have e0 : ((jp : Int) + 1) = (j1 : Int) := by omega
          have t1 : IntKind.i64.wrap ((j1 : Int) - 1) = (jp : Int) := by rw [IntKind.wrap_i64]; omega
          have z1 : (j1 : Int) < (n : Int) := by omega
          have z2 : (jp : Int) < (n : Int) := by omega
          have hjaz : (a : Int) < (j1 : Int) := by omega
          have n1 : ¬ j1 = jp := by omega
          have n2 : ¬ jp = j1 := by omega
          rw [← hj1] at ca fa hsw HN1 HN2 HI ⊢
          have J1 := hide hj1
          have HSW : Hid (∀ q, SSt w0 base g c n (((wr.drewN q).setCell ⟨g, j1, none⟩ (.int .i64 y)).setCell ⟨g, jp, none⟩ (.int .i64 x)).drew (swp N j1 jp)) := hsw
          clear hsw hj1 HT1 e0
          have HN1 := hide HN1
          have HN2 := hide HN2
          by_cases hlv : cz < 0
          · have HLL := hide (hltl.1 hlv)
            clear hltl hcz
            go_wp2_with fail
            go_quiet (first | (go_at_fn f; refine Calls.quiet_of (hcall _)))
            go_wp2_with fail
            have ca2 : (wr.drewN nq).cell? ⟨g, j1, none⟩ = some (.int .i64 (x : Int)) := ca
            have cb2 : (wr.drewN nq).cell? ⟨g, jp, none⟩ = some (.int .i64 (y : Int)) := cb
            have fa2 : (wr.drewN nq).frozen? ⟨g, j1, none⟩ = false := fa
            have fb2 : (wr.drewN nq).frozen? ⟨g, jp, none⟩ = false := fb
            have HS2 := hide (HSW.out nq)
            clear ca cb fa fb hcall HSW
            generalize wr.drewN nq = wq at ca2 cb2 fa2 fb2 HS2 ⊢
            go_big_region
            go_wp2_with fail
            go_roundg jp
            case measure => omega
            case rel => exact ⟨jp, _, by first | rfl | go_num, by omega, by omega, Nat.le_refl _, HS2.out, (show Aside _ from (HN1.out HLL.out).symm.trans HI.out)⟩
          · have HLL := hide (fun hl => hlv (hltl.2 hl))
            clear hltl hcz
            go_wp2_with fail
            go_quiet (first | (go_at_fn f; refine Calls.quiet_of (hcall _)))
            go_wp2_with fail
            go_roundg (b - (i + 1))
            case measure => omega
            case rel => exact ⟨i + 1, N, by go_num, by omega, by omega, by omega, HT.out.drewN _, (show Aside _ from by
                have h1 := HO2.out
                rw [← HI.out, HN2.out HLL.out] at h1
                exact h1)⟩
        · have hjaz : decide ((j : Int) > (a : Int)) = false := decide_eq_false (by omega)
          have hjaz' : ¬ (a : Int) < (j : Int) := by omega
          go_wp2_with fail
          go_quiet (fail)
          go_wp2_with fail
          go_roundg (b - (i + 1))
          case measure => omega
          case rel => exact ⟨i + 1, N, by go_num, by omega, by omega, by omega, HT.out.drewN _, (show Aside _ from by
              have h1 := HO2.out
              rw [← HI.out, insIn_end (by omega)] at h1
              exact h1)⟩
    · have hltz : ¬ (i : Int) < (b : Int) := by omega
      have hh := HO.out
      rw [insOut_end hlt] at hh
      have HH := hide hh
      clear HO hh
      go_wp2_with fail
      go_end0
      exact ⟨rfl, by rw [← HH.out]; exact HS.out⟩
end Go.Proofs.YtpfagdmmhgcmnaaGreatDoor

namespace Go.Proofs.YtpfagdmmhgcmnaaGreatDoor
open Go.RowKit
/- Go's stable sort: the merge. -/
theorem bs_yes {p : Nat → Bool} {f i j : Nat} (h : i < j) (hp : p ((i + j) / 2) = true) : bs p (f + 1) i j = bs p f ((i + j) / 2 + 1) j := by rw [bs, if_pos h, if_pos hp]
theorem bs_no {p : Nat → Bool} {f i j : Nat} (h : i < j) (hp : p ((i + j) / 2) = false) : bs p (f + 1) i j = bs p f i ((i + j) / 2) := by rw [bs, if_pos h, if_neg (by simp [hp])]
theorem bs_end {p : Nat → Bool} {f i j : Nat} (h : ¬ i < j) : bs p f i j = i := by
  cases f with
  | zero => rfl
  | succ f => rw [bs, if_neg h]
set_option maxRecDepth 100000 in
set_option maxHeartbeats 8000000 in
/-- The first stretch has one element. -/
theorem sym_one (w0 : World) (base g c n : Nat) (f : Nat) (lb : Array Value) (left : List Int) (eg : ∀ args w, (callFunc f args).run Tryz.prog w = .ok (.enter f args) w) (hc : CmpOk f lb left n g w0) (fu a m b : Nat) (W : World) (L : List Nat)
    (h : SSt w0 base g c n W L) (ham : a < m) (hmb : m < b) (hbn : b ≤ n) (hn : n ≤ 1000000) (h1 : m - a = 1) :
    Calls Tryz.prog 188 #[.slice (some ⟨g, 0, none⟩) n c, .int .i64 a, .int .i64 m, .int .i64 b, .func (.func f) #[] lb] W (fun e w' => e = .returned (.tuple #[]) ∧ SSt w0 base g c n w' (symM left (fu + 1) a m b L)) := by
  have H0 := hide h
  have HC := hide hc
  have HD : Hid (symM left (fu + 1) a m b L = shR L a (bs (oneP left a L) (b - m) m b - 1 - a)) := by show symM _ _ _ _ _ _ = _; rw [symM, if_pos h1]
  rw [HD.out]
  clear h hc
  have t0 : IntKind.i64.wrap ((m : Int) - (a : Int)) = 1 := by rw [IntKind.wrap_i64]; omega
  go_enter Tryz.func188, Tryz.ntmps188
  go_wp2_with fail
  go_loopg [10, 11] (b - m) (fun gg s10 s11 wr => ∃ (i j fv : Nat), s10 = .int .i64 i ∧ s11 = .int .i64 j ∧ m ≤ i ∧ i ≤ j ∧ j ≤ b ∧ j - i ≤ fv ∧ fv ≤ gg ∧ Aside (SSt w0 base g c n wr L) ∧ Aside (bs (oneP left a L) fv i j = bs (oneP left a L) (b - m) m b))
  case atStart => exact ⟨m, b, b - m, rfl, rfl, by omega, by omega, by omega, by omega, Nat.le_refl _, H0.out, (show Aside _ from rfl)⟩
  case round =>
    obtain ⟨i, j, fv, rfl, rfl, hi, hij, hj, hfv, hg, HS, HB⟩ := hrel
    by_cases hlt : i < j
    · have hltz : (i : Int) < (j : Int) := by omega
      obtain ⟨fv, rfl⟩ : ∃ f', fv = f' + 1 := ⟨fv - 1, by omega⟩
      obtain ⟨h, hh⟩ : ∃ h, h = (i + j) / 2 := ⟨_, rfl⟩
      have HY := fun hp => bs_yes (p := oneP left a L) (f := fv) hlt hp
      have HN := fun hp => bs_no (p := oneP left a L) (f := fv) hlt hp
      rw [← hh] at HY HN
      have hpd : oneP left a L h = decide (ltL left (L.getD h 0) (L.getD a 0)) := rfl
      have ch := HS.out.cell (j := h) (by omega)
      have ca := HS.out.cell (j := a) (by omega)
      have hx := HS.out.get (j := h) (by omega)
      have hy := HS.out.get (j := a) (by omega)
      have hcall := fun q => HC.out (wr.drewN q) _ _ (HS.out.drewN q).grow hx hy
      have hltl := cmpZ_lt left (L.getD h 0) (L.getD a 0)
      rw [Bool.eq_iff_iff, decide_eq_true_iff, ← hltl] at hpd
      generalize L.getD h 0 = x at ch hcall hpd
      generalize L.getD a 0 = y at ca hcall hpd
      generalize cmpZ left x y = cz at hcall hpd
      clear hltl hx hy
      obtain ⟨u, hu⟩ : ∃ u, u = i + j := ⟨_, rfl⟩
      have t1 : IntKind.i64.wrap ((i : Int) + (j : Int)) = (u : Int) := by rw [IntKind.wrap_i64]; omega
      have t2 : IntKind.u64.wrap (u : Int) = (u : Int) := by rw [IntKind.wrap_u64]; omega
      have t3 : IntKind.i64.wrap ((u : Int) / 2) = (h : Int) := by rw [IntKind.wrap_i64]; omega
      have t4 : IntKind.i64.wrap ((h : Int) + 1) = ((h + 1 : Nat) : Int) := by rw [IntKind.wrap_i64]; omega
      have z1 : (h : Int) < (n : Int) := by omega
      have z2 : (a : Int) < (n : Int) := by omega
      have HH := hide hh
      have HU := hide hu
      have HY := hide HY
      have HN := hide HN
      have HPD := hide hpd
      clear hh hu hpd
      go_wp2_with fail
      by_cases hlv : cz < 0
      · have HP := hide (HY.out (HPD.out.2 hlv))
        clear HY HN HPD
        go_quiet (first | (go_at_fn f; refine Calls.quiet_of (hcall _)))
        go_wp2_with fail
        go_roundg fv
        case measure => omega
        case rel => exact ⟨h + 1, j, fv, by first | rfl | go_num, rfl, by have := HH.out; omega, by have := HH.out; omega, by omega, by have := HH.out; omega, Nat.le_refl _, HS.out.drewN _, (show Aside _ from HP.out.symm.trans HB.out)⟩
      · have HP := hide (HN.out (by rw [Bool.eq_false_iff]; exact fun e => hlv (HPD.out.1 e)))
        clear HY HN HPD
        go_quiet (first | (go_at_fn f; refine Calls.quiet_of (hcall _)))
        go_wp2_with fail
        go_roundg fv
        case measure => omega
        case rel => exact ⟨i, h, fv, rfl, rfl, by omega, by have := HH.out; omega, by have := HH.out; omega, by have := HH.out; omega, Nat.le_refl _, HS.out.drewN _, (show Aside _ from HP.out.symm.trans HB.out)⟩
    · have hltz : ¬ (i : Int) < (j : Int) := by omega
      have hb1 := HB.out
      rw [bs_end hlt] at hb1
      have HB1 := hide hb1
      clear HB hb1
      obtain ⟨e, he⟩ : ∃ e, e = i - 1 := ⟨_, rfl⟩
      have t1 : IntKind.i64.wrap ((i : Int) - 1) = (e : Int) := by rw [IntKind.wrap_i64]; omega
      have HE := hide he
      have hae : a ≤ e := by omega
      have hei : e < n := by omega
      clear he t0
      go_wp2_with fail
      go_loopg [13] (e - a) (fun gg s13 wr => ∃ (k : Nat) (M : List Nat), s13 = .int .i64 k ∧ a ≤ k ∧ k ≤ e ∧ e - k ≤ gg ∧ Aside (SSt w0 base g c n wr M) ∧ Aside (shR M k (e - k) = shR L a (e - a)))
      case atStart => exact ⟨a, L, rfl, Nat.le_refl _, by omega, by omega, HS.out, (show Aside _ from rfl)⟩
      case round =>
        obtain ⟨k, M, rfl, hak, hke, hg2, HS, HR⟩ := hrel
        by_cases hlt2 : k < e
        · have hltz2 : (k : Int) < (e : Int) := by omega
          have hr := HR.out
          rw [show e - k = (e - (k + 1)) + 1 by omega, shR] at hr
          have HR2 := hide hr
          clear hr HR
          obtain ⟨k1, hk1⟩ : ∃ k1, k1 = k + 1 := ⟨_, rfl⟩
          have ca := HS.out.cell (j := k) (by omega)
          have cb := HS.out.cell (j := k1) (by omega)
          have fa := HS.out.frozen k
          have fb := HS.out.frozen k1
          have hsw := (HS.out.swap (i := k) (j := k1) (by omega) (by omega)).drew
          generalize M.getD k 0 = x at ca hsw
          generalize M.getD k1 0 = y at cb hsw
          have t2 : IntKind.i64.wrap ((k : Int) + 1) = (k1 : Int) := by rw [IntKind.wrap_i64]; omega
          have z1 : (k : Int) < (n : Int) := by omega
          have z2 : (k1 : Int) < (n : Int) := by omega
          have n1 : ¬ k = k1 := by omega
          have n2 : ¬ k1 = k := by omega
          rw [← hk1] at HR2
          have HK := hide hk1
          have HSW := hide hsw
          clear hk1 hsw
          go_wp2_with fail
          go_big_region
          go_wp2_with fail
          go_roundg (e - (k + 1))
          case measure => omega
          case rel => exact ⟨k1, _, by first | rfl | go_num, by have := HK.out; omega, by have := HK.out; omega, by have := HK.out; omega, HSW.out, HR2.out⟩
        · have hltz2 : ¬ (k : Int) < (e : Int) := by omega
          have hr := HR.out
          rw [show e - k = 0 by omega, shR] at hr
          have HR2 := hide hr
          clear hr HR
          go_wp2_with fail
          exact bodyPost_ret (v := .tuple #[]) (by simp [results, Tryz.results188, go_sem]) rfl ⟨rfl, by rw [← HB1.out, ← HE.out, ← HR2.out]; exact HS.out⟩
set_option maxRecDepth 100000 in
set_option maxHeartbeats 8000000 in
/-- The second stretch has one element. -/
theorem sym_last (w0 : World) (base g c n : Nat) (f : Nat) (lb : Array Value) (left : List Int) (eg : ∀ args w, (callFunc f args).run Tryz.prog w = .ok (.enter f args) w) (hc : CmpOk f lb left n g w0) (fu a m b : Nat) (W : World) (L : List Nat)
    (h : SSt w0 base g c n W L) (ham : a < m) (hmb : m < b) (hbn : b ≤ n) (hn : n ≤ 1000000) (h1 : ¬ m - a = 1) (h2 : b - m = 1) :
    Calls Tryz.prog 188 #[.slice (some ⟨g, 0, none⟩) n c, .int .i64 a, .int .i64 m, .int .i64 b, .func (.func f) #[] lb] W (fun e w' => e = .returned (.tuple #[]) ∧ SSt w0 base g c n w' (symM left (fu + 1) a m b L)) := by
  have H0 := hide h
  have HC := hide hc
  have HD : Hid (symM left (fu + 1) a m b L = shL L m (m - bs (lastP left m L) (m - a) a m)) := by show symM _ _ _ _ _ _ = _; rw [symM, if_neg h1, if_pos h2]
  rw [HD.out]
  clear h hc
  obtain ⟨ma, hma⟩ : ∃ ma, ma = m - a := ⟨_, rfl⟩
  have t00 : IntKind.i64.wrap ((m : Int) - (a : Int)) = (ma : Int) := by rw [IntKind.wrap_i64]; omega
  have tne : ((ma : Int) == 1) = false := by simp; omega
  have t0 : IntKind.i64.wrap ((b : Int) - (m : Int)) = 1 := by rw [IntKind.wrap_i64]; omega
  have HMA := hide hma
  clear hma
  go_enter Tryz.func188, Tryz.ntmps188
  go_wp2_with fail
  go_loopg [14, 15] (m - a) (fun gg s14 s15 wr => ∃ (i j fv : Nat), s14 = .int .i64 i ∧ s15 = .int .i64 j ∧ a ≤ i ∧ i ≤ j ∧ j ≤ m ∧ j - i ≤ fv ∧ fv ≤ gg ∧ Aside (SSt w0 base g c n wr L) ∧ Aside (bs (lastP left m L) fv i j = bs (lastP left m L) (m - a) a m))
  case atStart => exact ⟨a, m, m - a, rfl, rfl, by omega, by omega, by omega, by omega, Nat.le_refl _, H0.out, (show Aside _ from rfl)⟩
  case round =>
    obtain ⟨i, j, fv, rfl, rfl, hi, hij, hj, hfv, hg, HS, HB⟩ := hrel
    by_cases hlt : i < j
    · have hltz : (i : Int) < (j : Int) := by omega
      obtain ⟨fv, rfl⟩ : ∃ f', fv = f' + 1 := ⟨fv - 1, by omega⟩
      obtain ⟨h, hh⟩ : ∃ h, h = (i + j) / 2 := ⟨_, rfl⟩
      have HY := fun hp => bs_yes (p := lastP left m L) (f := fv) hlt hp
      have HN := fun hp => bs_no (p := lastP left m L) (f := fv) hlt hp
      rw [← hh] at HY HN
      have hpd : lastP left m L h = !decide (ltL left (L.getD m 0) (L.getD h 0)) := rfl
      have ch := HS.out.cell (j := h) (by omega)
      have ca := HS.out.cell (j := m) (by omega)
      have hx := HS.out.get (j := h) (by omega)
      have hy := HS.out.get (j := m) (by omega)
      have hcall := fun q => HC.out (wr.drewN q) _ _ (HS.out.drewN q).grow hy hx
      have hltl := cmpZ_lt left (L.getD m 0) (L.getD h 0)
      rw [Bool.eq_iff_iff, Bool.not_eq_true', decide_eq_false_iff_not, ← hltl] at hpd
      generalize L.getD h 0 = x at ch hcall hpd
      generalize L.getD m 0 = y at ca hcall hpd
      generalize cmpZ left y x = cz at hcall hpd
      clear hltl hx hy
      obtain ⟨u, hu⟩ : ∃ u, u = i + j := ⟨_, rfl⟩
      have t1 : IntKind.i64.wrap ((i : Int) + (j : Int)) = (u : Int) := by rw [IntKind.wrap_i64]; omega
      have t2 : IntKind.u64.wrap (u : Int) = (u : Int) := by rw [IntKind.wrap_u64]; omega
      have t3 : IntKind.i64.wrap ((u : Int) / 2) = (h : Int) := by rw [IntKind.wrap_i64]; omega
      have t4 : IntKind.i64.wrap ((h : Int) + 1) = ((h + 1 : Nat) : Int) := by rw [IntKind.wrap_i64]; omega
      have z1 : (h : Int) < (n : Int) := by omega
      have z2 : (m : Int) < (n : Int) := by omega
      have HH := hide hh
      have HU := hide hu
      have HY := hide HY
      have HN := hide HN
      have HPD := hide hpd
      clear hh hu hpd
      go_wp2_with fail
      by_cases hlv : cz < 0
      · have HP := hide (HN.out (by rw [Bool.eq_false_iff]; exact fun e => by have := HPD.out.1 e; omega))
        clear HY HN HPD
        go_quiet (first | (go_at_fn f; refine Calls.quiet_of (hcall _)))
        go_wp2_with fail
        go_roundg fv
        case measure => omega
        case rel => exact ⟨i, h, fv, rfl, rfl, by omega, by have := HH.out; omega, by have := HH.out; omega, by have := HH.out; omega, Nat.le_refl _, HS.out.drewN _, (show Aside _ from HP.out.symm.trans HB.out)⟩
      · have HP := hide (HY.out (HPD.out.2 (by omega)))
        clear HY HN HPD
        go_quiet (first | (go_at_fn f; refine Calls.quiet_of (hcall _)))
        go_wp2_with fail
        go_roundg fv
        case measure => omega
        case rel => exact ⟨h + 1, j, fv, by first | rfl | go_num, rfl, by have := HH.out; omega, by have := HH.out; omega, by omega, by have := HH.out; omega, Nat.le_refl _, HS.out.drewN _, (show Aside _ from HP.out.symm.trans HB.out)⟩
    · have hltz : ¬ (i : Int) < (j : Int) := by omega
      have hb1 := HB.out
      rw [bs_end hlt] at hb1
      have HB1 := hide hb1
      clear HB hb1 t0
      go_wp2_with fail
      go_loopg [17] (m - i) (fun gg s17 wr => ∃ (k : Nat) (M : List Nat), s17 = .int .i64 k ∧ i ≤ k ∧ k ≤ m ∧ k - i ≤ gg ∧ Aside (SSt w0 base g c n wr M) ∧ Aside (shL M k (k - i) = shL L m (m - i)))
      case atStart => exact ⟨m, L, rfl, by omega, Nat.le_refl _, by omega, HS.out, (show Aside _ from rfl)⟩
      case round =>
        obtain ⟨k, M, rfl, hak, hke, hg2, HS, HR⟩ := hrel
        by_cases hlt2 : i < k
        · have hltz2 : (i : Int) < (k : Int) := by omega
          obtain ⟨kp, hk1⟩ : ∃ kp, k = kp + 1 := ⟨k - 1, by omega⟩
          have hr := HR.out
          rw [show k - i = (kp - i) + 1 by omega, shL, show k - 1 = kp by omega] at hr
          have HR2 := hide hr
          clear hr HR
          have ca := HS.out.cell (j := k) (by omega)
          have cb := HS.out.cell (j := kp) (by omega)
          have fa := HS.out.frozen k
          have fb := HS.out.frozen kp
          have hsw := (HS.out.swap (i := k) (j := kp) (by omega) (by omega)).drew
          generalize M.getD k 0 = x at ca hsw
          generalize M.getD kp 0 = y at cb hsw
          have t2 : IntKind.i64.wrap ((k : Int) - 1) = (kp : Int) := by rw [IntKind.wrap_i64]; omega
          have z1 : (k : Int) < (n : Int) := by omega
          have z2 : (kp : Int) < (n : Int) := by omega
          have n1 : ¬ k = kp := by omega
          have n2 : ¬ kp = k := by omega
          have HK := hide hk1
          have HSW := hide hsw
          clear hk1 hsw
          go_wp2_with fail
          go_big_region
          go_wp2_with fail
          go_roundg (kp - i)
          case measure => have := HK.out; omega
          case rel => exact ⟨kp, _, by first | rfl | go_num, by have := HK.out; omega, by have := HK.out; omega, by have := HK.out; omega, HSW.out, HR2.out⟩
        · have hltz2 : ¬ (i : Int) < (k : Int) := by omega
          have hr := HR.out
          rw [show k - i = 0 by omega, shL] at hr
          have HR2 := hide hr
          clear hr HR
          go_wp2_with fail
          exact bodyPost_ret (v := .tuple #[]) (by simp [results, Tryz.results188, go_sem]) rfl ⟨rfl, by rw [← HB1.out, ← HR2.out]; exact HS.out⟩
end Go.Proofs.YtpfagdmmhgcmnaaGreatDoor

namespace Go.Proofs.YtpfagdmmhgcmnaaGreatDoor
open Go.RowKit
/- Go's stable sort: the merge of two stretches, in general. -/
theorem sym_main {left : List Int} {fu a m b : Nat} {L : List Nat} (h1 : ¬ m - a = 1) (h2 : ¬ b - m = 1) {s e : Nat} (hs : symS left a m b L = s) (he : (a + b) / 2 + m - s = e) {L1 L2 : List Nat} (e1 : symRot s m e L = L1)
    (e2 : (if a < s ∧ s < (a + b) / 2 then symM left fu a s ((a + b) / 2) L1 else L1) = L2) : symM left (fu + 1) a m b L = if (a + b) / 2 < e ∧ e < b then symM left fu ((a + b) / 2) e b L2 else L2 := by
  subst hs; subst he; subst e1; subst e2
  rw [symM, if_neg h1, if_neg h2]
theorem sym_bounds (a m b : Nat) (ham : a < m) (hmb : m < b) : a ≤ symLo a m b ∧ symLo a m b ≤ symHi a m b ∧ symHi a m b ≤ m ∧ symHi a m b ≤ (a + b) / 2 ∧ (a + b) / 2 ≤ symLo a m b + (b - m) := by
  unfold symLo symHi
  split <;> omega
theorem mid_fu {a b mid fu : Nat} (h : b - a ≤ fu + 1) (hm : mid = (a + b) / 2) (hab : a + 2 ≤ b) : mid - a ≤ fu ∧ b - mid ≤ fu := by omega
set_option maxRecDepth 100000 in
set_option maxHeartbeats 20000000 in
theorem sym_step (w0 : World) (base g c n : Nat) (f : Nat) (lb : Array Value) (left : List Int) (eg : ∀ args w, (callFunc f args).run Tryz.prog w = .ok (.enter f args) w) (hc : CmpOk f lb left n g w0) (hn : n ≤ 1000000) (fu : Nat)
    (IH : ∀ (a m b : Nat) (W : World) (L : List Nat), SSt w0 base g c n W L → a < m → m < b → b ≤ n → b - a ≤ fu → Calls Tryz.prog 188 #[.slice (some ⟨g, 0, none⟩) n c, .int .i64 a, .int .i64 m, .int .i64 b, .func (.func f) #[] lb] W fun e w' => e = .returned (.tuple #[]) ∧ SSt w0 base g c n w' (symM left fu a m b L)) (a m b : Nat) (W : World) (L : List Nat) (h : SSt w0 base g c n W L) (ham : a < m) (hmb : m < b) (hbn : b ≤ n) (hfu : b - a ≤ fu + 1) : Calls Tryz.prog 188 #[.slice (some ⟨g, 0, none⟩) n c, .int .i64 a, .int .i64 m, .int .i64 b, .func (.func f) #[] lb] W fun e w' => e = .returned (.tuple #[]) ∧ SSt w0 base g c n w' (symM left (fu + 1) a m b L) := by
  by_cases h1 : m - a = 1
  · exact sym_one w0 base g c n f lb left eg hc fu a m b W L h ham hmb hbn hn h1
  by_cases h2 : b - m = 1
  · exact sym_last w0 base g c n f lb left eg hc fu a m b W L h ham hmb hbn hn h1 h2
  have H0 := hide h
  have HC := hide hc
  have HIH := hide IH
  obtain ⟨s, hs⟩ : ∃ s, symS left a m b L = s := ⟨_, rfl⟩
  obtain ⟨mid, hmid⟩ : ∃ mid, mid = (a + b) / 2 := ⟨_, rfl⟩
  obtain ⟨q1, q2, q3, q4, q5⟩ := sym_bounds a m b ham hmb
  have hs' := hs
  unfold symS at hs'
  obtain ⟨lo, hlo⟩ : ∃ lo, symLo a m b = lo := ⟨_, rfl⟩
  obtain ⟨hi, hhi⟩ : ∃ hi, symHi a m b = hi := ⟨_, rfl⟩
  rw [hlo, hhi, ← hmid] at hs'
  have hsb := bs_spec (symP left (mid + m) L) (hi - lo) lo hi (by omega) (Nat.le_refl _)
  rw [hs'] at hsb
  obtain ⟨r1, r2, _, _⟩ := hsb
  have HLO := hlo
  have HHI := hhi
  unfold symLo at HLO
  unfold symHi at HHI
  rw [← hmid] at HLO HHI
  rw [hlo, hhi] at q2
  rw [hlo] at q1 q5
  rw [hhi] at q3 q4
  rw [← hmid] at q4 q5
  obtain ⟨e, he⟩ : ∃ e, e = mid + m - s := ⟨_, rfl⟩
  have HMAIN := fun (L1 L2 : List Nat) => sym_main (fu := fu) h1 h2 hs (by rw [← hmid, ← he] : (a + b) / 2 + m - s = e) (L1 := L1) (L2 := L2)
  rw [← hmid] at HMAIN
  have HM := hide HMAIN
  have HSB := hide hs'
  obtain ⟨ma, hma⟩ : ∃ x, x = m - a := ⟨_, rfl⟩
  obtain ⟨bm, hbm⟩ : ∃ x, x = b - m := ⟨_, rfl⟩
  obtain ⟨ab, hab⟩ : ∃ x, x = a + b := ⟨_, rfl⟩
  obtain ⟨nn, hnn⟩ : ∃ x, x = mid + m := ⟨_, rfl⟩
  obtain ⟨p, hp⟩ : ∃ x, x = nn - 1 := ⟨_, rfl⟩
  have t0 : IntKind.i64.wrap ((m : Int) - (a : Int)) = (ma : Int) := by rw [IntKind.wrap_i64]; omega
  have tne : ((ma : Int) == 1) = false := by simp; omega
  have t1 : IntKind.i64.wrap ((b : Int) - (m : Int)) = (bm : Int) := by rw [IntKind.wrap_i64]; omega
  have tnf : ((bm : Int) == 1) = false := by simp; omega
  have t2 : IntKind.i64.wrap ((a : Int) + (b : Int)) = (ab : Int) := by rw [IntKind.wrap_i64]; omega
  have t3 : IntKind.u64.wrap (ab : Int) = (ab : Int) := by rw [IntKind.wrap_u64]; omega
  have t4 : IntKind.i64.wrap ((ab : Int) / 2) = (mid : Int) := by rw [IntKind.wrap_i64]; omega
  have t5 : IntKind.i64.wrap ((mid : Int) + (m : Int)) = (nn : Int) := by rw [IntKind.wrap_i64]; omega
  have t6 : IntKind.i64.wrap ((nn : Int) - 1) = (p : Int) := by rw [IntKind.wrap_i64]; omega
  have hlt9 : mid < b := by omega
  have HLO' : Hid (lo = if mid < m then nn - b else a) := by rw [← HLO]; rw [hnn]; exact rfl
  have HHI' : Hid (hi = if mid < m then mid else m) := HHI.symm
  have HP := hide hp
  have HNN := hide hnn
  have HE := hide he
  have HQ : Hid (nn = mid + m ∧ p + 1 = nn ∧ ab = a + b ∧ ma = m - a ∧ bm = b - m ∧ mid = (a + b) / 2) := ⟨hnn, by omega, hab, hma, hbm, hmid⟩
  have A1 : nn ≤ lo + b := by omega
  have A5 : p + 1 ≤ nn := by omega
  have A5' : nn ≤ p + 1 := by omega
  have A6 : nn ≤ mid + m := by omega
  have A6' : mid + m ≤ nn := by omega
  have HBD : Hid (b - a ≤ fu + 1 ∧ a ≤ lo ∧ lo ≤ s ∧ s ≤ hi ∧ mid ≤ lo + (b - m)) := ⟨hfu, q1, r1, r2, q5⟩
  have hab2 : a < b := by omega
  have hab3 : a + 2 ≤ b := by omega
  clear hfu h1 h2 q1 q5 r1 r2
  rename_i zz1 zz2
  clear zz1 zz2 HSB
  have HSB : Hid (bs (symP left nn L) (hi - lo) lo hi = s) := by show bs _ _ _ _ = s; rw [hnn]; exact hs'
  clear h hc IH HMAIN hs hs' hlo hhi HLO HHI hma hbm hab hnn hp he hmid HP HNN
  go_enter Tryz.func188, Tryz.ntmps188
  go_upto_if 140 with fail
  go_cut [20, 21] from 138 to 146 (fun s20 s21 wx => s20 = .int .i64 (lo : Int) ∧ s21 = .int .i64 (hi : Int) ∧ wx = W)
  case first =>
    by_cases hmm : mid < m
    · have hmz : (mid : Int) < (m : Int) := by omega
      have hl := HLO'.out
      have hh := HHI'.out
      rw [if_pos hmm] at hl hh
      have t7 : IntKind.i64.wrap ((nn : Int) - (b : Int)) = (lo : Int) := by have := HQ.out; rw [IntKind.wrap_i64]; omega
      clear HLO' HHI' hl
      go_wp2_with fail
      go_meet
      case rel => exact ⟨rfl, by rw [hh], rfl⟩
    · have hmz : ¬ (mid : Int) < (m : Int) := by omega
      have hl := HLO'.out
      have hh := HHI'.out
      rw [if_neg hmm] at hl hh
      go_wp2_with fail
      go_meet
      case rel => exact ⟨by rw [hl], by rw [hh], rfl⟩
  case rest =>
  obtain ⟨rfl, rfl, rfl⟩ := hcut
  go_wp2_with fail
  go_loopg [20, 21] (hi - lo) (fun gg s20 s21 wr => ∃ (i j fv : Nat), s20 = .int .i64 i ∧ s21 = .int .i64 j ∧ lo ≤ i ∧ i ≤ j ∧ j ≤ hi ∧ j - i ≤ fv ∧ fv ≤ gg ∧ Aside (SSt w0 base g c n wr L) ∧ Aside (bs (symP left nn L) fv i j = s))
  case atStart => exact ⟨lo, hi, hi - lo, rfl, rfl, by omega, by omega, by omega, by omega, Nat.le_refl _, H0.out, HSB.out⟩
  case round =>
    obtain ⟨i, j, fv, rfl, rfl, hi1, hij, hj, hfv, hg, HS, HB⟩ := hrel
    clear t0 tne t1 tnf t2 t3 t4 t5 t6
    by_cases hlt : i < j
    · have hltz : (i : Int) < (j : Int) := by omega
      obtain ⟨fv, rfl⟩ : ∃ f', fv = f' + 1 := ⟨fv - 1, by omega⟩
      obtain ⟨h, hh⟩ : ∃ h, h = (i + j) / 2 := ⟨_, rfl⟩
      have HY := fun hp => bs_yes (p := symP left nn L) (f := fv) hlt hp
      have HN := fun hp => bs_no (p := symP left nn L) (f := fv) hlt hp
      rw [← hh] at HY HN
      obtain ⟨k, hk⟩ : ∃ k, k = p - h := ⟨_, rfl⟩
      have hpd : symP left nn L h = !decide (ltL left (L.getD (nn - 1 - h) 0) (L.getD h 0)) := rfl
      rw [show nn - 1 - h = k by have := HQ.out; omega] at hpd
      have ca := HS.out.cell (j := k) (by omega)
      have ch := HS.out.cell (j := h) (by omega)
      have hx := HS.out.get (j := k) (by omega)
      have hy := HS.out.get (j := h) (by omega)
      have hcall := fun q => HC.out (wr.drewN q) _ _ (HS.out.drewN q).grow hx hy
      have hltl := cmpZ_lt left (L.getD k 0) (L.getD h 0)
      rw [Bool.eq_iff_iff, Bool.not_eq_true', decide_eq_false_iff_not, ← hltl] at hpd
      generalize L.getD k 0 = x at ca hcall hpd
      generalize L.getD h 0 = y at ch hcall hpd
      generalize cmpZ left x y = cz at hcall hpd
      clear hltl hx hy
      obtain ⟨u, hu⟩ : ∃ u, u = i + j := ⟨_, rfl⟩
      have t1 : IntKind.i64.wrap ((i : Int) + (j : Int)) = (u : Int) := by rw [IntKind.wrap_i64]; omega
      have t2 : IntKind.u64.wrap (u : Int) = (u : Int) := by rw [IntKind.wrap_u64]; omega
      have t3 : IntKind.i64.wrap ((u : Int) / 2) = (h : Int) := by rw [IntKind.wrap_i64]; omega
      have t4 : IntKind.i64.wrap ((h : Int) + 1) = ((h + 1 : Nat) : Int) := by rw [IntKind.wrap_i64]; omega
      have t5 : IntKind.i64.wrap ((p : Int) - (h : Int)) = (k : Int) := by have := HQ.out; rw [IntKind.wrap_i64]; omega
      have z1 : (h : Int) < (n : Int) := by omega
      have z2 : (k : Int) < (n : Int) := by have := HQ.out; omega
      have HH := hide hh
      have HU := hide hu
      have HY := hide HY
      have HN := hide HN
      have HPD := hide hpd
      clear hh hu hpd hk
      go_wp2_with fail
      by_cases hlv : cz < 0
      · have HP := hide (HN.out (by rw [Bool.eq_false_iff]; exact fun e => by have := HPD.out.1 e; omega))
        clear HY HN HPD
        go_quiet (first | (go_at_fn f; refine Calls.quiet_of (hcall _)))
        go_wp2_with fail
        go_roundg fv
        case measure => omega
        case rel => exact ⟨i, h, fv, rfl, rfl, by omega, by have := HH.out; omega, by have := HH.out; omega, by have := HH.out; omega, Nat.le_refl _, HS.out.drewN _, (show Aside _ from HP.out.symm.trans HB.out)⟩
      · have HP := hide (HY.out (HPD.out.2 (by omega)))
        clear HY HN HPD
        go_quiet (first | (go_at_fn f; refine Calls.quiet_of (hcall _)))
        go_wp2_with fail
        go_roundg fv
        case measure => omega
        case rel => exact ⟨h + 1, j, fv, by first | rfl | go_num, rfl, by have := HH.out; omega, by have := HH.out; omega, by omega, by have := HH.out; omega, Nat.le_refl _, HS.out.drewN _, (show Aside _ from HP.out.symm.trans HB.out)⟩
    · have hltz : ¬ (i : Int) < (j : Int) := by omega
      have hb1 := HB.out
      rw [bs_end hlt] at hb1
      subst hb1
      clear HB HSB
      have t1 : IntKind.i64.wrap ((nn : Int) - (i : Int)) = (e : Int) := by have := HQ.out; have := HE.out; rw [IntKind.wrap_i64]; omega
      have HM1 := hide (HM.out _ _ rfl rfl)
      have HSR := hide (srt_rot w0 base g c n (.func (.func f) #[] lb) i m e wr L HS.out)
      clear HM
      obtain ⟨L1, hL1⟩ : ∃ L1, L1 = symRot i m e L := ⟨_, rfl⟩
      have HL1 := hide hL1
      go_upto_region 39 with fail
      go_cut [185] from 178 to 185 (fun s185 wx => s185 = .bool (decide (i < m ∧ m < e)) ∧ wx = wr)
      case first =>
        by_cases k1 : i < m
        · have k1z : (i : Int) < (m : Int) := by omega
          by_cases k2 : m < e
          · have k2z : (m : Int) < (e : Int) := by omega
            go_wp2_with fail
            go_meet
            case rel => exact ⟨by rw [decide_eq_true ⟨k1, k2⟩], rfl⟩
          · have k2z : ¬ (m : Int) < (e : Int) := by omega
            go_wp2_with fail
            go_meet
            case rel => exact ⟨by rw [decide_eq_false (fun h => k2 h.2)], rfl⟩
        · have k1z : ¬ (i : Int) < (m : Int) := by omega
          go_wp2_with fail
          go_meet
          case rel => exact ⟨by rw [decide_eq_false (fun h => k1 h.1)], rfl⟩
      case rest =>
      obtain ⟨rfl, rfl⟩ := hcut
      go_upto_if 185 with fail
      go_cut [] from 185 to 191 (fun wx => SSt w0 base g c n wx L1)
      case first =>
        by_cases hd : i < m ∧ m < e
        · rw [decide_eq_true hd]
          have hcall := HSR.out hd.1 hd.2 (by have := HE.out; have := HQ.out; omega) hn
          rw [show rotate i m e L = L1 by rw [HL1.out]; unfold symRot; rw [if_pos hd]] at hcall
          clear HSR HL1 hL1
          go_wp2_with fail
          refine hcall.mono ?_
          rintro _ w' ⟨rfl, HS'⟩
          go_wp2_with fail
          go_meet
          case rel => exact HS'
        · rw [decide_eq_false hd]
          have hL1' : L1 = L := by rw [HL1.out]; unfold symRot; rw [if_neg hd]
          clear HSR HL1 hL1
          go_wp2_with fail
          go_meet
          case rel => rw [hL1']; exact HS.out
      case rest =>
      have HS1 := hide hcut
      have hm2 := HM1.out
      rw [← HL1.out] at hm2
      have HM2 := hide hm2
      clear hm2
      clear hcut HM1 HSR HL1 hL1
      obtain ⟨L2, hL2⟩ : ∃ L2, L2 = if a < i ∧ i < mid then symM left fu a i mid L1 else L1 := ⟨_, rfl⟩
      have HL2 := hide hL2
      have hm3 := HM2.out
      rw [← HL2.out] at hm3
      have HM3 := hide hm3
      clear hm3
      clear hL2 HM2
      go_upto_region 41 with fail
      go_cut [199] from 192 to 199 (fun s199 wx => s199 = .bool (decide (a < i ∧ i < mid)) ∧ wx = wc)
      case first =>
        by_cases k1 : a < i
        · have k1z : (a : Int) < (i : Int) := by omega
          by_cases k2 : i < mid
          · have k2z : (i : Int) < (mid : Int) := by omega
            go_wp2_with fail
            go_meet
            case rel => exact ⟨by rw [decide_eq_true ⟨k1, k2⟩], rfl⟩
          · have k2z : ¬ (i : Int) < (mid : Int) := by omega
            go_wp2_with fail
            go_meet
            case rel => exact ⟨by rw [decide_eq_false (fun h => k2 h.2)], rfl⟩
        · have k1z : ¬ (a : Int) < (i : Int) := by omega
          go_wp2_with fail
          go_meet
          case rel => exact ⟨by rw [decide_eq_false (fun h => k1 h.1)], rfl⟩
      case rest =>
      obtain ⟨rfl, rfl⟩ := hcut
      go_upto_if 199 with fail
      go_cut [] from 199 to 205 (fun wx => SSt w0 base g c n wx L2)
      case first =>
        by_cases hd : a < i ∧ i < mid
        · rw [decide_eq_true hd]
          have hcall := HIH.out a i mid wc L1 HS1.out hd.1 hd.2 (by omega) (mid_fu HBD.out.1 HQ.out.2.2.2.2.2 hab3).1
          rw [show symM left fu a i mid L1 = L2 by rw [HL2.out, if_pos hd]] at hcall
          clear HL2
          go_wp2_with fail
          refine hcall.mono ?_
          rintro _ w' ⟨rfl, HS'⟩
          go_wp2_with fail
          go_meet
          case rel => exact HS'
        · rw [decide_eq_false hd]
          have hL2' : L2 = L1 := by rw [HL2.out, if_neg hd]
          clear HL2
          go_wp2_with fail
          go_meet
          case rel => rw [hL2']; exact HS1.out
      case rest =>
      rename_i wd
      have HS2 := hide hcut
      clear hcut HS1 HL2
      by_cases k1 : mid < e
      · have k1z : (mid : Int) < (e : Int) := by omega
        by_cases k2 : e < b
        · have k2z : (e : Int) < (b : Int) := by omega
          have hcall := HIH.out mid e b _ L2 HS2.out k1 k2 hbn (mid_fu HBD.out.1 HQ.out.2.2.2.2.2 hab3).2
          have hm := HM3.out
          rw [if_pos ⟨k1, k2⟩] at hm
          have HMF := hide hm
          clear HM3 hm
          go_wp2_with fail
          refine hcall.mono ?_
          rintro _ w' ⟨rfl, HS'⟩
          go_wp2_with fail
          go_end0
          exact ⟨rfl, by rw [HMF.out]; exact HS'⟩
        · have k2z : ¬ (e : Int) < (b : Int) := by omega
          have hm := HM3.out
          rw [if_neg (fun h => k2 h.2)] at hm
          have HMF := hide hm
          clear HM3 hm
          go_wp2_with fail
          go_end0
          exact ⟨rfl, by rw [HMF.out]; exact HS2.out⟩
      · have k1z : ¬ (mid : Int) < (e : Int) := by omega
        have hm := HM3.out
        rw [if_neg (fun h => k1 h.1)] at hm
        have HMF := hide hm
        clear HM3 hm
        go_wp2_with fail
        go_end0
        exact ⟨rfl, by rw [HMF.out]; exact HS2.out⟩
theorem srt_sym (w0 : World) (base g c n : Nat) (f : Nat) (lb : Array Value) (left : List Int) (eg : ∀ args w, (callFunc f args).run Tryz.prog w = .ok (.enter f args) w) (hc : CmpOk f lb left n g w0) (hn : n ≤ 1000000) : ∀ (fu a m b : Nat) (W : World) (L : List Nat),
    SSt w0 base g c n W L → a < m → m < b → b ≤ n → b - a ≤ fu → Calls Tryz.prog 188 #[.slice (some ⟨g, 0, none⟩) n c, .int .i64 a, .int .i64 m, .int .i64 b, .func (.func f) #[] lb] W fun e w' => e = .returned (.tuple #[]) ∧ SSt w0 base g c n w' (symM left fu a m b L)
  | 0, _, _, _, _, _, _, _, _, _, _ => by omega
  | fu + 1, a, m, b, W, L, h, ham, hmb, hbn, hfu => sym_step w0 base g c n f lb left eg hc hn fu (srt_sym w0 base g c n f lb left eg hc hn fu) a m b W L h ham hmb hbn hfu
end Go.Proofs.YtpfagdmmhgcmnaaGreatDoor

namespace Go.Proofs.YtpfagdmmhgcmnaaGreatDoor
open Go.RowKit
/- Go's stable sort, whole. -/
theorem insB_yes {left : List Int} {n f a : Nat} {L : List Nat} (h : a + 20 ≤ n) : insBlocks left n (f + 1) a L = insBlocks left n f (a + 20) (insSort left a (a + 20) L) := by rw [insBlocks, if_pos h]
theorem insB_no {left : List Int} {n f a : Nat} {L : List Nat} (h : ¬ a + 20 ≤ n) : insBlocks left n f a L = insSort left a n L := by
  cases f with
  | zero => rfl
  | succ f => rw [insBlocks, if_neg h]
theorem pass_yes {left : List Int} {k n f a : Nat} {L : List Nat} (h : a + 2 * k ≤ n) : mergePass left k n (f + 1) a L = mergePass left k n f (a + 2 * k) (symM left (2 * k) a (a + k) (a + 2 * k) L) := by rw [mergePass, if_pos h]
theorem pass_no {left : List Int} {k n f a : Nat} {L : List Nat} (h : ¬ a + 2 * k ≤ n) : mergePass left k n f a L = mergeTail left k n a L := by
  cases f with
  | zero => rfl
  | succ f => rw [mergePass, if_neg h]
theorem all_yes {left : List Int} {n f k : Nat} {L : List Nat} (h : k < n) : mergeAll left n (f + 1) k L = mergeAll left n f (2 * k) (mergePass left k n n 0 L) := by rw [mergeAll, if_pos h]
theorem all_no {left : List Int} {n f k : Nat} {L : List Nat} (h : ¬ k < n) : mergeAll left n f k L = L := by
  cases f with
  | zero => rfl
  | succ f => rw [mergeAll, if_neg h]
set_option maxRecDepth 100000 in
set_option maxHeartbeats 8000000 in
theorem srt_stable (w0 : World) (base g c n : Nat) (f : Nat) (lb : Array Value) (left : List Int) (eg : ∀ args w, (callFunc f args).run Tryz.prog w = .ok (.enter f args) w) (hc : CmpOk f lb left n g w0) (hn : n ≤ 1000000) (W : World) (L : List Nat)
    (h : SSt w0 base g c n W L) :
    Calls Tryz.prog 175 #[.slice (some ⟨g, 0, none⟩) n c, .int .i64 n, .func (.func f) #[] lb] W fun e w' => e = .returned (.tuple #[]) ∧ SSt w0 base g c n w' (stableL left n L) := by
  have H0 := hide h
  have HI := hide (fun a b W L h1 h2 h3 => srt_ins w0 base g c n f lb left eg hc a b W L h1 h2 h3 hn)
  have HY := hide (srt_sym w0 base g c n f lb left eg hc hn)
  clear h hc
  go_enter Tryz.func175, Tryz.ntmps175
  go_wp2_with fail
  go_loopg [7, 8] n (fun gg s7 s8 wr => ∃ (a b fu : Nat) (M : List Nat), s7 = .int .i64 a ∧ s8 = .int .i64 b ∧ b = a + 20 ∧ a ≤ n ∧ n - a ≤ fu ∧ fu ≤ gg ∧ Aside (SSt w0 base g c n wr M) ∧ Aside (insBlocks left n fu a M = insBlocks left n n 0 L))
  case atStart => exact ⟨0, 20, n, L, rfl, rfl, rfl, by omega, by omega, Nat.le_refl _, H0.out, (show Aside _ from rfl)⟩
  case round =>
    obtain ⟨a, b, fu, M, rfl, rfl, hb, han, hfu, hg, HS, HB⟩ := hrel
    by_cases hle : b ≤ n
    · have hlez : (b : Int) ≤ (n : Int) := by omega
      obtain ⟨fu, rfl⟩ : ∃ f', fu = f' + 1 := ⟨fu - 1, by omega⟩
      have hb2 := HB.out
      rw [insB_yes (by omega), ← hb] at hb2
      have HB2 := hide hb2
      have hcall := HI.out a b wr M HS.out (by omega) hle
      obtain ⟨b', hb'⟩ : ∃ b', b' = b + 20 := ⟨_, rfl⟩
      have t1 : IntKind.i64.wrap ((b : Int) + 20) = (b' : Int) := by rw [IntKind.wrap_i64]; omega
      have HBB := hide hb
      have HB' := hide hb'
      clear hb2 HB hb hb'
      go_wp2_with fail
      refine hcall.mono ?_
      rintro _ w' ⟨rfl, HS'⟩
      have HS2 := hide HS'
      clear HS' hcall
      go_wp2_with fail
      go_roundg fu
      case measure => omega
      case rel => exact ⟨b, b', fu, _, rfl, rfl, HB'.out, hle, by have := HBB.out; omega, Nat.le_refl _, HS2.out, HB2.out⟩
    · have hlez : ¬ (b : Int) ≤ (n : Int) := by omega
      have hb2 := HB.out
      rw [insB_no (by omega)] at hb2
      have HB2 := hide hb2
      have hcall := HI.out a n wr M HS.out han (Nat.le_refl _)
      rw [HB2.out] at hcall
      have HD : Hid (stableL left n L = mergeAll left n n 20 (insBlocks left n n 0 L)) := rfl
      obtain ⟨L1, hL1⟩ : ∃ L1, insBlocks left n n 0 L = L1 := ⟨_, rfl⟩
      have HD1 : Hid (mergeAll left n n 20 L1 = stableL left n L) := by rw [← hL1]; exact rfl
      rw [hL1] at hcall
      clear hb2 HB HB2 HI hb hL1 HD
      go_wp2_with fail
      refine hcall.mono ?_
      rintro _ w1 ⟨rfl, HS'⟩
      have HS1 := hide HS'
      clear HS' hcall HS H0
      go_wp2_with fail
      go_loopg [6, 7, 8, 9] n (fun gg s6 s7 s8 s9 wr => ∃ (k fu : Nat) (M : List Nat), s6 = .int .i64 k ∧ 0 < k ∧ k ≤ 3000000 ∧ n ≤ k + fu ∧ fu ≤ gg ∧ Aside (SSt w0 base g c n wr M) ∧ Aside (mergeAll left n fu k M = stableL left n L))
      case atStart => exact ⟨20, n, L1, rfl, by omega, by omega, by omega, Nat.le_refl _, HS1.out, HD1.out⟩
      case round =>
        obtain ⟨k, fu, M, rfl, hk, hkn, hfk, hg2, HS, HB⟩ := hrel
        clear HS1 HD1
        by_cases hlt : k < n
        · have hltz : (k : Int) < (n : Int) := by omega
          obtain ⟨fu, rfl⟩ : ∃ f', fu = f' + 1 := ⟨fu - 1, by omega⟩
          have hb2 := HB.out
          rw [all_yes hlt] at hb2
          have HB2 := hide hb2
          obtain ⟨k2, hk2⟩ : ∃ k2, k2 = 2 * k := ⟨_, rfl⟩
          have t1 : IntKind.i64.wrap (2 * (k : Int)) = (k2 : Int) := by rw [IntKind.wrap_i64]; omega
          have t2 : IntKind.i64.wrap ((k : Int) * 2) = (k2 : Int) := by rw [IntKind.wrap_i64]; omega
          have HK2 := hide hk2
          have hk2l : k2 ≤ 2000000 := by omega
          have hk2g : k < k2 := by omega
          clear hb2 HB hk2
          go_wp2_with fail
          go_loopg [7, 8] n (fun gg s7 s8 wr => ∃ (a b fv : Nat) (N : List Nat), s7 = .int .i64 a ∧ s8 = .int .i64 b ∧ b = a + k2 ∧ a ≤ n ∧ n - a ≤ fv ∧ fv ≤ gg ∧ Aside (SSt w0 base g c n wr N) ∧ Aside (mergePass left k n fv a N = mergePass left k n n 0 M))
          case atStart => exact ⟨0, k2, n, M, rfl, rfl, by omega, by omega, by omega, Nat.le_refl _, HS.out, (show Aside _ from rfl)⟩
          case round =>
            obtain ⟨a, b, fv, N, rfl, rfl, hb, han, hfv, hg3, HT, HP⟩ := hrel
            obtain ⟨m, hm⟩ : ∃ m, m = a + k := ⟨_, rfl⟩
            have t3 : IntKind.i64.wrap ((a : Int) + (k : Int)) = (m : Int) := by rw [IntKind.wrap_i64]; omega
            by_cases hle2 : b ≤ n
            · have hlez2 : (b : Int) ≤ (n : Int) := by omega
              obtain ⟨fv, rfl⟩ : ∃ f', fv = f' + 1 := ⟨fv - 1, by omega⟩
              have hp := HP.out
              rw [pass_yes (by have := HK2.out; omega), ← HK2.out, ← hb, ← hm] at hp
              have HP2 := hide hp
              have hcall := HY.out k2 a m b wr N HT.out (by omega) (by omega) hle2 (by omega)
              obtain ⟨b', hb'⟩ : ∃ b', b' = b + k2 := ⟨_, rfl⟩
              have t4 : IntKind.i64.wrap ((b : Int) + (k2 : Int)) = (b' : Int) := by rw [IntKind.wrap_i64]; omega
              have HBB := hide hb
              have HB' := hide hb'
              have HM := hide hm
              clear hp HP hb hb' hm t2
              go_wp2_with fail
              refine hcall.mono ?_
              rintro _ w' ⟨rfl, HS'⟩
              have HS2 := hide HS'
              clear HS' hcall
              go_wp2_with fail
              go_roundg fv
              case measure => omega
              case rel => exact ⟨b, b', fv, _, rfl, rfl, HB'.out, hle2, by have := HBB.out; omega, Nat.le_refl _, HS2.out, HP2.out⟩
            · have hlez2 : ¬ (b : Int) ≤ (n : Int) := by omega
              have hp := HP.out
              rw [pass_no (by have := HK2.out; omega)] at hp
              by_cases hmn : m < n
              · have hmz : (m : Int) < (n : Int) := by omega
                have hcall := HY.out k2 a m n wr N HT.out (by omega) hmn (Nat.le_refl _) (by omega)
                have hmt : symM left k2 a m n N = mergePass left k n n 0 M := by rw [← hp, HK2.out, hm]; unfold mergeTail; rw [if_pos (by omega)]
                rw [hmt] at hcall
                have HM := hide hm
                clear hp HP hb hm hmt t1
                go_wp2_with fail
                refine hcall.mono ?_
                rintro _ w' ⟨rfl, HS'⟩
                have HS2 := hide HS'
                clear HS' hcall
                go_wp2_with fail
                go_roundg fu
                case measure => omega
                case rel => exact ⟨k2, fu, _, rfl, by omega, by omega, by omega, Nat.le_refl _, HS2.out, (show Aside _ from by rw [HK2.out]; exact HB2.out)⟩
              · have hmz : ¬ (m : Int) < (n : Int) := by omega
                have hmt : N = mergePass left k n n 0 M := by rw [← hp]; unfold mergeTail; rw [if_neg (by omega)]
                have HMT := hide hmt
                have HM := hide hm
                clear hp HP hb hm hmt t1
                go_wp2_with fail
                go_roundg fu
                case measure => omega
                case rel => exact ⟨k2, fu, N, rfl, by omega, by omega, by omega, Nat.le_refl _, HT.out, (show Aside _ from by rw [HK2.out, HMT.out]; exact HB2.out)⟩
        · have hltz : ¬ (k : Int) < (n : Int) := by omega
          have hb2 := HB.out
          rw [all_no hlt] at hb2
          have HB2 := hide hb2
          clear HB hb2
          go_wp2_with fail
          go_end0
          exact ⟨rfl, by rw [← HB2.out]; exact HS.out⟩
theorem srt_SortStable (w0 : World) (base g c n : Nat) (f : Nat) (lb : Array Value) (left : List Int) (eg : ∀ args w, (callFunc f args).run Tryz.prog w = .ok (.enter f args) w) (hc : CmpOk f lb left n g w0) (hn : n ≤ 1000000) (W : World) (L : List Nat)
    (h : SSt w0 base g c n W L) :
    Calls Tryz.prog 157 #[.slice (some ⟨g, 0, none⟩) n c, .func (.func f) #[] lb] W fun e w' => e = .returned (.tuple #[]) ∧ SSt w0 base g c n w' (stableL left n L) := by
  have hcall := srt_stable w0 base g c n f lb left eg hc hn W L h
  clear h hc
  go_enter Tryz.func157, Tryz.ntmps157
  go_wp2_with fail
  refine hcall.mono ?_
  rintro _ w' ⟨rfl, HS'⟩
  go_wp2_with fail
  go_end0
  exact ⟨rfl, HS'⟩
end Go.Proofs.YtpfagdmmhgcmnaaGreatDoor

namespace Go.Proofs.YtpfagdmmhgcmnaaGreatDoor
open Go.RowKit
/- The statements' own helpers: how large an argument is. -/

end Go.Proofs.YtpfagdmmhgcmnaaGreatDoor

namespace Go.Proofs.YtpfagdmmhgcmnaaGreatDoor
open Go.RowKit
/- The statements' own helpers: a copy of an argument. -/
theorem make_eq {P : Program} {t e : TypeId} {z : Value} {k bytes : Nat} (ht : P.underlying t = some (.slice e)) (hinfo : (P.info? e).map (fun i => (i.zero, i.size, i.bytes)) = some (some z, k, bytes)) (n : Nat) (hn : bytes * n ≤ 281474976710656) (hm : n ≤ 9223372036854775807) :
    ∀ W : World, (Instr.makeSlice t (.int .i64 (n : Int)) (.int .i64 (n : Int))).run P W = .ok (.slice (some ⟨W.heap.size, 0, none⟩) n n) (W.alloc (.cells (madeCells z.cells (n * k)) e)) := by
  obtain ⟨i0, hi, hzz⟩ := Option.map_eq_some_iff.1 hinfo
  simp only [Prod.mk.injEq] at hzz
  obtain ⟨hz, rfl, rfl⟩ := hzz
  intro W
  have hb : (i0.bytes : Int) * (n : Int) ≤ 281474976710656 := by
    have h : ((i0.bytes * n : Nat) : Int) ≤ 281474976710656 := by omega
    rwa [Int.natCast_mul] at h
  have := run_make (P := P) W t e i0 z ht hi hz .i64 .i64 n n (by omega) (Int.le_refl _) hb (by omega)
  simpa using this
theorem made_own (W : World) (base : Nat) (z : Array Value) (k n : Nat) (e : TypeId) (hb : base ≤ W.heap.size) (hm : n ≤ 9223372036854775807) :
    (W.alloc (.cells (madeCells z (n * k)) e)).ownsRow base e k (.slice (some ⟨W.heap.size, 0, none⟩) n n) n (madeCells z (n * k)).toList :=
  World.ownsRow_lit W _ n hb (by simpa [maxLen] using hm) (size_madeCells _ _)
end Go.Proofs.YtpfagdmmhgcmnaaGreatDoor

namespace Go.Proofs.YtpfagdmmhgcmnaaGreatDoor
open Go.RowKit

theorem own_setA {w : World} {base : Nat} {E : TypeId} {k n : Nat} {v : Value} {xs : List Value} (h : w.ownsRow base E k v n xs) {p : Addr} (hp : p.block < base) (u : Value) : (w.setCell p u).ownsRow base E k v n xs :=
  own_keep h fun b e => heap_set w p u b (by have := (own_lt h e).1; omega)
theorem own_alloc {w : World} {base : Nat} {E : TypeId} {k n : Nat} {v : Value} {xs : List Value} (h : w.ownsRow base E k v n xs) (o : Obj) : (w.alloc o).ownsRow base E k v n xs := own_below h (balloc (brefl _) o)
theorem OwnRows.mono {w : World} {base base' : Nat} {E F : TypeId} {v : Value} {rows : List TRow} (h : OwnRows w base E F v rows) (hb : base' ≤ base) : OwnRows w base' E F v rows := by
  obtain ⟨vs, h1, h2, h3⟩ := h
  exact ⟨vs, own_base h1 hb, ⟨h2.1, fun j a b => own_base (h2.2.1 j a b) hb, h2.2.2⟩, h3⟩
theorem OwnRows.set {w : World} {base : Nat} {E F : TypeId} {v : Value} {rows : List TRow} (h : OwnRows w base E F v rows) {p : Addr} (hp : p.block < base) (u : Value) : OwnRows (w.setCell p u) base E F v rows := by
  obtain ⟨vs, h1, h2, h3⟩ := h
  exact ⟨vs, own_setA h1 hp u, h2.keep fun b hb _ => heap_set w p u b (by omega), h3⟩
end Go.Proofs.YtpfagdmmhgcmnaaGreatDoor

namespace Go.Proofs.YtpfagdmmhgcmnaaGreatDoor
open Go.RowKit
/- The statements' own helpers: the text that marks a number. -/
end Go.Proofs.YtpfagdmmhgcmnaaGreatDoor
