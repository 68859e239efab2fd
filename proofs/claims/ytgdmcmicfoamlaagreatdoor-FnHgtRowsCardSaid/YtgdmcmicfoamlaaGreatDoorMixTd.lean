import Derived.Test.YtgdmcmicfoamlaaGreatDoorMixTa
import Derived.Deep.CutRange
import Derived.Deep.RegionHeld3
set_option linter.unusedVariables false
set_option linter.unusedSimpArgs false
set_option maxHeartbeats 20000000
set_option maxRecDepth 100000
namespace Go.Proofs.YtgdmcmicfoamlaaGreatDoor
open Go.RowKit
theorem Zsx {left : List Int} {fu a m b : Nat} {L : List Nat} (h1 : ¬ m - a = 1) (h2 : ¬ b - m = 1) {s e : Nat} (hs : Ztb left a m b L = s) (he : (a + b) / 2 + m - s = e) {L1 L2 : List Nat} (e1 : Zgf s m e L = L1)
 (e2 : (if a < s ∧ s < (a + b) / 2 then Zcn left fu a s ((a + b) / 2) L1 else L1) = L2) : Zcn left (fu + 1) a m b L = if (a + b) / 2 < e ∧ e < b then Zcn left fu ((a + b) / 2) e b L2 else L2 := by
 subst hs; subst he; subst e1; subst e2
 rw [Zcn, if_neg h1, if_neg h2]
theorem Zpp (a m b : Nat) (ham : a < m) (hmb : m < b) : a ≤ Zd7 a m b ∧ Zd7 a m b ≤ Zeb a m b ∧ Zeb a m b ≤ m ∧ Zeb a m b ≤ (a + b) / 2 ∧ (a + b) / 2 ≤ Zd7 a m b + (b - m) := by
 unfold Zd7 Zeb
 split <;> omega
theorem Ztf {a b mid fu : Nat} (h : b - a ≤ fu + 1) (hm : mid = (a + b) / 2) (hab : a + 2 ≤ b) : mid - a ≤ fu ∧ b - mid ≤ fu := by omega
theorem Zto (w0 : World) (base g c n : Nat) (f : Nat) (lb : Array Value) (left : List Int) (eg : ∀ args w, (callFunc f args).run Tryz.prog w = .ok (.enter f args) w) (hc : Zip f lb left n g w0) (hn : n ≤ 1000000) (fu : Nat)
 (IH : ∀ (a m b : Nat) (W : World) (L : List Nat), SSt w0 base g c n W L → a < m → m < b → b ≤ n → b - a ≤ fu → Calls Tryz.prog 249 #[.slice (some ⟨g, 0, none⟩) n c, .int .i64 a, .int .i64 m, .int .i64 b, .func (.func f) #[] lb] W fun e w' => e = .returned (.tuple #[]) ∧ SSt w0 base g c n w' (Zcn left fu a m b L)) (a m b : Nat) (W : World) (L : List Nat) (h : SSt w0 base g c n W L) (ham : a < m) (hmb : m < b) (hbn : b ≤ n) (hfu : b - a ≤ fu + 1) : Calls Tryz.prog 249 #[.slice (some ⟨g, 0, none⟩) n c, .int .i64 a, .int .i64 m, .int .i64 b, .func (.func f) #[] lb] W fun e w' => e = .returned (.tuple #[]) ∧ SSt w0 base g c n w' (Zcn left (fu + 1) a m b L) := by
 by_cases h1 : m - a = 1
 · exact Zuq w0 base g c n f lb left eg hc fu a m b W L h ham hmb hbn hn h1
 by_cases h2 : b - m = 1
 · exact Zte w0 base g c n f lb left eg hc fu a m b W L h ham hmb hbn hn h1 h2
 have H0 := Za h
 have HC := Za hc
 have HIH := Za IH
 obtain ⟨s, hs⟩ : ∃ s, Ztb left a m b L = s := ⟨_, rfl⟩
 obtain ⟨mid, hmid⟩ : ∃ mid, mid = (a + b) / 2 := ⟨_, rfl⟩
 obtain ⟨q1, q2, q3, q4, q5⟩ := Zpp a m b ham hmb
 have hs' := hs
 unfold Ztb at hs'
 obtain ⟨lo, hlo⟩ : ∃ lo, Zd7 a m b = lo := ⟨_, rfl⟩
 obtain ⟨hi, hhi⟩ : ∃ hi, Zeb a m b = hi := ⟨_, rfl⟩
 rw [hlo, hhi, ← hmid] at hs'
 have hsb := Zf0 (Zkl left (mid + m) L) (hi - lo) lo hi (by omega) (Nat.le_refl _)
 rw [hs'] at hsb
 obtain ⟨r1, r2, _, _⟩ := hsb
 have HLO := hlo
 have HHI := hhi
 unfold Zd7 at HLO
 unfold Zeb at HHI
 rw [← hmid] at HLO HHI
 rw [hlo, hhi] at q2
 rw [hlo] at q1 q5
 rw [hhi] at q3 q4
 rw [← hmid] at q4 q5
 obtain ⟨e, he⟩ : ∃ e, e = mid + m - s := ⟨_, rfl⟩
 have HMAIN := fun (L1 L2 : List Nat) => Zsx (fu := fu) h1 h2 hs (by rw [← hmid, ← he] : (a + b) / 2 + m - s = e) (L1 := L1) (L2 := L2)
 rw [← hmid] at HMAIN
 have HM := Za HMAIN
 have HSB := Za hs'
 obtain ⟨ma, hma⟩ : ∃ x, x = m - a := ⟨_, rfl⟩
 obtain ⟨bm, hbm⟩ : ∃ x, x = b - m := ⟨_, rfl⟩
 obtain ⟨ab, hab⟩ : ∃ x, x = a + b := ⟨_, rfl⟩
 obtain ⟨nn, hnn⟩ : ∃ x, x = mid + m := ⟨_, rfl⟩
 obtain ⟨p, hp⟩ : ∃ x, x = nn - 1 := ⟨_, rfl⟩
 have t0 : IntKind.i64.wrap ((m : Int) - (a : Int)) = (ma : Int) := by rw [IntKind.wrap_i64]; omega
 have tne : ((ma : Int) == 1) = false := by simp; omega
 have t1 : IntKind.i64.wrap ((b : Int) - (m : Int)) = (bm : Int) := by rw [IntKind.wrap_i64]; omega
 have tnf : ((bm : Int) == 1) = false := by simp; omega
 have t2 : IntKind.i64.wrap ((a : Int) + (b : Int)) = (ab : Int) := by rw [IntKind.wrap_i64]; omega
 have t3 : IntKind.u64.wrap (ab : Int) = (ab : Int) := by rw [IntKind.wrap_u64]; omega
 have t4 : IntKind.i64.wrap ((ab : Int) / 2) = (mid : Int) := by rw [IntKind.wrap_i64]; omega
 have t5 : IntKind.i64.wrap ((mid : Int) + (m : Int)) = (nn : Int) := by rw [IntKind.wrap_i64]; omega
 have t6 : IntKind.i64.wrap ((nn : Int) - 1) = (p : Int) := by rw [IntKind.wrap_i64]; omega
 have hlt9 : mid < b := by omega
 have HLO' : Hid (lo = if mid < m then nn - b else a) := by rw [← HLO]; rw [hnn]; exact rfl
 have HHI' : Hid (hi = if mid < m then mid else m) := HHI.symm
 have HP := Za hp
 have HNN := Za hnn
 have HE := Za he
 have HQ : Hid (nn = mid + m ∧ p + 1 = nn ∧ ab = a + b ∧ ma = m - a ∧ bm = b - m ∧ mid = (a + b) / 2) := ⟨hnn, by omega, hab, hma, hbm, hmid⟩
 have A1 : nn ≤ lo + b := by omega
 have A5 : p + 1 ≤ nn := by omega
 have A5' : nn ≤ p + 1 := by omega
 have A6 : nn ≤ mid + m := by omega
 have A6' : mid + m ≤ nn := by omega
 have HBD : Hid (b - a ≤ fu + 1 ∧ a ≤ lo ∧ lo ≤ s ∧ s ≤ hi ∧ mid ≤ lo + (b - m)) := ⟨hfu, q1, r1, r2, q5⟩
 have hab2 : a < b := by omega
 have hab3 : a + 2 ≤ b := by omega
 clear hfu h1 h2 q1 q5 r1 r2
 rename_i zz1 zz2
 clear zz1 zz2 HSB
 have HSB : Hid (bs (Zkl left nn L) (hi - lo) lo hi = s) := by show bs _ _ _ _ = s; rw [hnn]; exact hs'
 clear h hc IH HMAIN hs hs' hlo hhi HLO HHI hma hbm hab hnn hp he hmid HP HNN
 go_enter Tryz.func249, Tryz.ntmps249
 go_upto_if 140 with fail
 go_cut [20, 21] from 138 to 146 (fun s20 s21 wx => s20 = .int .i64 (lo : Int) ∧ s21 = .int .i64 (hi : Int) ∧ wx = W)
 case first =>
  by_cases hmm : mid < m
  ·
   have hmz : (mid : Int) < (m : Int) := by omega
   have hl := HLO'.out
   have hh := HHI'.out
   rw [if_pos hmm] at hl hh
   have t7 : IntKind.i64.wrap ((nn : Int) - (b : Int)) = (lo : Int) := by have := HQ.out; rw [IntKind.wrap_i64]; omega
   clear HLO' HHI' hl
   go_wp2_with fail
   go_meet
   case rel => exact ⟨rfl, by rw [hh], rfl⟩
  have hmz : ¬ (mid : Int) < (m : Int) := by omega
  have hl := HLO'.out
  have hh := HHI'.out
  rw [if_neg hmm] at hl hh
  go_wp2_with fail
  go_meet
  case rel => exact ⟨by rw [hl], by rw [hh], rfl⟩
 case rest =>
 obtain ⟨rfl, rfl, rfl⟩ := hcut
 go_wp2_with fail
 go_loopg [20, 21] (hi - lo) (fun gg s20 s21 wr => ∃ (i j fv : Nat), s20 = .int .i64 i ∧ s21 = .int .i64 j ∧ lo ≤ i ∧ i ≤ j ∧ j ≤ hi ∧ j - i ≤ fv ∧ fv ≤ gg ∧ Aside (SSt w0 base g c n wr L) ∧ Aside (bs (Zkl left nn L) fv i j = s))
 case atStart => exact ⟨lo, hi, hi - lo, rfl, rfl, by omega, by omega, by omega, by omega, Nat.le_refl _, H0.out, HSB.out⟩
 obtain ⟨i, j, fv, rfl, rfl, hi1, hij, hj, hfv, hg, HS, HB⟩ := hrel
 clear t0 tne t1 tnf t2 t3 t4 t5 t6
 by_cases hlt : i < j
 ·
  have hltz : (i : Int) < (j : Int) := by omega
  obtain ⟨fv, rfl⟩ : ∃ f', fv = f' + 1 := ⟨fv - 1, by omega⟩
  obtain ⟨h, hh⟩ : ∃ h, h = (i + j) / 2 := ⟨_, rfl⟩
  have HY := fun hp => Zpw (p := Zkl left nn L) (f := fv) hlt hp
  have HN := fun hp => Ztc (p := Zkl left nn L) (f := fv) hlt hp
  rw [← hh] at HY HN
  obtain ⟨k, hk⟩ : ∃ k, k = p - h := ⟨_, rfl⟩
  have hpd : Zkl left nn L h = !decide (ltL left (L.getD (nn - 1 - h) 0) (L.getD h 0)) := rfl
  rw [show nn - 1 - h = k by have := HQ.out; omega] at hpd
  have ca := HS.out.cell (j := k) (by omega)
  have ch := HS.out.cell (j := h) (by omega)
  have hx := HS.out.get (j := k) (by omega)
  have hy := HS.out.get (j := h) (by omega)
  have hcall := fun q => HC.out (wr.drewN q) _ _ (HS.out.drewN q).grow hx hy
  have hltl := Zje left (L.getD k 0) (L.getD h 0)
  rw [Bool.eq_iff_iff, Bool.not_eq_true', decide_eq_false_iff_not, ← hltl] at hpd
  generalize L.getD k 0 = x at ca hcall hpd
  generalize L.getD h 0 = y at ch hcall hpd
  generalize Zm1 left x y = cz at hcall hpd
  clear hltl hx hy
  obtain ⟨u, hu⟩ : ∃ u, u = i + j := ⟨_, rfl⟩
  have t1 : IntKind.i64.wrap ((i : Int) + (j : Int)) = (u : Int) := by rw [IntKind.wrap_i64]; omega
  have t2 : IntKind.u64.wrap (u : Int) = (u : Int) := by rw [IntKind.wrap_u64]; omega
  have t3 : IntKind.i64.wrap ((u : Int) / 2) = (h : Int) := by rw [IntKind.wrap_i64]; omega
  have t4 : IntKind.i64.wrap ((h : Int) + 1) = ((h + 1 : Nat) : Int) := by rw [IntKind.wrap_i64]; omega
  have t5 : IntKind.i64.wrap ((p : Int) - (h : Int)) = (k : Int) := by have := HQ.out; rw [IntKind.wrap_i64]; omega
  have z1 : (h : Int) < (n : Int) := by omega
  have z2 : (k : Int) < (n : Int) := by have := HQ.out; omega
  have HH := Za hh
  have HU := Za hu
  have HY := Za HY
  have HN := Za HN
  have HPD := Za hpd
  clear hh hu hpd hk
  go_wp2_with fail
  by_cases hlv : cz < 0
  ·
   have HP := Za (HN.out (by rw [Bool.eq_false_iff]; exact fun e => by have := HPD.out.1 e; omega))
   clear HY HN HPD
   go_quiet (first | (go_at_fn f; refine Calls.quiet_of (hcall _)))
   go_wp2_with fail
   go_roundg fv
   case measure => omega
   case rel => exact ⟨i, h, fv, rfl, rfl, by omega, by have := HH.out; omega, by have := HH.out; omega, by have := HH.out; omega, Nat.le_refl _, HS.out.drewN _, (show Aside _ from HP.out.symm.trans HB.out)⟩
  have HP := Za (HY.out (HPD.out.2 (by omega)))
  clear HY HN HPD
  go_quiet (first | (go_at_fn f; refine Calls.quiet_of (hcall _)))
  go_wp2_with fail
  go_roundg fv
  case measure => omega
  case rel => exact ⟨h + 1, j, fv, by first | rfl | go_num, rfl, by have := HH.out; omega, by have := HH.out; omega, by omega, by have := HH.out; omega, Nat.le_refl _, HS.out.drewN _, (show Aside _ from HP.out.symm.trans HB.out)⟩
 have hltz : ¬ (i : Int) < (j : Int) := by omega
 have hb1 := HB.out
 rw [Zo6 hlt] at hb1
 subst hb1
 clear HB HSB
 have t1 : IntKind.i64.wrap ((nn : Int) - (i : Int)) = (e : Int) := by have := HQ.out; have := HE.out; rw [IntKind.wrap_i64]; omega
 have HM1 := Za (HM.out _ _ rfl rfl)
 have HSR := Za (Zug w0 base g c n (.func (.func f) #[] lb) i m e wr L HS.out)
 clear HM
 obtain ⟨L1, hL1⟩ : ∃ L1, L1 = Zgf i m e L := ⟨_, rfl⟩
 have HL1 := Za hL1
 go_upto_region 39 with fail
 go_cut [185] from 178 to 185 (fun s185 wx => s185 = .bool (decide (i < m ∧ m < e)) ∧ wx = wr)
 case first =>
  by_cases k1 : i < m
  ·
   have k1z : (i : Int) < (m : Int) := by omega
   by_cases k2 : m < e
   · have k2z : (m : Int) < (e : Int) := by omega
     go_wp2_with fail
     go_meet
     case rel => exact ⟨by rw [decide_eq_true ⟨k1, k2⟩], rfl⟩
   have k2z : ¬ (m : Int) < (e : Int) := by omega
   go_wp2_with fail
   go_meet
   case rel => exact ⟨by rw [decide_eq_false (fun h => k2 h.2)], rfl⟩
  have k1z : ¬ (i : Int) < (m : Int) := by omega
  go_wp2_with fail
  go_meet
  case rel => exact ⟨by rw [decide_eq_false (fun h => k1 h.1)], rfl⟩
 case rest =>
 obtain ⟨rfl, rfl⟩ := hcut
 go_upto_if 185 with fail
 go_cut [] from 185 to 191 (fun wx => SSt w0 base g c n wx L1)
 case first =>
  by_cases hd : i < m ∧ m < e
  ·
   rw [decide_eq_true hd]
   have hcall := HSR.out hd.1 hd.2 (by have := HE.out; have := HQ.out; omega) hn
   rw [show Zj3 i m e L = L1 by rw [HL1.out]; unfold Zgf; rw [if_pos hd]] at hcall
   clear HSR HL1 hL1
   go_wp2_with fail
   refine hcall.mono ?_
   rintro _ w' ⟨rfl, HS'⟩
   go_wp2_with fail
   go_meet
   case rel => exact HS'
  rw [decide_eq_false hd]
  have hL1' : L1 = L := by rw [HL1.out]; unfold Zgf; rw [if_neg hd]
  clear HSR HL1 hL1
  go_wp2_with fail
  go_meet
  case rel => rw [hL1']; exact HS.out
 case rest =>
 have HS1 := Za hcut
 have hm2 := HM1.out
 rw [← HL1.out] at hm2
 have HM2 := Za hm2
 clear hm2
 clear hcut HM1 HSR HL1 hL1
 obtain ⟨L2, hL2⟩ : ∃ L2, L2 = if a < i ∧ i < mid then Zcn left fu a i mid L1 else L1 := ⟨_, rfl⟩
 have HL2 := Za hL2
 have hm3 := HM2.out
 rw [← HL2.out] at hm3
 have HM3 := Za hm3
 clear hm3
 clear hL2 HM2
 go_upto_region 41 with fail
 go_cut [199] from 192 to 199 (fun s199 wx => s199 = .bool (decide (a < i ∧ i < mid)) ∧ wx = wc)
 case first =>
  by_cases k1 : a < i
  ·
   have k1z : (a : Int) < (i : Int) := by omega
   by_cases k2 : i < mid
   · have k2z : (i : Int) < (mid : Int) := by omega
     go_wp2_with fail
     go_meet
     case rel => exact ⟨by rw [decide_eq_true ⟨k1, k2⟩], rfl⟩
   have k2z : ¬ (i : Int) < (mid : Int) := by omega
   go_wp2_with fail
   go_meet
   case rel => exact ⟨by rw [decide_eq_false (fun h => k2 h.2)], rfl⟩
  have k1z : ¬ (a : Int) < (i : Int) := by omega
  go_wp2_with fail
  go_meet
  case rel => exact ⟨by rw [decide_eq_false (fun h => k1 h.1)], rfl⟩
 case rest =>
 obtain ⟨rfl, rfl⟩ := hcut
 go_upto_if 199 with fail
 go_cut [] from 199 to 205 (fun wx => SSt w0 base g c n wx L2)
 case first =>
  by_cases hd : a < i ∧ i < mid
  ·
   rw [decide_eq_true hd]
   have hcall := HIH.out a i mid wc L1 HS1.out hd.1 hd.2 (by omega) (Ztf HBD.out.1 HQ.out.2.2.2.2.2 hab3).1
   rw [show Zcn left fu a i mid L1 = L2 by rw [HL2.out, if_pos hd]] at hcall
   clear HL2
   go_wp2_with fail
   refine hcall.mono ?_
   rintro _ w' ⟨rfl, HS'⟩
   go_wp2_with fail
   go_meet
   case rel => exact HS'
  rw [decide_eq_false hd]
  have hL2' : L2 = L1 := by rw [HL2.out, if_neg hd]
  clear HL2
  go_wp2_with fail
  go_meet
  case rel => rw [hL2']; exact HS1.out
 case rest =>
 rename_i wd
 have HS2 := Za hcut
 clear hcut HS1 HL2
 by_cases k1 : mid < e
 ·
  have k1z : (mid : Int) < (e : Int) := by omega
  by_cases k2 : e < b
  ·
   have k2z : (e : Int) < (b : Int) := by omega
   have hcall := HIH.out mid e b _ L2 HS2.out k1 k2 hbn (Ztf HBD.out.1 HQ.out.2.2.2.2.2 hab3).2
   have hm := HM3.out
   rw [if_pos ⟨k1, k2⟩] at hm
   have HMF := Za hm
   clear HM3 hm
   go_wp2_with fail
   refine hcall.mono ?_
   rintro _ w' ⟨rfl, HS'⟩
   go_wp2_with fail
   go_end0
   exact ⟨rfl, by rw [HMF.out]; exact HS'⟩
  have k2z : ¬ (e : Int) < (b : Int) := by omega
  have hm := HM3.out
  rw [if_neg (fun h => k2 h.2)] at hm
  have HMF := Za hm
  clear HM3 hm
  go_wp2_with fail
  go_end0
  exact ⟨rfl, by rw [HMF.out]; exact HS2.out⟩
 have k1z : ¬ (mid : Int) < (e : Int) := by omega
 have hm := HM3.out
 rw [if_neg (fun h => k1 h.1)] at hm
 have HMF := Za hm
 clear HM3 hm
 go_wp2_with fail
 go_end0
 exact ⟨rfl, by rw [HMF.out]; exact HS2.out⟩
theorem Zqs (w0 : World) (base g c n : Nat) (f : Nat) (lb : Array Value) (left : List Int) (eg : ∀ args w, (callFunc f args).run Tryz.prog w = .ok (.enter f args) w) (hc : Zip f lb left n g w0) (hn : n ≤ 1000000) : ∀ (fu a m b : Nat) (W : World) (L : List Nat),
 SSt w0 base g c n W L → a < m → m < b → b ≤ n → b - a ≤ fu → Calls Tryz.prog 249 #[.slice (some ⟨g, 0, none⟩) n c, .int .i64 a, .int .i64 m, .int .i64 b, .func (.func f) #[] lb] W fun e w' => e = .returned (.tuple #[]) ∧ SSt w0 base g c n w' (Zcn left fu a m b L)
 | 0, _, _, _, _, _, _, _, _, _, _ => by omega
 | fu + 1, a, m, b, W, L, h, ham, hmb, hbn, hfu => Zto w0 base g c n f lb left eg hc hn fu (Zqs w0 base g c n f lb left eg hc hn fu) a m b W L h ham hmb hbn hfu
theorem Ztv {left : List Int} {n f a : Nat} {L : List Nat} (h : a + 20 ≤ n) : Yv left n (f + 1) a L = Yv left n f (a + 20) (Zdd left a (a + 20) L) := by rw [Yv, if_pos h]
theorem Zuc {left : List Int} {n f a : Nat} {L : List Nat} (h : ¬ a + 20 ≤ n) : Yv left n f a L = Zdd left a n L := by
 cases f with
 | zero => rfl
 | succ f => rw [Yv, if_neg h]
theorem Zsm {left : List Int} {k n f a : Nat} {L : List Nat} (h : a + 2 * k ≤ n) : Yr left k n (f + 1) a L = Yr left k n f (a + 2 * k) (Zcn left (2 * k) a (a + k) (a + 2 * k) L) := by rw [Yr, if_pos h]
theorem Zt1 {left : List Int} {k n f a : Nat} {L : List Nat} (h : ¬ a + 2 * k ≤ n) : Yr left k n f a L = Zcl left k n a L := by
 cases f with
 | zero => rfl
 | succ f => rw [Yr, if_neg h]
theorem Zt8 {left : List Int} {n f k : Nat} {L : List Nat} (h : k < n) : Za0 left n (f + 1) k L = Za0 left n f (2 * k) (Yr left k n n 0 L) := by rw [Za0, if_pos h]
theorem Zva {left : List Int} {n f k : Nat} {L : List Nat} (h : ¬ k < n) : Za0 left n f k L = L := by
 cases f with
 | zero => rfl
 | succ f => rw [Za0, if_neg h]
theorem Zpe (w0 : World) (base g c n : Nat) (f : Nat) (lb : Array Value) (left : List Int) (eg : ∀ args w, (callFunc f args).run Tryz.prog w = .ok (.enter f args) w) (hc : Zip f lb left n g w0) (hn : n ≤ 1000000) (W : World) (L : List Nat)
 (h : SSt w0 base g c n W L) :
 Calls Tryz.prog 239 #[.slice (some ⟨g, 0, none⟩) n c, .int .i64 n, .func (.func f) #[] lb] W fun e w' => e = .returned (.tuple #[]) ∧ SSt w0 base g c n w' (Zcx left n L) := by
 have H0 := Za h
 have HI := Za (fun a b W L h1 h2 h3 => Zui w0 base g c n f lb left eg hc a b W L h1 h2 h3 hn)
 have HY := Za (Zqs w0 base g c n f lb left eg hc hn)
 clear h hc
 go_enter Tryz.func239, Tryz.ntmps239
 go_wp2_with fail
 go_loopg [7, 8] n (fun gg s7 s8 wr => ∃ (a b fu : Nat) (M : List Nat), s7 = .int .i64 a ∧ s8 = .int .i64 b ∧ b = a + 20 ∧ a ≤ n ∧ n - a ≤ fu ∧ fu ≤ gg ∧ Aside (SSt w0 base g c n wr M) ∧ Aside (Yv left n fu a M = Yv left n n 0 L))
 case atStart => exact ⟨0, 20, n, L, rfl, rfl, rfl, by omega, by omega, Nat.le_refl _, H0.out, (show Aside _ from rfl)⟩
 obtain ⟨a, b, fu, M, rfl, rfl, hb, han, hfu, hg, HS, HB⟩ := hrel
 by_cases hle : b ≤ n
 ·
  have hlez : (b : Int) ≤ (n : Int) := by omega
  obtain ⟨fu, rfl⟩ : ∃ f', fu = f' + 1 := ⟨fu - 1, by omega⟩
  have hb2 := HB.out
  rw [Ztv (by omega), ← hb] at hb2
  have HB2 := Za hb2
  have hcall := HI.out a b wr M HS.out (by omega) hle
  obtain ⟨b', hb'⟩ : ∃ b', b' = b + 20 := ⟨_, rfl⟩
  have t1 : IntKind.i64.wrap ((b : Int) + 20) = (b' : Int) := by rw [IntKind.wrap_i64]; omega
  have HBB := Za hb
  have HB' := Za hb'
  clear hb2 HB hb hb'
  go_wp2_with fail
  refine hcall.mono ?_
  rintro _ w' ⟨rfl, HS'⟩
  have HS2 := Za HS'
  clear HS' hcall
  go_wp2_with fail
  go_roundg fu
  case measure => omega
  case rel => exact ⟨b, b', fu, _, rfl, rfl, HB'.out, hle, by have := HBB.out; omega, Nat.le_refl _, HS2.out, HB2.out⟩
 have hlez : ¬ (b : Int) ≤ (n : Int) := by omega
 have hb2 := HB.out
 rw [Zuc (by omega)] at hb2
 have HB2 := Za hb2
 have hcall := HI.out a n wr M HS.out han (Nat.le_refl _)
 rw [HB2.out] at hcall
 have HD : Hid (Zcx left n L = Za0 left n n 20 (Yv left n n 0 L)) := rfl
 obtain ⟨L1, hL1⟩ : ∃ L1, Yv left n n 0 L = L1 := ⟨_, rfl⟩
 have HD1 : Hid (Za0 left n n 20 L1 = Zcx left n L) := by rw [← hL1]; exact rfl
 rw [hL1] at hcall
 clear hb2 HB HB2 HI hb hL1 HD
 go_wp2_with fail
 refine hcall.mono ?_
 rintro _ w1 ⟨rfl, HS'⟩
 have HS1 := Za HS'
 clear HS' hcall HS H0
 go_wp2_with fail
 go_loopg [6, 7, 8, 9] n (fun gg s6 s7 s8 s9 wr => ∃ (k fu : Nat) (M : List Nat), s6 = .int .i64 k ∧ 0 < k ∧ k ≤ 3000000 ∧ n ≤ k + fu ∧ fu ≤ gg ∧ Aside (SSt w0 base g c n wr M) ∧ Aside (Za0 left n fu k M = Zcx left n L))
 case atStart => exact ⟨20, n, L1, rfl, by omega, by omega, by omega, Nat.le_refl _, HS1.out, HD1.out⟩
 obtain ⟨k, fu, M, rfl, hk, hkn, hfk, hg2, HS, HB⟩ := hrel
 clear HS1 HD1
 by_cases hlt : k < n
 ·
  have hltz : (k : Int) < (n : Int) := by omega
  obtain ⟨fu, rfl⟩ : ∃ f', fu = f' + 1 := ⟨fu - 1, by omega⟩
  have hb2 := HB.out
  rw [Zt8 hlt] at hb2
  have HB2 := Za hb2
  obtain ⟨k2, hk2⟩ : ∃ k2, k2 = 2 * k := ⟨_, rfl⟩
  have t1 : IntKind.i64.wrap (2 * (k : Int)) = (k2 : Int) := by rw [IntKind.wrap_i64]; omega
  have t2 : IntKind.i64.wrap ((k : Int) * 2) = (k2 : Int) := by rw [IntKind.wrap_i64]; omega
  have HK2 := Za hk2
  have hk2l : k2 ≤ 2000000 := by omega
  have hk2g : k < k2 := by omega
  clear hb2 HB hk2
  go_wp2_with fail
  go_loopg [7, 8] n (fun gg s7 s8 wr => ∃ (a b fv : Nat) (N : List Nat), s7 = .int .i64 a ∧ s8 = .int .i64 b ∧ b = a + k2 ∧ a ≤ n ∧ n - a ≤ fv ∧ fv ≤ gg ∧ Aside (SSt w0 base g c n wr N) ∧ Aside (Yr left k n fv a N = Yr left k n n 0 M))
  case atStart => exact ⟨0, k2, n, M, rfl, rfl, by omega, by omega, by omega, Nat.le_refl _, HS.out, (show Aside _ from rfl)⟩
  obtain ⟨a, b, fv, N, rfl, rfl, hb, han, hfv, hg3, HT, HP⟩ := hrel
  obtain ⟨m, hm⟩ : ∃ m, m = a + k := ⟨_, rfl⟩
  have t3 : IntKind.i64.wrap ((a : Int) + (k : Int)) = (m : Int) := by rw [IntKind.wrap_i64]; omega
  by_cases hle2 : b ≤ n
  ·
   have hlez2 : (b : Int) ≤ (n : Int) := by omega
   obtain ⟨fv, rfl⟩ : ∃ f', fv = f' + 1 := ⟨fv - 1, by omega⟩
   have hp := HP.out
   rw [Zsm (by have := HK2.out; omega), ← HK2.out, ← hb, ← hm] at hp
   have HP2 := Za hp
   have hcall := HY.out k2 a m b wr N HT.out (by omega) (by omega) hle2 (by omega)
   obtain ⟨b', hb'⟩ : ∃ b', b' = b + k2 := ⟨_, rfl⟩
   have t4 : IntKind.i64.wrap ((b : Int) + (k2 : Int)) = (b' : Int) := by rw [IntKind.wrap_i64]; omega
   have HBB := Za hb
   have HB' := Za hb'
   have HM := Za hm
   clear hp HP hb hb' hm t2
   go_wp2_with fail
   refine hcall.mono ?_
   rintro _ w' ⟨rfl, HS'⟩
   have HS2 := Za HS'
   clear HS' hcall
   go_wp2_with fail
   go_roundg fv
   case measure => omega
   case rel => exact ⟨b, b', fv, _, rfl, rfl, HB'.out, hle2, by have := HBB.out; omega, Nat.le_refl _, HS2.out, HP2.out⟩
  have hlez2 : ¬ (b : Int) ≤ (n : Int) := by omega
  have hp := HP.out
  rw [Zt1 (by have := HK2.out; omega)] at hp
  by_cases hmn : m < n
  ·
   have hmz : (m : Int) < (n : Int) := by omega
   have hcall := HY.out k2 a m n wr N HT.out (by omega) hmn (Nat.le_refl _) (by omega)
   have hmt : Zcn left k2 a m n N = Yr left k n n 0 M := by rw [← hp, HK2.out, hm]; unfold Zcl; rw [if_pos (by omega)]
   rw [hmt] at hcall
   have HM := Za hm
   clear hp HP hb hm hmt t1
   go_wp2_with fail
   refine hcall.mono ?_
   rintro _ w' ⟨rfl, HS'⟩
   have HS2 := Za HS'
   clear HS' hcall
   go_wp2_with fail
   go_roundg fu
   case measure => omega
   case rel => exact ⟨k2, fu, _, rfl, by omega, by omega, by omega, Nat.le_refl _, HS2.out, (show Aside _ from by rw [HK2.out]; exact HB2.out)⟩
  have hmz : ¬ (m : Int) < (n : Int) := by omega
  have hmt : N = Yr left k n n 0 M := by rw [← hp]; unfold Zcl; rw [if_neg (by omega)]
  have HMT := Za hmt
  have HM := Za hm
  clear hp HP hb hm hmt t1
  go_wp2_with fail
  go_roundg fu
  case measure => omega
  case rel => exact ⟨k2, fu, N, rfl, by omega, by omega, by omega, Nat.le_refl _, HT.out, (show Aside _ from by rw [HK2.out, HMT.out]; exact HB2.out)⟩
 have hltz : ¬ (k : Int) < (n : Int) := by omega
 have hb2 := HB.out
 rw [Zva hlt] at hb2
 have HB2 := Za hb2
 clear HB hb2
 go_wp2_with fail
 go_end0
 exact ⟨rfl, by rw [← HB2.out]; exact HS.out⟩
theorem Zko (w0 : World) (base g c n : Nat) (f : Nat) (lb : Array Value) (left : List Int) (eg : ∀ args w, (callFunc f args).run Tryz.prog w = .ok (.enter f args) w) (hc : Zip f lb left n g w0) (hn : n ≤ 1000000) (W : World) (L : List Nat)
 (h : SSt w0 base g c n W L) :
 Calls Tryz.prog 212 #[.slice (some ⟨g, 0, none⟩) n c, .func (.func f) #[] lb] W fun e w' => e = .returned (.tuple #[]) ∧ SSt w0 base g c n w' (Zcx left n L) := by
 have hcall := Zpe w0 base g c n f lb left eg hc hn W L h
 clear h hc
 go_enter Tryz.func212, Tryz.ntmps212
 go_wp2_with fail
 refine hcall.mono ?_
 rintro _ w' ⟨rfl, HS'⟩
 go_wp2_with fail
 go_end0
 exact ⟨rfl, HS'⟩
structure Zcq (lo hi : Nat) (w w' : World) : Prop where
 os : w'.os = w.os
 tape : w'.tape = w.tape
 output : w'.output = w.output
 size : w.heap.size ≤ w'.heap.size
 block : ∀ k, k < w.heap.size → (k < lo ∨ hi ≤ k) → w'.heap[k]? = w.heap[k]?
theorem Zcq.refl (lo hi : Nat) (w : World) : Zcq lo hi w w := ⟨rfl, rfl, rfl, Nat.le_refl _, fun _ _ _ => rfl⟩
theorem Zcq.trans {lo hi : Nat} {w w1 w2 : World} (h : Zcq lo hi w w1) (h' : Zcq lo hi w1 w2) : Zcq lo hi w w2 :=
 ⟨h'.os.trans h.os, h'.tape.trans h.tape, h'.output.trans h.output, Nat.le_trans h.size h'.size, fun k hk hne => (h'.block k (Nat.lt_of_lt_of_le hk h.size) hne).trans (h.block k hk hne)⟩
theorem Zcq.grow {lo hi g : Nat} {w w' : World} (h : w.grownBy w' (some g)) (h1 : lo ≤ g) (h2 : g < hi) : Zcq lo hi w w' :=
 ⟨h.os, h.tape, h.output, h.size, fun k hk hne => h.block k hk (fun e => by injection e with e; omega)⟩
theorem Zcq.below {lo hi : Nat} {w w' : World} (h : Below w.heap.size w w') : Zcq lo hi w w' := ⟨h.os, h.tape, h.output, h.size, fun k hk _ => h.block k hk⟩
theorem Zcq.set {lo hi : Nat} (w : World) {a : Addr} (h1 : lo ≤ a.block) (h2 : a.block < hi) (u : Value) : Zcq lo hi w (w.setCell a u) := Zcq.grow (Qt w rfl u) h1 h2
def Zfm (E : TypeId) (w w' : World) : Prop := ∀ (k : Nat) (cur : Array Value), w.heap[k]? = some (.cells cur E (0, 0)) → w'.heap[k]? = w.heap[k]?
theorem Zfm.refl (E : TypeId) (w : World) : Zfm E w w := fun _ _ _ => rfl
theorem Zfm.trans {E : TypeId} {w w1 w2 : World} (h : Zfm E w w1) (h' : Zfm E w1 w2) : Zfm E w w2 := fun k cur e => by
 have h1 := h k cur e
 exact (h' k cur (h1.trans e)).trans h1
theorem Zfm.grow {E F : TypeId} {w w' : World} {g : Nat} (hg : w.grownBy w' (some g)) {cur : Array Value} (ht : w.heap[g]? = some (.cells cur F (0, 0))) (hne : F ≠ E) : Zfm E w w' := fun k c e =>
 hg.block k (Array.getElem?_eq_some_iff.1 e).1 (fun e2 => by
  injection e2 with e2
  subst e2
  rw [ht] at e; injection e with e; injection e with _ e; exact hne e)
theorem Zfm.below {E : TypeId} {w w' : World} (h : Below w.heap.size w w') : Zfm E w w' := fun k _ e => h.block k (Array.getElem?_eq_some_iff.1 e).1
theorem Zn5 {w : World} {lo : Nat} {E : TypeId} {k n n' g c : Nat} {X : List Value} (h : w.ownsRow lo E k (.slice (some ⟨g, 0, none⟩) n c) n' X) : ∃ cur, w.heap[g]? = some (.cells cur E (0, 0)) := by
 rcases h.2 with ⟨e, _⟩ | ⟨g', cap, cur, e, _, hh, _⟩
 · cases e
 injection e with e1; injection e1 with e1; injection e1 with e1; subst e1; exact ⟨cur, hh⟩
theorem Own.spare {w w' : World} {lo hi : Nat} {E : TypeId} {k : Nat} {v : Value} {n : Nat} {xs : List Value} (h : Own w lo hi E k v n xs) (hs : Zfm E w w') : Own w' lo hi E k v n xs := by
 rcases h with h | ⟨hn, g, c, rfl, h1, h2, h3⟩
 · exact .inl h
 obtain ⟨cur, hcur⟩ := Zn5 h3
 exact .inr ⟨hn, g, c, rfl, h1, h2, Jl h3 fun b e => by
  have : g = b := by simpa [Value.ownBlock] using e
  subst this; exact hs g cur hcur⟩
def Far (u v : Value) : Prop := ∀ g n c g' n' c', u = .slice (some ⟨g, 0, none⟩) n c → v = .slice (some ⟨g', 0, none⟩) n' c' → 0 < n → 0 < n' → g ≠ g'
def Zcu (w : World) (lo hi : Nat) (vs : List Value) (rows : List Jv) : Prop :=
 vs.length = rows.length ∧ (∀ (j : Nat) (h : j < vs.length) (h' : j < rows.length), Own w lo hi 105 11 vs[j] rows[j].cs.length (rows[j].cs.flatMap Qv)) ∧ vs.Pairwise Far
theorem Zcu.keep {w w' : World} {lo hi : Nat} {vs : List Value} {rows : List Jv} (h : Zcu w lo hi vs rows) (hk : ∀ b, lo ≤ b → b < hi → w'.heap[b]? = w.heap[b]?) : Zcu w' lo hi vs rows :=
 ⟨h.1, fun j h1 h2 => (h.2.1 j h1 h2).keep hk, h.2.2⟩
theorem Zcu.mono {w : World} {lo hi lo' hi' : Nat} {vs : List Value} {rows : List Jv} (h : Zcu w lo hi vs rows) (hl : lo' ≤ lo) (hh : hi ≤ hi') : Zcu w lo' hi' vs rows :=
 ⟨h.1, fun j h1 h2 => (h.2.1 j h1 h2).mono hl hh, h.2.2⟩
def Yd (w : World) (lo hi : Nat) (v : Value) (vs : List Value) (rows : List Jv) : Prop :=
 Own w lo hi 84 2 v rows.length (Qj vs rows) ∧ Zcu w lo hi vs rows
theorem Zhf (vs : List Value) : ∀ (rows : List Jv) (j : Nat) (r : Jv), j < vs.length → j < rows.length → Qj vs (rows.set j r) = (Qj vs rows).set (j * 2 + 1) (.bool r.wh) := by
 induction vs with
 | nil => intro rows j r h _; exact absurd h (Nat.not_lt_zero _)
 | cons v vs ih =>
  intro rows j r h1 h2
  cases rows with
  | nil => exact absurd h2 (Nat.not_lt_zero _)
  | cons q rows =>
   have e : ∀ (x : Jv) (ys : List Jv), Qj (v :: vs) (x :: ys) = v :: .bool x.wh :: Qj vs ys := fun _ _ => rfl
   cases j with
   | zero => simp [e]
   | succ j =>
    rw [List.set_cons_succ, e, e, ih rows j r (by simpa using h1) (by simpa using h2), show (j + 1) * 2 + 1 = j * 2 + 1 + 1 + 1 by omega]
    rfl
theorem Far.symm {u v : Value} (h : Far u v) : Far v u := fun g n c g' n' c' e1 e2 h1 h2 e => h g' n' c' g n c e2 e1 h2 h1 e.symm
theorem Ztm {vs : List Value} (h : vs.Pairwise Far) {i j : Nat} (hi : i < vs.length) (hj : j < vs.length) (hne : i ≠ j) : Far vs[i] vs[j] := by
 rcases Nat.lt_or_gt_of_ne hne with hlt | hlt
 · exact List.pairwise_iff_getElem.1 h i j hi hj hlt
 exact (List.pairwise_iff_getElem.1 h j i hj hi hlt).symm
theorem Yd.cells {w w' : World} {lo hi : Nat} {v : Value} {vs : List Value} {rows : List Jv} (h : Yd w lo hi v vs rows) (j : Nat) (hj : j < vs.length) (hj' : j < rows.length) (g c : Nat) (he : vs[j] = .slice (some ⟨g, 0, none⟩) rows[j].cs.length c)
 (hpos : 0 < rows[j].cs.length) (hg : w.grownBy w' (some g)) (cs' : List Qi) (hl : cs'.length = rows[j].cs.length) (hlo : lo ≤ g) (hhi : g < hi)
 (ho : w'.ownsRow lo 105 11 vs[j] cs'.length (cs'.flatMap Qv)) (hhw : hi ≤ w.heap.size) (hold : w.ownsRow lo 105 11 vs[j] rows[j].cs.length (rows[j].cs.flatMap Qv)) :
 Yd w' lo hi v vs (rows.set j ⟨cs', rows[j].wh⟩) := by
 obtain ⟨h1, h2, h3, h4⟩ := h
 have hne : ∀ b, b ≠ g → lo ≤ b → b < hi → w'.heap[b]? = w.heap[b]? := fun b hb h1 h2 => hg.block b (by omega) (fun e => hb (by injection e))
 have hgc : ∃ cur, w.heap[g]? = some (.cells cur 105 (0, 0)) := by
  rcases hold.2 with ⟨e, _⟩ | ⟨g', cap, cur, e, _, hh, _⟩
  · rw [he] at e; cases e
  rw [he] at e; injection e with e1; injection e1 with e1; injection e1 with e1; subst e1; exact ⟨cur, hh⟩
 refine ⟨?_, by simpa using h2, fun i a b => ?_, h4⟩
 ·
  have e1 : Qj vs (rows.set j ⟨cs', rows[j].wh⟩) = Qj vs rows := by
   rw [Zhf vs rows j _ hj hj']
   have := (Zcg vs rows j hj hj').2
   obtain ⟨hlt, he2⟩ := List.getElem?_eq_some_iff.1 this
   rw [show (Value.bool (Jv.mk cs' rows[j].wh).wh) = (Qj vs rows)[j * 2 + 1] from he2.symm]
   exact List.set_getElem_self hlt
  rw [e1, List.length_set]
  rcases h1 with h1 | ⟨hn, gr, cr, rfl, b1, b2, b3⟩
  · exact .inl h1
  refine .inr ⟨hn, gr, cr, rfl, b1, b2, Jl b3 fun b hb => ?_⟩
  have e2 : gr = b := by simpa [Value.ownBlock] using hb
  subst e2
  refine hne _ (fun e => ?_) b1 b2
  subst e
  obtain ⟨cur, hcur⟩ := hgc
  rcases b3.2 with ⟨e, _⟩ | ⟨g', cap, cur', e, _, hh, _⟩
  · cases e
  injection e with e1; injection e1 with e1; injection e1 with e1; subst e1
  rw [hcur] at hh; injection hh with hh; injection hh with _ hh; exact absurd hh (by decide)
 by_cases hij : i = j
 · subst hij
   rw [List.getElem_set_self]
   exact .inr ⟨by show 0 < cs'.length; omega, g, c, by rw [he, hl], hlo, hhi, ho⟩
 rw [List.getElem_set_ne (fun e => hij e.symm)]
 have h5 := h3 i a (by simpa using b)
 rcases h5 with h5 | ⟨hn, gi, ci, ei, b1, b2, b3⟩
 · exact .inl h5
 refine .inr ⟨hn, gi, ci, ei, b1, b2, Jl b3 fun b hb => ?_⟩
 rw [ei] at hb
 have e2 : gi = b := by simpa [Value.ownBlock] using hb
 subst e2
 exact hne _ (fun e => (Ztm h4 a hj hij) gi _ ci g _ c ei he hn hpos e) b1 b2
theorem Yd.keep {w w' : World} {lo hi : Nat} {v : Value} {vs : List Value} {rows : List Jv} (h : Yd w lo hi v vs rows) (hk : ∀ b, lo ≤ b → b < hi → w'.heap[b]? = w.heap[b]?) : Yd w' lo hi v vs rows := ⟨h.1.keep hk, h.2.keep hk⟩
theorem Yd.whole {w : World} {lo hi : Nat} {vs : List Value} {rows : List Jv} {gr cap n : Nat} (h : Yd w lo hi (.slice (some ⟨gr, 0, none⟩) n cap) vs rows) (j : Nat) (hj : j < vs.length) (hj' : j < rows.length) (b : Bool) :
 Yd (w.setCell ⟨gr, j * 2 + 1, none⟩ (.bool b)) lo hi (.slice (some ⟨gr, 0, none⟩) n cap) vs (rows.set j ⟨rows[j].cs, b⟩) := by
 obtain ⟨h1, h2, h3, h4⟩ := h
 rcases h1 with ⟨h0, _⟩ | ⟨hn, gr', cr, e, b1, b2, b3⟩
 · omega
 injection e with e e2 _; injection e with e; injection e with e; subst e; subst e2
 have hrow : ∃ cur, w.heap[gr]? = some (.cells cur 84 (0, 0)) := by
  rcases b3.2 with ⟨e, _⟩ | ⟨g', cap, cur', e, _, hh, _⟩
  · cases e
  injection e with e1; injection e1 with e1; injection e1 with e1; subst e1; exact ⟨cur', hh⟩
 refine ⟨?_, by simpa using h2, fun i a b' => ?_, h4⟩
 · rw [Zhf vs rows j _ hj hj', List.length_set]
   exact .inr ⟨hn, gr, _, rfl, b1, b2, (b3.stored (j * 2 + 1) (.bool b)).1⟩
 have e0 : (rows.set j ⟨rows[j].cs, b⟩)[i].cs = (rows[i]'(by simpa using b')).cs := by
  rw [List.getElem_set]
  split
  · rename_i e; subst e; rfl
  rfl
 rw [e0]
 rcases h3 i a (by simpa using b') with h5 | ⟨hn5, gi, ci, ei, c1, c2, c3⟩
 · exact .inl h5
 refine .inr ⟨hn5, gi, ci, ei, c1, c2, Jl c3 fun k hk => Zak _ _ _ _ (fun e => ?_)⟩
 rw [ei] at hk c3
 have e2 : gi = k := by simpa [Value.ownBlock] using hk
 obtain ⟨cur, hcur⟩ := hrow
 have e3 : k = gr := e
 subst e2
 subst e3
 rcases c3.2 with ⟨e, _⟩ | ⟨g', cap, cur', e, _, hh, _⟩
 · cases e
 injection e with e1; injection e1 with e1; injection e1 with e1; subst e1
 rw [hcur] at hh; injection hh with hh; injection hh with _ hh; exact absurd hh (by decide)
theorem Yd.at {w : World} {lo hi : Nat} {vs : List Value} {rows : List Jv} {gr cap n : Nat} (h : Yd w lo hi (.slice (some ⟨gr, 0, none⟩) n cap) vs rows) (j : Nat) (hj : j < vs.length) (hj' : j < rows.length) :
 w.cell? ⟨gr, j * 2, none⟩ = some vs[j] ∧ w.cell? ⟨gr, j * 2 + 1, none⟩ = some (.bool rows[j].wh) ∧ (∀ i, w.frozen? ⟨gr, i, none⟩ = false) ∧ lo ≤ gr ∧ gr < hi := by
 rcases h.1 with ⟨h0, _⟩ | ⟨hn, gr', cr, e, b1, b2, b3⟩
 · omega
 injection e with e e2 _; injection e with e; injection e with e; subst e
 rw [← e2] at b3
 have := b3.1
 have k0 := b3.cellAt (j * 2) (by omega)
 have k1 := b3.cellAt (j * 2 + 1) (by omega)
 obtain ⟨g0, g1⟩ := Zcg vs rows j hj hj'
 exact ⟨k0.trans g0, k1.trans g1, fun i => b3.frozenAt i, b1, b2⟩
theorem Yd.head {w : World} {lo hi : Nat} {vs : List Value} {rows : List Jv} {gr cap n : Nat} (h : Yd w lo hi (.slice (some ⟨gr, 0, none⟩) n cap) vs rows) (hpos : 0 < rows.length) : ∃ cur, w.heap[gr]? = some (.cells cur 84 (0, 0)) := by
 rcases h.1 with ⟨h0, _⟩ | ⟨hn, gr', cr, e, b1, b2, b3⟩
 · omega
 exact Zn5 b3
theorem Yd.len {w : World} {lo hi : Nat} {v : Value} {vs : List Value} {rows : List Jv} (h : Yd w lo hi v vs rows) : ∃ A c, v = .slice A rows.length c := h.1.form
theorem Yd.apart {w w' : World} {lo hi n : Nat} {v vc : Value} {vs : List Value} {rows : List Jv} {X : List Value} (h : Yd w lo hi v vs rows) (hc : Own w lo hi 100 2 vc n X) (hhw : hi ≤ w.heap.size)
 (hg : w' = w ∨ ∃ g, 0 < n ∧ (∃ c, vc = .slice (some ⟨g, 0, none⟩) n c) ∧ w.grownBy w' (some g) ∧ lo ≤ g ∧ g < hi) : Yd w' lo hi v vs rows := by
 rcases hg with rfl | ⟨g, hn, ⟨c, e⟩, hg, _, _⟩
 · exact h
 obtain ⟨cur, hcur⟩ : ∃ cur, w.heap[g]? = some (.cells cur 100 (0, 0)) := by
  rcases hc with ⟨h0, _⟩ | ⟨_, g1, c1, e1, _, _, h3⟩
  · omega
  rcases h3.2 with ⟨e2, _⟩ | ⟨g', cap, cur, e2, _, hh, _⟩
  · rw [e] at e2; cases e2
  rw [e] at e2; injection e2 with e2; injection e2 with e2; injection e2 with e2; subst e2; exact ⟨cur, hh⟩
 have hne : ∀ (E : TypeId), E ≠ 100 → ∀ (b k n' : Nat) (u : Value) (Y : List Value) (lo' : Nat), w.ownsRow lo' E k u n' Y → u.ownBlock = some b → b < hi → w'.heap[b]? = w.heap[b]? := fun E hE b k n' u Y lo' ho hb hbh => by
  refine hg.block b (by omega) (fun e3 => ?_)
  injection e3 with e3
  subst e3
  rcases ho.2 with ⟨e4, _⟩ | ⟨g', cap, cur', e4, _, hh, _⟩
  · rw [e4] at hb; cases hb
  rw [e4] at hb
  have e5 : g' = b := by simpa [Value.ownBlock] using hb
  subst e5
  rw [hcur] at hh; injection hh with hh; injection hh with _ hh; exact absurd hh.symm hE
 obtain ⟨h1, h2, h3, h4⟩ := h
 refine ⟨?_, h2, fun j a b => ?_, h4⟩
 ·
  rcases h1 with h1 | ⟨hn1, gr, cr, rfl, b1, b2, b3⟩
  · exact .inl h1
  exact .inr ⟨hn1, gr, cr, rfl, b1, b2, Jl b3 fun k hk => by
   have e5 : gr = k := by simpa [Value.ownBlock] using hk
   exact hne _ (by decide) k _ _ _ _ _ b3 hk (by omega)⟩
 rcases h3 j a b with h5 | ⟨hn1, gr, cr, e6, b1, b2, b3⟩
 · exact .inl h5
 exact .inr ⟨hn1, gr, cr, e6, b1, b2, Jl b3 fun k hk => by
  have e5 : gr = k := by rw [e6] at hk; simpa [Value.ownBlock] using hk
  exact hne _ (by decide) k _ _ _ _ _ b3 hk (by omega)⟩
theorem Zg {w w1 : World} (hb : Below w.heap.size w w1) {p : Addr} {v : Value} (h : w.cell? p = some v) : w1.cell? p = some v := (hb.cell (World.block_lt_of_cell? w _ h)).trans h
end Go.Proofs.YtgdmcmicfoamlaaGreatDoor
