import Derived.Test.YtfcogogpioeggaaDoorV
namespace Go.Proofs.YtfcogogpioeggaaDoor
open Go.RowKit
variable {α : Type}
def idxZ (p : α → Bool) (xs : List α) : Int := match xs.findIdx? p with | some i => i | none => -1
theorem idxZ_hit (p : α → Bool) (xs : List α) (k : Nat) (hk : k < xs.length) (h : p xs[k] = true) (hn : ∀ j (h : j < xs.length), j < k → p xs[j] = false) : idxZ p xs = k := by
  have : xs.findIdx? p = some k := by
    rw [List.findIdx?_eq_some_iff_getElem]
    exact ⟨hk, h, fun j hj => by simp [hn j (by omega) hj]⟩
  simp [idxZ, this]
theorem idxZ_miss (p : α → Bool) (xs : List α) (hn : ∀ j (h : j < xs.length), j < xs.length → p xs[j] = false) : idxZ p xs = -1 := by
  have : xs.findIdx? p = none := by
    rw [List.findIdx?_eq_none_iff]
    intro x hx
    obtain ⟨i, hi, rfl⟩ := List.getElem_of_mem hx
    exact hn i hi hi
  simp [idxZ, this]
theorem idxZ_any (p : α → Bool) (xs : List α) : decide (0 ≤ idxZ p xs) = xs.any p := by
  unfold idxZ
  cases h : xs.findIdx? p with
  | some i =>
    obtain ⟨hi, h1, _⟩ := List.findIdx?_eq_some_iff_getElem.1 h
    have : xs.any p = true := List.any_eq_true.2 ⟨xs[i], List.getElem_mem hi, h1⟩
    simp [this]
  | none =>
    rw [List.findIdx?_eq_none_iff] at h
    have : xs.any p = false := by simpa using h
    simp [this]

set_option maxHeartbeats 2000000 in
theorem idx_TblCol (d : Rep α) (hsz : d.sz = 2) (p : α → Bool) (g : Nat) (lb : Array Value) (eg : ∀ args w, (callFunc g args).run Tryd.prog w = .ok (.enter g args) w) (A : Option Addr) (c : Nat) (xs : List α) (w : World)
    (hp : Pred Tryd.prog g lb d agg p w) (hr : Rd d w A xs) :
    Calls Tryd.prog 107 #[.slice A xs.length c, .func (.func g) #[] lb] w fun e w' => e = .returned (.int .i64 (idxZ p xs)) ∧ Below w.heap.size w w' := by
  have hl := hr.1
  go_enter Tryd.func107, Tryd.ntmps107
  go_wp2
  go_loopg [5, 8] xs.length (fun gg _ s8 wr => ∃ kk : Nat, kk ≤ xs.length ∧ xs.length - kk ≤ gg ∧ s8 = .int .i64 kk ∧ Aside (Below w.heap.size w wr) ∧ Aside (∀ j (h : j < xs.length), j < kk → p xs[j] = false))
  case atStart => exact ⟨0, Nat.zero_le _, by omega, rfl, Below.refl _ w, fun j _ hj => absurd hj (Nat.not_lt_zero _)⟩
  case round =>
    obtain ⟨kk, hkk, hg, rfl, BW, AA⟩ := hrel
    by_cases hlt : kk < xs.length
    · have hltz : (kk : Int) < (xs.length : Int) := by omega
      obtain ⟨b, o, c0, c1, rfl, hblt, hK, h0, h1⟩ := hr.at2 hsz BW.out kk hlt
      have hcall := hp wr _ _ BW.out hK
      clear hp hr
      cases hq : p xs[kk] with
      | true =>
        rw [hq] at hcall
        have Hq := hide hq; clear hq
        go_wp2_with (go_at_fn g; refine hcall.mono ?_; rintro e w' ⟨rfl, hb'⟩)
        go_ret
        exact ⟨by rw [idxZ_hit p xs kk hlt Hq.out AA.out]; rfl, step BW.out hb'⟩
      | false =>
        rw [hq] at hcall
        have Hq := hide hq; clear hq
        go_wp2_with (go_at_fn g; refine hcall.mono ?_; rintro e w' ⟨rfl, hb'⟩)
        go_roundg (xs.length - (kk + 1))
        case measure => omega
        case rel =>
          refine ⟨kk + 1, by omega, by omega, by go_num, step BW.out hb', (show Aside _ from fun j hj hjk => ?_)⟩
          by_cases e : j = kk
          · subst e; exact Hq.out
          · exact AA.out j hj (by omega)
    · have hltz : ¬ (kk : Int) < (xs.length : Int) := by omega
      have hkl : kk = xs.length := by omega
      have HK := hide hkl; clear hkl
      go_wp2
      go_ret
      exact ⟨by rw [idxZ_miss p xs (fun j h _ => AA.out j h (by have := HK.out; omega))]; rfl, BW.out⟩
theorem any_TblCol (d : Rep α) (hsz : d.sz = 2) (p : α → Bool) (g : Nat) (lb : Array Value) (eg : ∀ args w, (callFunc g args).run Tryd.prog w = .ok (.enter g args) w) (A : Option Addr) (c : Nat) (xs : List α) (w : World)
    (hp : Pred Tryd.prog g lb d agg p w) (hr : Rd d w A xs) :
    Calls Tryd.prog 77 #[.slice A xs.length c, .func (.func g) #[] lb] w fun e w' => e = .returned (.bool (xs.any p)) ∧ Below w.heap.size w w' := by
  rw [← idxZ_any p xs]
  go_enter Tryd.func77, Tryd.ntmps77
  go_wp2_with (go_at_call 107; refine (idx_TblCol d hsz p g lb eg A c xs w hp hr).mono ?_; rintro e w' ⟨rfl, hb'⟩)
  go_ret
  exact ⟨rfl, hb'⟩
set_option maxHeartbeats 2000000 in
theorem idx_TblCell (d : Rep α) (hsz : d.sz = 11) (p : α → Bool) (g : Nat) (lb : Array Value) (eg : ∀ args w, (callFunc g args).run Tryd.prog w = .ok (.enter g args) w) (A : Option Addr) (c : Nat) (xs : List α) (w : World)
    (hp : Pred Tryd.prog g lb d agg p w) (hr : Rd d w A xs) :
    Calls Tryd.prog 109 #[.slice A xs.length c, .func (.func g) #[] lb] w fun e w' => e = .returned (.int .i64 (idxZ p xs)) ∧ Below w.heap.size w w' := by
  have hl := hr.1
  go_enter Tryd.func109, Tryd.ntmps109
  go_wp2
  go_loopg [5, 8] xs.length (fun gg _ s8 wr => ∃ kk : Nat, kk ≤ xs.length ∧ xs.length - kk ≤ gg ∧ s8 = .int .i64 kk ∧ Aside (Below w.heap.size w wr) ∧ Aside (∀ j (h : j < xs.length), j < kk → p xs[j] = false))
  case atStart => exact ⟨0, Nat.zero_le _, by omega, rfl, Below.refl _ w, fun j _ hj => absurd hj (Nat.not_lt_zero _)⟩
  case round =>
    obtain ⟨kk, hkk, hg, rfl, BW, AA⟩ := hrel
    by_cases hlt : kk < xs.length
    · have hltz : (kk : Int) < (xs.length : Int) := by omega
      obtain ⟨b, o, c0, c1, c2, c3, c4, c5, c6, c7, c8, c9, c10, rfl, hblt, hK, h0, h1, h2, h3, h4, h5, h6, h7, h8, h9, h10⟩ := hr.at11 hsz BW.out kk hlt
      have hcall := hp wr _ _ BW.out hK
      clear hp hr
      cases hq : p xs[kk] with
      | true =>
        rw [hq] at hcall
        have Hq := hide hq; clear hq
        go_wp2_with (go_at_fn g; refine hcall.mono ?_; rintro e w' ⟨rfl, hb'⟩)
        go_ret
        exact ⟨by rw [idxZ_hit p xs kk hlt Hq.out AA.out]; rfl, step BW.out hb'⟩
      | false =>
        rw [hq] at hcall
        have Hq := hide hq; clear hq
        go_wp2_with (go_at_fn g; refine hcall.mono ?_; rintro e w' ⟨rfl, hb'⟩)
        go_roundg (xs.length - (kk + 1))
        case measure => omega
        case rel =>
          refine ⟨kk + 1, by omega, by omega, by go_num, step BW.out hb', (show Aside _ from fun j hj hjk => ?_)⟩
          by_cases e : j = kk
          · subst e; exact Hq.out
          · exact AA.out j hj (by omega)
    · have hltz : ¬ (kk : Int) < (xs.length : Int) := by omega
      have hkl : kk = xs.length := by omega
      have HK := hide hkl; clear hkl
      go_wp2
      go_ret
      exact ⟨by rw [idxZ_miss p xs (fun j h _ => AA.out j h (by have := HK.out; omega))]; rfl, BW.out⟩
theorem any_TblCell (d : Rep α) (hsz : d.sz = 11) (p : α → Bool) (g : Nat) (lb : Array Value) (eg : ∀ args w, (callFunc g args).run Tryd.prog w = .ok (.enter g args) w) (A : Option Addr) (c : Nat) (xs : List α) (w : World)
    (hp : Pred Tryd.prog g lb d agg p w) (hr : Rd d w A xs) :
    Calls Tryd.prog 83 #[.slice A xs.length c, .func (.func g) #[] lb] w fun e w' => e = .returned (.bool (xs.any p)) ∧ Below w.heap.size w w' := by
  rw [← idxZ_any p xs]
  go_enter Tryd.func83, Tryd.ntmps83
  go_wp2_with (go_at_call 109; refine (idx_TblCell d hsz p g lb eg A c xs w hp hr).mono ?_; rintro e w' ⟨rfl, hb'⟩)
  go_ret
  exact ⟨rfl, hb'⟩
set_option maxHeartbeats 2000000 in
theorem idx_TblRow (d : Rep α) (hsz : d.sz = 2) (p : α → Bool) (g : Nat) (lb : Array Value) (eg : ∀ args w, (callFunc g args).run Tryd.prog w = .ok (.enter g args) w) (A : Option Addr) (c : Nat) (xs : List α) (w : World)
    (hp : Pred Tryd.prog g lb d agg p w) (hr : Rd d w A xs) :
    Calls Tryd.prog 108 #[.slice A xs.length c, .func (.func g) #[] lb] w fun e w' => e = .returned (.int .i64 (idxZ p xs)) ∧ Below w.heap.size w w' := by
  have hl := hr.1
  go_enter Tryd.func108, Tryd.ntmps108
  go_wp2
  go_loopg [5, 8] xs.length (fun gg _ s8 wr => ∃ kk : Nat, kk ≤ xs.length ∧ xs.length - kk ≤ gg ∧ s8 = .int .i64 kk ∧ Aside (Below w.heap.size w wr) ∧ Aside (∀ j (h : j < xs.length), j < kk → p xs[j] = false))
  case atStart => exact ⟨0, Nat.zero_le _, by omega, rfl, Below.refl _ w, fun j _ hj => absurd hj (Nat.not_lt_zero _)⟩
  case round =>
    obtain ⟨kk, hkk, hg, rfl, BW, AA⟩ := hrel
    by_cases hlt : kk < xs.length
    · have hltz : (kk : Int) < (xs.length : Int) := by omega
      obtain ⟨b, o, c0, c1, rfl, hblt, hK, h0, h1⟩ := hr.at2 hsz BW.out kk hlt
      have hcall := hp wr _ _ BW.out hK
      clear hp hr
      cases hq : p xs[kk] with
      | true =>
        rw [hq] at hcall
        have Hq := hide hq; clear hq
        go_wp2_with (go_at_fn g; refine hcall.mono ?_; rintro e w' ⟨rfl, hb'⟩)
        go_ret
        exact ⟨by rw [idxZ_hit p xs kk hlt Hq.out AA.out]; rfl, step BW.out hb'⟩
      | false =>
        rw [hq] at hcall
        have Hq := hide hq; clear hq
        go_wp2_with (go_at_fn g; refine hcall.mono ?_; rintro e w' ⟨rfl, hb'⟩)
        go_roundg (xs.length - (kk + 1))
        case measure => omega
        case rel =>
          refine ⟨kk + 1, by omega, by omega, by go_num, step BW.out hb', (show Aside _ from fun j hj hjk => ?_)⟩
          by_cases e : j = kk
          · subst e; exact Hq.out
          · exact AA.out j hj (by omega)
    · have hltz : ¬ (kk : Int) < (xs.length : Int) := by omega
      have hkl : kk = xs.length := by omega
      have HK := hide hkl; clear hkl
      go_wp2
      go_ret
      exact ⟨by rw [idxZ_miss p xs (fun j h _ => AA.out j h (by have := HK.out; omega))]; rfl, BW.out⟩
theorem any_TblRow (d : Rep α) (hsz : d.sz = 2) (p : α → Bool) (g : Nat) (lb : Array Value) (eg : ∀ args w, (callFunc g args).run Tryd.prog w = .ok (.enter g args) w) (A : Option Addr) (c : Nat) (xs : List α) (w : World)
    (hp : Pred Tryd.prog g lb d agg p w) (hr : Rd d w A xs) :
    Calls Tryd.prog 81 #[.slice A xs.length c, .func (.func g) #[] lb] w fun e w' => e = .returned (.bool (xs.any p)) ∧ Below w.heap.size w w' := by
  rw [← idxZ_any p xs]
  go_enter Tryd.func81, Tryd.ntmps81
  go_wp2_with (go_at_call 108; refine (idx_TblRow d hsz p g lb eg A c xs w hp hr).mono ?_; rintro e w' ⟨rfl, hb'⟩)
  go_ret
  exact ⟨rfl, hb'⟩
set_option maxHeartbeats 2000000 in
theorem idx_GrdCell (d : Rep α) (hsz : d.sz = 5) (p : α → Bool) (g : Nat) (lb : Array Value) (eg : ∀ args w, (callFunc g args).run Tryd.prog w = .ok (.enter g args) w) (A : Option Addr) (c : Nat) (xs : List α) (w : World)
    (hp : Pred Tryd.prog g lb d agg p w) (hr : Rd d w A xs) :
    Calls Tryd.prog 93 #[.slice A xs.length c, .func (.func g) #[] lb] w fun e w' => e = .returned (.int .i64 (idxZ p xs)) ∧ Below w.heap.size w w' := by
  have hl := hr.1
  go_enter Tryd.func93, Tryd.ntmps93
  go_wp2
  go_loopg [5, 8] xs.length (fun gg _ s8 wr => ∃ kk : Nat, kk ≤ xs.length ∧ xs.length - kk ≤ gg ∧ s8 = .int .i64 kk ∧ Aside (Below w.heap.size w wr) ∧ Aside (∀ j (h : j < xs.length), j < kk → p xs[j] = false))
  case atStart => exact ⟨0, Nat.zero_le _, by omega, rfl, Below.refl _ w, fun j _ hj => absurd hj (Nat.not_lt_zero _)⟩
  case round =>
    obtain ⟨kk, hkk, hg, rfl, BW, AA⟩ := hrel
    by_cases hlt : kk < xs.length
    · have hltz : (kk : Int) < (xs.length : Int) := by omega
      obtain ⟨b, o, c0, c1, c2, c3, c4, rfl, hblt, hK, h0, h1, h2, h3, h4⟩ := hr.at5 hsz BW.out kk hlt
      have hcall := hp wr _ _ BW.out hK
      clear hp hr
      cases hq : p xs[kk] with
      | true =>
        rw [hq] at hcall
        have Hq := hide hq; clear hq
        go_wp2_with (go_at_fn g; refine hcall.mono ?_; rintro e w' ⟨rfl, hb'⟩)
        go_ret
        exact ⟨by rw [idxZ_hit p xs kk hlt Hq.out AA.out]; rfl, step BW.out hb'⟩
      | false =>
        rw [hq] at hcall
        have Hq := hide hq; clear hq
        go_wp2_with (go_at_fn g; refine hcall.mono ?_; rintro e w' ⟨rfl, hb'⟩)
        go_roundg (xs.length - (kk + 1))
        case measure => omega
        case rel =>
          refine ⟨kk + 1, by omega, by omega, by go_num, step BW.out hb', (show Aside _ from fun j hj hjk => ?_)⟩
          by_cases e : j = kk
          · subst e; exact Hq.out
          · exact AA.out j hj (by omega)
    · have hltz : ¬ (kk : Int) < (xs.length : Int) := by omega
      have hkl : kk = xs.length := by omega
      have HK := hide hkl; clear hkl
      go_wp2
      go_ret
      exact ⟨by rw [idxZ_miss p xs (fun j h _ => AA.out j h (by have := HK.out; omega))]; rfl, BW.out⟩
theorem any_GrdCell (d : Rep α) (hsz : d.sz = 5) (p : α → Bool) (g : Nat) (lb : Array Value) (eg : ∀ args w, (callFunc g args).run Tryd.prog w = .ok (.enter g args) w) (A : Option Addr) (c : Nat) (xs : List α) (w : World)
    (hp : Pred Tryd.prog g lb d agg p w) (hr : Rd d w A xs) :
    Calls Tryd.prog 53 #[.slice A xs.length c, .func (.func g) #[] lb] w fun e w' => e = .returned (.bool (xs.any p)) ∧ Below w.heap.size w w' := by
  rw [← idxZ_any p xs]
  go_enter Tryd.func53, Tryd.ntmps53
  go_wp2_with (go_at_call 93; refine (idx_GrdCell d hsz p g lb eg A c xs w hp hr).mono ?_; rintro e w' ⟨rfl, hb'⟩)
  go_ret
  exact ⟨rfl, hb'⟩
end Go.Proofs.YtfcogogpioeggaaDoor
