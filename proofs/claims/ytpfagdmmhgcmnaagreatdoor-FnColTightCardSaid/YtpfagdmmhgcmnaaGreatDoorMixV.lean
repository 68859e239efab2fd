import Derived.Test.YtpfagdmmhgcmnaaGreatDoorProg
import Derived.WalkKit
import Derived.WalkLawsBesides
import Derived.WalkSpells
import Derived.Deep.LoopGhost
import Derived.Deep.QuietTactic
import Derived.BigQuiet
import Derived.Outline
import Derived.StillTailTactics
import Derived.Shelf.Abstract
import Derived.Laws.EntriesVeiled
import Derived.Lib.SplitLaws
import Derived.Lib.SlTrimSet
import Derived.Lib.IndexBytes
import Derived.Shelf.Strings.Trim
import Derived.Shelf.Small.Utf8
import Derived.Shelf.Small.Strs
import Derived.Shelf.Strings.Search1
import Derived.Shelf.Strings.Search2
import Derived.Shelf.Strings.Search3
import Derived.Shelf.Strings.Count
import Derived.Shelf.LaysM
import Derived.Shelf.Strings.Shaped
import Derived.Shelf.Strings.Split
import Derived.Shelf.Strings.SplitShaped
import Derived.Shelf.Strings.Runes
import Derived.Shelf.Strings.AsciiSet
import Derived.Shelf.Bits.Mul64
import Derived.Shelf.Unicode.DecodeSlow
set_option linter.unusedVariables false
set_option linter.unusedSimpArgs false
namespace Go.Proofs.YtpfagdmmhgcmnaaGreatDoor
open Go.RowKit
structure Rep (α : Type) where
 sz : Nat
 K : World → α → List Value → Prop
 len : ∀ {w x cs}, K w x cs → cs.length = sz
 below : ∀ {w w1 x cs}, Below w.heap.size w w1 → K w x cs → K w1 x cs
variable {α : Type}
def Rd (d : Rep α) (w : World) (A : Option Addr) (xs : List α) : Prop :=
 xs.length ≤ 9223372036854775807 ∧ (xs ≠ [] → ∃ b o, A = some ⟨b, o, none⟩ ∧ b < w.heap.size ∧ ∀ (j : Nat) (h : j < xs.length), ∃ cs, d.K w xs[j] cs ∧ ∀ (i : Nat) u, cs[i]? = some u → w.cell? ⟨b, o + j * d.sz + i, none⟩ = some u)
theorem Rd.below {d : Rep α} {w w1 : World} {A : Option Addr} {xs : List α} (h : Rd d w A xs) (hb : Below w.heap.size w w1) : Rd d w1 A xs :=
 ⟨h.1, fun hn => by
  obtain ⟨b, o, e, hlt, hc⟩ := h.2 hn
  refine ⟨b, o, e, Nat.lt_of_lt_of_le hlt hb.size, fun j hj => ?_⟩
  obtain ⟨cs, hk, hcell⟩ := hc j hj
  exact ⟨cs, d.below hb hk, fun i u hu => (hb.cell (p := ⟨b, o + j * d.sz + i, none⟩) hlt).trans (hcell i u hu)⟩⟩
theorem Rd.at1 {d : Rep α} {w wr : World} {A : Option Addr} {xs : List α} (h : Rd d w A xs) (hs : d.sz = 1) (hb : Below w.heap.size w wr) (k : Nat) (hk : k < xs.length) :
  ∃ b o c0, A = some ⟨b, o, none⟩ ∧ b < w.heap.size ∧ d.K wr xs[k] [c0] ∧ wr.cell? ⟨b, o + k, none⟩ = some c0 := by
 obtain ⟨b, o, e, hlt, hc⟩ := h.2 (by rintro rfl; simp at hk)
 obtain ⟨cs, hK, hcell⟩ := hc k hk
 have hl := d.len hK
 rw [hs] at hl hcell
 match cs, hl with
 | [c0], _ =>
  refine ⟨b, o, c0, e, hlt, d.below hb hK, ?_⟩
  ·
   have q := (hb.cell (p := ⟨b, o + k * 1 + 0, none⟩) hlt).trans (hcell 0 c0 rfl); simpa using q
theorem Rd.at2 {d : Rep α} {w wr : World} {A : Option Addr} {xs : List α} (h : Rd d w A xs) (hs : d.sz = 2) (hb : Below w.heap.size w wr) (k : Nat) (hk : k < xs.length) :
  ∃ b o c0 c1, A = some ⟨b, o, none⟩ ∧ b < w.heap.size ∧ d.K wr xs[k] [c0, c1] ∧ wr.cell? ⟨b, o + k * 2, none⟩ = some c0 ∧ wr.cell? ⟨b, o + k * 2 + 1, none⟩ = some c1 := by
 obtain ⟨b, o, e, hlt, hc⟩ := h.2 (by rintro rfl; simp at hk)
 obtain ⟨cs, hK, hcell⟩ := hc k hk
 have hl := d.len hK
 rw [hs] at hl hcell
 match cs, hl with
 | [c0, c1], _ =>
  refine ⟨b, o, c0, c1, e, hlt, d.below hb hK, ?_, ?_⟩
  ·
   have q := (hb.cell (p := ⟨b, o + k * 2 + 0, none⟩) hlt).trans (hcell 0 c0 rfl); simpa using q
  ·
   have q := (hb.cell (p := ⟨b, o + k * 2 + 1, none⟩) hlt).trans (hcell 1 c1 rfl); simpa using q
theorem Rd.at5 {d : Rep α} {w wr : World} {A : Option Addr} {xs : List α} (h : Rd d w A xs) (hs : d.sz = 5) (hb : Below w.heap.size w wr) (k : Nat) (hk : k < xs.length) :
  ∃ b o c0 c1 c2 c3 c4, A = some ⟨b, o, none⟩ ∧ b < w.heap.size ∧ d.K wr xs[k] [c0, c1, c2, c3, c4] ∧ wr.cell? ⟨b, o + k * 5, none⟩ = some c0 ∧ wr.cell? ⟨b, o + k * 5 + 1, none⟩ = some c1 ∧ wr.cell? ⟨b, o + k * 5 + 2, none⟩ = some c2 ∧ wr.cell? ⟨b, o + k * 5 + 3, none⟩ = some c3 ∧ wr.cell? ⟨b, o + k * 5 + 4, none⟩ = some c4 := by
 obtain ⟨b, o, e, hlt, hc⟩ := h.2 (by rintro rfl; simp at hk)
 obtain ⟨cs, hK, hcell⟩ := hc k hk
 have hl := d.len hK
 rw [hs] at hl hcell
 match cs, hl with
 | [c0, c1, c2, c3, c4], _ =>
  refine ⟨b, o, c0, c1, c2, c3, c4, e, hlt, d.below hb hK, ?_, ?_, ?_, ?_, ?_⟩
  ·
   have q := (hb.cell (p := ⟨b, o + k * 5 + 0, none⟩) hlt).trans (hcell 0 c0 rfl); simpa using q
  ·
   have q := (hb.cell (p := ⟨b, o + k * 5 + 1, none⟩) hlt).trans (hcell 1 c1 rfl); simpa using q
  ·
   have q := (hb.cell (p := ⟨b, o + k * 5 + 2, none⟩) hlt).trans (hcell 2 c2 rfl); simpa using q
  ·
   have q := (hb.cell (p := ⟨b, o + k * 5 + 3, none⟩) hlt).trans (hcell 3 c3 rfl); simpa using q
  ·
   have q := (hb.cell (p := ⟨b, o + k * 5 + 4, none⟩) hlt).trans (hcell 4 c4 rfl); simpa using q
theorem Rd.at11 {d : Rep α} {w wr : World} {A : Option Addr} {xs : List α} (h : Rd d w A xs) (hs : d.sz = 11) (hb : Below w.heap.size w wr) (k : Nat) (hk : k < xs.length) :
  ∃ b o c0 c1 c2 c3 c4 c5 c6 c7 c8 c9 c10, A = some ⟨b, o, none⟩ ∧ b < w.heap.size ∧ d.K wr xs[k] [c0, c1, c2, c3, c4, c5, c6, c7, c8, c9, c10] ∧ wr.cell? ⟨b, o + k * 11, none⟩ = some c0 ∧ wr.cell? ⟨b, o + k * 11 + 1, none⟩ = some c1 ∧ wr.cell? ⟨b, o + k * 11 + 2, none⟩ = some c2 ∧ wr.cell? ⟨b, o + k * 11 + 3, none⟩ = some c3 ∧ wr.cell? ⟨b, o + k * 11 + 4, none⟩ = some c4 ∧ wr.cell? ⟨b, o + k * 11 + 5, none⟩ = some c5 ∧ wr.cell? ⟨b, o + k * 11 + 6, none⟩ = some c6 ∧ wr.cell? ⟨b, o + k * 11 + 7, none⟩ = some c7 ∧ wr.cell? ⟨b, o + k * 11 + 8, none⟩ = some c8 ∧ wr.cell? ⟨b, o + k * 11 + 9, none⟩ = some c9 ∧ wr.cell? ⟨b, o + k * 11 + 10, none⟩ = some c10 := by
 obtain ⟨b, o, e, hlt, hc⟩ := h.2 (by rintro rfl; simp at hk)
 obtain ⟨cs, hK, hcell⟩ := hc k hk
 have hl := d.len hK
 rw [hs] at hl hcell
 match cs, hl with
 | [c0, c1, c2, c3, c4, c5, c6, c7, c8, c9, c10], _ =>
  refine ⟨b, o, c0, c1, c2, c3, c4, c5, c6, c7, c8, c9, c10, e, hlt, d.below hb hK, ?_, ?_, ?_, ?_, ?_, ?_, ?_, ?_, ?_, ?_, ?_⟩
  ·
   have q := (hb.cell (p := ⟨b, o + k * 11 + 0, none⟩) hlt).trans (hcell 0 c0 rfl); simpa using q
  ·
   have q := (hb.cell (p := ⟨b, o + k * 11 + 1, none⟩) hlt).trans (hcell 1 c1 rfl); simpa using q
  ·
   have q := (hb.cell (p := ⟨b, o + k * 11 + 2, none⟩) hlt).trans (hcell 2 c2 rfl); simpa using q
  ·
   have q := (hb.cell (p := ⟨b, o + k * 11 + 3, none⟩) hlt).trans (hcell 3 c3 rfl); simpa using q
  ·
   have q := (hb.cell (p := ⟨b, o + k * 11 + 4, none⟩) hlt).trans (hcell 4 c4 rfl); simpa using q
  ·
   have q := (hb.cell (p := ⟨b, o + k * 11 + 5, none⟩) hlt).trans (hcell 5 c5 rfl); simpa using q
  ·
   have q := (hb.cell (p := ⟨b, o + k * 11 + 6, none⟩) hlt).trans (hcell 6 c6 rfl); simpa using q
  ·
   have q := (hb.cell (p := ⟨b, o + k * 11 + 7, none⟩) hlt).trans (hcell 7 c7 rfl); simpa using q
  ·
   have q := (hb.cell (p := ⟨b, o + k * 11 + 8, none⟩) hlt).trans (hcell 8 c8 rfl); simpa using q
  ·
   have q := (hb.cell (p := ⟨b, o + k * 11 + 9, none⟩) hlt).trans (hcell 9 c9 rfl); simpa using q
  ·
   have q := (hb.cell (p := ⟨b, o + k * 11 + 10, none⟩) hlt).trans (hcell 10 c10 rfl); simpa using q
theorem Rd.nil (d : Rep α) (w : World) (A : Option Addr) : Rd d w A [] := ⟨by simp, fun h => absurd rfl h⟩
def flat (k : Nat) (enc : α → List Value) (hk : ∀ x, (enc x).length = k) : Rep α where
 sz := k
 K := fun _ x cs => cs = enc x
 len := by rintro w x cs rfl; exact hk x
 below := fun _ h => h
def IsSl (d : Rep α) (w : World) (v : Value) (xs : List α) : Prop := ∃ A c, v = .slice A xs.length c ∧ xs.length ≤ c ∧ Rd d w A xs
theorem IsSl.below {d : Rep α} {w w1 : World} {v : Value} {xs : List α} (h : IsSl d w v xs) (hb : Below w.heap.size w w1) : IsSl d w1 v xs := by
 obtain ⟨A, c, e, hl, hr⟩ := h
 exact ⟨A, c, e, hl, hr.below hb⟩
theorem seen {W w1 : World} (hb : Below W.heap.size W w1) : (∀ b o, b < W.heap.size → w1.cell? ⟨b, o, none⟩ = W.cell? ⟨b, o, none⟩) ∧ (∀ b o, b < W.heap.size → w1.frozen? ⟨b, o, none⟩ = W.frozen? ⟨b, o, none⟩) ∧ W.heap.size ≤ w1.heap.size :=
 ⟨fun b o h => hb.cell (p := ⟨b, o, none⟩) h, fun b o h => hb.frozen (p := ⟨b, o, none⟩) h, hb.size⟩
theorem step {w W w1 : World} (h : Below w.heap.size w W) (hb : Below W.heap.size W w1) : Below w.heap.size w w1 := h.trans (hb.mono h.size)
theorem seenS {W wc w1 : World} (H : Below W.heap.size W wc) (hb : Below wc.heap.size wc w1) : Below W.heap.size W w1 ∧ (∀ b o, b < W.heap.size → w1.cell? ⟨b, o, none⟩ = W.cell? ⟨b, o, none⟩) ∧ (∀ b o, b < W.heap.size → w1.frozen? ⟨b, o, none⟩ = W.frozen? ⟨b, o, none⟩) ∧ (∀ b, b < W.heap.size → b < w1.heap.size) ∧ (∀ b, b < W.heap.size → ¬ b = w1.heap.size) ∧ W.heap.size ≤ w1.heap.size :=
 have h := step H hb
 ⟨h, (seen h).1, (seen h).2.1, fun b hb => Nat.lt_of_lt_of_le hb h.size, fun b hb e => by have := h.size; omega, h.size⟩
def Pred (P : Program) (g : Nat) (lb : Array Value) (d : Rep α) (one : List Value → Value) (p : α → Bool) (w : World) : Prop :=
 ∀ (W : World) (x : α) (cs : List Value), Below w.heap.size w W → d.K W x cs → Calls P g (#[one cs] ++ lb) W fun e w' => e = .returned (.bool (p x)) ∧ Below W.heap.size W w'
def one (cs : List Value) : Value := cs.headD (.int .i64 0)
theorem hide {p : Prop} (h : p) : Hid p := h
def agg (cs : List Value) : Value := .agg cs.toArray
theorem cell_new (w : World) (cs : Array Value) (t : TypeId) (fr : Nat × Nat) (k : Nat) (u : Value) (h : cs[k]? = some u) : (w.alloc (.cells cs t fr)).cell? ⟨w.heap.size, k, none⟩ = some u := by
 have e : (w.alloc (.cells cs t fr)).heap[w.heap.size]? = some (.cells cs t fr) := by
  show (w.heap.push _)[w.heap.size]? = _
  rw [Array.getElem?_push_size]
 unfold World.cell?
 simp only [e]
 simpa using h
theorem run_mkf {P : Program} : ∀ (fn : Fn) (first cap : Array Value) (w : World), (Instr.makeFunc fn first cap).run P w = .ok (.func fn first cap) w := fun _ _ _ _ => rfl
end Go.Proofs.YtpfagdmmhgcmnaaGreatDoor

namespace Go.Proofs.YtpfagdmmhgcmnaaGreatDoor
open Go.RowKit
variable {α : Type}
def idxZ (p : α → Bool) (xs : List α) : Int := match xs.findIdx? p with | some i => i | none => -1
theorem idxZ_hit (p : α → Bool) (xs : List α) (k : Nat) (hk : k < xs.length) (h : p xs[k] = true) (hn : ∀ j (h : j < xs.length), j < k → p xs[j] = false) : idxZ p xs = k := by
 have : xs.findIdx? p = some k := by
  rw [List.findIdx?_eq_some_iff_getElem]
  exact ⟨hk, h, fun j hj => by simp [hn j (by omega) hj]⟩
 simp [idxZ, this]
theorem idxZ_miss (p : α → Bool) (xs : List α) (hn : ∀ j (h : j < xs.length), j < xs.length → p xs[j] = false) : idxZ p xs = -1 := by
 have : xs.findIdx? p = none := by
  rw [List.findIdx?_eq_none_iff]
  intro x hx
  obtain ⟨i, hi, rfl⟩ := List.getElem_of_mem hx
  exact hn i hi hi
 simp [idxZ, this]
theorem idxZ_any (p : α → Bool) (xs : List α) : decide (0 ≤ idxZ p xs) = xs.any p := by
 unfold idxZ
 cases h : xs.findIdx? p with
 | some i =>
  obtain ⟨hi, h1, _⟩ := List.findIdx?_eq_some_iff_getElem.1 h
  have : xs.any p = true := List.any_eq_true.2 ⟨xs[i], List.getElem_mem hi, h1⟩
  simp [this]
 | none =>
  rw [List.findIdx?_eq_none_iff] at h
  have : xs.any p = false := by simpa using h
  simp [this]
set_option maxHeartbeats 2000000 in
theorem idx_TblCol (d : Rep α) (hsz : d.sz = 2) (p : α → Bool) (g : Nat) (lb : Array Value) (eg : ∀ args w, (callFunc g args).run Tryz.prog w = .ok (.enter g args) w) (A : Option Addr) (c : Nat) (xs : List α) (w : World)
  (hp : Pred Tryz.prog g lb d agg p w) (hr : Rd d w A xs) :
  Calls Tryz.prog 117 #[.slice A xs.length c, .func (.func g) #[] lb] w fun e w' => e = .returned (.int .i64 (idxZ p xs)) ∧ Below w.heap.size w w' := by
 have hl := hr.1
 go_enter Tryz.func117, Tryz.ntmps117
 go_wp2
 go_loopg [5, 8] xs.length (fun gg _ s8 wr => ∃ kk : Nat, kk ≤ xs.length ∧ xs.length - kk ≤ gg ∧ s8 = .int .i64 kk ∧ Aside (Below w.heap.size w wr) ∧ Aside (∀ j (h : j < xs.length), j < kk → p xs[j] = false))
 case atStart => exact ⟨0, Nat.zero_le _, by omega, rfl, Below.refl _ w, fun j _ hj => absurd hj (Nat.not_lt_zero _)⟩
 case round =>
  obtain ⟨kk, hkk, hg, rfl, BW, AA⟩ := hrel
  by_cases hlt : kk < xs.length
  ·
   have hltz : (kk : Int) < (xs.length : Int) := by omega
   obtain ⟨b, o, c0, c1, rfl, hblt, hK, h0, h1⟩ := hr.at2 hsz BW.out kk hlt
   have hcall := hp wr _ _ BW.out hK
   clear hp hr
   cases hq : p xs[kk] with
   | true =>
    rw [hq] at hcall
    have Hq := hide hq; clear hq
    go_wp2_with (go_at_fn g; refine hcall.mono ?_; rintro e w' ⟨rfl, hb'⟩)
    go_ret
    exact ⟨by rw [idxZ_hit p xs kk hlt Hq.out AA.out]; rfl, step BW.out hb'⟩
   | false =>
    rw [hq] at hcall
    have Hq := hide hq; clear hq
    go_wp2_with (go_at_fn g; refine hcall.mono ?_; rintro e w' ⟨rfl, hb'⟩)
    go_roundg (xs.length - (kk + 1))
    case measure => omega
    case rel =>
     refine ⟨kk + 1, by omega, by omega, by go_num, step BW.out hb', (show Aside _ from fun j hj hjk => ?_)⟩
     by_cases e : j = kk
     ·
      subst e; exact Hq.out
     ·
      exact AA.out j hj (by omega)
  ·
   have hltz : ¬ (kk : Int) < (xs.length : Int) := by omega
   have hkl : kk = xs.length := by omega
   have HK := hide hkl; clear hkl
   go_wp2
   go_ret
   exact ⟨by rw [idxZ_miss p xs (fun j h _ => AA.out j h (by have := HK.out; omega))]; rfl, BW.out⟩
theorem any_TblCol (d : Rep α) (hsz : d.sz = 2) (p : α → Bool) (g : Nat) (lb : Array Value) (eg : ∀ args w, (callFunc g args).run Tryz.prog w = .ok (.enter g args) w) (A : Option Addr) (c : Nat) (xs : List α) (w : World)
  (hp : Pred Tryz.prog g lb d agg p w) (hr : Rd d w A xs) :
  Calls Tryz.prog 77 #[.slice A xs.length c, .func (.func g) #[] lb] w fun e w' => e = .returned (.bool (xs.any p)) ∧ Below w.heap.size w w' := by
 rw [← idxZ_any p xs]
 go_enter Tryz.func77, Tryz.ntmps77
 go_wp2_with (go_at_call 117; refine (idx_TblCol d hsz p g lb eg A c xs w hp hr).mono ?_; rintro e w' ⟨rfl, hb'⟩)
 go_ret
 exact ⟨rfl, hb'⟩
set_option maxHeartbeats 2000000 in
theorem idx_TblCell (d : Rep α) (hsz : d.sz = 11) (p : α → Bool) (g : Nat) (lb : Array Value) (eg : ∀ args w, (callFunc g args).run Tryz.prog w = .ok (.enter g args) w) (A : Option Addr) (c : Nat) (xs : List α) (w : World)
  (hp : Pred Tryz.prog g lb d agg p w) (hr : Rd d w A xs) :
  Calls Tryz.prog 120 #[.slice A xs.length c, .func (.func g) #[] lb] w fun e w' => e = .returned (.int .i64 (idxZ p xs)) ∧ Below w.heap.size w w' := by
 have hl := hr.1
 go_enter Tryz.func120, Tryz.ntmps120
 go_wp2
 go_loopg [5, 8] xs.length (fun gg _ s8 wr => ∃ kk : Nat, kk ≤ xs.length ∧ xs.length - kk ≤ gg ∧ s8 = .int .i64 kk ∧ Aside (Below w.heap.size w wr) ∧ Aside (∀ j (h : j < xs.length), j < kk → p xs[j] = false))
 case atStart => exact ⟨0, Nat.zero_le _, by omega, rfl, Below.refl _ w, fun j _ hj => absurd hj (Nat.not_lt_zero _)⟩
 case round =>
  obtain ⟨kk, hkk, hg, rfl, BW, AA⟩ := hrel
  by_cases hlt : kk < xs.length
  ·
   have hltz : (kk : Int) < (xs.length : Int) := by omega
   obtain ⟨b, o, c0, c1, c2, c3, c4, c5, c6, c7, c8, c9, c10, rfl, hblt, hK, h0, h1, h2, h3, h4, h5, h6, h7, h8, h9, h10⟩ := hr.at11 hsz BW.out kk hlt
   have hcall := hp wr _ _ BW.out hK
   clear hp hr
   cases hq : p xs[kk] with
   | true =>
    rw [hq] at hcall
    have Hq := hide hq; clear hq
    go_wp2_with (go_at_fn g; refine hcall.mono ?_; rintro e w' ⟨rfl, hb'⟩)
    go_ret
    exact ⟨by rw [idxZ_hit p xs kk hlt Hq.out AA.out]; rfl, step BW.out hb'⟩
   | false =>
    rw [hq] at hcall
    have Hq := hide hq; clear hq
    go_wp2_with (go_at_fn g; refine hcall.mono ?_; rintro e w' ⟨rfl, hb'⟩)
    go_roundg (xs.length - (kk + 1))
    case measure => omega
    case rel =>
     refine ⟨kk + 1, by omega, by omega, by go_num, step BW.out hb', (show Aside _ from fun j hj hjk => ?_)⟩
     by_cases e : j = kk
     ·
      subst e; exact Hq.out
     ·
      exact AA.out j hj (by omega)
  ·
   have hltz : ¬ (kk : Int) < (xs.length : Int) := by omega
   have hkl : kk = xs.length := by omega
   have HK := hide hkl; clear hkl
   go_wp2
   go_ret
   exact ⟨by rw [idxZ_miss p xs (fun j h _ => AA.out j h (by have := HK.out; omega))]; rfl, BW.out⟩
theorem any_TblCell (d : Rep α) (hsz : d.sz = 11) (p : α → Bool) (g : Nat) (lb : Array Value) (eg : ∀ args w, (callFunc g args).run Tryz.prog w = .ok (.enter g args) w) (A : Option Addr) (c : Nat) (xs : List α) (w : World)
  (hp : Pred Tryz.prog g lb d agg p w) (hr : Rd d w A xs) :
  Calls Tryz.prog 84 #[.slice A xs.length c, .func (.func g) #[] lb] w fun e w' => e = .returned (.bool (xs.any p)) ∧ Below w.heap.size w w' := by
 rw [← idxZ_any p xs]
 go_enter Tryz.func84, Tryz.ntmps84
 go_wp2_with (go_at_call 120; refine (idx_TblCell d hsz p g lb eg A c xs w hp hr).mono ?_; rintro e w' ⟨rfl, hb'⟩)
 go_ret
 exact ⟨rfl, hb'⟩
set_option maxHeartbeats 2000000 in
theorem idx_TblRow (d : Rep α) (hsz : d.sz = 2) (p : α → Bool) (g : Nat) (lb : Array Value) (eg : ∀ args w, (callFunc g args).run Tryz.prog w = .ok (.enter g args) w) (A : Option Addr) (c : Nat) (xs : List α) (w : World)
  (hp : Pred Tryz.prog g lb d agg p w) (hr : Rd d w A xs) :
  Calls Tryz.prog 119 #[.slice A xs.length c, .func (.func g) #[] lb] w fun e w' => e = .returned (.int .i64 (idxZ p xs)) ∧ Below w.heap.size w w' := by
 have hl := hr.1
 go_enter Tryz.func119, Tryz.ntmps119
 go_wp2
 go_loopg [5, 8] xs.length (fun gg _ s8 wr => ∃ kk : Nat, kk ≤ xs.length ∧ xs.length - kk ≤ gg ∧ s8 = .int .i64 kk ∧ Aside (Below w.heap.size w wr) ∧ Aside (∀ j (h : j < xs.length), j < kk → p xs[j] = false))
 case atStart => exact ⟨0, Nat.zero_le _, by omega, rfl, Below.refl _ w, fun j _ hj => absurd hj (Nat.not_lt_zero _)⟩
 case round =>
  obtain ⟨kk, hkk, hg, rfl, BW, AA⟩ := hrel
  by_cases hlt : kk < xs.length
  ·
   have hltz : (kk : Int) < (xs.length : Int) := by omega
   obtain ⟨b, o, c0, c1, rfl, hblt, hK, h0, h1⟩ := hr.at2 hsz BW.out kk hlt
   have hcall := hp wr _ _ BW.out hK
   clear hp hr
   cases hq : p xs[kk] with
   | true =>
    rw [hq] at hcall
    have Hq := hide hq; clear hq
    go_wp2_with (go_at_fn g; refine hcall.mono ?_; rintro e w' ⟨rfl, hb'⟩)
    go_ret
    exact ⟨by rw [idxZ_hit p xs kk hlt Hq.out AA.out]; rfl, step BW.out hb'⟩
   | false =>
    rw [hq] at hcall
    have Hq := hide hq; clear hq
    go_wp2_with (go_at_fn g; refine hcall.mono ?_; rintro e w' ⟨rfl, hb'⟩)
    go_roundg (xs.length - (kk + 1))
    case measure => omega
    case rel =>
     refine ⟨kk + 1, by omega, by omega, by go_num, step BW.out hb', (show Aside _ from fun j hj hjk => ?_)⟩
     by_cases e : j = kk
     ·
      subst e; exact Hq.out
     ·
      exact AA.out j hj (by omega)
  ·
   have hltz : ¬ (kk : Int) < (xs.length : Int) := by omega
   have hkl : kk = xs.length := by omega
   have HK := hide hkl; clear hkl
   go_wp2
   go_ret
   exact ⟨by rw [idxZ_miss p xs (fun j h _ => AA.out j h (by have := HK.out; omega))]; rfl, BW.out⟩
theorem any_TblRow (d : Rep α) (hsz : d.sz = 2) (p : α → Bool) (g : Nat) (lb : Array Value) (eg : ∀ args w, (callFunc g args).run Tryz.prog w = .ok (.enter g args) w) (A : Option Addr) (c : Nat) (xs : List α) (w : World)
  (hp : Pred Tryz.prog g lb d agg p w) (hr : Rd d w A xs) :
  Calls Tryz.prog 82 #[.slice A xs.length c, .func (.func g) #[] lb] w fun e w' => e = .returned (.bool (xs.any p)) ∧ Below w.heap.size w w' := by
 rw [← idxZ_any p xs]
 go_enter Tryz.func82, Tryz.ntmps82
 go_wp2_with (go_at_call 119; refine (idx_TblRow d hsz p g lb eg A c xs w hp hr).mono ?_; rintro e w' ⟨rfl, hb'⟩)
 go_ret
 exact ⟨rfl, hb'⟩
set_option maxHeartbeats 2000000 in
theorem idx_GrdCell (d : Rep α) (hsz : d.sz = 5) (p : α → Bool) (g : Nat) (lb : Array Value) (eg : ∀ args w, (callFunc g args).run Tryz.prog w = .ok (.enter g args) w) (A : Option Addr) (c : Nat) (xs : List α) (w : World)
  (hp : Pred Tryz.prog g lb d agg p w) (hr : Rd d w A xs) :
  Calls Tryz.prog 111 #[.slice A xs.length c, .func (.func g) #[] lb] w fun e w' => e = .returned (.int .i64 (idxZ p xs)) ∧ Below w.heap.size w w' := by
 have hl := hr.1
 go_enter Tryz.func111, Tryz.ntmps111
 go_wp2
 go_loopg [5, 8] xs.length (fun gg _ s8 wr => ∃ kk : Nat, kk ≤ xs.length ∧ xs.length - kk ≤ gg ∧ s8 = .int .i64 kk ∧ Aside (Below w.heap.size w wr) ∧ Aside (∀ j (h : j < xs.length), j < kk → p xs[j] = false))
 case atStart => exact ⟨0, Nat.zero_le _, by omega, rfl, Below.refl _ w, fun j _ hj => absurd hj (Nat.not_lt_zero _)⟩
 case round =>
  obtain ⟨kk, hkk, hg, rfl, BW, AA⟩ := hrel
  by_cases hlt : kk < xs.length
  ·
   have hltz : (kk : Int) < (xs.length : Int) := by omega
   obtain ⟨b, o, c0, c1, c2, c3, c4, rfl, hblt, hK, h0, h1, h2, h3, h4⟩ := hr.at5 hsz BW.out kk hlt
   have hcall := hp wr _ _ BW.out hK
   clear hp hr
   cases hq : p xs[kk] with
   | true =>
    rw [hq] at hcall
    have Hq := hide hq; clear hq
    go_wp2_with (go_at_fn g; refine hcall.mono ?_; rintro e w' ⟨rfl, hb'⟩)
    go_ret
    exact ⟨by rw [idxZ_hit p xs kk hlt Hq.out AA.out]; rfl, step BW.out hb'⟩
   | false =>
    rw [hq] at hcall
    have Hq := hide hq; clear hq
    go_wp2_with (go_at_fn g; refine hcall.mono ?_; rintro e w' ⟨rfl, hb'⟩)
    go_roundg (xs.length - (kk + 1))
    case measure => omega
    case rel =>
     refine ⟨kk + 1, by omega, by omega, by go_num, step BW.out hb', (show Aside _ from fun j hj hjk => ?_)⟩
     by_cases e : j = kk
     ·
      subst e; exact Hq.out
     ·
      exact AA.out j hj (by omega)
  ·
   have hltz : ¬ (kk : Int) < (xs.length : Int) := by omega
   have hkl : kk = xs.length := by omega
   have HK := hide hkl; clear hkl
   go_wp2
   go_ret
   exact ⟨by rw [idxZ_miss p xs (fun j h _ => AA.out j h (by have := HK.out; omega))]; rfl, BW.out⟩
set_option maxHeartbeats 2000000 in
theorem idx_int (d : Rep α) (hsz : d.sz = 1) (p : α → Bool) (g : Nat) (lb : Array Value) (eg : ∀ args w, (callFunc g args).run Tryz.prog w = .ok (.enter g args) w) (A : Option Addr) (c : Nat) (xs : List α) (w : World)
  (hp : Pred Tryz.prog g lb d one p w) (hr : Rd d w A xs) :
  Calls Tryz.prog 184 #[.slice A xs.length c, .func (.func g) #[] lb] w fun e w' => e = .returned (.int .i64 (idxZ p xs)) ∧ Below w.heap.size w w' := by
 have hl := hr.1
 go_enter Tryz.func184, Tryz.ntmps184
 go_wp2
 go_loopg [5, 8] xs.length (fun gg _ s8 wr => ∃ kk : Nat, kk ≤ xs.length ∧ xs.length - kk ≤ gg ∧ s8 = .int .i64 kk ∧ Aside (Below w.heap.size w wr) ∧ Aside (∀ j (h : j < xs.length), j < kk → p xs[j] = false))
 case atStart => exact ⟨0, Nat.zero_le _, by omega, rfl, Below.refl _ w, fun j _ hj => absurd hj (Nat.not_lt_zero _)⟩
 case round =>
  obtain ⟨kk, hkk, hg, rfl, BW, AA⟩ := hrel
  by_cases hlt : kk < xs.length
  ·
   have hltz : (kk : Int) < (xs.length : Int) := by omega
   obtain ⟨b, o, c0, rfl, hblt, hK, h0⟩ := hr.at1 hsz BW.out kk hlt
   have hcall := hp wr _ _ BW.out hK
   clear hp hr
   cases hq : p xs[kk] with
   | true =>
    rw [hq] at hcall
    have Hq := hide hq; clear hq
    go_wp2_with (go_at_fn g; refine hcall.mono ?_; rintro e w' ⟨rfl, hb'⟩)
    go_ret
    exact ⟨by rw [idxZ_hit p xs kk hlt Hq.out AA.out]; rfl, step BW.out hb'⟩
   | false =>
    rw [hq] at hcall
    have Hq := hide hq; clear hq
    go_wp2_with (go_at_fn g; refine hcall.mono ?_; rintro e w' ⟨rfl, hb'⟩)
    go_roundg (xs.length - (kk + 1))
    case measure => omega
    case rel =>
     refine ⟨kk + 1, by omega, by omega, by go_num, step BW.out hb', (show Aside _ from fun j hj hjk => ?_)⟩
     by_cases e : j = kk
     ·
      subst e; exact Hq.out
     ·
      exact AA.out j hj (by omega)
  ·
   have hltz : ¬ (kk : Int) < (xs.length : Int) := by omega
   have hkl : kk = xs.length := by omega
   have HK := hide hkl; clear hkl
   go_wp2
   go_ret
   exact ⟨by rw [idxZ_miss p xs (fun j h _ => AA.out j h (by have := HK.out; omega))]; rfl, BW.out⟩
theorem any_int (d : Rep α) (hsz : d.sz = 1) (p : α → Bool) (g : Nat) (lb : Array Value) (eg : ∀ args w, (callFunc g args).run Tryz.prog w = .ok (.enter g args) w) (A : Option Addr) (c : Nat) (xs : List α) (w : World)
  (hp : Pred Tryz.prog g lb d one p w) (hr : Rd d w A xs) :
  Calls Tryz.prog 173 #[.slice A xs.length c, .func (.func g) #[] lb] w fun e w' => e = .returned (.bool (xs.any p)) ∧ Below w.heap.size w w' := by
 rw [← idxZ_any p xs]
 go_enter Tryz.func173, Tryz.ntmps173
 go_wp2_with (go_at_call 184; refine (idx_int d hsz p g lb eg A c xs w hp hr).mono ?_; rintro e w' ⟨rfl, hb'⟩)
 go_ret
 exact ⟨rfl, hb'⟩
end Go.Proofs.YtpfagdmmhgcmnaaGreatDoor

namespace Go.Proofs.YtpfagdmmhgcmnaaGreatDoor
structure TCol where
 k : Int
 n : Int
deriving DecidableEq, Inhabited
structure Brd where
 s : Int
 w : Int
deriving DecidableEq, Inhabited
structure TCell where
 t : ByteArray
 c : Int
 r : Int
 top : Brd
 right : Brd
 bot : Brd
 left : Brd
deriving DecidableEq, Inhabited
structure TRow where
 cs : List TCell
 wh : Bool
deriving DecidableEq, Inhabited
structure Tbl where
 cols : List TCol
 head : Int
 foot : Int
 rows : List TRow
 gap : Int
deriving DecidableEq, Inhabited
structure GCell where
 row : Int
 col : Int
 rows : Int
 cols : Int
 inn : Int
deriving DecidableEq, Inhabited
structure Grid where
 rows : Int
 cols : Int
 cells : List GCell
deriving DecidableEq, Inhabited
def inB (n lo hi : Int) : Bool := decide (lo ≤ n) && decide (n ≤ hi)
def seenB (b : Brd) : Bool := inB b.s 1 3
def brdOk (b : Brd) : Bool := if seenB b then inB b.w 1 3 else (b.s == 0 || b.s == 4) && b.w == 0
def colOk (x : TCol) : Bool := if x.k = 0 then x.n == 0 else if x.k = 1 then inB x.n 0 60 else if x.k = 2 then inB x.n 1 100 else false
def cutL : List UInt8 → List UInt8 → List (List UInt8)
 | w, [] => [w]
 | w, c :: cs => if c = 32 then w :: cutL [] cs else cutL (w ++ [c]) cs
def lowB (c : UInt8) : Bool := decide (97 ≤ c) && decide (c ≤ 122)
def wordOk (w : List UInt8) : Bool := !w.isEmpty && w.all lowB
def txtOk (l : List UInt8) : Bool := l.isEmpty || ((cutL [] l).all wordOk && decide (l.length ≤ 30))
def txOk (s : ByteArray) : Bool := txtOk s.data.toList
def cellOk (c : TCell) : Bool := txOk c.t && (inB c.c 1 4 && (inB c.r 1 4 && (brdOk c.top && (brdOk c.right && (brdOk c.bot && brdOk c.left)))))
def tblOk (t : Tbl) : Bool :=
 inB t.rows.length 1 8 && (decide ((t.cols.length : Int) ≤ 8) && (inB t.gap 0 3 && (inB t.head 0 t.rows.length && (inB t.foot 0 (t.rows.length - t.head) &&
  (t.cols.all colOk && t.rows.all fun r => decide ((r.cs.length : Int) ≤ 5) && r.cs.all cellOk)))))
def saidOf (t : Tbl) (col : Int) : TCol := if 0 ≤ col ∧ col < t.cols.length then t.cols.getD col.toNat ⟨0, 0⟩ else ⟨0, 0⟩
def colSaid (t : Tbl) (col : Int) : TCol := if tblOk t = true then saidOf t col else ⟨0, 0⟩
end Go.Proofs.YtpfagdmmhgcmnaaGreatDoor

namespace Go.Proofs.YtpfagdmmhgcmnaaGreatDoor
open Go
theorem cut_none : ∀ (l w : List UInt8), (32 : UInt8) ∉ l → cutL w l = [w ++ l]
 | [], w, _ => by simp [cutL]
 | c :: cs, w, h => by
  have h1 : c ≠ 32 := fun e => h (by simp [e])
  have h2 : (32 : UInt8) ∉ cs := fun e => h (by simp [e])
  rw [cutL, if_neg h1, cut_none cs _ h2]
  simp
theorem cut_hit : ∀ (a w b : List UInt8), (32 : UInt8) ∉ a → cutL w (a ++ 32 :: b) = (w ++ a) :: cutL [] b
 | [], w, b, _ => by simp [cutL]
 | c :: cs, w, b, h => by
  have h1 : c ≠ 32 := fun e => h (by simp [e])
  have h2 : (32 : UInt8) ∉ cs := fun e => h (by simp [e])
  rw [List.cons_append, cutL, if_neg h1, cut_hit cs _ b h2]
  simp
theorem occ_one (l : List UInt8) (i : Nat) (c : UInt8) : Lib.occAt l [c] i = true ↔ l[i]? = some c := by
 unfold Lib.occAt
 rw [← List.head?_drop]
 cases l.drop i with
 | nil => simp [List.isPrefixOf]
 | cons x xs => simp [List.isPrefixOf]; exact ⟨fun h => h.symm, fun h => h.symm⟩
theorem splitK_cut : ∀ (k : Nat) (l : List UInt8), l.count 32 = k → Lib.splitK [32] 0 k l = cutL [] l
 | 0, l, h => by
  have hn : (32 : UInt8) ∉ l := List.count_eq_zero.1 h
  rw [cut_none l [] hn]; rfl
 | k + 1, l, h => by
  have hm : (32 : UInt8) ∈ l := List.count_pos_iff.1 (by omega)
  obtain ⟨a, b, rfl, ha⟩ := List.eq_append_cons_of_mem hm
  have hi : Lib.index (a ++ 32 :: b) [32] = (a.length : Int) := by
   refine Lib.index_first (by simp) ((occ_one _ _ _).2 (by simp)) (fun j hj => ?_)
   rw [Bool.eq_false_iff]
   intro ho
   rw [occ_one, List.getElem?_append_left hj] at ho
   exact ha (List.mem_of_getElem? ho)
  have hcb : b.count 32 = k := by
   rw [List.count_append, List.count_cons_self, List.count_eq_zero.2 ha] at h; omega
  rw [Lib.splitK, hi, if_neg (by simp), cut_hit a [] b ha]
  simp only [Int.toNat_natCast, Nat.add_zero, List.take_left, List.length_singleton]
  rw [show (a ++ 32 :: b).drop (a.length + 1) = b by rw [← List.drop_drop, List.drop_left]; rfl, splitK_cut k b hcb]
  simp
theorem split_cut (s : ByteArray) : (Lib.splitB ⟨#[32]⟩ 0 (Lib.countB s ⟨#[32]⟩) s).map (·.data.toList) = cutL [] s.data.toList := by
 rw [Lib.splitB_data]
 have : Lib.countB s ⟨#[32]⟩ = s.data.toList.count 32 := Lib.count_one 32 s.data.toList
 rw [this]
 exact splitK_cut _ _ rfl
theorem cut_len : ∀ (l w x : List UInt8), x ∈ cutL w l → x.length ≤ w.length + l.length
 | [], w, x, h => by simp [cutL] at h; subst h; simp
 | c :: cs, w, x, h => by
  rw [cutL] at h
  split at h
  ·
   rcases List.mem_cons.1 h with rfl | h
   ·
    omega
   ·
    have := cut_len cs [] x h
    simp only [List.length_nil, List.length_cons] at this ⊢; omega
  ·
   have := cut_len cs _ x h
   simp only [List.length_append, List.length_cons, List.length_nil] at this ⊢; omega
theorem dropWhile_nil {α : Type} (p : α → Bool) : ∀ l : List α, l.dropWhile p = [] ↔ l.all p = true
 | [] => by simp
 | x :: xs => by
  rw [List.dropWhile_cons]
  cases h : p x <;> simp [h, dropWhile_nil p xs]
theorem dropWhile_all {α : Type} (p : α → Bool) : ∀ l : List α, (l.dropWhile p).all p = true → l.dropWhile p = []
 | [], _ => rfl
 | x :: xs, h => by
  rw [List.dropWhile_cons] at h ⊢
  cases hx : p x
  ·
   simp [hx] at h
  ·
   simp [hx] at h ⊢
   exact dropWhile_all p xs (by simpa using h)
theorem trim_nil (w cs : List UInt8) : Lib.trimS w cs = [] ↔ w.all (cs.contains ·) = true := by
 unfold Lib.trimS Lib.trimLeftS Lib.trimRightS
 rw [dropWhile_nil, List.all_reverse]
 constructor
 ·
  intro h
  have := (dropWhile_nil _ _).1 (dropWhile_all _ _ h)
  simpa using this
 ·
  intro h
  have : w.reverse.dropWhile (cs.contains ·) = [] := (dropWhile_nil _ _).2 (by simpa using h)
  rw [this]; rfl
def lowers : List UInt8 := [97, 98, 99, 100, 101, 102, 103, 104, 105, 106, 107, 108, 109, 110, 111, 112, 113, 114, 115, 116, 117, 118, 119, 120, 121, 122]
theorem lowers_all : ∀ n, n < 256 → lowers.contains (UInt8.ofNat n) = lowB (UInt8.ofNat n) := by decide +kernel
theorem lowers_eq (c : UInt8) : lowers.contains c = lowB c := by
 have := lowers_all c.toNat c.toNat_lt
 rwa [UInt8.ofNat_toNat] at this
theorem trim_low (w : List UInt8) : Lib.trimS w lowers = [] ↔ w.all lowB = true := by
 rw [trim_nil]
 have : (fun c => lowers.contains c) = lowB := funext lowers_eq
 rw [this]
def okF : Bool → List UInt8 → Bool
 | e, [] => !e
 | e, c :: cs => if c = 32 then !e && okF true cs else lowB c && okF false cs
theorem cut_bad : ∀ (l w : List UInt8), w.all lowB = false → (cutL w l).all wordOk = false
 | [], w, h => by simp [cutL, wordOk, h]
 | c :: cs, w, h => by
  rw [cutL]
  split
  ·
   simp [wordOk, h]
  ·
   exact cut_bad cs _ (by simp [List.all_append, h])
theorem cut_okF : ∀ (l w : List UInt8), w.all lowB = true → (cutL w l).all wordOk = okF w.isEmpty l
 | [], w, h => by simp [cutL, wordOk, okF, h]
 | c :: cs, w, h => by
  rw [cutL, okF]
  split
  ·
   have e : (cutL [] cs).all wordOk = okF true cs := cut_okF cs [] rfl
   rw [List.all_cons, e, wordOk, h, Bool.and_true]
  ·
   cases hc : lowB c with
   | false => rw [cut_bad cs _ (by simp [List.all_append, hc])]; rfl
   | true =>
    rw [cut_okF cs (w ++ [c]) (by simp [List.all_append, h, hc]), show (w ++ [c]).isEmpty = false by cases w <;> rfl, Bool.true_and]
theorem txtOk_okF (l : List UInt8) (hl : l.length ≤ 30) (hn : l ≠ []) : txtOk l = okF true l := by
 have h := cut_okF l [] rfl
 have e : l.isEmpty = false := by cases l <;> simp_all
 unfold txtOk
 rw [h, e]
 simp [hl]
def okAt (l : List UInt8) (k : Nat) : Bool := okF (decide (k = 0) || (l[k - 1]? == some 32)) (l.drop k)
theorem okAt_end (l : List UInt8) (h : 0 < l.length) (h2 : l[l.length - 1]? ≠ some 32) : okAt l l.length = true := by
 unfold okAt
 rw [List.drop_length]
 have e1 : decide (l.length = 0) = false := decide_eq_false (by omega)
 have e2 : (l[l.length - 1]? == some 32) = false := by simpa using h2
 rw [e1, e2]; rfl
theorem okAt_step (l : List UInt8) (k : Nat) (h : k < l.length) : okAt l k =
  if l[k] = 32 then (!(decide (k = 0) || (l[k - 1]? == some 32))) && okF true (l.drop (k + 1)) else lowB l[k] && okF false (l.drop (k + 1)) := by
 unfold okAt
 rw [List.drop_eq_getElem_cons h, okF]
theorem okAt_blank (l : List UInt8) (k : Nat) (h : k < l.length) (h32 : l[k] = 32) : okF true (l.drop (k + 1)) = okAt l (k + 1) := by
 unfold okAt
 have : (l[k + 1 - 1]? == some 32) = true := by simp [h, h32]
 rw [this, Bool.or_true]
theorem okAt_letter (l : List UInt8) (k : Nat) (h : k < l.length) (h32 : l[k] ≠ 32) : okF false (l.drop (k + 1)) = okAt l (k + 1) := by
 unfold okAt
 have : (l[k + 1 - 1]? == some 32) = false := by simp [h, h32]
 rw [this]; rfl
theorem okAt_bad (l : List UInt8) (k : Nat) (h : k < l.length) (h32 : l[k] = 32) (hb : k = 0 ∨ k = l.length - 1 ∨ l[k - 1]? = some 32) : okAt l k = false := by
 rw [okAt_step l k h, if_pos h32]
 rcases hb with hb | hb | hb
 ·
  simp [hb]
 ·
  have : l.drop (k + 1) = [] := List.drop_eq_nil_of_le (by omega)
  rw [this]; simp [okF]
 ·
  simp [hb]
theorem okAt_good (l : List UInt8) (k : Nat) (h : k < l.length) (h32 : l[k] = 32) (h0 : k ≠ 0) (hb : l[k - 1]? ≠ some 32) : okAt l (k + 1) = okAt l k := by
 rw [okAt_step l k h, if_pos h32, okAt_blank l k h h32]
 simp [h0, hb]
theorem okAt_low (l : List UInt8) (k : Nat) (h : k < l.length) (h32 : l[k] ≠ 32) : okAt l k = (lowB l[k] && okAt l (k + 1)) := by
 rw [okAt_step l k h, if_neg h32, okAt_letter l k h h32]
end Go.Proofs.YtpfagdmmhgcmnaaGreatDoor

namespace Go.Proofs.YtpfagdmmhgcmnaaGreatDoor
open Go.RowKit
theorem brefl (w : World) : Below w.heap.size w w := Below.refl _ _
theorem seenBk {W w1 : World} (B : Nat) (hB : B < W.heap.size) (hb : Below W.heap.size W w1) : (∀ o, w1.cell? ⟨B, o, none⟩ = W.cell? ⟨B, o, none⟩) ∧ (∀ o, w1.frozen? ⟨B, o, none⟩ = W.frozen? ⟨B, o, none⟩) ∧ B < w1.heap.size :=
 ⟨fun o => hb.cell (p := ⟨B, o, none⟩) hB, fun o => hb.frozen (p := ⟨B, o, none⟩) hB, Nat.lt_of_lt_of_le hB hb.size⟩
theorem balloc {w W : World} (h : Below w.heap.size w W) (o : Obj) : Below w.heap.size w (W.alloc o) := h.alloc h.size o
theorem bdrew {w W : World} (h : Below w.heap.size w W) : Below w.heap.size w W.drew := h.drew
def colE (x : TCol) : List Value := [.int .i64 x.k, .int .i64 x.n]
def cellE (c : TCell) : List Value := [.string c.t, .int .i64 c.c, .int .i64 c.r, .int .i64 c.top.s, .int .i64 c.top.w, .int .i64 c.right.s, .int .i64 c.right.w, .int .i64 c.bot.s, .int .i64 c.bot.w, .int .i64 c.left.s, .int .i64 c.left.w]
def colR : Rep TCol := flat 2 colE (fun _ => rfl)
def cellR : Rep TCell where
 sz := 11
 K := fun _ x cs => cs = cellE x ∧ x.t.size ≤ 1048576
 len := by rintro w x cs ⟨rfl, _⟩; rfl
 below := fun _ h => h
def Base (w : World) : Prop := ∃ m, w.cell? ⟨0, 0, none⟩ = some (.int .i64 m)
theorem Base.below {w w1 : World} (h : Base w) (hb : Below w.heap.size w w1) : Base w1 := by
 obtain ⟨m, h⟩ := h
 exact ⟨m, (hb.cell (World.block_lt_of_cell? w _ h)).trans h⟩
def rowR : Rep TRow where
 sz := 2
 K := fun w x cs => ∃ v, cs = [v, .bool x.wh] ∧ IsSl cellR w v x.cs
 len := by rintro w x cs ⟨v, rfl, _⟩; rfl
 below := by rintro w w1 x cs hb ⟨v, rfl, h⟩; exact ⟨v, rfl, h.below hb⟩
theorem bset {w W : World} (h : Below w.heap.size w W) {p : Addr} (hp : w.heap.size ≤ p.block) (u : Value) : Below w.heap.size w (W.setCell p u) := h.setCell hp u
end Go.Proofs.YtpfagdmmhgcmnaaGreatDoor

namespace Go.Proofs
open Go.Shelf
def Tryz.lays160_ren : Go.Shelf.Ren := ⟨fun | 160 => 110 | 232 => 147 | 231 => 146 | 227 => 148 | 234 => 150 | 233 => 149 | 236 => 152 | 235 => 151 | 228 => 168 | 271 => 171 | 151 => 170 | 197 => 169 | 120 => 183 | 152 => 182 | 260 => 181 | 137 => 193 | 119 => 194 | 224 => 191 | 225 => 190 | 217 => 189 | 266 => 196 | n => n, fun | 9 => 9 | 4 => 4 | 3 => 3 | 5 => 5 | 117 => 146 | 116 => 145 | 0 => 0 | 124 => 149 | 21 => 21 | 105 => 161 | 46 => 166 | 119 => 180 | 139 => 183 | 138 => 182 | n => n, fun | 3 => 1 | 4 => 2 | n => n⟩
theorem Tryz.lays160 : Go.Proofs.Lays.n160 Tryz.prog Tryz.lays160_ren := {
 mixed := by kernel_rfl
 f119 := Tryz.func194.trans (congrArg some (by kernel_rfl))
 f120 := Tryz.func183.trans (congrArg some (by kernel_rfl))
 f137 := Tryz.func193.trans (congrArg some (by kernel_rfl))
 f151 := Tryz.func170.trans (congrArg some (by kernel_rfl))
 f152 := Tryz.func182.trans (congrArg some (by kernel_rfl))
 f160 := Tryz.func110.trans (congrArg some (by kernel_rfl))
 f197 := Tryz.func169.trans (congrArg some (by kernel_rfl))
 f217 := Tryz.func189.trans (congrArg some (by kernel_rfl))
 f224 := Tryz.func191.trans (congrArg some (by kernel_rfl))
 f225 := Tryz.func190.trans (congrArg some (by kernel_rfl))
 f227 := Tryz.func148.trans (congrArg some (by kernel_rfl))
 f228 := Tryz.func168.trans (congrArg some (by kernel_rfl))
 f231 := Tryz.func146.trans (congrArg some (by kernel_rfl))
 f232 := Tryz.func147.trans (congrArg some (by kernel_rfl))
 f233 := Tryz.func149.trans (congrArg some (by kernel_rfl))
 f234 := Tryz.func150.trans (congrArg some (by kernel_rfl))
 f235 := Tryz.func151.trans (congrArg some (by kernel_rfl))
 f236 := Tryz.func152.trans (congrArg some (by kernel_rfl))
 f260 := Tryz.func181.trans (congrArg some (by kernel_rfl))
 f266 := Tryz.func196.trans (congrArg some (by kernel_rfl))
 f271 := Tryz.func171.trans (congrArg some (by kernel_rfl))
 t0 := Tryz.underlying0
 a0 := Tryz.isAgg0
 z0 := Tryz.sizeOf0
 v0 := Tryz.zeroValue0
 t3 := Tryz.underlying3
 a3 := Tryz.isAgg3
 z3 := Tryz.sizeOf3
 v3 := Tryz.zeroValue3
 t4 := Tryz.underlying4
 a4 := Tryz.isAgg4
 z4 := Tryz.sizeOf4
 v4 := Tryz.zeroValue4
 t5 := Tryz.underlying5
 a5 := Tryz.isAgg5
 z5 := Tryz.sizeOf5
 v5 := Tryz.zeroValue5
 t9 := Tryz.underlying9
 a9 := Tryz.isAgg9
 z9 := Tryz.sizeOf9
 v9 := Tryz.zeroValue9
 t21 := Tryz.underlying21
 a21 := Tryz.isAgg21
 z21 := Tryz.sizeOf21
 v21 := Tryz.zeroValue21
 t46 := Tryz.underlying166
 a46 := Tryz.isAgg166
 z46 := Tryz.sizeOf166
 v46 := Tryz.zeroValue166
 t105 := Tryz.underlying161
 a105 := Tryz.isAgg161
 z105 := Tryz.sizeOf161
 v105 := Tryz.zeroValue161
 t116 := Tryz.underlying145
 a116 := Tryz.isAgg145
 z116 := Tryz.sizeOf145
 t117 := Tryz.underlying146
 a117 := Tryz.isAgg146
 z117 := Tryz.sizeOf146
 v117 := Tryz.zeroValue146
 t119 := Tryz.underlying180
 a119 := Tryz.isAgg180
 z119 := Tryz.sizeOf180
 t124 := Tryz.underlying149
 a124 := Tryz.isAgg149
 z124 := Tryz.sizeOf149
 v124 := Tryz.zeroValue149
 t138 := Tryz.underlying182
 a138 := Tryz.isAgg182
 z138 := Tryz.sizeOf182
 v138 := Tryz.zeroValue182
 t139 := Tryz.underlying183
 a139 := Tryz.isAgg183
 z139 := Tryz.sizeOf183
 v139 := Tryz.zeroValue183
 g3 := by kernel_rfl
 g4 := by kernel_rfl }
def Tryz.lays146_ren : Go.Shelf.Ren := ⟨fun | 146 => 109 | 221 => 145 | 268 => 165 | 138 => 166 | 143 => 167 | 195 => 178 | 197 => 169 | 218 => 179 | 219 => 180 | 260 => 181 | 217 => 189 | 225 => 190 | 224 => 191 | 267 => 192 | 266 => 196 | 314 => 197 | n => n, fun | 9 => 9 | 31 => 68 | 3 => 3 | 4 => 4 | 0 => 0 | 105 => 161 | 21 => 21 | 5 => 5 | 46 => 166 | 119 => 180 | 139 => 183 | 138 => 182 | 146 => 174 | 51 => 173 | n => n, fun | 1 => 0 | 3 => 1 | 4 => 2 | n => n⟩
theorem Tryz.lays146 : Go.Proofs.Lays.n146 Tryz.prog Tryz.lays146_ren := {
 mixed := by kernel_rfl
 f138 := Tryz.func166.trans (congrArg some (by kernel_rfl))
 f143 := Tryz.func167.trans (congrArg some (by kernel_rfl))
 f146 := Tryz.func109.trans (congrArg some (by kernel_rfl))
 f195 := Tryz.func178.trans (congrArg some (by kernel_rfl))
 f197 := Tryz.func169.trans (congrArg some (by kernel_rfl))
 f217 := Tryz.func189.trans (congrArg some (by kernel_rfl))
 f218 := Tryz.func179.trans (congrArg some (by kernel_rfl))
 f219 := Tryz.func180.trans (congrArg some (by kernel_rfl))
 f221 := Tryz.func145.trans (congrArg some (by kernel_rfl))
 f224 := Tryz.func191.trans (congrArg some (by kernel_rfl))
 f225 := Tryz.func190.trans (congrArg some (by kernel_rfl))
 f260 := Tryz.func181.trans (congrArg some (by kernel_rfl))
 f266 := Tryz.func196.trans (congrArg some (by kernel_rfl))
 f267 := Tryz.func192.trans (congrArg some (by kernel_rfl))
 f268 := Tryz.func165.trans (congrArg some (by kernel_rfl))
 f314 := Tryz.func197.trans (congrArg some (by kernel_rfl))
 t0 := Tryz.underlying0
 a0 := Tryz.isAgg0
 z0 := Tryz.sizeOf0
 v0 := Tryz.zeroValue0
 t3 := Tryz.underlying3
 a3 := Tryz.isAgg3
 z3 := Tryz.sizeOf3
 v3 := Tryz.zeroValue3
 t4 := Tryz.underlying4
 a4 := Tryz.isAgg4
 z4 := Tryz.sizeOf4
 v4 := Tryz.zeroValue4
 t5 := Tryz.underlying5
 a5 := Tryz.isAgg5
 z5 := Tryz.sizeOf5
 v5 := Tryz.zeroValue5
 t9 := Tryz.underlying9
 a9 := Tryz.isAgg9
 z9 := Tryz.sizeOf9
 v9 := Tryz.zeroValue9
 t21 := Tryz.underlying21
 a21 := Tryz.isAgg21
 z21 := Tryz.sizeOf21
 v21 := Tryz.zeroValue21
 t31 := Tryz.underlying68
 a31 := Tryz.isAgg68
 z31 := Tryz.sizeOf68
 v31 := Tryz.zeroValue68
 t46 := Tryz.underlying166
 a46 := Tryz.isAgg166
 z46 := Tryz.sizeOf166
 v46 := Tryz.zeroValue166
 t51 := Tryz.underlying173
 a51 := Tryz.isAgg173
 z51 := Tryz.sizeOf173
 v51 := Tryz.zeroValue173
 t105 := Tryz.underlying161
 a105 := Tryz.isAgg161
 z105 := Tryz.sizeOf161
 v105 := Tryz.zeroValue161
 t119 := Tryz.underlying180
 a119 := Tryz.isAgg180
 z119 := Tryz.sizeOf180
 t138 := Tryz.underlying182
 a138 := Tryz.isAgg182
 z138 := Tryz.sizeOf182
 v138 := Tryz.zeroValue182
 t139 := Tryz.underlying183
 a139 := Tryz.isAgg183
 z139 := Tryz.sizeOf183
 v139 := Tryz.zeroValue183
 t146 := Tryz.underlying174
 a146 := Tryz.isAgg174
 z146 := Tryz.sizeOf174
 v146 := Tryz.zeroValue174
 g1 := by kernel_rfl
 g3 := by kernel_rfl
 g4 := by kernel_rfl }
end Go.Proofs
