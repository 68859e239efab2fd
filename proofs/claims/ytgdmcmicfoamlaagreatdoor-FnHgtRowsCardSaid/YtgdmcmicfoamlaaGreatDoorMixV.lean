import Derived.Test.YtgdmcmicfoamlaaGreatDoorProg
import Derived.WalkKit
import Derived.WalkLawsBesides
import Derived.WalkSpells
import Derived.Deep.LoopGhost
import Derived.Deep.QuietTactic
import Derived.BigQuiet
import Derived.Outline
import Derived.StillTailTactics
import Derived.Shelf.Abstract
import Derived.Laws.EntriesVeiled
import Derived.Lib.SplitLaws
import Derived.Lib.SlTrimSet
import Derived.Lib.IndexBytes
import Derived.Shelf.Strings.Builder1
import Derived.Shelf.Strings.Builder2
import Derived.Shelf.Strings.OnBuilder
import Derived.Shelf.Strings.Trim
import Derived.Shelf.Small.Utf8
import Derived.Shelf.Small.Strs
import Derived.Shelf.Utf8.RuneCount
import Derived.Shelf.Strings.Search1
import Derived.Shelf.Strings.Search2
import Derived.Shelf.Strings.Search3
import Derived.Shelf.Strings.Count
import Derived.Shelf.LaysM
import Derived.Shelf.Strings.Shaped
import Derived.Shelf.Strings.Split
import Derived.Shelf.Strings.SplitShaped
import Derived.Shelf.Unicode.Decode
import Derived.Shelf.Strings.Runes
import Derived.Shelf.Strings.RuneCount
import Derived.Shelf.Strings.AsciiSet
import Derived.Shelf.Strings.Explode
import Derived.Shelf.Bits.Mul64
import Derived.Shelf.Unicode.DecodeSlow
import Derived.Shelf.Unicode.DecodeAny
import Derived.Shelf.Unicode.DecodeLast
import Derived.Ground.Names2Prog
import Derived.Shelf.Slices.Clone
import Derived.Shelf.Slices.SearchI
import Derived.Ground.SlgnProg
import Derived.Shelf.SlicesE.Clone
set_option linter.unusedVariables false
set_option linter.unusedSimpArgs false
set_option maxHeartbeats 2000000
set_option maxRecDepth 100000
namespace Go.Proofs.YtgdmcmicfoamlaaGreatDoor
open Go.RowKit
structure Rep (α : Type) where
 sz : Nat
 K : World → α → List Value → Prop
 len : ∀ {w x cs}, K w x cs → cs.length = sz
 below : ∀ {w w1 x cs}, Below w.heap.size w w1 → K w x cs → K w1 x cs
variable {α : Type}
def Rd (d : Rep α) (w : World) (A : Option Addr) (xs : List α) : Prop :=
 xs.length ≤ 9223372036854775807 ∧ (xs ≠ [] → ∃ b o, A = some ⟨b, o, none⟩ ∧ b < w.heap.size ∧ ∀ (j : Nat) (h : j < xs.length), ∃ cs, d.K w xs[j] cs ∧ ∀ (i : Nat) u, cs[i]? = some u → w.cell? ⟨b, o + j * d.sz + i, none⟩ = some u)
theorem Rd.below {d : Rep α} {w w1 : World} {A : Option Addr} {xs : List α} (h : Rd d w A xs) (hb : Below w.heap.size w w1) : Rd d w1 A xs :=
 ⟨h.1, fun hn => by
  obtain ⟨b, o, e, hlt, hc⟩ := h.2 hn
  refine ⟨b, o, e, Nat.lt_of_lt_of_le hlt hb.size, fun j hj => ?_⟩
  obtain ⟨cs, hk, hcell⟩ := hc j hj
  exact ⟨cs, d.below hb hk, fun i u hu => (hb.cell (p := ⟨b, o + j * d.sz + i, none⟩) hlt).trans (hcell i u hu)⟩⟩
theorem Rd.at1 {d : Rep α} {w wr : World} {A : Option Addr} {xs : List α} (h : Rd d w A xs) (hs : d.sz = 1) (hb : Below w.heap.size w wr) (k : Nat) (hk : k < xs.length) :
 ∃ b o c0, A = some ⟨b, o, none⟩ ∧ b < w.heap.size ∧ d.K wr xs[k] [c0] ∧ wr.cell? ⟨b, o + k, none⟩ = some c0 := by
 obtain ⟨b, o, e, hlt, hc⟩ := h.2 (by rintro rfl; simp at hk)
 obtain ⟨cs, hK, hcell⟩ := hc k hk
 have hl := d.len hK
 rw [hs] at hl hcell
 match cs, hl with
 | [c0], _ =>
  refine ⟨b, o, c0, e, hlt, d.below hb hK, ?_⟩
  have q := (hb.cell (p := ⟨b, o + k * 1 + 0, none⟩) hlt).trans (hcell 0 c0 rfl); simpa using q
theorem Rd.at2 {d : Rep α} {w wr : World} {A : Option Addr} {xs : List α} (h : Rd d w A xs) (hs : d.sz = 2) (hb : Below w.heap.size w wr) (k : Nat) (hk : k < xs.length) :
 ∃ b o c0 c1, A = some ⟨b, o, none⟩ ∧ b < w.heap.size ∧ d.K wr xs[k] [c0, c1] ∧ wr.cell? ⟨b, o + k * 2, none⟩ = some c0 ∧ wr.cell? ⟨b, o + k * 2 + 1, none⟩ = some c1 := by
 obtain ⟨b, o, e, hlt, hc⟩ := h.2 (by rintro rfl; simp at hk)
 obtain ⟨cs, hK, hcell⟩ := hc k hk
 have hl := d.len hK
 rw [hs] at hl hcell
 match cs, hl with
 | [c0, c1], _ =>
  refine ⟨b, o, c0, c1, e, hlt, d.below hb hK, ?_, ?_⟩
  · have q := (hb.cell (p := ⟨b, o + k * 2 + 0, none⟩) hlt).trans (hcell 0 c0 rfl); simpa using q
  have q := (hb.cell (p := ⟨b, o + k * 2 + 1, none⟩) hlt).trans (hcell 1 c1 rfl); simpa using q
theorem Rd.at5 {d : Rep α} {w wr : World} {A : Option Addr} {xs : List α} (h : Rd d w A xs) (hs : d.sz = 5) (hb : Below w.heap.size w wr) (k : Nat) (hk : k < xs.length) :
 ∃ b o c0 c1 c2 c3 c4, A = some ⟨b, o, none⟩ ∧ b < w.heap.size ∧ d.K wr xs[k] [c0, c1, c2, c3, c4] ∧ wr.cell? ⟨b, o + k * 5, none⟩ = some c0 ∧ wr.cell? ⟨b, o + k * 5 + 1, none⟩ = some c1 ∧ wr.cell? ⟨b, o + k * 5 + 2, none⟩ = some c2 ∧ wr.cell? ⟨b, o + k * 5 + 3, none⟩ = some c3 ∧ wr.cell? ⟨b, o + k * 5 + 4, none⟩ = some c4 := by
 obtain ⟨b, o, e, hlt, hc⟩ := h.2 (by rintro rfl; simp at hk)
 obtain ⟨cs, hK, hcell⟩ := hc k hk
 have hl := d.len hK
 rw [hs] at hl hcell
 match cs, hl with
 | [c0, c1, c2, c3, c4], _ =>
  refine ⟨b, o, c0, c1, c2, c3, c4, e, hlt, d.below hb hK, ?_, ?_, ?_, ?_, ?_⟩
  · have q := (hb.cell (p := ⟨b, o + k * 5 + 0, none⟩) hlt).trans (hcell 0 c0 rfl); simpa using q
  · have q := (hb.cell (p := ⟨b, o + k * 5 + 1, none⟩) hlt).trans (hcell 1 c1 rfl); simpa using q
  · have q := (hb.cell (p := ⟨b, o + k * 5 + 2, none⟩) hlt).trans (hcell 2 c2 rfl); simpa using q
  · have q := (hb.cell (p := ⟨b, o + k * 5 + 3, none⟩) hlt).trans (hcell 3 c3 rfl); simpa using q
  have q := (hb.cell (p := ⟨b, o + k * 5 + 4, none⟩) hlt).trans (hcell 4 c4 rfl); simpa using q
theorem Rd.at11 {d : Rep α} {w wr : World} {A : Option Addr} {xs : List α} (h : Rd d w A xs) (hs : d.sz = 11) (hb : Below w.heap.size w wr) (k : Nat) (hk : k < xs.length) :
 ∃ b o c0 c1 c2 c3 c4 c5 c6 c7 c8 c9 c10, A = some ⟨b, o, none⟩ ∧ b < w.heap.size ∧ d.K wr xs[k] [c0, c1, c2, c3, c4, c5, c6, c7, c8, c9, c10] ∧ wr.cell? ⟨b, o + k * 11, none⟩ = some c0 ∧ wr.cell? ⟨b, o + k * 11 + 1, none⟩ = some c1 ∧ wr.cell? ⟨b, o + k * 11 + 2, none⟩ = some c2 ∧ wr.cell? ⟨b, o + k * 11 + 3, none⟩ = some c3 ∧ wr.cell? ⟨b, o + k * 11 + 4, none⟩ = some c4 ∧ wr.cell? ⟨b, o + k * 11 + 5, none⟩ = some c5 ∧ wr.cell? ⟨b, o + k * 11 + 6, none⟩ = some c6 ∧ wr.cell? ⟨b, o + k * 11 + 7, none⟩ = some c7 ∧ wr.cell? ⟨b, o + k * 11 + 8, none⟩ = some c8 ∧ wr.cell? ⟨b, o + k * 11 + 9, none⟩ = some c9 ∧ wr.cell? ⟨b, o + k * 11 + 10, none⟩ = some c10 := by
 obtain ⟨b, o, e, hlt, hc⟩ := h.2 (by rintro rfl; simp at hk)
 obtain ⟨cs, hK, hcell⟩ := hc k hk
 have hl := d.len hK
 rw [hs] at hl hcell
 match cs, hl with
 | [c0, c1, c2, c3, c4, c5, c6, c7, c8, c9, c10], _ =>
  refine ⟨b, o, c0, c1, c2, c3, c4, c5, c6, c7, c8, c9, c10, e, hlt, d.below hb hK, ?_, ?_, ?_, ?_, ?_, ?_, ?_, ?_, ?_, ?_, ?_⟩
  · have q := (hb.cell (p := ⟨b, o + k * 11 + 0, none⟩) hlt).trans (hcell 0 c0 rfl); simpa using q
  · have q := (hb.cell (p := ⟨b, o + k * 11 + 1, none⟩) hlt).trans (hcell 1 c1 rfl); simpa using q
  · have q := (hb.cell (p := ⟨b, o + k * 11 + 2, none⟩) hlt).trans (hcell 2 c2 rfl); simpa using q
  · have q := (hb.cell (p := ⟨b, o + k * 11 + 3, none⟩) hlt).trans (hcell 3 c3 rfl); simpa using q
  · have q := (hb.cell (p := ⟨b, o + k * 11 + 4, none⟩) hlt).trans (hcell 4 c4 rfl); simpa using q
  · have q := (hb.cell (p := ⟨b, o + k * 11 + 5, none⟩) hlt).trans (hcell 5 c5 rfl); simpa using q
  · have q := (hb.cell (p := ⟨b, o + k * 11 + 6, none⟩) hlt).trans (hcell 6 c6 rfl); simpa using q
  · have q := (hb.cell (p := ⟨b, o + k * 11 + 7, none⟩) hlt).trans (hcell 7 c7 rfl); simpa using q
  · have q := (hb.cell (p := ⟨b, o + k * 11 + 8, none⟩) hlt).trans (hcell 8 c8 rfl); simpa using q
  · have q := (hb.cell (p := ⟨b, o + k * 11 + 9, none⟩) hlt).trans (hcell 9 c9 rfl); simpa using q
  have q := (hb.cell (p := ⟨b, o + k * 11 + 10, none⟩) hlt).trans (hcell 10 c10 rfl); simpa using q
theorem Rd.nil (d : Rep α) (w : World) (A : Option Addr) : Rd d w A [] := ⟨by simp, fun h => absurd rfl h⟩
def Zg9 (k : Nat) (enc : α → List Value) (hk : ∀ x, (enc x).length = k) : Rep α where
 sz := k
 K := fun _ x cs => cs = enc x
 len := by rintro w x cs rfl; exact hk x
 below := fun _ h => h
def Zml (d : Rep α) (w : World) (v : Value) (xs : List α) : Prop := ∃ A c, v = .slice A xs.length c ∧ xs.length ≤ c ∧ Rd d w A xs
theorem Zml.below {d : Rep α} {w w1 : World} {v : Value} {xs : List α} (h : Zml d w v xs) (hb : Below w.heap.size w w1) : Zml d w1 v xs := by
 obtain ⟨A, c, e, hl, hr⟩ := h
 exact ⟨A, c, e, hl, hr.below hb⟩
theorem Zvy {W w1 : World} (hb : Below W.heap.size W w1) : (∀ b o, b < W.heap.size → w1.cell? ⟨b, o, none⟩ = W.cell? ⟨b, o, none⟩) ∧ (∀ b o, b < W.heap.size → w1.frozen? ⟨b, o, none⟩ = W.frozen? ⟨b, o, none⟩) ∧ W.heap.size ≤ w1.heap.size :=
 ⟨fun b o h => hb.cell (p := ⟨b, o, none⟩) h, fun b o h => hb.frozen (p := ⟨b, o, none⟩) h, hb.size⟩
theorem step {w W w1 : World} (h : Below w.heap.size w W) (hb : Below W.heap.size W w1) : Below w.heap.size w w1 := h.trans (hb.mono h.size)
theorem Zju {W wc w1 : World} (H : Below W.heap.size W wc) (hb : Below wc.heap.size wc w1) : Below W.heap.size W w1 ∧ (∀ b o, b < W.heap.size → w1.cell? ⟨b, o, none⟩ = W.cell? ⟨b, o, none⟩) ∧ (∀ b o, b < W.heap.size → w1.frozen? ⟨b, o, none⟩ = W.frozen? ⟨b, o, none⟩) ∧ (∀ b, b < W.heap.size → b < w1.heap.size) ∧ (∀ b, b < W.heap.size → ¬ b = w1.heap.size) ∧ W.heap.size ≤ w1.heap.size :=
 have h := step H hb
 ⟨h, (Zvy h).1, (Zvy h).2.1, fun b hb => Nat.lt_of_lt_of_le hb h.size, fun b hb e => by have := h.size; omega, h.size⟩
def Zi5 (P : Program) (g : Nat) (lb : Array Value) (d : Rep α) (one : List Value → Value) (p : α → Bool) (w : World) : Prop :=
 ∀ (W : World) (x : α) (cs : List Value), Below w.heap.size w W → d.K W x cs → Calls P g (#[one cs] ++ lb) W fun e w' => e = .returned (.bool (p x)) ∧ Below W.heap.size W w'
def one (cs : List Value) : Value := cs.headD (.int .i64 0)
theorem Za {p : Prop} (h : p) : Hid p := h
def agg (cs : List Value) : Value := .agg cs.toArray
theorem Zj (w : World) (cs : Array Value) (t : TypeId) (fr : Nat × Nat) (k : Nat) (u : Value) (h : cs[k]? = some u) : (w.alloc (.cells cs t fr)).cell? ⟨w.heap.size, k, none⟩ = some u := by
 have e : (w.alloc (.cells cs t fr)).heap[w.heap.size]? = some (.cells cs t fr) := by
  show (w.heap.push _)[w.heap.size]? = _
  rw [Array.getElem?_push_size]
 unfold World.cell?
 simp only [e]
 simpa using h
theorem Zhu {P : Program} : ∀ (fn : Fn) (first cap : Array Value) (w : World), (Instr.makeFunc fn first cap).run P w = .ok (.func fn first cap) w := fun _ _ _ _ => rfl
end Go.Proofs.YtgdmcmicfoamlaaGreatDoor
namespace Go.Proofs.YtgdmcmicfoamlaaGreatDoor
open Go.RowKit
variable {α : Type}
def Zjy (p : α → Bool) (xs : List α) : Int := match xs.findIdx? p with | some i => i | none => -1
theorem Zfj (p : α → Bool) (xs : List α) (k : Nat) (hk : k < xs.length) (h : p xs[k] = true) (hn : ∀ j (h : j < xs.length), j < k → p xs[j] = false) : Zjy p xs = k := by
 have : xs.findIdx? p = some k := by
  rw [List.findIdx?_eq_some_iff_getElem]
  exact ⟨hk, h, fun j hj => by simp [hn j (by omega) hj]⟩
 simp [Zjy, this]
theorem Zep (p : α → Bool) (xs : List α) (hn : ∀ j (h : j < xs.length), j < xs.length → p xs[j] = false) : Zjy p xs = -1 := by
 have : xs.findIdx? p = none := by
  rw [List.findIdx?_eq_none_iff]
  intro x hx
  obtain ⟨i, hi, rfl⟩ := List.getElem_of_mem hx
  exact hn i hi hi
 simp [Zjy, this]
theorem Zff (p : α → Bool) (xs : List α) : decide (0 ≤ Zjy p xs) = xs.any p := by
 unfold Zjy
 cases h : xs.findIdx? p with
 | some i =>
  obtain ⟨hi, h1, _⟩ := List.findIdx?_eq_some_iff_getElem.1 h
  have : xs.any p = true := List.any_eq_true.2 ⟨xs[i], List.getElem_mem hi, h1⟩
  simp [this]
 | none =>
  rw [List.findIdx?_eq_none_iff] at h
  have : xs.any p = false := by simpa using h
  simp [this]
theorem Zpi (d : Rep α) (hsz : d.sz = 2) (p : α → Bool) (g : Nat) (lb : Array Value) (eg : ∀ args w, (callFunc g args).run Tryz.prog w = .ok (.enter g args) w) (A : Option Addr) (c : Nat) (xs : List α) (w : World)
 (hp : Zi5 Tryz.prog g lb d agg p w) (hr : Rd d w A xs) :
 Calls Tryz.prog 202 #[.slice A xs.length c, .func (.func g) #[] lb] w fun e w' => e = .returned (.int .i64 (Zjy p xs)) ∧ Below w.heap.size w w' := by
 have hl := hr.1
 go_enter Tryz.func202, Tryz.ntmps202
 go_wp2
 go_loopg [5, 8] xs.length (fun gg _ s8 wr => ∃ kk : Nat, kk ≤ xs.length ∧ xs.length - kk ≤ gg ∧ s8 = .int .i64 kk ∧ Aside (Below w.heap.size w wr) ∧ Aside (∀ j (h : j < xs.length), j < kk → p xs[j] = false))
 case atStart => exact ⟨0, Nat.zero_le _, by omega, rfl, Below.refl _ w, fun j _ hj => absurd hj (Nat.not_lt_zero _)⟩
 obtain ⟨kk, hkk, hg, rfl, BW, AA⟩ := hrel
 by_cases hlt : kk < xs.length
 ·
  have hltz : (kk : Int) < (xs.length : Int) := by omega
  obtain ⟨b, o, c0, c1, rfl, hblt, hK, h0, h1⟩ := hr.at2 hsz BW.out kk hlt
  have hcall := hp wr _ _ BW.out hK
  clear hp hr
  cases hq : p xs[kk] with
  | true =>
   rw [hq] at hcall
   have Hq := Za hq; clear hq
   go_wp2_with (go_at_fn g; refine hcall.mono ?_; rintro e w' ⟨rfl, hb'⟩)
   go_ret
   exact ⟨by rw [Zfj p xs kk hlt Hq.out AA.out]; rfl, step BW.out hb'⟩
  | false =>
   rw [hq] at hcall
   have Hq := Za hq; clear hq
   go_wp2_with (go_at_fn g; refine hcall.mono ?_; rintro e w' ⟨rfl, hb'⟩)
   go_roundg (xs.length - (kk + 1))
   case measure => omega
   refine ⟨kk + 1, by omega, by omega, by go_num, step BW.out hb', (show Aside _ from fun j hj hjk => ?_)⟩
   by_cases e : j = kk
   · subst e; exact Hq.out
   exact AA.out j hj (by omega)
 have hltz : ¬ (kk : Int) < (xs.length : Int) := by omega
 have hkl : kk = xs.length := by omega
 have HK := Za hkl; clear hkl
 go_wp2
 go_ret
 exact ⟨by rw [Zep p xs (fun j h _ => AA.out j h (by have := HK.out; omega))]; rfl, BW.out⟩
theorem Zp4 (d : Rep α) (hsz : d.sz = 2) (p : α → Bool) (g : Nat) (lb : Array Value) (eg : ∀ args w, (callFunc g args).run Tryz.prog w = .ok (.enter g args) w) (A : Option Addr) (c : Nat) (xs : List α) (w : World)
 (hp : Zi5 Tryz.prog g lb d agg p w) (hr : Rd d w A xs) :
 Calls Tryz.prog 149 #[.slice A xs.length c, .func (.func g) #[] lb] w fun e w' => e = .returned (.bool (xs.any p)) ∧ Below w.heap.size w w' := by
 rw [← Zff p xs]
 go_enter Tryz.func149, Tryz.ntmps149
 go_wp2_with (go_at_call 202; refine (Zpi d hsz p g lb eg A c xs w hp hr).mono ?_; rintro e w' ⟨rfl, hb'⟩)
 go_ret
 exact ⟨rfl, hb'⟩
theorem Znd (d : Rep α) (hsz : d.sz = 11) (p : α → Bool) (g : Nat) (lb : Array Value) (eg : ∀ args w, (callFunc g args).run Tryz.prog w = .ok (.enter g args) w) (A : Option Addr) (c : Nat) (xs : List α) (w : World)
 (hp : Zi5 Tryz.prog g lb d agg p w) (hr : Rd d w A xs) :
 Calls Tryz.prog 205 #[.slice A xs.length c, .func (.func g) #[] lb] w fun e w' => e = .returned (.int .i64 (Zjy p xs)) ∧ Below w.heap.size w w' := by
 have hl := hr.1
 go_enter Tryz.func205, Tryz.ntmps205
 go_wp2
 go_loopg [5, 8] xs.length (fun gg _ s8 wr => ∃ kk : Nat, kk ≤ xs.length ∧ xs.length - kk ≤ gg ∧ s8 = .int .i64 kk ∧ Aside (Below w.heap.size w wr) ∧ Aside (∀ j (h : j < xs.length), j < kk → p xs[j] = false))
 case atStart => exact ⟨0, Nat.zero_le _, by omega, rfl, Below.refl _ w, fun j _ hj => absurd hj (Nat.not_lt_zero _)⟩
 obtain ⟨kk, hkk, hg, rfl, BW, AA⟩ := hrel
 by_cases hlt : kk < xs.length
 ·
  have hltz : (kk : Int) < (xs.length : Int) := by omega
  obtain ⟨b, o, c0, c1, c2, c3, c4, c5, c6, c7, c8, c9, c10, rfl, hblt, hK, h0, h1, h2, h3, h4, h5, h6, h7, h8, h9, h10⟩ := hr.at11 hsz BW.out kk hlt
  have hcall := hp wr _ _ BW.out hK
  clear hp hr
  cases hq : p xs[kk] with
  | true =>
   rw [hq] at hcall
   have Hq := Za hq; clear hq
   go_wp2_with (go_at_fn g; refine hcall.mono ?_; rintro e w' ⟨rfl, hb'⟩)
   go_ret
   exact ⟨by rw [Zfj p xs kk hlt Hq.out AA.out]; rfl, step BW.out hb'⟩
  | false =>
   rw [hq] at hcall
   have Hq := Za hq; clear hq
   go_wp2_with (go_at_fn g; refine hcall.mono ?_; rintro e w' ⟨rfl, hb'⟩)
   go_roundg (xs.length - (kk + 1))
   case measure => omega
   refine ⟨kk + 1, by omega, by omega, by go_num, step BW.out hb', (show Aside _ from fun j hj hjk => ?_)⟩
   by_cases e : j = kk
   · subst e; exact Hq.out
   exact AA.out j hj (by omega)
 have hltz : ¬ (kk : Int) < (xs.length : Int) := by omega
 have hkl : kk = xs.length := by omega
 have HK := Za hkl; clear hkl
 go_wp2
 go_ret
 exact ⟨by rw [Zep p xs (fun j h _ => AA.out j h (by have := HK.out; omega))]; rfl, BW.out⟩
theorem Znx (d : Rep α) (hsz : d.sz = 11) (p : α → Bool) (g : Nat) (lb : Array Value) (eg : ∀ args w, (callFunc g args).run Tryz.prog w = .ok (.enter g args) w) (A : Option Addr) (c : Nat) (xs : List α) (w : World)
 (hp : Zi5 Tryz.prog g lb d agg p w) (hr : Rd d w A xs) :
 Calls Tryz.prog 156 #[.slice A xs.length c, .func (.func g) #[] lb] w fun e w' => e = .returned (.bool (xs.any p)) ∧ Below w.heap.size w w' := by
 rw [← Zff p xs]
 go_enter Tryz.func156, Tryz.ntmps156
 go_wp2_with (go_at_call 205; refine (Znd d hsz p g lb eg A c xs w hp hr).mono ?_; rintro e w' ⟨rfl, hb'⟩)
 go_ret
 exact ⟨rfl, hb'⟩
theorem Zpx (d : Rep α) (hsz : d.sz = 2) (p : α → Bool) (g : Nat) (lb : Array Value) (eg : ∀ args w, (callFunc g args).run Tryz.prog w = .ok (.enter g args) w) (A : Option Addr) (c : Nat) (xs : List α) (w : World)
 (hp : Zi5 Tryz.prog g lb d agg p w) (hr : Rd d w A xs) :
 Calls Tryz.prog 204 #[.slice A xs.length c, .func (.func g) #[] lb] w fun e w' => e = .returned (.int .i64 (Zjy p xs)) ∧ Below w.heap.size w w' := by
 have hl := hr.1
 go_enter Tryz.func204, Tryz.ntmps204
 go_wp2
 go_loopg [5, 8] xs.length (fun gg _ s8 wr => ∃ kk : Nat, kk ≤ xs.length ∧ xs.length - kk ≤ gg ∧ s8 = .int .i64 kk ∧ Aside (Below w.heap.size w wr) ∧ Aside (∀ j (h : j < xs.length), j < kk → p xs[j] = false))
 case atStart => exact ⟨0, Nat.zero_le _, by omega, rfl, Below.refl _ w, fun j _ hj => absurd hj (Nat.not_lt_zero _)⟩
 obtain ⟨kk, hkk, hg, rfl, BW, AA⟩ := hrel
 by_cases hlt : kk < xs.length
 ·
  have hltz : (kk : Int) < (xs.length : Int) := by omega
  obtain ⟨b, o, c0, c1, rfl, hblt, hK, h0, h1⟩ := hr.at2 hsz BW.out kk hlt
  have hcall := hp wr _ _ BW.out hK
  clear hp hr
  cases hq : p xs[kk] with
  | true =>
   rw [hq] at hcall
   have Hq := Za hq; clear hq
   go_wp2_with (go_at_fn g; refine hcall.mono ?_; rintro e w' ⟨rfl, hb'⟩)
   go_ret
   exact ⟨by rw [Zfj p xs kk hlt Hq.out AA.out]; rfl, step BW.out hb'⟩
  | false =>
   rw [hq] at hcall
   have Hq := Za hq; clear hq
   go_wp2_with (go_at_fn g; refine hcall.mono ?_; rintro e w' ⟨rfl, hb'⟩)
   go_roundg (xs.length - (kk + 1))
   case measure => omega
   refine ⟨kk + 1, by omega, by omega, by go_num, step BW.out hb', (show Aside _ from fun j hj hjk => ?_)⟩
   by_cases e : j = kk
   · subst e; exact Hq.out
   exact AA.out j hj (by omega)
 have hltz : ¬ (kk : Int) < (xs.length : Int) := by omega
 have hkl : kk = xs.length := by omega
 have HK := Za hkl; clear hkl
 go_wp2
 go_ret
 exact ⟨by rw [Zep p xs (fun j h _ => AA.out j h (by have := HK.out; omega))]; rfl, BW.out⟩
theorem Zpk (d : Rep α) (hsz : d.sz = 2) (p : α → Bool) (g : Nat) (lb : Array Value) (eg : ∀ args w, (callFunc g args).run Tryz.prog w = .ok (.enter g args) w) (A : Option Addr) (c : Nat) (xs : List α) (w : World)
 (hp : Zi5 Tryz.prog g lb d agg p w) (hr : Rd d w A xs) :
 Calls Tryz.prog 154 #[.slice A xs.length c, .func (.func g) #[] lb] w fun e w' => e = .returned (.bool (xs.any p)) ∧ Below w.heap.size w w' := by
 rw [← Zff p xs]
 go_enter Tryz.func154, Tryz.ntmps154
 go_wp2_with (go_at_call 204; refine (Zpx d hsz p g lb eg A c xs w hp hr).mono ?_; rintro e w' ⟨rfl, hb'⟩)
 go_ret
 exact ⟨rfl, hb'⟩
theorem Zu2 (d : Rep α) (hsz : d.sz = 1) (p : α → Bool) (g : Nat) (lb : Array Value) (eg : ∀ args w, (callFunc g args).run Tryz.prog w = .ok (.enter g args) w) (A : Option Addr) (c : Nat) (xs : List α) (w : World)
 (hp : Zi5 Tryz.prog g lb d one p w) (hr : Rd d w A xs) :
 Calls Tryz.prog 183 #[.slice A xs.length c, .func (.func g) #[] lb] w fun e w' => e = .returned (.int .i64 (Zjy p xs)) ∧ Below w.heap.size w w' := by
 have hl := hr.1
 go_enter Tryz.func183, Tryz.ntmps183
 go_wp2
 go_loopg [5, 8] xs.length (fun gg _ s8 wr => ∃ kk : Nat, kk ≤ xs.length ∧ xs.length - kk ≤ gg ∧ s8 = .int .i64 kk ∧ Aside (Below w.heap.size w wr) ∧ Aside (∀ j (h : j < xs.length), j < kk → p xs[j] = false))
 case atStart => exact ⟨0, Nat.zero_le _, by omega, rfl, Below.refl _ w, fun j _ hj => absurd hj (Nat.not_lt_zero _)⟩
 obtain ⟨kk, hkk, hg, rfl, BW, AA⟩ := hrel
 by_cases hlt : kk < xs.length
 ·
  have hltz : (kk : Int) < (xs.length : Int) := by omega
  obtain ⟨b, o, c0, rfl, hblt, hK, h0⟩ := hr.at1 hsz BW.out kk hlt
  have hcall := hp wr _ _ BW.out hK
  clear hp hr
  cases hq : p xs[kk] with
  | true =>
   rw [hq] at hcall
   have Hq := Za hq; clear hq
   go_wp2_with (go_at_fn g; refine hcall.mono ?_; rintro e w' ⟨rfl, hb'⟩)
   go_ret
   exact ⟨by rw [Zfj p xs kk hlt Hq.out AA.out]; rfl, step BW.out hb'⟩
  | false =>
   rw [hq] at hcall
   have Hq := Za hq; clear hq
   go_wp2_with (go_at_fn g; refine hcall.mono ?_; rintro e w' ⟨rfl, hb'⟩)
   go_roundg (xs.length - (kk + 1))
   case measure => omega
   refine ⟨kk + 1, by omega, by omega, by go_num, step BW.out hb', (show Aside _ from fun j hj hjk => ?_)⟩
   by_cases e : j = kk
   · subst e; exact Hq.out
   exact AA.out j hj (by omega)
 have hltz : ¬ (kk : Int) < (xs.length : Int) := by omega
 have hkl : kk = xs.length := by omega
 have HK := Za hkl; clear hkl
 go_wp2
 go_ret
 exact ⟨by rw [Zep p xs (fun j h _ => AA.out j h (by have := HK.out; omega))]; rfl, BW.out⟩
theorem Zu0 (d : Rep α) (hsz : d.sz = 1) (p : α → Bool) (g : Nat) (lb : Array Value) (eg : ∀ args w, (callFunc g args).run Tryz.prog w = .ok (.enter g args) w) (A : Option Addr) (c : Nat) (xs : List α) (w : World)
 (hp : Zi5 Tryz.prog g lb d one p w) (hr : Rd d w A xs) :
 Calls Tryz.prog 123 #[.slice A xs.length c, .func (.func g) #[] lb] w fun e w' => e = .returned (.bool (xs.any p)) ∧ Below w.heap.size w w' := by
 rw [← Zff p xs]
 go_enter Tryz.func123, Tryz.ntmps123
 go_wp2_with (go_at_call 183; refine (Zu2 d hsz p g lb eg A c xs w hp hr).mono ?_; rintro e w' ⟨rfl, hb'⟩)
 go_ret
 exact ⟨rfl, hb'⟩
end Go.Proofs.YtgdmcmicfoamlaaGreatDoor
namespace Go.Proofs.YtgdmcmicfoamlaaGreatDoor
structure Yq where
 k : Int
 n : Int
deriving DecidableEq, Inhabited
structure Brd where
 s : Int
 w : Int
deriving DecidableEq, Inhabited
structure Qi where
 t : ByteArray
 c : Int
 r : Int
 top : Brd
 right : Brd
 bot : Brd
 left : Brd
deriving DecidableEq, Inhabited
structure Jv where
 cs : List Qi
 wh : Bool
deriving DecidableEq, Inhabited
structure Tbl where
 cols : List Yq
 head : Int
 foot : Int
 rows : List Jv
 gap : Int
deriving DecidableEq, Inhabited
structure Zl where
 row : Int
 col : Int
 rows : Int
 cols : Int
 inn : Int
deriving DecidableEq, Inhabited
structure Zvq where
 rows : Int
 cols : Int
 cells : List Zl
deriving DecidableEq, Inhabited
def inB (n lo hi : Int) : Bool := decide (lo ≤ n) && decide (n ≤ hi)
def Zsz (b : Brd) : Bool := inB b.s 1 3
def Zh0 (b : Brd) : Bool := if Zsz b then inB b.w 1 3 else (b.s == 0 || b.s == 4) && b.w == 0
def Zck (x : Yq) : Bool := if x.k = 0 then x.n == 0 else if x.k = 1 then inB x.n 0 60 else if x.k = 2 then inB x.n 1 100 else false
def Zca : List UInt8 → List UInt8 → List (List UInt8)
 | w, [] => [w]
 | w, c :: cs => if c = 32 then w :: Zca [] cs else Zca (w ++ [c]) cs
def Zgk (c : UInt8) : Bool := decide (97 ≤ c) && decide (c ≤ 122)
def Za5 (w : List UInt8) : Bool := !w.isEmpty && w.all Zgk
def Zhx (l : List UInt8) : Bool := l.isEmpty || ((Zca [] l).all Za5 && decide (l.length ≤ 30))
def Zcj (s : ByteArray) : Bool := Zhx s.data.toList
def Zax (c : Qi) : Bool := Zcj c.t && (inB c.c 1 4 && (inB c.r 1 4 && (Zh0 c.top && (Zh0 c.right && (Zh0 c.bot && Zh0 c.left)))))
def Qn (t : Tbl) : Bool :=
 inB t.rows.length 1 8 && (decide ((t.cols.length : Int) ≤ 8) && (inB t.gap 0 3 && (inB t.head 0 t.rows.length && (inB t.foot 0 (t.rows.length - t.head) &&
  (t.cols.all Zck && t.rows.all fun r => decide ((r.cs.length : Int) ≤ 5) && r.cs.all Zax)))))
def Yc (t : Tbl) (col : Int) : Yq := if 0 ≤ col ∧ col < t.cols.length then t.cols.getD col.toNat ⟨0, 0⟩ else ⟨0, 0⟩
end Go.Proofs.YtgdmcmicfoamlaaGreatDoor
namespace Go.Proofs.YtgdmcmicfoamlaaGreatDoor
open Go
theorem Zn3 : ∀ (l w : List UInt8), (32 : UInt8) ∉ l → Zca w l = [w ++ l]
 | [], w, _ => by simp [Zca]
 | c :: cs, w, h => by
  have h1 : c ≠ 32 := fun e => h (by simp [e])
  have h2 : (32 : UInt8) ∉ cs := fun e => h (by simp [e])
  rw [Zca, if_neg h1, Zn3 cs _ h2]
  simp
theorem Zqh : ∀ (a w b : List UInt8), (32 : UInt8) ∉ a → Zca w (a ++ 32 :: b) = (w ++ a) :: Zca [] b
 | [], w, b, _ => by simp [Zca]
 | c :: cs, w, b, h => by
  have h1 : c ≠ 32 := fun e => h (by simp [e])
  have h2 : (32 : UInt8) ∉ cs := fun e => h (by simp [e])
  rw [List.cons_append, Zca, if_neg h1, Zqh cs _ b h2]
  simp
theorem Zq4 (l : List UInt8) (i : Nat) (c : UInt8) : Lib.occAt l [c] i = true ↔ l[i]? = some c := by
 unfold Lib.occAt
 rw [← List.head?_drop]
 cases l.drop i with
 | nil => simp [List.isPrefixOf]
 | cons x xs => simp [List.isPrefixOf]; exact ⟨fun h => h.symm, fun h => h.symm⟩
theorem Zjj : ∀ (k : Nat) (l : List UInt8), l.count 32 = k → Lib.splitK [32] 0 k l = Zca [] l
 | 0, l, h => by
  have hn : (32 : UInt8) ∉ l := List.count_eq_zero.1 h
  rw [Zn3 l [] hn]; rfl
 | k + 1, l, h => by
  have hm : (32 : UInt8) ∈ l := List.count_pos_iff.1 (by omega)
  obtain ⟨a, b, rfl, ha⟩ := List.eq_append_cons_of_mem hm
  have hi : Lib.index (a ++ 32 :: b) [32] = (a.length : Int) := by
   refine Lib.index_first (by simp) ((Zq4 _ _ _).2 (by simp)) (fun j hj => ?_)
   rw [Bool.eq_false_iff]
   intro ho
   rw [Zq4, List.getElem?_append_left hj] at ho
   exact ha (List.mem_of_getElem? ho)
  have hcb : b.count 32 = k := by
   rw [List.count_append, List.count_cons_self, List.count_eq_zero.2 ha] at h; omega
  rw [Lib.splitK, hi, if_neg (by simp), Zqh a [] b ha]
  simp only [Int.toNat_natCast, Nat.add_zero, List.take_left, List.length_singleton]
  rw [show (a ++ 32 :: b).drop (a.length + 1) = b by rw [← List.drop_drop, List.drop_left]; rfl, Zjj k b hcb]
  simp
theorem Zre (s : ByteArray) : (Lib.splitB ⟨#[32]⟩ 0 (Lib.countB s ⟨#[32]⟩) s).map (·.data.toList) = Zca [] s.data.toList := by
 rw [Lib.splitB_data]
 have : Lib.countB s ⟨#[32]⟩ = s.data.toList.count 32 := Lib.count_one 32 s.data.toList
 rw [this]
 exact Zjj _ _ rfl
theorem Zmj : ∀ (l w x : List UInt8), x ∈ Zca w l → x.length ≤ w.length + l.length
 | [], w, x, h => by simp [Zca] at h; subst h; simp
 | c :: cs, w, x, h => by
  rw [Zca] at h
  split at h
  · rcases List.mem_cons.1 h with rfl | h
    · omega
    have := Zmj cs [] x h
    simp only [List.length_nil, List.length_cons] at this ⊢; omega
  have := Zmj cs _ x h
  simp only [List.length_append, List.length_cons, List.length_nil] at this ⊢; omega
theorem Zc0 {α : Type} (p : α → Bool) : ∀ l : List α, l.dropWhile p = [] ↔ l.all p = true
 | [] => by simp
 | x :: xs => by
  rw [List.dropWhile_cons]
  cases h : p x <;> simp [h, Zc0 p xs]
theorem Zgd {α : Type} (p : α → Bool) : ∀ l : List α, (l.dropWhile p).all p = true → l.dropWhile p = []
 | [], _ => rfl
 | x :: xs, h => by
  rw [List.dropWhile_cons] at h ⊢
  cases hx : p x
  · simp [hx] at h
  simp [hx] at h ⊢
  exact Zgd p xs (by simpa using h)
theorem Zti (w cs : List UInt8) : Lib.trimS w cs = [] ↔ w.all (cs.contains ·) = true := by
 unfold Lib.trimS Lib.trimLeftS Lib.trimRightS
 rw [Zc0, List.all_reverse]
 constructor
 · intro h
   have := (Zc0 _ _).1 (Zgd _ _ h)
   simpa using this
 intro h
 have : w.reverse.dropWhile (cs.contains ·) = [] := (Zc0 _ _).2 (by simpa using h)
 rw [this]; rfl
def Zfr : List UInt8 := [97, 98, 99, 100, 101, 102, 103, 104, 105, 106, 107, 108, 109, 110, 111, 112, 113, 114, 115, 116, 117, 118, 119, 120, 121, 122]
theorem Zpb : ∀ n, n < 256 → Zfr.contains (UInt8.ofNat n) = Zgk (UInt8.ofNat n) := by decide +kernel
theorem Zrg (c : UInt8) : Zfr.contains c = Zgk c := by
 have := Zpb c.toNat c.toNat_lt
 rwa [UInt8.ofNat_toNat] at this
theorem Znl (w : List UInt8) : Lib.trimS w Zfr = [] ↔ w.all Zgk = true := by
 rw [Zti]
 have : (fun c => Zfr.contains c) = Zgk := funext Zrg
 rw [this]
def okF : Bool → List UInt8 → Bool
 | e, [] => !e
 | e, c :: cs => if c = 32 then !e && okF true cs else Zgk c && okF false cs
theorem Zqp : ∀ (l w : List UInt8), w.all Zgk = false → (Zca w l).all Za5 = false
 | [], w, h => by simp [Zca, Za5, h]
 | c :: cs, w, h => by
  rw [Zca]
  split
  · simp [Za5, h]
  exact Zqp cs _ (by simp [List.all_append, h])
theorem Zm8 : ∀ (l w : List UInt8), w.all Zgk = true → (Zca w l).all Za5 = okF w.isEmpty l
 | [], w, h => by simp [Zca, Za5, okF, h]
 | c :: cs, w, h => by
  rw [Zca, okF]
  split
  · have e : (Zca [] cs).all Za5 = okF true cs := Zm8 cs [] rfl
    rw [List.all_cons, e, Za5, h, Bool.and_true]
  · cases hc : Zgk c with
    | false => rw [Zqp cs _ (by simp [List.all_append, hc])]; rfl
    | true =>
     rw [Zm8 cs (w ++ [c]) (by simp [List.all_append, h, hc]), show (w ++ [c]).isEmpty = false by cases w <;> rfl, Bool.true_and]
theorem Zmd (l : List UInt8) (hl : l.length ≤ 30) (hn : l ≠ []) : Zhx l = okF true l := by
 have h := Zm8 l [] rfl
 have e : l.isEmpty = false := by cases l <;> simp_all
 unfold Zhx
 rw [h, e]
 simp [hl]
def Ze4 (l : List UInt8) (k : Nat) : Bool := okF (decide (k = 0) || (l[k - 1]? == some 32)) (l.drop k)
theorem Zs5 (l : List UInt8) (h : 0 < l.length) (h2 : l[l.length - 1]? ≠ some 32) : Ze4 l l.length = true := by
 unfold Ze4
 rw [List.drop_length]
 have e1 : decide (l.length = 0) = false := decide_eq_false (by omega)
 have e2 : (l[l.length - 1]? == some 32) = false := by simpa using h2
 rw [e1, e2]; rfl
theorem Zia (l : List UInt8) (k : Nat) (h : k < l.length) : Ze4 l k =
 if l[k] = 32 then (!(decide (k = 0) || (l[k - 1]? == some 32))) && okF true (l.drop (k + 1)) else Zgk l[k] && okF false (l.drop (k + 1)) := by
 unfold Ze4
 rw [List.drop_eq_getElem_cons h, okF]
theorem Zp5 (l : List UInt8) (k : Nat) (h : k < l.length) (h32 : l[k] = 32) : okF true (l.drop (k + 1)) = Ze4 l (k + 1) := by
 unfold Ze4
 have : (l[k + 1 - 1]? == some 32) = true := by simp [h, h32]
 rw [this, Bool.or_true]
theorem Znb (l : List UInt8) (k : Nat) (h : k < l.length) (h32 : l[k] ≠ 32) : okF false (l.drop (k + 1)) = Ze4 l (k + 1) := by
 unfold Ze4
 have : (l[k + 1 - 1]? == some 32) = false := by simp [h, h32]
 rw [this]; rfl
theorem Zs2 (l : List UInt8) (k : Nat) (h : k < l.length) (h32 : l[k] = 32) (hb : k = 0 ∨ k = l.length - 1 ∨ l[k - 1]? = some 32) : Ze4 l k = false := by
 rw [Zia l k h, if_pos h32]
 rcases hb with hb | hb | hb
 · simp [hb]
 · have : l.drop (k + 1) = [] := List.drop_eq_nil_of_le (by omega)
   rw [this]; simp [okF]
 simp [hb]
theorem Zrx (l : List UInt8) (k : Nat) (h : k < l.length) (h32 : l[k] = 32) (h0 : k ≠ 0) (hb : l[k - 1]? ≠ some 32) : Ze4 l (k + 1) = Ze4 l k := by
 rw [Zia l k h, if_pos h32, Zp5 l k h h32]
 simp [h0, hb]
theorem Zs8 (l : List UInt8) (k : Nat) (h : k < l.length) (h32 : l[k] ≠ 32) : Ze4 l k = (Zgk l[k] && Ze4 l (k + 1)) := by
 rw [Zia l k h, if_neg h32, Znb l k h h32]
end Go.Proofs.YtgdmcmicfoamlaaGreatDoor
namespace Go.Proofs.YtgdmcmicfoamlaaGreatDoor
open Go.RowKit
theorem Zf (w : World) : Below w.heap.size w w := Below.refl _ _
theorem Jc {W w1 : World} (B : Nat) (hB : B < W.heap.size) (hb : Below W.heap.size W w1) : (∀ o, w1.cell? ⟨B, o, none⟩ = W.cell? ⟨B, o, none⟩) ∧ (∀ o, w1.frozen? ⟨B, o, none⟩ = W.frozen? ⟨B, o, none⟩) ∧ B < w1.heap.size :=
 ⟨fun o => hb.cell (p := ⟨B, o, none⟩) hB, fun o => hb.frozen (p := ⟨B, o, none⟩) hB, Nat.lt_of_lt_of_le hB hb.size⟩
theorem Zc {w W : World} (h : Below w.heap.size w W) (o : Obj) : Below w.heap.size w (W.alloc o) := h.alloc h.size o
theorem Zt {w W : World} (h : Below w.heap.size w W) : Below w.heap.size w W.drew := h.drew
def Zes (x : Yq) : List Value := [.int .i64 x.k, .int .i64 x.n]
def Qv (c : Qi) : List Value := [.string c.t, .int .i64 c.c, .int .i64 c.r, .int .i64 c.top.s, .int .i64 c.top.w, .int .i64 c.right.s, .int .i64 c.right.w, .int .i64 c.bot.s, .int .i64 c.bot.w, .int .i64 c.left.s, .int .i64 c.left.w]
def Zbz : Rep Yq := Zg9 2 Zes (fun _ => rfl)
def Zq6 : Rep Qi where
 sz := 11
 K := fun _ x cs => cs = Qv x ∧ x.t.size ≤ 1048576
 len := by rintro w x cs ⟨rfl, _⟩; rfl
 below := fun _ h => h
def Zb9 (w : World) : Prop := ∃ m, w.cell? ⟨0, 0, none⟩ = some (.int .i64 m)
theorem Zb9.below {w w1 : World} (h : Zb9 w) (hb : Below w.heap.size w w1) : Zb9 w1 := by
 obtain ⟨m, h⟩ := h
 exact ⟨m, (hb.cell (World.block_lt_of_cell? w _ h)).trans h⟩
def Zbp : Rep Jv where
 sz := 2
 K := fun w x cs => ∃ v, cs = [v, .bool x.wh] ∧ Zml Zq6 w v x.cs
 len := by rintro w x cs ⟨v, rfl, _⟩; rfl
 below := by rintro w w1 x cs hb ⟨v, rfl, h⟩; exact ⟨v, rfl, h.below hb⟩
theorem Yi {w W : World} (h : Below w.heap.size w W) {p : Addr} (hp : w.heap.size ≤ p.block) (u : Value) : Below w.heap.size w (W.setCell p u) := h.setCell hp u
end Go.Proofs.YtgdmcmicfoamlaaGreatDoor
namespace Go.Proofs
open Go.Shelf
def Tryz.lays160_ren : Go.Shelf.Ren := ⟨fun | 160 => 148 | 232 => 196 | 231 => 195 | 227 => 197 | 234 => 199 | 233 => 198 | 236 => 201 | 235 => 200 | 228 => 233 | 271 => 236 | 151 => 235 | 197 => 234 | 120 => 247 | 152 => 246 | 260 => 245 | 137 => 254 | 119 => 255 | 224 => 252 | 225 => 251 | 217 => 250 | 266 => 257 | n => n, fun | 9 => 9 | 4 => 4 | 3 => 3 | 5 => 5 | 117 => 204 | 116 => 203 | 0 => 0 | 124 => 207 | 21 => 21 | 105 => 231 | 46 => 180 | 119 => 241 | 139 => 244 | 138 => 243 | n => n, fun | 3 => 1 | 4 => 2 | n => n⟩
theorem Tryz.lays160 : Go.Proofs.Lays.n160 Tryz.prog Tryz.lays160_ren := {
 mixed := by kernel_rfl
 f119 := Tryz.func255.trans (congrArg some (by kernel_rfl))
 f120 := Tryz.func247.trans (congrArg some (by kernel_rfl))
 f137 := Tryz.func254.trans (congrArg some (by kernel_rfl))
 f151 := Tryz.func235.trans (congrArg some (by kernel_rfl))
 f152 := Tryz.func246.trans (congrArg some (by kernel_rfl))
 f160 := Tryz.func148.trans (congrArg some (by kernel_rfl))
 f197 := Tryz.func234.trans (congrArg some (by kernel_rfl))
 f217 := Tryz.func250.trans (congrArg some (by kernel_rfl))
 f224 := Tryz.func252.trans (congrArg some (by kernel_rfl))
 f225 := Tryz.func251.trans (congrArg some (by kernel_rfl))
 f227 := Tryz.func197.trans (congrArg some (by kernel_rfl))
 f228 := Tryz.func233.trans (congrArg some (by kernel_rfl))
 f231 := Tryz.func195.trans (congrArg some (by kernel_rfl))
 f232 := Tryz.func196.trans (congrArg some (by kernel_rfl))
 f233 := Tryz.func198.trans (congrArg some (by kernel_rfl))
 f234 := Tryz.func199.trans (congrArg some (by kernel_rfl))
 f235 := Tryz.func200.trans (congrArg some (by kernel_rfl))
 f236 := Tryz.func201.trans (congrArg some (by kernel_rfl))
 f260 := Tryz.func245.trans (congrArg some (by kernel_rfl))
 f266 := Tryz.func257.trans (congrArg some (by kernel_rfl))
 f271 := Tryz.func236.trans (congrArg some (by kernel_rfl))
 t0 := Tryz.underlying0
 a0 := Tryz.isAgg0
 z0 := Tryz.sizeOf0
 v0 := Tryz.zeroValue0
 t3 := Tryz.underlying3
 a3 := Tryz.isAgg3
 z3 := Tryz.sizeOf3
 v3 := Tryz.zeroValue3
 t4 := Tryz.underlying4
 a4 := Tryz.isAgg4
 z4 := Tryz.sizeOf4
 v4 := Tryz.zeroValue4
 t5 := Tryz.underlying5
 a5 := Tryz.isAgg5
 z5 := Tryz.sizeOf5
 v5 := Tryz.zeroValue5
 t9 := Tryz.underlying9
 a9 := Tryz.isAgg9
 z9 := Tryz.sizeOf9
 v9 := Tryz.zeroValue9
 t21 := Tryz.underlying21
 a21 := Tryz.isAgg21
 z21 := Tryz.sizeOf21
 v21 := Tryz.zeroValue21
 t46 := Tryz.underlying180
 a46 := Tryz.isAgg180
 z46 := Tryz.sizeOf180
 v46 := Tryz.zeroValue180
 t105 := Tryz.underlying231
 a105 := Tryz.isAgg231
 z105 := Tryz.sizeOf231
 v105 := Tryz.zeroValue231
 t116 := Tryz.underlying203
 a116 := Tryz.isAgg203
 z116 := Tryz.sizeOf203
 t117 := Tryz.underlying204
 a117 := Tryz.isAgg204
 z117 := Tryz.sizeOf204
 v117 := Tryz.zeroValue204
 t119 := Tryz.underlying241
 a119 := Tryz.isAgg241
 z119 := Tryz.sizeOf241
 t124 := Tryz.underlying207
 a124 := Tryz.isAgg207
 z124 := Tryz.sizeOf207
 v124 := Tryz.zeroValue207
 t138 := Tryz.underlying243
 a138 := Tryz.isAgg243
 z138 := Tryz.sizeOf243
 v138 := Tryz.zeroValue243
 t139 := Tryz.underlying244
 a139 := Tryz.isAgg244
 z139 := Tryz.sizeOf244
 v139 := Tryz.zeroValue244
 g3 := by kernel_rfl
 g4 := by kernel_rfl }
def Tryz.lays146_ren : Go.Shelf.Ren := ⟨fun | 146 => 147 | 221 => 194 | 268 => 230 | 138 => 231 | 143 => 232 | 195 => 242 | 197 => 234 | 218 => 243 | 219 => 244 | 260 => 245 | 217 => 250 | 225 => 251 | 224 => 252 | 267 => 253 | 266 => 257 | 314 => 258 | n => n, fun | 9 => 9 | 31 => 44 | 3 => 3 | 4 => 4 | 0 => 0 | 105 => 231 | 21 => 21 | 5 => 5 | 46 => 180 | 119 => 241 | 139 => 244 | 138 => 243 | 146 => 218 | 51 => 217 | n => n, fun | 1 => 0 | 3 => 1 | 4 => 2 | n => n⟩
theorem Tryz.lays146 : Go.Proofs.Lays.n146 Tryz.prog Tryz.lays146_ren := {
 mixed := by kernel_rfl
 f138 := Tryz.func231.trans (congrArg some (by kernel_rfl))
 f143 := Tryz.func232.trans (congrArg some (by kernel_rfl))
 f146 := Tryz.func147.trans (congrArg some (by kernel_rfl))
 f195 := Tryz.func242.trans (congrArg some (by kernel_rfl))
 f197 := Tryz.func234.trans (congrArg some (by kernel_rfl))
 f217 := Tryz.func250.trans (congrArg some (by kernel_rfl))
 f218 := Tryz.func243.trans (congrArg some (by kernel_rfl))
 f219 := Tryz.func244.trans (congrArg some (by kernel_rfl))
 f221 := Tryz.func194.trans (congrArg some (by kernel_rfl))
 f224 := Tryz.func252.trans (congrArg some (by kernel_rfl))
 f225 := Tryz.func251.trans (congrArg some (by kernel_rfl))
 f260 := Tryz.func245.trans (congrArg some (by kernel_rfl))
 f266 := Tryz.func257.trans (congrArg some (by kernel_rfl))
 f267 := Tryz.func253.trans (congrArg some (by kernel_rfl))
 f268 := Tryz.func230.trans (congrArg some (by kernel_rfl))
 f314 := Tryz.func258.trans (congrArg some (by kernel_rfl))
 t0 := Tryz.underlying0
 a0 := Tryz.isAgg0
 z0 := Tryz.sizeOf0
 v0 := Tryz.zeroValue0
 t3 := Tryz.underlying3
 a3 := Tryz.isAgg3
 z3 := Tryz.sizeOf3
 v3 := Tryz.zeroValue3
 t4 := Tryz.underlying4
 a4 := Tryz.isAgg4
 z4 := Tryz.sizeOf4
 v4 := Tryz.zeroValue4
 t5 := Tryz.underlying5
 a5 := Tryz.isAgg5
 z5 := Tryz.sizeOf5
 v5 := Tryz.zeroValue5
 t9 := Tryz.underlying9
 a9 := Tryz.isAgg9
 z9 := Tryz.sizeOf9
 v9 := Tryz.zeroValue9
 t21 := Tryz.underlying21
 a21 := Tryz.isAgg21
 z21 := Tryz.sizeOf21
 v21 := Tryz.zeroValue21
 t31 := Tryz.underlying44
 a31 := Tryz.isAgg44
 z31 := Tryz.sizeOf44
 v31 := Tryz.zeroValue44
 t46 := Tryz.underlying180
 a46 := Tryz.isAgg180
 z46 := Tryz.sizeOf180
 v46 := Tryz.zeroValue180
 t51 := Tryz.underlying217
 a51 := Tryz.isAgg217
 z51 := Tryz.sizeOf217
 v51 := Tryz.zeroValue217
 t105 := Tryz.underlying231
 a105 := Tryz.isAgg231
 z105 := Tryz.sizeOf231
 v105 := Tryz.zeroValue231
 t119 := Tryz.underlying241
 a119 := Tryz.isAgg241
 z119 := Tryz.sizeOf241
 t138 := Tryz.underlying243
 a138 := Tryz.isAgg243
 z138 := Tryz.sizeOf243
 v138 := Tryz.zeroValue243
 t139 := Tryz.underlying244
 a139 := Tryz.isAgg244
 z139 := Tryz.sizeOf244
 v139 := Tryz.zeroValue244
 t146 := Tryz.underlying218
 a146 := Tryz.isAgg218
 z146 := Tryz.sizeOf218
 v146 := Tryz.zeroValue218
 g1 := by kernel_rfl
 g3 := by kernel_rfl
 g4 := by kernel_rfl }
end Go.Proofs
namespace Go.Proofs.YtgdmcmicfoamlaaGreatDoor
theorem Zjb {α : Type} (l : List α) : l = [] ∨ ∃ m x, l = m ++ [x] := by
 rcases List.eq_nil_or_concat l with h | ⟨m, x, h⟩
 · exact Or.inl h
 exact Or.inr ⟨m, x, by simpa using h⟩
end Go.Proofs.YtgdmcmicfoamlaaGreatDoor
