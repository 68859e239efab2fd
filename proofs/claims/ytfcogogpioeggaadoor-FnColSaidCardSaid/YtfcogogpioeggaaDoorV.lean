import Derived.Test.YtfcogogpioeggaaDoorProg
import Derived.WalkKit
import Derived.WalkLawsBesides
import Derived.WalkSpells
import Derived.Deep.LoopGhost
import Derived.Deep.QuietTactic
import Derived.BigQuiet
import Derived.Outline
import Derived.StillTailTactics
import Derived.Shelf.Abstract
import Derived.Laws.EntriesVeiled
namespace Go.Proofs.YtfcogogpioeggaaDoor
open Go.RowKit

/-- How an x stands in cells. -/
structure Rep (α : Type) where
  sz : Nat
  K : World → α → List Value → Prop
  len : ∀ {w x cs}, K w x cs → cs.length = sz
  below : ∀ {w w1 x cs}, Below w.heap.size w w1 → K w x cs → K w1 x cs

variable {α : Type}

/-- The slice at A reads as xs. -/
def Rd (d : Rep α) (w : World) (A : Option Addr) (xs : List α) : Prop :=
  xs.length ≤ 9223372036854775807 ∧ (xs ≠ [] → ∃ b o, A = some ⟨b, o, none⟩ ∧ b < w.heap.size ∧ ∀ (j : Nat) (h : j < xs.length), ∃ cs, d.K w xs[j] cs ∧ ∀ (i : Nat) u, cs[i]? = some u → w.cell? ⟨b, o + j * d.sz + i, none⟩ = some u)

theorem Rd.below {d : Rep α} {w w1 : World} {A : Option Addr} {xs : List α} (h : Rd d w A xs) (hb : Below w.heap.size w w1) : Rd d w1 A xs :=
  ⟨h.1, fun hn => by
    obtain ⟨b, o, e, hlt, hc⟩ := h.2 hn
    refine ⟨b, o, e, Nat.lt_of_lt_of_le hlt hb.size, fun j hj => ?_⟩
    obtain ⟨cs, hk, hcell⟩ := hc j hj
    exact ⟨cs, d.below hb hk, fun i u hu => (hb.cell (p := ⟨b, o + j * d.sz + i, none⟩) hlt).trans (hcell i u hu)⟩⟩

theorem Rd.at1 {d : Rep α} {w wr : World} {A : Option Addr} {xs : List α} (h : Rd d w A xs) (hs : d.sz = 1) (hb : Below w.heap.size w wr) (k : Nat) (hk : k < xs.length) :
    ∃ b o c0, A = some ⟨b, o, none⟩ ∧ b < w.heap.size ∧ d.K wr xs[k] [c0] ∧ wr.cell? ⟨b, o + k, none⟩ = some c0 := by
  obtain ⟨b, o, e, hlt, hc⟩ := h.2 (by rintro rfl; simp at hk)
  obtain ⟨cs, hK, hcell⟩ := hc k hk
  have hl := d.len hK
  rw [hs] at hl hcell
  match cs, hl with
  | [c0], _ =>
    refine ⟨b, o, c0, e, hlt, d.below hb hK, ?_⟩
    · have q := (hb.cell (p := ⟨b, o + k * 1 + 0, none⟩) hlt).trans (hcell 0 c0 rfl); simpa using q
theorem Rd.at2 {d : Rep α} {w wr : World} {A : Option Addr} {xs : List α} (h : Rd d w A xs) (hs : d.sz = 2) (hb : Below w.heap.size w wr) (k : Nat) (hk : k < xs.length) :
    ∃ b o c0 c1, A = some ⟨b, o, none⟩ ∧ b < w.heap.size ∧ d.K wr xs[k] [c0, c1] ∧ wr.cell? ⟨b, o + k * 2, none⟩ = some c0 ∧ wr.cell? ⟨b, o + k * 2 + 1, none⟩ = some c1 := by
  obtain ⟨b, o, e, hlt, hc⟩ := h.2 (by rintro rfl; simp at hk)
  obtain ⟨cs, hK, hcell⟩ := hc k hk
  have hl := d.len hK
  rw [hs] at hl hcell
  match cs, hl with
  | [c0, c1], _ =>
    refine ⟨b, o, c0, c1, e, hlt, d.below hb hK, ?_, ?_⟩
    · have q := (hb.cell (p := ⟨b, o + k * 2 + 0, none⟩) hlt).trans (hcell 0 c0 rfl); simpa using q
    · have q := (hb.cell (p := ⟨b, o + k * 2 + 1, none⟩) hlt).trans (hcell 1 c1 rfl); simpa using q
theorem Rd.at3 {d : Rep α} {w wr : World} {A : Option Addr} {xs : List α} (h : Rd d w A xs) (hs : d.sz = 3) (hb : Below w.heap.size w wr) (k : Nat) (hk : k < xs.length) :
    ∃ b o c0 c1 c2, A = some ⟨b, o, none⟩ ∧ b < w.heap.size ∧ d.K wr xs[k] [c0, c1, c2] ∧ wr.cell? ⟨b, o + k * 3, none⟩ = some c0 ∧ wr.cell? ⟨b, o + k * 3 + 1, none⟩ = some c1 ∧ wr.cell? ⟨b, o + k * 3 + 2, none⟩ = some c2 := by
  obtain ⟨b, o, e, hlt, hc⟩ := h.2 (by rintro rfl; simp at hk)
  obtain ⟨cs, hK, hcell⟩ := hc k hk
  have hl := d.len hK
  rw [hs] at hl hcell
  match cs, hl with
  | [c0, c1, c2], _ =>
    refine ⟨b, o, c0, c1, c2, e, hlt, d.below hb hK, ?_, ?_, ?_⟩
    · have q := (hb.cell (p := ⟨b, o + k * 3 + 0, none⟩) hlt).trans (hcell 0 c0 rfl); simpa using q
    · have q := (hb.cell (p := ⟨b, o + k * 3 + 1, none⟩) hlt).trans (hcell 1 c1 rfl); simpa using q
    · have q := (hb.cell (p := ⟨b, o + k * 3 + 2, none⟩) hlt).trans (hcell 2 c2 rfl); simpa using q
theorem Rd.at4 {d : Rep α} {w wr : World} {A : Option Addr} {xs : List α} (h : Rd d w A xs) (hs : d.sz = 4) (hb : Below w.heap.size w wr) (k : Nat) (hk : k < xs.length) :
    ∃ b o c0 c1 c2 c3, A = some ⟨b, o, none⟩ ∧ b < w.heap.size ∧ d.K wr xs[k] [c0, c1, c2, c3] ∧ wr.cell? ⟨b, o + k * 4, none⟩ = some c0 ∧ wr.cell? ⟨b, o + k * 4 + 1, none⟩ = some c1 ∧ wr.cell? ⟨b, o + k * 4 + 2, none⟩ = some c2 ∧ wr.cell? ⟨b, o + k * 4 + 3, none⟩ = some c3 := by
  obtain ⟨b, o, e, hlt, hc⟩ := h.2 (by rintro rfl; simp at hk)
  obtain ⟨cs, hK, hcell⟩ := hc k hk
  have hl := d.len hK
  rw [hs] at hl hcell
  match cs, hl with
  | [c0, c1, c2, c3], _ =>
    refine ⟨b, o, c0, c1, c2, c3, e, hlt, d.below hb hK, ?_, ?_, ?_, ?_⟩
    · have q := (hb.cell (p := ⟨b, o + k * 4 + 0, none⟩) hlt).trans (hcell 0 c0 rfl); simpa using q
    · have q := (hb.cell (p := ⟨b, o + k * 4 + 1, none⟩) hlt).trans (hcell 1 c1 rfl); simpa using q
    · have q := (hb.cell (p := ⟨b, o + k * 4 + 2, none⟩) hlt).trans (hcell 2 c2 rfl); simpa using q
    · have q := (hb.cell (p := ⟨b, o + k * 4 + 3, none⟩) hlt).trans (hcell 3 c3 rfl); simpa using q
theorem Rd.at5 {d : Rep α} {w wr : World} {A : Option Addr} {xs : List α} (h : Rd d w A xs) (hs : d.sz = 5) (hb : Below w.heap.size w wr) (k : Nat) (hk : k < xs.length) :
    ∃ b o c0 c1 c2 c3 c4, A = some ⟨b, o, none⟩ ∧ b < w.heap.size ∧ d.K wr xs[k] [c0, c1, c2, c3, c4] ∧ wr.cell? ⟨b, o + k * 5, none⟩ = some c0 ∧ wr.cell? ⟨b, o + k * 5 + 1, none⟩ = some c1 ∧ wr.cell? ⟨b, o + k * 5 + 2, none⟩ = some c2 ∧ wr.cell? ⟨b, o + k * 5 + 3, none⟩ = some c3 ∧ wr.cell? ⟨b, o + k * 5 + 4, none⟩ = some c4 := by
  obtain ⟨b, o, e, hlt, hc⟩ := h.2 (by rintro rfl; simp at hk)
  obtain ⟨cs, hK, hcell⟩ := hc k hk
  have hl := d.len hK
  rw [hs] at hl hcell
  match cs, hl with
  | [c0, c1, c2, c3, c4], _ =>
    refine ⟨b, o, c0, c1, c2, c3, c4, e, hlt, d.below hb hK, ?_, ?_, ?_, ?_, ?_⟩
    · have q := (hb.cell (p := ⟨b, o + k * 5 + 0, none⟩) hlt).trans (hcell 0 c0 rfl); simpa using q
    · have q := (hb.cell (p := ⟨b, o + k * 5 + 1, none⟩) hlt).trans (hcell 1 c1 rfl); simpa using q
    · have q := (hb.cell (p := ⟨b, o + k * 5 + 2, none⟩) hlt).trans (hcell 2 c2 rfl); simpa using q
    · have q := (hb.cell (p := ⟨b, o + k * 5 + 3, none⟩) hlt).trans (hcell 3 c3 rfl); simpa using q
    · have q := (hb.cell (p := ⟨b, o + k * 5 + 4, none⟩) hlt).trans (hcell 4 c4 rfl); simpa using q
theorem Rd.at11 {d : Rep α} {w wr : World} {A : Option Addr} {xs : List α} (h : Rd d w A xs) (hs : d.sz = 11) (hb : Below w.heap.size w wr) (k : Nat) (hk : k < xs.length) :
    ∃ b o c0 c1 c2 c3 c4 c5 c6 c7 c8 c9 c10, A = some ⟨b, o, none⟩ ∧ b < w.heap.size ∧ d.K wr xs[k] [c0, c1, c2, c3, c4, c5, c6, c7, c8, c9, c10] ∧ wr.cell? ⟨b, o + k * 11, none⟩ = some c0 ∧ wr.cell? ⟨b, o + k * 11 + 1, none⟩ = some c1 ∧ wr.cell? ⟨b, o + k * 11 + 2, none⟩ = some c2 ∧ wr.cell? ⟨b, o + k * 11 + 3, none⟩ = some c3 ∧ wr.cell? ⟨b, o + k * 11 + 4, none⟩ = some c4 ∧ wr.cell? ⟨b, o + k * 11 + 5, none⟩ = some c5 ∧ wr.cell? ⟨b, o + k * 11 + 6, none⟩ = some c6 ∧ wr.cell? ⟨b, o + k * 11 + 7, none⟩ = some c7 ∧ wr.cell? ⟨b, o + k * 11 + 8, none⟩ = some c8 ∧ wr.cell? ⟨b, o + k * 11 + 9, none⟩ = some c9 ∧ wr.cell? ⟨b, o + k * 11 + 10, none⟩ = some c10 := by
  obtain ⟨b, o, e, hlt, hc⟩ := h.2 (by rintro rfl; simp at hk)
  obtain ⟨cs, hK, hcell⟩ := hc k hk
  have hl := d.len hK
  rw [hs] at hl hcell
  match cs, hl with
  | [c0, c1, c2, c3, c4, c5, c6, c7, c8, c9, c10], _ =>
    refine ⟨b, o, c0, c1, c2, c3, c4, c5, c6, c7, c8, c9, c10, e, hlt, d.below hb hK, ?_, ?_, ?_, ?_, ?_, ?_, ?_, ?_, ?_, ?_, ?_⟩
    · have q := (hb.cell (p := ⟨b, o + k * 11 + 0, none⟩) hlt).trans (hcell 0 c0 rfl); simpa using q
    · have q := (hb.cell (p := ⟨b, o + k * 11 + 1, none⟩) hlt).trans (hcell 1 c1 rfl); simpa using q
    · have q := (hb.cell (p := ⟨b, o + k * 11 + 2, none⟩) hlt).trans (hcell 2 c2 rfl); simpa using q
    · have q := (hb.cell (p := ⟨b, o + k * 11 + 3, none⟩) hlt).trans (hcell 3 c3 rfl); simpa using q
    · have q := (hb.cell (p := ⟨b, o + k * 11 + 4, none⟩) hlt).trans (hcell 4 c4 rfl); simpa using q
    · have q := (hb.cell (p := ⟨b, o + k * 11 + 5, none⟩) hlt).trans (hcell 5 c5 rfl); simpa using q
    · have q := (hb.cell (p := ⟨b, o + k * 11 + 6, none⟩) hlt).trans (hcell 6 c6 rfl); simpa using q
    · have q := (hb.cell (p := ⟨b, o + k * 11 + 7, none⟩) hlt).trans (hcell 7 c7 rfl); simpa using q
    · have q := (hb.cell (p := ⟨b, o + k * 11 + 8, none⟩) hlt).trans (hcell 8 c8 rfl); simpa using q
    · have q := (hb.cell (p := ⟨b, o + k * 11 + 9, none⟩) hlt).trans (hcell 9 c9 rfl); simpa using q
    · have q := (hb.cell (p := ⟨b, o + k * 11 + 10, none⟩) hlt).trans (hcell 10 c10 rfl); simpa using q
theorem Rd.nil (d : Rep α) (w : World) (A : Option Addr) : Rd d w A [] := ⟨by simp, fun h => absurd rfl h⟩

/-- Values that lead to no memory. -/
def flat (k : Nat) (enc : α → List Value) (hk : ∀ x, (enc x).length = k) : Rep α where
  sz := k
  K := fun _ x cs => cs = enc x
  len := by rintro w x cs rfl; exact hk x
  below := fun _ h => h

/-- A slice as a value. -/
def IsSl (d : Rep α) (w : World) (v : Value) (xs : List α) : Prop := ∃ A c, v = .slice A xs.length c ∧ xs.length ≤ c ∧ Rd d w A xs

theorem IsSl.below {d : Rep α} {w w1 : World} {v : Value} {xs : List α} (h : IsSl d w v xs) (hb : Below w.heap.size w w1) : IsSl d w1 v xs := by
  obtain ⟨A, c, e, hl, hr⟩ := h
  exact ⟨A, c, e, hl, hr.below hb⟩

def slR (d : Rep α) : Rep (List α) where
  sz := 1
  K := fun w xs cs => ∃ v, cs = [v] ∧ IsSl d w v xs
  len := by rintro w x cs ⟨v, rfl, _⟩; rfl
  below := by rintro w w1 x cs hb ⟨v, rfl, h⟩; exact ⟨v, rfl, h.below hb⟩

/-- The world as it is seen behind calls that leave all that was. -/
theorem seen {W w1 : World} (hb : Below W.heap.size W w1) : (∀ b o, b < W.heap.size → w1.cell? ⟨b, o, none⟩ = W.cell? ⟨b, o, none⟩) ∧ (∀ b o, b < W.heap.size → w1.frozen? ⟨b, o, none⟩ = W.frozen? ⟨b, o, none⟩) ∧ W.heap.size ≤ w1.heap.size :=
  ⟨fun b o h => hb.cell (p := ⟨b, o, none⟩) h, fun b o h => hb.frozen (p := ⟨b, o, none⟩) h, hb.size⟩
theorem step {w W w1 : World} (h : Below w.heap.size w W) (hb : Below W.heap.size W w1) : Below w.heap.size w w1 := h.trans (hb.mono h.size)


/-- The same, from a first world on. -/
theorem seenS {W wc w1 : World} (H : Below W.heap.size W wc) (hb : Below wc.heap.size wc w1) : Below W.heap.size W w1 ∧ (∀ b o, b < W.heap.size → w1.cell? ⟨b, o, none⟩ = W.cell? ⟨b, o, none⟩) ∧ (∀ b o, b < W.heap.size → w1.frozen? ⟨b, o, none⟩ = W.frozen? ⟨b, o, none⟩) ∧ (∀ b, b < W.heap.size → b < w1.heap.size) ∧ (∀ b, b < W.heap.size → ¬ b = w1.heap.size) ∧ W.heap.size ≤ w1.heap.size :=
  have h := step H hb
  ⟨h, (seen h).1, (seen h).2.1, fun b hb => Nat.lt_of_lt_of_le hb h.size, fun b hb e => by have := h.size; omega, h.size⟩

/-- What is asked of a predicate that is handed to the library. -/
def Pred (P : Program) (g : Nat) (lb : Array Value) (d : Rep α) (one : List Value → Value) (p : α → Bool) (w : World) : Prop :=
  ∀ (W : World) (x : α) (cs : List Value), Below w.heap.size w W → d.K W x cs → Calls P g (#[one cs] ++ lb) W fun e w' => e = .returned (.bool (p x)) ∧ Below W.heap.size W w'

/-- A value of one cell. -/
def one (cs : List Value) : Value := cs.headD (.int .i64 0)
theorem hide {p : Prop} (h : p) : Hid p := h
def agg (cs : List Value) : Value := .agg cs.toArray

theorem cell_new (w : World) (cs : Array Value) (t : TypeId) (fr : Nat × Nat) (k : Nat) (u : Value) (h : cs[k]? = some u) : (w.alloc (.cells cs t fr)).cell? ⟨w.heap.size, k, none⟩ = some u := by
  have e : (w.alloc (.cells cs t fr)).heap[w.heap.size]? = some (.cells cs t fr) := by
    show (w.heap.push _)[w.heap.size]? = _
    rw [Array.getElem?_push_size]
  unfold World.cell?
  simp only [e]
  simpa using h
theorem run_mkf {P : Program} : ∀ (fn : Fn) (first cap : Array Value) (w : World), (Instr.makeFunc fn first cap).run P w = .ok (.func fn first cap) w := fun _ _ _ _ => rfl
end Go.Proofs.YtfcogogpioeggaaDoor
