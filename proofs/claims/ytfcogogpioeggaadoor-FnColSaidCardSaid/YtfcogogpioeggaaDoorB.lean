import Derived.Test.YtfcogogpioeggaaDoorI
import Derived.Test.YtfcogogpioeggaaDoorP
namespace Go.Proofs.YtfcogogpioeggaaDoor
open Go.RowKit

theorem brefl (w : World) : Below w.heap.size w w := Below.refl _ _
/-- One block, behind a call. -/
theorem seenBk {W w1 : World} (B : Nat) (hB : B < W.heap.size) (hb : Below W.heap.size W w1) : (∀ o, w1.cell? ⟨B, o, none⟩ = W.cell? ⟨B, o, none⟩) ∧ (∀ o, w1.frozen? ⟨B, o, none⟩ = W.frozen? ⟨B, o, none⟩) ∧ B < w1.heap.size :=
  ⟨fun o => hb.cell (p := ⟨B, o, none⟩) hB, fun o => hb.frozen (p := ⟨B, o, none⟩) hB, Nat.lt_of_lt_of_le hB hb.size⟩
theorem balloc {w W : World} (h : Below w.heap.size w W) (o : Obj) : Below w.heap.size w (W.alloc o) := h.alloc h.size o
theorem bdrew {w W : World} (h : Below w.heap.size w W) : Below w.heap.size w W.drew := h.drew
def brdE (b : Brd) : List Value := [.int .i64 b.s, .int .i64 b.w]
def colE (x : TCol) : List Value := [.int .i64 x.k, .int .i64 x.n]
def cellE (c : TCell) : List Value := [.string c.t, .int .i64 c.c, .int .i64 c.r, .int .i64 c.top.s, .int .i64 c.top.w, .int .i64 c.right.s, .int .i64 c.right.w, .int .i64 c.bot.s, .int .i64 c.bot.w, .int .i64 c.left.s, .int .i64 c.left.w]
def colR : Rep TCol := flat 2 colE (fun _ => rfl)
/-- Texts are no longer than what a statement speaks of. -/
def cellR : Rep TCell where
  sz := 11
  K := fun _ x cs => cs = cellE x ∧ x.t.size ≤ 1048576
  len := by rintro w x cs ⟨rfl, _⟩; rfl
  below := fun _ h => h
/-- A variable of the library's own holds some number. -/
def Base (w : World) : Prop := ∃ m, w.cell? ⟨0, 0, none⟩ = some (.int .i64 m)
theorem Base.below {w w1 : World} (h : Base w) (hb : Below w.heap.size w w1) : Base w1 := by
  obtain ⟨m, h⟩ := h
  exact ⟨m, (hb.cell (World.block_lt_of_cell? w _ h)).trans h⟩
def rowR : Rep TRow where
  sz := 2
  K := fun w x cs => ∃ v, cs = [v, .bool x.wh] ∧ IsSl cellR w v x.cs
  len := by rintro w x cs ⟨v, rfl, _⟩; rfl
  below := by rintro w w1 x cs hb ⟨v, rfl, h⟩; exact ⟨v, rfl, h.below hb⟩

theorem bset {w W : World} (h : Below w.heap.size w W) {p : Addr} (hp : w.heap.size ≤ p.block) (u : Value) : Below w.heap.size w (W.setCell p u) := h.setCell hp u
end Go.Proofs.YtfcogogpioeggaaDoor
