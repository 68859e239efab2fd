import Derived.Test.YtfcogogpioeggaaDoorKb
namespace Go.Proofs.YtfcogogpioeggaaDoor
open Go.RowKit
/- Rows of one's own that may be empty, whole tables of one's own, and what marking makes of them: plain laws. -/
theorem mloop_size : ∀ (f k : Nat) (out : ByteArray), (mloop f k out).size ≤ out.size + f
  | 0, _, out => by simp [mloop]
  | f + 1, k, out => by
    unfold mloop
    split
    · have := mloop_size f (k / 10) ((⟨#[dig k]⟩ : ByteArray) ++ out)
      rw [ByteArray.size_append] at this
      have h1 : ByteArray.size ⟨#[dig k]⟩ = 1 := rfl
      omega
    · omega
theorem mtext_size (k : Nat) : (mtext k).size ≤ 1048576 := by
  unfold mtext
  split
  · decide
  · rw [ByteArray.size_append]
    have := mloop_size 20 k ⟨#[]⟩
    have h1 : ByteArray.size ⟨#[(109 : UInt8)]⟩ = 1 := rfl
    have h2 : ByteArray.size ⟨#[]⟩ = 0 := rfl
    omega
def markC (n k : Nat) : List TCol := (List.range n).map fun i => ⟨((k + 2 * i : Nat) : Int), ((k + 2 * i + 1 : Nat) : Int)⟩
def markX (k : Nat) : TCell := ⟨mtext k, ((k + 1 : Nat) : Int), ((k + 2 : Nat) : Int), ⟨((k + 3 : Nat) : Int), ((k + 4 : Nat) : Int)⟩, ⟨((k + 5 : Nat) : Int), ((k + 6 : Nat) : Int)⟩, ⟨((k + 7 : Nat) : Int), ((k + 8 : Nat) : Int)⟩, ⟨((k + 9 : Nat) : Int), ((k + 10 : Nat) : Int)⟩⟩
def markL (n k : Nat) : List TCell := (List.range n).map fun i => markX (k + 11 * i)
def markR : List TRow → Nat → List TRow
  | [], _ => []
  | r :: rs, k => ⟨markL r.cs.length k, (k + 11 * r.cs.length) % 3 == 0⟩ :: markR rs (k + 11 * r.cs.length + 1)
def endR : List TRow → Nat → Nat
  | [], k => k
  | r :: rs, k => endR rs (k + 11 * r.cs.length + 1)
theorem markC_length (n k : Nat) : (markC n k).length = n := by simp [markC]
theorem markL_length (n k : Nat) : (markL n k).length = n := by simp [markL]
theorem markR_length : ∀ (rs : List TRow) (k : Nat), (markR rs k).length = rs.length
  | [], _ => rfl
  | r :: rs, k => by rw [markR, List.length_cons, markR_length rs, List.length_cons]
theorem markC_take {n k kk : Nat} (h : kk < n) : (markC n k).take (kk + 1) = (markC n k).take kk ++ [⟨((k + 2 * kk : Nat) : Int), ((k + 2 * kk + 1 : Nat) : Int)⟩] := by
  rw [List.take_succ_eq_append_getElem (by rw [markC_length]; exact h)]
  simp [markC]
theorem markL_take {n k kk : Nat} (h : kk < n) : (markL n k).take (kk + 1) = (markL n k).take kk ++ [markX (k + 11 * kk)] := by
  rw [List.take_succ_eq_append_getElem (by rw [markL_length]; exact h)]
  simp [markL]

theorem grow_refl (w : World) (r : Option Nat) : w.grownBy w r := World.grownBy.refl w r
theorem grow_trans {w w1 w2 : World} {r : Option Nat} (h : w.grownBy w1 r) (h' : w1.grownBy w2 r) : w.grownBy w2 r :=
  ⟨h'.os.trans h.os, h'.tape.trans h.tape, h'.output.trans h.output, Nat.le_trans h.size h'.size, fun k hk hne => (h'.block k (Nat.lt_of_lt_of_le hk h.size) hne).trans (h.block k hk hne)⟩
theorem grow_below {w w1 : World} {r : Option Nat} (h : Below w.heap.size w w1) : w.grownBy w1 r := ⟨h.os, h.tape, h.output, h.size, fun k hk _ => h.block k hk⟩
theorem grow_set (w : World) {g : Nat} {a : Addr} (ha : a.block = g) (u : Value) : w.grownBy (w.setCell a u) (some g) :=
  ⟨rfl, rfl, rfl, by simp, fun k _ hne => heap_set w a u k (fun e => hne (by rw [e, ha]))⟩

/-- A row of one's own among the blocks from lo to hi, or nothing at all. -/
theorem own_form0 {w : World} {base E k n : Nat} {v : Value} {xs : List Value} (h : w.ownsRow base E k v n xs) : ∃ A c, v = .slice A n c := by
  rcases h.2 with ⟨rfl, rfl⟩ | ⟨g, cap, cur, rfl, _⟩
  · exact ⟨none, 0, rfl⟩
  · exact ⟨_, _, rfl⟩
def Own (w : World) (lo hi : Nat) (E : TypeId) (k : Nat) (v : Value) (n : Nat) (xs : List Value) : Prop :=
  (n = 0 ∧ xs = [] ∧ ∃ A c, v = .slice A 0 c) ∨ (0 < n ∧ ∃ g c, v = .slice (some ⟨g, 0, none⟩) n c ∧ lo ≤ g ∧ g < hi ∧ w.ownsRow lo E k v n xs)
theorem Own.form {w : World} {lo hi : Nat} {E : TypeId} {k : Nat} {v : Value} {n : Nat} {xs : List Value} (h : Own w lo hi E k v n xs) : ∃ A c, v = .slice A n c := by
  rcases h with ⟨rfl, _, A, c, rfl⟩ | ⟨_, g, c, rfl, _⟩
  · exact ⟨A, c, rfl⟩
  · exact ⟨_, c, rfl⟩
theorem Own.keep {w w' : World} {lo hi : Nat} {E : TypeId} {k : Nat} {v : Value} {n : Nat} {xs : List Value} (h : Own w lo hi E k v n xs) (hk : ∀ b, lo ≤ b → b < hi → w'.heap[b]? = w.heap[b]?) : Own w' lo hi E k v n xs := by
  rcases h with h | ⟨hn, g, c, rfl, h1, h2, h3⟩
  · exact .inl h
  · exact .inr ⟨hn, g, c, rfl, h1, h2, own_keep h3 fun b e => by
      have : g = b := by simpa [Value.ownBlock] using e
      subst this; exact hk g h1 h2⟩
theorem Own.of {w : World} {lo hi : Nat} {E : TypeId} {k : Nat} {v : Value} {n : Nat} {xs : List Value} (h : w.ownsRow lo E k v n xs) (hh : w.heap.size ≤ hi) : Own w lo hi E k v n xs := by
  rcases Nat.eq_zero_or_pos n with rfl | hn
  · left
    refine ⟨rfl, List.eq_nil_of_length_eq_zero (by rw [h.1]; simp), ?_⟩
    exact own_form0 h
  · right
    rcases h.2 with ⟨_, h0⟩ | ⟨g, cap, cur, rfl, r⟩
    · omega
    · have := own_lt h (b := g) rfl
      exact ⟨hn, g, cap, rfl, this.1, by omega, h⟩
theorem Own.mono {w : World} {lo hi lo' hi' : Nat} {E : TypeId} {k : Nat} {v : Value} {n : Nat} {xs : List Value} (h : Own w lo hi E k v n xs) (hl : lo' ≤ lo) (hh : hi ≤ hi') : Own w lo' hi' E k v n xs := by
  rcases h with h | ⟨hn, g, c, rfl, h1, h2, h3⟩
  · exact .inl h
  · exact .inr ⟨hn, g, c, rfl, by omega, by omega, own_base h3 hl⟩
end Go.Proofs.YtfcogogpioeggaaDoor
