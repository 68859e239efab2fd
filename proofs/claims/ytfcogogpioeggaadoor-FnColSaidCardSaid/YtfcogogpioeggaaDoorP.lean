import Derived.Test.YtfcogogpioeggaaDoorD
import Derived.Lib.SplitLaws
import Derived.Lib.SlTrimSet
import Derived.Lib.IndexBytes
/- Plain facts on texts: how a text is cut at its blanks, and what is trimmed. -/
namespace Go.Proofs.YtfcogogpioeggaaDoor
open Go

theorem cut_none : ∀ (l w : List UInt8), (32 : UInt8) ∉ l → cutL w l = [w ++ l]
  | [], w, _ => by simp [cutL]
  | c :: cs, w, h => by
    have h1 : c ≠ 32 := fun e => h (by simp [e])
    have h2 : (32 : UInt8) ∉ cs := fun e => h (by simp [e])
    rw [cutL, if_neg h1, cut_none cs _ h2]
    simp
theorem cut_hit : ∀ (a w b : List UInt8), (32 : UInt8) ∉ a → cutL w (a ++ 32 :: b) = (w ++ a) :: cutL [] b
  | [], w, b, _ => by simp [cutL]
  | c :: cs, w, b, h => by
    have h1 : c ≠ 32 := fun e => h (by simp [e])
    have h2 : (32 : UInt8) ∉ cs := fun e => h (by simp [e])
    rw [List.cons_append, cutL, if_neg h1, cut_hit cs _ b h2]
    simp

theorem occ_one (l : List UInt8) (i : Nat) (c : UInt8) : Lib.occAt l [c] i = true ↔ l[i]? = some c := by
  unfold Lib.occAt
  rw [← List.head?_drop]
  cases l.drop i with
  | nil => simp [List.isPrefixOf]
  | cons x xs => simp [List.isPrefixOf]; exact ⟨fun h => h.symm, fun h => h.symm⟩

theorem splitK_cut : ∀ (k : Nat) (l : List UInt8), l.count 32 = k → Lib.splitK [32] 0 k l = cutL [] l
  | 0, l, h => by
    have hn : (32 : UInt8) ∉ l := List.count_eq_zero.1 h
    rw [cut_none l [] hn]; rfl
  | k + 1, l, h => by
    have hm : (32 : UInt8) ∈ l := List.count_pos_iff.1 (by omega)
    obtain ⟨a, b, rfl, ha⟩ := List.eq_append_cons_of_mem hm
    have hi : Lib.index (a ++ 32 :: b) [32] = (a.length : Int) := by
      refine Lib.index_first (by simp) ((occ_one _ _ _).2 (by simp)) (fun j hj => ?_)
      rw [Bool.eq_false_iff]
      intro ho
      rw [occ_one, List.getElem?_append_left hj] at ho
      exact ha (List.mem_of_getElem? ho)
    have hcb : b.count 32 = k := by
      rw [List.count_append, List.count_cons_self, List.count_eq_zero.2 ha] at h; omega
    rw [Lib.splitK, hi, if_neg (by simp), cut_hit a [] b ha]
    simp only [Int.toNat_natCast, Nat.add_zero, List.take_left, List.length_singleton]
    rw [show (a ++ 32 :: b).drop (a.length + 1) = b by rw [← List.drop_drop, List.drop_left]; rfl, splitK_cut k b hcb]
    simp

theorem split_cut (s : ByteArray) : (Lib.splitB ⟨#[32]⟩ 0 (Lib.countB s ⟨#[32]⟩) s).map (·.data.toList) = cutL [] s.data.toList := by
  rw [Lib.splitB_data]
  have : Lib.countB s ⟨#[32]⟩ = s.data.toList.count 32 := Lib.count_one 32 s.data.toList
  rw [this]
  exact splitK_cut _ _ rfl

theorem cut_len : ∀ (l w x : List UInt8), x ∈ cutL w l → x.length ≤ w.length + l.length
  | [], w, x, h => by simp [cutL] at h; subst h; simp
  | c :: cs, w, x, h => by
    rw [cutL] at h
    split at h
    · rcases List.mem_cons.1 h with rfl | h
      · omega
      · have := cut_len cs [] x h
        simp only [List.length_nil, List.length_cons] at this ⊢; omega
    · have := cut_len cs _ x h
      simp only [List.length_append, List.length_cons, List.length_nil] at this ⊢; omega

theorem dropWhile_nil {α : Type} (p : α → Bool) : ∀ l : List α, l.dropWhile p = [] ↔ l.all p = true
  | [] => by simp
  | x :: xs => by
    rw [List.dropWhile_cons]
    cases h : p x <;> simp [h, dropWhile_nil p xs]
theorem dropWhile_all {α : Type} (p : α → Bool) : ∀ l : List α, (l.dropWhile p).all p = true → l.dropWhile p = []
  | [], _ => rfl
  | x :: xs, h => by
    rw [List.dropWhile_cons] at h ⊢
    cases hx : p x
    · simp [hx] at h
    · simp [hx] at h ⊢
      exact dropWhile_all p xs (by simpa using h)
theorem trim_nil (w cs : List UInt8) : Lib.trimS w cs = [] ↔ w.all (cs.contains ·) = true := by
  unfold Lib.trimS Lib.trimLeftS Lib.trimRightS
  rw [dropWhile_nil, List.all_reverse]
  constructor
  · intro h
    have := (dropWhile_nil _ _).1 (dropWhile_all _ _ h)
    simpa using this
  · intro h
    have : w.reverse.dropWhile (cs.contains ·) = [] := (dropWhile_nil _ _).2 (by simpa using h)
    rw [this]; rfl

def lowers : List UInt8 := [97, 98, 99, 100, 101, 102, 103, 104, 105, 106, 107, 108, 109, 110, 111, 112, 113, 114, 115, 116, 117, 118, 119, 120, 121, 122]
theorem lowers_all : ∀ n, n < 256 → lowers.contains (UInt8.ofNat n) = lowB (UInt8.ofNat n) := by decide +kernel
theorem lowers_eq (c : UInt8) : lowers.contains c = lowB c := by
  have := lowers_all c.toNat c.toNat_lt
  rwa [UInt8.ofNat_toNat] at this
theorem trim_low (w : List UInt8) : Lib.trimS w lowers = [] ↔ w.all lowB = true := by
  rw [trim_nil]
  have : (fun c => lowers.contains c) = lowB := funext lowers_eq
  rw [this]

/-- The same, letter by letter: e: nothing stands ahead in the word. -/
def okF : Bool → List UInt8 → Bool
  | e, [] => !e
  | e, c :: cs => if c = 32 then !e && okF true cs else lowB c && okF false cs
theorem cut_bad : ∀ (l w : List UInt8), w.all lowB = false → (cutL w l).all wordOk = false
  | [], w, h => by simp [cutL, wordOk, h]
  | c :: cs, w, h => by
    rw [cutL]
    split
    · simp [wordOk, h]
    · exact cut_bad cs _ (by simp [List.all_append, h])
theorem cut_okF : ∀ (l w : List UInt8), w.all lowB = true → (cutL w l).all wordOk = okF w.isEmpty l
  | [], w, h => by simp [cutL, wordOk, okF, h]
  | c :: cs, w, h => by
    rw [cutL, okF]
    split
    · have e : (cutL [] cs).all wordOk = okF true cs := cut_okF cs [] rfl
      rw [List.all_cons, e, wordOk, h, Bool.and_true]
    · cases hc : lowB c with
      | false => rw [cut_bad cs _ (by simp [List.all_append, hc])]; rfl
      | true =>
        rw [cut_okF cs (w ++ [c]) (by simp [List.all_append, h, hc]), show (w ++ [c]).isEmpty = false by cases w <;> rfl, Bool.true_and]
theorem txtOk_okF (l : List UInt8) (hl : l.length ≤ 30) (hn : l ≠ []) : txtOk l = okF true l := by
  have h := cut_okF l [] rfl
  have e : l.isEmpty = false := by cases l <;> simp_all
  unfold txtOk
  rw [h, e]
  simp [hl]

/-- How far a text is read. -/
def okAt (l : List UInt8) (k : Nat) : Bool := okF (decide (k = 0) || (l[k - 1]? == some 32)) (l.drop k)
theorem okAt_end (l : List UInt8) (h : 0 < l.length) (h2 : l[l.length - 1]? ≠ some 32) : okAt l l.length = true := by
  unfold okAt
  rw [List.drop_length]
  have e1 : decide (l.length = 0) = false := decide_eq_false (by omega)
  have e2 : (l[l.length - 1]? == some 32) = false := by simpa using h2
  rw [e1, e2]; rfl
theorem okAt_step (l : List UInt8) (k : Nat) (h : k < l.length) : okAt l k =
    if l[k] = 32 then (!(decide (k = 0) || (l[k - 1]? == some 32))) && okF true (l.drop (k + 1)) else lowB l[k] && okF false (l.drop (k + 1)) := by
  unfold okAt
  rw [List.drop_eq_getElem_cons h, okF]
theorem okAt_blank (l : List UInt8) (k : Nat) (h : k < l.length) (h32 : l[k] = 32) : okF true (l.drop (k + 1)) = okAt l (k + 1) := by
  unfold okAt
  have : (l[k + 1 - 1]? == some 32) = true := by simp [h, h32]
  rw [this, Bool.or_true]
theorem okAt_letter (l : List UInt8) (k : Nat) (h : k < l.length) (h32 : l[k] ≠ 32) : okF false (l.drop (k + 1)) = okAt l (k + 1) := by
  unfold okAt
  have : (l[k + 1 - 1]? == some 32) = false := by simp [h, h32]
  rw [this]; rfl
theorem okAt_bad (l : List UInt8) (k : Nat) (h : k < l.length) (h32 : l[k] = 32) (hb : k = 0 ∨ k = l.length - 1 ∨ l[k - 1]? = some 32) : okAt l k = false := by
  rw [okAt_step l k h, if_pos h32]
  rcases hb with hb | hb | hb
  · simp [hb]
  · have : l.drop (k + 1) = [] := List.drop_eq_nil_of_le (by omega)
    rw [this]; simp [okF]
  · simp [hb]
theorem okAt_good (l : List UInt8) (k : Nat) (h : k < l.length) (h32 : l[k] = 32) (h0 : k ≠ 0) (hb : l[k - 1]? ≠ some 32) : okAt l (k + 1) = okAt l k := by
  rw [okAt_step l k h, if_pos h32, okAt_blank l k h h32]
  simp [h0, hb]
theorem okAt_low (l : List UInt8) (k : Nat) (h : k < l.length) (h32 : l[k] ≠ 32) : okAt l k = (lowB l[k] && okAt l (k + 1)) := by
  rw [okAt_step l k h, if_neg h32, okAt_letter l k h h32]
end Go.Proofs.YtfcogogpioeggaaDoor
