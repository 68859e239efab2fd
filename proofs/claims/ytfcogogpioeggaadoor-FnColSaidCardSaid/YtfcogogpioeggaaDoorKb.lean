import Derived.Test.YtfcogogpioeggaaDoorN
import Derived.Laws.IdiomStrings
namespace Go.Proofs.YtfcogogpioeggaaDoor
open Go.RowKit
/- The statements' own helpers: the text that marks a number. -/
def dig (k : Nat) : UInt8 := UInt8.ofNat (48 + k % 10)
def mloop : Nat → Nat → ByteArray → ByteArray
  | 0, _, out => out
  | f + 1, k, out => if 0 < k then mloop f (k / 10) (⟨#[dig k]⟩ ++ out) else out
def mtext (k : Nat) : ByteArray := if k = 0 then ⟨#[109, 48]⟩ else ⟨#[109]⟩ ++ mloop 20 k ⟨#[]⟩
theorem digit_text (w : World) (q : Nat) : (convert 38 9 (.slice (some ⟨w.heap.size, 0, none⟩) 1 1)).run Tryd.prog (w.alloc (.cells #[.int .u8 (48 + (q : Int) % 10)] 5)) = .ok (.string ⟨#[dig q]⟩) (w.alloc (.cells #[.int .u8 (48 + (q : Int) % 10)] 5)) := by
  refine run_convert_bytes_back (P := Tryd.prog) _ 38 9 5 ⟨w.heap.size, 0, none⟩ 1 [dig q] (by kernel_rfl) (by kernel_rfl) (by kernel_rfl) ?_
  intro j hj
  have : j = 0 := by simpa using hj
  subst this
  rw [Addr.add_lit]
  refine cell_new _ _ _ _ _ _ ?_
  have h : (dig q).toNat = 48 + q % 10 := by unfold dig; rw [UInt8.toNat_ofNat']; omega
  simp only [List.getElem_cons_zero, h]
  simp
set_option maxRecDepth 100000 in
set_option maxHeartbeats 1000000 in
theorem markText (k : Nat) (w : World) (hk : k < 100000000000000000) :
    Calls Tryd.prog 124 #[.int .i64 k] w fun e w' => e = .returned (.string (mtext k)) ∧ Below w.heap.size w w' := by
  by_cases h0 : k = 0
  · have h0z : (k : Int) ≤ 0 := by omega
    have HM : Hid (mtext k = ⟨#[109, 48]⟩) := by show mtext k = _; unfold mtext; rw [if_pos h0]
    clear h0
    go_enter Tryd.func124, Tryd.ntmps124
    go_wp2_with fail
    go_ret
    exact ⟨by rw [HM.out]; rfl, brefl _⟩
  · have h0z : ¬ (k : Int) ≤ 0 := by omega
    have HM : Hid (mtext k = ⟨#[109]⟩ ++ mloop 20 k ⟨#[]⟩) := by show mtext k = _; unfold mtext; rw [if_neg h0]
    clear h0
    go_enter Tryd.func124, Tryd.ntmps124
    go_wp2_with fail
    go_loopg [0, 3] 20 (fun gg s0 s3 wr => ∃ (q : Nat) (out : ByteArray), s0 = .int .i64 q ∧ s3 = .string out ∧ q < 10 ^ gg ∧ gg ≤ 20 ∧ q < 100000000000000000 ∧ Aside (Below w.heap.size w wr) ∧ Aside (mloop gg q out = mloop 20 k ⟨#[]⟩) ∧ out.size + gg ≤ 20)
    case atStart => exact ⟨k, ⟨#[]⟩, rfl, rfl, by omega, by omega, hk, brefl _, (show mloop 20 k ⟨#[]⟩ = _ from rfl), by decide⟩
    case round =>
      obtain ⟨q, out, rfl, rfl, hq, hgk, hq7, BW, HL, hs⟩ := hrel
      have HQ := hide hq
      clear hq
      by_cases h1 : 0 < q
      · have h1z : 0 < (q : Int) := by omega
        have hcv := digit_text wr q
        have hwr := IntWalk.i64_in (q / 10) ⟨by omega, by omega⟩
        cases gk with
        | zero => exact absurd HQ.out (by omega)
        | succ f =>
          have HN : Hid (mloop f (q / 10) (⟨#[dig q]⟩ ++ out) = mloop 20 k ⟨#[]⟩) := by
            have h2 := HL.out
            rw [mloop, if_pos h1] at h2
            exact h2
          clear HL
          go_wp2_with fail
          go_roundg f
          case measure => omega
          case rel =>
            refine ⟨q / 10, (⟨#[dig q]⟩ : ByteArray) ++ out, by first | rfl | (simp [hwr]; done) | go_num, rfl, ?_, by omega, by omega, balloc BW.out _, HN.out, ?_⟩
            · have := HQ.out
              rw [Nat.pow_succ] at this
              exact Nat.div_lt_of_lt_mul (by omega)
            · rw [ByteArray.size_append]
              have : ByteArray.size ⟨#[dig q]⟩ = 1 := rfl
              omega
      · have h1z : ¬ 0 < (q : Int) := by omega
        have HE : Hid (mloop 20 k ⟨#[]⟩ = out) := by
          have h2 := HL.out
          cases gk with
          | zero => exact h2.symm
          | succ f => rw [mloop, if_neg h1] at h2; exact h2.symm
        clear HL
        go_wp2_with fail
        go_ret
        exact ⟨by rw [HM.out, HE.out]; rfl, BW.out⟩
end Go.Proofs.YtfcogogpioeggaaDoor
