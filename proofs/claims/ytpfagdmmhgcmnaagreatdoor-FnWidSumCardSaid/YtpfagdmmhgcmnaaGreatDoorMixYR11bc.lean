import Derived.Test.YtpfagdmmhgcmnaaGreatDoorMixYR11ak
import Derived.Test.YtpfagdmmhgcmnaaGreatDoorMixYR11ah
import Derived.OpenShut
import Derived.ChangeSlices
set_option linter.unusedVariables false
set_option linter.unusedSimpArgs false
namespace Go.Proofs.YtpfagdmmhgcmnaaGreatDoor
open Go.RowKit Go.WideShapes Go.ChangeShapes
/- What a statement's reading of its bytes gives. -/
theorem uint8_cells : Tryz.prog.cellsOf 5 = 1 := by kernel_rfl
set_option maxRecDepth 100000 in
theorem open_code {H : Type} {enc : TypeId × Value → H} {W : World} {base : Nat} {v : Value} {d : DataW H} {p : List MemPlace} (hval : Value.okWide Tryz.prog W .any base 22 v) (h : DataW.Trod enc Tryz.prog W 0 (fun _ => true) true 22 v d p) :
    ∃ A n c, v = .slice A n c ∧ BytesAt W A n c := by
  obtain ⟨A, n, c, rfl⟩ := okWide_slice Tryz.underlying22 hval
  refine ⟨A, n, c, rfl, ?_⟩
  obtain ⟨fuel, hf⟩ := h
  rcases open_ints Tryz.underlying22 Tryz.underlying5 uint8_cells hf with ⟨hcs, _⟩ | ⟨a, len', cap', zs, hcs, _, hl, hm, hz, _, hcell, hwz⟩
  · simp [Value.cells] at hcs
    obtain ⟨rfl, rfl, rfl⟩ := hcs
    exact ⟨by decide, by decide, by decide, fun h => absurd h (by decide)⟩
  · simp [Value.cells] at hcs
    obtain ⟨rfl, rfl, rfl⟩ := hcs
    simp only [if_true] at hz
    have hmx : maxLen ≤ 9223372036854775807 := by decide
    refine ⟨by omega, hl, by omega, fun hn => ?_⟩
    have h0 := hcell 0 (by omega)
    obtain ⟨b, o, s⟩ := a
    have hs : s = none := by
      have h6 := at_plain h0
      simpa [Addr.add] using h6
    subst hs
    refine ⟨b, o, rfl, ?_, fun j hj => ?_⟩
    · have := World.block_lt_of_cell? W _ h0
      simpa [Addr.add] using this
    · have hj' := hcell j (by omega)
      rw [add_plain] at hj'
      have hb := range_u8 hwz j
      rw [List.getD_eq_getElem?_getD] at hj'
      obtain ⟨k, hk⟩ := Int.eq_ofNat_of_zero_le hb.1
      rw [hk] at hj' hb
      exact ⟨k, by omega, hj'⟩
end Go.Proofs.YtpfagdmmhgcmnaaGreatDoor
