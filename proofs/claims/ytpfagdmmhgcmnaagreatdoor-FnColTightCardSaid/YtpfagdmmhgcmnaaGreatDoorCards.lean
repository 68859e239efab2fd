/-
  DERIVED. GIVEN WITH THE SEED: THE CARDS: each row of YtpfagdmmhgcmnaaGreatDoorRows.lean that lists a variable, with what it lists TIED to the program's text (the seventh form; the later family's looks); each row that meets fmt, with fmt's text TOLD by the authors' own Lean function (tested against real Go, not proved from fmt's source: count such statements apart). THE CARD IS WHAT COUNTS. Prove the row's statement (the work); the ties are given (YtpfagdmmhgcmnaaGreatDoorTie.lean); close each card by the builder's one call (the guide's Derived/Test/ToyasCard.lean, 'card_holds'). Laid BY PROGRAM, IN A SANDBOX (cutbox-door.mjs). By AI agents, Wed Nov 11 2026. No macro, syntax, notation, axiom, sorry.
-/
import Derived.Test.YtpfagdmmhgcmnaaGreatDoorRows
import GoSem.ClaimSeven
namespace Go.Proofs.YtpfagdmmhgcmnaaGreatDoor
namespace Rows

/-- THE TIED CARD OF 'laws.FnColLeast'. -/
def fnColLeastCard : Claim7 := { stood := { row := fnColLeastRow, standIns := [], harness := (true, "6854758fee993bf000f32c9b601feb7888fbd914c0cfefaa8693ac5dc3da88c2"), looks := false }, kinds := [], alts := [], laidByText := true, laidKinds := [.data, .pinned], laidTests := true, laidLooks := .later }
def FnColLeastCardSaid : Prop := Claim7.holds Tryz.pinned (.plain (OpenSpec.ofChange fnColLeastSpec)) fnColLeastCard

/-- THE TIED CARD OF 'laws.FnColTight'. -/
def fnColTightCard : Claim7 := { stood := { row := fnColTightRow, standIns := [], harness := (true, "6854758fee993bf000f32c9b601feb7888fbd914c0cfefaa8693ac5dc3da88c2"), looks := false }, kinds := [], alts := [], laidByText := true, laidKinds := [.data, .pinned], laidTests := true, laidLooks := .later }
def FnColTightCardSaid : Prop := Claim7.holds Tryz.pinned (.plain (OpenSpec.ofChange fnColTightSpec)) fnColTightCard

/-- THE TIED CARD OF 'laws.FnColMore'. -/
def fnColMoreCard : Claim7 := { stood := { row := fnColMoreRow, standIns := [], harness := (true, "6854758fee993bf000f32c9b601feb7888fbd914c0cfefaa8693ac5dc3da88c2"), looks := false }, kinds := [], alts := [], laidByText := true, laidKinds := [.data, .pinned], laidTests := true, laidLooks := .later }
def FnColMoreCardSaid : Prop := Claim7.holds Tryz.pinned (.plain (OpenSpec.ofChange fnColMoreSpec)) fnColMoreCard

/-- THE TIED CARD OF 'laws.FnColFloor'. -/
def fnColFloorCard : Claim7 := { stood := { row := fnColFloorRow, standIns := [], harness := (true, "6854758fee993bf000f32c9b601feb7888fbd914c0cfefaa8693ac5dc3da88c2"), looks := false }, kinds := [], alts := [], laidByText := true, laidKinds := [.data, .pinned], laidTests := true, laidLooks := .later }
def FnColFloorCardSaid : Prop := Claim7.holds Tryz.pinned (.plain (OpenSpec.ofChange fnColFloorSpec)) fnColFloorCard

/-- THE TIED CARD OF 'laws.FnWidAlone'. -/
def fnWidAloneCard : Claim7 := { stood := { row := fnWidAloneRow, standIns := [], harness := (true, "6854758fee993bf000f32c9b601feb7888fbd914c0cfefaa8693ac5dc3da88c2"), looks := false }, kinds := [], alts := [], laidByText := true, laidKinds := [.data, .pinned], laidTests := true, laidLooks := .later }
def FnWidAloneCardSaid : Prop := Claim7.holds Tryz.pinned (.plain (OpenSpec.ofChange fnWidAloneSpec)) fnWidAloneCard

/-- THE TIED CARD OF 'laws.FnWidMore'. -/
def fnWidMoreCard : Claim7 := { stood := { row := fnWidMoreRow, standIns := [], harness := (true, "6854758fee993bf000f32c9b601feb7888fbd914c0cfefaa8693ac5dc3da88c2"), looks := false }, kinds := [], alts := [], laidByText := true, laidKinds := [.data, .pinned], laidTests := true, laidLooks := .later }
def FnWidMoreCardSaid : Prop := Claim7.holds Tryz.pinned (.plain (OpenSpec.ofChange fnWidMoreSpec)) fnWidMoreCard

/-- THE TIED CARD OF 'laws.FnWidParts'. -/
def fnWidPartsCard : Claim7 := { stood := { row := fnWidPartsRow, standIns := [], harness := (true, "6854758fee993bf000f32c9b601feb7888fbd914c0cfefaa8693ac5dc3da88c2"), looks := false }, kinds := [], alts := [], laidByText := true, laidKinds := [.data, .pinned], laidTests := true, laidLooks := .later }
def FnWidPartsCardSaid : Prop := Claim7.holds Tryz.pinned (.plain (OpenSpec.ofChange fnWidPartsSpec)) fnWidPartsCard

/-- THE TIED CARD OF 'laws.FnWidLeast'. -/
def fnWidLeastCard : Claim7 := { stood := { row := fnWidLeastRow, standIns := [], harness := (true, "6854758fee993bf000f32c9b601feb7888fbd914c0cfefaa8693ac5dc3da88c2"), looks := false }, kinds := [], alts := [], laidByText := true, laidKinds := [.data, .pinned], laidTests := true, laidLooks := .later }
def FnWidLeastCardSaid : Prop := Claim7.holds Tryz.pinned (.plain (OpenSpec.ofChange fnWidLeastSpec)) fnWidLeastCard

/-- THE TIED CARD OF 'laws.FnWidSum'. -/
def fnWidSumCard : Claim7 := { stood := { row := fnWidSumRow, standIns := [], harness := (true, "6854758fee993bf000f32c9b601feb7888fbd914c0cfefaa8693ac5dc3da88c2"), looks := false }, kinds := [], alts := [], laidByText := true, laidKinds := [.data, .pinned], laidTests := true, laidLooks := .later }
def FnWidSumCardSaid : Prop := Claim7.holds Tryz.pinned (.plain (OpenSpec.ofChange fnWidSumSpec)) fnWidSumCard

/-- THE TIED CARD OF 'laws.FnWidWish'. -/
def fnWidWishCard : Claim7 := { stood := { row := fnWidWishRow, standIns := [], harness := (true, "6854758fee993bf000f32c9b601feb7888fbd914c0cfefaa8693ac5dc3da88c2"), looks := false }, kinds := [], alts := [], laidByText := true, laidKinds := [.data, .pinned], laidTests := true, laidLooks := .later }
def FnWidWishCardSaid : Prop := Claim7.holds Tryz.pinned (.plain (OpenSpec.ofChange fnWidWishSpec)) fnWidWishCard

/-- THE TIED CARD OF 'laws.FnHgtMore'. -/
def fnHgtMoreCard : Claim7 := { stood := { row := fnHgtMoreRow, standIns := [], harness := (true, "6854758fee993bf000f32c9b601feb7888fbd914c0cfefaa8693ac5dc3da88c2"), looks := false }, kinds := [], alts := [], laidByText := true, laidKinds := [.data, .pinned], laidTests := true, laidLooks := .later }
def FnHgtMoreCardSaid : Prop := Claim7.holds Tryz.pinned (.plain (OpenSpec.ofChange fnHgtMoreSpec)) fnHgtMoreCard

/-- THE TIED CARD OF 'laws.FnEdtDrag'. -/
def fnEdtDragCard : Claim7 := { stood := { row := fnEdtDragRow, standIns := [], harness := (true, "6854758fee993bf000f32c9b601feb7888fbd914c0cfefaa8693ac5dc3da88c2"), looks := false }, kinds := [], alts := [], laidByText := true, laidKinds := [.data, .pinned], laidTests := true, laidLooks := .later }
def FnEdtDragCardSaid : Prop := Claim7.holds Tryz.pinned (.plain (OpenSpec.ofChange fnEdtDragSpec)) fnEdtDragCard

/-- THE SECOND FORM's CARD OF 'laws.FnColLeast'. -/
def fnColLeastUptoCard : Claim7 := { stood := { row := fnColLeastUptoRow, standIns := [], harness := (true, "6854758fee993bf000f32c9b601feb7888fbd914c0cfefaa8693ac5dc3da88c2"), looks := false }, kinds := [], alts := [], laidByText := true, laidKinds := [.data, .pinned], laidTests := true, laidLooks := .later }
def FnColLeastUptoCardSaid : Prop := Claim7.holds Tryz.pinned (.plain (OpenSpec.upto fnColLeastSpec)) fnColLeastUptoCard

/-- THE SECOND FORM's CARD OF 'laws.FnColTight'. -/
def fnColTightUptoCard : Claim7 := { stood := { row := fnColTightUptoRow, standIns := [], harness := (true, "6854758fee993bf000f32c9b601feb7888fbd914c0cfefaa8693ac5dc3da88c2"), looks := false }, kinds := [], alts := [], laidByText := true, laidKinds := [.data, .pinned], laidTests := true, laidLooks := .later }
def FnColTightUptoCardSaid : Prop := Claim7.holds Tryz.pinned (.plain (OpenSpec.upto fnColTightSpec)) fnColTightUptoCard

/-- THE SECOND FORM's CARD OF 'laws.FnColMore'. -/
def fnColMoreUptoCard : Claim7 := { stood := { row := fnColMoreUptoRow, standIns := [], harness := (true, "6854758fee993bf000f32c9b601feb7888fbd914c0cfefaa8693ac5dc3da88c2"), looks := false }, kinds := [], alts := [], laidByText := true, laidKinds := [.data, .pinned], laidTests := true, laidLooks := .later }
def FnColMoreUptoCardSaid : Prop := Claim7.holds Tryz.pinned (.plain (OpenSpec.upto fnColMoreSpec)) fnColMoreUptoCard

/-- THE SECOND FORM's CARD OF 'laws.FnColFloor'. -/
def fnColFloorUptoCard : Claim7 := { stood := { row := fnColFloorUptoRow, standIns := [], harness := (true, "6854758fee993bf000f32c9b601feb7888fbd914c0cfefaa8693ac5dc3da88c2"), looks := false }, kinds := [], alts := [], laidByText := true, laidKinds := [.data, .pinned], laidTests := true, laidLooks := .later }
def FnColFloorUptoCardSaid : Prop := Claim7.holds Tryz.pinned (.plain (OpenSpec.upto fnColFloorSpec)) fnColFloorUptoCard

/-- THE SECOND FORM's CARD OF 'laws.FnWidAlone'. -/
def fnWidAloneUptoCard : Claim7 := { stood := { row := fnWidAloneUptoRow, standIns := [], harness := (true, "6854758fee993bf000f32c9b601feb7888fbd914c0cfefaa8693ac5dc3da88c2"), looks := false }, kinds := [], alts := [], laidByText := true, laidKinds := [.data, .pinned], laidTests := true, laidLooks := .later }
def FnWidAloneUptoCardSaid : Prop := Claim7.holds Tryz.pinned (.plain (OpenSpec.upto fnWidAloneSpec)) fnWidAloneUptoCard

/-- THE SECOND FORM's CARD OF 'laws.FnWidMore'. -/
def fnWidMoreUptoCard : Claim7 := { stood := { row := fnWidMoreUptoRow, standIns := [], harness := (true, "6854758fee993bf000f32c9b601feb7888fbd914c0cfefaa8693ac5dc3da88c2"), looks := false }, kinds := [], alts := [], laidByText := true, laidKinds := [.data, .pinned], laidTests := true, laidLooks := .later }
def FnWidMoreUptoCardSaid : Prop := Claim7.holds Tryz.pinned (.plain (OpenSpec.upto fnWidMoreSpec)) fnWidMoreUptoCard

/-- THE SECOND FORM's CARD OF 'laws.FnWidParts'. -/
def fnWidPartsUptoCard : Claim7 := { stood := { row := fnWidPartsUptoRow, standIns := [], harness := (true, "6854758fee993bf000f32c9b601feb7888fbd914c0cfefaa8693ac5dc3da88c2"), looks := false }, kinds := [], alts := [], laidByText := true, laidKinds := [.data, .pinned], laidTests := true, laidLooks := .later }
def FnWidPartsUptoCardSaid : Prop := Claim7.holds Tryz.pinned (.plain (OpenSpec.upto fnWidPartsSpec)) fnWidPartsUptoCard

/-- THE SECOND FORM's CARD OF 'laws.FnWidLeast'. -/
def fnWidLeastUptoCard : Claim7 := { stood := { row := fnWidLeastUptoRow, standIns := [], harness := (true, "6854758fee993bf000f32c9b601feb7888fbd914c0cfefaa8693ac5dc3da88c2"), looks := false }, kinds := [], alts := [], laidByText := true, laidKinds := [.data, .pinned], laidTests := true, laidLooks := .later }
def FnWidLeastUptoCardSaid : Prop := Claim7.holds Tryz.pinned (.plain (OpenSpec.upto fnWidLeastSpec)) fnWidLeastUptoCard

/-- THE SECOND FORM's CARD OF 'laws.FnWidSum'. -/
def fnWidSumUptoCard : Claim7 := { stood := { row := fnWidSumUptoRow, standIns := [], harness := (true, "6854758fee993bf000f32c9b601feb7888fbd914c0cfefaa8693ac5dc3da88c2"), looks := false }, kinds := [], alts := [], laidByText := true, laidKinds := [.data, .pinned], laidTests := true, laidLooks := .later }
def FnWidSumUptoCardSaid : Prop := Claim7.holds Tryz.pinned (.plain (OpenSpec.upto fnWidSumSpec)) fnWidSumUptoCard

/-- THE SECOND FORM's CARD OF 'laws.FnWidWish'. -/
def fnWidWishUptoCard : Claim7 := { stood := { row := fnWidWishUptoRow, standIns := [], harness := (true, "6854758fee993bf000f32c9b601feb7888fbd914c0cfefaa8693ac5dc3da88c2"), looks := false }, kinds := [], alts := [], laidByText := true, laidKinds := [.data, .pinned], laidTests := true, laidLooks := .later }
def FnWidWishUptoCardSaid : Prop := Claim7.holds Tryz.pinned (.plain (OpenSpec.upto fnWidWishSpec)) fnWidWishUptoCard

/-- THE SECOND FORM's CARD OF 'laws.FnHgtMore'. -/
def fnHgtMoreUptoCard : Claim7 := { stood := { row := fnHgtMoreUptoRow, standIns := [], harness := (true, "6854758fee993bf000f32c9b601feb7888fbd914c0cfefaa8693ac5dc3da88c2"), looks := false }, kinds := [], alts := [], laidByText := true, laidKinds := [.data, .pinned], laidTests := true, laidLooks := .later }
def FnHgtMoreUptoCardSaid : Prop := Claim7.holds Tryz.pinned (.plain (OpenSpec.upto fnHgtMoreSpec)) fnHgtMoreUptoCard

/-- THE SECOND FORM's CARD OF 'laws.FnEdtDrag'. -/
def fnEdtDragUptoCard : Claim7 := { stood := { row := fnEdtDragUptoRow, standIns := [], harness := (true, "6854758fee993bf000f32c9b601feb7888fbd914c0cfefaa8693ac5dc3da88c2"), looks := false }, kinds := [], alts := [], laidByText := true, laidKinds := [.data, .pinned], laidTests := true, laidLooks := .later }
def FnEdtDragUptoCardSaid : Prop := Claim7.holds Tryz.pinned (.plain (OpenSpec.upto fnEdtDragSpec)) fnEdtDragUptoCard
end Rows
end Go.Proofs.YtpfagdmmhgcmnaaGreatDoor
