/-
  DERIVED. GIVEN WITH THE SEED: THE CARDS: each row of YtgdmcmicfoamlaaGreatDoorRows.lean that lists a variable, with what it lists TIED to the program's text (the seventh form; the later family's looks); each row that meets fmt, with fmt's text TOLD by the authors' own Lean function (tested against real Go, not proved from fmt's source: count such statements apart). THE CARD IS WHAT COUNTS. Prove the row's statement (the work); the ties are given (YtgdmcmicfoamlaaGreatDoorTie.lean); close each card by the builder's one call (the guide's Derived/Test/ToyasCard.lean, 'card_holds'). Laid BY PROGRAM, IN A SANDBOX (cutbox-door.mjs). By AI agents, Wed Nov 11 2026. No macro, syntax, notation, axiom, sorry.
-/
import Derived.Test.YtgdmcmicfoamlaaGreatDoorRows
import GoSem.ClaimSeven
namespace Go.Proofs.YtgdmcmicfoamlaaGreatDoor
namespace Rows

/-- THE TIED CARD OF 'laws.FnHgtRows'. -/
def fnHgtRowsCard : Claim7 := { stood := { row := fnHgtRowsRow, standIns := [], harness := (true, "525820a96c359d99ccd7a231eb0c180a9cb82d6008ebacc612bf1602d079cd14"), looks := false }, kinds := [], alts := [], laidByText := true, laidKinds := [.data, .pinned], laidTests := true, laidLooks := .later }
def FnHgtRowsCardSaid : Prop := Claim7.holds Tryz.pinned (.plain (OpenSpec.ofChange fnHgtRowsSpec)) fnHgtRowsCard

/-- THE TIED CARD OF 'laws.FnHgtLines'. -/
def fnHgtLinesCard : Claim7 := { stood := { row := fnHgtLinesRow, standIns := [], harness := (true, "525820a96c359d99ccd7a231eb0c180a9cb82d6008ebacc612bf1602d079cd14"), looks := false }, kinds := [], alts := [], laidByText := true, laidKinds := [.data, .pinned], laidTests := true, laidLooks := .later }
def FnHgtLinesCardSaid : Prop := Claim7.holds Tryz.pinned (.plain (OpenSpec.ofChange fnHgtLinesSpec)) fnHgtLinesCard

/-- THE TIED CARD OF 'laws.FnQryEmpty'. -/
def fnQryEmptyCard : Claim7 := { stood := { row := fnQryEmptyRow, standIns := [], harness := (true, "525820a96c359d99ccd7a231eb0c180a9cb82d6008ebacc612bf1602d079cd14"), looks := false }, kinds := [], alts := [], laidByText := true, laidKinds := [.data, .pinned], laidTests := true, laidLooks := .later }
def FnQryEmptyCardSaid : Prop := Claim7.holds Tryz.pinned (.plain (OpenSpec.ofChange fnQryEmptySpec)) fnQryEmptyCard

/-- THE TIED CARD OF 'laws.FnQryHit'. -/
def fnQryHitCard : Claim7 := { stood := { row := fnQryHitRow, standIns := [], harness := (true, "525820a96c359d99ccd7a231eb0c180a9cb82d6008ebacc612bf1602d079cd14"), looks := false }, kinds := [], alts := [], laidByText := true, laidKinds := [.data, .pinned], laidTests := true, laidLooks := .later }
def FnQryHitCardSaid : Prop := Claim7.holds Tryz.pinned (.plain (OpenSpec.ofChange fnQryHitSpec)) fnQryHitCard

/-- THE TIED CARD OF 'laws.FnQryRects'. -/
def fnQryRectsCard : Claim7 := { stood := { row := fnQryRectsRow, standIns := [], harness := (true, "525820a96c359d99ccd7a231eb0c180a9cb82d6008ebacc612bf1602d079cd14"), looks := false }, kinds := [], alts := [], laidByText := true, laidKinds := [.data, .pinned], laidTests := true, laidLooks := .later }
def FnQryRectsCardSaid : Prop := Claim7.holds Tryz.pinned (.plain (OpenSpec.ofChange fnQryRectsSpec)) fnQryRectsCard

/-- THE TIED CARD OF 'laws.FnQryApart'. -/
def fnQryApartCard : Claim7 := { stood := { row := fnQryApartRow, standIns := [], harness := (true, "525820a96c359d99ccd7a231eb0c180a9cb82d6008ebacc612bf1602d079cd14"), looks := false }, kinds := [], alts := [], laidByText := true, laidKinds := [.data, .pinned], laidTests := true, laidLooks := .later }
def FnQryApartCardSaid : Prop := Claim7.holds Tryz.pinned (.plain (OpenSpec.ofChange fnQryApartSpec)) fnQryApartCard

/-- THE TIED CARD OF 'laws.FnQryPicture'. -/
def fnQryPictureCard : Claim7 := { stood := { row := fnQryPictureRow, standIns := [], harness := (true, "525820a96c359d99ccd7a231eb0c180a9cb82d6008ebacc612bf1602d079cd14"), looks := false }, kinds := [], alts := [], laidByText := true, laidKinds := [.data, .pinned], laidTests := true, laidLooks := .later }
def FnQryPictureCardSaid : Prop := Claim7.holds Tryz.pinned (.plain (OpenSpec.ofChange fnQryPictureSpec)) fnQryPictureCard

/-- THE TIED CARD OF 'laws.FnPagFirst'. -/
def fnPagFirstCard : Claim7 := { stood := { row := fnPagFirstRow, standIns := [], harness := (true, "525820a96c359d99ccd7a231eb0c180a9cb82d6008ebacc612bf1602d079cd14"), looks := false }, kinds := [], alts := [], laidByText := true, laidKinds := [.data, .pinned], laidTests := true, laidLooks := .later }
def FnPagFirstCardSaid : Prop := Claim7.holds Tryz.pinned (.plain (OpenSpec.ofChange fnPagFirstSpec)) fnPagFirstCard

/-- THE TIED CARD OF 'laws.FnPagRow'. -/
def fnPagRowCard : Claim7 := { stood := { row := fnPagRowRow, standIns := [], harness := (true, "525820a96c359d99ccd7a231eb0c180a9cb82d6008ebacc612bf1602d079cd14"), looks := false }, kinds := [], alts := [], laidByText := true, laidKinds := [.data, .pinned], laidTests := true, laidLooks := .later }
def FnPagRowCardSaid : Prop := Claim7.holds Tryz.pinned (.plain (OpenSpec.ofChange fnPagRowSpec)) fnPagRowCard

/-- THE TIED CARD OF 'laws.FnPagMore'. -/
def fnPagMoreCard : Claim7 := { stood := { row := fnPagMoreRow, standIns := [], harness := (true, "525820a96c359d99ccd7a231eb0c180a9cb82d6008ebacc612bf1602d079cd14"), looks := false }, kinds := [], alts := [], laidByText := true, laidKinds := [.data, .pinned], laidTests := true, laidLooks := .later }
def FnPagMoreCardSaid : Prop := Claim7.holds Tryz.pinned (.plain (OpenSpec.ofChange fnPagMoreSpec)) fnPagMoreCard

/-- THE TIED CARD OF 'laws.FnPagFew'. -/
def fnPagFewCard : Claim7 := { stood := { row := fnPagFewRow, standIns := [], harness := (true, "525820a96c359d99ccd7a231eb0c180a9cb82d6008ebacc612bf1602d079cd14"), looks := false }, kinds := [], alts := [], laidByText := true, laidKinds := [.data, .pinned], laidTests := true, laidLooks := .later }
def FnPagFewCardSaid : Prop := Claim7.holds Tryz.pinned (.plain (OpenSpec.ofChange fnPagFewSpec)) fnPagFewCard

/-- THE TIED CARD OF 'laws.FnPagLines'. -/
def fnPagLinesCard : Claim7 := { stood := { row := fnPagLinesRow, standIns := [], harness := (true, "525820a96c359d99ccd7a231eb0c180a9cb82d6008ebacc612bf1602d079cd14"), looks := false }, kinds := [], alts := [], laidByText := true, laidKinds := [.data, .pinned], laidTests := true, laidLooks := .later }
def FnPagLinesCardSaid : Prop := Claim7.holds Tryz.pinned (.plain (OpenSpec.ofChange fnPagLinesSpec)) fnPagLinesCard

/-- THE TIED CARD OF 'laws.FnPagWhole'. -/
def fnPagWholeCard : Claim7 := { stood := { row := fnPagWholeRow, standIns := [], harness := (true, "525820a96c359d99ccd7a231eb0c180a9cb82d6008ebacc612bf1602d079cd14"), looks := false }, kinds := [], alts := [], laidByText := true, laidKinds := [.data, .pinned], laidTests := true, laidLooks := .later }
def FnPagWholeCardSaid : Prop := Claim7.holds Tryz.pinned (.plain (OpenSpec.ofChange fnPagWholeSpec)) fnPagWholeCard

/-- THE TIED CARD OF 'laws.FnPagHead'. -/
def fnPagHeadCard : Claim7 := { stood := { row := fnPagHeadRow, standIns := [], harness := (true, "525820a96c359d99ccd7a231eb0c180a9cb82d6008ebacc612bf1602d079cd14"), looks := false }, kinds := [], alts := [], laidByText := true, laidKinds := [.data, .pinned], laidTests := true, laidLooks := .later }
def FnPagHeadCardSaid : Prop := Claim7.holds Tryz.pinned (.plain (OpenSpec.ofChange fnPagHeadSpec)) fnPagHeadCard

/-- THE TIED CARD OF 'laws.FnPagOne'. -/
def fnPagOneCard : Claim7 := { stood := { row := fnPagOneRow, standIns := [], harness := (true, "525820a96c359d99ccd7a231eb0c180a9cb82d6008ebacc612bf1602d079cd14"), looks := false }, kinds := [], alts := [], laidByText := true, laidKinds := [.data, .pinned], laidTests := true, laidLooks := .later }
def FnPagOneCardSaid : Prop := Claim7.holds Tryz.pinned (.plain (OpenSpec.ofChange fnPagOneSpec)) fnPagOneCard

/-- THE TIED CARD OF 'laws.FnPagHigh'. -/
def fnPagHighCard : Claim7 := { stood := { row := fnPagHighRow, standIns := [], harness := (true, "525820a96c359d99ccd7a231eb0c180a9cb82d6008ebacc612bf1602d079cd14"), looks := false }, kinds := [], alts := [], laidByText := true, laidKinds := [.data, .pinned], laidTests := true, laidLooks := .later }
def FnPagHighCardSaid : Prop := Claim7.holds Tryz.pinned (.plain (OpenSpec.ofChange fnPagHighSpec)) fnPagHighCard

/-- THE SECOND FORM's CARD OF 'laws.FnHgtRows'. -/
def fnHgtRowsUptoCard : Claim7 := { stood := { row := fnHgtRowsUptoRow, standIns := [], harness := (true, "525820a96c359d99ccd7a231eb0c180a9cb82d6008ebacc612bf1602d079cd14"), looks := false }, kinds := [], alts := [], laidByText := true, laidKinds := [.data, .pinned], laidTests := true, laidLooks := .later }
def FnHgtRowsUptoCardSaid : Prop := Claim7.holds Tryz.pinned (.plain (OpenSpec.upto fnHgtRowsSpec)) fnHgtRowsUptoCard

/-- THE SECOND FORM's CARD OF 'laws.FnHgtLines'. -/
def fnHgtLinesUptoCard : Claim7 := { stood := { row := fnHgtLinesUptoRow, standIns := [], harness := (true, "525820a96c359d99ccd7a231eb0c180a9cb82d6008ebacc612bf1602d079cd14"), looks := false }, kinds := [], alts := [], laidByText := true, laidKinds := [.data, .pinned], laidTests := true, laidLooks := .later }
def FnHgtLinesUptoCardSaid : Prop := Claim7.holds Tryz.pinned (.plain (OpenSpec.upto fnHgtLinesSpec)) fnHgtLinesUptoCard

/-- THE SECOND FORM's CARD OF 'laws.FnQryEmpty'. -/
def fnQryEmptyUptoCard : Claim7 := { stood := { row := fnQryEmptyUptoRow, standIns := [], harness := (true, "525820a96c359d99ccd7a231eb0c180a9cb82d6008ebacc612bf1602d079cd14"), looks := false }, kinds := [], alts := [], laidByText := true, laidKinds := [.data, .pinned], laidTests := true, laidLooks := .later }
def FnQryEmptyUptoCardSaid : Prop := Claim7.holds Tryz.pinned (.plain (OpenSpec.upto fnQryEmptySpec)) fnQryEmptyUptoCard

/-- THE SECOND FORM's CARD OF 'laws.FnQryHit'. -/
def fnQryHitUptoCard : Claim7 := { stood := { row := fnQryHitUptoRow, standIns := [], harness := (true, "525820a96c359d99ccd7a231eb0c180a9cb82d6008ebacc612bf1602d079cd14"), looks := false }, kinds := [], alts := [], laidByText := true, laidKinds := [.data, .pinned], laidTests := true, laidLooks := .later }
def FnQryHitUptoCardSaid : Prop := Claim7.holds Tryz.pinned (.plain (OpenSpec.upto fnQryHitSpec)) fnQryHitUptoCard

/-- THE SECOND FORM's CARD OF 'laws.FnQryRects'. -/
def fnQryRectsUptoCard : Claim7 := { stood := { row := fnQryRectsUptoRow, standIns := [], harness := (true, "525820a96c359d99ccd7a231eb0c180a9cb82d6008ebacc612bf1602d079cd14"), looks := false }, kinds := [], alts := [], laidByText := true, laidKinds := [.data, .pinned], laidTests := true, laidLooks := .later }
def FnQryRectsUptoCardSaid : Prop := Claim7.holds Tryz.pinned (.plain (OpenSpec.upto fnQryRectsSpec)) fnQryRectsUptoCard

/-- THE SECOND FORM's CARD OF 'laws.FnQryApart'. -/
def fnQryApartUptoCard : Claim7 := { stood := { row := fnQryApartUptoRow, standIns := [], harness := (true, "525820a96c359d99ccd7a231eb0c180a9cb82d6008ebacc612bf1602d079cd14"), looks := false }, kinds := [], alts := [], laidByText := true, laidKinds := [.data, .pinned], laidTests := true, laidLooks := .later }
def FnQryApartUptoCardSaid : Prop := Claim7.holds Tryz.pinned (.plain (OpenSpec.upto fnQryApartSpec)) fnQryApartUptoCard

/-- THE SECOND FORM's CARD OF 'laws.FnQryPicture'. -/
def fnQryPictureUptoCard : Claim7 := { stood := { row := fnQryPictureUptoRow, standIns := [], harness := (true, "525820a96c359d99ccd7a231eb0c180a9cb82d6008ebacc612bf1602d079cd14"), looks := false }, kinds := [], alts := [], laidByText := true, laidKinds := [.data, .pinned], laidTests := true, laidLooks := .later }
def FnQryPictureUptoCardSaid : Prop := Claim7.holds Tryz.pinned (.plain (OpenSpec.upto fnQryPictureSpec)) fnQryPictureUptoCard

/-- THE SECOND FORM's CARD OF 'laws.FnPagFirst'. -/
def fnPagFirstUptoCard : Claim7 := { stood := { row := fnPagFirstUptoRow, standIns := [], harness := (true, "525820a96c359d99ccd7a231eb0c180a9cb82d6008ebacc612bf1602d079cd14"), looks := false }, kinds := [], alts := [], laidByText := true, laidKinds := [.data, .pinned], laidTests := true, laidLooks := .later }
def FnPagFirstUptoCardSaid : Prop := Claim7.holds Tryz.pinned (.plain (OpenSpec.upto fnPagFirstSpec)) fnPagFirstUptoCard

/-- THE SECOND FORM's CARD OF 'laws.FnPagRow'. -/
def fnPagRowUptoCard : Claim7 := { stood := { row := fnPagRowUptoRow, standIns := [], harness := (true, "525820a96c359d99ccd7a231eb0c180a9cb82d6008ebacc612bf1602d079cd14"), looks := false }, kinds := [], alts := [], laidByText := true, laidKinds := [.data, .pinned], laidTests := true, laidLooks := .later }
def FnPagRowUptoCardSaid : Prop := Claim7.holds Tryz.pinned (.plain (OpenSpec.upto fnPagRowSpec)) fnPagRowUptoCard

/-- THE SECOND FORM's CARD OF 'laws.FnPagMore'. -/
def fnPagMoreUptoCard : Claim7 := { stood := { row := fnPagMoreUptoRow, standIns := [], harness := (true, "525820a96c359d99ccd7a231eb0c180a9cb82d6008ebacc612bf1602d079cd14"), looks := false }, kinds := [], alts := [], laidByText := true, laidKinds := [.data, .pinned], laidTests := true, laidLooks := .later }
def FnPagMoreUptoCardSaid : Prop := Claim7.holds Tryz.pinned (.plain (OpenSpec.upto fnPagMoreSpec)) fnPagMoreUptoCard

/-- THE SECOND FORM's CARD OF 'laws.FnPagFew'. -/
def fnPagFewUptoCard : Claim7 := { stood := { row := fnPagFewUptoRow, standIns := [], harness := (true, "525820a96c359d99ccd7a231eb0c180a9cb82d6008ebacc612bf1602d079cd14"), looks := false }, kinds := [], alts := [], laidByText := true, laidKinds := [.data, .pinned], laidTests := true, laidLooks := .later }
def FnPagFewUptoCardSaid : Prop := Claim7.holds Tryz.pinned (.plain (OpenSpec.upto fnPagFewSpec)) fnPagFewUptoCard

/-- THE SECOND FORM's CARD OF 'laws.FnPagLines'. -/
def fnPagLinesUptoCard : Claim7 := { stood := { row := fnPagLinesUptoRow, standIns := [], harness := (true, "525820a96c359d99ccd7a231eb0c180a9cb82d6008ebacc612bf1602d079cd14"), looks := false }, kinds := [], alts := [], laidByText := true, laidKinds := [.data, .pinned], laidTests := true, laidLooks := .later }
def FnPagLinesUptoCardSaid : Prop := Claim7.holds Tryz.pinned (.plain (OpenSpec.upto fnPagLinesSpec)) fnPagLinesUptoCard

/-- THE SECOND FORM's CARD OF 'laws.FnPagWhole'. -/
def fnPagWholeUptoCard : Claim7 := { stood := { row := fnPagWholeUptoRow, standIns := [], harness := (true, "525820a96c359d99ccd7a231eb0c180a9cb82d6008ebacc612bf1602d079cd14"), looks := false }, kinds := [], alts := [], laidByText := true, laidKinds := [.data, .pinned], laidTests := true, laidLooks := .later }
def FnPagWholeUptoCardSaid : Prop := Claim7.holds Tryz.pinned (.plain (OpenSpec.upto fnPagWholeSpec)) fnPagWholeUptoCard

/-- THE SECOND FORM's CARD OF 'laws.FnPagHead'. -/
def fnPagHeadUptoCard : Claim7 := { stood := { row := fnPagHeadUptoRow, standIns := [], harness := (true, "525820a96c359d99ccd7a231eb0c180a9cb82d6008ebacc612bf1602d079cd14"), looks := false }, kinds := [], alts := [], laidByText := true, laidKinds := [.data, .pinned], laidTests := true, laidLooks := .later }
def FnPagHeadUptoCardSaid : Prop := Claim7.holds Tryz.pinned (.plain (OpenSpec.upto fnPagHeadSpec)) fnPagHeadUptoCard

/-- THE SECOND FORM's CARD OF 'laws.FnPagOne'. -/
def fnPagOneUptoCard : Claim7 := { stood := { row := fnPagOneUptoRow, standIns := [], harness := (true, "525820a96c359d99ccd7a231eb0c180a9cb82d6008ebacc612bf1602d079cd14"), looks := false }, kinds := [], alts := [], laidByText := true, laidKinds := [.data, .pinned], laidTests := true, laidLooks := .later }
def FnPagOneUptoCardSaid : Prop := Claim7.holds Tryz.pinned (.plain (OpenSpec.upto fnPagOneSpec)) fnPagOneUptoCard

/-- THE SECOND FORM's CARD OF 'laws.FnPagHigh'. -/
def fnPagHighUptoCard : Claim7 := { stood := { row := fnPagHighUptoRow, standIns := [], harness := (true, "525820a96c359d99ccd7a231eb0c180a9cb82d6008ebacc612bf1602d079cd14"), looks := false }, kinds := [], alts := [], laidByText := true, laidKinds := [.data, .pinned], laidTests := true, laidLooks := .later }
def FnPagHighUptoCardSaid : Prop := Claim7.holds Tryz.pinned (.plain (OpenSpec.upto fnPagHighSpec)) fnPagHighUptoCard
end Rows
end Go.Proofs.YtgdmcmicfoamlaaGreatDoor
