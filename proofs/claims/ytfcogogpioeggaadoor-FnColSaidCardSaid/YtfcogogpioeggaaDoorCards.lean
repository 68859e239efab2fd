/-
  DERIVED. GIVEN WITH THE SEED: THE CARDS: each row of YtfcogogpioeggaaDoorRows.lean that lists a variable, with what it lists TIED to the program's text (the seventh form; the later family's looks); each row that meets fmt, with fmt's text TOLD by the authors' own Lean function (tested against real Go, not proved from fmt's source: count such statements apart). THE CARD IS WHAT COUNTS. Prove the row's statement (the work); the ties are given (YtfcogogpioeggaaDoorTie.lean); close each card by the builder's one call (the guide's Derived/Test/ToyasCard.lean, 'card_holds'). Laid BY PROGRAM, IN A SANDBOX (cutbox-door.mjs). By AI agents, Wed Nov 11 2026. No macro, syntax, notation, axiom, sorry.
-/
import Derived.Test.YtfcogogpioeggaaDoorRows
import GoSem.ClaimSeven
namespace Go.Proofs.YtfcogogpioeggaaDoor
namespace Rows

/-- THE TIED CARD OF 'laws.FnExactColSaid'. -/
def fnExactColSaidCard : Claim7 := { stood := { row := fnExactColSaidRow, standIns := [], harness := (true, "fc2822c78cab5f85838e7ad5a58bf264c07e5cdcbe72917a71c714304d573d4e"), looks := false }, kinds := [], alts := [], laidByText := true, laidKinds := [.data, .pinned], laidTests := true, laidLooks := .later }
def FnExactColSaidCardSaid : Prop := Claim7.holds Tryd.pinned (.plain (OpenSpec.ofChange fnExactColSaidSpec)) fnExactColSaidCard

/-- THE TIED CARD OF 'laws.FnColSaid'. -/
def fnColSaidCard : Claim7 := { stood := { row := fnColSaidRow, standIns := [], harness := (true, "fc2822c78cab5f85838e7ad5a58bf264c07e5cdcbe72917a71c714304d573d4e"), looks := false }, kinds := [], alts := [], laidByText := true, laidKinds := [.data, .pinned], laidTests := true, laidLooks := .later }
def FnColSaidCardSaid : Prop := Claim7.holds Tryd.pinned (.plain (OpenSpec.ofChange fnColSaidSpec)) fnColSaidCard

/-- THE TIED CARD OF 'laws.FnExactColAllFixed'. -/
def fnExactColAllFixedCard : Claim7 := { stood := { row := fnExactColAllFixedRow, standIns := [], harness := (true, "fc2822c78cab5f85838e7ad5a58bf264c07e5cdcbe72917a71c714304d573d4e"), looks := false }, kinds := [], alts := [], laidByText := true, laidKinds := [.data, .pinned], laidTests := true, laidLooks := .later }
def FnExactColAllFixedCardSaid : Prop := Claim7.holds Tryd.pinned (.plain (OpenSpec.ofChange fnExactColAllFixedSpec)) fnExactColAllFixedCard

/-- THE TIED CARD OF 'laws.FnExactEdtSpan'. -/
def fnExactEdtSpanCard : Claim7 := { stood := { row := fnExactEdtSpanRow, standIns := [], harness := (true, "fc2822c78cab5f85838e7ad5a58bf264c07e5cdcbe72917a71c714304d573d4e"), looks := false }, kinds := [], alts := [], laidByText := true, laidKinds := [.data, .pinned], laidTests := true, laidLooks := .later }
def FnExactEdtSpanCardSaid : Prop := Claim7.holds Tryd.pinned (.plain (OpenSpec.ofChange fnExactEdtSpanSpec)) fnExactEdtSpanCard

/-- THE TIED CARD OF 'laws.FnExactEdtTake'. -/
def fnExactEdtTakeCard : Claim7 := { stood := { row := fnExactEdtTakeRow, standIns := [], harness := (true, "fc2822c78cab5f85838e7ad5a58bf264c07e5cdcbe72917a71c714304d573d4e"), looks := false }, kinds := [], alts := [], laidByText := true, laidKinds := [.data, .pinned], laidTests := true, laidLooks := .later }
def FnExactEdtTakeCardSaid : Prop := Claim7.holds Tryd.pinned (.plain (OpenSpec.ofChange fnExactEdtTakeSpec)) fnExactEdtTakeCard

/-- THE TIED CARD OF 'laws.FnExactEdtRow'. -/
def fnExactEdtRowCard : Claim7 := { stood := { row := fnExactEdtRowRow, standIns := [], harness := (true, "fc2822c78cab5f85838e7ad5a58bf264c07e5cdcbe72917a71c714304d573d4e"), looks := false }, kinds := [], alts := [], laidByText := true, laidKinds := [.data, .pinned], laidTests := true, laidLooks := .later }
def FnExactEdtRowCardSaid : Prop := Claim7.holds Tryd.pinned (.plain (OpenSpec.ofChange fnExactEdtRowSpec)) fnExactEdtRowCard

/-- THE TIED CARD OF 'laws.FnExactEdtPut'. -/
def fnExactEdtPutCard : Claim7 := { stood := { row := fnExactEdtPutRow, standIns := [], harness := (true, "fc2822c78cab5f85838e7ad5a58bf264c07e5cdcbe72917a71c714304d573d4e"), looks := false }, kinds := [], alts := [], laidByText := true, laidKinds := [.data, .pinned], laidTests := true, laidLooks := .later }
def FnExactEdtPutCardSaid : Prop := Claim7.holds Tryd.pinned (.plain (OpenSpec.ofChange fnExactEdtPutSpec)) fnExactEdtPutCard

/-- THE SECOND FORM's CARD OF 'laws.FnExactColSaid'. -/
def fnExactColSaidUptoCard : Claim7 := { stood := { row := fnExactColSaidUptoRow, standIns := [], harness := (true, "fc2822c78cab5f85838e7ad5a58bf264c07e5cdcbe72917a71c714304d573d4e"), looks := false }, kinds := [], alts := [], laidByText := true, laidKinds := [.data, .pinned], laidTests := true, laidLooks := .later }
def FnExactColSaidUptoCardSaid : Prop := Claim7.holds Tryd.pinned (.plain (OpenSpec.upto fnExactColSaidSpec)) fnExactColSaidUptoCard

/-- THE SECOND FORM's CARD OF 'laws.FnColSaid'. -/
def fnColSaidUptoCard : Claim7 := { stood := { row := fnColSaidUptoRow, standIns := [], harness := (true, "fc2822c78cab5f85838e7ad5a58bf264c07e5cdcbe72917a71c714304d573d4e"), looks := false }, kinds := [], alts := [], laidByText := true, laidKinds := [.data, .pinned], laidTests := true, laidLooks := .later }
def FnColSaidUptoCardSaid : Prop := Claim7.holds Tryd.pinned (.plain (OpenSpec.upto fnColSaidSpec)) fnColSaidUptoCard

/-- THE SECOND FORM's CARD OF 'laws.FnExactColAllFixed'. -/
def fnExactColAllFixedUptoCard : Claim7 := { stood := { row := fnExactColAllFixedUptoRow, standIns := [], harness := (true, "fc2822c78cab5f85838e7ad5a58bf264c07e5cdcbe72917a71c714304d573d4e"), looks := false }, kinds := [], alts := [], laidByText := true, laidKinds := [.data, .pinned], laidTests := true, laidLooks := .later }
def FnExactColAllFixedUptoCardSaid : Prop := Claim7.holds Tryd.pinned (.plain (OpenSpec.upto fnExactColAllFixedSpec)) fnExactColAllFixedUptoCard

/-- THE SECOND FORM's CARD OF 'laws.FnExactEdtSpan'. -/
def fnExactEdtSpanUptoCard : Claim7 := { stood := { row := fnExactEdtSpanUptoRow, standIns := [], harness := (true, "fc2822c78cab5f85838e7ad5a58bf264c07e5cdcbe72917a71c714304d573d4e"), looks := false }, kinds := [], alts := [], laidByText := true, laidKinds := [.data, .pinned], laidTests := true, laidLooks := .later }
def FnExactEdtSpanUptoCardSaid : Prop := Claim7.holds Tryd.pinned (.plain (OpenSpec.upto fnExactEdtSpanSpec)) fnExactEdtSpanUptoCard

/-- THE SECOND FORM's CARD OF 'laws.FnExactEdtTake'. -/
def fnExactEdtTakeUptoCard : Claim7 := { stood := { row := fnExactEdtTakeUptoRow, standIns := [], harness := (true, "fc2822c78cab5f85838e7ad5a58bf264c07e5cdcbe72917a71c714304d573d4e"), looks := false }, kinds := [], alts := [], laidByText := true, laidKinds := [.data, .pinned], laidTests := true, laidLooks := .later }
def FnExactEdtTakeUptoCardSaid : Prop := Claim7.holds Tryd.pinned (.plain (OpenSpec.upto fnExactEdtTakeSpec)) fnExactEdtTakeUptoCard

/-- THE SECOND FORM's CARD OF 'laws.FnExactEdtRow'. -/
def fnExactEdtRowUptoCard : Claim7 := { stood := { row := fnExactEdtRowUptoRow, standIns := [], harness := (true, "fc2822c78cab5f85838e7ad5a58bf264c07e5cdcbe72917a71c714304d573d4e"), looks := false }, kinds := [], alts := [], laidByText := true, laidKinds := [.data, .pinned], laidTests := true, laidLooks := .later }
def FnExactEdtRowUptoCardSaid : Prop := Claim7.holds Tryd.pinned (.plain (OpenSpec.upto fnExactEdtRowSpec)) fnExactEdtRowUptoCard

/-- THE SECOND FORM's CARD OF 'laws.FnExactEdtPut'. -/
def fnExactEdtPutUptoCard : Claim7 := { stood := { row := fnExactEdtPutUptoRow, standIns := [], harness := (true, "fc2822c78cab5f85838e7ad5a58bf264c07e5cdcbe72917a71c714304d573d4e"), looks := false }, kinds := [], alts := [], laidByText := true, laidKinds := [.data, .pinned], laidTests := true, laidLooks := .later }
def FnExactEdtPutUptoCardSaid : Prop := Claim7.holds Tryd.pinned (.plain (OpenSpec.upto fnExactEdtPutSpec)) fnExactEdtPutUptoCard
end Rows
end Go.Proofs.YtfcogogpioeggaaDoor
