/-
  NARROWER THAN 'FOR EVERY INPUT', by the rows' own cells (each row's printed sentence says how): FnExactColSaid: laid · FnColSaid: laid · FnExactColAllFixed: laid · FnExactEdtSpan: laid · FnExactEdtTake: laid · FnExactEdtRow: laid · FnExactEdtPut: laid.
  DERIVED. THE GIVEN ROWS OF THIS SEAT. 7 by the template 'for every input the law returns true; each argument reads behind the call as it read before'; 0 by the template 'total and deterministic' (their statements: YtfcogogpioeggaaDoorTotals.lean).
  GIVEN WITH THE SEED: the statements are not yours to turn. If you find one false, say at which input.
  Laid BY PROGRAM, IN A SANDBOX (cutbox-rows.mjs): the forced cells as the released guide's own fill.sh prints them over the translation 2d3258f7f8ed820c… (all of the seat's roots in one cut). By AI agents, Wed Nov 11 2026. No macro, syntax, notation, axiom, sorry.
-/
import Derived.Test.YtfcogogpioeggaaDoorChecked
import GoSem.PinnedTables
import GoSem.Claim
import GoSem.ClaimJoined
import GoSem.ClaimMapViews
import Derived.JoinedTies
import Derived.KernelRfl
namespace Go.Proofs.YtfcogogpioeggaaDoor
/- THE CELL 'sum', in the pinned program and in every row, IS THE sha256 OF THE DUMP (.gsa) THAT YtfcogogpioeggaaDoorProg.lean LOADS. Nothing in Lean hashes anything: it is a label: what it is worth is what the hold of that sum in a sandbox is worth. -/
noncomputable def Tryd.pinned : Pinned := { name := "ytfcogogpioeggaadoor", sum := "2d3258f7f8ed820c72961a682869dc089397e00ebbfb050cd901cfa8a87074a0", checked := Tryd.checked }
namespace Rows
def none {H : Type} : Left H := { results := [], args := [] }

/- WHAT THE LISTED PACKAGE-LEVEL VARIABLES READ AS WHEN THE CALL BEGINS. Each datum BY PROGRAM (the guide's laid-datum.mjs) off the statement by which the dump's own 'gosem.cut.vars' lays the variable. In a bare row this is a premise. The card (YtfcogogpioeggaaDoorCards.lean) ties it to the program's text. -/
def laid_unicode_utf8_acceptRanges {H : Type} : DataW H := .agg [.agg [.lit (.int .u8 128), .lit (.int .u8 191)], .agg [.lit (.int .u8 160), .lit (.int .u8 191)], .agg [.lit (.int .u8 128), .lit (.int .u8 159)], .agg [.lit (.int .u8 144), .lit (.int .u8 191)], .agg [.lit (.int .u8 128), .lit (.int .u8 143)], .agg [.lit (.int .u8 0), .lit (.int .u8 0)], .agg [.lit (.int .u8 0), .lit (.int .u8 0)], .agg [.lit (.int .u8 0), .lit (.int .u8 0)], .agg [.lit (.int .u8 0), .lit (.int .u8 0)], .agg [.lit (.int .u8 0), .lit (.int .u8 0)], .agg [.lit (.int .u8 0), .lit (.int .u8 0)], .agg [.lit (.int .u8 0), .lit (.int .u8 0)], .agg [.lit (.int .u8 0), .lit (.int .u8 0)], .agg [.lit (.int .u8 0), .lit (.int .u8 0)], .agg [.lit (.int .u8 0), .lit (.int .u8 0)], .agg [.lit (.int .u8 0), .lit (.int .u8 0)]]
/-- One of Go's own tables, pinned by name: the form's constant. -/
def laid_unicode_utf8_first : DataW Unit := Go.Pinned.utf8First

/-- 'laws.FnExactColSaid': WHATEVER THE INPUT: true; the input reads as it did. -/
def fnExactColSaidSpec : ChangeSpec := { name := "fnExactColSaid", fn := fun _ => fun
  | [d1, d2] => { results := [.lit (.bool true)], args := [d1, d2] }
  | _ => none }
def fnExactColSaidRow : OpenClaim := { program := "ytfcogogpioeggaadoor", sum := "2d3258f7f8ed820c72961a682869dc089397e00ebbfb050cd901cfa8a87074a0", func := "loop.example/panework/laws.FnExactColSaid", spec := "fnExactColSaid", inPlace := ["internal/bytealg.CountString", "internal/bytealg.IndexByteString", "internal/bytealg.IndexString"], unfollowed := true, recurses := true, named := ["unicode/utf8.first", "unicode/utf8.acceptRanges", "internal/bytealg.MaxLen"], apart := false, laid := [("unicode/utf8.acceptRanges", laid_unicode_utf8_acceptRanges), ("unicode/utf8.first", laid_unicode_utf8_first)] }
def FnExactColSaidSaid : Prop := fnExactColSaidRow.holds Tryd.pinned (OpenSpec.ofChange fnExactColSaidSpec)

/-- ITS FALSE NEIGHBOUR: 'it returns false'. Refute it at one input. -/
def fnExactColSaidWrong : ChangeSpec := { name := "fnExactColSaid", fn := fun _ => fun
  | [d1, d2] => { results := [.lit (.bool false)], args := [d1, d2] }
  | _ => none }
def FnExactColSaidWrongFalsely : Prop := fnExactColSaidRow.holds Tryd.pinned (OpenSpec.ofChange fnExactColSaidWrong)

/-- 'laws.FnColSaid': WHATEVER THE INPUT: true; the input reads as it did. -/
def fnColSaidSpec : ChangeSpec := { name := "fnColSaid", fn := fun _ => fun
  | [d1, d2] => { results := [.lit (.bool true)], args := [d1, d2] }
  | _ => none }
def fnColSaidRow : OpenClaim := { program := "ytfcogogpioeggaadoor", sum := "2d3258f7f8ed820c72961a682869dc089397e00ebbfb050cd901cfa8a87074a0", func := "loop.example/panework/laws.FnColSaid", spec := "fnColSaid", inPlace := ["internal/bytealg.CountString", "internal/bytealg.IndexByteString", "internal/bytealg.IndexString"], unfollowed := true, recurses := true, named := ["unicode/utf8.first", "unicode/utf8.acceptRanges", "internal/bytealg.MaxLen"], apart := false, laid := [("unicode/utf8.acceptRanges", laid_unicode_utf8_acceptRanges), ("unicode/utf8.first", laid_unicode_utf8_first)] }
def FnColSaidSaid : Prop := fnColSaidRow.holds Tryd.pinned (OpenSpec.ofChange fnColSaidSpec)

/-- ITS FALSE NEIGHBOUR: 'it returns false'. Refute it at one input. -/
def fnColSaidWrong : ChangeSpec := { name := "fnColSaid", fn := fun _ => fun
  | [d1, d2] => { results := [.lit (.bool false)], args := [d1, d2] }
  | _ => none }
def FnColSaidWrongFalsely : Prop := fnColSaidRow.holds Tryd.pinned (OpenSpec.ofChange fnColSaidWrong)

/-- 'laws.FnExactColAllFixed': WHATEVER THE INPUT: true; the input reads as it did. -/
def fnExactColAllFixedSpec : ChangeSpec := { name := "fnExactColAllFixed", fn := fun _ => fun
  | [d] => { results := [.lit (.bool true)], args := [d] }
  | _ => none }
def fnExactColAllFixedRow : OpenClaim := { program := "ytfcogogpioeggaadoor", sum := "2d3258f7f8ed820c72961a682869dc089397e00ebbfb050cd901cfa8a87074a0", func := "loop.example/panework/laws.FnExactColAllFixed", spec := "fnExactColAllFixed", inPlace := ["internal/bytealg.CountString", "internal/bytealg.IndexByteString", "internal/bytealg.IndexString"], unfollowed := true, recurses := true, named := ["unicode/utf8.first", "unicode/utf8.acceptRanges", "internal/bytealg.MaxLen"], apart := false, laid := [("unicode/utf8.acceptRanges", laid_unicode_utf8_acceptRanges), ("unicode/utf8.first", laid_unicode_utf8_first)] }
def FnExactColAllFixedSaid : Prop := fnExactColAllFixedRow.holds Tryd.pinned (OpenSpec.ofChange fnExactColAllFixedSpec)

/-- ITS FALSE NEIGHBOUR: 'it returns false'. Refute it at one input. -/
def fnExactColAllFixedWrong : ChangeSpec := { name := "fnExactColAllFixed", fn := fun _ => fun
  | [d] => { results := [.lit (.bool false)], args := [d] }
  | _ => none }
def FnExactColAllFixedWrongFalsely : Prop := fnExactColAllFixedRow.holds Tryd.pinned (OpenSpec.ofChange fnExactColAllFixedWrong)

/-- 'laws.FnExactEdtSpan': WHATEVER THE INPUT: true; the input reads as it did. -/
def fnExactEdtSpanSpec : ChangeSpec := { name := "fnExactEdtSpan", fn := fun _ => fun
  | [d1, d2, d3, d4, d5] => { results := [.lit (.bool true)], args := [d1, d2, d3, d4, d5] }
  | _ => none }
def fnExactEdtSpanRow : OpenClaim := { program := "ytfcogogpioeggaadoor", sum := "2d3258f7f8ed820c72961a682869dc089397e00ebbfb050cd901cfa8a87074a0", func := "loop.example/panework/laws.FnExactEdtSpan", spec := "fnExactEdtSpan", inPlace := ["internal/bytealg.CountString", "internal/bytealg.IndexByteString", "internal/bytealg.IndexString"], unfollowed := true, recurses := true, named := ["unicode/utf8.first", "unicode/utf8.acceptRanges", "internal/bytealg.MaxLen"], apart := false, laid := [("unicode/utf8.acceptRanges", laid_unicode_utf8_acceptRanges), ("unicode/utf8.first", laid_unicode_utf8_first)] }
def FnExactEdtSpanSaid : Prop := fnExactEdtSpanRow.holds Tryd.pinned (OpenSpec.ofChange fnExactEdtSpanSpec)

/-- ITS FALSE NEIGHBOUR: 'it returns false'. Refute it at one input. -/
def fnExactEdtSpanWrong : ChangeSpec := { name := "fnExactEdtSpan", fn := fun _ => fun
  | [d1, d2, d3, d4, d5] => { results := [.lit (.bool false)], args := [d1, d2, d3, d4, d5] }
  | _ => none }
def FnExactEdtSpanWrongFalsely : Prop := fnExactEdtSpanRow.holds Tryd.pinned (OpenSpec.ofChange fnExactEdtSpanWrong)

/-- 'laws.FnExactEdtTake': WHATEVER THE INPUT: true; the input reads as it did. -/
def fnExactEdtTakeSpec : ChangeSpec := { name := "fnExactEdtTake", fn := fun _ => fun
  | [d1, d2, d3] => { results := [.lit (.bool true)], args := [d1, d2, d3] }
  | _ => none }
def fnExactEdtTakeRow : OpenClaim := { program := "ytfcogogpioeggaadoor", sum := "2d3258f7f8ed820c72961a682869dc089397e00ebbfb050cd901cfa8a87074a0", func := "loop.example/panework/laws.FnExactEdtTake", spec := "fnExactEdtTake", inPlace := ["internal/bytealg.CountString", "internal/bytealg.IndexByteString", "internal/bytealg.IndexString"], unfollowed := true, recurses := true, named := ["unicode/utf8.first", "unicode/utf8.acceptRanges", "internal/bytealg.MaxLen"], apart := false, laid := [("unicode/utf8.acceptRanges", laid_unicode_utf8_acceptRanges), ("unicode/utf8.first", laid_unicode_utf8_first)] }
def FnExactEdtTakeSaid : Prop := fnExactEdtTakeRow.holds Tryd.pinned (OpenSpec.ofChange fnExactEdtTakeSpec)

/-- ITS FALSE NEIGHBOUR: 'it returns false'. Refute it at one input. -/
def fnExactEdtTakeWrong : ChangeSpec := { name := "fnExactEdtTake", fn := fun _ => fun
  | [d1, d2, d3] => { results := [.lit (.bool false)], args := [d1, d2, d3] }
  | _ => none }
def FnExactEdtTakeWrongFalsely : Prop := fnExactEdtTakeRow.holds Tryd.pinned (OpenSpec.ofChange fnExactEdtTakeWrong)

/-- 'laws.FnExactEdtRow': WHATEVER THE INPUT: true; the input reads as it did. -/
def fnExactEdtRowSpec : ChangeSpec := { name := "fnExactEdtRow", fn := fun _ => fun
  | [d1, d2] => { results := [.lit (.bool true)], args := [d1, d2] }
  | _ => none }
def fnExactEdtRowRow : OpenClaim := { program := "ytfcogogpioeggaadoor", sum := "2d3258f7f8ed820c72961a682869dc089397e00ebbfb050cd901cfa8a87074a0", func := "loop.example/panework/laws.FnExactEdtRow", spec := "fnExactEdtRow", inPlace := ["slices.overlaps[loop.example/panework/impl.TblRow]", "internal/bytealg.CountString", "internal/bytealg.IndexByteString", "internal/bytealg.IndexString"], unfollowed := true, recurses := true, named := ["unicode/utf8.first", "unicode/utf8.acceptRanges", "internal/bytealg.MaxLen"], apart := false, laid := [("unicode/utf8.acceptRanges", laid_unicode_utf8_acceptRanges), ("unicode/utf8.first", laid_unicode_utf8_first)] }
def FnExactEdtRowSaid : Prop := fnExactEdtRowRow.holds Tryd.pinned (OpenSpec.ofChange fnExactEdtRowSpec)

/-- ITS FALSE NEIGHBOUR: 'it returns false'. Refute it at one input. -/
def fnExactEdtRowWrong : ChangeSpec := { name := "fnExactEdtRow", fn := fun _ => fun
  | [d1, d2] => { results := [.lit (.bool false)], args := [d1, d2] }
  | _ => none }
def FnExactEdtRowWrongFalsely : Prop := fnExactEdtRowRow.holds Tryd.pinned (OpenSpec.ofChange fnExactEdtRowWrong)

/-- 'laws.FnExactEdtPut': WHATEVER THE INPUT: true; the input reads as it did. -/
def fnExactEdtPutSpec : ChangeSpec := { name := "fnExactEdtPut", fn := fun _ => fun
  | [d1, d2, d3, d4] => { results := [.lit (.bool true)], args := [d1, d2, d3, d4] }
  | _ => none }
def fnExactEdtPutRow : OpenClaim := { program := "ytfcogogpioeggaadoor", sum := "2d3258f7f8ed820c72961a682869dc089397e00ebbfb050cd901cfa8a87074a0", func := "loop.example/panework/laws.FnExactEdtPut", spec := "fnExactEdtPut", inPlace := ["internal/bytealg.CountString", "internal/bytealg.IndexByteString", "internal/bytealg.IndexString", "slices.overlaps[loop.example/panework/impl.TblCell]"], unfollowed := true, recurses := true, named := ["unicode/utf8.first", "unicode/utf8.acceptRanges", "internal/bytealg.MaxLen"], apart := false, laid := [("unicode/utf8.acceptRanges", laid_unicode_utf8_acceptRanges), ("unicode/utf8.first", laid_unicode_utf8_first)] }
def FnExactEdtPutSaid : Prop := fnExactEdtPutRow.holds Tryd.pinned (OpenSpec.ofChange fnExactEdtPutSpec)

/-- ITS FALSE NEIGHBOUR: 'it returns false'. Refute it at one input. -/
def fnExactEdtPutWrong : ChangeSpec := { name := "fnExactEdtPut", fn := fun _ => fun
  | [d1, d2, d3, d4] => { results := [.lit (.bool false)], args := [d1, d2, d3, d4] }
  | _ => none }
def FnExactEdtPutWrongFalsely : Prop := fnExactEdtPutRow.holds Tryd.pinned (OpenSpec.ofChange fnExactEdtPutWrong)

/- THE SECOND FORM. 'bulk': how many values and letters a reading holds, each counted each time it is reached (what is shared counts as often as it is met; a slice's spare places count too). A statement '..UptoSaid' is the law's where the arguments, and the package variables that the reading takes, are together of bulk at most 1048576: NARROWER than '..Said'. Prove '..Said' where nothing that the law and all that it calls make is longer than what came in: it says more and counts as full. Else prove '..UptoSaid'. A law counts once. -/
mutual
def uptoBulk {H : Type} : DataW H → Nat
  | .lit (.string bytes) => bytes.length + 1
  | .lit _ => 1
  | .nil => 1
  | .ptr d => uptoBulk d + 1
  | .slice elems spare => uptoBulkAll elems + uptoBulkAll spare + 1
  | .agg parts => uptoBulkAll parts + 1
  | .iface _ d => uptoBulk d + 1
  | .map entries => uptoBulkEntries entries + 1
  | .held _ => 1
def uptoBulkAll {H : Type} : List (DataW H) → Nat
  | [] => 0
  | d :: r => uptoBulk d + uptoBulkAll r
def uptoBulkEntries {H : Type} : List (Lit × DataW H) → Nat
  | [] => 0
  | x :: r => uptoBulkEntry x + uptoBulkEntries r
def uptoBulkEntry {H : Type} : Lit × DataW H → Nat
  | (.string bytes, d) => bytes.length + uptoBulk d + 1
  | (_, d) => uptoBulk d + 1
 end
def uptoSmall : (H : Type) → List (DataW H) → Bool := fun _ ds => decide (uptoBulkAll ds ≤ 1048576)
def OpenSpec.upto (s : _root_.Go.ChangeSpec) : _root_.Go.OpenSpec := { _root_.Go.OpenSpec.ofChange s with cond := some uptoSmall }

/-- 'laws.FnExactColSaid', WHERE WHAT IT READS IS OF BULK AT MOST 1048576: true; the input reads as it did. -/
def fnExactColSaidUptoRow : OpenClaim := { program := "ytfcogogpioeggaadoor", sum := "2d3258f7f8ed820c72961a682869dc089397e00ebbfb050cd901cfa8a87074a0", func := "loop.example/panework/laws.FnExactColSaid", spec := "fnExactColSaid", inPlace := ["internal/bytealg.CountString", "internal/bytealg.IndexByteString", "internal/bytealg.IndexString"], unfollowed := true, recurses := true, named := ["unicode/utf8.first", "unicode/utf8.acceptRanges", "internal/bytealg.MaxLen"], apart := false, laid := [("unicode/utf8.acceptRanges", laid_unicode_utf8_acceptRanges), ("unicode/utf8.first", laid_unicode_utf8_first)], narrowed := true }
def FnExactColSaidUptoSaid : Prop := fnExactColSaidUptoRow.holds Tryd.pinned (OpenSpec.upto fnExactColSaidSpec)

/-- 'laws.FnColSaid', WHERE WHAT IT READS IS OF BULK AT MOST 1048576: true; the input reads as it did. -/
def fnColSaidUptoRow : OpenClaim := { program := "ytfcogogpioeggaadoor", sum := "2d3258f7f8ed820c72961a682869dc089397e00ebbfb050cd901cfa8a87074a0", func := "loop.example/panework/laws.FnColSaid", spec := "fnColSaid", inPlace := ["internal/bytealg.CountString", "internal/bytealg.IndexByteString", "internal/bytealg.IndexString"], unfollowed := true, recurses := true, named := ["unicode/utf8.first", "unicode/utf8.acceptRanges", "internal/bytealg.MaxLen"], apart := false, laid := [("unicode/utf8.acceptRanges", laid_unicode_utf8_acceptRanges), ("unicode/utf8.first", laid_unicode_utf8_first)], narrowed := true }
def FnColSaidUptoSaid : Prop := fnColSaidUptoRow.holds Tryd.pinned (OpenSpec.upto fnColSaidSpec)

/-- 'laws.FnExactColAllFixed', WHERE WHAT IT READS IS OF BULK AT MOST 1048576: true; the input reads as it did. -/
def fnExactColAllFixedUptoRow : OpenClaim := { program := "ytfcogogpioeggaadoor", sum := "2d3258f7f8ed820c72961a682869dc089397e00ebbfb050cd901cfa8a87074a0", func := "loop.example/panework/laws.FnExactColAllFixed", spec := "fnExactColAllFixed", inPlace := ["internal/bytealg.CountString", "internal/bytealg.IndexByteString", "internal/bytealg.IndexString"], unfollowed := true, recurses := true, named := ["unicode/utf8.first", "unicode/utf8.acceptRanges", "internal/bytealg.MaxLen"], apart := false, laid := [("unicode/utf8.acceptRanges", laid_unicode_utf8_acceptRanges), ("unicode/utf8.first", laid_unicode_utf8_first)], narrowed := true }
def FnExactColAllFixedUptoSaid : Prop := fnExactColAllFixedUptoRow.holds Tryd.pinned (OpenSpec.upto fnExactColAllFixedSpec)

/-- 'laws.FnExactEdtSpan', WHERE WHAT IT READS IS OF BULK AT MOST 1048576: true; the input reads as it did. -/
def fnExactEdtSpanUptoRow : OpenClaim := { program := "ytfcogogpioeggaadoor", sum := "2d3258f7f8ed820c72961a682869dc089397e00ebbfb050cd901cfa8a87074a0", func := "loop.example/panework/laws.FnExactEdtSpan", spec := "fnExactEdtSpan", inPlace := ["internal/bytealg.CountString", "internal/bytealg.IndexByteString", "internal/bytealg.IndexString"], unfollowed := true, recurses := true, named := ["unicode/utf8.first", "unicode/utf8.acceptRanges", "internal/bytealg.MaxLen"], apart := false, laid := [("unicode/utf8.acceptRanges", laid_unicode_utf8_acceptRanges), ("unicode/utf8.first", laid_unicode_utf8_first)], narrowed := true }
def FnExactEdtSpanUptoSaid : Prop := fnExactEdtSpanUptoRow.holds Tryd.pinned (OpenSpec.upto fnExactEdtSpanSpec)

/-- 'laws.FnExactEdtTake', WHERE WHAT IT READS IS OF BULK AT MOST 1048576: true; the input reads as it did. -/
def fnExactEdtTakeUptoRow : OpenClaim := { program := "ytfcogogpioeggaadoor", sum := "2d3258f7f8ed820c72961a682869dc089397e00ebbfb050cd901cfa8a87074a0", func := "loop.example/panework/laws.FnExactEdtTake", spec := "fnExactEdtTake", inPlace := ["internal/bytealg.CountString", "internal/bytealg.IndexByteString", "internal/bytealg.IndexString"], unfollowed := true, recurses := true, named := ["unicode/utf8.first", "unicode/utf8.acceptRanges", "internal/bytealg.MaxLen"], apart := false, laid := [("unicode/utf8.acceptRanges", laid_unicode_utf8_acceptRanges), ("unicode/utf8.first", laid_unicode_utf8_first)], narrowed := true }
def FnExactEdtTakeUptoSaid : Prop := fnExactEdtTakeUptoRow.holds Tryd.pinned (OpenSpec.upto fnExactEdtTakeSpec)

/-- 'laws.FnExactEdtRow', WHERE WHAT IT READS IS OF BULK AT MOST 1048576: true; the input reads as it did. -/
def fnExactEdtRowUptoRow : OpenClaim := { program := "ytfcogogpioeggaadoor", sum := "2d3258f7f8ed820c72961a682869dc089397e00ebbfb050cd901cfa8a87074a0", func := "loop.example/panework/laws.FnExactEdtRow", spec := "fnExactEdtRow", inPlace := ["slices.overlaps[loop.example/panework/impl.TblRow]", "internal/bytealg.CountString", "internal/bytealg.IndexByteString", "internal/bytealg.IndexString"], unfollowed := true, recurses := true, named := ["unicode/utf8.first", "unicode/utf8.acceptRanges", "internal/bytealg.MaxLen"], apart := false, laid := [("unicode/utf8.acceptRanges", laid_unicode_utf8_acceptRanges), ("unicode/utf8.first", laid_unicode_utf8_first)], narrowed := true }
def FnExactEdtRowUptoSaid : Prop := fnExactEdtRowUptoRow.holds Tryd.pinned (OpenSpec.upto fnExactEdtRowSpec)

/-- 'laws.FnExactEdtPut', WHERE WHAT IT READS IS OF BULK AT MOST 1048576: true; the input reads as it did. -/
def fnExactEdtPutUptoRow : OpenClaim := { program := "ytfcogogpioeggaadoor", sum := "2d3258f7f8ed820c72961a682869dc089397e00ebbfb050cd901cfa8a87074a0", func := "loop.example/panework/laws.FnExactEdtPut", spec := "fnExactEdtPut", inPlace := ["internal/bytealg.CountString", "internal/bytealg.IndexByteString", "internal/bytealg.IndexString", "slices.overlaps[loop.example/panework/impl.TblCell]"], unfollowed := true, recurses := true, named := ["unicode/utf8.first", "unicode/utf8.acceptRanges", "internal/bytealg.MaxLen"], apart := false, laid := [("unicode/utf8.acceptRanges", laid_unicode_utf8_acceptRanges), ("unicode/utf8.first", laid_unicode_utf8_first)], narrowed := true }
def FnExactEdtPutUptoSaid : Prop := fnExactEdtPutUptoRow.holds Tryd.pinned (OpenSpec.upto fnExactEdtPutSpec)

end Rows
end Go.Proofs.YtfcogogpioeggaaDoor
