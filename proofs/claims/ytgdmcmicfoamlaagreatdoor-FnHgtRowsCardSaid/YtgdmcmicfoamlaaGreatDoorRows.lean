/-
  NARROWER THAN 'FOR EVERY INPUT', by the rows' own cells (each row's printed sentence says how): FnHgtRows: laid · FnHgtLines: laid · FnQryEmpty: laid · FnQryHit: laid · FnQryRects: laid · FnQryApart: laid · FnQryPicture: laid · FnPagFirst: laid · FnPagRow: laid · FnPagMore: laid · FnPagFew: laid · FnPagLines: laid · FnPagWhole: laid · FnPagHead: laid · FnPagOne: laid · FnPagHigh: laid.
  DERIVED. THE GIVEN ROWS OF THIS SEAT. 16 by the template 'for every input the law returns true; each argument reads behind the call as it read before'; 0 by the template 'total and deterministic' (their statements: YtgdmcmicfoamlaaGreatDoorTotals.lean).
  GIVEN WITH THE SEED: the statements are not yours to turn. If you find one false, say at which input.
  Laid BY PROGRAM, IN A SANDBOX (cutbox-rows.mjs): the forced cells as the released guide's own fill.sh prints them over the translation 8935695aad5b1327… (all of the seat's roots in one cut). By AI agents, Wed Nov 11 2026. No macro, syntax, notation, axiom, sorry.
-/
import Derived.Test.YtgdmcmicfoamlaaGreatDoorChecked
import GoSem.PinnedTables
import GoSem.Claim
import GoSem.ClaimJoined
import GoSem.ClaimMapViews
import Derived.JoinedTies
import Derived.KernelRfl
namespace Go.Proofs.YtgdmcmicfoamlaaGreatDoor
/- THE CELL 'sum', in the pinned program and in every row, IS THE sha256 OF THE DUMP (.gsa) THAT YtgdmcmicfoamlaaGreatDoorProg.lean LOADS. Nothing in Lean hashes anything: it is a label: what it is worth is what the hold of that sum in a sandbox is worth. -/
noncomputable def Tryz.pinned : Pinned := { name := "ytgdmcmicfoamlaagreatdoor", sum := "8935695aad5b1327a536f16759c83fd786d048bf49529a5467a2683f77f5fcf7", checked := Tryz.checked }
namespace Rows
def none {H : Type} : Left H := { results := [], args := [] }

/- WHAT THE LISTED PACKAGE-LEVEL VARIABLES READ AS WHEN THE CALL BEGINS. Each datum BY PROGRAM (the guide's laid-datum.mjs) off the statement by which the dump's own 'gosem.cut.vars' lays the variable. In a bare row this is a premise. The card (YtgdmcmicfoamlaaGreatDoorCards.lean) ties it to the program's text. -/
def laid_unicode_utf8_acceptRanges {H : Type} : DataW H := .agg [.agg [.lit (.int .u8 128), .lit (.int .u8 191)], .agg [.lit (.int .u8 160), .lit (.int .u8 191)], .agg [.lit (.int .u8 128), .lit (.int .u8 159)], .agg [.lit (.int .u8 144), .lit (.int .u8 191)], .agg [.lit (.int .u8 128), .lit (.int .u8 143)], .agg [.lit (.int .u8 0), .lit (.int .u8 0)], .agg [.lit (.int .u8 0), .lit (.int .u8 0)], .agg [.lit (.int .u8 0), .lit (.int .u8 0)], .agg [.lit (.int .u8 0), .lit (.int .u8 0)], .agg [.lit (.int .u8 0), .lit (.int .u8 0)], .agg [.lit (.int .u8 0), .lit (.int .u8 0)], .agg [.lit (.int .u8 0), .lit (.int .u8 0)], .agg [.lit (.int .u8 0), .lit (.int .u8 0)], .agg [.lit (.int .u8 0), .lit (.int .u8 0)], .agg [.lit (.int .u8 0), .lit (.int .u8 0)], .agg [.lit (.int .u8 0), .lit (.int .u8 0)]]
/-- One of Go's own tables, pinned by name: the form's constant. -/
def laid_unicode_utf8_first : DataW Unit := Go.Pinned.utf8First

/-- 'laws.FnHgtRows': WHATEVER THE INPUT: true; the input reads as it did. -/
def fnHgtRowsSpec : ChangeSpec := { name := "fnHgtRows", fn := fun _ => fun
  | [d] => { results := [.lit (.bool true)], args := [d] }
  | _ => none }
def fnHgtRowsRow : OpenClaim := { program := "ytgdmcmicfoamlaagreatdoor", sum := "8935695aad5b1327a536f16759c83fd786d048bf49529a5467a2683f77f5fcf7", func := "loop.example/panework/laws.FnHgtRows", spec := "fnHgtRows", inPlace := ["internal/bytealg.CountString", "internal/bytealg.IndexByteString", "internal/bytealg.IndexString"], unfollowed := true, recurses := true, named := ["unicode/utf8.first", "unicode/utf8.acceptRanges", "internal/bytealg.MaxLen"], apart := false, laid := [("unicode/utf8.acceptRanges", laid_unicode_utf8_acceptRanges), ("unicode/utf8.first", laid_unicode_utf8_first)] }
def FnHgtRowsSaid : Prop := fnHgtRowsRow.holds Tryz.pinned (OpenSpec.ofChange fnHgtRowsSpec)

/-- ITS FALSE NEIGHBOUR: 'it returns false'. Refute it at one input. -/
def fnHgtRowsWrong : ChangeSpec := { name := "fnHgtRows", fn := fun _ => fun
  | [d] => { results := [.lit (.bool false)], args := [d] }
  | _ => none }
def FnHgtRowsWrongFalsely : Prop := fnHgtRowsRow.holds Tryz.pinned (OpenSpec.ofChange fnHgtRowsWrong)

/-- 'laws.FnHgtLines': WHATEVER THE INPUT: true; the input reads as it did. -/
def fnHgtLinesSpec : ChangeSpec := { name := "fnHgtLines", fn := fun _ => fun
  | [d] => { results := [.lit (.bool true)], args := [d] }
  | _ => none }
def fnHgtLinesRow : OpenClaim := { program := "ytgdmcmicfoamlaagreatdoor", sum := "8935695aad5b1327a536f16759c83fd786d048bf49529a5467a2683f77f5fcf7", func := "loop.example/panework/laws.FnHgtLines", spec := "fnHgtLines", inPlace := ["internal/bytealg.CountString", "internal/bytealg.IndexByteString", "internal/bytealg.IndexString", "internal/abi.NoEscape", "internal/bytealg.MakeNoZero"], unfollowed := true, recurses := true, named := ["unicode/utf8.first", "unicode/utf8.acceptRanges", "internal/bytealg.MaxLen"], apart := false, laid := [("unicode/utf8.acceptRanges", laid_unicode_utf8_acceptRanges), ("unicode/utf8.first", laid_unicode_utf8_first)] }
def FnHgtLinesSaid : Prop := fnHgtLinesRow.holds Tryz.pinned (OpenSpec.ofChange fnHgtLinesSpec)

/-- ITS FALSE NEIGHBOUR: 'it returns false'. Refute it at one input. -/
def fnHgtLinesWrong : ChangeSpec := { name := "fnHgtLines", fn := fun _ => fun
  | [d] => { results := [.lit (.bool false)], args := [d] }
  | _ => none }
def FnHgtLinesWrongFalsely : Prop := fnHgtLinesRow.holds Tryz.pinned (OpenSpec.ofChange fnHgtLinesWrong)

/-- 'laws.FnQryEmpty': WHATEVER THE INPUT: true; the input reads as it did. -/
def fnQryEmptySpec : ChangeSpec := { name := "fnQryEmpty", fn := fun _ => fun
  | [d] => { results := [.lit (.bool true)], args := [d] }
  | _ => none }
def fnQryEmptyRow : OpenClaim := { program := "ytgdmcmicfoamlaagreatdoor", sum := "8935695aad5b1327a536f16759c83fd786d048bf49529a5467a2683f77f5fcf7", func := "loop.example/panework/laws.FnQryEmpty", spec := "fnQryEmpty", inPlace := ["internal/bytealg.CountString", "internal/bytealg.IndexByteString", "internal/bytealg.IndexString"], unfollowed := true, recurses := true, named := ["unicode/utf8.first", "unicode/utf8.acceptRanges", "internal/bytealg.MaxLen"], apart := false, laid := [("unicode/utf8.acceptRanges", laid_unicode_utf8_acceptRanges), ("unicode/utf8.first", laid_unicode_utf8_first)] }
def FnQryEmptySaid : Prop := fnQryEmptyRow.holds Tryz.pinned (OpenSpec.ofChange fnQryEmptySpec)

/-- ITS FALSE NEIGHBOUR: 'it returns false'. Refute it at one input. -/
def fnQryEmptyWrong : ChangeSpec := { name := "fnQryEmpty", fn := fun _ => fun
  | [d] => { results := [.lit (.bool false)], args := [d] }
  | _ => none }
def FnQryEmptyWrongFalsely : Prop := fnQryEmptyRow.holds Tryz.pinned (OpenSpec.ofChange fnQryEmptyWrong)

/-- 'laws.FnQryHit': WHATEVER THE INPUT: true; the input reads as it did. -/
def fnQryHitSpec : ChangeSpec := { name := "fnQryHit", fn := fun _ => fun
  | [d] => { results := [.lit (.bool true)], args := [d] }
  | _ => none }
def fnQryHitRow : OpenClaim := { program := "ytgdmcmicfoamlaagreatdoor", sum := "8935695aad5b1327a536f16759c83fd786d048bf49529a5467a2683f77f5fcf7", func := "loop.example/panework/laws.FnQryHit", spec := "fnQryHit", inPlace := ["internal/bytealg.CountString", "internal/bytealg.IndexByteString", "internal/bytealg.IndexString"], unfollowed := true, recurses := true, named := ["unicode/utf8.first", "unicode/utf8.acceptRanges", "internal/bytealg.MaxLen"], apart := false, laid := [("unicode/utf8.acceptRanges", laid_unicode_utf8_acceptRanges), ("unicode/utf8.first", laid_unicode_utf8_first)] }
def FnQryHitSaid : Prop := fnQryHitRow.holds Tryz.pinned (OpenSpec.ofChange fnQryHitSpec)

/-- ITS FALSE NEIGHBOUR: 'it returns false'. Refute it at one input. -/
def fnQryHitWrong : ChangeSpec := { name := "fnQryHit", fn := fun _ => fun
  | [d] => { results := [.lit (.bool false)], args := [d] }
  | _ => none }
def FnQryHitWrongFalsely : Prop := fnQryHitRow.holds Tryz.pinned (OpenSpec.ofChange fnQryHitWrong)

/-- 'laws.FnQryRects': WHATEVER THE INPUT: true; the input reads as it did. -/
def fnQryRectsSpec : ChangeSpec := { name := "fnQryRects", fn := fun _ => fun
  | [d] => { results := [.lit (.bool true)], args := [d] }
  | _ => none }
def fnQryRectsRow : OpenClaim := { program := "ytgdmcmicfoamlaagreatdoor", sum := "8935695aad5b1327a536f16759c83fd786d048bf49529a5467a2683f77f5fcf7", func := "loop.example/panework/laws.FnQryRects", spec := "fnQryRects", inPlace := ["internal/bytealg.CountString", "internal/bytealg.IndexByteString", "internal/bytealg.IndexString"], unfollowed := true, recurses := true, named := ["unicode/utf8.first", "unicode/utf8.acceptRanges", "internal/bytealg.MaxLen"], apart := false, laid := [("unicode/utf8.acceptRanges", laid_unicode_utf8_acceptRanges), ("unicode/utf8.first", laid_unicode_utf8_first)] }
def FnQryRectsSaid : Prop := fnQryRectsRow.holds Tryz.pinned (OpenSpec.ofChange fnQryRectsSpec)

/-- ITS FALSE NEIGHBOUR: 'it returns false'. Refute it at one input. -/
def fnQryRectsWrong : ChangeSpec := { name := "fnQryRects", fn := fun _ => fun
  | [d] => { results := [.lit (.bool false)], args := [d] }
  | _ => none }
def FnQryRectsWrongFalsely : Prop := fnQryRectsRow.holds Tryz.pinned (OpenSpec.ofChange fnQryRectsWrong)

/-- 'laws.FnQryApart': WHATEVER THE INPUT: true; the input reads as it did. -/
def fnQryApartSpec : ChangeSpec := { name := "fnQryApart", fn := fun _ => fun
  | [d] => { results := [.lit (.bool true)], args := [d] }
  | _ => none }
def fnQryApartRow : OpenClaim := { program := "ytgdmcmicfoamlaagreatdoor", sum := "8935695aad5b1327a536f16759c83fd786d048bf49529a5467a2683f77f5fcf7", func := "loop.example/panework/laws.FnQryApart", spec := "fnQryApart", inPlace := ["internal/bytealg.CountString", "internal/bytealg.IndexByteString", "internal/bytealg.IndexString"], unfollowed := true, recurses := true, named := ["unicode/utf8.first", "unicode/utf8.acceptRanges", "internal/bytealg.MaxLen"], apart := false, laid := [("unicode/utf8.acceptRanges", laid_unicode_utf8_acceptRanges), ("unicode/utf8.first", laid_unicode_utf8_first)] }
def FnQryApartSaid : Prop := fnQryApartRow.holds Tryz.pinned (OpenSpec.ofChange fnQryApartSpec)

/-- ITS FALSE NEIGHBOUR: 'it returns false'. Refute it at one input. -/
def fnQryApartWrong : ChangeSpec := { name := "fnQryApart", fn := fun _ => fun
  | [d] => { results := [.lit (.bool false)], args := [d] }
  | _ => none }
def FnQryApartWrongFalsely : Prop := fnQryApartRow.holds Tryz.pinned (OpenSpec.ofChange fnQryApartWrong)

/-- 'laws.FnQryPicture': WHATEVER THE INPUT: true; the input reads as it did. -/
def fnQryPictureSpec : ChangeSpec := { name := "fnQryPicture", fn := fun _ => fun
  | [d] => { results := [.lit (.bool true)], args := [d] }
  | _ => none }
def fnQryPictureRow : OpenClaim := { program := "ytgdmcmicfoamlaagreatdoor", sum := "8935695aad5b1327a536f16759c83fd786d048bf49529a5467a2683f77f5fcf7", func := "loop.example/panework/laws.FnQryPicture", spec := "fnQryPicture", inPlace := ["internal/bytealg.CountString", "internal/bytealg.IndexByteString", "internal/bytealg.IndexString", "internal/bytealg.MakeNoZero"], unfollowed := true, recurses := true, named := ["unicode/utf8.first", "unicode/utf8.acceptRanges", "internal/bytealg.MaxLen"], apart := false, laid := [("unicode/utf8.acceptRanges", laid_unicode_utf8_acceptRanges), ("unicode/utf8.first", laid_unicode_utf8_first)] }
def FnQryPictureSaid : Prop := fnQryPictureRow.holds Tryz.pinned (OpenSpec.ofChange fnQryPictureSpec)

/-- ITS FALSE NEIGHBOUR: 'it returns false'. Refute it at one input. -/
def fnQryPictureWrong : ChangeSpec := { name := "fnQryPicture", fn := fun _ => fun
  | [d] => { results := [.lit (.bool false)], args := [d] }
  | _ => none }
def FnQryPictureWrongFalsely : Prop := fnQryPictureRow.holds Tryz.pinned (OpenSpec.ofChange fnQryPictureWrong)

/-- 'laws.FnPagFirst': WHATEVER THE INPUT: true; the input reads as it did. -/
def fnPagFirstSpec : ChangeSpec := { name := "fnPagFirst", fn := fun _ => fun
  | [d1, d2] => { results := [.lit (.bool true)], args := [d1, d2] }
  | _ => none }
def fnPagFirstRow : OpenClaim := { program := "ytgdmcmicfoamlaagreatdoor", sum := "8935695aad5b1327a536f16759c83fd786d048bf49529a5467a2683f77f5fcf7", func := "loop.example/panework/laws.FnPagFirst", spec := "fnPagFirst", inPlace := ["internal/bytealg.CountString", "internal/bytealg.IndexByteString", "internal/bytealg.IndexString"], unfollowed := true, recurses := true, named := ["unicode/utf8.first", "unicode/utf8.acceptRanges", "internal/bytealg.MaxLen"], apart := false, laid := [("unicode/utf8.acceptRanges", laid_unicode_utf8_acceptRanges), ("unicode/utf8.first", laid_unicode_utf8_first)] }
def FnPagFirstSaid : Prop := fnPagFirstRow.holds Tryz.pinned (OpenSpec.ofChange fnPagFirstSpec)

/-- ITS FALSE NEIGHBOUR: 'it returns false'. Refute it at one input. -/
def fnPagFirstWrong : ChangeSpec := { name := "fnPagFirst", fn := fun _ => fun
  | [d1, d2] => { results := [.lit (.bool false)], args := [d1, d2] }
  | _ => none }
def FnPagFirstWrongFalsely : Prop := fnPagFirstRow.holds Tryz.pinned (OpenSpec.ofChange fnPagFirstWrong)

/-- 'laws.FnPagRow': WHATEVER THE INPUT: true; the input reads as it did. -/
def fnPagRowSpec : ChangeSpec := { name := "fnPagRow", fn := fun _ => fun
  | [d1, d2] => { results := [.lit (.bool true)], args := [d1, d2] }
  | _ => none }
def fnPagRowRow : OpenClaim := { program := "ytgdmcmicfoamlaagreatdoor", sum := "8935695aad5b1327a536f16759c83fd786d048bf49529a5467a2683f77f5fcf7", func := "loop.example/panework/laws.FnPagRow", spec := "fnPagRow", inPlace := ["internal/bytealg.CountString", "internal/bytealg.IndexByteString", "internal/bytealg.IndexString"], unfollowed := true, recurses := true, named := ["unicode/utf8.first", "unicode/utf8.acceptRanges", "internal/bytealg.MaxLen"], apart := false, laid := [("unicode/utf8.acceptRanges", laid_unicode_utf8_acceptRanges), ("unicode/utf8.first", laid_unicode_utf8_first)] }
def FnPagRowSaid : Prop := fnPagRowRow.holds Tryz.pinned (OpenSpec.ofChange fnPagRowSpec)

/-- ITS FALSE NEIGHBOUR: 'it returns false'. Refute it at one input. -/
def fnPagRowWrong : ChangeSpec := { name := "fnPagRow", fn := fun _ => fun
  | [d1, d2] => { results := [.lit (.bool false)], args := [d1, d2] }
  | _ => none }
def FnPagRowWrongFalsely : Prop := fnPagRowRow.holds Tryz.pinned (OpenSpec.ofChange fnPagRowWrong)

/-- 'laws.FnPagMore': WHATEVER THE INPUT: true; the input reads as it did. -/
def fnPagMoreSpec : ChangeSpec := { name := "fnPagMore", fn := fun _ => fun
  | [d] => { results := [.lit (.bool true)], args := [d] }
  | _ => none }
def fnPagMoreRow : OpenClaim := { program := "ytgdmcmicfoamlaagreatdoor", sum := "8935695aad5b1327a536f16759c83fd786d048bf49529a5467a2683f77f5fcf7", func := "loop.example/panework/laws.FnPagMore", spec := "fnPagMore", inPlace := ["internal/bytealg.CountString", "internal/bytealg.IndexByteString", "internal/bytealg.IndexString"], unfollowed := true, recurses := true, named := ["unicode/utf8.first", "unicode/utf8.acceptRanges", "internal/bytealg.MaxLen"], apart := false, laid := [("unicode/utf8.acceptRanges", laid_unicode_utf8_acceptRanges), ("unicode/utf8.first", laid_unicode_utf8_first)] }
def FnPagMoreSaid : Prop := fnPagMoreRow.holds Tryz.pinned (OpenSpec.ofChange fnPagMoreSpec)

/-- ITS FALSE NEIGHBOUR: 'it returns false'. Refute it at one input. -/
def fnPagMoreWrong : ChangeSpec := { name := "fnPagMore", fn := fun _ => fun
  | [d] => { results := [.lit (.bool false)], args := [d] }
  | _ => none }
def FnPagMoreWrongFalsely : Prop := fnPagMoreRow.holds Tryz.pinned (OpenSpec.ofChange fnPagMoreWrong)

/-- 'laws.FnPagFew': WHATEVER THE INPUT: true; the input reads as it did. -/
def fnPagFewSpec : ChangeSpec := { name := "fnPagFew", fn := fun _ => fun
  | [d] => { results := [.lit (.bool true)], args := [d] }
  | _ => none }
def fnPagFewRow : OpenClaim := { program := "ytgdmcmicfoamlaagreatdoor", sum := "8935695aad5b1327a536f16759c83fd786d048bf49529a5467a2683f77f5fcf7", func := "loop.example/panework/laws.FnPagFew", spec := "fnPagFew", inPlace := ["internal/bytealg.CountString", "internal/bytealg.IndexByteString", "internal/bytealg.IndexString"], unfollowed := true, recurses := true, named := ["unicode/utf8.first", "unicode/utf8.acceptRanges", "internal/bytealg.MaxLen"], apart := false, laid := [("unicode/utf8.acceptRanges", laid_unicode_utf8_acceptRanges), ("unicode/utf8.first", laid_unicode_utf8_first)] }
def FnPagFewSaid : Prop := fnPagFewRow.holds Tryz.pinned (OpenSpec.ofChange fnPagFewSpec)

/-- ITS FALSE NEIGHBOUR: 'it returns false'. Refute it at one input. -/
def fnPagFewWrong : ChangeSpec := { name := "fnPagFew", fn := fun _ => fun
  | [d] => { results := [.lit (.bool false)], args := [d] }
  | _ => none }
def FnPagFewWrongFalsely : Prop := fnPagFewRow.holds Tryz.pinned (OpenSpec.ofChange fnPagFewWrong)

/-- 'laws.FnPagLines': WHATEVER THE INPUT: true; the input reads as it did. -/
def fnPagLinesSpec : ChangeSpec := { name := "fnPagLines", fn := fun _ => fun
  | [d] => { results := [.lit (.bool true)], args := [d] }
  | _ => none }
def fnPagLinesRow : OpenClaim := { program := "ytgdmcmicfoamlaagreatdoor", sum := "8935695aad5b1327a536f16759c83fd786d048bf49529a5467a2683f77f5fcf7", func := "loop.example/panework/laws.FnPagLines", spec := "fnPagLines", inPlace := ["internal/bytealg.CountString", "internal/bytealg.IndexByteString", "internal/bytealg.IndexString"], unfollowed := true, recurses := true, named := ["unicode/utf8.first", "unicode/utf8.acceptRanges", "internal/bytealg.MaxLen"], apart := false, laid := [("unicode/utf8.acceptRanges", laid_unicode_utf8_acceptRanges), ("unicode/utf8.first", laid_unicode_utf8_first)] }
def FnPagLinesSaid : Prop := fnPagLinesRow.holds Tryz.pinned (OpenSpec.ofChange fnPagLinesSpec)

/-- ITS FALSE NEIGHBOUR: 'it returns false'. Refute it at one input. -/
def fnPagLinesWrong : ChangeSpec := { name := "fnPagLines", fn := fun _ => fun
  | [d] => { results := [.lit (.bool false)], args := [d] }
  | _ => none }
def FnPagLinesWrongFalsely : Prop := fnPagLinesRow.holds Tryz.pinned (OpenSpec.ofChange fnPagLinesWrong)

/-- 'laws.FnPagWhole': WHATEVER THE INPUT: true; the input reads as it did. -/
def fnPagWholeSpec : ChangeSpec := { name := "fnPagWhole", fn := fun _ => fun
  | [d] => { results := [.lit (.bool true)], args := [d] }
  | _ => none }
def fnPagWholeRow : OpenClaim := { program := "ytgdmcmicfoamlaagreatdoor", sum := "8935695aad5b1327a536f16759c83fd786d048bf49529a5467a2683f77f5fcf7", func := "loop.example/panework/laws.FnPagWhole", spec := "fnPagWhole", inPlace := ["internal/bytealg.CountString", "internal/bytealg.IndexByteString", "internal/bytealg.IndexString"], unfollowed := true, recurses := true, named := ["unicode/utf8.first", "unicode/utf8.acceptRanges", "internal/bytealg.MaxLen"], apart := false, laid := [("unicode/utf8.acceptRanges", laid_unicode_utf8_acceptRanges), ("unicode/utf8.first", laid_unicode_utf8_first)] }
def FnPagWholeSaid : Prop := fnPagWholeRow.holds Tryz.pinned (OpenSpec.ofChange fnPagWholeSpec)

/-- ITS FALSE NEIGHBOUR: 'it returns false'. Refute it at one input. -/
def fnPagWholeWrong : ChangeSpec := { name := "fnPagWhole", fn := fun _ => fun
  | [d] => { results := [.lit (.bool false)], args := [d] }
  | _ => none }
def FnPagWholeWrongFalsely : Prop := fnPagWholeRow.holds Tryz.pinned (OpenSpec.ofChange fnPagWholeWrong)

/-- 'laws.FnPagHead': WHATEVER THE INPUT: true; the input reads as it did. -/
def fnPagHeadSpec : ChangeSpec := { name := "fnPagHead", fn := fun _ => fun
  | [d] => { results := [.lit (.bool true)], args := [d] }
  | _ => none }
def fnPagHeadRow : OpenClaim := { program := "ytgdmcmicfoamlaagreatdoor", sum := "8935695aad5b1327a536f16759c83fd786d048bf49529a5467a2683f77f5fcf7", func := "loop.example/panework/laws.FnPagHead", spec := "fnPagHead", inPlace := ["internal/bytealg.CountString", "internal/bytealg.IndexByteString", "internal/bytealg.IndexString"], unfollowed := true, recurses := true, named := ["unicode/utf8.first", "unicode/utf8.acceptRanges", "internal/bytealg.MaxLen"], apart := false, laid := [("unicode/utf8.acceptRanges", laid_unicode_utf8_acceptRanges), ("unicode/utf8.first", laid_unicode_utf8_first)] }
def FnPagHeadSaid : Prop := fnPagHeadRow.holds Tryz.pinned (OpenSpec.ofChange fnPagHeadSpec)

/-- ITS FALSE NEIGHBOUR: 'it returns false'. Refute it at one input. -/
def fnPagHeadWrong : ChangeSpec := { name := "fnPagHead", fn := fun _ => fun
  | [d] => { results := [.lit (.bool false)], args := [d] }
  | _ => none }
def FnPagHeadWrongFalsely : Prop := fnPagHeadRow.holds Tryz.pinned (OpenSpec.ofChange fnPagHeadWrong)

/-- 'laws.FnPagOne': WHATEVER THE INPUT: true; the input reads as it did. -/
def fnPagOneSpec : ChangeSpec := { name := "fnPagOne", fn := fun _ => fun
  | [d] => { results := [.lit (.bool true)], args := [d] }
  | _ => none }
def fnPagOneRow : OpenClaim := { program := "ytgdmcmicfoamlaagreatdoor", sum := "8935695aad5b1327a536f16759c83fd786d048bf49529a5467a2683f77f5fcf7", func := "loop.example/panework/laws.FnPagOne", spec := "fnPagOne", inPlace := ["internal/bytealg.CountString", "internal/bytealg.IndexByteString", "internal/bytealg.IndexString"], unfollowed := true, recurses := true, named := ["unicode/utf8.first", "unicode/utf8.acceptRanges", "internal/bytealg.MaxLen"], apart := false, laid := [("unicode/utf8.acceptRanges", laid_unicode_utf8_acceptRanges), ("unicode/utf8.first", laid_unicode_utf8_first)] }
def FnPagOneSaid : Prop := fnPagOneRow.holds Tryz.pinned (OpenSpec.ofChange fnPagOneSpec)

/-- ITS FALSE NEIGHBOUR: 'it returns false'. Refute it at one input. -/
def fnPagOneWrong : ChangeSpec := { name := "fnPagOne", fn := fun _ => fun
  | [d] => { results := [.lit (.bool false)], args := [d] }
  | _ => none }
def FnPagOneWrongFalsely : Prop := fnPagOneRow.holds Tryz.pinned (OpenSpec.ofChange fnPagOneWrong)

/-- 'laws.FnPagHigh': WHATEVER THE INPUT: true; the input reads as it did. -/
def fnPagHighSpec : ChangeSpec := { name := "fnPagHigh", fn := fun _ => fun
  | [d] => { results := [.lit (.bool true)], args := [d] }
  | _ => none }
def fnPagHighRow : OpenClaim := { program := "ytgdmcmicfoamlaagreatdoor", sum := "8935695aad5b1327a536f16759c83fd786d048bf49529a5467a2683f77f5fcf7", func := "loop.example/panework/laws.FnPagHigh", spec := "fnPagHigh", inPlace := ["internal/bytealg.CountString", "internal/bytealg.IndexByteString", "internal/bytealg.IndexString"], unfollowed := true, recurses := true, named := ["unicode/utf8.first", "unicode/utf8.acceptRanges", "internal/bytealg.MaxLen"], apart := false, laid := [("unicode/utf8.acceptRanges", laid_unicode_utf8_acceptRanges), ("unicode/utf8.first", laid_unicode_utf8_first)] }
def FnPagHighSaid : Prop := fnPagHighRow.holds Tryz.pinned (OpenSpec.ofChange fnPagHighSpec)

/-- ITS FALSE NEIGHBOUR: 'it returns false'. Refute it at one input. -/
def fnPagHighWrong : ChangeSpec := { name := "fnPagHigh", fn := fun _ => fun
  | [d] => { results := [.lit (.bool false)], args := [d] }
  | _ => none }
def FnPagHighWrongFalsely : Prop := fnPagHighRow.holds Tryz.pinned (OpenSpec.ofChange fnPagHighWrong)

/- THE SECOND FORM. 'bulk': how many values and letters a reading holds, each counted each time it is reached (what is shared counts as often as it is met; a slice's spare places count too). A statement '..UptoSaid' is the law's where the arguments, and the package variables that the reading takes, are together of bulk at most 1048576: NARROWER than '..Said'. Prove '..Said' where nothing that the law and all that it calls make is longer than what came in: it says more and counts as full. Else prove '..UptoSaid'. A law counts once. -/
mutual
def uptoBulk {H : Type} : DataW H → Nat
  | .lit (.string bytes) => bytes.length + 1
  | .lit _ => 1
  | .nil => 1
  | .ptr d => uptoBulk d + 1
  | .slice elems spare => uptoBulkAll elems + uptoBulkAll spare + 1
  | .agg parts => uptoBulkAll parts + 1
  | .iface _ d => uptoBulk d + 1
  | .map entries => uptoBulkEntries entries + 1
  | .held _ => 1
def uptoBulkAll {H : Type} : List (DataW H) → Nat
  | [] => 0
  | d :: r => uptoBulk d + uptoBulkAll r
def uptoBulkEntries {H : Type} : List (Lit × DataW H) → Nat
  | [] => 0
  | x :: r => uptoBulkEntry x + uptoBulkEntries r
def uptoBulkEntry {H : Type} : Lit × DataW H → Nat
  | (.string bytes, d) => bytes.length + uptoBulk d + 1
  | (_, d) => uptoBulk d + 1
 end
def uptoSmall : (H : Type) → List (DataW H) → Bool := fun _ ds => decide (uptoBulkAll ds ≤ 1048576)
def OpenSpec.upto (s : _root_.Go.ChangeSpec) : _root_.Go.OpenSpec := { _root_.Go.OpenSpec.ofChange s with cond := some uptoSmall }

/-- 'laws.FnHgtRows', WHERE WHAT IT READS IS OF BULK AT MOST 1048576: true; the input reads as it did. -/
def fnHgtRowsUptoRow : OpenClaim := { program := "ytgdmcmicfoamlaagreatdoor", sum := "8935695aad5b1327a536f16759c83fd786d048bf49529a5467a2683f77f5fcf7", func := "loop.example/panework/laws.FnHgtRows", spec := "fnHgtRows", inPlace := ["internal/bytealg.CountString", "internal/bytealg.IndexByteString", "internal/bytealg.IndexString"], unfollowed := true, recurses := true, named := ["unicode/utf8.first", "unicode/utf8.acceptRanges", "internal/bytealg.MaxLen"], apart := false, laid := [("unicode/utf8.acceptRanges", laid_unicode_utf8_acceptRanges), ("unicode/utf8.first", laid_unicode_utf8_first)], narrowed := true }
def FnHgtRowsUptoSaid : Prop := fnHgtRowsUptoRow.holds Tryz.pinned (OpenSpec.upto fnHgtRowsSpec)

/-- 'laws.FnHgtLines', WHERE WHAT IT READS IS OF BULK AT MOST 1048576: true; the input reads as it did. -/
def fnHgtLinesUptoRow : OpenClaim := { program := "ytgdmcmicfoamlaagreatdoor", sum := "8935695aad5b1327a536f16759c83fd786d048bf49529a5467a2683f77f5fcf7", func := "loop.example/panework/laws.FnHgtLines", spec := "fnHgtLines", inPlace := ["internal/bytealg.CountString", "internal/bytealg.IndexByteString", "internal/bytealg.IndexString", "internal/abi.NoEscape", "internal/bytealg.MakeNoZero"], unfollowed := true, recurses := true, named := ["unicode/utf8.first", "unicode/utf8.acceptRanges", "internal/bytealg.MaxLen"], apart := false, laid := [("unicode/utf8.acceptRanges", laid_unicode_utf8_acceptRanges), ("unicode/utf8.first", laid_unicode_utf8_first)], narrowed := true }
def FnHgtLinesUptoSaid : Prop := fnHgtLinesUptoRow.holds Tryz.pinned (OpenSpec.upto fnHgtLinesSpec)

/-- 'laws.FnQryEmpty', WHERE WHAT IT READS IS OF BULK AT MOST 1048576: true; the input reads as it did. -/
def fnQryEmptyUptoRow : OpenClaim := { program := "ytgdmcmicfoamlaagreatdoor", sum := "8935695aad5b1327a536f16759c83fd786d048bf49529a5467a2683f77f5fcf7", func := "loop.example/panework/laws.FnQryEmpty", spec := "fnQryEmpty", inPlace := ["internal/bytealg.CountString", "internal/bytealg.IndexByteString", "internal/bytealg.IndexString"], unfollowed := true, recurses := true, named := ["unicode/utf8.first", "unicode/utf8.acceptRanges", "internal/bytealg.MaxLen"], apart := false, laid := [("unicode/utf8.acceptRanges", laid_unicode_utf8_acceptRanges), ("unicode/utf8.first", laid_unicode_utf8_first)], narrowed := true }
def FnQryEmptyUptoSaid : Prop := fnQryEmptyUptoRow.holds Tryz.pinned (OpenSpec.upto fnQryEmptySpec)

/-- 'laws.FnQryHit', WHERE WHAT IT READS IS OF BULK AT MOST 1048576: true; the input reads as it did. -/
def fnQryHitUptoRow : OpenClaim := { program := "ytgdmcmicfoamlaagreatdoor", sum := "8935695aad5b1327a536f16759c83fd786d048bf49529a5467a2683f77f5fcf7", func := "loop.example/panework/laws.FnQryHit", spec := "fnQryHit", inPlace := ["internal/bytealg.CountString", "internal/bytealg.IndexByteString", "internal/bytealg.IndexString"], unfollowed := true, recurses := true, named := ["unicode/utf8.first", "unicode/utf8.acceptRanges", "internal/bytealg.MaxLen"], apart := false, laid := [("unicode/utf8.acceptRanges", laid_unicode_utf8_acceptRanges), ("unicode/utf8.first", laid_unicode_utf8_first)], narrowed := true }
def FnQryHitUptoSaid : Prop := fnQryHitUptoRow.holds Tryz.pinned (OpenSpec.upto fnQryHitSpec)

/-- 'laws.FnQryRects', WHERE WHAT IT READS IS OF BULK AT MOST 1048576: true; the input reads as it did. -/
def fnQryRectsUptoRow : OpenClaim := { program := "ytgdmcmicfoamlaagreatdoor", sum := "8935695aad5b1327a536f16759c83fd786d048bf49529a5467a2683f77f5fcf7", func := "loop.example/panework/laws.FnQryRects", spec := "fnQryRects", inPlace := ["internal/bytealg.CountString", "internal/bytealg.IndexByteString", "internal/bytealg.IndexString"], unfollowed := true, recurses := true, named := ["unicode/utf8.first", "unicode/utf8.acceptRanges", "internal/bytealg.MaxLen"], apart := false, laid := [("unicode/utf8.acceptRanges", laid_unicode_utf8_acceptRanges), ("unicode/utf8.first", laid_unicode_utf8_first)], narrowed := true }
def FnQryRectsUptoSaid : Prop := fnQryRectsUptoRow.holds Tryz.pinned (OpenSpec.upto fnQryRectsSpec)

/-- 'laws.FnQryApart', WHERE WHAT IT READS IS OF BULK AT MOST 1048576: true; the input reads as it did. -/
def fnQryApartUptoRow : OpenClaim := { program := "ytgdmcmicfoamlaagreatdoor", sum := "8935695aad5b1327a536f16759c83fd786d048bf49529a5467a2683f77f5fcf7", func := "loop.example/panework/laws.FnQryApart", spec := "fnQryApart", inPlace := ["internal/bytealg.CountString", "internal/bytealg.IndexByteString", "internal/bytealg.IndexString"], unfollowed := true, recurses := true, named := ["unicode/utf8.first", "unicode/utf8.acceptRanges", "internal/bytealg.MaxLen"], apart := false, laid := [("unicode/utf8.acceptRanges", laid_unicode_utf8_acceptRanges), ("unicode/utf8.first", laid_unicode_utf8_first)], narrowed := true }
def FnQryApartUptoSaid : Prop := fnQryApartUptoRow.holds Tryz.pinned (OpenSpec.upto fnQryApartSpec)

/-- 'laws.FnQryPicture', WHERE WHAT IT READS IS OF BULK AT MOST 1048576: true; the input reads as it did. -/
def fnQryPictureUptoRow : OpenClaim := { program := "ytgdmcmicfoamlaagreatdoor", sum := "8935695aad5b1327a536f16759c83fd786d048bf49529a5467a2683f77f5fcf7", func := "loop.example/panework/laws.FnQryPicture", spec := "fnQryPicture", inPlace := ["internal/bytealg.CountString", "internal/bytealg.IndexByteString", "internal/bytealg.IndexString", "internal/bytealg.MakeNoZero"], unfollowed := true, recurses := true, named := ["unicode/utf8.first", "unicode/utf8.acceptRanges", "internal/bytealg.MaxLen"], apart := false, laid := [("unicode/utf8.acceptRanges", laid_unicode_utf8_acceptRanges), ("unicode/utf8.first", laid_unicode_utf8_first)], narrowed := true }
def FnQryPictureUptoSaid : Prop := fnQryPictureUptoRow.holds Tryz.pinned (OpenSpec.upto fnQryPictureSpec)

/-- 'laws.FnPagFirst', WHERE WHAT IT READS IS OF BULK AT MOST 1048576: true; the input reads as it did. -/
def fnPagFirstUptoRow : OpenClaim := { program := "ytgdmcmicfoamlaagreatdoor", sum := "8935695aad5b1327a536f16759c83fd786d048bf49529a5467a2683f77f5fcf7", func := "loop.example/panework/laws.FnPagFirst", spec := "fnPagFirst", inPlace := ["internal/bytealg.CountString", "internal/bytealg.IndexByteString", "internal/bytealg.IndexString"], unfollowed := true, recurses := true, named := ["unicode/utf8.first", "unicode/utf8.acceptRanges", "internal/bytealg.MaxLen"], apart := false, laid := [("unicode/utf8.acceptRanges", laid_unicode_utf8_acceptRanges), ("unicode/utf8.first", laid_unicode_utf8_first)], narrowed := true }
def FnPagFirstUptoSaid : Prop := fnPagFirstUptoRow.holds Tryz.pinned (OpenSpec.upto fnPagFirstSpec)

/-- 'laws.FnPagRow', WHERE WHAT IT READS IS OF BULK AT MOST 1048576: true; the input reads as it did. -/
def fnPagRowUptoRow : OpenClaim := { program := "ytgdmcmicfoamlaagreatdoor", sum := "8935695aad5b1327a536f16759c83fd786d048bf49529a5467a2683f77f5fcf7", func := "loop.example/panework/laws.FnPagRow", spec := "fnPagRow", inPlace := ["internal/bytealg.CountString", "internal/bytealg.IndexByteString", "internal/bytealg.IndexString"], unfollowed := true, recurses := true, named := ["unicode/utf8.first", "unicode/utf8.acceptRanges", "internal/bytealg.MaxLen"], apart := false, laid := [("unicode/utf8.acceptRanges", laid_unicode_utf8_acceptRanges), ("unicode/utf8.first", laid_unicode_utf8_first)], narrowed := true }
def FnPagRowUptoSaid : Prop := fnPagRowUptoRow.holds Tryz.pinned (OpenSpec.upto fnPagRowSpec)

/-- 'laws.FnPagMore', WHERE WHAT IT READS IS OF BULK AT MOST 1048576: true; the input reads as it did. -/
def fnPagMoreUptoRow : OpenClaim := { program := "ytgdmcmicfoamlaagreatdoor", sum := "8935695aad5b1327a536f16759c83fd786d048bf49529a5467a2683f77f5fcf7", func := "loop.example/panework/laws.FnPagMore", spec := "fnPagMore", inPlace := ["internal/bytealg.CountString", "internal/bytealg.IndexByteString", "internal/bytealg.IndexString"], unfollowed := true, recurses := true, named := ["unicode/utf8.first", "unicode/utf8.acceptRanges", "internal/bytealg.MaxLen"], apart := false, laid := [("unicode/utf8.acceptRanges", laid_unicode_utf8_acceptRanges), ("unicode/utf8.first", laid_unicode_utf8_first)], narrowed := true }
def FnPagMoreUptoSaid : Prop := fnPagMoreUptoRow.holds Tryz.pinned (OpenSpec.upto fnPagMoreSpec)

/-- 'laws.FnPagFew', WHERE WHAT IT READS IS OF BULK AT MOST 1048576: true; the input reads as it did. -/
def fnPagFewUptoRow : OpenClaim := { program := "ytgdmcmicfoamlaagreatdoor", sum := "8935695aad5b1327a536f16759c83fd786d048bf49529a5467a2683f77f5fcf7", func := "loop.example/panework/laws.FnPagFew", spec := "fnPagFew", inPlace := ["internal/bytealg.CountString", "internal/bytealg.IndexByteString", "internal/bytealg.IndexString"], unfollowed := true, recurses := true, named := ["unicode/utf8.first", "unicode/utf8.acceptRanges", "internal/bytealg.MaxLen"], apart := false, laid := [("unicode/utf8.acceptRanges", laid_unicode_utf8_acceptRanges), ("unicode/utf8.first", laid_unicode_utf8_first)], narrowed := true }
def FnPagFewUptoSaid : Prop := fnPagFewUptoRow.holds Tryz.pinned (OpenSpec.upto fnPagFewSpec)

/-- 'laws.FnPagLines', WHERE WHAT IT READS IS OF BULK AT MOST 1048576: true; the input reads as it did. -/
def fnPagLinesUptoRow : OpenClaim := { program := "ytgdmcmicfoamlaagreatdoor", sum := "8935695aad5b1327a536f16759c83fd786d048bf49529a5467a2683f77f5fcf7", func := "loop.example/panework/laws.FnPagLines", spec := "fnPagLines", inPlace := ["internal/bytealg.CountString", "internal/bytealg.IndexByteString", "internal/bytealg.IndexString"], unfollowed := true, recurses := true, named := ["unicode/utf8.first", "unicode/utf8.acceptRanges", "internal/bytealg.MaxLen"], apart := false, laid := [("unicode/utf8.acceptRanges", laid_unicode_utf8_acceptRanges), ("unicode/utf8.first", laid_unicode_utf8_first)], narrowed := true }
def FnPagLinesUptoSaid : Prop := fnPagLinesUptoRow.holds Tryz.pinned (OpenSpec.upto fnPagLinesSpec)

/-- 'laws.FnPagWhole', WHERE WHAT IT READS IS OF BULK AT MOST 1048576: true; the input reads as it did. -/
def fnPagWholeUptoRow : OpenClaim := { program := "ytgdmcmicfoamlaagreatdoor", sum := "8935695aad5b1327a536f16759c83fd786d048bf49529a5467a2683f77f5fcf7", func := "loop.example/panework/laws.FnPagWhole", spec := "fnPagWhole", inPlace := ["internal/bytealg.CountString", "internal/bytealg.IndexByteString", "internal/bytealg.IndexString"], unfollowed := true, recurses := true, named := ["unicode/utf8.first", "unicode/utf8.acceptRanges", "internal/bytealg.MaxLen"], apart := false, laid := [("unicode/utf8.acceptRanges", laid_unicode_utf8_acceptRanges), ("unicode/utf8.first", laid_unicode_utf8_first)], narrowed := true }
def FnPagWholeUptoSaid : Prop := fnPagWholeUptoRow.holds Tryz.pinned (OpenSpec.upto fnPagWholeSpec)

/-- 'laws.FnPagHead', WHERE WHAT IT READS IS OF BULK AT MOST 1048576: true; the input reads as it did. -/
def fnPagHeadUptoRow : OpenClaim := { program := "ytgdmcmicfoamlaagreatdoor", sum := "8935695aad5b1327a536f16759c83fd786d048bf49529a5467a2683f77f5fcf7", func := "loop.example/panework/laws.FnPagHead", spec := "fnPagHead", inPlace := ["internal/bytealg.CountString", "internal/bytealg.IndexByteString", "internal/bytealg.IndexString"], unfollowed := true, recurses := true, named := ["unicode/utf8.first", "unicode/utf8.acceptRanges", "internal/bytealg.MaxLen"], apart := false, laid := [("unicode/utf8.acceptRanges", laid_unicode_utf8_acceptRanges), ("unicode/utf8.first", laid_unicode_utf8_first)], narrowed := true }
def FnPagHeadUptoSaid : Prop := fnPagHeadUptoRow.holds Tryz.pinned (OpenSpec.upto fnPagHeadSpec)

/-- 'laws.FnPagOne', WHERE WHAT IT READS IS OF BULK AT MOST 1048576: true; the input reads as it did. -/
def fnPagOneUptoRow : OpenClaim := { program := "ytgdmcmicfoamlaagreatdoor", sum := "8935695aad5b1327a536f16759c83fd786d048bf49529a5467a2683f77f5fcf7", func := "loop.example/panework/laws.FnPagOne", spec := "fnPagOne", inPlace := ["internal/bytealg.CountString", "internal/bytealg.IndexByteString", "internal/bytealg.IndexString"], unfollowed := true, recurses := true, named := ["unicode/utf8.first", "unicode/utf8.acceptRanges", "internal/bytealg.MaxLen"], apart := false, laid := [("unicode/utf8.acceptRanges", laid_unicode_utf8_acceptRanges), ("unicode/utf8.first", laid_unicode_utf8_first)], narrowed := true }
def FnPagOneUptoSaid : Prop := fnPagOneUptoRow.holds Tryz.pinned (OpenSpec.upto fnPagOneSpec)

/-- 'laws.FnPagHigh', WHERE WHAT IT READS IS OF BULK AT MOST 1048576: true; the input reads as it did. -/
def fnPagHighUptoRow : OpenClaim := { program := "ytgdmcmicfoamlaagreatdoor", sum := "8935695aad5b1327a536f16759c83fd786d048bf49529a5467a2683f77f5fcf7", func := "loop.example/panework/laws.FnPagHigh", spec := "fnPagHigh", inPlace := ["internal/bytealg.CountString", "internal/bytealg.IndexByteString", "internal/bytealg.IndexString"], unfollowed := true, recurses := true, named := ["unicode/utf8.first", "unicode/utf8.acceptRanges", "internal/bytealg.MaxLen"], apart := false, laid := [("unicode/utf8.acceptRanges", laid_unicode_utf8_acceptRanges), ("unicode/utf8.first", laid_unicode_utf8_first)], narrowed := true }
def FnPagHighUptoSaid : Prop := fnPagHighUptoRow.holds Tryz.pinned (OpenSpec.upto fnPagHighSpec)

end Rows
end Go.Proofs.YtgdmcmicfoamlaaGreatDoor
