/-
  NARROWER THAN 'FOR EVERY INPUT', by the rows' own cells (each row's printed sentence says how): FnColLeast: laid · FnColTight: laid · FnColMore: laid · FnColFloor: laid · FnWidAlone: laid · FnWidMore: laid · FnWidParts: laid · FnWidLeast: laid · FnWidSum: laid · FnWidWish: laid · FnHgtMore: laid · FnEdtDrag: laid.
  DERIVED. THE GIVEN ROWS OF THIS SEAT. 12 by the template 'for every input the law returns true; each argument reads behind the call as it read before'; 0 by the template 'total and deterministic' (their statements: YtpfagdmmhgcmnaaGreatDoorTotals.lean).
  GIVEN WITH THE SEED: the statements are not yours to turn. If you find one false, say at which input.
  Laid BY PROGRAM, IN A SANDBOX (cutbox-rows.mjs): the forced cells as the released guide's own fill.sh prints them over the translation bdab9f408e81f832… (all of the seat's roots in one cut). By AI agents, Wed Nov 11 2026. No macro, syntax, notation, axiom, sorry.
-/
import Derived.Test.YtpfagdmmhgcmnaaGreatDoorChecked
import GoSem.PinnedTables
import GoSem.Claim
import GoSem.ClaimJoined
import GoSem.ClaimMapViews
import Derived.JoinedTies
import Derived.KernelRfl
namespace Go.Proofs.YtpfagdmmhgcmnaaGreatDoor
/- THE CELL 'sum', in the pinned program and in every row, IS THE sha256 OF THE DUMP (.gsa) THAT YtpfagdmmhgcmnaaGreatDoorProg.lean LOADS. Nothing in Lean hashes anything: it is a label: what it is worth is what the hold of that sum in a sandbox is worth. -/
noncomputable def Tryz.pinned : Pinned := { name := "ytpfagdmmhgcmnaagreatdoor", sum := "bdab9f408e81f832b5621fa9910f95ce0fe5f6c874451b3d87fb663c1906fd37", checked := Tryz.checked }
namespace Rows
def none {H : Type} : Left H := { results := [], args := [] }

/- WHAT THE LISTED PACKAGE-LEVEL VARIABLES READ AS WHEN THE CALL BEGINS. Each datum BY PROGRAM (the guide's laid-datum.mjs) off the statement by which the dump's own 'gosem.cut.vars' lays the variable. In a bare row this is a premise. The card (YtpfagdmmhgcmnaaGreatDoorCards.lean) ties it to the program's text. -/
def laid_unicode_utf8_acceptRanges {H : Type} : DataW H := .agg [.agg [.lit (.int .u8 128), .lit (.int .u8 191)], .agg [.lit (.int .u8 160), .lit (.int .u8 191)], .agg [.lit (.int .u8 128), .lit (.int .u8 159)], .agg [.lit (.int .u8 144), .lit (.int .u8 191)], .agg [.lit (.int .u8 128), .lit (.int .u8 143)], .agg [.lit (.int .u8 0), .lit (.int .u8 0)], .agg [.lit (.int .u8 0), .lit (.int .u8 0)], .agg [.lit (.int .u8 0), .lit (.int .u8 0)], .agg [.lit (.int .u8 0), .lit (.int .u8 0)], .agg [.lit (.int .u8 0), .lit (.int .u8 0)], .agg [.lit (.int .u8 0), .lit (.int .u8 0)], .agg [.lit (.int .u8 0), .lit (.int .u8 0)], .agg [.lit (.int .u8 0), .lit (.int .u8 0)], .agg [.lit (.int .u8 0), .lit (.int .u8 0)], .agg [.lit (.int .u8 0), .lit (.int .u8 0)], .agg [.lit (.int .u8 0), .lit (.int .u8 0)]]
/-- One of Go's own tables, pinned by name: the form's constant. -/
def laid_unicode_utf8_first : DataW Unit := Go.Pinned.utf8First

/-- 'laws.FnColLeast': WHATEVER THE INPUT: true; the input reads as it did. -/
def fnColLeastSpec : ChangeSpec := { name := "fnColLeast", fn := fun _ => fun
  | [d] => { results := [.lit (.bool true)], args := [d] }
  | _ => none }
def fnColLeastRow : OpenClaim := { program := "ytpfagdmmhgcmnaagreatdoor", sum := "bdab9f408e81f832b5621fa9910f95ce0fe5f6c874451b3d87fb663c1906fd37", func := "loop.example/panework/laws.FnColLeast", spec := "fnColLeast", inPlace := ["internal/bytealg.CountString", "internal/bytealg.IndexByteString", "internal/bytealg.IndexString"], unfollowed := true, recurses := true, named := ["unicode/utf8.first", "unicode/utf8.acceptRanges", "internal/bytealg.MaxLen"], apart := false, laid := [("unicode/utf8.acceptRanges", laid_unicode_utf8_acceptRanges), ("unicode/utf8.first", laid_unicode_utf8_first)] }
def FnColLeastSaid : Prop := fnColLeastRow.holds Tryz.pinned (OpenSpec.ofChange fnColLeastSpec)

/-- ITS FALSE NEIGHBOUR: 'it returns false'. Refute it at one input. -/
def fnColLeastWrong : ChangeSpec := { name := "fnColLeast", fn := fun _ => fun
  | [d] => { results := [.lit (.bool false)], args := [d] }
  | _ => none }
def FnColLeastWrongFalsely : Prop := fnColLeastRow.holds Tryz.pinned (OpenSpec.ofChange fnColLeastWrong)

/-- 'laws.FnColTight': WHATEVER THE INPUT: true; the input reads as it did. -/
def fnColTightSpec : ChangeSpec := { name := "fnColTight", fn := fun _ => fun
  | [d] => { results := [.lit (.bool true)], args := [d] }
  | _ => none }
def fnColTightRow : OpenClaim := { program := "ytpfagdmmhgcmnaagreatdoor", sum := "bdab9f408e81f832b5621fa9910f95ce0fe5f6c874451b3d87fb663c1906fd37", func := "loop.example/panework/laws.FnColTight", spec := "fnColTight", inPlace := ["internal/bytealg.CountString", "internal/bytealg.IndexByteString", "internal/bytealg.IndexString"], unfollowed := true, recurses := true, named := ["unicode/utf8.first", "unicode/utf8.acceptRanges", "internal/bytealg.MaxLen"], apart := false, laid := [("unicode/utf8.acceptRanges", laid_unicode_utf8_acceptRanges), ("unicode/utf8.first", laid_unicode_utf8_first)] }
def FnColTightSaid : Prop := fnColTightRow.holds Tryz.pinned (OpenSpec.ofChange fnColTightSpec)

/-- ITS FALSE NEIGHBOUR: 'it returns false'. Refute it at one input. -/
def fnColTightWrong : ChangeSpec := { name := "fnColTight", fn := fun _ => fun
  | [d] => { results := [.lit (.bool false)], args := [d] }
  | _ => none }
def FnColTightWrongFalsely : Prop := fnColTightRow.holds Tryz.pinned (OpenSpec.ofChange fnColTightWrong)

/-- 'laws.FnColMore': WHATEVER THE INPUT: true; the input reads as it did. -/
def fnColMoreSpec : ChangeSpec := { name := "fnColMore", fn := fun _ => fun
  | [d] => { results := [.lit (.bool true)], args := [d] }
  | _ => none }
def fnColMoreRow : OpenClaim := { program := "ytpfagdmmhgcmnaagreatdoor", sum := "bdab9f408e81f832b5621fa9910f95ce0fe5f6c874451b3d87fb663c1906fd37", func := "loop.example/panework/laws.FnColMore", spec := "fnColMore", inPlace := ["internal/bytealg.CountString", "internal/bytealg.IndexByteString", "internal/bytealg.IndexString"], unfollowed := true, recurses := true, named := ["unicode/utf8.first", "unicode/utf8.acceptRanges", "internal/bytealg.MaxLen"], apart := false, laid := [("unicode/utf8.acceptRanges", laid_unicode_utf8_acceptRanges), ("unicode/utf8.first", laid_unicode_utf8_first)] }
def FnColMoreSaid : Prop := fnColMoreRow.holds Tryz.pinned (OpenSpec.ofChange fnColMoreSpec)

/-- ITS FALSE NEIGHBOUR: 'it returns false'. Refute it at one input. -/
def fnColMoreWrong : ChangeSpec := { name := "fnColMore", fn := fun _ => fun
  | [d] => { results := [.lit (.bool false)], args := [d] }
  | _ => none }
def FnColMoreWrongFalsely : Prop := fnColMoreRow.holds Tryz.pinned (OpenSpec.ofChange fnColMoreWrong)

/-- 'laws.FnColFloor': WHATEVER THE INPUT: true; the input reads as it did. -/
def fnColFloorSpec : ChangeSpec := { name := "fnColFloor", fn := fun _ => fun
  | [d] => { results := [.lit (.bool true)], args := [d] }
  | _ => none }
def fnColFloorRow : OpenClaim := { program := "ytpfagdmmhgcmnaagreatdoor", sum := "bdab9f408e81f832b5621fa9910f95ce0fe5f6c874451b3d87fb663c1906fd37", func := "loop.example/panework/laws.FnColFloor", spec := "fnColFloor", inPlace := ["internal/bytealg.CountString", "internal/bytealg.IndexByteString", "internal/bytealg.IndexString"], unfollowed := true, recurses := true, named := ["unicode/utf8.first", "unicode/utf8.acceptRanges", "internal/bytealg.MaxLen"], apart := false, laid := [("unicode/utf8.acceptRanges", laid_unicode_utf8_acceptRanges), ("unicode/utf8.first", laid_unicode_utf8_first)] }
def FnColFloorSaid : Prop := fnColFloorRow.holds Tryz.pinned (OpenSpec.ofChange fnColFloorSpec)

/-- ITS FALSE NEIGHBOUR: 'it returns false'. Refute it at one input. -/
def fnColFloorWrong : ChangeSpec := { name := "fnColFloor", fn := fun _ => fun
  | [d] => { results := [.lit (.bool false)], args := [d] }
  | _ => none }
def FnColFloorWrongFalsely : Prop := fnColFloorRow.holds Tryz.pinned (OpenSpec.ofChange fnColFloorWrong)

/-- 'laws.FnWidAlone': WHATEVER THE INPUT: true; the input reads as it did. -/
def fnWidAloneSpec : ChangeSpec := { name := "fnWidAlone", fn := fun _ => fun
  | [d] => { results := [.lit (.bool true)], args := [d] }
  | _ => none }
def fnWidAloneRow : OpenClaim := { program := "ytpfagdmmhgcmnaagreatdoor", sum := "bdab9f408e81f832b5621fa9910f95ce0fe5f6c874451b3d87fb663c1906fd37", func := "loop.example/panework/laws.FnWidAlone", spec := "fnWidAlone", inPlace := ["internal/bytealg.CountString", "internal/bytealg.IndexByteString", "internal/bytealg.IndexString"], unfollowed := true, recurses := true, named := ["unicode/utf8.first", "unicode/utf8.acceptRanges", "internal/bytealg.MaxLen"], apart := false, laid := [("unicode/utf8.acceptRanges", laid_unicode_utf8_acceptRanges), ("unicode/utf8.first", laid_unicode_utf8_first)] }
def FnWidAloneSaid : Prop := fnWidAloneRow.holds Tryz.pinned (OpenSpec.ofChange fnWidAloneSpec)

/-- ITS FALSE NEIGHBOUR: 'it returns false'. Refute it at one input. -/
def fnWidAloneWrong : ChangeSpec := { name := "fnWidAlone", fn := fun _ => fun
  | [d] => { results := [.lit (.bool false)], args := [d] }
  | _ => none }
def FnWidAloneWrongFalsely : Prop := fnWidAloneRow.holds Tryz.pinned (OpenSpec.ofChange fnWidAloneWrong)

/-- 'laws.FnWidMore': WHATEVER THE INPUT: true; the input reads as it did. -/
def fnWidMoreSpec : ChangeSpec := { name := "fnWidMore", fn := fun _ => fun
  | [d] => { results := [.lit (.bool true)], args := [d] }
  | _ => none }
def fnWidMoreRow : OpenClaim := { program := "ytpfagdmmhgcmnaagreatdoor", sum := "bdab9f408e81f832b5621fa9910f95ce0fe5f6c874451b3d87fb663c1906fd37", func := "loop.example/panework/laws.FnWidMore", spec := "fnWidMore", inPlace := ["internal/bytealg.CountString", "internal/bytealg.IndexByteString", "internal/bytealg.IndexString"], unfollowed := true, recurses := true, named := ["unicode/utf8.first", "unicode/utf8.acceptRanges", "internal/bytealg.MaxLen"], apart := false, laid := [("unicode/utf8.acceptRanges", laid_unicode_utf8_acceptRanges), ("unicode/utf8.first", laid_unicode_utf8_first)] }
def FnWidMoreSaid : Prop := fnWidMoreRow.holds Tryz.pinned (OpenSpec.ofChange fnWidMoreSpec)

/-- ITS FALSE NEIGHBOUR: 'it returns false'. Refute it at one input. -/
def fnWidMoreWrong : ChangeSpec := { name := "fnWidMore", fn := fun _ => fun
  | [d] => { results := [.lit (.bool false)], args := [d] }
  | _ => none }
def FnWidMoreWrongFalsely : Prop := fnWidMoreRow.holds Tryz.pinned (OpenSpec.ofChange fnWidMoreWrong)

/-- 'laws.FnWidParts': WHATEVER THE INPUT: true; the input reads as it did. -/
def fnWidPartsSpec : ChangeSpec := { name := "fnWidParts", fn := fun _ => fun
  | [d] => { results := [.lit (.bool true)], args := [d] }
  | _ => none }
def fnWidPartsRow : OpenClaim := { program := "ytpfagdmmhgcmnaagreatdoor", sum := "bdab9f408e81f832b5621fa9910f95ce0fe5f6c874451b3d87fb663c1906fd37", func := "loop.example/panework/laws.FnWidParts", spec := "fnWidParts", inPlace := ["internal/bytealg.CountString", "internal/bytealg.IndexByteString", "internal/bytealg.IndexString"], unfollowed := true, recurses := true, named := ["unicode/utf8.first", "unicode/utf8.acceptRanges", "internal/bytealg.MaxLen"], apart := false, laid := [("unicode/utf8.acceptRanges", laid_unicode_utf8_acceptRanges), ("unicode/utf8.first", laid_unicode_utf8_first)] }
def FnWidPartsSaid : Prop := fnWidPartsRow.holds Tryz.pinned (OpenSpec.ofChange fnWidPartsSpec)

/-- ITS FALSE NEIGHBOUR: 'it returns false'. Refute it at one input. -/
def fnWidPartsWrong : ChangeSpec := { name := "fnWidParts", fn := fun _ => fun
  | [d] => { results := [.lit (.bool false)], args := [d] }
  | _ => none }
def FnWidPartsWrongFalsely : Prop := fnWidPartsRow.holds Tryz.pinned (OpenSpec.ofChange fnWidPartsWrong)

/-- 'laws.FnWidLeast': WHATEVER THE INPUT: true; the input reads as it did. -/
def fnWidLeastSpec : ChangeSpec := { name := "fnWidLeast", fn := fun _ => fun
  | [d] => { results := [.lit (.bool true)], args := [d] }
  | _ => none }
def fnWidLeastRow : OpenClaim := { program := "ytpfagdmmhgcmnaagreatdoor", sum := "bdab9f408e81f832b5621fa9910f95ce0fe5f6c874451b3d87fb663c1906fd37", func := "loop.example/panework/laws.FnWidLeast", spec := "fnWidLeast", inPlace := ["internal/bytealg.CountString", "internal/bytealg.IndexByteString", "internal/bytealg.IndexString"], unfollowed := true, recurses := true, named := ["unicode/utf8.first", "unicode/utf8.acceptRanges", "internal/bytealg.MaxLen"], apart := false, laid := [("unicode/utf8.acceptRanges", laid_unicode_utf8_acceptRanges), ("unicode/utf8.first", laid_unicode_utf8_first)] }
def FnWidLeastSaid : Prop := fnWidLeastRow.holds Tryz.pinned (OpenSpec.ofChange fnWidLeastSpec)

/-- ITS FALSE NEIGHBOUR: 'it returns false'. Refute it at one input. -/
def fnWidLeastWrong : ChangeSpec := { name := "fnWidLeast", fn := fun _ => fun
  | [d] => { results := [.lit (.bool false)], args := [d] }
  | _ => none }
def FnWidLeastWrongFalsely : Prop := fnWidLeastRow.holds Tryz.pinned (OpenSpec.ofChange fnWidLeastWrong)

/-- 'laws.FnWidSum': WHATEVER THE INPUT: true; the input reads as it did. -/
def fnWidSumSpec : ChangeSpec := { name := "fnWidSum", fn := fun _ => fun
  | [d] => { results := [.lit (.bool true)], args := [d] }
  | _ => none }
def fnWidSumRow : OpenClaim := { program := "ytpfagdmmhgcmnaagreatdoor", sum := "bdab9f408e81f832b5621fa9910f95ce0fe5f6c874451b3d87fb663c1906fd37", func := "loop.example/panework/laws.FnWidSum", spec := "fnWidSum", inPlace := ["internal/bytealg.CountString", "internal/bytealg.IndexByteString", "internal/bytealg.IndexString"], unfollowed := true, recurses := true, named := ["unicode/utf8.first", "unicode/utf8.acceptRanges", "internal/bytealg.MaxLen"], apart := false, laid := [("unicode/utf8.acceptRanges", laid_unicode_utf8_acceptRanges), ("unicode/utf8.first", laid_unicode_utf8_first)] }
def FnWidSumSaid : Prop := fnWidSumRow.holds Tryz.pinned (OpenSpec.ofChange fnWidSumSpec)

/-- ITS FALSE NEIGHBOUR: 'it returns false'. Refute it at one input. -/
def fnWidSumWrong : ChangeSpec := { name := "fnWidSum", fn := fun _ => fun
  | [d] => { results := [.lit (.bool false)], args := [d] }
  | _ => none }
def FnWidSumWrongFalsely : Prop := fnWidSumRow.holds Tryz.pinned (OpenSpec.ofChange fnWidSumWrong)

/-- 'laws.FnWidWish': WHATEVER THE INPUT: true; the input reads as it did. -/
def fnWidWishSpec : ChangeSpec := { name := "fnWidWish", fn := fun _ => fun
  | [d] => { results := [.lit (.bool true)], args := [d] }
  | _ => none }
def fnWidWishRow : OpenClaim := { program := "ytpfagdmmhgcmnaagreatdoor", sum := "bdab9f408e81f832b5621fa9910f95ce0fe5f6c874451b3d87fb663c1906fd37", func := "loop.example/panework/laws.FnWidWish", spec := "fnWidWish", inPlace := ["internal/bytealg.CountString", "internal/bytealg.IndexByteString", "internal/bytealg.IndexString"], unfollowed := true, recurses := true, named := ["unicode/utf8.first", "unicode/utf8.acceptRanges", "internal/bytealg.MaxLen"], apart := false, laid := [("unicode/utf8.acceptRanges", laid_unicode_utf8_acceptRanges), ("unicode/utf8.first", laid_unicode_utf8_first)] }
def FnWidWishSaid : Prop := fnWidWishRow.holds Tryz.pinned (OpenSpec.ofChange fnWidWishSpec)

/-- ITS FALSE NEIGHBOUR: 'it returns false'. Refute it at one input. -/
def fnWidWishWrong : ChangeSpec := { name := "fnWidWish", fn := fun _ => fun
  | [d] => { results := [.lit (.bool false)], args := [d] }
  | _ => none }
def FnWidWishWrongFalsely : Prop := fnWidWishRow.holds Tryz.pinned (OpenSpec.ofChange fnWidWishWrong)

/-- 'laws.FnHgtMore': WHATEVER THE INPUT: true; the input reads as it did. -/
def fnHgtMoreSpec : ChangeSpec := { name := "fnHgtMore", fn := fun _ => fun
  | [d] => { results := [.lit (.bool true)], args := [d] }
  | _ => none }
def fnHgtMoreRow : OpenClaim := { program := "ytpfagdmmhgcmnaagreatdoor", sum := "bdab9f408e81f832b5621fa9910f95ce0fe5f6c874451b3d87fb663c1906fd37", func := "loop.example/panework/laws.FnHgtMore", spec := "fnHgtMore", inPlace := ["internal/bytealg.CountString", "internal/bytealg.IndexByteString", "internal/bytealg.IndexString"], unfollowed := true, recurses := true, named := ["unicode/utf8.first", "unicode/utf8.acceptRanges", "internal/bytealg.MaxLen"], apart := false, laid := [("unicode/utf8.acceptRanges", laid_unicode_utf8_acceptRanges), ("unicode/utf8.first", laid_unicode_utf8_first)] }
def FnHgtMoreSaid : Prop := fnHgtMoreRow.holds Tryz.pinned (OpenSpec.ofChange fnHgtMoreSpec)

/-- ITS FALSE NEIGHBOUR: 'it returns false'. Refute it at one input. -/
def fnHgtMoreWrong : ChangeSpec := { name := "fnHgtMore", fn := fun _ => fun
  | [d] => { results := [.lit (.bool false)], args := [d] }
  | _ => none }
def FnHgtMoreWrongFalsely : Prop := fnHgtMoreRow.holds Tryz.pinned (OpenSpec.ofChange fnHgtMoreWrong)

/-- 'laws.FnEdtDrag': WHATEVER THE INPUT: true; the input reads as it did. -/
def fnEdtDragSpec : ChangeSpec := { name := "fnEdtDrag", fn := fun _ => fun
  | [d] => { results := [.lit (.bool true)], args := [d] }
  | _ => none }
def fnEdtDragRow : OpenClaim := { program := "ytpfagdmmhgcmnaagreatdoor", sum := "bdab9f408e81f832b5621fa9910f95ce0fe5f6c874451b3d87fb663c1906fd37", func := "loop.example/panework/laws.FnEdtDrag", spec := "fnEdtDrag", inPlace := ["internal/bytealg.CountString", "internal/bytealg.IndexByteString", "internal/bytealg.IndexString"], unfollowed := true, recurses := true, named := ["unicode/utf8.first", "unicode/utf8.acceptRanges", "internal/bytealg.MaxLen"], apart := false, laid := [("unicode/utf8.acceptRanges", laid_unicode_utf8_acceptRanges), ("unicode/utf8.first", laid_unicode_utf8_first)] }
def FnEdtDragSaid : Prop := fnEdtDragRow.holds Tryz.pinned (OpenSpec.ofChange fnEdtDragSpec)

/-- ITS FALSE NEIGHBOUR: 'it returns false'. Refute it at one input. -/
def fnEdtDragWrong : ChangeSpec := { name := "fnEdtDrag", fn := fun _ => fun
  | [d] => { results := [.lit (.bool false)], args := [d] }
  | _ => none }
def FnEdtDragWrongFalsely : Prop := fnEdtDragRow.holds Tryz.pinned (OpenSpec.ofChange fnEdtDragWrong)

/- THE SECOND FORM. 'bulk': how many values and letters a reading holds, each counted each time it is reached (what is shared counts as often as it is met; a slice's spare places count too). A statement '..UptoSaid' is the law's where the arguments, and the package variables that the reading takes, are together of bulk at most 1048576: NARROWER than '..Said'. Prove '..Said' where nothing that the law and all that it calls make is longer than what came in: it says more and counts as full. Else prove '..UptoSaid'. A law counts once. -/
mutual
def uptoBulk {H : Type} : DataW H → Nat
  | .lit (.string bytes) => bytes.length + 1
  | .lit _ => 1
  | .nil => 1
  | .ptr d => uptoBulk d + 1
  | .slice elems spare => uptoBulkAll elems + uptoBulkAll spare + 1
  | .agg parts => uptoBulkAll parts + 1
  | .iface _ d => uptoBulk d + 1
  | .map entries => uptoBulkEntries entries + 1
  | .held _ => 1
def uptoBulkAll {H : Type} : List (DataW H) → Nat
  | [] => 0
  | d :: r => uptoBulk d + uptoBulkAll r
def uptoBulkEntries {H : Type} : List (Lit × DataW H) → Nat
  | [] => 0
  | x :: r => uptoBulkEntry x + uptoBulkEntries r
def uptoBulkEntry {H : Type} : Lit × DataW H → Nat
  | (.string bytes, d) => bytes.length + uptoBulk d + 1
  | (_, d) => uptoBulk d + 1
 end
def uptoSmall : (H : Type) → List (DataW H) → Bool := fun _ ds => decide (uptoBulkAll ds ≤ 1048576)
def OpenSpec.upto (s : _root_.Go.ChangeSpec) : _root_.Go.OpenSpec := { _root_.Go.OpenSpec.ofChange s with cond := some uptoSmall }

/-- 'laws.FnColLeast', WHERE WHAT IT READS IS OF BULK AT MOST 1048576: true; the input reads as it did. -/
def fnColLeastUptoRow : OpenClaim := { program := "ytpfagdmmhgcmnaagreatdoor", sum := "bdab9f408e81f832b5621fa9910f95ce0fe5f6c874451b3d87fb663c1906fd37", func := "loop.example/panework/laws.FnColLeast", spec := "fnColLeast", inPlace := ["internal/bytealg.CountString", "internal/bytealg.IndexByteString", "internal/bytealg.IndexString"], unfollowed := true, recurses := true, named := ["unicode/utf8.first", "unicode/utf8.acceptRanges", "internal/bytealg.MaxLen"], apart := false, laid := [("unicode/utf8.acceptRanges", laid_unicode_utf8_acceptRanges), ("unicode/utf8.first", laid_unicode_utf8_first)], narrowed := true }
def FnColLeastUptoSaid : Prop := fnColLeastUptoRow.holds Tryz.pinned (OpenSpec.upto fnColLeastSpec)

/-- 'laws.FnColTight', WHERE WHAT IT READS IS OF BULK AT MOST 1048576: true; the input reads as it did. -/
def fnColTightUptoRow : OpenClaim := { program := "ytpfagdmmhgcmnaagreatdoor", sum := "bdab9f408e81f832b5621fa9910f95ce0fe5f6c874451b3d87fb663c1906fd37", func := "loop.example/panework/laws.FnColTight", spec := "fnColTight", inPlace := ["internal/bytealg.CountString", "internal/bytealg.IndexByteString", "internal/bytealg.IndexString"], unfollowed := true, recurses := true, named := ["unicode/utf8.first", "unicode/utf8.acceptRanges", "internal/bytealg.MaxLen"], apart := false, laid := [("unicode/utf8.acceptRanges", laid_unicode_utf8_acceptRanges), ("unicode/utf8.first", laid_unicode_utf8_first)], narrowed := true }
def FnColTightUptoSaid : Prop := fnColTightUptoRow.holds Tryz.pinned (OpenSpec.upto fnColTightSpec)

/-- 'laws.FnColMore', WHERE WHAT IT READS IS OF BULK AT MOST 1048576: true; the input reads as it did. -/
def fnColMoreUptoRow : OpenClaim := { program := "ytpfagdmmhgcmnaagreatdoor", sum := "bdab9f408e81f832b5621fa9910f95ce0fe5f6c874451b3d87fb663c1906fd37", func := "loop.example/panework/laws.FnColMore", spec := "fnColMore", inPlace := ["internal/bytealg.CountString", "internal/bytealg.IndexByteString", "internal/bytealg.IndexString"], unfollowed := true, recurses := true, named := ["unicode/utf8.first", "unicode/utf8.acceptRanges", "internal/bytealg.MaxLen"], apart := false, laid := [("unicode/utf8.acceptRanges", laid_unicode_utf8_acceptRanges), ("unicode/utf8.first", laid_unicode_utf8_first)], narrowed := true }
def FnColMoreUptoSaid : Prop := fnColMoreUptoRow.holds Tryz.pinned (OpenSpec.upto fnColMoreSpec)

/-- 'laws.FnColFloor', WHERE WHAT IT READS IS OF BULK AT MOST 1048576: true; the input reads as it did. -/
def fnColFloorUptoRow : OpenClaim := { program := "ytpfagdmmhgcmnaagreatdoor", sum := "bdab9f408e81f832b5621fa9910f95ce0fe5f6c874451b3d87fb663c1906fd37", func := "loop.example/panework/laws.FnColFloor", spec := "fnColFloor", inPlace := ["internal/bytealg.CountString", "internal/bytealg.IndexByteString", "internal/bytealg.IndexString"], unfollowed := true, recurses := true, named := ["unicode/utf8.first", "unicode/utf8.acceptRanges", "internal/bytealg.MaxLen"], apart := false, laid := [("unicode/utf8.acceptRanges", laid_unicode_utf8_acceptRanges), ("unicode/utf8.first", laid_unicode_utf8_first)], narrowed := true }
def FnColFloorUptoSaid : Prop := fnColFloorUptoRow.holds Tryz.pinned (OpenSpec.upto fnColFloorSpec)

/-- 'laws.FnWidAlone', WHERE WHAT IT READS IS OF BULK AT MOST 1048576: true; the input reads as it did. -/
def fnWidAloneUptoRow : OpenClaim := { program := "ytpfagdmmhgcmnaagreatdoor", sum := "bdab9f408e81f832b5621fa9910f95ce0fe5f6c874451b3d87fb663c1906fd37", func := "loop.example/panework/laws.FnWidAlone", spec := "fnWidAlone", inPlace := ["internal/bytealg.CountString", "internal/bytealg.IndexByteString", "internal/bytealg.IndexString"], unfollowed := true, recurses := true, named := ["unicode/utf8.first", "unicode/utf8.acceptRanges", "internal/bytealg.MaxLen"], apart := false, laid := [("unicode/utf8.acceptRanges", laid_unicode_utf8_acceptRanges), ("unicode/utf8.first", laid_unicode_utf8_first)], narrowed := true }
def FnWidAloneUptoSaid : Prop := fnWidAloneUptoRow.holds Tryz.pinned (OpenSpec.upto fnWidAloneSpec)

/-- 'laws.FnWidMore', WHERE WHAT IT READS IS OF BULK AT MOST 1048576: true; the input reads as it did. -/
def fnWidMoreUptoRow : OpenClaim := { program := "ytpfagdmmhgcmnaagreatdoor", sum := "bdab9f408e81f832b5621fa9910f95ce0fe5f6c874451b3d87fb663c1906fd37", func := "loop.example/panework/laws.FnWidMore", spec := "fnWidMore", inPlace := ["internal/bytealg.CountString", "internal/bytealg.IndexByteString", "internal/bytealg.IndexString"], unfollowed := true, recurses := true, named := ["unicode/utf8.first", "unicode/utf8.acceptRanges", "internal/bytealg.MaxLen"], apart := false, laid := [("unicode/utf8.acceptRanges", laid_unicode_utf8_acceptRanges), ("unicode/utf8.first", laid_unicode_utf8_first)], narrowed := true }
def FnWidMoreUptoSaid : Prop := fnWidMoreUptoRow.holds Tryz.pinned (OpenSpec.upto fnWidMoreSpec)

/-- 'laws.FnWidParts', WHERE WHAT IT READS IS OF BULK AT MOST 1048576: true; the input reads as it did. -/
def fnWidPartsUptoRow : OpenClaim := { program := "ytpfagdmmhgcmnaagreatdoor", sum := "bdab9f408e81f832b5621fa9910f95ce0fe5f6c874451b3d87fb663c1906fd37", func := "loop.example/panework/laws.FnWidParts", spec := "fnWidParts", inPlace := ["internal/bytealg.CountString", "internal/bytealg.IndexByteString", "internal/bytealg.IndexString"], unfollowed := true, recurses := true, named := ["unicode/utf8.first", "unicode/utf8.acceptRanges", "internal/bytealg.MaxLen"], apart := false, laid := [("unicode/utf8.acceptRanges", laid_unicode_utf8_acceptRanges), ("unicode/utf8.first", laid_unicode_utf8_first)], narrowed := true }
def FnWidPartsUptoSaid : Prop := fnWidPartsUptoRow.holds Tryz.pinned (OpenSpec.upto fnWidPartsSpec)

/-- 'laws.FnWidLeast', WHERE WHAT IT READS IS OF BULK AT MOST 1048576: true; the input reads as it did. -/
def fnWidLeastUptoRow : OpenClaim := { program := "ytpfagdmmhgcmnaagreatdoor", sum := "bdab9f408e81f832b5621fa9910f95ce0fe5f6c874451b3d87fb663c1906fd37", func := "loop.example/panework/laws.FnWidLeast", spec := "fnWidLeast", inPlace := ["internal/bytealg.CountString", "internal/bytealg.IndexByteString", "internal/bytealg.IndexString"], unfollowed := true, recurses := true, named := ["unicode/utf8.first", "unicode/utf8.acceptRanges", "internal/bytealg.MaxLen"], apart := false, laid := [("unicode/utf8.acceptRanges", laid_unicode_utf8_acceptRanges), ("unicode/utf8.first", laid_unicode_utf8_first)], narrowed := true }
def FnWidLeastUptoSaid : Prop := fnWidLeastUptoRow.holds Tryz.pinned (OpenSpec.upto fnWidLeastSpec)

/-- 'laws.FnWidSum', WHERE WHAT IT READS IS OF BULK AT MOST 1048576: true; the input reads as it did. -/
def fnWidSumUptoRow : OpenClaim := { program := "ytpfagdmmhgcmnaagreatdoor", sum := "bdab9f408e81f832b5621fa9910f95ce0fe5f6c874451b3d87fb663c1906fd37", func := "loop.example/panework/laws.FnWidSum", spec := "fnWidSum", inPlace := ["internal/bytealg.CountString", "internal/bytealg.IndexByteString", "internal/bytealg.IndexString"], unfollowed := true, recurses := true, named := ["unicode/utf8.first", "unicode/utf8.acceptRanges", "internal/bytealg.MaxLen"], apart := false, laid := [("unicode/utf8.acceptRanges", laid_unicode_utf8_acceptRanges), ("unicode/utf8.first", laid_unicode_utf8_first)], narrowed := true }
def FnWidSumUptoSaid : Prop := fnWidSumUptoRow.holds Tryz.pinned (OpenSpec.upto fnWidSumSpec)

/-- 'laws.FnWidWish', WHERE WHAT IT READS IS OF BULK AT MOST 1048576: true; the input reads as it did. -/
def fnWidWishUptoRow : OpenClaim := { program := "ytpfagdmmhgcmnaagreatdoor", sum := "bdab9f408e81f832b5621fa9910f95ce0fe5f6c874451b3d87fb663c1906fd37", func := "loop.example/panework/laws.FnWidWish", spec := "fnWidWish", inPlace := ["internal/bytealg.CountString", "internal/bytealg.IndexByteString", "internal/bytealg.IndexString"], unfollowed := true, recurses := true, named := ["unicode/utf8.first", "unicode/utf8.acceptRanges", "internal/bytealg.MaxLen"], apart := false, laid := [("unicode/utf8.acceptRanges", laid_unicode_utf8_acceptRanges), ("unicode/utf8.first", laid_unicode_utf8_first)], narrowed := true }
def FnWidWishUptoSaid : Prop := fnWidWishUptoRow.holds Tryz.pinned (OpenSpec.upto fnWidWishSpec)

/-- 'laws.FnHgtMore', WHERE WHAT IT READS IS OF BULK AT MOST 1048576: true; the input reads as it did. -/
def fnHgtMoreUptoRow : OpenClaim := { program := "ytpfagdmmhgcmnaagreatdoor", sum := "bdab9f408e81f832b5621fa9910f95ce0fe5f6c874451b3d87fb663c1906fd37", func := "loop.example/panework/laws.FnHgtMore", spec := "fnHgtMore", inPlace := ["internal/bytealg.CountString", "internal/bytealg.IndexByteString", "internal/bytealg.IndexString"], unfollowed := true, recurses := true, named := ["unicode/utf8.first", "unicode/utf8.acceptRanges", "internal/bytealg.MaxLen"], apart := false, laid := [("unicode/utf8.acceptRanges", laid_unicode_utf8_acceptRanges), ("unicode/utf8.first", laid_unicode_utf8_first)], narrowed := true }
def FnHgtMoreUptoSaid : Prop := fnHgtMoreUptoRow.holds Tryz.pinned (OpenSpec.upto fnHgtMoreSpec)

/-- 'laws.FnEdtDrag', WHERE WHAT IT READS IS OF BULK AT MOST 1048576: true; the input reads as it did. -/
def fnEdtDragUptoRow : OpenClaim := { program := "ytpfagdmmhgcmnaagreatdoor", sum := "bdab9f408e81f832b5621fa9910f95ce0fe5f6c874451b3d87fb663c1906fd37", func := "loop.example/panework/laws.FnEdtDrag", spec := "fnEdtDrag", inPlace := ["internal/bytealg.CountString", "internal/bytealg.IndexByteString", "internal/bytealg.IndexString"], unfollowed := true, recurses := true, named := ["unicode/utf8.first", "unicode/utf8.acceptRanges", "internal/bytealg.MaxLen"], apart := false, laid := [("unicode/utf8.acceptRanges", laid_unicode_utf8_acceptRanges), ("unicode/utf8.first", laid_unicode_utf8_first)], narrowed := true }
def FnEdtDragUptoSaid : Prop := fnEdtDragUptoRow.holds Tryz.pinned (OpenSpec.upto fnEdtDragSpec)

end Rows
end Go.Proofs.YtpfagdmmhgcmnaaGreatDoor
