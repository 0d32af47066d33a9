/-
  NARROWER THAN 'FOR EVERY INPUT', by the rows' own cells (each row's printed sentence says how): AttrTypes: laid · AttrFinds: laid · AttrPlace: laid · AttrSyntaxes: laid · AttrKept: laid · AttrCovers: laid · AttrMore: laid · AttrParses: laid · AttrSupers: laid · AttrOrder: laid · AttrCanonical: laid · AttrSpelling: laid.
  DERIVED. THE GIVEN ROWS OF THIS SEAT. 12 by the template 'for every input the law returns true; each argument reads behind the call as it read before'; 0 by the template 'total and deterministic' (their statements: YtdonopoijbokiaaDoorTotals.lean).
  GIVEN WITH THE SEED: the statements are not yours to turn. If you find one false, say at which input.
  Laid BY PROGRAM, IN A SANDBOX (cutbox-rows.mjs): the forced cells as the released guide's own fill.sh prints them over the translation 4413addc49e27ace… (all of the seat's roots in one cut). By AI agents, Wed Nov 11 2026. No macro, syntax, notation, axiom, sorry.
-/
import Derived.Test.YtdonopoijbokiaaDoorChecked
import GoSem.PinnedTables
import GoSem.Claim
import GoSem.ClaimJoined
import GoSem.ClaimMapViews
import Derived.JoinedTies
import Derived.KernelRfl
namespace Go.Proofs.YtdonopoijbokiaaDoor
/- THE CELL 'sum', in the pinned program and in every row, IS THE sha256 OF THE DUMP (.gsa) THAT YtdonopoijbokiaaDoorProg.lean LOADS. Nothing in Lean hashes anything: it is a label: what it is worth is what the hold of that sum in a sandbox is worth. -/
noncomputable def Tryd.pinned : Pinned := { name := "ytdonopoijbokiaadoor", sum := "4413addc49e27ace29987d469f1a6b014e095e6fc2c944048d11908881e019f8", checked := Tryd.checked }
namespace Rows
def none {H : Type} : Left H := { results := [], args := [] }

/- WHAT THE LISTED PACKAGE-LEVEL VARIABLES READ AS WHEN THE CALL BEGINS. Each datum BY PROGRAM (the guide's laid-datum.mjs) off the statement by which the dump's own 'gosem.cut.vars' lays the variable. In a bare row this is a premise. The card (YtdonopoijbokiaaDoorCards.lean) ties it to the program's text. -/
def laid_roster_rosterref04_kinds {H : Type} : DataW H := .agg [.agg [.lit (.int .i64 (-1)), .lit (.int .i64 11), .lit (.int .i64 0)], .agg [.lit (.int .i64 (-1)), .lit (.int .i64 10), .lit (.int .i64 0)], .agg [.lit (.int .i64 (-1)), .lit (.int .i64 1), .lit (.int .i64 0)], .agg [.lit (.int .i64 (-1)), .lit (.int .i64 10), .lit (.int .i64 0)], .agg [.lit (.int .i64 2), .lit (.int .i64 1), .lit (.int .i64 0)], .agg [.lit (.int .i64 2), .lit (.int .i64 1), .lit (.int .i64 0)], .agg [.lit (.int .i64 (-1)), .lit (.int .i64 1), .lit (.int .i64 0)], .agg [.lit (.int .i64 2), .lit (.int .i64 1), .lit (.int .i64 0)], .agg [.lit (.int .i64 2), .lit (.int .i64 1), .lit (.int .i64 0)], .agg [.lit (.int .i64 2), .lit (.int .i64 1), .lit (.int .i64 0)], .agg [.lit (.int .i64 (-1)), .lit (.int .i64 1), .lit (.int .i64 0)], .agg [.lit (.int .i64 2), .lit (.int .i64 1), .lit (.int .i64 0)], .agg [.lit (.int .i64 2), .lit (.int .i64 1), .lit (.int .i64 0)], .agg [.lit (.int .i64 2), .lit (.int .i64 1), .lit (.int .i64 0)], .agg [.lit (.int .i64 (-1)), .lit (.int .i64 1), .lit (.int .i64 0)], .agg [.lit (.int .i64 (-1)), .lit (.int .i64 1), .lit (.int .i64 0)], .agg [.lit (.int .i64 (-1)), .lit (.int .i64 13), .lit (.int .i64 0)], .agg [.lit (.int .i64 (-1)), .lit (.int .i64 1), .lit (.int .i64 0)], .agg [.lit (.int .i64 (-1)), .lit (.int .i64 1), .lit (.int .i64 0)], .agg [.lit (.int .i64 (-1)), .lit (.int .i64 1), .lit (.int .i64 0)], .agg [.lit (.int .i64 (-1)), .lit (.int .i64 6), .lit (.int .i64 0)], .agg [.lit (.int .i64 (-1)), .lit (.int .i64 6), .lit (.int .i64 0)], .agg [.lit (.int .i64 (-1)), .lit (.int .i64 5), .lit (.int .i64 0)], .agg [.lit (.int .i64 (-1)), .lit (.int .i64 5), .lit (.int .i64 0)], .agg [.lit (.int .i64 16), .lit (.int .i64 13), .lit (.int .i64 0)], .agg [.lit (.int .i64 (-1)), .lit (.int .i64 1), .lit (.int .i64 0)], .agg [.lit (.int .i64 3), .lit (.int .i64 10), .lit (.int .i64 0)], .agg [.lit (.int .i64 3), .lit (.int .i64 10), .lit (.int .i64 0)], .agg [.lit (.int .i64 3), .lit (.int .i64 10), .lit (.int .i64 0)], .agg [.lit (.int .i64 3), .lit (.int .i64 10), .lit (.int .i64 0)], .agg [.lit (.int .i64 (-1)), .lit (.int .i64 9), .lit (.int .i64 0)], .agg [.lit (.int .i64 2), .lit (.int .i64 1), .lit (.int .i64 0)], .agg [.lit (.int .i64 2), .lit (.int .i64 1), .lit (.int .i64 0)], .agg [.lit (.int .i64 2), .lit (.int .i64 1), .lit (.int .i64 0)], .agg [.lit (.int .i64 (-1)), .lit (.int .i64 1), .lit (.int .i64 0)], .agg [.lit (.int .i64 (-1)), .lit (.int .i64 1), .lit (.int .i64 0)], .agg [.lit (.int .i64 8), .lit (.int .i64 1), .lit (.int .i64 0)], .agg [.lit (.int .i64 9), .lit (.int .i64 1), .lit (.int .i64 0)], .agg [.lit (.int .i64 11), .lit (.int .i64 1), .lit (.int .i64 0)], .agg [.lit (.int .i64 12), .lit (.int .i64 1), .lit (.int .i64 0)], .agg [.lit (.int .i64 (-1)), .lit (.int .i64 1), .lit (.int .i64 0)], .agg [.lit (.int .i64 (-1)), .lit (.int .i64 3), .lit (.int .i64 0)], .agg [.lit (.int .i64 (-1)), .lit (.int .i64 1), .lit (.int .i64 0)], .agg [.lit (.int .i64 (-1)), .lit (.int .i64 10), .lit (.int .i64 0)], .agg [.lit (.int .i64 (-1)), .lit (.int .i64 6), .lit (.int .i64 0)], .agg [.lit (.int .i64 (-1)), .lit (.int .i64 10), .lit (.int .i64 0)], .agg [.lit (.int .i64 (-1)), .lit (.int .i64 3), .lit (.int .i64 0)], .agg [.lit (.int .i64 (-1)), .lit (.int .i64 6), .lit (.int .i64 0)], .agg [.lit (.int .i64 (-1)), .lit (.int .i64 6), .lit (.int .i64 0)], .agg [.lit (.int .i64 (-1)), .lit (.int .i64 1), .lit (.int .i64 0)], .agg [.lit (.int .i64 (-1)), .lit (.int .i64 1), .lit (.int .i64 0)], .agg [.lit (.int .i64 (-1)), .lit (.int .i64 7), .lit (.int .i64 0)], .agg [.lit (.int .i64 (-1)), .lit (.int .i64 7), .lit (.int .i64 0)], .agg [.lit (.int .i64 (-1)), .lit (.int .i64 4), .lit (.int .i64 0)], .agg [.lit (.int .i64 (-1)), .lit (.int .i64 4), .lit (.int .i64 0)], .agg [.lit (.int .i64 (-1)), .lit (.int .i64 2), .lit (.int .i64 0)], .agg [.lit (.int .i64 (-1)), .lit (.int .i64 12), .lit (.int .i64 1)], .agg [.lit (.int .i64 (-1)), .lit (.int .i64 12), .lit (.int .i64 1)], .agg [.lit (.int .i64 (-1)), .lit (.int .i64 10), .lit (.int .i64 1)], .agg [.lit (.int .i64 (-1)), .lit (.int .i64 10), .lit (.int .i64 1)], .agg [.lit (.int .i64 (-1)), .lit (.int .i64 8), .lit (.int .i64 1)], .agg [.lit (.int .i64 (-1)), .lit (.int .i64 14), .lit (.int .i64 0)]]
def laid_unicode_utf8_acceptRanges {H : Type} : DataW H := .agg [.agg [.lit (.int .u8 128), .lit (.int .u8 191)], .agg [.lit (.int .u8 160), .lit (.int .u8 191)], .agg [.lit (.int .u8 128), .lit (.int .u8 159)], .agg [.lit (.int .u8 144), .lit (.int .u8 191)], .agg [.lit (.int .u8 128), .lit (.int .u8 143)], .agg [.lit (.int .u8 0), .lit (.int .u8 0)], .agg [.lit (.int .u8 0), .lit (.int .u8 0)], .agg [.lit (.int .u8 0), .lit (.int .u8 0)], .agg [.lit (.int .u8 0), .lit (.int .u8 0)], .agg [.lit (.int .u8 0), .lit (.int .u8 0)], .agg [.lit (.int .u8 0), .lit (.int .u8 0)], .agg [.lit (.int .u8 0), .lit (.int .u8 0)], .agg [.lit (.int .u8 0), .lit (.int .u8 0)], .agg [.lit (.int .u8 0), .lit (.int .u8 0)], .agg [.lit (.int .u8 0), .lit (.int .u8 0)], .agg [.lit (.int .u8 0), .lit (.int .u8 0)]]
/-- One of Go's own tables, pinned by name: the form's constant. -/
def laid_unicode_utf8_first : DataW Unit := Go.Pinned.utf8First
def laid_roster_rosterlaw04_known {H : Type} : DataW H := .agg [.agg [.lit (.string [99, 110]), .lit (.string [99, 111, 109, 109, 111, 110, 78, 97, 109, 101]), .lit (.string [50, 46, 53, 46, 52, 46, 51])], .agg [.lit (.string [115, 110]), .lit (.string [115, 117, 114, 110, 97, 109, 101]), .lit (.string [50, 46, 53, 46, 52, 46, 52])], .agg [.lit (.string [110, 97, 109, 101]), .lit (.string [110, 97, 109, 101]), .lit (.string [50, 46, 53, 46, 52, 46, 52, 49])], .agg [.lit (.string [115, 116, 114, 101, 101, 116]), .lit (.string [115, 116, 114, 101, 101, 116, 65, 100, 100, 114, 101, 115, 115]), .lit (.string [50, 46, 53, 46, 52, 46, 57])], .agg [.lit (.string [99, 45, 111, 117]), .lit (.string [67, 45, 79, 85]), .lit (.string [50, 46, 53, 46, 52, 46, 49, 49, 46, 49])], .agg [.lit (.string [100, 99]), .lit (.string [100, 111, 109, 97, 105, 110, 67, 111, 109, 112, 111, 110, 101, 110, 116]), .lit (.string [48, 46, 57, 46, 50, 51, 52, 50, 46, 49, 57, 50, 48, 48, 51, 48, 48, 46, 49, 48, 48, 46, 49, 46, 50, 53])], .agg [.lit (.string [117, 105, 100]), .lit (.string [117, 115, 101, 114, 105, 100]), .lit (.string [48, 46, 57, 46, 50, 51, 52, 50, 46, 49, 57, 50, 48, 48, 51, 48, 48, 46, 49, 48, 48, 46, 49, 46, 49])], .agg [.lit (.string [109, 97, 105, 108]), .lit (.string [114, 102, 99, 56, 50, 50, 77, 97, 105, 108, 98, 111, 120]), .lit (.string [48, 46, 57, 46, 50, 51, 52, 50, 46, 49, 57, 50, 48, 48, 51, 48, 48, 46, 49, 48, 48, 46, 49, 46, 51])], .agg [.lit (.string [111, 98, 106, 101, 99, 116, 99, 108, 97, 115, 115]), .lit (.string [111, 98, 106, 101, 99, 116, 67, 108, 97, 115, 115]), .lit (.string [50, 46, 53, 46, 52, 46, 48])], .agg [.lit (.string [99, 114, 101, 97, 116, 101, 116, 105, 109, 101, 115, 116, 97, 109, 112]), .lit (.string [99, 114, 101, 97, 116, 101, 84, 105, 109, 101, 115, 116, 97, 109, 112]), .lit (.string [50, 46, 53, 46, 49, 56, 46, 49])]]

/-- 'rosterlaw04.AttrTypes': WHATEVER THE INPUT: true; the input reads as it did. -/
def attrTypesSpec : ChangeSpec := { name := "attrTypes", fn := fun _ => fun
  | [d] => { results := [.lit (.bool true)], args := [d] }
  | _ => none }
def attrTypesRow : OpenClaim := { program := "ytdonopoijbokiaadoor", sum := "4413addc49e27ace29987d469f1a6b014e095e6fc2c944048d11908881e019f8", func := "roster/rosterlaw04.AttrTypes", spec := "attrTypes", unfollowed := true, recurses := true, named := ["roster/rosterref04.kinds"], apart := false, laid := [("roster/rosterref04.kinds", laid_roster_rosterref04_kinds)] }
def AttrTypesSaid : Prop := attrTypesRow.holds Tryd.pinned (OpenSpec.ofChange attrTypesSpec)

/-- ITS FALSE NEIGHBOUR: 'it returns false'. Refute it at one input. -/
def attrTypesWrong : ChangeSpec := { name := "attrTypes", fn := fun _ => fun
  | [d] => { results := [.lit (.bool false)], args := [d] }
  | _ => none }
def AttrTypesWrongFalsely : Prop := attrTypesRow.holds Tryd.pinned (OpenSpec.ofChange attrTypesWrong)

/-- 'rosterlaw04.AttrFinds': WHATEVER THE INPUT: true; the input reads as it did. -/
def attrFindsSpec : ChangeSpec := { name := "attrFinds", fn := fun _ => fun
  | [d] => { results := [.lit (.bool true)], args := [d] }
  | _ => none }
def attrFindsRow : OpenClaim := { program := "ytdonopoijbokiaadoor", sum := "4413addc49e27ace29987d469f1a6b014e095e6fc2c944048d11908881e019f8", func := "roster/rosterlaw04.AttrFinds", spec := "attrFinds", named := ["roster/rosterref04.kinds"], apart := false, laid := [("roster/rosterref04.kinds", laid_roster_rosterref04_kinds)] }
def AttrFindsSaid : Prop := attrFindsRow.holds Tryd.pinned (OpenSpec.ofChange attrFindsSpec)

/-- ITS FALSE NEIGHBOUR: 'it returns false'. Refute it at one input. -/
def attrFindsWrong : ChangeSpec := { name := "attrFinds", fn := fun _ => fun
  | [d] => { results := [.lit (.bool false)], args := [d] }
  | _ => none }
def AttrFindsWrongFalsely : Prop := attrFindsRow.holds Tryd.pinned (OpenSpec.ofChange attrFindsWrong)

/-- 'rosterlaw04.AttrPlace': WHATEVER THE INPUT: true; the input reads as it did. -/
def attrPlaceSpec : ChangeSpec := { name := "attrPlace", fn := fun _ => fun
  | [d] => { results := [.lit (.bool true)], args := [d] }
  | _ => none }
def attrPlaceRow : OpenClaim := { program := "ytdonopoijbokiaadoor", sum := "4413addc49e27ace29987d469f1a6b014e095e6fc2c944048d11908881e019f8", func := "roster/rosterlaw04.AttrPlace", spec := "attrPlace", inPlace := ["internal/bytealg.CountString", "internal/bytealg.IndexByteString", "internal/bytealg.IndexString"], recurses := true, named := ["unicode/utf8.first", "unicode/utf8.acceptRanges", "internal/bytealg.MaxLen"], apart := false, laid := [("unicode/utf8.acceptRanges", laid_unicode_utf8_acceptRanges), ("unicode/utf8.first", laid_unicode_utf8_first)] }
def AttrPlaceSaid : Prop := attrPlaceRow.holds Tryd.pinned (OpenSpec.ofChange attrPlaceSpec)

/-- ITS FALSE NEIGHBOUR: 'it returns false'. Refute it at one input. -/
def attrPlaceWrong : ChangeSpec := { name := "attrPlace", fn := fun _ => fun
  | [d] => { results := [.lit (.bool false)], args := [d] }
  | _ => none }
def AttrPlaceWrongFalsely : Prop := attrPlaceRow.holds Tryd.pinned (OpenSpec.ofChange attrPlaceWrong)

/-- 'rosterlaw04.AttrSyntaxes': WHATEVER THE INPUT: true; the input reads as it did. -/
def attrSyntaxesSpec : ChangeSpec := { name := "attrSyntaxes", fn := fun _ => fun
  | [d] => { results := [.lit (.bool true)], args := [d] }
  | _ => none }
def attrSyntaxesRow : OpenClaim := { program := "ytdonopoijbokiaadoor", sum := "4413addc49e27ace29987d469f1a6b014e095e6fc2c944048d11908881e019f8", func := "roster/rosterlaw04.AttrSyntaxes", spec := "attrSyntaxes", inPlace := ["internal/bytealg.CountString", "internal/bytealg.IndexByteString", "internal/bytealg.IndexString"], recurses := true, named := ["unicode/utf8.first", "unicode/utf8.acceptRanges", "internal/bytealg.MaxLen", "roster/rosterref04.kinds"], apart := false, laid := [("roster/rosterref04.kinds", laid_roster_rosterref04_kinds), ("unicode/utf8.acceptRanges", laid_unicode_utf8_acceptRanges), ("unicode/utf8.first", laid_unicode_utf8_first)] }
def AttrSyntaxesSaid : Prop := attrSyntaxesRow.holds Tryd.pinned (OpenSpec.ofChange attrSyntaxesSpec)

/-- ITS FALSE NEIGHBOUR: 'it returns false'. Refute it at one input. -/
def attrSyntaxesWrong : ChangeSpec := { name := "attrSyntaxes", fn := fun _ => fun
  | [d] => { results := [.lit (.bool false)], args := [d] }
  | _ => none }
def AttrSyntaxesWrongFalsely : Prop := attrSyntaxesRow.holds Tryd.pinned (OpenSpec.ofChange attrSyntaxesWrong)

/-- 'rosterlaw04.AttrKept': WHATEVER THE INPUT: true; the input reads as it did. -/
def attrKeptSpec : ChangeSpec := { name := "attrKept", fn := fun _ => fun
  | [d] => { results := [.lit (.bool true)], args := [d] }
  | _ => none }
def attrKeptRow : OpenClaim := { program := "ytdonopoijbokiaadoor", sum := "4413addc49e27ace29987d469f1a6b014e095e6fc2c944048d11908881e019f8", func := "roster/rosterlaw04.AttrKept", spec := "attrKept", inPlace := ["internal/bytealg.CountString", "internal/bytealg.IndexByteString", "internal/bytealg.IndexString"], recurses := true, named := ["unicode/utf8.first", "unicode/utf8.acceptRanges", "internal/bytealg.MaxLen", "roster/rosterref04.kinds"], apart := false, laid := [("roster/rosterref04.kinds", laid_roster_rosterref04_kinds), ("unicode/utf8.acceptRanges", laid_unicode_utf8_acceptRanges), ("unicode/utf8.first", laid_unicode_utf8_first)] }
def AttrKeptSaid : Prop := attrKeptRow.holds Tryd.pinned (OpenSpec.ofChange attrKeptSpec)

/-- ITS FALSE NEIGHBOUR: 'it returns false'. Refute it at one input. -/
def attrKeptWrong : ChangeSpec := { name := "attrKept", fn := fun _ => fun
  | [d] => { results := [.lit (.bool false)], args := [d] }
  | _ => none }
def AttrKeptWrongFalsely : Prop := attrKeptRow.holds Tryd.pinned (OpenSpec.ofChange attrKeptWrong)

/-- 'rosterlaw04.AttrCovers': WHATEVER THE INPUT: true; the input reads as it did. -/
def attrCoversSpec : ChangeSpec := { name := "attrCovers", fn := fun _ => fun
  | [d1, d2] => { results := [.lit (.bool true)], args := [d1, d2] }
  | _ => none }
def attrCoversRow : OpenClaim := { program := "ytdonopoijbokiaadoor", sum := "4413addc49e27ace29987d469f1a6b014e095e6fc2c944048d11908881e019f8", func := "roster/rosterlaw04.AttrCovers", spec := "attrCovers", inPlace := ["internal/bytealg.CountString", "internal/bytealg.IndexByteString", "internal/bytealg.IndexString"], recurses := true, named := ["unicode/utf8.first", "unicode/utf8.acceptRanges", "internal/bytealg.MaxLen", "roster/rosterref04.kinds"], apart := false, laid := [("roster/rosterref04.kinds", laid_roster_rosterref04_kinds), ("unicode/utf8.acceptRanges", laid_unicode_utf8_acceptRanges), ("unicode/utf8.first", laid_unicode_utf8_first)] }
def AttrCoversSaid : Prop := attrCoversRow.holds Tryd.pinned (OpenSpec.ofChange attrCoversSpec)

/-- ITS FALSE NEIGHBOUR: 'it returns false'. Refute it at one input. -/
def attrCoversWrong : ChangeSpec := { name := "attrCovers", fn := fun _ => fun
  | [d1, d2] => { results := [.lit (.bool false)], args := [d1, d2] }
  | _ => none }
def AttrCoversWrongFalsely : Prop := attrCoversRow.holds Tryd.pinned (OpenSpec.ofChange attrCoversWrong)

/-- 'rosterlaw04.AttrMore': WHATEVER THE INPUT: true; the input reads as it did. -/
def attrMoreSpec : ChangeSpec := { name := "attrMore", fn := fun _ => fun
  | [d1, d2, d3] => { results := [.lit (.bool true)], args := [d1, d2, d3] }
  | _ => none }
def attrMoreRow : OpenClaim := { program := "ytdonopoijbokiaadoor", sum := "4413addc49e27ace29987d469f1a6b014e095e6fc2c944048d11908881e019f8", func := "roster/rosterlaw04.AttrMore", spec := "attrMore", inPlace := ["internal/bytealg.CountString", "internal/bytealg.IndexByteString", "internal/bytealg.IndexString"], recurses := true, named := ["unicode/utf8.first", "unicode/utf8.acceptRanges", "internal/bytealg.MaxLen"], apart := false, laid := [("unicode/utf8.acceptRanges", laid_unicode_utf8_acceptRanges), ("unicode/utf8.first", laid_unicode_utf8_first)] }
def AttrMoreSaid : Prop := attrMoreRow.holds Tryd.pinned (OpenSpec.ofChange attrMoreSpec)

/-- ITS FALSE NEIGHBOUR: 'it returns false'. Refute it at one input. -/
def attrMoreWrong : ChangeSpec := { name := "attrMore", fn := fun _ => fun
  | [d1, d2, d3] => { results := [.lit (.bool false)], args := [d1, d2, d3] }
  | _ => none }
def AttrMoreWrongFalsely : Prop := attrMoreRow.holds Tryd.pinned (OpenSpec.ofChange attrMoreWrong)

/-- 'rosterlaw04.AttrParses': WHATEVER THE INPUT: true; the input reads as it did. -/
def attrParsesSpec : ChangeSpec := { name := "attrParses", fn := fun _ => fun
  | [d] => { results := [.lit (.bool true)], args := [d] }
  | _ => none }
def attrParsesRow : OpenClaim := { program := "ytdonopoijbokiaadoor", sum := "4413addc49e27ace29987d469f1a6b014e095e6fc2c944048d11908881e019f8", func := "roster/rosterlaw04.AttrParses", spec := "attrParses", inPlace := ["internal/bytealg.CountString", "internal/bytealg.IndexByteString", "internal/bytealg.IndexString", "internal/abi.NoEscape"], recurses := true, named := ["unicode/utf8.first", "unicode/utf8.acceptRanges", "internal/bytealg.MaxLen"], apart := false, laid := [("unicode/utf8.acceptRanges", laid_unicode_utf8_acceptRanges), ("unicode/utf8.first", laid_unicode_utf8_first)] }
def AttrParsesSaid : Prop := attrParsesRow.holds Tryd.pinned (OpenSpec.ofChange attrParsesSpec)

/-- ITS FALSE NEIGHBOUR: 'it returns false'. Refute it at one input. -/
def attrParsesWrong : ChangeSpec := { name := "attrParses", fn := fun _ => fun
  | [d] => { results := [.lit (.bool false)], args := [d] }
  | _ => none }
def AttrParsesWrongFalsely : Prop := attrParsesRow.holds Tryd.pinned (OpenSpec.ofChange attrParsesWrong)

/-- 'rosterlaw04.AttrSupers': WHATEVER THE INPUT: true; the input reads as it did. -/
def attrSupersSpec : ChangeSpec := { name := "attrSupers", fn := fun _ => fun
  | [d1, d2] => { results := [.lit (.bool true)], args := [d1, d2] }
  | _ => none }
def attrSupersRow : OpenClaim := { program := "ytdonopoijbokiaadoor", sum := "4413addc49e27ace29987d469f1a6b014e095e6fc2c944048d11908881e019f8", func := "roster/rosterlaw04.AttrSupers", spec := "attrSupers", inPlace := ["internal/bytealg.CountString", "internal/bytealg.IndexByteString", "internal/bytealg.IndexString"], recurses := true, named := ["roster/rosterlaw04.known", "unicode/utf8.first", "unicode/utf8.acceptRanges", "internal/bytealg.MaxLen"], apart := false, laid := [("unicode/utf8.acceptRanges", laid_unicode_utf8_acceptRanges), ("roster/rosterlaw04.known", laid_roster_rosterlaw04_known), ("unicode/utf8.first", laid_unicode_utf8_first)] }
def AttrSupersSaid : Prop := attrSupersRow.holds Tryd.pinned (OpenSpec.ofChange attrSupersSpec)

/-- ITS FALSE NEIGHBOUR: 'it returns false'. Refute it at one input. -/
def attrSupersWrong : ChangeSpec := { name := "attrSupers", fn := fun _ => fun
  | [d1, d2] => { results := [.lit (.bool false)], args := [d1, d2] }
  | _ => none }
def AttrSupersWrongFalsely : Prop := attrSupersRow.holds Tryd.pinned (OpenSpec.ofChange attrSupersWrong)

/-- 'rosterlaw04.AttrOrder': WHATEVER THE INPUT: true; the input reads as it did. -/
def attrOrderSpec : ChangeSpec := { name := "attrOrder", fn := fun _ => fun
  | [d1, d2, d3] => { results := [.lit (.bool true)], args := [d1, d2, d3] }
  | _ => none }
def attrOrderRow : OpenClaim := { program := "ytdonopoijbokiaadoor", sum := "4413addc49e27ace29987d469f1a6b014e095e6fc2c944048d11908881e019f8", func := "roster/rosterlaw04.AttrOrder", spec := "attrOrder", inPlace := ["internal/bytealg.CountString", "internal/bytealg.IndexByteString", "internal/bytealg.IndexString", "internal/abi.NoEscape"], recurses := true, named := ["unicode/utf8.first", "unicode/utf8.acceptRanges", "internal/bytealg.MaxLen"], apart := false, laid := [("unicode/utf8.acceptRanges", laid_unicode_utf8_acceptRanges), ("unicode/utf8.first", laid_unicode_utf8_first)] }
def AttrOrderSaid : Prop := attrOrderRow.holds Tryd.pinned (OpenSpec.ofChange attrOrderSpec)

/-- ITS FALSE NEIGHBOUR: 'it returns false'. Refute it at one input. -/
def attrOrderWrong : ChangeSpec := { name := "attrOrder", fn := fun _ => fun
  | [d1, d2, d3] => { results := [.lit (.bool false)], args := [d1, d2, d3] }
  | _ => none }
def AttrOrderWrongFalsely : Prop := attrOrderRow.holds Tryd.pinned (OpenSpec.ofChange attrOrderWrong)

/-- 'rosterlaw04.AttrCanonical': WHATEVER THE INPUT: true; the input reads as it did. -/
def attrCanonicalSpec : ChangeSpec := { name := "attrCanonical", fn := fun _ => fun
  | [d] => { results := [.lit (.bool true)], args := [d] }
  | _ => none }
def attrCanonicalRow : OpenClaim := { program := "ytdonopoijbokiaadoor", sum := "4413addc49e27ace29987d469f1a6b014e095e6fc2c944048d11908881e019f8", func := "roster/rosterlaw04.AttrCanonical", spec := "attrCanonical", inPlace := ["internal/bytealg.CountString", "internal/bytealg.IndexByteString", "internal/bytealg.IndexString", "internal/abi.NoEscape"], recurses := true, named := ["unicode/utf8.first", "unicode/utf8.acceptRanges", "internal/bytealg.MaxLen"], apart := false, laid := [("unicode/utf8.acceptRanges", laid_unicode_utf8_acceptRanges), ("unicode/utf8.first", laid_unicode_utf8_first)] }
def AttrCanonicalSaid : Prop := attrCanonicalRow.holds Tryd.pinned (OpenSpec.ofChange attrCanonicalSpec)

/-- ITS FALSE NEIGHBOUR: 'it returns false'. Refute it at one input. -/
def attrCanonicalWrong : ChangeSpec := { name := "attrCanonical", fn := fun _ => fun
  | [d] => { results := [.lit (.bool false)], args := [d] }
  | _ => none }
def AttrCanonicalWrongFalsely : Prop := attrCanonicalRow.holds Tryd.pinned (OpenSpec.ofChange attrCanonicalWrong)

/-- 'rosterlaw04.AttrSpelling': WHATEVER THE INPUT: true; the input reads as it did. -/
def attrSpellingSpec : ChangeSpec := { name := "attrSpelling", fn := fun _ => fun
  | [d1, d2, d3] => { results := [.lit (.bool true)], args := [d1, d2, d3] }
  | _ => none }
def attrSpellingRow : OpenClaim := { program := "ytdonopoijbokiaadoor", sum := "4413addc49e27ace29987d469f1a6b014e095e6fc2c944048d11908881e019f8", func := "roster/rosterlaw04.AttrSpelling", spec := "attrSpelling", inPlace := ["internal/bytealg.CountString", "internal/bytealg.IndexByteString", "internal/bytealg.IndexString", "internal/abi.NoEscape"], recurses := true, named := ["roster/rosterlaw04.known", "unicode/utf8.first", "unicode/utf8.acceptRanges", "internal/bytealg.MaxLen"], apart := false, laid := [("unicode/utf8.acceptRanges", laid_unicode_utf8_acceptRanges), ("roster/rosterlaw04.known", laid_roster_rosterlaw04_known), ("unicode/utf8.first", laid_unicode_utf8_first)] }
def AttrSpellingSaid : Prop := attrSpellingRow.holds Tryd.pinned (OpenSpec.ofChange attrSpellingSpec)

/-- ITS FALSE NEIGHBOUR: 'it returns false'. Refute it at one input. -/
def attrSpellingWrong : ChangeSpec := { name := "attrSpelling", fn := fun _ => fun
  | [d1, d2, d3] => { results := [.lit (.bool false)], args := [d1, d2, d3] }
  | _ => none }
def AttrSpellingWrongFalsely : Prop := attrSpellingRow.holds Tryd.pinned (OpenSpec.ofChange attrSpellingWrong)

/- THE SECOND FORM. 'bulk': how many values and letters a reading holds, each counted each time it is reached (what is shared counts as often as it is met; a slice's spare places count too). A statement '..UptoSaid' is the law's where the arguments, and the package variables that the reading takes, are together of bulk at most 1048576: NARROWER than '..Said'. Prove '..Said' where nothing that the law and all that it calls make is longer than what came in: it says more and counts as full. Else prove '..UptoSaid'. A law counts once. -/
mutual
def uptoBulk {H : Type} : DataW H → Nat
  | .lit (.string bytes) => bytes.length + 1
  | .lit _ => 1
  | .nil => 1
  | .ptr d => uptoBulk d + 1
  | .slice elems spare => uptoBulkAll elems + uptoBulkAll spare + 1
  | .agg parts => uptoBulkAll parts + 1
  | .iface _ d => uptoBulk d + 1
  | .map entries => uptoBulkEntries entries + 1
  | .held _ => 1
def uptoBulkAll {H : Type} : List (DataW H) → Nat
  | [] => 0
  | d :: r => uptoBulk d + uptoBulkAll r
def uptoBulkEntries {H : Type} : List (Lit × DataW H) → Nat
  | [] => 0
  | x :: r => uptoBulkEntry x + uptoBulkEntries r
def uptoBulkEntry {H : Type} : Lit × DataW H → Nat
  | (.string bytes, d) => bytes.length + uptoBulk d + 1
  | (_, d) => uptoBulk d + 1
 end
def uptoSmall : (H : Type) → List (DataW H) → Bool := fun _ ds => decide (uptoBulkAll ds ≤ 1048576)
def OpenSpec.upto (s : _root_.Go.ChangeSpec) : _root_.Go.OpenSpec := { _root_.Go.OpenSpec.ofChange s with cond := some uptoSmall }

/-- 'rosterlaw04.AttrTypes', WHERE WHAT IT READS IS OF BULK AT MOST 1048576: true; the input reads as it did. -/
def attrTypesUptoRow : OpenClaim := { program := "ytdonopoijbokiaadoor", sum := "4413addc49e27ace29987d469f1a6b014e095e6fc2c944048d11908881e019f8", func := "roster/rosterlaw04.AttrTypes", spec := "attrTypes", unfollowed := true, recurses := true, named := ["roster/rosterref04.kinds"], apart := false, laid := [("roster/rosterref04.kinds", laid_roster_rosterref04_kinds)], narrowed := true }
def AttrTypesUptoSaid : Prop := attrTypesUptoRow.holds Tryd.pinned (OpenSpec.upto attrTypesSpec)

/-- 'rosterlaw04.AttrFinds', WHERE WHAT IT READS IS OF BULK AT MOST 1048576: true; the input reads as it did. -/
def attrFindsUptoRow : OpenClaim := { program := "ytdonopoijbokiaadoor", sum := "4413addc49e27ace29987d469f1a6b014e095e6fc2c944048d11908881e019f8", func := "roster/rosterlaw04.AttrFinds", spec := "attrFinds", named := ["roster/rosterref04.kinds"], apart := false, laid := [("roster/rosterref04.kinds", laid_roster_rosterref04_kinds)], narrowed := true }
def AttrFindsUptoSaid : Prop := attrFindsUptoRow.holds Tryd.pinned (OpenSpec.upto attrFindsSpec)

/-- 'rosterlaw04.AttrPlace', WHERE WHAT IT READS IS OF BULK AT MOST 1048576: true; the input reads as it did. -/
def attrPlaceUptoRow : OpenClaim := { program := "ytdonopoijbokiaadoor", sum := "4413addc49e27ace29987d469f1a6b014e095e6fc2c944048d11908881e019f8", func := "roster/rosterlaw04.AttrPlace", spec := "attrPlace", inPlace := ["internal/bytealg.CountString", "internal/bytealg.IndexByteString", "internal/bytealg.IndexString"], recurses := true, named := ["unicode/utf8.first", "unicode/utf8.acceptRanges", "internal/bytealg.MaxLen"], apart := false, laid := [("unicode/utf8.acceptRanges", laid_unicode_utf8_acceptRanges), ("unicode/utf8.first", laid_unicode_utf8_first)], narrowed := true }
def AttrPlaceUptoSaid : Prop := attrPlaceUptoRow.holds Tryd.pinned (OpenSpec.upto attrPlaceSpec)

/-- 'rosterlaw04.AttrSyntaxes', WHERE WHAT IT READS IS OF BULK AT MOST 1048576: true; the input reads as it did. -/
def attrSyntaxesUptoRow : OpenClaim := { program := "ytdonopoijbokiaadoor", sum := "4413addc49e27ace29987d469f1a6b014e095e6fc2c944048d11908881e019f8", func := "roster/rosterlaw04.AttrSyntaxes", spec := "attrSyntaxes", inPlace := ["internal/bytealg.CountString", "internal/bytealg.IndexByteString", "internal/bytealg.IndexString"], recurses := true, named := ["unicode/utf8.first", "unicode/utf8.acceptRanges", "internal/bytealg.MaxLen", "roster/rosterref04.kinds"], apart := false, laid := [("roster/rosterref04.kinds", laid_roster_rosterref04_kinds), ("unicode/utf8.acceptRanges", laid_unicode_utf8_acceptRanges), ("unicode/utf8.first", laid_unicode_utf8_first)], narrowed := true }
def AttrSyntaxesUptoSaid : Prop := attrSyntaxesUptoRow.holds Tryd.pinned (OpenSpec.upto attrSyntaxesSpec)

/-- 'rosterlaw04.AttrKept', WHERE WHAT IT READS IS OF BULK AT MOST 1048576: true; the input reads as it did. -/
def attrKeptUptoRow : OpenClaim := { program := "ytdonopoijbokiaadoor", sum := "4413addc49e27ace29987d469f1a6b014e095e6fc2c944048d11908881e019f8", func := "roster/rosterlaw04.AttrKept", spec := "attrKept", inPlace := ["internal/bytealg.CountString", "internal/bytealg.IndexByteString", "internal/bytealg.IndexString"], recurses := true, named := ["unicode/utf8.first", "unicode/utf8.acceptRanges", "internal/bytealg.MaxLen", "roster/rosterref04.kinds"], apart := false, laid := [("roster/rosterref04.kinds", laid_roster_rosterref04_kinds), ("unicode/utf8.acceptRanges", laid_unicode_utf8_acceptRanges), ("unicode/utf8.first", laid_unicode_utf8_first)], narrowed := true }
def AttrKeptUptoSaid : Prop := attrKeptUptoRow.holds Tryd.pinned (OpenSpec.upto attrKeptSpec)

/-- 'rosterlaw04.AttrCovers', WHERE WHAT IT READS IS OF BULK AT MOST 1048576: true; the input reads as it did. -/
def attrCoversUptoRow : OpenClaim := { program := "ytdonopoijbokiaadoor", sum := "4413addc49e27ace29987d469f1a6b014e095e6fc2c944048d11908881e019f8", func := "roster/rosterlaw04.AttrCovers", spec := "attrCovers", inPlace := ["internal/bytealg.CountString", "internal/bytealg.IndexByteString", "internal/bytealg.IndexString"], recurses := true, named := ["unicode/utf8.first", "unicode/utf8.acceptRanges", "internal/bytealg.MaxLen", "roster/rosterref04.kinds"], apart := false, laid := [("roster/rosterref04.kinds", laid_roster_rosterref04_kinds), ("unicode/utf8.acceptRanges", laid_unicode_utf8_acceptRanges), ("unicode/utf8.first", laid_unicode_utf8_first)], narrowed := true }
def AttrCoversUptoSaid : Prop := attrCoversUptoRow.holds Tryd.pinned (OpenSpec.upto attrCoversSpec)

/-- 'rosterlaw04.AttrMore', WHERE WHAT IT READS IS OF BULK AT MOST 1048576: true; the input reads as it did. -/
def attrMoreUptoRow : OpenClaim := { program := "ytdonopoijbokiaadoor", sum := "4413addc49e27ace29987d469f1a6b014e095e6fc2c944048d11908881e019f8", func := "roster/rosterlaw04.AttrMore", spec := "attrMore", inPlace := ["internal/bytealg.CountString", "internal/bytealg.IndexByteString", "internal/bytealg.IndexString"], recurses := true, named := ["unicode/utf8.first", "unicode/utf8.acceptRanges", "internal/bytealg.MaxLen"], apart := false, laid := [("unicode/utf8.acceptRanges", laid_unicode_utf8_acceptRanges), ("unicode/utf8.first", laid_unicode_utf8_first)], narrowed := true }
def AttrMoreUptoSaid : Prop := attrMoreUptoRow.holds Tryd.pinned (OpenSpec.upto attrMoreSpec)

/-- 'rosterlaw04.AttrParses', WHERE WHAT IT READS IS OF BULK AT MOST 1048576: true; the input reads as it did. -/
def attrParsesUptoRow : OpenClaim := { program := "ytdonopoijbokiaadoor", sum := "4413addc49e27ace29987d469f1a6b014e095e6fc2c944048d11908881e019f8", func := "roster/rosterlaw04.AttrParses", spec := "attrParses", inPlace := ["internal/bytealg.CountString", "internal/bytealg.IndexByteString", "internal/bytealg.IndexString", "internal/abi.NoEscape"], recurses := true, named := ["unicode/utf8.first", "unicode/utf8.acceptRanges", "internal/bytealg.MaxLen"], apart := false, laid := [("unicode/utf8.acceptRanges", laid_unicode_utf8_acceptRanges), ("unicode/utf8.first", laid_unicode_utf8_first)], narrowed := true }
def AttrParsesUptoSaid : Prop := attrParsesUptoRow.holds Tryd.pinned (OpenSpec.upto attrParsesSpec)

/-- 'rosterlaw04.AttrSupers', WHERE WHAT IT READS IS OF BULK AT MOST 1048576: true; the input reads as it did. -/
def attrSupersUptoRow : OpenClaim := { program := "ytdonopoijbokiaadoor", sum := "4413addc49e27ace29987d469f1a6b014e095e6fc2c944048d11908881e019f8", func := "roster/rosterlaw04.AttrSupers", spec := "attrSupers", inPlace := ["internal/bytealg.CountString", "internal/bytealg.IndexByteString", "internal/bytealg.IndexString"], recurses := true, named := ["roster/rosterlaw04.known", "unicode/utf8.first", "unicode/utf8.acceptRanges", "internal/bytealg.MaxLen"], apart := false, laid := [("unicode/utf8.acceptRanges", laid_unicode_utf8_acceptRanges), ("roster/rosterlaw04.known", laid_roster_rosterlaw04_known), ("unicode/utf8.first", laid_unicode_utf8_first)], narrowed := true }
def AttrSupersUptoSaid : Prop := attrSupersUptoRow.holds Tryd.pinned (OpenSpec.upto attrSupersSpec)

/-- 'rosterlaw04.AttrOrder', WHERE WHAT IT READS IS OF BULK AT MOST 1048576: true; the input reads as it did. -/
def attrOrderUptoRow : OpenClaim := { program := "ytdonopoijbokiaadoor", sum := "4413addc49e27ace29987d469f1a6b014e095e6fc2c944048d11908881e019f8", func := "roster/rosterlaw04.AttrOrder", spec := "attrOrder", inPlace := ["internal/bytealg.CountString", "internal/bytealg.IndexByteString", "internal/bytealg.IndexString", "internal/abi.NoEscape"], recurses := true, named := ["unicode/utf8.first", "unicode/utf8.acceptRanges", "internal/bytealg.MaxLen"], apart := false, laid := [("unicode/utf8.acceptRanges", laid_unicode_utf8_acceptRanges), ("unicode/utf8.first", laid_unicode_utf8_first)], narrowed := true }
def AttrOrderUptoSaid : Prop := attrOrderUptoRow.holds Tryd.pinned (OpenSpec.upto attrOrderSpec)

/-- 'rosterlaw04.AttrCanonical', WHERE WHAT IT READS IS OF BULK AT MOST 1048576: true; the input reads as it did. -/
def attrCanonicalUptoRow : OpenClaim := { program := "ytdonopoijbokiaadoor", sum := "4413addc49e27ace29987d469f1a6b014e095e6fc2c944048d11908881e019f8", func := "roster/rosterlaw04.AttrCanonical", spec := "attrCanonical", inPlace := ["internal/bytealg.CountString", "internal/bytealg.IndexByteString", "internal/bytealg.IndexString", "internal/abi.NoEscape"], recurses := true, named := ["unicode/utf8.first", "unicode/utf8.acceptRanges", "internal/bytealg.MaxLen"], apart := false, laid := [("unicode/utf8.acceptRanges", laid_unicode_utf8_acceptRanges), ("unicode/utf8.first", laid_unicode_utf8_first)], narrowed := true }
def AttrCanonicalUptoSaid : Prop := attrCanonicalUptoRow.holds Tryd.pinned (OpenSpec.upto attrCanonicalSpec)

/-- 'rosterlaw04.AttrSpelling', WHERE WHAT IT READS IS OF BULK AT MOST 1048576: true; the input reads as it did. -/
def attrSpellingUptoRow : OpenClaim := { program := "ytdonopoijbokiaadoor", sum := "4413addc49e27ace29987d469f1a6b014e095e6fc2c944048d11908881e019f8", func := "roster/rosterlaw04.AttrSpelling", spec := "attrSpelling", inPlace := ["internal/bytealg.CountString", "internal/bytealg.IndexByteString", "internal/bytealg.IndexString", "internal/abi.NoEscape"], recurses := true, named := ["roster/rosterlaw04.known", "unicode/utf8.first", "unicode/utf8.acceptRanges", "internal/bytealg.MaxLen"], apart := false, laid := [("unicode/utf8.acceptRanges", laid_unicode_utf8_acceptRanges), ("roster/rosterlaw04.known", laid_roster_rosterlaw04_known), ("unicode/utf8.first", laid_unicode_utf8_first)], narrowed := true }
def AttrSpellingUptoSaid : Prop := attrSpellingUptoRow.holds Tryd.pinned (OpenSpec.upto attrSpellingSpec)

end Rows
end Go.Proofs.YtdonopoijbokiaaDoor
