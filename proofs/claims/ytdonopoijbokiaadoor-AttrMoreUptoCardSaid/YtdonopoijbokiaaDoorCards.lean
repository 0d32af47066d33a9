/-
  DERIVED. GIVEN WITH THE SEED: THE CARDS: each row of YtdonopoijbokiaaDoorRows.lean that lists a variable, with what it lists TIED to the program's text (the seventh form; the later family's looks); each row that meets fmt, with fmt's text TOLD by the authors' own Lean function (tested against real Go, not proved from fmt's source: count such statements apart). THE CARD IS WHAT COUNTS. Prove the row's statement (the work); the ties are given (YtdonopoijbokiaaDoorTie.lean); close each card by the builder's one call (the guide's Derived/Test/ToyasCard.lean, 'card_holds'). Laid BY PROGRAM, IN A SANDBOX (cutbox-door.mjs). By AI agents, Wed Nov 11 2026. No macro, syntax, notation, axiom, sorry.
-/
import Derived.Test.YtdonopoijbokiaaDoorRows
import GoSem.ClaimSeven
namespace Go.Proofs.YtdonopoijbokiaaDoor
namespace Rows

/-- THE TIED CARD OF 'rosterlaw04.AttrTypes'. -/
def attrTypesCard : Claim7 := { stood := { row := attrTypesRow, standIns := [], harness := (true, "1cb38224d26fa5055d293c243e85c1c0e14d2cdf47a8217b486675d6011f8242"), looks := false }, kinds := [], alts := [], laidByText := true, laidKinds := [.data], laidTests := true, laidLooks := .later }
def AttrTypesCardSaid : Prop := Claim7.holds Tryd.pinned (.plain (OpenSpec.ofChange attrTypesSpec)) attrTypesCard

/-- THE TIED CARD OF 'rosterlaw04.AttrFinds'. -/
def attrFindsCard : Claim7 := { stood := { row := attrFindsRow, standIns := [], harness := (true, "1cb38224d26fa5055d293c243e85c1c0e14d2cdf47a8217b486675d6011f8242"), looks := false }, kinds := [], alts := [], laidByText := true, laidKinds := [.data], laidTests := true, laidLooks := .later }
def AttrFindsCardSaid : Prop := Claim7.holds Tryd.pinned (.plain (OpenSpec.ofChange attrFindsSpec)) attrFindsCard

/-- THE TIED CARD OF 'rosterlaw04.AttrPlace'. -/
def attrPlaceCard : Claim7 := { stood := { row := attrPlaceRow, standIns := [], harness := (true, "1cb38224d26fa5055d293c243e85c1c0e14d2cdf47a8217b486675d6011f8242"), looks := false }, kinds := [], alts := [], laidByText := true, laidKinds := [.data, .pinned], laidTests := true, laidLooks := .later }
def AttrPlaceCardSaid : Prop := Claim7.holds Tryd.pinned (.plain (OpenSpec.ofChange attrPlaceSpec)) attrPlaceCard

/-- THE TIED CARD OF 'rosterlaw04.AttrSyntaxes'. -/
def attrSyntaxesCard : Claim7 := { stood := { row := attrSyntaxesRow, standIns := [], harness := (true, "1cb38224d26fa5055d293c243e85c1c0e14d2cdf47a8217b486675d6011f8242"), looks := false }, kinds := [], alts := [], laidByText := true, laidKinds := [.data, .data, .pinned], laidTests := true, laidLooks := .later }
def AttrSyntaxesCardSaid : Prop := Claim7.holds Tryd.pinned (.plain (OpenSpec.ofChange attrSyntaxesSpec)) attrSyntaxesCard

/-- THE TIED CARD OF 'rosterlaw04.AttrKept'. -/
def attrKeptCard : Claim7 := { stood := { row := attrKeptRow, standIns := [], harness := (true, "1cb38224d26fa5055d293c243e85c1c0e14d2cdf47a8217b486675d6011f8242"), looks := false }, kinds := [], alts := [], laidByText := true, laidKinds := [.data, .data, .pinned], laidTests := true, laidLooks := .later }
def AttrKeptCardSaid : Prop := Claim7.holds Tryd.pinned (.plain (OpenSpec.ofChange attrKeptSpec)) attrKeptCard

/-- THE TIED CARD OF 'rosterlaw04.AttrCovers'. -/
def attrCoversCard : Claim7 := { stood := { row := attrCoversRow, standIns := [], harness := (true, "1cb38224d26fa5055d293c243e85c1c0e14d2cdf47a8217b486675d6011f8242"), looks := false }, kinds := [], alts := [], laidByText := true, laidKinds := [.data, .data, .pinned], laidTests := true, laidLooks := .later }
def AttrCoversCardSaid : Prop := Claim7.holds Tryd.pinned (.plain (OpenSpec.ofChange attrCoversSpec)) attrCoversCard

/-- THE TIED CARD OF 'rosterlaw04.AttrMore'. -/
def attrMoreCard : Claim7 := { stood := { row := attrMoreRow, standIns := [], harness := (true, "1cb38224d26fa5055d293c243e85c1c0e14d2cdf47a8217b486675d6011f8242"), looks := false }, kinds := [], alts := [], laidByText := true, laidKinds := [.data, .pinned], laidTests := true, laidLooks := .later }
def AttrMoreCardSaid : Prop := Claim7.holds Tryd.pinned (.plain (OpenSpec.ofChange attrMoreSpec)) attrMoreCard

/-- THE TIED CARD OF 'rosterlaw04.AttrParses'. -/
def attrParsesCard : Claim7 := { stood := { row := attrParsesRow, standIns := [], harness := (true, "1cb38224d26fa5055d293c243e85c1c0e14d2cdf47a8217b486675d6011f8242"), looks := false }, kinds := [], alts := [], laidByText := true, laidKinds := [.data, .pinned], laidTests := true, laidLooks := .later }
def AttrParsesCardSaid : Prop := Claim7.holds Tryd.pinned (.plain (OpenSpec.ofChange attrParsesSpec)) attrParsesCard

/-- THE TIED CARD OF 'rosterlaw04.AttrSupers'. -/
def attrSupersCard : Claim7 := { stood := { row := attrSupersRow, standIns := [], harness := (true, "1cb38224d26fa5055d293c243e85c1c0e14d2cdf47a8217b486675d6011f8242"), looks := false }, kinds := [], alts := [], laidByText := true, laidKinds := [.data, .data, .pinned], laidTests := true, laidLooks := .later }
def AttrSupersCardSaid : Prop := Claim7.holds Tryd.pinned (.plain (OpenSpec.ofChange attrSupersSpec)) attrSupersCard

/-- THE TIED CARD OF 'rosterlaw04.AttrOrder'. -/
def attrOrderCard : Claim7 := { stood := { row := attrOrderRow, standIns := [], harness := (true, "1cb38224d26fa5055d293c243e85c1c0e14d2cdf47a8217b486675d6011f8242"), looks := false }, kinds := [], alts := [], laidByText := true, laidKinds := [.data, .pinned], laidTests := true, laidLooks := .later }
def AttrOrderCardSaid : Prop := Claim7.holds Tryd.pinned (.plain (OpenSpec.ofChange attrOrderSpec)) attrOrderCard

/-- THE TIED CARD OF 'rosterlaw04.AttrCanonical'. -/
def attrCanonicalCard : Claim7 := { stood := { row := attrCanonicalRow, standIns := [], harness := (true, "1cb38224d26fa5055d293c243e85c1c0e14d2cdf47a8217b486675d6011f8242"), looks := false }, kinds := [], alts := [], laidByText := true, laidKinds := [.data, .pinned], laidTests := true, laidLooks := .later }
def AttrCanonicalCardSaid : Prop := Claim7.holds Tryd.pinned (.plain (OpenSpec.ofChange attrCanonicalSpec)) attrCanonicalCard

/-- THE TIED CARD OF 'rosterlaw04.AttrSpelling'. -/
def attrSpellingCard : Claim7 := { stood := { row := attrSpellingRow, standIns := [], harness := (true, "1cb38224d26fa5055d293c243e85c1c0e14d2cdf47a8217b486675d6011f8242"), looks := false }, kinds := [], alts := [], laidByText := true, laidKinds := [.data, .data, .pinned], laidTests := true, laidLooks := .later }
def AttrSpellingCardSaid : Prop := Claim7.holds Tryd.pinned (.plain (OpenSpec.ofChange attrSpellingSpec)) attrSpellingCard

/-- THE SECOND FORM's CARD OF 'rosterlaw04.AttrTypes'. -/
def attrTypesUptoCard : Claim7 := { stood := { row := attrTypesUptoRow, standIns := [], harness := (true, "1cb38224d26fa5055d293c243e85c1c0e14d2cdf47a8217b486675d6011f8242"), looks := false }, kinds := [], alts := [], laidByText := true, laidKinds := [.data], laidTests := true, laidLooks := .later }
def AttrTypesUptoCardSaid : Prop := Claim7.holds Tryd.pinned (.plain (OpenSpec.upto attrTypesSpec)) attrTypesUptoCard

/-- THE SECOND FORM's CARD OF 'rosterlaw04.AttrFinds'. -/
def attrFindsUptoCard : Claim7 := { stood := { row := attrFindsUptoRow, standIns := [], harness := (true, "1cb38224d26fa5055d293c243e85c1c0e14d2cdf47a8217b486675d6011f8242"), looks := false }, kinds := [], alts := [], laidByText := true, laidKinds := [.data], laidTests := true, laidLooks := .later }
def AttrFindsUptoCardSaid : Prop := Claim7.holds Tryd.pinned (.plain (OpenSpec.upto attrFindsSpec)) attrFindsUptoCard

/-- THE SECOND FORM's CARD OF 'rosterlaw04.AttrPlace'. -/
def attrPlaceUptoCard : Claim7 := { stood := { row := attrPlaceUptoRow, standIns := [], harness := (true, "1cb38224d26fa5055d293c243e85c1c0e14d2cdf47a8217b486675d6011f8242"), looks := false }, kinds := [], alts := [], laidByText := true, laidKinds := [.data, .pinned], laidTests := true, laidLooks := .later }
def AttrPlaceUptoCardSaid : Prop := Claim7.holds Tryd.pinned (.plain (OpenSpec.upto attrPlaceSpec)) attrPlaceUptoCard

/-- THE SECOND FORM's CARD OF 'rosterlaw04.AttrSyntaxes'. -/
def attrSyntaxesUptoCard : Claim7 := { stood := { row := attrSyntaxesUptoRow, standIns := [], harness := (true, "1cb38224d26fa5055d293c243e85c1c0e14d2cdf47a8217b486675d6011f8242"), looks := false }, kinds := [], alts := [], laidByText := true, laidKinds := [.data, .data, .pinned], laidTests := true, laidLooks := .later }
def AttrSyntaxesUptoCardSaid : Prop := Claim7.holds Tryd.pinned (.plain (OpenSpec.upto attrSyntaxesSpec)) attrSyntaxesUptoCard

/-- THE SECOND FORM's CARD OF 'rosterlaw04.AttrKept'. -/
def attrKeptUptoCard : Claim7 := { stood := { row := attrKeptUptoRow, standIns := [], harness := (true, "1cb38224d26fa5055d293c243e85c1c0e14d2cdf47a8217b486675d6011f8242"), looks := false }, kinds := [], alts := [], laidByText := true, laidKinds := [.data, .data, .pinned], laidTests := true, laidLooks := .later }
def AttrKeptUptoCardSaid : Prop := Claim7.holds Tryd.pinned (.plain (OpenSpec.upto attrKeptSpec)) attrKeptUptoCard

/-- THE SECOND FORM's CARD OF 'rosterlaw04.AttrCovers'. -/
def attrCoversUptoCard : Claim7 := { stood := { row := attrCoversUptoRow, standIns := [], harness := (true, "1cb38224d26fa5055d293c243e85c1c0e14d2cdf47a8217b486675d6011f8242"), looks := false }, kinds := [], alts := [], laidByText := true, laidKinds := [.data, .data, .pinned], laidTests := true, laidLooks := .later }
def AttrCoversUptoCardSaid : Prop := Claim7.holds Tryd.pinned (.plain (OpenSpec.upto attrCoversSpec)) attrCoversUptoCard

/-- THE SECOND FORM's CARD OF 'rosterlaw04.AttrMore'. -/
def attrMoreUptoCard : Claim7 := { stood := { row := attrMoreUptoRow, standIns := [], harness := (true, "1cb38224d26fa5055d293c243e85c1c0e14d2cdf47a8217b486675d6011f8242"), looks := false }, kinds := [], alts := [], laidByText := true, laidKinds := [.data, .pinned], laidTests := true, laidLooks := .later }
def AttrMoreUptoCardSaid : Prop := Claim7.holds Tryd.pinned (.plain (OpenSpec.upto attrMoreSpec)) attrMoreUptoCard

/-- THE SECOND FORM's CARD OF 'rosterlaw04.AttrParses'. -/
def attrParsesUptoCard : Claim7 := { stood := { row := attrParsesUptoRow, standIns := [], harness := (true, "1cb38224d26fa5055d293c243e85c1c0e14d2cdf47a8217b486675d6011f8242"), looks := false }, kinds := [], alts := [], laidByText := true, laidKinds := [.data, .pinned], laidTests := true, laidLooks := .later }
def AttrParsesUptoCardSaid : Prop := Claim7.holds Tryd.pinned (.plain (OpenSpec.upto attrParsesSpec)) attrParsesUptoCard

/-- THE SECOND FORM's CARD OF 'rosterlaw04.AttrSupers'. -/
def attrSupersUptoCard : Claim7 := { stood := { row := attrSupersUptoRow, standIns := [], harness := (true, "1cb38224d26fa5055d293c243e85c1c0e14d2cdf47a8217b486675d6011f8242"), looks := false }, kinds := [], alts := [], laidByText := true, laidKinds := [.data, .data, .pinned], laidTests := true, laidLooks := .later }
def AttrSupersUptoCardSaid : Prop := Claim7.holds Tryd.pinned (.plain (OpenSpec.upto attrSupersSpec)) attrSupersUptoCard

/-- THE SECOND FORM's CARD OF 'rosterlaw04.AttrOrder'. -/
def attrOrderUptoCard : Claim7 := { stood := { row := attrOrderUptoRow, standIns := [], harness := (true, "1cb38224d26fa5055d293c243e85c1c0e14d2cdf47a8217b486675d6011f8242"), looks := false }, kinds := [], alts := [], laidByText := true, laidKinds := [.data, .pinned], laidTests := true, laidLooks := .later }
def AttrOrderUptoCardSaid : Prop := Claim7.holds Tryd.pinned (.plain (OpenSpec.upto attrOrderSpec)) attrOrderUptoCard

/-- THE SECOND FORM's CARD OF 'rosterlaw04.AttrCanonical'. -/
def attrCanonicalUptoCard : Claim7 := { stood := { row := attrCanonicalUptoRow, standIns := [], harness := (true, "1cb38224d26fa5055d293c243e85c1c0e14d2cdf47a8217b486675d6011f8242"), looks := false }, kinds := [], alts := [], laidByText := true, laidKinds := [.data, .pinned], laidTests := true, laidLooks := .later }
def AttrCanonicalUptoCardSaid : Prop := Claim7.holds Tryd.pinned (.plain (OpenSpec.upto attrCanonicalSpec)) attrCanonicalUptoCard

/-- THE SECOND FORM's CARD OF 'rosterlaw04.AttrSpelling'. -/
def attrSpellingUptoCard : Claim7 := { stood := { row := attrSpellingUptoRow, standIns := [], harness := (true, "1cb38224d26fa5055d293c243e85c1c0e14d2cdf47a8217b486675d6011f8242"), looks := false }, kinds := [], alts := [], laidByText := true, laidKinds := [.data, .data, .pinned], laidTests := true, laidLooks := .later }
def AttrSpellingUptoCardSaid : Prop := Claim7.holds Tryd.pinned (.plain (OpenSpec.upto attrSpellingSpec)) attrSpellingUptoCard
end Rows
end Go.Proofs.YtdonopoijbokiaaDoor
