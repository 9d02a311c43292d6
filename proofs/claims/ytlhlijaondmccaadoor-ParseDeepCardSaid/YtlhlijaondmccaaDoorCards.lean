/-
  DERIVED. GIVEN WITH THE SEED: THE CARDS: each row of YtlhlijaondmccaaDoorRows.lean that lists a variable, with what it lists TIED to the program's text (the seventh form; the later family's looks); each row that meets fmt, with fmt's text TOLD by the authors' own Lean function (tested against real Go, not proved from fmt's source: count such statements apart). THE CARD IS WHAT COUNTS. Prove the row's statement (the work); the ties are given (YtlhlijaondmccaaDoorTie.lean); close each card by the builder's one call (the guide's Derived/Test/ToyasCard.lean, 'card_holds'). Laid BY PROGRAM, IN A SANDBOX (cutbox-door.mjs). By AI agents, Wed Nov 11 2026. No macro, syntax, notation, axiom, sorry.
-/
import Derived.Test.YtlhlijaondmccaaDoorRows
import GoSem.ClaimSeven
namespace Go.Proofs.YtlhlijaondmccaaDoor
namespace Rows

/-- THE TIED CARD OF 'padlocklaw06.ShowParts'. -/
def showPartsCard : Claim7 := { stood := { row := showPartsRow, standIns := [], harness := (true, "fa14c5bee940d3225b8df54b2ac2da5d3b75d6be3c2368ae27aca9884776013a"), looks := true }, kinds := [], alts := [], laidByText := true, laidKinds := [.data, .data, .data], laidTests := true, laidLooks := .later }
def ShowPartsCardSaid : Prop := Claim7.holds Tryd.pinned (.plain (OpenSpec.ofChange showPartsSpec)) showPartsCard

/-- THE TIED CARD OF 'padlocklaw05.ParseDeep'. -/
def parseDeepCard : Claim7 := { stood := { row := parseDeepRow, standIns := [], harness := (true, "fa14c5bee940d3225b8df54b2ac2da5d3b75d6be3c2368ae27aca9884776013a"), looks := true }, kinds := [], alts := [], laidByText := true, laidKinds := [.data, .data, .data, .sentinel, .sentinel], laidTests := true, laidLooks := .later }
def ParseDeepCardSaid : Prop := Claim7.holds Tryd.pinned (.plain (OpenSpec.ofChange parseDeepSpec)) parseDeepCard

/-- THE TIED CARD OF 'padlocklaw05.ParseBrackets'. -/
def parseBracketsCard : Claim7 := { stood := { row := parseBracketsRow, standIns := [], harness := (true, "fa14c5bee940d3225b8df54b2ac2da5d3b75d6be3c2368ae27aca9884776013a"), looks := true }, kinds := [], alts := [], laidByText := true, laidKinds := [.data, .data, .data, .sentinel, .sentinel], laidTests := true, laidLooks := .later }
def ParseBracketsCardSaid : Prop := Claim7.holds Tryd.pinned (.plain (OpenSpec.ofChange parseBracketsSpec)) parseBracketsCard

/-- THE SECOND FORM's CARD OF 'padlocklaw06.ShowParts'. -/
def showPartsUptoCard : Claim7 := { stood := { row := showPartsUptoRow, standIns := [], harness := (true, "fa14c5bee940d3225b8df54b2ac2da5d3b75d6be3c2368ae27aca9884776013a"), looks := true }, kinds := [], alts := [], laidByText := true, laidKinds := [.data, .data, .data], laidTests := true, laidLooks := .later }
def ShowPartsUptoCardSaid : Prop := Claim7.holds Tryd.pinned (.plain (OpenSpec.upto showPartsSpec)) showPartsUptoCard

/-- THE SECOND FORM's CARD OF 'padlocklaw05.ParseDeep'. -/
def parseDeepUptoCard : Claim7 := { stood := { row := parseDeepUptoRow, standIns := [], harness := (true, "fa14c5bee940d3225b8df54b2ac2da5d3b75d6be3c2368ae27aca9884776013a"), looks := true }, kinds := [], alts := [], laidByText := true, laidKinds := [.data, .data, .data, .sentinel, .sentinel], laidTests := true, laidLooks := .later }
def ParseDeepUptoCardSaid : Prop := Claim7.holds Tryd.pinned (.plain (OpenSpec.upto parseDeepSpec)) parseDeepUptoCard

/-- THE SECOND FORM's CARD OF 'padlocklaw05.ParseBrackets'. -/
def parseBracketsUptoCard : Claim7 := { stood := { row := parseBracketsUptoRow, standIns := [], harness := (true, "fa14c5bee940d3225b8df54b2ac2da5d3b75d6be3c2368ae27aca9884776013a"), looks := true }, kinds := [], alts := [], laidByText := true, laidKinds := [.data, .data, .data, .sentinel, .sentinel], laidTests := true, laidLooks := .later }
def ParseBracketsUptoCardSaid : Prop := Claim7.holds Tryd.pinned (.plain (OpenSpec.upto parseBracketsSpec)) parseBracketsUptoCard
end Rows
end Go.Proofs.YtlhlijaondmccaaDoor
