/-
  DERIVED. GIVEN WITH THE SEED: THE CARDS: each row of YtlhlijaondmccaaGreatDoorRows.lean that lists a variable, with what it lists TIED to the program's text (the seventh form; the later family's looks); each row that meets fmt, with fmt's text TOLD by the authors' own Lean function (tested against real Go, not proved from fmt's source: count such statements apart). THE CARD IS WHAT COUNTS. Prove the row's statement (the work); the ties are given (YtlhlijaondmccaaGreatDoorTie.lean); close each card by the builder's one call (the guide's Derived/Test/ToyasCard.lean, 'card_holds'). Laid BY PROGRAM, IN A SANDBOX (cutbox-door.mjs). By AI agents, Wed Nov 11 2026. No macro, syntax, notation, axiom, sorry.
-/
import Derived.Test.YtlhlijaondmccaaGreatDoorRows
import GoSem.ClaimSeven
namespace Go.Proofs.YtlhlijaondmccaaGreatDoor
namespace Rows

/-- THE TIED CARD OF 'padlocklaw06.ShowIs'. -/
def showIsCard : Claim7 := { stood := { row := showIsRow, standIns := [], harness := (true, "4b081b2d0e68a4549e9a20eea754eccd794c0f4fa15186553da4b61523f2fafe"), looks := true }, kinds := [], alts := [], laidByText := true, laidKinds := [.data, .data, .data], laidTests := true, laidLooks := .later }
def ShowIsCardSaid : Prop := Claim7.holds Tryz.pinned (.plain (OpenSpec.ofChange showIsSpec)) showIsCard

/-- THE TIED CARD OF 'padlocklaw05.ParseIs'. -/
def parseIsCard : Claim7 := { stood := { row := parseIsRow, standIns := [], harness := (true, "4b081b2d0e68a4549e9a20eea754eccd794c0f4fa15186553da4b61523f2fafe"), looks := true }, kinds := [], alts := [], laidByText := true, laidKinds := [.data, .data, .data, .sentinel, .sentinel], laidTests := true, laidLooks := .later }
def ParseIsCardSaid : Prop := Claim7.holds Tryz.pinned (.plain (OpenSpec.ofChange parseIsSpec)) parseIsCard

/-- THE TIED CARD OF 'padlocklaw05.ParseCuts'. -/
def parseCutsCard : Claim7 := { stood := { row := parseCutsRow, standIns := [], harness := (true, "4b081b2d0e68a4549e9a20eea754eccd794c0f4fa15186553da4b61523f2fafe"), looks := true }, kinds := [], alts := [], laidByText := true, laidKinds := [.data, .data, .data, .sentinel, .sentinel], laidTests := true, laidLooks := .later }
def ParseCutsCardSaid : Prop := Claim7.holds Tryz.pinned (.plain (OpenSpec.ofChange parseCutsSpec)) parseCutsCard

/-- THE TIED CARD OF 'padlocklaw05.ParseItems'. -/
def parseItemsCard : Claim7 := { stood := { row := parseItemsRow, standIns := [], harness := (true, "4b081b2d0e68a4549e9a20eea754eccd794c0f4fa15186553da4b61523f2fafe"), looks := true }, kinds := [], alts := [], laidByText := true, laidKinds := [.data, .data, .data, .sentinel, .sentinel], laidTests := true, laidLooks := .later }
def ParseItemsCardSaid : Prop := Claim7.holds Tryz.pinned (.plain (OpenSpec.ofChange parseItemsSpec)) parseItemsCard

/-- THE TIED CARD OF 'padlocklaw05.ParseBlanks'. -/
def parseBlanksCard : Claim7 := { stood := { row := parseBlanksRow, standIns := [], harness := (true, "4b081b2d0e68a4549e9a20eea754eccd794c0f4fa15186553da4b61523f2fafe"), looks := true }, kinds := [], alts := [], laidByText := true, laidKinds := [.data, .data, .data, .sentinel, .sentinel], laidTests := true, laidLooks := .later }
def ParseBlanksCardSaid : Prop := Claim7.holds Tryz.pinned (.plain (OpenSpec.ofChange parseBlanksSpec)) parseBlanksCard

/-- THE TIED CARD OF 'padlocklaw06.ShowBack'. -/
def showBackCard : Claim7 := { stood := { row := showBackRow, standIns := [], harness := (true, "4b081b2d0e68a4549e9a20eea754eccd794c0f4fa15186553da4b61523f2fafe"), looks := true }, kinds := [], alts := [], laidByText := true, laidKinds := [.data, .data, .data, .sentinel, .sentinel], laidTests := true, laidLooks := .later }
def ShowBackCardSaid : Prop := Claim7.holds Tryz.pinned (.plain (OpenSpec.ofChange showBackSpec)) showBackCard

/-- THE TIED CARD OF 'padlocklaw06.ShowTree'. -/
def showTreeCard : Claim7 := { stood := { row := showTreeRow, standIns := [], harness := (true, "4b081b2d0e68a4549e9a20eea754eccd794c0f4fa15186553da4b61523f2fafe"), looks := true }, kinds := [], alts := [], laidByText := true, laidKinds := [.data, .data, .data, .sentinel, .sentinel], laidTests := true, laidLooks := .later }
def ShowTreeCardSaid : Prop := Claim7.holds Tryz.pinned (.plain (OpenSpec.ofChange showTreeSpec)) showTreeCard

/-- THE TIED CARD OF 'padlocklaw06.ShowUnlike'. -/
def showUnlikeCard : Claim7 := { stood := { row := showUnlikeRow, standIns := [], harness := (true, "4b081b2d0e68a4549e9a20eea754eccd794c0f4fa15186553da4b61523f2fafe"), looks := true }, kinds := [], alts := [], laidByText := true, laidKinds := [.data, .data, .data, .sentinel, .sentinel], laidTests := true, laidLooks := .later }
def ShowUnlikeCardSaid : Prop := Claim7.holds Tryz.pinned (.plain (OpenSpec.ofChange showUnlikeSpec)) showUnlikeCard

/-- THE SECOND FORM's CARD OF 'padlocklaw06.ShowIs'. -/
def showIsUptoCard : Claim7 := { stood := { row := showIsUptoRow, standIns := [], harness := (true, "4b081b2d0e68a4549e9a20eea754eccd794c0f4fa15186553da4b61523f2fafe"), looks := true }, kinds := [], alts := [], laidByText := true, laidKinds := [.data, .data, .data], laidTests := true, laidLooks := .later }
def ShowIsUptoCardSaid : Prop := Claim7.holds Tryz.pinned (.plain (OpenSpec.upto showIsSpec)) showIsUptoCard

/-- THE SECOND FORM's CARD OF 'padlocklaw05.ParseIs'. -/
def parseIsUptoCard : Claim7 := { stood := { row := parseIsUptoRow, standIns := [], harness := (true, "4b081b2d0e68a4549e9a20eea754eccd794c0f4fa15186553da4b61523f2fafe"), looks := true }, kinds := [], alts := [], laidByText := true, laidKinds := [.data, .data, .data, .sentinel, .sentinel], laidTests := true, laidLooks := .later }
def ParseIsUptoCardSaid : Prop := Claim7.holds Tryz.pinned (.plain (OpenSpec.upto parseIsSpec)) parseIsUptoCard

/-- THE SECOND FORM's CARD OF 'padlocklaw05.ParseCuts'. -/
def parseCutsUptoCard : Claim7 := { stood := { row := parseCutsUptoRow, standIns := [], harness := (true, "4b081b2d0e68a4549e9a20eea754eccd794c0f4fa15186553da4b61523f2fafe"), looks := true }, kinds := [], alts := [], laidByText := true, laidKinds := [.data, .data, .data, .sentinel, .sentinel], laidTests := true, laidLooks := .later }
def ParseCutsUptoCardSaid : Prop := Claim7.holds Tryz.pinned (.plain (OpenSpec.upto parseCutsSpec)) parseCutsUptoCard

/-- THE SECOND FORM's CARD OF 'padlocklaw05.ParseItems'. -/
def parseItemsUptoCard : Claim7 := { stood := { row := parseItemsUptoRow, standIns := [], harness := (true, "4b081b2d0e68a4549e9a20eea754eccd794c0f4fa15186553da4b61523f2fafe"), looks := true }, kinds := [], alts := [], laidByText := true, laidKinds := [.data, .data, .data, .sentinel, .sentinel], laidTests := true, laidLooks := .later }
def ParseItemsUptoCardSaid : Prop := Claim7.holds Tryz.pinned (.plain (OpenSpec.upto parseItemsSpec)) parseItemsUptoCard

/-- THE SECOND FORM's CARD OF 'padlocklaw05.ParseBlanks'. -/
def parseBlanksUptoCard : Claim7 := { stood := { row := parseBlanksUptoRow, standIns := [], harness := (true, "4b081b2d0e68a4549e9a20eea754eccd794c0f4fa15186553da4b61523f2fafe"), looks := true }, kinds := [], alts := [], laidByText := true, laidKinds := [.data, .data, .data, .sentinel, .sentinel], laidTests := true, laidLooks := .later }
def ParseBlanksUptoCardSaid : Prop := Claim7.holds Tryz.pinned (.plain (OpenSpec.upto parseBlanksSpec)) parseBlanksUptoCard

/-- THE SECOND FORM's CARD OF 'padlocklaw06.ShowBack'. -/
def showBackUptoCard : Claim7 := { stood := { row := showBackUptoRow, standIns := [], harness := (true, "4b081b2d0e68a4549e9a20eea754eccd794c0f4fa15186553da4b61523f2fafe"), looks := true }, kinds := [], alts := [], laidByText := true, laidKinds := [.data, .data, .data, .sentinel, .sentinel], laidTests := true, laidLooks := .later }
def ShowBackUptoCardSaid : Prop := Claim7.holds Tryz.pinned (.plain (OpenSpec.upto showBackSpec)) showBackUptoCard

/-- THE SECOND FORM's CARD OF 'padlocklaw06.ShowTree'. -/
def showTreeUptoCard : Claim7 := { stood := { row := showTreeUptoRow, standIns := [], harness := (true, "4b081b2d0e68a4549e9a20eea754eccd794c0f4fa15186553da4b61523f2fafe"), looks := true }, kinds := [], alts := [], laidByText := true, laidKinds := [.data, .data, .data, .sentinel, .sentinel], laidTests := true, laidLooks := .later }
def ShowTreeUptoCardSaid : Prop := Claim7.holds Tryz.pinned (.plain (OpenSpec.upto showTreeSpec)) showTreeUptoCard

/-- THE SECOND FORM's CARD OF 'padlocklaw06.ShowUnlike'. -/
def showUnlikeUptoCard : Claim7 := { stood := { row := showUnlikeUptoRow, standIns := [], harness := (true, "4b081b2d0e68a4549e9a20eea754eccd794c0f4fa15186553da4b61523f2fafe"), looks := true }, kinds := [], alts := [], laidByText := true, laidKinds := [.data, .data, .data, .sentinel, .sentinel], laidTests := true, laidLooks := .later }
def ShowUnlikeUptoCardSaid : Prop := Claim7.holds Tryz.pinned (.plain (OpenSpec.upto showUnlikeSpec)) showUnlikeUptoCard
end Rows
end Go.Proofs.YtlhlijaondmccaaGreatDoor
