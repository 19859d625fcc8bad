/-
  DERIVED. GIVEN WITH THE SEED: THE CARDS: each row of YtinjocchommbdaaGreatDoorRows.lean that lists a variable, with what it lists TIED to the program's text (the seventh form; the later family's looks); each row that meets fmt, with fmt's text TOLD by the authors' own Lean function (tested against real Go, not proved from fmt's source: count such statements apart). THE CARD IS WHAT COUNTS. Prove the row's statement (the work); the ties are given (YtinjocchommbdaaGreatDoorTie.lean); close each card by the builder's one call (the guide's Derived/Test/ToyasCard.lean, 'card_holds'). Laid BY PROGRAM, IN A SANDBOX (cutbox-door.mjs). By AI agents, Wed Nov 11 2026. No macro, syntax, notation, axiom, sorry.
-/
import Derived.Test.YtinjocchommbdaaGreatDoorRows
import GoSem.ClaimSeven
namespace Go.Proofs.YtinjocchommbdaaGreatDoor
namespace Rows

/-- THE TIED CARD OF 'dawdlerlaw06.ParseTells'. -/
def parseTellsCard : Claim7 := { stood := { row := parseTellsRow, standIns := [], harness := (true, "007718c112ba99e02310b7907327a7287713dca9330f6123241f7a2e98178d92"), looks := true }, kinds := [], alts := [], laidByText := true, laidKinds := [.data, .data, .data, .data, .sentinel, .sentinel, .pinned], laidTests := true, laidLooks := .later }
def ParseTellsCardSaid : Prop := Claim7.holds Tryz.pinned (.plain (OpenSpec.ofChange parseTellsSpec)) parseTellsCard

/-- THE TIED CARD OF 'dawdlerlaw06.ParseProgs'. -/
def parseProgsCard : Claim7 := { stood := { row := parseProgsRow, standIns := [], harness := (true, "007718c112ba99e02310b7907327a7287713dca9330f6123241f7a2e98178d92"), looks := true }, kinds := [], alts := [], laidByText := true, laidKinds := [.data, .data, .data, .data, .sentinel, .sentinel, .pinned], laidTests := true, laidLooks := .later }
def ParseProgsCardSaid : Prop := Claim7.holds Tryz.pinned (.plain (OpenSpec.ofChange parseProgsSpec)) parseProgsCard

/-- THE TIED CARD OF 'dawdlerlaw06.ParseTexts'. -/
def parseTextsCard : Claim7 := { stood := { row := parseTextsRow, standIns := [], harness := (true, "007718c112ba99e02310b7907327a7287713dca9330f6123241f7a2e98178d92"), looks := true }, kinds := [], alts := [], laidByText := true, laidKinds := [.data, .data, .data, .data, .sentinel, .sentinel, .pinned], laidTests := true, laidLooks := .later }
def ParseTextsCardSaid : Prop := Claim7.holds Tryz.pinned (.plain (OpenSpec.ofChange parseTextsSpec)) parseTextsCard

/-- THE TIED CARD OF 'dawdlerlaw06.ParsePlaces'. -/
def parsePlacesCard : Claim7 := { stood := { row := parsePlacesRow, standIns := [], harness := (true, "007718c112ba99e02310b7907327a7287713dca9330f6123241f7a2e98178d92"), looks := true }, kinds := [], alts := [], laidByText := true, laidKinds := [.data, .data, .data, .data, .sentinel, .sentinel, .pinned], laidTests := true, laidLooks := .later }
def ParsePlacesCardSaid : Prop := Claim7.holds Tryz.pinned (.plain (OpenSpec.ofChange parsePlacesSpec)) parsePlacesCard

/-- THE TIED CARD OF 'dawdlerlaw06.ParseWraps'. -/
def parseWrapsCard : Claim7 := { stood := { row := parseWrapsRow, standIns := [], harness := (true, "007718c112ba99e02310b7907327a7287713dca9330f6123241f7a2e98178d92"), looks := true }, kinds := [], alts := [], laidByText := true, laidKinds := [.data, .data, .data, .data, .sentinel, .sentinel, .pinned], laidTests := true, laidLooks := .later }
def ParseWrapsCardSaid : Prop := Claim7.holds Tryz.pinned (.plain (OpenSpec.ofChange parseWrapsSpec)) parseWrapsCard

/-- THE TIED CARD OF 'dawdlerlaw06.ParsePrefixes'. -/
def parsePrefixesCard : Claim7 := { stood := { row := parsePrefixesRow, standIns := [], harness := (true, "007718c112ba99e02310b7907327a7287713dca9330f6123241f7a2e98178d92"), looks := true }, kinds := [], alts := [], laidByText := true, laidKinds := [.data, .data, .data, .data, .sentinel, .sentinel, .pinned], laidTests := true, laidLooks := .later }
def ParsePrefixesCardSaid : Prop := Claim7.holds Tryz.pinned (.plain (OpenSpec.ofChange parsePrefixesSpec)) parsePrefixesCard

/-- THE TIED CARD OF 'dawdlerlaw06.ParseParams'. -/
def parseParamsCard : Claim7 := { stood := { row := parseParamsRow, standIns := [], harness := (true, "007718c112ba99e02310b7907327a7287713dca9330f6123241f7a2e98178d92"), looks := true }, kinds := [], alts := [], laidByText := true, laidKinds := [.data, .data, .data, .data, .sentinel, .sentinel, .pinned], laidTests := true, laidLooks := .later }
def ParseParamsCardSaid : Prop := Claim7.holds Tryz.pinned (.plain (OpenSpec.ofChange parseParamsSpec)) parseParamsCard

/-- THE SECOND FORM's CARD OF 'dawdlerlaw06.ParseTells'. -/
def parseTellsUptoCard : Claim7 := { stood := { row := parseTellsUptoRow, standIns := [], harness := (true, "007718c112ba99e02310b7907327a7287713dca9330f6123241f7a2e98178d92"), looks := true }, kinds := [], alts := [], laidByText := true, laidKinds := [.data, .data, .data, .data, .sentinel, .sentinel, .pinned], laidTests := true, laidLooks := .later }
def ParseTellsUptoCardSaid : Prop := Claim7.holds Tryz.pinned (.plain (OpenSpec.upto parseTellsSpec)) parseTellsUptoCard

/-- THE SECOND FORM's CARD OF 'dawdlerlaw06.ParseProgs'. -/
def parseProgsUptoCard : Claim7 := { stood := { row := parseProgsUptoRow, standIns := [], harness := (true, "007718c112ba99e02310b7907327a7287713dca9330f6123241f7a2e98178d92"), looks := true }, kinds := [], alts := [], laidByText := true, laidKinds := [.data, .data, .data, .data, .sentinel, .sentinel, .pinned], laidTests := true, laidLooks := .later }
def ParseProgsUptoCardSaid : Prop := Claim7.holds Tryz.pinned (.plain (OpenSpec.upto parseProgsSpec)) parseProgsUptoCard

/-- THE SECOND FORM's CARD OF 'dawdlerlaw06.ParseTexts'. -/
def parseTextsUptoCard : Claim7 := { stood := { row := parseTextsUptoRow, standIns := [], harness := (true, "007718c112ba99e02310b7907327a7287713dca9330f6123241f7a2e98178d92"), looks := true }, kinds := [], alts := [], laidByText := true, laidKinds := [.data, .data, .data, .data, .sentinel, .sentinel, .pinned], laidTests := true, laidLooks := .later }
def ParseTextsUptoCardSaid : Prop := Claim7.holds Tryz.pinned (.plain (OpenSpec.upto parseTextsSpec)) parseTextsUptoCard

/-- THE SECOND FORM's CARD OF 'dawdlerlaw06.ParsePlaces'. -/
def parsePlacesUptoCard : Claim7 := { stood := { row := parsePlacesUptoRow, standIns := [], harness := (true, "007718c112ba99e02310b7907327a7287713dca9330f6123241f7a2e98178d92"), looks := true }, kinds := [], alts := [], laidByText := true, laidKinds := [.data, .data, .data, .data, .sentinel, .sentinel, .pinned], laidTests := true, laidLooks := .later }
def ParsePlacesUptoCardSaid : Prop := Claim7.holds Tryz.pinned (.plain (OpenSpec.upto parsePlacesSpec)) parsePlacesUptoCard

/-- THE SECOND FORM's CARD OF 'dawdlerlaw06.ParseWraps'. -/
def parseWrapsUptoCard : Claim7 := { stood := { row := parseWrapsUptoRow, standIns := [], harness := (true, "007718c112ba99e02310b7907327a7287713dca9330f6123241f7a2e98178d92"), looks := true }, kinds := [], alts := [], laidByText := true, laidKinds := [.data, .data, .data, .data, .sentinel, .sentinel, .pinned], laidTests := true, laidLooks := .later }
def ParseWrapsUptoCardSaid : Prop := Claim7.holds Tryz.pinned (.plain (OpenSpec.upto parseWrapsSpec)) parseWrapsUptoCard

/-- THE SECOND FORM's CARD OF 'dawdlerlaw06.ParsePrefixes'. -/
def parsePrefixesUptoCard : Claim7 := { stood := { row := parsePrefixesUptoRow, standIns := [], harness := (true, "007718c112ba99e02310b7907327a7287713dca9330f6123241f7a2e98178d92"), looks := true }, kinds := [], alts := [], laidByText := true, laidKinds := [.data, .data, .data, .data, .sentinel, .sentinel, .pinned], laidTests := true, laidLooks := .later }
def ParsePrefixesUptoCardSaid : Prop := Claim7.holds Tryz.pinned (.plain (OpenSpec.upto parsePrefixesSpec)) parsePrefixesUptoCard

/-- THE SECOND FORM's CARD OF 'dawdlerlaw06.ParseParams'. -/
def parseParamsUptoCard : Claim7 := { stood := { row := parseParamsUptoRow, standIns := [], harness := (true, "007718c112ba99e02310b7907327a7287713dca9330f6123241f7a2e98178d92"), looks := true }, kinds := [], alts := [], laidByText := true, laidKinds := [.data, .data, .data, .data, .sentinel, .sentinel, .pinned], laidTests := true, laidLooks := .later }
def ParseParamsUptoCardSaid : Prop := Claim7.holds Tryz.pinned (.plain (OpenSpec.upto parseParamsSpec)) parseParamsUptoCard
end Rows
end Go.Proofs.YtinjocchommbdaaGreatDoor
