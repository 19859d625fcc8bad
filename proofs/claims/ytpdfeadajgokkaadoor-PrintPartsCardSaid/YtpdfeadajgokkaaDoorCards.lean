/-
  DERIVED. GIVEN WITH THE SEED: THE CARDS: each row of YtpdfeadajgokkaaDoorRows.lean that lists a variable, with what it lists TIED to the program's text (the seventh form; the later family's looks); each row that meets fmt, with fmt's text TOLD by the authors' own Lean function (tested against real Go, not proved from fmt's source: count such statements apart). THE CARD IS WHAT COUNTS. Prove the row's statement (the work); the ties are given (YtpdfeadajgokkaaDoorTie.lean); close each card by the builder's one call (the guide's Derived/Test/ToyasCard.lean, 'card_holds'). Laid BY PROGRAM, IN A SANDBOX (cutbox-door.mjs). By AI agents, Wed Nov 11 2026. No macro, syntax, notation, axiom, sorry.
-/
import Derived.Test.YtpdfeadajgokkaaDoorRows
import GoSem.ClaimSeven
namespace Go.Proofs.YtpdfeadajgokkaaDoor
namespace Rows

/-- THE TIED CARD OF 'dawdlerlaw05.PrintParts'. -/
def printPartsCard : Claim7 := { stood := { row := printPartsRow, standIns := [], harness := (true, "53e4d649ac903c028cfe088986deb481ede3e345339367a831e86ebd16a54a31"), looks := true }, kinds := [], alts := [], laidByText := true, laidKinds := [.data, .data, .data], laidTests := true, laidLooks := .later }
def PrintPartsCardSaid : Prop := Claim7.holds Tryd.pinned (.plain (OpenSpec.ofChange printPartsSpec)) printPartsCard

/-- THE TIED CARD OF 'dawdlerlaw05.PrintLong'. -/
def printLongCard : Claim7 := { stood := { row := printLongRow, standIns := [], harness := (true, "53e4d649ac903c028cfe088986deb481ede3e345339367a831e86ebd16a54a31"), looks := true }, kinds := [], alts := [], laidByText := true, laidKinds := [.data, .data, .data], laidTests := true, laidLooks := .later }
def PrintLongCardSaid : Prop := Claim7.holds Tryd.pinned (.plain (OpenSpec.ofChange printLongSpec)) printLongCard

/-- THE SECOND FORM's CARD OF 'dawdlerlaw05.PrintParts'. -/
def printPartsUptoCard : Claim7 := { stood := { row := printPartsUptoRow, standIns := [], harness := (true, "53e4d649ac903c028cfe088986deb481ede3e345339367a831e86ebd16a54a31"), looks := true }, kinds := [], alts := [], laidByText := true, laidKinds := [.data, .data, .data], laidTests := true, laidLooks := .later }
def PrintPartsUptoCardSaid : Prop := Claim7.holds Tryd.pinned (.plain (OpenSpec.upto printPartsSpec)) printPartsUptoCard

/-- THE SECOND FORM's CARD OF 'dawdlerlaw05.PrintLong'. -/
def printLongUptoCard : Claim7 := { stood := { row := printLongUptoRow, standIns := [], harness := (true, "53e4d649ac903c028cfe088986deb481ede3e345339367a831e86ebd16a54a31"), looks := true }, kinds := [], alts := [], laidByText := true, laidKinds := [.data, .data, .data], laidTests := true, laidLooks := .later }
def PrintLongUptoCardSaid : Prop := Claim7.holds Tryd.pinned (.plain (OpenSpec.upto printLongSpec)) printLongUptoCard
end Rows
end Go.Proofs.YtpdfeadajgokkaaDoor
