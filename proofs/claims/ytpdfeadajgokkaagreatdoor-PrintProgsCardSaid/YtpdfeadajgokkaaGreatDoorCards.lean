/-
  DERIVED. GIVEN WITH THE SEED: THE CARDS: each row of YtpdfeadajgokkaaGreatDoorRows.lean that lists a variable, with what it lists TIED to the program's text (the seventh form; the later family's looks); each row that meets fmt, with fmt's text TOLD by the authors' own Lean function (tested against real Go, not proved from fmt's source: count such statements apart). THE CARD IS WHAT COUNTS. Prove the row's statement (the work); the ties are given (YtpdfeadajgokkaaGreatDoorTie.lean); close each card by the builder's one call (the guide's Derived/Test/ToyasCard.lean, 'card_holds'). Laid BY PROGRAM, IN A SANDBOX (cutbox-door.mjs). By AI agents, Wed Nov 11 2026. No macro, syntax, notation, axiom, sorry.
-/
import Derived.Test.YtpdfeadajgokkaaGreatDoorRows
import GoSem.ClaimSeven
namespace Go.Proofs.YtpdfeadajgokkaaGreatDoor
namespace Rows

/-- THE TIED CARD OF 'dawdlerlaw05.PrintProgs'. -/
def printProgsCard : Claim7 := { stood := { row := printProgsRow, standIns := [], harness := (true, "7dcb987967534faa0d52b13a45967d61030a83bf1a8280a0857efc6f5f484d81"), looks := true }, kinds := [], alts := [], laidByText := true, laidKinds := [.data, .data, .data], laidTests := true, laidLooks := .later }
def PrintProgsCardSaid : Prop := Claim7.holds Tryz.pinned (.plain (OpenSpec.ofChange printProgsSpec)) printProgsCard

/-- THE TIED CARD OF 'dawdlerlaw05.PrintOne'. -/
def printOneCard : Claim7 := { stood := { row := printOneRow, standIns := [], harness := (true, "7dcb987967534faa0d52b13a45967d61030a83bf1a8280a0857efc6f5f484d81"), looks := true }, kinds := [], alts := [], laidByText := true, laidKinds := [.data, .data, .data], laidTests := true, laidLooks := .later }
def PrintOneCardSaid : Prop := Claim7.holds Tryz.pinned (.plain (OpenSpec.ofChange printOneSpec)) printOneCard

/-- THE SECOND FORM's CARD OF 'dawdlerlaw05.PrintProgs'. -/
def printProgsUptoCard : Claim7 := { stood := { row := printProgsUptoRow, standIns := [], harness := (true, "7dcb987967534faa0d52b13a45967d61030a83bf1a8280a0857efc6f5f484d81"), looks := true }, kinds := [], alts := [], laidByText := true, laidKinds := [.data, .data, .data], laidTests := true, laidLooks := .later }
def PrintProgsUptoCardSaid : Prop := Claim7.holds Tryz.pinned (.plain (OpenSpec.upto printProgsSpec)) printProgsUptoCard

/-- THE SECOND FORM's CARD OF 'dawdlerlaw05.PrintOne'. -/
def printOneUptoCard : Claim7 := { stood := { row := printOneUptoRow, standIns := [], harness := (true, "7dcb987967534faa0d52b13a45967d61030a83bf1a8280a0857efc6f5f484d81"), looks := true }, kinds := [], alts := [], laidByText := true, laidKinds := [.data, .data, .data], laidTests := true, laidLooks := .later }
def PrintOneUptoCardSaid : Prop := Claim7.holds Tryz.pinned (.plain (OpenSpec.upto printOneSpec)) printOneUptoCard
end Rows
end Go.Proofs.YtpdfeadajgokkaaGreatDoor
