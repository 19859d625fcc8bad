/-
  DERIVED. GIVEN WITH THE SEED: THE CARDS: each row of YtchdfjihflmloaaGreatDoorRows.lean that lists a variable, with what it lists TIED to the program's text (the seventh form; the later family's looks); each row that meets fmt, with fmt's text TOLD by the authors' own Lean function (tested against real Go, not proved from fmt's source: count such statements apart). THE CARD IS WHAT COUNTS. Prove the row's statement (the work); the ties are given (YtchdfjihflmloaaGreatDoorTie.lean); close each card by the builder's one call (the guide's Derived/Test/ToyasCard.lean, 'card_holds'). Laid BY PROGRAM, IN A SANDBOX (cutbox-door.mjs). By AI agents, Wed Nov 11 2026. No macro, syntax, notation, axiom, sorry.
-/
import Derived.Test.YtchdfjihflmloaaGreatDoorRows
import GoSem.ClaimSeven
namespace Go.Proofs.YtchdfjihflmloaaGreatDoor
namespace Rows

/-- THE TIED CARD OF 'dawdlerlaw03.LayoutTells'. -/
def layoutTellsCard : Claim7 := { stood := { row := layoutTellsRow, standIns := [], harness := (true, "14fb705dd6636b03ac4895d226d86fbb5d86c94708b948188d32f18cd47a037a"), looks := true }, kinds := [], alts := [], laidByText := true, laidKinds := [.data, .data, .data, .data, .sentinel, .sentinel, .pinned], laidTests := true, laidLooks := .later }
def LayoutTellsCardSaid : Prop := Claim7.holds Tryz.pinned (.plain (OpenSpec.ofChange layoutTellsSpec)) layoutTellsCard

/-- THE SECOND FORM's CARD OF 'dawdlerlaw03.LayoutTells'. -/
def layoutTellsUptoCard : Claim7 := { stood := { row := layoutTellsUptoRow, standIns := [], harness := (true, "14fb705dd6636b03ac4895d226d86fbb5d86c94708b948188d32f18cd47a037a"), looks := true }, kinds := [], alts := [], laidByText := true, laidKinds := [.data, .data, .data, .data, .sentinel, .sentinel, .pinned], laidTests := true, laidLooks := .later }
def LayoutTellsUptoCardSaid : Prop := Claim7.holds Tryz.pinned (.plain (OpenSpec.upto layoutTellsSpec)) layoutTellsUptoCard
end Rows
end Go.Proofs.YtchdfjihflmloaaGreatDoor
