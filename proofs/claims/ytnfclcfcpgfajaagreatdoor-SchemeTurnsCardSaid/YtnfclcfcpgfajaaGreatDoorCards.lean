/-
  DERIVED. GIVEN WITH THE SEED: THE CARDS: each row of YtnfclcfcpgfajaaGreatDoorRows.lean that lists a variable, with what it lists TIED to the program's text (the seventh form; the later family's looks); each row that meets fmt, with fmt's text TOLD by the authors' own Lean function (tested against real Go, not proved from fmt's source: count such statements apart). THE CARD IS WHAT COUNTS. Prove the row's statement (the work); the ties are given (YtnfclcfcpgfajaaGreatDoorTie.lean); close each card by the builder's one call (the guide's Derived/Test/ToyasCard.lean, 'card_holds'). Laid BY PROGRAM, IN A SANDBOX (cutbox-door.mjs). By AI agents, Wed Nov 11 2026. No macro, syntax, notation, axiom, sorry.
-/
import Derived.Test.YtnfclcfcpgfajaaGreatDoorRows
import GoSem.ClaimSeven
namespace Go.Proofs.YtnfclcfcpgfajaaGreatDoor
namespace Rows

/-- THE TIED CARD OF 'dawdlerlaw09.SchemeTells'. -/
def schemeTellsCard : Claim7 := { stood := { row := schemeTellsRow, standIns := [], harness := (true, "a9044f7619737267911f77f68ddc21a8a3f673026ba4717c59cadcdfa794b388"), looks := true }, kinds := [], alts := [], laidByText := true, laidKinds := [.data, .data, .data, .data, .sentinel, .sentinel, .pinned], laidTests := true, laidLooks := .later }
def SchemeTellsCardSaid : Prop := Claim7.holds Tryz.pinned (.plain (OpenSpec.ofChange schemeTellsSpec)) schemeTellsCard

/-- THE TIED CARD OF 'dawdlerlaw09.SchemeDatas'. -/
def schemeDatasCard : Claim7 := { stood := { row := schemeDatasRow, standIns := [], harness := (true, "a9044f7619737267911f77f68ddc21a8a3f673026ba4717c59cadcdfa794b388"), looks := true }, kinds := [], alts := [], laidByText := true, laidKinds := [.data, .data, .data, .data, .sentinel, .sentinel, .pinned], laidTests := true, laidLooks := .later }
def SchemeDatasCardSaid : Prop := Claim7.holds Tryz.pinned (.plain (OpenSpec.ofChange schemeDatasSpec)) schemeDatasCard

/-- THE TIED CARD OF 'dawdlerlaw09.SchemeClosed'. -/
def schemeClosedCard : Claim7 := { stood := { row := schemeClosedRow, standIns := [], harness := (true, "a9044f7619737267911f77f68ddc21a8a3f673026ba4717c59cadcdfa794b388"), looks := true }, kinds := [], alts := [], laidByText := true, laidKinds := [.data, .data, .data, .data, .sentinel, .sentinel, .pinned], laidTests := true, laidLooks := .later }
def SchemeClosedCardSaid : Prop := Claim7.holds Tryz.pinned (.plain (OpenSpec.ofChange schemeClosedSpec)) schemeClosedCard

/-- THE TIED CARD OF 'dawdlerlaw09.SchemeTurns'. -/
def schemeTurnsCard : Claim7 := { stood := { row := schemeTurnsRow, standIns := [], harness := (true, "a9044f7619737267911f77f68ddc21a8a3f673026ba4717c59cadcdfa794b388"), looks := true }, kinds := [], alts := [], laidByText := true, laidKinds := [.data, .data, .data, .data, .sentinel, .sentinel, .pinned], laidTests := true, laidLooks := .later }
def SchemeTurnsCardSaid : Prop := Claim7.holds Tryz.pinned (.plain (OpenSpec.ofChange schemeTurnsSpec)) schemeTurnsCard

/-- THE TIED CARD OF 'dawdlerlaw09.SchemeFresh'. -/
def schemeFreshCard : Claim7 := { stood := { row := schemeFreshRow, standIns := [], harness := (true, "a9044f7619737267911f77f68ddc21a8a3f673026ba4717c59cadcdfa794b388"), looks := true }, kinds := [], alts := [], laidByText := true, laidKinds := [.data, .data, .data, .data, .sentinel, .sentinel, .pinned], laidTests := true, laidLooks := .later }
def SchemeFreshCardSaid : Prop := Claim7.holds Tryz.pinned (.plain (OpenSpec.ofChange schemeFreshSpec)) schemeFreshCard

/-- THE TIED CARD OF 'dawdlerlaw12.CodeChecks'. -/
def codeChecksCard : Claim7 := { stood := { row := codeChecksRow, standIns := [], harness := (true, "a9044f7619737267911f77f68ddc21a8a3f673026ba4717c59cadcdfa794b388"), looks := true }, kinds := [], alts := [], laidByText := true, laidKinds := [.data, .data, .data, .data, .sentinel, .sentinel, .pinned], laidTests := true, laidLooks := .later }
def CodeChecksCardSaid : Prop := Claim7.holds Tryz.pinned (.plain (OpenSpec.ofChange codeChecksSpec)) codeChecksCard

/-- THE TIED CARD OF 'dawdlerlaw12.CodeCuts'. -/
def codeCutsCard : Claim7 := { stood := { row := codeCutsRow, standIns := [], harness := (true, "a9044f7619737267911f77f68ddc21a8a3f673026ba4717c59cadcdfa794b388"), looks := true }, kinds := [], alts := [], laidByText := true, laidKinds := [.data, .data, .data, .data, .sentinel, .sentinel, .pinned], laidTests := true, laidLooks := .later }
def CodeCutsCardSaid : Prop := Claim7.holds Tryz.pinned (.plain (OpenSpec.ofChange codeCutsSpec)) codeCutsCard

/-- THE TIED CARD OF 'dawdlerlaw15.StepOwners'. -/
def stepOwnersCard : Claim7 := { stood := { row := stepOwnersRow, standIns := [], harness := (true, "a9044f7619737267911f77f68ddc21a8a3f673026ba4717c59cadcdfa794b388"), looks := true }, kinds := [], alts := [], laidByText := true, laidKinds := [.data, .data, .data, .data, .sentinel, .sentinel, .pinned], laidTests := true, laidLooks := .later }
def StepOwnersCardSaid : Prop := Claim7.holds Tryz.pinned (.plain (OpenSpec.ofChange stepOwnersSpec)) stepOwnersCard

/-- THE TIED CARD OF 'dawdlerlaw15.StepSmall'. -/
def stepSmallCard : Claim7 := { stood := { row := stepSmallRow, standIns := [], harness := (true, "a9044f7619737267911f77f68ddc21a8a3f673026ba4717c59cadcdfa794b388"), looks := true }, kinds := [], alts := [], laidByText := true, laidKinds := [.data, .data, .data, .data, .sentinel, .sentinel, .pinned], laidTests := true, laidLooks := .later }
def StepSmallCardSaid : Prop := Claim7.holds Tryz.pinned (.plain (OpenSpec.ofChange stepSmallSpec)) stepSmallCard

/-- THE SECOND FORM's CARD OF 'dawdlerlaw09.SchemeTells'. -/
def schemeTellsUptoCard : Claim7 := { stood := { row := schemeTellsUptoRow, standIns := [], harness := (true, "a9044f7619737267911f77f68ddc21a8a3f673026ba4717c59cadcdfa794b388"), looks := true }, kinds := [], alts := [], laidByText := true, laidKinds := [.data, .data, .data, .data, .sentinel, .sentinel, .pinned], laidTests := true, laidLooks := .later }
def SchemeTellsUptoCardSaid : Prop := Claim7.holds Tryz.pinned (.plain (OpenSpec.upto schemeTellsSpec)) schemeTellsUptoCard

/-- THE SECOND FORM's CARD OF 'dawdlerlaw09.SchemeDatas'. -/
def schemeDatasUptoCard : Claim7 := { stood := { row := schemeDatasUptoRow, standIns := [], harness := (true, "a9044f7619737267911f77f68ddc21a8a3f673026ba4717c59cadcdfa794b388"), looks := true }, kinds := [], alts := [], laidByText := true, laidKinds := [.data, .data, .data, .data, .sentinel, .sentinel, .pinned], laidTests := true, laidLooks := .later }
def SchemeDatasUptoCardSaid : Prop := Claim7.holds Tryz.pinned (.plain (OpenSpec.upto schemeDatasSpec)) schemeDatasUptoCard

/-- THE SECOND FORM's CARD OF 'dawdlerlaw09.SchemeClosed'. -/
def schemeClosedUptoCard : Claim7 := { stood := { row := schemeClosedUptoRow, standIns := [], harness := (true, "a9044f7619737267911f77f68ddc21a8a3f673026ba4717c59cadcdfa794b388"), looks := true }, kinds := [], alts := [], laidByText := true, laidKinds := [.data, .data, .data, .data, .sentinel, .sentinel, .pinned], laidTests := true, laidLooks := .later }
def SchemeClosedUptoCardSaid : Prop := Claim7.holds Tryz.pinned (.plain (OpenSpec.upto schemeClosedSpec)) schemeClosedUptoCard

/-- THE SECOND FORM's CARD OF 'dawdlerlaw09.SchemeTurns'. -/
def schemeTurnsUptoCard : Claim7 := { stood := { row := schemeTurnsUptoRow, standIns := [], harness := (true, "a9044f7619737267911f77f68ddc21a8a3f673026ba4717c59cadcdfa794b388"), looks := true }, kinds := [], alts := [], laidByText := true, laidKinds := [.data, .data, .data, .data, .sentinel, .sentinel, .pinned], laidTests := true, laidLooks := .later }
def SchemeTurnsUptoCardSaid : Prop := Claim7.holds Tryz.pinned (.plain (OpenSpec.upto schemeTurnsSpec)) schemeTurnsUptoCard

/-- THE SECOND FORM's CARD OF 'dawdlerlaw09.SchemeFresh'. -/
def schemeFreshUptoCard : Claim7 := { stood := { row := schemeFreshUptoRow, standIns := [], harness := (true, "a9044f7619737267911f77f68ddc21a8a3f673026ba4717c59cadcdfa794b388"), looks := true }, kinds := [], alts := [], laidByText := true, laidKinds := [.data, .data, .data, .data, .sentinel, .sentinel, .pinned], laidTests := true, laidLooks := .later }
def SchemeFreshUptoCardSaid : Prop := Claim7.holds Tryz.pinned (.plain (OpenSpec.upto schemeFreshSpec)) schemeFreshUptoCard

/-- THE SECOND FORM's CARD OF 'dawdlerlaw12.CodeChecks'. -/
def codeChecksUptoCard : Claim7 := { stood := { row := codeChecksUptoRow, standIns := [], harness := (true, "a9044f7619737267911f77f68ddc21a8a3f673026ba4717c59cadcdfa794b388"), looks := true }, kinds := [], alts := [], laidByText := true, laidKinds := [.data, .data, .data, .data, .sentinel, .sentinel, .pinned], laidTests := true, laidLooks := .later }
def CodeChecksUptoCardSaid : Prop := Claim7.holds Tryz.pinned (.plain (OpenSpec.upto codeChecksSpec)) codeChecksUptoCard

/-- THE SECOND FORM's CARD OF 'dawdlerlaw12.CodeCuts'. -/
def codeCutsUptoCard : Claim7 := { stood := { row := codeCutsUptoRow, standIns := [], harness := (true, "a9044f7619737267911f77f68ddc21a8a3f673026ba4717c59cadcdfa794b388"), looks := true }, kinds := [], alts := [], laidByText := true, laidKinds := [.data, .data, .data, .data, .sentinel, .sentinel, .pinned], laidTests := true, laidLooks := .later }
def CodeCutsUptoCardSaid : Prop := Claim7.holds Tryz.pinned (.plain (OpenSpec.upto codeCutsSpec)) codeCutsUptoCard

/-- THE SECOND FORM's CARD OF 'dawdlerlaw15.StepOwners'. -/
def stepOwnersUptoCard : Claim7 := { stood := { row := stepOwnersUptoRow, standIns := [], harness := (true, "a9044f7619737267911f77f68ddc21a8a3f673026ba4717c59cadcdfa794b388"), looks := true }, kinds := [], alts := [], laidByText := true, laidKinds := [.data, .data, .data, .data, .sentinel, .sentinel, .pinned], laidTests := true, laidLooks := .later }
def StepOwnersUptoCardSaid : Prop := Claim7.holds Tryz.pinned (.plain (OpenSpec.upto stepOwnersSpec)) stepOwnersUptoCard

/-- THE SECOND FORM's CARD OF 'dawdlerlaw15.StepSmall'. -/
def stepSmallUptoCard : Claim7 := { stood := { row := stepSmallUptoRow, standIns := [], harness := (true, "a9044f7619737267911f77f68ddc21a8a3f673026ba4717c59cadcdfa794b388"), looks := true }, kinds := [], alts := [], laidByText := true, laidKinds := [.data, .data, .data, .data, .sentinel, .sentinel, .pinned], laidTests := true, laidLooks := .later }
def StepSmallUptoCardSaid : Prop := Claim7.holds Tryz.pinned (.plain (OpenSpec.upto stepSmallSpec)) stepSmallUptoCard
end Rows
end Go.Proofs.YtnfclcfcpgfajaaGreatDoor
