/-
  DERIVED. GIVEN WITH THE SEED: THE CARDS: each row of YticjpeefhppjoaaDoorRows.lean that lists a variable, with what it lists TIED to the program's text (the seventh form; the later family's looks); each row that meets fmt, with fmt's text TOLD by the authors' own Lean function (tested against real Go, not proved from fmt's source: count such statements apart). THE CARD IS WHAT COUNTS. Prove the row's statement (the work); the ties are given (YticjpeefhppjoaaDoorTie.lean); close each card by the builder's one call (the guide's Derived/Test/ToyasCard.lean, 'card_holds'). Laid BY PROGRAM, IN A SANDBOX (cutbox-door.mjs). By AI agents, Wed Nov 11 2026. No macro, syntax, notation, axiom, sorry.
-/
import Derived.Test.YticjpeefhppjoaaDoorRows
import GoSem.ClaimSeven
namespace Go.Proofs.YticjpeefhppjoaaDoor
namespace Rows

/-- THE TIED CARD OF 'dawdlerlaw08.TyTells'. -/
def tyTellsCard : Claim7 := { stood := { row := tyTellsRow, standIns := [], harness := (true, "2ffdfdc6fdf2b8462391dcfd2fcd08010cff69351320537901158c49ca6bdf2e"), looks := false }, kinds := [], alts := [], laidByText := true, laidKinds := [.data, .data, .data], laidTests := true, laidLooks := .later }
def TyTellsCardSaid : Prop := Claim7.holds Tryd.pinned (.plain (OpenSpec.ofChange tyTellsSpec)) tyTellsCard

/-- THE TIED CARD OF 'dawdlerlaw08.TyApplies'. -/
def tyAppliesCard : Claim7 := { stood := { row := tyAppliesRow, standIns := [], harness := (true, "2ffdfdc6fdf2b8462391dcfd2fcd08010cff69351320537901158c49ca6bdf2e"), looks := false }, kinds := [], alts := [], laidByText := true, laidKinds := [.data, .data, .data], laidTests := true, laidLooks := .later }
def TyAppliesCardSaid : Prop := Claim7.holds Tryd.pinned (.plain (OpenSpec.ofChange tyAppliesSpec)) tyAppliesCard

/-- THE TIED CARD OF 'dawdlerlaw08.TyUnifies'. -/
def tyUnifiesCard : Claim7 := { stood := { row := tyUnifiesRow, standIns := [], harness := (true, "2ffdfdc6fdf2b8462391dcfd2fcd08010cff69351320537901158c49ca6bdf2e"), looks := false }, kinds := [], alts := [], laidByText := true, laidKinds := [.data, .data, .data], laidTests := true, laidLooks := .later }
def TyUnifiesCardSaid : Prop := Claim7.holds Tryd.pinned (.plain (OpenSpec.ofChange tyUnifiesSpec)) tyUnifiesCard

/-- THE TIED CARD OF 'dawdlerlaw08.TyOne'. -/
def tyOneCard : Claim7 := { stood := { row := tyOneRow, standIns := [], harness := (true, "2ffdfdc6fdf2b8462391dcfd2fcd08010cff69351320537901158c49ca6bdf2e"), looks := false }, kinds := [], alts := [], laidByText := true, laidKinds := [.data, .data, .data], laidTests := true, laidLooks := .later }
def TyOneCardSaid : Prop := Claim7.holds Tryd.pinned (.plain (OpenSpec.ofChange tyOneSpec)) tyOneCard

/-- THE TIED CARD OF 'dawdlerlaw08.TyLeast'. -/
def tyLeastCard : Claim7 := { stood := { row := tyLeastRow, standIns := [], harness := (true, "2ffdfdc6fdf2b8462391dcfd2fcd08010cff69351320537901158c49ca6bdf2e"), looks := false }, kinds := [], alts := [], laidByText := true, laidKinds := [.data, .data, .data], laidTests := true, laidLooks := .later }
def TyLeastCardSaid : Prop := Claim7.holds Tryd.pinned (.plain (OpenSpec.ofChange tyLeastSpec)) tyLeastCard

/-- THE TIED CARD OF 'dawdlerlaw08.TyNames'. -/
def tyNamesCard : Claim7 := { stood := { row := tyNamesRow, standIns := [], harness := (true, "2ffdfdc6fdf2b8462391dcfd2fcd08010cff69351320537901158c49ca6bdf2e"), looks := false }, kinds := [], alts := [], laidByText := true, laidKinds := [.data, .data, .data], laidTests := true, laidLooks := .later }
def TyNamesCardSaid : Prop := Claim7.holds Tryd.pinned (.plain (OpenSpec.ofChange tyNamesSpec)) tyNamesCard

/-- THE TIED CARD OF 'dawdlerlaw08.TyTurns'. -/
def tyTurnsCard : Claim7 := { stood := { row := tyTurnsRow, standIns := [], harness := (true, "2ffdfdc6fdf2b8462391dcfd2fcd08010cff69351320537901158c49ca6bdf2e"), looks := false }, kinds := [], alts := [], laidByText := true, laidKinds := [.data, .data, .data], laidTests := true, laidLooks := .later }
def TyTurnsCardSaid : Prop := Claim7.holds Tryd.pinned (.plain (OpenSpec.ofChange tyTurnsSpec)) tyTurnsCard

/-- THE TIED CARD OF 'dawdlerlaw08.TyIdle'. -/
def tyIdleCard : Claim7 := { stood := { row := tyIdleRow, standIns := [], harness := (true, "2ffdfdc6fdf2b8462391dcfd2fcd08010cff69351320537901158c49ca6bdf2e"), looks := false }, kinds := [], alts := [], laidByText := true, laidKinds := [.data, .data, .data], laidTests := true, laidLooks := .later }
def TyIdleCardSaid : Prop := Claim7.holds Tryd.pinned (.plain (OpenSpec.ofChange tyIdleSpec)) tyIdleCard

/-- THE SECOND FORM's CARD OF 'dawdlerlaw08.TyTells'. -/
def tyTellsUptoCard : Claim7 := { stood := { row := tyTellsUptoRow, standIns := [], harness := (true, "2ffdfdc6fdf2b8462391dcfd2fcd08010cff69351320537901158c49ca6bdf2e"), looks := false }, kinds := [], alts := [], laidByText := true, laidKinds := [.data, .data, .data], laidTests := true, laidLooks := .later }
def TyTellsUptoCardSaid : Prop := Claim7.holds Tryd.pinned (.plain (OpenSpec.upto tyTellsSpec)) tyTellsUptoCard

/-- THE SECOND FORM's CARD OF 'dawdlerlaw08.TyApplies'. -/
def tyAppliesUptoCard : Claim7 := { stood := { row := tyAppliesUptoRow, standIns := [], harness := (true, "2ffdfdc6fdf2b8462391dcfd2fcd08010cff69351320537901158c49ca6bdf2e"), looks := false }, kinds := [], alts := [], laidByText := true, laidKinds := [.data, .data, .data], laidTests := true, laidLooks := .later }
def TyAppliesUptoCardSaid : Prop := Claim7.holds Tryd.pinned (.plain (OpenSpec.upto tyAppliesSpec)) tyAppliesUptoCard

/-- THE SECOND FORM's CARD OF 'dawdlerlaw08.TyUnifies'. -/
def tyUnifiesUptoCard : Claim7 := { stood := { row := tyUnifiesUptoRow, standIns := [], harness := (true, "2ffdfdc6fdf2b8462391dcfd2fcd08010cff69351320537901158c49ca6bdf2e"), looks := false }, kinds := [], alts := [], laidByText := true, laidKinds := [.data, .data, .data], laidTests := true, laidLooks := .later }
def TyUnifiesUptoCardSaid : Prop := Claim7.holds Tryd.pinned (.plain (OpenSpec.upto tyUnifiesSpec)) tyUnifiesUptoCard

/-- THE SECOND FORM's CARD OF 'dawdlerlaw08.TyOne'. -/
def tyOneUptoCard : Claim7 := { stood := { row := tyOneUptoRow, standIns := [], harness := (true, "2ffdfdc6fdf2b8462391dcfd2fcd08010cff69351320537901158c49ca6bdf2e"), looks := false }, kinds := [], alts := [], laidByText := true, laidKinds := [.data, .data, .data], laidTests := true, laidLooks := .later }
def TyOneUptoCardSaid : Prop := Claim7.holds Tryd.pinned (.plain (OpenSpec.upto tyOneSpec)) tyOneUptoCard

/-- THE SECOND FORM's CARD OF 'dawdlerlaw08.TyLeast'. -/
def tyLeastUptoCard : Claim7 := { stood := { row := tyLeastUptoRow, standIns := [], harness := (true, "2ffdfdc6fdf2b8462391dcfd2fcd08010cff69351320537901158c49ca6bdf2e"), looks := false }, kinds := [], alts := [], laidByText := true, laidKinds := [.data, .data, .data], laidTests := true, laidLooks := .later }
def TyLeastUptoCardSaid : Prop := Claim7.holds Tryd.pinned (.plain (OpenSpec.upto tyLeastSpec)) tyLeastUptoCard

/-- THE SECOND FORM's CARD OF 'dawdlerlaw08.TyNames'. -/
def tyNamesUptoCard : Claim7 := { stood := { row := tyNamesUptoRow, standIns := [], harness := (true, "2ffdfdc6fdf2b8462391dcfd2fcd08010cff69351320537901158c49ca6bdf2e"), looks := false }, kinds := [], alts := [], laidByText := true, laidKinds := [.data, .data, .data], laidTests := true, laidLooks := .later }
def TyNamesUptoCardSaid : Prop := Claim7.holds Tryd.pinned (.plain (OpenSpec.upto tyNamesSpec)) tyNamesUptoCard

/-- THE SECOND FORM's CARD OF 'dawdlerlaw08.TyTurns'. -/
def tyTurnsUptoCard : Claim7 := { stood := { row := tyTurnsUptoRow, standIns := [], harness := (true, "2ffdfdc6fdf2b8462391dcfd2fcd08010cff69351320537901158c49ca6bdf2e"), looks := false }, kinds := [], alts := [], laidByText := true, laidKinds := [.data, .data, .data], laidTests := true, laidLooks := .later }
def TyTurnsUptoCardSaid : Prop := Claim7.holds Tryd.pinned (.plain (OpenSpec.upto tyTurnsSpec)) tyTurnsUptoCard

/-- THE SECOND FORM's CARD OF 'dawdlerlaw08.TyIdle'. -/
def tyIdleUptoCard : Claim7 := { stood := { row := tyIdleUptoRow, standIns := [], harness := (true, "2ffdfdc6fdf2b8462391dcfd2fcd08010cff69351320537901158c49ca6bdf2e"), looks := false }, kinds := [], alts := [], laidByText := true, laidKinds := [.data, .data, .data], laidTests := true, laidLooks := .later }
def TyIdleUptoCardSaid : Prop := Claim7.holds Tryd.pinned (.plain (OpenSpec.upto tyIdleSpec)) tyIdleUptoCard
end Rows
end Go.Proofs.YticjpeefhppjoaaDoor
