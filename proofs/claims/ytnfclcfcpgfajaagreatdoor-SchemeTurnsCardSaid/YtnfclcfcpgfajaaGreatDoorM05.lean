/- A part of the proof that parser laws hold: texts of the walk and of its plain laws, made small. -/
import Derived.Test.YtnfclcfcpgfajaaGreatDoorTie
import Derived.Test.YtnfclcfcpgfajaaGreatDoorCards
import Derived.KernelRfl
import Derived.JoinedCond
set_option linter.unusedVariables false
set_option linter.unusedSimpArgs false
/- Closed facts of the program that each row of the round asks for, one by one (all at once they go past the kernel's memory). -/
namespace Go.Proofs.YtnfclcfcpgfajaaGreatDoor
open Go
set_option maxRecDepth 100000
theorem fx_heard : Tryz.pinned.checked.prog.stopsHeard = true := by kernel_rfl
theorem fx_enter : Tryz.pinned.checked.prog.mayEnter = true := by kernel_rfl
theorem fx_out : laidOutB Tryz.pinned.checked.prog = true := by kernel_rfl
theorem fx_rowed : mapsRowed Tryz.pinned.checked.prog = true := by kernel_rfl
theorem fx_lifts : Tryz.pinned.checked.prog.liftsFinal = Rows.schemeTurnsRow.lifted := by kernel_rfl
theorem fx_make : Tryz.pinned.checked.prog.make = some Rows.schemeTurnsRow.make := by kernel_rfl
theorem fx_main : Tryz.pinned.checked.prog.mainIs = some (true, Rows.schemeTurnsCard.stood.harness.2.toList) := by kernel_rfl
theorem fx_looks : true = Tryz.pinned.checked.prog.looks [] := by kernel_rfl

theorem joined_of {P : Program} {f : FuncId} {fn : Func} {s : ChangeSpec} {c : OpenClaim} (a : (c.inPlace == P.inPlace f) = true) (b : (c.unfollowed == P.unfollowed f) = true) (d : (c.recurses == P.recurses f) = true) (e : (c.named == P.varsNamed f) = true) (g : (c.lifted == P.liftsFinal) = true) (h : P.stopsHeard = true) (i : P.mayEnter = true) (j : laidOutB P = true) (k : mapsRowed P = true) (l : (P.make == some c.make) = true)
    (rest : (c.wf (OpenSpec.ofChange s) && true && true &&
  fn.params.all (P.readableRec ·) && namedTie P c.named s.vars &&
  (c.stops == []) && (P.stops == []) && (c.knobs == []) && (P.stopKnobs == []) &&
  true && true && true && true &&
  (c.maps == (fn.params.toList ++ s.plain.varTypes P).any (P.mapsRec ·)) && (c.ifaces == (fn.params.toList ++ s.plain.varTypes P).any (P.ifacesRec ·)) && (c.mapsOut == P.mapsAmong fn.resultTypes.toList) &&
  (c.loops == (fn.params.toList ++ s.plain.varTypes P).any (P.loopsFrom ·)) && (c.wideKeys == (fn.params.toList ++ s.plain.varTypes P ++ fn.resultTypes.toList).any (P.wideKeysFrom ·)) &&
  s.vars.all (P.varReadable ·) && fn.resultTypes.all (fun t => P.readableRec t && decide (t < P.types.size)) && (c.ifacesOut == fn.resultTypes.toList.any (P.ifacesRec ·)) && (c.loopsOut == fn.resultTypes.toList.any (P.loopsFrom ·)) && (c.plainKeys == P.plainKeys) && c.shortTexts.isNone && true && true && true && true && (c.kinds == (if c.domain.isEmpty then [] else fn.params.toList.map fun t => match P.underlying t with | some (.int k) => some k | _ => none)) && (c.pinned == c.pinnedBy) &&
  (c.veiled == (fn.params.toList ++ s.plain.varTypes P ++ fn.resultTypes.toList).any (P.veiledRec ·)) && c.veiledFits P fn.params.toList (fn.params.toList ++ s.plain.varTypes P ++ fn.resultTypes.toList)) = true) : joinedFacts P f fn s c = true := by
  unfold joinedFacts
  rw [a, b, d, e, g, h, i, j, k, l]
  exact rest
end Go.Proofs.YtnfclcfcpgfajaaGreatDoor
