/- The card of SchemeTurns. -/
import Derived.Test.YtnfclcfcpgfajaaGreatDoorM04
import Derived.Test.YtnfclcfcpgfajaaGreatDoorM05
import Derived.Lay
import Derived.Deep.DeepWitnessRowRef
import Derived.Test.YtnfclcfcpgfajaaGreatDoorM26
set_option linter.unusedVariables false
set_option linter.unusedSimpArgs false
/-
  'dawdlerlaw09.SchemeTurns' answers true for every input, and its arguments read behind the call as they read before. Conditions: none of ours; the row lists the library's tables as its program lays them, and the card ties them to the program's text.
-/
namespace Go.Proofs.YtnfclcfcpgfajaaGreatDoor.schemeTurns
open Go.ChangeShapes Go.WideShapes Go.ChangeAt Go.RowKit

set_option maxRecDepth 100000 in
theorem contract (H : Type) (enc : TypeId × Value → H) (W : World) (base : Nat) (args : Array Value) (ds gs : List (DataW H)) (before : List MemPlace)
    (hval : ∀ (j : Nat) t v, Tryz.f6.params[j]? = some t → args[j]? = some v → Value.okWide Tryz.prog W .any base t v)
    (hW : DataW.Whole enc Tryz.prog Tryz.f6.params.toList Rows.schemeTurnsSpec.vars false W args.toList ds gs before)
    (hwt : (DataW.weightsEach Tryz.prog (Tryz.f6.params.toList ++ Rows.schemeTurnsSpec.plain.varTypes Tryz.prog) (ds ++ gs)).all (· ≤ reachBytes) = true) (hL : laidMetH Tryz.prog Rows.schemeTurnsRow.laid W) (hsh : W.ShapedOpen Tryz.prog) :
    Calls Tryz.prog 6 args W fun e W' => ∃ v, e = .returned v ∧ Rows.schemeTurnsSpec.post enc Tryz.prog Tryz.f6 false true false false W args v W' := by
  have hW' := hW
  have hlt := hW.lt
  obtain ⟨p, q, hA0, hV, rfl, hfz, hnd⟩ := hW
  have hA : DataW.TrodAll enc Tryz.prog W 0 (fun _ => true) true Tryz.f6.params.toList args.toList ds p := hA0
  obtain ⟨rfl, rfl⟩ := trodVars_none hV
  rw [List.append_nil] at hW' hlt
  have hA2 := hA
  rw [Tryz.params6] at hA hwt hval
  obtain ⟨v0, vs0, d0, ds0, p0, q0, hargs, rfl, rfl, h0, r0⟩ := trodAll_cons hA
  obtain ⟨v1, vs1, d1, ds1, p1, q1, rfl, rfl, rfl, h1, r1⟩ := trodAll_cons r0
  obtain ⟨rfl, rfl, rfl⟩ := trodAll_nil r1
  obtain rfl : args = #[v0, v1] := by cases args; simp_all
  have _hsh := hsh
  obtain ⟨e0, he0⟩ := arg_ty h0 (fits_arg hwt (j := 0) rfl rfl)
  obtain ⟨x1, rfl, hx1, hy1⟩ := arg_u16 (hval 1 60 v1 rfl rfl) h1
  refine (turnsS_c e0 v0 x1 W he0 hx1 hy1).mono fun e W' ⟨he, hb⟩ => ?_
  subst he
  exact ⟨_, rfl, post_below (pa := _) (pv := []) hW' (fun _ _ _ => trodAll_cons_mk (shut_bool Tryz.underlying4 _) trodAll_mk0) (fun sp hsp => trodAll_later laidOut hb sp (by rw [Tryz.params6]; kernel_rfl) hA2 hlt hsp) (fun _ _ => rfl) (by simp) hb
    (ok_one (by kernel_rfl) rfl (okWide_bool_mk Tryz.underlying4 _))⟩

theorem door_met (os : Os) (args : Array Value) : laidMet Tryz.prog Rows.schemeTurnsRow.laid ((World.laidAll Tryz.prog os Rows.schemeTurnsRow.laid).forCall (fun _ _ => 0) ⟨#[], args, []⟩).memory :=
  laidMet_laidAll _ (by kernel_rfl) (by kernel_rfl)
theorem reads (os : Os) {H : Type} (enc : TypeId × Value → H) : ∃ places, DataW.whole enc Tryz.prog ((World.laidAll Tryz.prog os Rows.schemeTurnsRow.laid).forCall (fun _ _ => 0) ⟨#[], #[.agg #[.string ⟨#[]⟩, .int .i64 0, .slice none 0 0], .int .u16 0], []⟩).memory Tryz.f6.params.toList Rows.schemeTurnsSpec.vars false (#[.agg #[.string ⟨#[]⟩, .int .i64 0, .slice none 0 0], .int .u16 0] : Array Value).toList 8 = some ([.agg [.lit (.string []), .lit (.int .i64 0), .nil], .lit (.int .u16 0)], [], places) :=
  ⟨[], by kernel_rfl⟩

set_option maxRecDepth 100000 in
theorem lifted (os : Os) (started : os.Started) (H : Type) (enc : TypeId × Value → H) (F : Stop.Interp) :
    ReturnsInHanded {} Tryz.checked os 6 .any ((OpenSpec.ofChange Rows.schemeTurnsSpec).preRow enc Tryz.prog Tryz.f6 Rows.schemeTurnsRow.domain false Rows.schemeTurnsRow.laid) (((OpenSpec.ofChange Rows.schemeTurnsSpec).at F).post enc Tryz.prog Tryz.f6 false true false false) := by
  obtain ⟨places, hx⟩ := reads os enc
  refine returnsInHanded_of_row (C := Tryz.checked) (s := OpenSpec.ofChange Rows.schemeTurnsSpec) own started (by kernel_rfl) Tryz.func6
    (witness_row_atRef (enc := enc) (C := Tryz.checked) false (World.laidAll Tryz.prog os Rows.schemeTurnsRow.laid) #[.agg #[.string ⟨#[]⟩, .int .i64 0, .slice none 0 0], .int .u16 0] (World.laidAll_os _ _ _) (by kernel_rfl) (by kernel_rfl) (by kernel_rfl)
      (OpenSpec.preRow_of_cond 8 hx (by kernel_rfl) (fun k hk => by cases hk) (by kernel_rfl) (door_met os _))) ?_
  intro W base args ds gs before hval hW _ _ hwt hL hsh _
  exact contract H enc W base args ds gs before hval hW hwt hL hsh

set_option maxRecDepth 100000
theorem x_place : (Rows.schemeTurnsRow.inPlace == Tryz.pinned.checked.prog.inPlace 6) = true := by kernel_rfl
theorem x_unf : (Rows.schemeTurnsRow.unfollowed == Tryz.pinned.checked.prog.unfollowed 6) = true := by kernel_rfl
theorem x_rec : (Rows.schemeTurnsRow.recurses == Tryz.pinned.checked.prog.recurses 6) = true := by kernel_rfl
theorem x_named : (Rows.schemeTurnsRow.named == Tryz.pinned.checked.prog.varsNamed 6) = true := by kernel_rfl
theorem x_goes : false = Rows.schemeTurnsRow.goesBy Tryz.pinned.checked.prog := by kernel_rfl
theorem joined : joinedFacts Tryz.pinned.checked.prog 6 Tryz.f6 (OpenSpec.ofChange Rows.schemeTurnsSpec).bare Rows.schemeTurnsRow = true :=
  joined_of x_place x_unf x_rec x_named (by rw [fx_lifts]; kernel_rfl) fx_heard fx_enter fx_out fx_rowed (by rw [fx_make]; kernel_rfl) (by kernel_rfl)
theorem said : Rows.SchemeTurnsSaid :=
  OpenClaim.holds_of_cond 6 Tryz.f6 rfl rfl rfl rfl rfl rfl rfl ⟨rfl, rfl, rfl, rfl, rfl⟩ rfl rfl rfl rfl rfl (by kernel_rfl) Tryz.func6 joined
    (of_decide_eq_true (by kernel_rfl)) (by unfold Func.isWrapper; first | (rw [if_pos (by decide +kernel)]; kernel_rfl) | (rw [if_neg (by decide +kernel)]; exact ⟨rfl, rfl⟩))
    (fun os started H enc _ F => by rw [OpenClaim.pre_eq_preRow]; exact lifted os started H enc F)

/-- No parameter wants a stand-in; the program's own looks are as the card says. -/
theorem plain (f : FuncId) (fn : Func) (hf : Tryz.pinned.checked.prog.funcNamed "dawdler/dawdlerlaw09.SchemeTurns" = some f) (hfn : Tryz.pinned.checked.prog.funcs[f]? = some fn) :
    true = Tryz.pinned.checked.prog.looks [] ∧ ∀ (j : Nat) t, fn.params[j]? = some t → Tryz.pinned.checked.prog.wantsStandIn t = false := by
  obtain rfl : f = 6 := Option.some.inj ((show Tryz.prog.funcNamed "dawdler/dawdlerlaw09.SchemeTurns" = some 6 by kernel_rfl).symm.trans hf) |>.symm
  obtain rfl : fn = Tryz.f6 := (Option.some.inj (Tryz.func6.symm.trans hfn)).symm
  refine ⟨fx_looks, fun j t ht => ?_⟩
  rw [Tryz.params6] at ht
  have hm : t ∈ [25, 60] := by simpa using Array.mem_of_getElem? ht
  have hall : ([25, 60].all fun u => !Tryz.prog.wantsStandIn u) = true := by kernel_rfl
  exact (show Tryz.prog.wantsStandIn t = false by simpa using List.all_eq_true.1 hall t hm)

end Go.Proofs.YtnfclcfcpgfajaaGreatDoor.schemeTurns
namespace Go.Proofs.YtnfclcfcpgfajaaGreatDoor
/-- The card. -/
theorem schemeTurns_card : Rows.SchemeTurnsCardSaid :=
  Claim7.holds_tied_plain_at .later [] _ _ _ _ schemeTurns.said (fun _ h => by cases h) (by kernel_rfl) (fun _ h => by cases h) schemeTurns_row_tie rfl ⟨rfl, rfl⟩ fx_main rfl schemeTurns.plain schemeTurns.x_goes
end Go.Proofs.YtnfclcfcpgfajaaGreatDoor
