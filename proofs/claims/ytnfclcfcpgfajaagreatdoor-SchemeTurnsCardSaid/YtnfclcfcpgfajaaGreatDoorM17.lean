/- A part of the proof that parser laws hold: texts of the walk and of its plain laws, made small. -/
import Derived.Test.YtnfclcfcpgfajaaGreatDoorM16
import Derived.Test.YtnfclcfcpgfajaaGreatDoorProg
import Derived.WalkKit
import Derived.KernelRfl
import Derived.RecoverIn
import Derived.Laws.Pointers
set_option linter.unusedVariables false
set_option linter.unusedSimpArgs false
/- What the evaluator asks of this program. -/
namespace Go.Proofs.YtnfclcfcpgfajaaGreatDoor.Ev
open Go Go.RowKit

/-- Functions without a body that the awake's calls come to. -/
def X5 (g : Nat) : Nat := bif Nat.beq g 404 then 1 else bif Nat.beq g 413 then 2 else bif Nat.beq g 424 then 2 else 0
/-- Deferred calls that do nothing where nobody panics. -/
def Y5 (g n : Nat) : Bool := Nat.beq g 248 && Nat.beq n 2
theorem x5_count {g : Nat} (h : X5 g = 1) : g = 404 := by
  unfold X5 at h
  cases h1 : Nat.beq g 404 with
  | true => exact beq_t h1
  | false =>
    rw [h1] at h
    cases h2 : Nat.beq g 413 <;> cases h3 : Nat.beq g 424 <;> rw [h2, h3] at h <;> cases h
theorem x5_index {g : Nat} (h : X5 g = 2) : g = 413 ∨ g = 424 := by
  unfold X5 at h
  cases h1 : Nat.beq g 404 with
  | true => rw [h1] at h; cases h
  | false =>
    rw [h1] at h
    cases h2 : Nat.beq g 413 with
    | true => exact .inl (beq_t h2)
    | false =>
      rw [h2] at h
      cases h3 : Nat.beq g 424 with
      | true => exact .inr (beq_t h3)
      | false => rw [h3] at h; cases h
set_option maxRecDepth 100000
theorem num5 : NumOk Tryz.prog := num_ok (by kernel_rfl)
theorem zero5 : ZeroOk Tryz.prog := zero_ok (by kernel_rfl)
theorem ext5 : XOk Tryz.prog X5 := by
  refine ext_ok (fun g hg => ?_) (fun g hg => ?_)
  · rw [x5_count hg]
    exact ⟨_, Tryz.func404, by kernel_rfl, by kernel_rfl, by kernel_rfl, by kernel_rfl⟩
  · rcases x5_index hg with h | h
    · rw [h]
      exact ⟨_, Tryz.func413, by kernel_rfl, by kernel_rfl, by kernel_rfl, by kernel_rfl⟩
    · rw [h]
      exact ⟨_, Tryz.func424, by kernel_rfl, by kernel_rfl, by kernel_rfl, by kernel_rfl⟩
set_option maxHeartbeats 4000000 in
theorem put5 : YOk Tryz.prog Y5 := by
  intro g args hY W
  unfold Y5 at hY
  rw [Bool.and_eq_true] at hY
  have h1 : g = 248 := beq_t hY.1
  have h2 : args.size = 2 := beq_t hY.2
  subst h1
  obtain ⟨x, y, rfl⟩ : ∃ x y, args = #[x, y] := by
    refine ⟨args[0], args[1], ?_⟩
    apply Array.ext (by simp [h2])
    intro i hi hj
    have : i = 0 ∨ i = 1 := by simp at hj; omega
    rcases this with rfl | rfl <;> rfl
  refine ⟨enter_run num5 Tryz.func248 rfl _ W, fun n R hR => ?_⟩
  refine callsDIn_of_wpSIn Tryz.func248 rfl trivial fun c₀ cs hu => ?_
  apply wpSIn_seq
  apply wpSIn_region
  simp [wpOpsSIn, go_sem, recoverD, hu, Tryz.ntmps248, Exit.thenS]
  refine wpSIn_of_wpIn rfl ?_
  rw [wpIn_wide]
  go_wp2_with fail
  cases c₀
  simp_all [bodyPostS, results, Tryz.results248]
  exact hR _ _ (Below.refl _ _)
theorem prog5 : ProgOk Tryz.prog X5 Y5 := ⟨num5, zero5, ext5, put5⟩
/-- It answers true. -/
def Res.good : Res → Bool
  | .va v _ => (match v with
    | .bool b => b
    | _ => false)
  | _ => false
theorem good_some {r : Res} (h : r.good = true) : ∃ S, r = .va (.bool true) S := by
  cases r with
  | no => cases h
  | va v S =>
    cases v with
    | bool b =>
      have : b = true := h
      subst this
      exact ⟨S, rfl⟩
    | _ => cases h
/-- A function without arguments that answers true there answers true here. -/
theorem good_calls {n : Nat} {g : FuncId} (h : (run Tryz.prog X5 Y5 n (.call g [] St.none_)).good = true) (hb : ∃ (fn : Func) (b : Code), Tryz.prog.funcs[g]? = some fn ∧ fn.body = some b) (W : World) : Calls Tryz.prog g #[] W fun e W' => e = .returned (.bool true) ∧ Below W.heap.size W W' := by
  obtain ⟨S, hS⟩ := good_some h
  exact eval_sound (by kernel_rfl) prog5 hS rfl rfl hb
end Go.Proofs.YtnfclcfcpgfajaaGreatDoor.Ev

/- Calls whose answers the document fixes answer as they should: layer 9. -/
namespace Go.Proofs.YtnfclcfcpgfajaaGreatDoor
open Go Go.RowKit
set_option maxRecDepth 100000
theorem good9 : (Ev.run Tryz.prog Ev.X5 Ev.Y5 100000 (.call 12 [] Ev.St.none_)).good = true := by kernel_rfl
theorem awake9 (W : World) : Calls Tryz.prog 12 #[] W fun e W' => e = .returned (.bool true) ∧ Below W.heap.size W W' :=
  Ev.good_calls good9 ⟨_, _, Tryz.func12, rfl⟩ W
end Go.Proofs.YtnfclcfcpgfajaaGreatDoor
