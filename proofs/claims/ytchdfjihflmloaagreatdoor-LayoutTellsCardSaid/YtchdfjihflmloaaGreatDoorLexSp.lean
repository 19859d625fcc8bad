/- Lex's own function for a gap; how many gaps there are. -/
import Derived.Test.YtchdfjihflmloaaGreatDoorLexLn
namespace Go.Proofs.YtchdfjihflmloaaGreatDoor
open Go.RowKit

theorem lex_space (x : UInt8) (w : World) : Calls Tryz.prog 27 #[.int .u8 x.toNat] w fun r w' => r = .returned (.bool (x == 32)) ∧ w = w' := by
  by_cases h : x = 32
  · have h' : (x.toNat : Int) = 32 := by rw [h]; rfl
    go_enter Tryz.func27, Tryz.ntmps27
    go_wp2_with fail
    go_ret
    exact ⟨ret_bool (by rw [h]; rfl), rfl⟩
  · have h' : ((x.toNat : Int) == 32) = false := beq_eq_false_iff_ne.2 fun e => h (by apply UInt8.toNat.inj; show x.toNat = 32; omega)
    go_enter Tryz.func27, Tryz.ntmps27
    go_wp2_with fail
    go_ret
    exact ⟨ret_bool (by symm; simpa using h), rfl⟩
theorem answers_space (w : World) : Answers Tryz.prog 27 #[] (fun x => x == 32) w := fun W x _ => lex_space x W
theorem enters_space (args : Array Value) (w : World) : (callFunc 27 args).run Tryz.prog w = .ok (.enter 27 args) w := Tryz.call27 args w
theorem run_space (l : Bs) : runN (fun x => x == 32) l = spN l := rfl
end Go.Proofs.YtchdfjihflmloaaGreatDoor
