/- lex.lines. -/
import Derived.Test.YtchdfjihflmloaaGreatDoorLexSp
namespace Go.Proofs.YtchdfjihflmloaaGreatDoor
open Go.RowKit

theorem lex_lines (v : Value) (w : World) (a : Option Addr) (n c : Nat) (hv : v = .slice a n c) : Calls Tryz.prog 28 #[v] w fun r w' => r = .returned (.func (.func 36) #[] #[.pointer (some ⟨w.heap.size, 0, none⟩)]) ∧ w' = w.alloc (.cells #[v] 32) := by
  subst hv
  go_enter Tryz.func28, Tryz.ntmps28
  go_wp2_with fail
  go_ret
  exact ⟨rfl, rfl⟩
end Go.Proofs.YtchdfjihflmloaaGreatDoor
