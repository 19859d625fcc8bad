/- lex.lines. -/
import Derived.Test.YtchdfjihflmloaaDoorLexSp
namespace Go.Proofs.YtchdfjihflmloaaDoor
open Go.RowKit

theorem lex_lines (v : Value) (w : World) (a : Option Addr) (n c : Nat) (hv : v = .slice a n c) : Calls Tryd.prog 29 #[v] w fun r w' => r = .returned (.func (.func 55) #[] #[.pointer (some ⟨w.heap.size, 0, none⟩)]) ∧ w' = w.alloc (.cells #[v] 22) := by
  subst hv
  go_enter Tryd.func29, Tryd.ntmps29
  go_wp2_with fail
  go_ret
  exact ⟨rfl, rfl⟩
end Go.Proofs.YtchdfjihflmloaaDoor
