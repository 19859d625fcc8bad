/- The program's 'of', 'named', 'below'. -/
import Derived.Test.YtpdfeadajgokkaaGreatDoorSoundU
namespace Go.Proofs.YtpdfeadajgokkaaGreatDoor
open Go.RowKit

def shpV (k : Int) : Value := .agg #[.bool (namedK k), .bool (k == 1), .int .i64 (namesK k), .int .i64 (kidsK k)]
def okK (k : Int) : Bool := decide (1 ≤ k ∧ k ≤ 13)

set_option maxHeartbeats 1600000 in
theorem tree_of (k : Int) (w : World) : Calls Tryz.prog 96 #[.int .i64 k] w fun r w' => r = .returned (.tuple #[.agg #[.bool (namedK k), .bool (k == 1), .int .i64 (namesK k), .int .i64 (kidsK k)], .bool (okK k)]) ∧ Below w.heap.size w w' := by
  rcases kind_cases k with rfl | rfl | rfl | rfl | rfl | rfl | rfl | rfl | rfl | rfl | rfl | rfl | rfl | h
  case' inr.inr.inr.inr.inr.inr.inr.inr.inr.inr.inr.inr.inr =>
    have e1 : namedK k = false := by simp only [namedK, Bool.or_eq_false_iff, beq_eq_false_iff_ne]; omega
    have e2 : (k == 1) = false := by rw [beq_eq_false_iff_ne]; omega
    have e3 : namesK k = 0 := by rw [namesK, if_neg (by omega), if_neg (by omega)]
    have e4 : kidsK k = 0 := by rw [kidsK, if_neg (by omega), if_neg (by omega), if_neg (by omega), if_neg (by omega)]
    have e5 : okK k = false := by rw [okK, decide_eq_false (by omega)]
    rw [e1, e2, e3, e4, e5]
    clear e1 e2 e3 e4 e5
    obtain ⟨h1, h2, h3, h4, h5, h6, h7, h8, h9, h10, h11, h12, h13⟩ := kind_other h
    clear h
  all_goals go_enter Tryz.func96, Tryz.ntmps96
  all_goals go_wp2
  all_goals refine bodyPost_ret (by simp [results, Tryz.results96, go_sem]; rfl) rfl ⟨?_, ?_⟩
  all_goals first | rfl | exact (Below.refl _ _).alloc (Nat.le_refl _) _
end Go.Proofs.YtpdfeadajgokkaaGreatDoor
