/- lex.Key, walked. -/
import Derived.Test.YtchdfjihflmloaaGreatDoorLexZ
namespace Go.Proofs.YtchdfjihflmloaaGreatDoor
open Go.RowKit

theorem signs_len : ∀ m ∈ signsL, m ≠ [] ∧ signN m = m.length := by decide
theorem sign_key (t : Bs) : signB t = decide (t ≠ [] ∧ signN t = t.length) := by
  unfold signB
  by_cases h : t ∈ signsL
  · rw [List.contains_iff_mem.2 h, decide_eq_true (signs_len t h)]
  · have h1 : signsL.contains t = false := by rw [← Bool.not_eq_true, List.contains_iff_mem]; exact h
    rw [h1]
    symm
    rw [decide_eq_false_iff_not]
    rintro ⟨h2, h3⟩
    have h4 := sign_tok t
    rw [if_pos (by rw [h3]; exact List.length_pos_iff.2 h2), h3, List.take_length] at h4
    exact h (List.mem_of_find?_eq_some h4)

end Go.Proofs.YtchdfjihflmloaaGreatDoor
