/- lex.Name, lex.Con; the reference's byte classes, words, names; operations. -/
import Derived.Test.YtchdfjihflmloaaGreatDoorLexA
import Derived.PlainAid
namespace Go.Proofs.YtchdfjihflmloaaGreatDoor
open Go.RowKit

theorem str_head {s : Str} (h : 0 < s.size) : s.toList.head? = some s[0] := by
  obtain ⟨⟨l⟩⟩ := s
  cases l with
  | nil => exact absurd h (by decide)
  | cons x r => rw [ByteArray.toList_eq]; rfl

theorem fitB_pos {s : Str} (h : fitB s = true) : 0 < s.size := by
  simp only [fitB, Bool.and_eq_true, decide_eq_true_eq, Lib.toList_data] at h
  rw [Lib.size_eq]; omega

set_option maxHeartbeats 400000 in
theorem lex_Name (s : Str) (w : World) : Calls Tryz.prog 43 #[.string s] w fun r w' => r = .returned (.bool (nameB s)) ∧ Below w.heap.size w w' := by
  cases h1 : fitB s
  · go_enter Tryz.func43, Tryz.ntmps43
    go_wp2_with (go_at_call 54; refine (lex_fits _ _).mono ?_; rintro e w1 ⟨rfl, hB⟩)
    go_ret
    exact ⟨ret_bool (by simp [nameB, h1]), by assumption⟩
  · have hp := fitB_pos h1
    have hh := Lib.hid (str_head hp)
    cases h2 : smlB s[0] <;> cases h3 : wordB s
    all_goals go_enter Tryz.func43, Tryz.ntmps43
    all_goals go_wp2_with (first | (go_at_call 54; refine (lex_fits _ _).mono ?_; rintro e w1 ⟨rfl, hB⟩) | (go_at_call 52; refine (lex_small _ _).mono ?_; rintro e w' ⟨rfl, rfl⟩) | (go_at_call 42; refine (lex_word _ _).mono ?_; rintro e w' ⟨rfl, rfl⟩))
    all_goals go_ret
    all_goals exact ⟨ret_bool (by simp [nameB, h1, hh.out, h2, h3]), by assumption⟩

set_option maxHeartbeats 400000 in
theorem lex_Con (s : Str) (w : World) : Calls Tryz.prog 44 #[.string s] w fun r w' => r = .returned (.bool (conB s)) ∧ Below w.heap.size w w' := by
  cases h1 : fitB s
  · go_enter Tryz.func44, Tryz.ntmps44
    go_wp2_with (go_at_call 54; refine (lex_fits _ _).mono ?_; rintro e w1 ⟨rfl, hB⟩)
    go_ret
    exact ⟨ret_bool (by simp [conB, h1]), by assumption⟩
  · have hp := fitB_pos h1
    have hh := Lib.hid (str_head hp)
    cases h2 : grtB s[0]
    all_goals go_enter Tryz.func44, Tryz.ntmps44
    all_goals go_wp2_with (first | (go_at_call 54; refine (lex_fits _ _).mono ?_; rintro e w1 ⟨rfl, hB⟩) | (go_at_call 53; refine (lex_great _ _).mono ?_; rintro e w' ⟨rfl, rfl⟩))
    all_goals go_ret
    all_goals exact ⟨ret_bool (by simp [conB, h1, hh.out, h2]), by assumption⟩

theorem str_get {s : Str} {i : Nat} (h : i < s.size) : ∃ h' : i < s.toList.length, s[i] = s.toList[i] := by
  have e := Lib.toList_data s
  have hl : i < s.toList.length := by rw [e, ← Lib.size_eq]; exact h
  refine ⟨hl, ?_⟩
  simp only [e]
  rfl

end Go.Proofs.YtchdfjihflmloaaGreatDoor
