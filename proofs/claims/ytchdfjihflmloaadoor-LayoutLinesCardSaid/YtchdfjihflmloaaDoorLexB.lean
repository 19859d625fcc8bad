/- lex.Name, lex.Con; the reference's byte classes, words, names; operations. -/
import Derived.Test.YtchdfjihflmloaaDoorLexA
import Derived.PlainAid
namespace Go.Proofs.YtchdfjihflmloaaDoor
open Go.RowKit

theorem str_head {s : Str} (h : 0 < s.size) : s.toList.head? = some s[0] := by
  obtain ⟨⟨l⟩⟩ := s
  cases l with
  | nil => exact absurd h (by decide)
  | cons x r => rw [ByteArray.toList_eq]; rfl

theorem fitB_pos {s : Str} (h : fitB s = true) : 0 < s.size := by
  simp only [fitB, Bool.and_eq_true, decide_eq_true_eq, Lib.toList_data] at h
  rw [Lib.size_eq]; omega

set_option maxHeartbeats 400000 in
theorem lex_Name (s : Str) (w : World) : Calls Tryd.prog 19 #[.string s] w fun r w' => r = .returned (.bool (nameB s)) ∧ Below w.heap.size w w' := by
  cases h1 : fitB s
  · go_enter Tryd.func19, Tryd.ntmps19
    go_wp2_with (go_at_call 36; refine (lex_fits _ _).mono ?_; rintro e w1 ⟨rfl, hB⟩)
    go_ret
    exact ⟨ret_bool (by simp [nameB, h1]), by assumption⟩
  · have hp := fitB_pos h1
    have hh := Lib.hid (str_head hp)
    cases h2 : smlB s[0] <;> cases h3 : wordB s
    all_goals go_enter Tryd.func19, Tryd.ntmps19
    all_goals go_wp2_with (first | (go_at_call 36; refine (lex_fits _ _).mono ?_; rintro e w1 ⟨rfl, hB⟩) | (go_at_call 37; refine (lex_small _ _).mono ?_; rintro e w' ⟨rfl, rfl⟩) | (go_at_call 34; refine (lex_word _ _).mono ?_; rintro e w' ⟨rfl, rfl⟩))
    all_goals go_ret
    all_goals exact ⟨ret_bool (by simp [nameB, h1, hh.out, h2, h3]), by assumption⟩

set_option maxHeartbeats 400000 in
theorem lex_Con (s : Str) (w : World) : Calls Tryd.prog 20 #[.string s] w fun r w' => r = .returned (.bool (conB s)) ∧ Below w.heap.size w w' := by
  cases h1 : fitB s
  · go_enter Tryd.func20, Tryd.ntmps20
    go_wp2_with (go_at_call 36; refine (lex_fits _ _).mono ?_; rintro e w1 ⟨rfl, hB⟩)
    go_ret
    exact ⟨ret_bool (by simp [conB, h1]), by assumption⟩
  · have hp := fitB_pos h1
    have hh := Lib.hid (str_head hp)
    cases h2 : grtB s[0]
    all_goals go_enter Tryd.func20, Tryd.ntmps20
    all_goals go_wp2_with (first | (go_at_call 36; refine (lex_fits _ _).mono ?_; rintro e w1 ⟨rfl, hB⟩) | (go_at_call 38; refine (lex_great _ _).mono ?_; rintro e w' ⟨rfl, rfl⟩))
    all_goals go_ret
    all_goals exact ⟨ret_bool (by simp [conB, h1, hh.out, h2]), by assumption⟩

theorem r02_digit (b : UInt8) (w : World) : Calls Tryd.prog 61 #[.int .u8 b.toNat] w fun r w' => r = .returned (.bool (digB b)) ∧ w = w' := by
  go_enter Tryd.func61, Tryd.ntmps61
  go_wp2
  all_goals go_ret
  all_goals exact ⟨ret_bool (by first | exact decide_eq_decide.2 (by omega) | exact (decide_eq_false (by omega)).symm), rfl⟩
theorem r02_small (b : UInt8) (w : World) : Calls Tryd.prog 43 #[.int .u8 b.toNat] w fun r w' => r = .returned (.bool (smlB b)) ∧ w = w' := by
  go_enter Tryd.func43, Tryd.ntmps43
  go_wp2
  all_goals go_ret
  all_goals exact ⟨ret_bool (by first | exact decide_eq_decide.2 (by omega) | exact (decide_eq_false (by omega)).symm), rfl⟩
theorem r02_great (b : UInt8) (w : World) : Calls Tryd.prog 44 #[.int .u8 b.toNat] w fun r w' => r = .returned (.bool (grtB b)) ∧ w = w' := by
  go_enter Tryd.func44, Tryd.ntmps44
  go_wp2
  all_goals go_ret
  all_goals exact ⟨ret_bool (by first | exact decide_eq_decide.2 (by omega) | exact (decide_eq_false (by omega)).symm), rfl⟩
theorem r02_part (b : UInt8) (w : World) : Calls Tryd.prog 63 #[.int .u8 b.toNat] w fun r w' => r = .returned (.bool (prtB b)) ∧ w = w' := by
  cases h1 : digB b <;> cases h2 : smlB b
  all_goals go_enter Tryd.func63, Tryd.ntmps63
  all_goals go_wp2_with (first | (go_at_call 61; refine (r02_digit _ _).mono ?_; rintro e w' ⟨rfl, rfl⟩) | (go_at_call 43; refine (r02_small _ _).mono ?_; rintro e w' ⟨rfl, rfl⟩) | (go_at_call 44; refine (r02_great _ _).mono ?_; rintro e w' ⟨rfl, rfl⟩))
  all_goals go_ret
  all_goals exact ⟨ret_bool (by simp [prtB, h1, h2]), rfl⟩

theorem str_get {s : Str} {i : Nat} (h : i < s.size) : ∃ h' : i < s.toList.length, s[i] = s.toList[i] := by
  have e := Lib.toList_data s
  have hl : i < s.toList.length := by rw [e, ← Lib.size_eq]; exact h
  refine ⟨hl, ?_⟩
  simp only [e]
  rfl

set_option maxHeartbeats 400000 in
theorem r02_parts (s : Str) (w : World) : Calls Tryd.prog 42 #[.string s] w fun r w' => r = .returned (.bool (fitB s)) ∧ w = w' := by
  have hsz : s.size = s.toList.length := by rw [Lib.toList_data, Lib.size_eq]
  by_cases h1 : (s.size : Int) < 1
  · have hx : Hid (fitB s = false) := by unfold Hid; rw [fitB, decide_eq_false (by omega)]; rfl
    clear hsz
    go_enter Tryd.func42, Tryd.ntmps42
    go_wp2_with fail
    go_ret
    exact ⟨ret_bool hx.out.symm, rfl⟩
  · by_cases h2 : (20 : Int) < (s.size : Int)
    · have hx : Hid (fitB s = false) := by unfold Hid; rw [fitB, decide_eq_false (by omega)]; rfl
      clear hsz
      go_enter Tryd.func42, Tryd.ntmps42
      go_wp2_with fail
      go_ret
      exact ⟨ret_bool hx.out.symm, rfl⟩
    · have hsz' := Lib.hid hsz
      clear hsz
      go_enter Tryd.func42, Tryd.ntmps42
      go_wp2_with fail
      go_loop [3, 4] (fun i _ => ∃ k : Nat, k ≤ s.size ∧ i = .int .i64 k ∧ Hid (∀ j (hj : j < k) (hl : j < s.toList.length), prtB s.toList[j] = true)) (fun i _ => s.size - (intOf i).toNat)
      case atStart => exact ⟨0, by omega, rfl, fun j hj => by omega⟩
      case round =>
        obtain ⟨k, hk, rfl, hall⟩ := hrel
        by_cases hlt : k < s.size
        · obtain ⟨hl, hg⟩ := str_get hlt
          have hg' := Lib.hid hg
          clear hg
          cases hp : prtB s[k]
          · go_wp2_with (go_at_call 63; refine (r02_part _ _).mono ?_; rintro e w' ⟨rfl, rfl⟩)
            go_ret
            have hx : s.toList.all prtB = false := by
              rw [List.all_eq_false]
              exact ⟨s.toList[k], List.getElem_mem _, by rw [← hg'.out, hp]; simp⟩
            exact ⟨ret_bool (by rw [fitB, hx, Bool.and_false]), rfl⟩
          · go_wp2_with (go_at_call 63; refine (r02_part _ _).mono ?_; rintro e w' ⟨rfl, rfl⟩)
            go_round
            case rel => exact ⟨k + 1, by omega, by go_num, fun j hj hl => by
              rcases Nat.lt_or_ge j k with h | h
              · exact hall.out j h hl
              · obtain rfl : j = k := by omega
                rw [← hg'.out, hp]⟩
            case measure => simp [intOf]; omega
        · go_wp2_with fail
          go_ret
          have hx : s.toList.all prtB = true := by
            rw [List.all_eq_true]
            intro x hx
            obtain ⟨j, hj, rfl⟩ := List.getElem_of_mem hx
            exact hall.out j (by have := hsz'.out; omega) hj
          exact ⟨ret_bool (by rw [fitB, hx, decide_eq_true (by have := hsz'.out; omega)]; rfl), rfl⟩
end Go.Proofs.YtchdfjihflmloaaDoor
