/- The reference's Text, walked. -/
import Derived.Test.YtchdfjihflmloaaDoorLexW
namespace Go.Proofs.YtchdfjihflmloaaDoor
open Go.RowKit

def textL (l : List Tk) : Bs := joinL (l.map (·.text))
theorem joinL_snoc : ∀ (xs : List Bs) (a : Bs), xs ≠ [] → joinL (xs ++ [a]) = joinL xs ++ 32 :: a
  | [], _, h => (h rfl).elim
  | [x], a, _ => rfl
  | x :: y :: r, a, _ => by
    show x ++ 32 :: joinL ((y :: r) ++ [a]) = (x ++ 32 :: joinL (y :: r)) ++ 32 :: a
    rw [joinL_snoc (y :: r) a (by simp)]
    simp
theorem textL_zero (l : List Tk) (h : 0 < l.length) : textL (l.take 1) = (l[0]).text := by
  cases l with
  | nil => simp at h
  | cons t r => rfl
theorem textL_snoc (l : List Tk) (k : Nat) (h : k < l.length) (h0 : 0 < k) : textL (l.take (k + 1)) = textL (l.take k) ++ 32 :: (l[k]).text := by
  unfold textL
  rw [List.take_succ_eq_append_getElem h, List.map_append]
  exact joinL_snoc _ _ (by
    intro e
    have := congrArg List.length e
    rw [List.length_map, List.length_take, List.length_nil] at this
    omega)
theorem joinL_one (xs : List Bs) (a : Bs) : (joinL xs).length ≤ (joinL (xs ++ [a])).length ∧ a.length ≤ (joinL (xs ++ [a])).length := by
  by_cases h : xs = []
  · subst h; exact ⟨Nat.zero_le _, Nat.le_refl _⟩
  · rw [joinL_snoc xs a h, List.length_append, List.length_cons]; omega
theorem joinL_le : ∀ (ys xs : List Bs), (joinL xs).length ≤ (joinL (xs ++ ys)).length
  | [], xs => by rw [List.append_nil]; exact Nat.le_refl _
  | a :: ys, xs => by
    have h := joinL_le ys (xs ++ [a])
    rw [List.append_assoc] at h
    exact Nat.le_trans (joinL_one xs a).1 h
theorem textL_le (l : List Tk) (k : Nat) : (textL (l.take k)).length ≤ (textL l).length := by
  have h := joinL_le ((l.drop k).map (·.text)) ((l.take k).map (·.text))
  rw [← List.map_append, List.take_append_drop] at h
  exact h
theorem tS_app (a b : Bs) : tS a ++ tS b = tS (a ++ b) := by
  apply ByteArray.ext
  simp [tS]

set_option maxHeartbeats 1600000 in
theorem r02_Text (v : Value) (l : List Tk) (w : World) (hv : TkSl w v l) (hl : l.length ≤ 1000000) (hn : (textL l).length ≤ 1000000) : Calls Tryd.prog 25 #[v] w fun r w' => r = .returned (.string (tS (textL l))) ∧ w = w' := by
  obtain ⟨a, c, rfl, _, hr⟩ := hv
  have hr' := Lib.hid hr
  clear hr
  go_enter Tryd.func25, Tryd.ntmps25
  go_wp2_with fail
  go_loop [3, 4] (fun s n => ∃ k : Nat, k ≤ l.length ∧ n = .int .i64 k ∧ s = .string (tS (textL (l.take k)))) (fun _ n => l.length - (intOf n).toNat)
  case atStart => exact ⟨0, by omega, rfl, rfl⟩
  case round =>
    obtain ⟨k, hk, rfl, rfl⟩ := hrel
    by_cases hlt : k < l.length
    · obtain ⟨b, off, rfl, hc⟩ := hr'.out.at (by rintro rfl; simp at hlt)
      obtain ⟨g0, g1, g2, g3, g4⟩ := hc k hlt
      have hki : (k : Int) < (l.length : Int) := by omega
      clear hc
      rcases Nat.eq_zero_or_pos k with h0 | h0
      · subst h0
        have hle := textL_le l 1
        rw [textL_zero l hlt] at hle
        have hz : (textL (l.take 0)) = [] := rfl
        have hs1 : ¬ 9223372036854775807 < (tS (textL [])).size + (tS l[0].text).size := by rw [tS_size, tS_size]; show ¬ _ < 0 + _; omega
        have hap : Hid (Value.string (tS (textL []) ++ tS l[0].text) = Value.string (tS (textL (l.take 1)))) := by unfold Hid; rw [tS_app, textL_zero l hlt]; rfl
        clear hle hz
        go_wp2_with fail
        refine ⟨⟨1, by omega, rfl, hap.out⟩, ?_⟩
        simp [intOf]; omega
      · have h0i : (0 : Int) < (k : Int) := by omega
        have hle := textL_le l (k + 1)
        rw [textL_snoc l k hlt h0, List.length_append, List.length_cons] at hle
        have hs1 : ¬ 9223372036854775807 < (tS (textL (l.take k))).size + 1 := by rw [tS_size]; omega
        have hs2 : ¬ 9223372036854775807 < (tS (textL (l.take k))).size + 1 + (tS l[k].text).size := by rw [tS_size, tS_size]; omega
        have hap : Hid (Value.string (tS (textL (l.take k)) ++ ⟨#[32]⟩ ++ tS l[k].text) = Value.string (tS (textL (l.take (k + 1))))) := by
          unfold Hid
          rw [textL_snoc l k hlt h0, show (⟨#[32]⟩ : Str) = tS [32] from rfl, tS_app, tS_app, List.append_assoc]
          rfl
        clear hle
        go_wp2_with fail
        refine ⟨⟨k + 1, by omega, by go_num, hap.out⟩, ?_⟩
        simp [intOf]; omega
    · have e : Hid (k = l.length) := by unfold Hid; omega
      go_wp2_with fail
      go_ret
      exact ⟨by rw [e.out, List.take_length]; rfl, rfl⟩
end Go.Proofs.YtchdfjihflmloaaDoor
