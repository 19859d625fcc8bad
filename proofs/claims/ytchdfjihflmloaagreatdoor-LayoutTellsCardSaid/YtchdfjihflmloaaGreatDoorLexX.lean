/- The reference's Text, walked. -/
import Derived.Test.YtchdfjihflmloaaGreatDoorLexW
namespace Go.Proofs.YtchdfjihflmloaaGreatDoor
open Go.RowKit

def textL (l : List Tk) : Bs := joinL (l.map (·.text))
theorem joinL_snoc : ∀ (xs : List Bs) (a : Bs), xs ≠ [] → joinL (xs ++ [a]) = joinL xs ++ 32 :: a
  | [], _, h => (h rfl).elim
  | [x], a, _ => rfl
  | x :: y :: r, a, _ => by
    show x ++ 32 :: joinL ((y :: r) ++ [a]) = (x ++ 32 :: joinL (y :: r)) ++ 32 :: a
    rw [joinL_snoc (y :: r) a (by simp)]
    simp
theorem textL_zero (l : List Tk) (h : 0 < l.length) : textL (l.take 1) = (l[0]).text := by
  cases l with
  | nil => simp at h
  | cons t r => rfl
theorem textL_snoc (l : List Tk) (k : Nat) (h : k < l.length) (h0 : 0 < k) : textL (l.take (k + 1)) = textL (l.take k) ++ 32 :: (l[k]).text := by
  unfold textL
  rw [List.take_succ_eq_append_getElem h, List.map_append]
  exact joinL_snoc _ _ (by
    intro e
    have := congrArg List.length e
    rw [List.length_map, List.length_take, List.length_nil] at this
    omega)
theorem joinL_one (xs : List Bs) (a : Bs) : (joinL xs).length ≤ (joinL (xs ++ [a])).length ∧ a.length ≤ (joinL (xs ++ [a])).length := by
  by_cases h : xs = []
  · subst h; exact ⟨Nat.zero_le _, Nat.le_refl _⟩
  · rw [joinL_snoc xs a h, List.length_append, List.length_cons]; omega
theorem joinL_le : ∀ (ys xs : List Bs), (joinL xs).length ≤ (joinL (xs ++ ys)).length
  | [], xs => by rw [List.append_nil]; exact Nat.le_refl _
  | a :: ys, xs => by
    have h := joinL_le ys (xs ++ [a])
    rw [List.append_assoc] at h
    exact Nat.le_trans (joinL_one xs a).1 h
theorem textL_le (l : List Tk) (k : Nat) : (textL (l.take k)).length ≤ (textL l).length := by
  have h := joinL_le ((l.drop k).map (·.text)) ((l.take k).map (·.text))
  rw [← List.map_append, List.take_append_drop] at h
  exact h
theorem tS_app (a b : Bs) : tS a ++ tS b = tS (a ++ b) := by
  apply ByteArray.ext
  simp [tS]

end Go.Proofs.YtchdfjihflmloaaGreatDoor
