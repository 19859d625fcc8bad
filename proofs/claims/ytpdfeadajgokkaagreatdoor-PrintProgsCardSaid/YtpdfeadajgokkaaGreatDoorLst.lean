/- Small laws on lists. -/
import Derived.Test.YtpdfeadajgokkaaGreatDoorBase
namespace Go.Proofs.YtpdfeadajgokkaaGreatDoor
theorem len1 {α : Type} {l : List α} (h : l.length = 1) : ∃ a, l = [a] := by
  cases l with
  | nil => simp at h
  | cons a r => cases r with
    | nil => exact ⟨a, rfl⟩
    | cons => simp at h
theorem len2 {α : Type} {l : List α} (h : l.length = 2) : ∃ a b, l = [a, b] := by
  cases l with
  | nil => simp at h
  | cons a r => obtain ⟨b, rfl⟩ := len1 (l := r) (by simpa using h); exact ⟨a, b, rfl⟩
theorem len3 {α : Type} {l : List α} (h : l.length = 3) : ∃ a b c, l = [a, b, c] := by
  cases l with
  | nil => simp at h
  | cons a r => obtain ⟨b, c, rfl⟩ := len2 (l := r) (by simpa using h); exact ⟨a, b, c, rfl⟩
end Go.Proofs.YtpdfeadajgokkaaGreatDoor
