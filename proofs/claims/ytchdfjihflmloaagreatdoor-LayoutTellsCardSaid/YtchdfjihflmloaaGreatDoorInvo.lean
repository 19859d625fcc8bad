/- The written slots of a region as one function: what those hold that were stepped, where that is fixed. -/
import Derived.Test.YtchdfjihflmloaaGreatDoorInw
namespace Go.Proofs.YtchdfjihflmloaaGreatDoor

def VO (vals : List (Option Value)) (f : Nat → Bool) (x : Nat → Value) : Prop := ∀ i v, vals[i]? = some (some v) → f i = true → x i = v
theorem VO.nil (vals : List (Option Value)) (x : Nat → Value) : VO vals (fun _ => false) x := fun _ _ _ h => by cases h
theorem VO.get {vals : List (Option Value)} {f : Nat → Bool} {x : Nat → Value} (h : VO vals f x) (i : Nat) {v : Value} (hv : vals[i]? = some (some v)) (hf : f i = true) : x i = v := h i v hv hf
theorem upd_same (x : Nat → Value) (i : Nat) (v : Value) : upd x i v i = v := by
  unfold upd
  have : Nat.beq i i = true := Nat.beq_refl i
  rw [this]; rfl
theorem upd_ne (x : Nat → Value) {i j : Nat} (v : Value) (h : j ≠ i) : upd x i v j = x j := by
  unfold upd
  have : Nat.beq j i = false := by cases hb : Nat.beq j i with
    | false => rfl
    | true => exact absurd (Nat.eq_of_beq_eq_true hb) h
  rw [this]; rfl
theorem VO.put {vals : List (Option Value)} {f : Nat → Bool} {x : Nat → Value} (h : VO vals f x) (i : Nat) {v : Value} (hv : vals[i]? = some (some v)) : VO vals f (upd x i v) := fun j u hu hf => by
  by_cases e : j = i
  · subst e
    rw [hv] at hu
    rw [upd_same]
    simpa using hu
  · rw [upd_ne x v e]; exact h j u hu hf
theorem VO.set {vals : List (Option Value)} {f : Nat → Bool} {x : Nat → Value} (h : VO vals f x) (i : Nat) {v : Value} (hv : vals[i]? = some (some v)) : VO vals (fun j => (i == j) || f j) (upd x i v) := fun j u hu hf => by
  by_cases e : j = i
  · subst e
    rw [hv] at hu
    rw [upd_same]
    simpa using hu
  · rw [upd_ne x v e]
    have e2 : (i == j) = false := by rw [beq_eq_false_iff_ne]; exact fun h => e h.symm
    have hf' : ((i == j) || f j) = true := hf
    rw [e2] at hf'
    exact h j u hu hf'
/-- An operation whose value is not fixed. -/
theorem VO.free {vals : List (Option Value)} {f : Nat → Bool} {x : Nat → Value} (h : VO vals f x) (i : Nat) (hv : vals[i]? = some none) (v : Value) : VO vals (fun j => (i == j) || f j) (upd x i v) := fun j u hu hf => by
  by_cases e : j = i
  · subst e
    rw [hv] at hu
    simp at hu
  · rw [upd_ne x v e]
    have e2 : (i == j) = false := by rw [beq_eq_false_iff_ne]; exact fun h => e h.symm
    have hf' : ((i == j) || f j) = true := hf
    rw [e2] at hf'
    exact h j u hu hf'
theorem VO.keep {vals : List (Option Value)} {f : Nat → Bool} {x : Nat → Value} (h : VO vals f x) (i : Nat) (hv : vals[i]? = some none) (v : Value) : VO vals f (upd x i v) := fun j u hu hf => by
  by_cases e : j = i
  · subst e
    rw [hv] at hu
    simp at hu
  · rw [upd_ne x v e]; exact h j u hu hf
/-- An operation that tells nothing. -/
theorem VO.done {vals : List (Option Value)} {f : Nat → Bool} {x : Nat → Value} (h : VO vals f x) (i : Nat) (hv : vals[i]? = some none) : VO vals (fun j => (i == j) || f j) x := fun j u hu hf => by
  by_cases e : j = i
  · subst e
    rw [hv] at hu
    simp at hu
  · have e2 : (i == j) = false := by rw [beq_eq_false_iff_ne]; exact fun h => e h.symm
    have hf' : ((i == j) || f j) = true := hf
    rw [e2] at hf'
    exact h j u hu hf'
end Go.Proofs.YtchdfjihflmloaaGreatDoor
