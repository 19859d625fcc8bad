/- The unknown slots of a region as one function: what those hold that were stepped. -/
import Derived.Test.YtchdfjihflmloaaGreatDoorInv
namespace Go.Proofs.YtchdfjihflmloaaGreatDoor

def upd (x : Nat → Value) (i : Nat) (v : Value) : Nat → Value := fun j => bif Nat.beq j i then v else x j
def Vals (vals : List Value) (f : Nat → Bool) (x : Nat → Value) : Prop := ∀ i v, vals[i]? = some v → f i = true → x i = v
theorem Vals.nil (vals : List Value) (x : Nat → Value) : Vals vals (fun _ => false) x := fun _ _ _ h => by cases h
theorem Vals.get {vals : List Value} {f : Nat → Bool} {x : Nat → Value} (h : Vals vals f x) (i : Nat) {v : Value} (hv : vals[i]? = some v) (hf : f i = true) : x i = v := h i v hv hf
theorem Vals.put {vals : List Value} {f : Nat → Bool} {x : Nat → Value} (h : Vals vals f x) (i : Nat) {v : Value} (hv : vals[i]? = some v) : Vals vals f (upd x i v) := fun j u hu hf => by
  unfold upd
  by_cases e : j = i
  · subst e
    rw [hv] at hu
    simp at hu ⊢
    exact hu
  · have : Nat.beq j i = false := by cases h : Nat.beq j i with
      | false => rfl
      | true => exact absurd (Nat.eq_of_beq_eq_true h) e
    rw [this]
    exact h j u hu hf
theorem Vals.set {vals : List Value} {f : Nat → Bool} {x : Nat → Value} (h : Vals vals f x) (i : Nat) {v : Value} (hv : vals[i]? = some v) : Vals vals (fun j => (i == j) || f j) (upd x i v) := fun j u hu hf => by
  unfold upd
  by_cases e : j = i
  · subst e
    rw [hv] at hu
    simp at hu ⊢
    exact hu
  · have : Nat.beq j i = false := by cases h : Nat.beq j i with
      | false => rfl
      | true => exact absurd (Nat.eq_of_beq_eq_true h) e
    rw [this]
    have e2 : (i == j) = false := by rw [beq_eq_false_iff_ne]; exact fun h => e h.symm
    have hf' : ((i == j) || f j) = true := hf
    rw [e2] at hf'
    exact h j u hu hf'
end Go.Proofs.YtchdfjihflmloaaGreatDoor
