/- A number's digits, put together from the last one on, in plain words. -/
import Derived.Test.YtchdfjihflmloaaDoorLxC
namespace Go.Proofs.YtchdfjihflmloaaDoor

def digM (m : Nat) : UInt8 := UInt8.ofNat (48 + m % 10)
theorem digM_nat (m : Nat) : (digM m).toNat = 48 + m % 10 := by
  unfold digM
  rw [UInt8.toNat_ofNat']
  exact Nat.mod_eq_of_lt (by omega)
theorem digM_dig (m : Nat) : dgB (digM m) = true := by
  unfold dgB
  rw [digM_nat]
  simp; omega
theorem numL_from : ∀ (l : Bs) (a : Nat), l.foldl (fun n b => 10 * n + (b.toNat - 48)) a = a * 10 ^ l.length + numL l
  | [], a => by simp [numL]
  | b :: r, a => by
    have h1 := numL_from r (10 * a + (b.toNat - 48))
    have h2 := numL_from r (10 * 0 + (b.toNat - 48))
    unfold numL at h2 ⊢
    simp only [List.foldl_cons, List.length_cons]
    rw [h1, h2]
    unfold numL
    rw [Nat.pow_succ, Nat.add_mul, Nat.add_mul, Nat.mul_zero, Nat.zero_mul, Nat.zero_add]
    have : 10 * a * 10 ^ r.length = a * (10 ^ r.length * 10) := by rw [Nat.mul_comm 10 a, Nat.mul_assoc, Nat.mul_comm 10]
    omega
theorem numL_cons (b : UInt8) (l : Bs) : numL (b :: l) = (b.toNat - 48) * 10 ^ l.length + numL l := by
  have := numL_from l (10 * 0 + (b.toNat - 48))
  rw [Nat.mul_zero, Nat.zero_add] at this
  unfold numL at this ⊢
  simpa using this
theorem numL_zeros (k : Nat) (l : Bs) : numL (List.replicate k 48 ++ l) = numL l := by
  induction k with
  | zero => rfl
  | succ k ih => rw [List.replicate_succ, List.cons_append, numL_cons, ih]; simp
/-- What is left of a number, and the digits told. -/
def DgI (n m : Nat) (E : Bs) : Prop := n = m * 10 ^ E.length + numL E ∧ E.all dgB = true ∧ ∃ k, k + E.length = 20 ∧ m < 10 ^ k
theorem DgI.start {n : Nat} (h : n ≤ maxI) : DgI n n [] := by
  refine ⟨by simp [numL], rfl, 20, rfl, ?_⟩
  unfold maxI at h
  exact Nat.lt_of_le_of_lt h (by decide)
theorem DgI.len {n m : Nat} {E : Bs} (h : DgI n m E) : E.length ≤ 20 := by
  obtain ⟨_, _, k, hk, _⟩ := h
  omega
theorem DgI.step {n m : Nat} {E : Bs} (h : DgI n m E) (hm : 0 < m ∨ E = []) : DgI n (m / 10) (digM m :: E) := by
  obtain ⟨h1, h2, k, hk, h3⟩ := h
  refine ⟨?_, by simp [h2, digM_dig], ?_⟩
  · rw [numL_cons, digM_nat, h1, List.length_cons, Nat.pow_succ]
    have e : m = m / 10 * 10 + m % 10 := by omega
    have e2 : 48 + m % 10 - 48 = m % 10 := by omega
    rw [e2]
    have e3 : m * 10 ^ E.length = (m / 10 * 10 + m % 10) * 10 ^ E.length := by rw [← e]
    rw [e3, Nat.add_mul, Nat.mul_assoc, Nat.mul_comm 10]
    omega
  · cases k with
    | zero =>
      exfalso
      rcases hm with h | h
      · simp at h3; omega
      · subst h; simp at hk
    | succ k =>
      refine ⟨k, by simp; omega, ?_⟩
      rw [Nat.pow_succ] at h3
      omega
theorem DgI.fin {n : Nat} {E : Bs} (h : DgI n 0 E) : numL E = n ∧ E.all dgB = true := by
  obtain ⟨h1, h2, _⟩ := h
  exact ⟨by rw [h1]; simp, h2⟩
theorem all_zeros (k : Nat) {E : Bs} (h : E.all dgB = true) : (List.replicate k 48 ++ E).all dgB = true := by
  induction k with
  | zero => exact h
  | succ k ih => rw [List.replicate_succ, List.cons_append, List.all_cons, ih]; rfl
/-- The digits, with noughts ahead, are one token. -/
theorem lex_digits {n k : Nat} {E : Bs} (h : DgI n 0 E) (hne : E ≠ []) (hn : n ≤ maxI) : lexF 1 1 0 (List.replicate k 48 ++ E) = .ok [⟨1, List.replicate k 48 ++ E, n, 1, 1⟩] := by
  obtain ⟨h1, h2⟩ := h.fin
  have hnum : numL (List.replicate k 48 ++ E) = n := by rw [numL_zeros, h1]
  have := lexF_alone (gd_digits (d := List.replicate k 48 ++ E) (by simp [hne]) (all_zeros k h2) (by rw [hnum]; exact hn))
  rw [hnum] at this
  exact this
end Go.Proofs.YtchdfjihflmloaaDoor
