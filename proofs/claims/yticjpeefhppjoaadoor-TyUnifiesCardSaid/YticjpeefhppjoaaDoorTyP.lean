/- Facts by the reference: the first one of a hole; a type with facts in places. -/
import Derived.Test.YticjpeefhppjoaaDoorTyM
namespace Go.Proofs.YticjpeefhppjoaaDoor
open Go.RowKit

/-- What the first fact of a hole says. -/
def fa? : List Fa → Int → Option Ty
  | [], _ => none
  | f :: r, n => if f.n = n then some f.ty else fa? r n
theorem fa_none {L : List Fa} {n : Int} (h : ∀ j (hj : j < L.length), L[j].n ≠ n) : fa? L n = none := by
  induction L with
  | nil => rfl
  | cons f r ih =>
    have h0 := h 0 (by simp)
    simp only [List.getElem_cons_zero] at h0
    rw [fa?, if_neg h0]
    exact ih fun j hj => by have := h (j + 1) (by simpa using hj); simpa using this
theorem fa_some {L : List Fa} {n : Int} {k : Nat} (hk : k < L.length) (h : ∀ j (hj : j < k), L[j].n ≠ n) (hn : L[k].n = n) : fa? L n = some L[k].ty := by
  induction L generalizing k with
  | nil => simp at hk
  | cons f r ih =>
    cases k with
    | zero => simp only [List.getElem_cons_zero] at hn ⊢; rw [fa?, if_pos hn]
    | succ k =>
      have h0 := h 0 (by omega)
      simp only [List.getElem_cons_zero] at h0
      rw [fa?, if_neg h0]
      simp only [List.getElem_cons_succ] at hn ⊢
      exact ih (by simpa using hk) (fun j hj => by have := h (j + 1) (by omega); simpa using this) hn

/-- A type with facts in places. -/
def putT (L : List Fa) : Ty → Ty
  | .mk s n l => if holeS s = true then (fa? L n).getD (.mk ⟨#[]⟩ n []) else .mk s 0 (putL L l)
where putL (L : List Fa) : List Ty → List Ty
  | [] => []
  | e :: r => putT L e :: putL L r
theorem putL_map (L : List Fa) (l : List Ty) : putT.putL L l = l.map (putT L) := by
  induction l with
  | nil => rfl
  | cons e r ih => simp only [putT.putL, List.map_cons, ih]

def FactR (L : List Fa) (n i : Int) : Prop := (i = -1 ∧ fa? L n = none) ∨ ∃ (k : Nat) (h : k < L.length), i = k ∧ fa? L n = some L[k].ty

set_option maxHeartbeats 400000 in
theorem r08_fact (X : Nat → Prop) (L : List Fa) (a : Option Addr) (c : Nat) (n : Int) (w : World) (hl : L.length ≤ lenMax) (hr : FaRow X w a L) :
    Calls Tryd.prog 55 #[.slice a L.length c, .int .i64 n] w fun r w' => (∃ i, r = .returned (.int .i64 i) ∧ FactR L n i) ∧ Below w.heap.size w w' := by
  unfold lenMax at hl
  go_enter Tryd.func55, Tryd.ntmps55
  go_wp2_with fail
  go_loop [5] (fun i => ∃ k : Nat, k ≤ L.length ∧ i = .int .i64 k ∧ Hid (∀ j (hj : j < k) (hl : j < L.length), L[j].n ≠ n)) (fun i => L.length - (intOf i).toNat)
  case atStart => exact ⟨0, by omega, rfl, fun j hj => by omega⟩
  case round =>
    obtain ⟨k, hk, rfl, hall⟩ := hrel
    by_cases h1 : k < L.length
    · obtain ⟨b, off, rfl, hat⟩ := hr.at (by rintro rfl; simp at h1)
      obtain ⟨a1, c1, g0, g1, g2, g3, ge, hn⟩ := hat k h1
      clear hat ge
      by_cases h2 : L[k].n = n
      · have hf := Lib.hid (fa_some h1 (fun j hj => hall.out j hj (by omega)) h2)
        have h3 : (L[k].n == n) = true := by rw [beq_iff_eq]; exact h2
        clear h2
        go_wp2_with fail
        go_ret
        exact ⟨⟨_, rfl, .inr ⟨k, h1, rfl, hf.out⟩⟩, Below.refl _ _⟩
      · have h3 : (L[k].n == n) = false := by rw [beq_eq_false_iff_ne]; exact h2
        have h2' := Lib.hid h2
        clear h2
        go_wp2_with fail
        go_round
        case rel => exact ⟨k + 1, by omega, by go_num, fun j hj hl => by
          rcases Nat.lt_or_ge j k with h | h
          · exact hall.out j h hl
          · obtain rfl : j = k := by omega
            exact h2'.out⟩
        case measure => simp [intOf]; omega
    · have hf := Lib.hid (fa_none (L := L) (n := n) (fun j hj => hall.out j (by omega) hj))
      go_wp2_with fail
      go_ret
      exact ⟨⟨-1, rfl, .inl ⟨rfl, hf.out⟩⟩, Below.refl _ _⟩
end Go.Proofs.YticjpeefhppjoaaDoor
