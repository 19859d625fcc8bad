/- What the laws of layer 3 have in common. -/
import Derived.Test.YtchdfjihflmloaaGreatDoorLayW
import Derived.Test.YtchdfjihflmloaaGreatDoorLyB
import Derived.Test.YtchdfjihflmloaaGreatDoorLexW
namespace Go.Proofs.YtchdfjihflmloaaGreatDoor
open Go.RowKit

theorem pre_bad {a : List Tk} {r : Res} {x y : Int} (h : Res.pre a r = .bad x y) : r = .bad x y := by
  cases r with
  | ok q => cases h
  | bad p q => exact h
theorem layS_max : ∀ (l : List Tk) (prev : Option Tk) (fresh : Bool) (st : List Int) (m : List Tk), layS prev fresh st l = .ok m → m.length ≤ 5 * l.length + st.length
  | [], prev, fresh, st, m, h => by
    rw [layS] at h
    cases prev with
    | none => simp only [endS, Res.ok.injEq] at h; rw [← h]; simp
    | some e =>
      simp only [endS] at h
      split at h
      · simp only [Res.ok.injEq] at h
        have := shutW_len (fun _ => true) st
        rw [← h, List.length_replicate]
        simp only [List.length_nil]
        omega
      · cases h
  | t :: r, prev, fresh, st, m, h => by
    obtain ⟨o2, s2, q, h1, h2, rfl⟩ := layS_cons h
    have a := ahead_len prev fresh t st
    have b := fit_len h1
    have c := beh_len t r.head? s2
    have d := layS_max r _ _ _ q h2
    simp only [List.length_append, List.length_cons] at *
    omega
theorem lay_max {l m : List Tk} (h : layF l = .ok m) : m.length ≤ 5 * l.length := by
  have := layS_max l none true [] m h
  simpa using this
/-- An answer's tokens, place, error. -/
def resL : Res → List Tk × Int × Int × Int
  | .ok l => (l, 0, 0, 0)
  | .bad p q => ([], p, q, 30)
theorem LayR_slice {R : Res} {e : Ending} {W : World} (h : LayR R e W) : ∃ (a : Option Addr) (n c : Nat) (ts : List Tk) (x y er : Int), e = .returned (.tuple #[.slice a n c, .agg #[.int .i64 x, .int .i64 y], .int .i64 er]) ∧ TkSl W (.slice a n c) ts ∧ (ts, x, y, er) = resL R := by
  cases R with
  | ok l =>
    obtain ⟨v, rfl, hv⟩ := h
    obtain ⟨a, c, rfl⟩ := hv.open
    exact ⟨a, _, c, l, 0, 0, 0, rfl, hv, rfl⟩
  | bad x y => exact ⟨none, 0, 0, [], x, y, 30, h, TkSl.nil _, rfl⟩
theorem txt_eq (x s : Bs) : ((tS x).toList == s) = decide (x = s) := by
  rw [toL, bS_tS]
  by_cases h : x = s
  · rw [h, decide_eq_true rfl]; simp
  · rw [decide_eq_false h]; simpa using h
theorem txt_t {x s : Bs} (h : x = s) : ((tS x).toList == s) = true := by rw [txt_eq, decide_eq_true h]
theorem txt_f {x s : Bs} (h : ¬ x = s) : ((tS x).toList == s) = false := by rw [txt_eq, decide_eq_false h]
theorem keyT_t {t : Tk} {s : Bs} (h1 : t.kind = 4) (h2 : t.text = s) : keyT t s = true := by unfold keyT; simp [h1, h2]
theorem keyT_k {t : Tk} {s : Bs} (h1 : ¬ t.kind = 4) : keyT t s = false := by unfold keyT; simp [h1]
theorem keyT_x {t : Tk} {s : Bs} (h1 : ¬ t.text = s) : keyT t s = false := by unfold keyT; simp [h1]
theorem plainL_of : ∀ (l : List Tk), (∀ i (hi : i < l.length), blockT l[i] = true → ∃ h : i + 1 < l.length, keyT l[i + 1] bOpen = true) → plainL l
  | [], _ => trivial
  | t :: r, h => by
    refine ⟨fun hb => ?_, plainL_of r fun i hi hb => ?_⟩
    · obtain ⟨h1, h2⟩ := h 0 (by simp) hb
      cases r with
      | nil => simp at h1
      | cons u q => exact ⟨u, rfl, h2⟩
    · obtain ⟨h1, h2⟩ := h (i + 1) (by simp; omega) hb
      exact ⟨by simpa using h1, h2⟩
end Go.Proofs.YtchdfjihflmloaaGreatDoor
