/- The reference's signs, word, token, walked. -/
import Derived.Test.YtchdfjihflmloaaGreatDoorLexT
import Derived.Test.YtchdfjihflmloaaGreatDoorTokB
import Derived.Test.YtchdfjihflmloaaGreatDoorLxF
namespace Go.Proofs.YtchdfjihflmloaaGreatDoor
open Go.RowKit

def signS : List Str := signsL.map tS
theorem hasS_map (l : List Bs) (s : Str) : hasS (l.map tS) s = l.contains (bS s) := by
  unfold hasS
  rw [List.any_map, List.contains_eq_any_beq]
  congr 1
  funext x
  simp only [Function.comp, toL]
  rw [bS_tS]
  rw [Bool.eq_iff_iff, beq_iff_eq, beq_iff_eq]
  exact eq_comm
theorem wordL_map : wordL = wordsL.map tS := rfl

/-- What a token's answer is: the token, or that there is none. -/
def TokR (o : Option (Int × Bs × Nat)) (r : Ending) : Prop :=
  match o with
  | some (k, t, n) => r = .returned (.tuple #[.agg #[.int .i64 k, .string (tS t), .int .i64 n, .int .i64 0, .int .i64 0], .bool true])
  | none => ∃ (k n : Int) (s : Str), r = .returned (.tuple #[.agg #[.int .i64 k, .string s, .int .i64 n, .int .i64 0, .int .i64 0], .bool false])
theorem TokR_form {o : Option (Int × Bs × Nat)} {r : Ending} (h : TokR o r) : ∃ (k : Int) (s : Str) (n : Int) (b : Bool), r = .returned (.tuple #[.agg #[.int .i64 k, .string s, .int .i64 n, .int .i64 0, .int .i64 0], .bool b]) ∧ TokR o (.returned (.tuple #[.agg #[.int .i64 k, .string s, .int .i64 n, .int .i64 0, .int .i64 0], .bool b])) := by
  rcases o with _ | ⟨k, t, n⟩
  · obtain ⟨k, n, s, rfl⟩ := h
    exact ⟨_, _, _, _, rfl, ⟨k, n, s, rfl⟩⟩
  · exact ⟨k, tS t, n, true, h, rfl⟩
def tokZ : Value := .agg #[.int .i64 0, .string ⟨#[]⟩, .int .i64 0, .int .i64 0, .int .i64 0]
theorem TokR_some {k : Int} {t : Bs} {n : Nat} {r : Ending} (q : Str) (hq : tS t = q) (h : r = .returned (.tuple #[.agg #[.int .i64 k, .string q, .int .i64 n, .int .i64 0, .int .i64 0], .bool true])) : TokR (some (k, t, n)) r := by subst hq; exact h
theorem set5_fold {P : Program} {fn : Func} {R : Ending → World → Prop} {e : Exit} {a : Act} {w : World} {b : Nat} {x0 x1 x2 x3 x4 : Value} (h : bodyPost P fn R e a (World.set5 w b x0 x1 x2 x3 x4)) : bodyPost P fn R e a (((((w.setCell ⟨b, 0, none⟩ x0).setCell ⟨b, 1, none⟩ x1).setCell ⟨b, 2, none⟩ x2).setCell ⟨b, 3, none⟩ x3).setCell ⟨b, 4, none⟩ x4) := h

theorem take_run (p : UInt8 → Bool) (l : Bs) : l.take (runN p l) = l.takeWhile p := by
  unfold runN
  exact (List.prefix_iff_eq_take.1 (List.takeWhile_prefix p)).symm
theorem ext_take (s : Str) (k : Nat) : s.extract 0 k = tS ((bS s).take k) := by
  rw [← tS_bS (s.extract 0 k)]
  unfold bS
  rw [ByteArray.data_extract]
  simp
theorem str_at (s : Str) (k : Nat) (h : k < s.size) : (bS s)[k]'h = s[k] := rfl
theorem head_at {p : UInt8 → Bool} {s : Str} (h : 0 < s.size) : headB p (bS s) = p s[0] := by
  have h' : 0 < (bS s).length := h
  unfold headB
  rw [List.head?_eq_getElem?, List.getElem?_eq_getElem h']
  rfl
theorem all_take_run (p : UInt8 → Bool) (l : Bs) : (l.takeWhile p).all p = true := List.all_takeWhile

theorem pre_eq {m s : Str} (h : m.size ≤ s.size) : ((s.extract 0 m.size).toList == m.toList) = (bS m).isPrefixOf (bS s) := by
  rw [Bool.eq_iff_iff, beq_iff_eq, List.isPrefixOf_iff_prefix, List.prefix_iff_eq_take, toL, toL, ext_take, bS_tS]
  exact eq_comm
theorem pre_long {m s : Str} (h : ¬ m.size ≤ s.size) : (bS m).isPrefixOf (bS s) = false := by
  rw [← Bool.not_eq_true, List.isPrefixOf_iff_prefix]
  intro hp
  exact h hp.length_le
theorem find_first {α : Type} {p : α → Bool} : ∀ (l : List α) (k : Nat) (h : k < l.length), (∀ j (hj : j < k) (hl : j < l.length), p l[j] = false) → p l[k] = true → l.find? p = some l[k]
  | [], k, h, _, _ => absurd h (Nat.not_lt_zero _)
  | a :: l, 0, _, _, h2 => by rw [List.find?_cons]; simp only [List.getElem_cons_zero] at h2 ⊢; rw [h2]
  | a :: l, k + 1, h, h1, h2 => by
    have h0 : p a = false := h1 0 (by omega) (by simp)
    rw [List.find?_cons, h0]
    exact find_first l k (by simpa using h) (fun j hj hl => h1 (j + 1) (by omega) (by simpa using hl)) h2
theorem find_no {α : Type} {p : α → Bool} (l : List α) (h : ∀ j (hl : j < l.length), p l[j] = false) : l.find? p = none := by
  rw [List.find?_eq_none]
  intro x hx
  obtain ⟨j, hj, rfl⟩ := List.getElem_of_mem hx
  rw [h j hj]; simp

end Go.Proofs.YtchdfjihflmloaaGreatDoor
