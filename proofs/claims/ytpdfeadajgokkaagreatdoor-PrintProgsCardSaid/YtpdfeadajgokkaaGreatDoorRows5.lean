/- Rows of cells that were laid just now. -/
import Derived.Test.YtpdfeadajgokkaaGreatDoorPprog
namespace Go.Proofs.YtpdfeadajgokkaaGreatDoor
open Go.RowKit

theorem exRow1 {w : World} {v0 v1 v2 v3 v4 : Value} {t : TypeId} {e : Ex} {B : Nat} (hB : w.heap.size = B) (h : IsEx (w.alloc (.cells #[v0, v1, v2, v3, v4] t)) (.agg #[v0, v1, v2, v3, v4]) e) : ExRow (w.alloc (.cells #[v0, v1, v2, v3, v4] t)) (some ⟨B, 0, none⟩) [e] := by
  subst hB
  refine .inr ⟨_, _, rfl, fun i hi => ?_⟩
  obtain rfl : i = 0 := by simp at hi; exact hi
  exact ⟨v0, v1, v2, v3, v4, by simp, by simp, by simp, by simp, by simp, h⟩
theorem exRow2 {w : World} {v0 v1 v2 v3 v4 u0 u1 u2 u3 u4 : Value} {t : TypeId} {e f : Ex} {B : Nat} (hB : w.heap.size = B) (h : IsEx (w.alloc (.cells #[v0, v1, v2, v3, v4, u0, u1, u2, u3, u4] t)) (.agg #[v0, v1, v2, v3, v4]) e) (h' : IsEx (w.alloc (.cells #[v0, v1, v2, v3, v4, u0, u1, u2, u3, u4] t)) (.agg #[u0, u1, u2, u3, u4]) f) : ExRow (w.alloc (.cells #[v0, v1, v2, v3, v4, u0, u1, u2, u3, u4] t)) (some ⟨B, 0, none⟩) [e, f] := by
  subst hB
  refine .inr ⟨_, _, rfl, fun i hi => ?_⟩
  rcases (by simp at hi; omega : i = 0 ∨ i = 1) with rfl | rfl
  · exact ⟨v0, v1, v2, v3, v4, by rw [World.cell?_alloc_at _ _ _ _ rfl]; rfl, by rw [World.cell?_alloc_at _ _ _ _ rfl]; rfl, by rw [World.cell?_alloc_at _ _ _ _ rfl]; rfl, by rw [World.cell?_alloc_at _ _ _ _ rfl]; rfl, by rw [World.cell?_alloc_at _ _ _ _ rfl]; rfl, h⟩
  · exact ⟨u0, u1, u2, u3, u4, by rw [World.cell?_alloc_at _ _ _ _ rfl]; rfl, by rw [World.cell?_alloc_at _ _ _ _ rfl]; rfl, by rw [World.cell?_alloc_at _ _ _ _ rfl]; rfl, by rw [World.cell?_alloc_at _ _ _ _ rfl]; rfl, by rw [World.cell?_alloc_at _ _ _ _ rfl]; rfl, h'⟩
theorem sgRow1 {w : World} {v0 v1 : Value} {t : TypeId} {e : Sg} {B : Nat} (hB : w.heap.size = B) (h : IsSg (w.alloc (.cells #[v0, v1] t)) (.agg #[v0, v1]) e) : SgRow (w.alloc (.cells #[v0, v1] t)) (some ⟨B, 0, none⟩) [e] := by
  subst hB
  refine .inr ⟨_, _, rfl, fun i hi => ?_⟩
  obtain rfl : i = 0 := by simp at hi; exact hi
  exact ⟨v0, v1, by rw [World.cell?_alloc_at _ _ _ _ rfl]; rfl, by rw [World.cell?_alloc_at _ _ _ _ rfl]; rfl, h⟩
theorem sgRow2 {w : World} {v0 v1 u0 u1 : Value} {t : TypeId} {e f : Sg} {B : Nat} (hB : w.heap.size = B) (h : IsSg (w.alloc (.cells #[v0, v1, u0, u1] t)) (.agg #[v0, v1]) e) (h' : IsSg (w.alloc (.cells #[v0, v1, u0, u1] t)) (.agg #[u0, u1]) f) : SgRow (w.alloc (.cells #[v0, v1, u0, u1] t)) (some ⟨B, 0, none⟩) [e, f] := by
  subst hB
  refine .inr ⟨_, _, rfl, fun i hi => ?_⟩
  rcases (by simp at hi; omega : i = 0 ∨ i = 1) with rfl | rfl
  · exact ⟨v0, v1, by rw [World.cell?_alloc_at _ _ _ _ rfl]; rfl, by rw [World.cell?_alloc_at _ _ _ _ rfl]; rfl, h⟩
  · exact ⟨u0, u1, by rw [World.cell?_alloc_at _ _ _ _ rfl]; rfl, by rw [World.cell?_alloc_at _ _ _ _ rfl]; rfl, h'⟩
theorem dtRow1 {w : World} {v0 v1 v2 : Value} {t : TypeId} {e : Dt} {B : Nat} (hB : w.heap.size = B) (h : IsDt (w.alloc (.cells #[v0, v1, v2] t)) (.agg #[v0, v1, v2]) e) : DtRow (w.alloc (.cells #[v0, v1, v2] t)) (some ⟨B, 0, none⟩) [e] := by
  subst hB
  refine .inr ⟨_, _, rfl, fun i hi => ?_⟩
  obtain rfl : i = 0 := by simp at hi; exact hi
  exact ⟨v0, v1, v2, by rw [World.cell?_alloc_at _ _ _ _ rfl]; rfl, by rw [World.cell?_alloc_at _ _ _ _ rfl]; rfl, by rw [World.cell?_alloc_at _ _ _ _ rfl]; rfl, h⟩
theorem dfRow1 {w : World} {v0 v1 v2 v3 v4 v5 : Value} {t : TypeId} {e : Df} {B : Nat} (hB : w.heap.size = B) (h : IsDf (w.alloc (.cells #[v0, v1, v2, v3, v4, v5] t)) (.agg #[v0, v1, v2, v3, v4, v5]) e) : DfRow (w.alloc (.cells #[v0, v1, v2, v3, v4, v5] t)) (some ⟨B, 0, none⟩) [e] := by
  subst hB
  refine .inr ⟨_, _, rfl, fun i hi => ?_⟩
  obtain rfl : i = 0 := by simp at hi; exact hi
  exact ⟨v0, v1, v2, v3, v4, v5, by rw [World.cell?_alloc_at _ _ _ _ rfl]; rfl, by rw [World.cell?_alloc_at _ _ _ _ rfl]; rfl, by rw [World.cell?_alloc_at _ _ _ _ rfl]; rfl, by rw [World.cell?_alloc_at _ _ _ _ rfl]; rfl, by rw [World.cell?_alloc_at _ _ _ _ rfl]; rfl, by rw [World.cell?_alloc_at _ _ _ _ rfl]; rfl, h⟩
theorem dfRow2 {w : World} {v0 v1 v2 v3 v4 v5 u0 u1 u2 u3 u4 u5 : Value} {t : TypeId} {e f : Df} {B : Nat} (hB : w.heap.size = B) (h : IsDf (w.alloc (.cells #[v0, v1, v2, v3, v4, v5, u0, u1, u2, u3, u4, u5] t)) (.agg #[v0, v1, v2, v3, v4, v5]) e) (h' : IsDf (w.alloc (.cells #[v0, v1, v2, v3, v4, v5, u0, u1, u2, u3, u4, u5] t)) (.agg #[u0, u1, u2, u3, u4, u5]) f) : DfRow (w.alloc (.cells #[v0, v1, v2, v3, v4, v5, u0, u1, u2, u3, u4, u5] t)) (some ⟨B, 0, none⟩) [e, f] := by
  subst hB
  refine .inr ⟨_, _, rfl, fun i hi => ?_⟩
  rcases (by simp at hi; omega : i = 0 ∨ i = 1) with rfl | rfl
  · exact ⟨v0, v1, v2, v3, v4, v5, by rw [World.cell?_alloc_at _ _ _ _ rfl]; rfl, by rw [World.cell?_alloc_at _ _ _ _ rfl]; rfl, by rw [World.cell?_alloc_at _ _ _ _ rfl]; rfl, by rw [World.cell?_alloc_at _ _ _ _ rfl]; rfl, by rw [World.cell?_alloc_at _ _ _ _ rfl]; rfl, by rw [World.cell?_alloc_at _ _ _ _ rfl]; rfl, h⟩
  · exact ⟨u0, u1, u2, u3, u4, u5, by rw [World.cell?_alloc_at _ _ _ _ rfl]; rfl, by rw [World.cell?_alloc_at _ _ _ _ rfl]; rfl, by rw [World.cell?_alloc_at _ _ _ _ rfl]; rfl, by rw [World.cell?_alloc_at _ _ _ _ rfl]; rfl, by rw [World.cell?_alloc_at _ _ _ _ rfl]; rfl, by rw [World.cell?_alloc_at _ _ _ _ rfl]; rfl, h'⟩
theorem strRow1 {w : World} {s : Str} {t : TypeId} {B : Nat} (hB : w.heap.size = B) (h : s.size ≤ lenMax) : StrRow (w.alloc (.cells #[.string s] t)) (some ⟨B, 0, none⟩) [s] := by
  subst hB
  refine .inr ⟨_, _, rfl, fun i hi => ?_⟩
  obtain rfl : i = 0 := by simp at hi; exact hi
  exact ⟨by rw [World.cell?_alloc_at _ _ _ _ rfl]; rfl, h⟩

/-- The zero value of a tree. -/
def ex0 : Ex := .mk 0 ⟨#[]⟩ 0 [] []
theorem isEx_leaf {w : World} {k : Int} {s : Str} (hk : -9223372036854775808 ≤ k ∧ k ≤ 9223372036854775807) (hs : s.size ≤ lenMax) : IsEx w (.agg #[.int .i64 k, .string s, .int .i64 0, .slice none 0 0, .slice none 0 0]) (.mk k s 0 [] []) :=
  IsEx.shut (l := []) (ks := []) hk (by omega) hs (by simp) (by simp) (.inl rfl) (.inl rfl) ⟨fun _ => rfl, Nat.zero_le _⟩
end Go.Proofs.YtpdfeadajgokkaaGreatDoor
