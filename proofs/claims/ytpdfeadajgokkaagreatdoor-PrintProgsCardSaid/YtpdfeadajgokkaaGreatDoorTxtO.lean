/- A tree's text. -/
import Derived.Test.YtpdfeadajgokkaaGreatDoorList
import Derived.StillTailTactics
import Derived.Lib.AppendIntMem
namespace Go.Proofs.YtpdfeadajgokkaaGreatDoor
open Go.RowKit

def okB (k : Int) (l : List Str) (ks : List Ex) : Prop := (k = 4 → 1 ≤ l.length ∧ 1 ≤ ks.length) ∧ (k = 5 → 2 ≤ ks.length) ∧ (k = 6 → 2 ≤ ks.length) ∧ (k = 7 → 1 ≤ ks.length) ∧ (k = 8 → 1 ≤ ks.length) ∧ (k = 9 → 2 ≤ ks.length) ∧ (k = 10 → 3 ≤ ks.length) ∧ (k = 13 → 1 ≤ ks.length)
/-- All the parts that 'text' reads are there. -/
inductive OkT : Ex → Prop
  | mk {k : Int} {s : Str} {n : Int} {l : List Str} {ks : List Ex} (h : okB k l ks) (hk : ∀ e ∈ ks, OkT e) : OkT (.mk k s n l ks)

theorem bs_fun : bs = fun s : Str => s.data.toList := rfl
theorem mem_le {l : List Str} {p : Str} (h : p ∈ l) : (bs p).length ≤ (joinSp l).length := join_mem_le _ _ (List.mem_map.2 ⟨p, h, rfl⟩)
theorem text_le_atom (e : Ex) : (textE e).length ≤ (atomE e).length := by
  unfold atomE atomT paren
  split <;> simp <;> omega

theorem textL_get (ks : List Ex) (i : Nat) (h : i < ks.length) : (textE.textL ks)[i]?.getD (0, []) = (ks[i].kind, textE ks[i]) := by
  rw [← List.getD_eq_getElem?_getD]; exact textL_getD ks i h
theorem row_drop {W : World} {b off c : Nat} {ks : List Ex} (h : ExRow W (some ⟨b, off, none⟩) ks) (hc : ks.length ≤ c) : ExRow W (if c = 1 then some ⟨b, off, none⟩ else some ⟨b, off + 5, none⟩) (ks.drop 1) := by
  by_cases h1 : ks.length ≤ 1
  · exact .inl (List.drop_eq_nil_of_le h1)
  · rw [if_neg (by omega)]
    rcases h with rfl | ⟨b', off', ha, h⟩
    · simp at h1
    · simp only [Option.some.injEq, Addr.mk.injEq, and_true] at ha
      obtain ⟨rfl, rfl⟩ := ha
      refine .inr ⟨b, off + 5, rfl, fun i hi => ?_⟩
      have hi' : i + 1 < ks.length := by simp at hi; omega
      have := h (i + 1) hi'
      rw [show off + (i + 1) * 5 = off + 5 + i * 5 from by omega] at this
      rw [List.getElem_drop]
      simpa [Nat.add_comm] using this
theorem kid_cells {W : World} {a : Option Addr} {ks : List Ex} (h : ExRow W a ks) (i : Nat) (hi : i < ks.length) : ∃ b off a1 c1 a2 c2, a = some ⟨b, off, none⟩ ∧
    W.cell? ⟨b, off + i * 5, none⟩ = some (.int .i64 ks[i].kind) ∧ W.cell? ⟨b, off + i * 5 + 1, none⟩ = some (.string ks[i].name) ∧ W.cell? ⟨b, off + i * 5 + 2, none⟩ = some (.int .i64 ks[i].num) ∧
    W.cell? ⟨b, off + i * 5 + 3, none⟩ = some (.slice a1 ks[i].names.length c1) ∧ W.cell? ⟨b, off + i * 5 + 4, none⟩ = some (.slice a2 ks[i].kids.length c2) ∧
    IsEx W (.agg #[.int .i64 ks[i].kind, .string ks[i].name, .int .i64 ks[i].num, .slice a1 ks[i].names.length c1, .slice a2 ks[i].kids.length c2]) ks[i] := by
  obtain ⟨b, off, ha, h⟩ := h.kid (by rintro rfl; simp at hi)
  obtain ⟨a1, c1, a2, c2, h⟩ := h i hi
  exact ⟨b, off, a1, c1, a2, c2, ha, h⟩
end Go.Proofs.YtpdfeadajgokkaaGreatDoor
