/- The calls whose answers are fixed: all are so. -/
import Derived.Test.YtchdfjihflmloaaGreatDoorLexLx
import Derived.Test.YtchdfjihflmloaaGreatDoorLxF
namespace Go.Proofs.YtchdfjihflmloaaGreatDoor
open Go.RowKit

theorem marked_row (w : World) (l : Bs) (C : Array Value) (m : Nat × Nat) (hC : C.toList = l.map fun b => .int .u8 b.toNat) : ByteRow (w.alloc (.cells C 5 m)) (some ⟨w.heap.size, 0, none⟩) l := by
  have hh : (w.alloc (.cells C 5 m)).heap[w.heap.size]? = some (.cells C 5 m) := by simp only [World.alloc]; simp
  refine .inr ⟨_, 0, rfl, fun i hi => ?_⟩
  have : C[0 + i]? = some (.int .u8 l[i].toNat) := by
    rw [← Array.getElem?_toList, hC, Nat.zero_add]
    simp [hi]
  unfold World.cell?
  rw [hh]
  simpa using this
def toks1 : List Tk := [⟨2, [102], 0, 1, 1⟩, ⟨4, [61], 0, 1, 3⟩, ⟨4, [92], 0, 1, 5⟩, ⟨2, [120], 0, 1, 6⟩, ⟨4, [45, 62], 0, 1, 7⟩, ⟨1, [49, 50], 12, 1, 9⟩, ⟨3, [66], 0, 3, 2⟩]
theorem lexA1 : lexA text1 = .ok toks1 := lex1
theorem lexA2 : lexA text2 = .bad 2 3 := lex2
theorem TkRow.take {w : World} {a : Option Addr} {l : List Tk} (h : TkRow w a l) (n : Nat) : TkRow w a (l.take n) := by
  rcases h with h | ⟨b, off, rfl, h⟩
  · subst h; exact .inl (by simp)
  · refine .inr ⟨b, off, rfl, fun i hi => ?_⟩
    rw [List.length_take] at hi
    have := h i (by omega)
    rw [List.getElem_take]
    exact this

end Go.Proofs.YtchdfjihflmloaaGreatDoor
