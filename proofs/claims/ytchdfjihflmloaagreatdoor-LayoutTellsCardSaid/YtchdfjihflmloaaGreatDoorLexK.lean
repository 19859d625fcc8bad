/- The reference's words, names; operations. -/
import Derived.Test.YtchdfjihflmloaaGreatDoorLexB
namespace Go.Proofs.YtchdfjihflmloaaGreatDoor
open Go.RowKit

def hasS (l : List Str) (s : Str) : Bool := l.any fun x => x.toList == s.toList

def wordL : List Str := [⟨#[99, 97, 115, 101]⟩, ⟨#[111, 102]⟩, ⟨#[108, 101, 116]⟩, ⟨#[105, 110]⟩, ⟨#[100, 111]⟩, ⟨#[100, 111, 115]⟩, ⟨#[105, 102]⟩, ⟨#[116, 104, 101, 110]⟩, ⟨#[101, 108, 115, 101]⟩, ⟨#[100, 97, 116, 97]⟩]
theorem hasS_wordL (s : Str) : hasS wordL s = wordB s := by
  simp only [hasS, wordL, wordB, List.any_cons, List.any_nil, List.contains_cons, List.contains_nil, ByteArray.toList_eq]
  simp only [BEq.comm (b := s.data.toList)]

theorem strRow_new (w : World) (l : List Str) (t : TypeId) (h : ∀ s ∈ l, s.size ≤ lenMax) : StrRow (w.alloc (.cells (l.map Value.string).toArray t)) (some ⟨w.heap.size, 0, none⟩) l := by
  refine .inr ⟨_, _, rfl, fun i hi => ⟨?_, h _ (List.getElem_mem hi)⟩⟩
  rw [World.cell?_alloc_at _ _ _ _ rfl]
  simp [hi]

end Go.Proofs.YtchdfjihflmloaaGreatDoor
