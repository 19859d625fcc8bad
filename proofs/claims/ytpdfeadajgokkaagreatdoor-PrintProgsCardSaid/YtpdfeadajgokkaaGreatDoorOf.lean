/- Parts as a text; a list of trees; a tree; a written type. -/
import Derived.Test.YtpdfeadajgokkaaGreatDoorPut
import Derived.Test.YtpdfeadajgokkaaGreatDoorShelf
import Derived.Laws.OwnMore
namespace Go.Proofs.YtpdfeadajgokkaaGreatDoor
open Go.RowKit

/-- The library's join, of a row that a slice owns. -/
theorem join_owned {base : Nat} {v : Value} {l : List Str} {n : Nat} (sep : Str) {w : World} (h : w.ownsRow base 9 1 v n (l.map Value.string)) (hlen : (Lib.join (l.map bs) (bs sep)).length ≤ lenMax) (hn : n ≤ lenMax) :
    Calls Tryz.prog 22 #[v, .string sep] w fun r w' => r = .returned (.string (mkS (Lib.join (l.map bs) (bs sep)))) ∧ Below w.heap.size w w' := by
  unfold lenMax at hlen hn
  have hl : l.length = n := by have := h.1; simpa using this
  subst hl
  have h0 := h
  obtain ⟨_, ⟨h1, h2⟩ | ⟨g, cap, cur, hv, hb, hh, hcap, hcm, hr⟩⟩ := h
  · obtain rfl : l = [] := by cases l <;> simp at h2 ⊢
    rw [h1]
    refine (Tryz.strings_Join_none none 0 _ w).mono ?_
    rintro e w' ⟨rfl, rfl⟩
    exact ⟨rfl, Below.refl _ _⟩
  · subst hv
    refine (Tryz.strings_Join g 0 cap l sep w (fun j x hj => ?_) (Array.getElem?_eq_some_iff.1 hh).1 hn hcap hlen).mono ?_
    · obtain ⟨hj', rfl⟩ := List.getElem?_eq_some_iff.1 hj
      rw [show (0 : Nat) + j = j from by omega, h0.cellAt j (by omega), List.getElem?_map, hj]; rfl
    · rintro e w' ⟨rfl, hB⟩
      exact ⟨rfl, hB⟩

/-- What a writer's texts are, a byte 32 between. -/
theorem writer_String (bp : Nat) (v : Value) (l : List Str) (w : World) (hW : WrIs w bp v l) (hlen : (joinSp l).length ≤ lenMax) (hn : l.length ≤ lenMax) :
    Calls Tryz.prog 49 #[.pointer (some ⟨bp, 0, none⟩)] w fun r w' => r = .returned (.string (mkS (joinSp l))) ∧ Below w.heap.size w w' := by
  obtain ⟨hwc, hwf⟩ := hW.cell
  have hcall := Lib.hid (join_owned ⟨#[32]⟩ hW.2 hlen hn)
  clear hlen hn hW
  go_enter Tryz.func49, Tryz.ntmps49
  go_wp2_with fail
  refine hcall.out.mono ?_
  rintro e w1 ⟨rfl, hB1⟩
  go_wp2_with fail
  go_ret
  exact ⟨rfl, hB1⟩

def outs (ps : List Pt) : List Str := ps.flatMap Pt.out

/-- Parts as a text. -/
theorem print_of (ps : List Pt) (a : Option Addr) (c : Nat) (w : World) (hcan : ∀ p ∈ ps, p.can) (hr : PtRow w a ps) (hn : (outs ps).length ≤ 1099511627776) (hlen : ps.length ≤ lenMax) (hj : (joinSp (outs ps)).length ≤ lenMax) :
    Calls Tryz.prog 21 #[.slice a ps.length c] w fun r w' => r = .returned (.string (mkS (joinSp (outs ps)))) ∧ Below w.heap.size w w' := by
  have hb1 : Below w.heap.size w (w.alloc (.cells #[.slice none 0 0] 71)) := (Below.refl _ _).alloc (Nat.le_refl _) _
  have hput := Lib.hid (put_any w.heap.size (.slice none 0 0) [] ps a c (w.alloc (.cells #[.slice none 0 0] 71)) hcan ⟨by simp only [World.alloc]; simp, rfl, .inl ⟨rfl, rfl⟩⟩
    (fun W _ hb => hr.below (hb1.trans hb)) (by simpa [outs] using hn) hlen)
  have hb1' := Lib.hid hb1
  have hj' := Lib.hid hj
  have hn' := Lib.hid hn
  clear hb1 hr hcan hlen hj hn
  go_enter Tryz.func21, Tryz.ntmps21
  go_wp2_with fail
  refine hput.out.mono ?_
  rintro e w1 ⟨rfl, v1, hW1, hT1⟩
  go_wp2_with fail
  refine (writer_String w.heap.size v1 _ w1 hW1 (by simpa [outs] using hj'.out) (by have := hn'.out; simp [outs] at this; simp [lenMax]; omega)).mono ?_
  rintro e w2 ⟨rfl, hB2⟩
  go_wp2_with fail
  go_ret
  exact ⟨rfl, (hb1'.out.trans hT1.below).trans (hB2.mono (by have := (hb1'.out.trans hT1.below).size; omega))⟩
end Go.Proofs.YtpdfeadajgokkaaGreatDoor
