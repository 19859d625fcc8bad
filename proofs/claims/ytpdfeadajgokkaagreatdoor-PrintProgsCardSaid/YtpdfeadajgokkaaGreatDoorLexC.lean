/- The reference's words, names; operations. -/
import Derived.Test.YtpdfeadajgokkaaGreatDoorLexB
namespace Go.Proofs.YtpdfeadajgokkaaGreatDoor
open Go.RowKit

def hasS (l : List Str) (s : Str) : Bool := l.any fun x => x.toList == s.toList

set_option maxHeartbeats 400000 in
theorem r02_in (a : Option Addr) (l : List Str) (cap : Nat) (s : Str) (w : World) (hl : l.length ≤ lenMax) (hr : StrRow w a l) :
    Calls Tryz.prog 92 #[.slice a l.length cap, .string s] w fun r w' => r = .returned (.bool (hasS l s)) ∧ w = w' := by
  unfold lenMax at hl
  go_enter Tryz.func92, Tryz.ntmps92
  go_wp2_with fail
  go_loop [5] (fun i => ∃ k : Nat, k ≤ l.length ∧ i = .int .i64 k ∧ Hid (∀ j (hj : j < k) (hl : j < l.length), (l[j].toList == s.toList) = false)) (fun i => l.length - (intOf i).toNat)
  case atStart => exact ⟨0, by omega, rfl, fun j hj => by omega⟩
  case round =>
    obtain ⟨k, hk, rfl, hall⟩ := hrel
    by_cases hlt : k < l.length
    · rcases hr with hr | ⟨b, off, rfl, hr⟩
      · simp [hr] at hlt
      have hc := (hr k hlt).1
      clear hr
      cases hp : (l[k].toList == s.toList)
      · go_wp2_with fail
        go_round
        case rel => exact ⟨k + 1, by omega, by go_num, fun j hj hl => by
          rcases Nat.lt_or_ge j k with h | h
          · exact hall.out j h hl
          · obtain rfl : j = k := by omega
            exact hp⟩
        case measure => simp [intOf]; omega
      · go_wp2_with fail
        go_ret
        exact ⟨ret_bool (by rw [hasS, eq_comm, List.any_eq_true]; exact ⟨_, List.getElem_mem hlt, hp⟩), rfl⟩
    · go_wp2_with fail
      go_ret
      exact ⟨ret_bool (by rw [hasS, eq_comm, List.any_eq_false]; intro x hx; obtain ⟨j, hj, rfl⟩ := List.getElem_of_mem hx; rw [hall.out j (by omega) hj]; simp), rfl⟩

def wordL : List Str := [⟨#[99, 97, 115, 101]⟩, ⟨#[111, 102]⟩, ⟨#[108, 101, 116]⟩, ⟨#[105, 110]⟩, ⟨#[100, 111]⟩, ⟨#[100, 111, 115]⟩, ⟨#[105, 102]⟩, ⟨#[116, 104, 101, 110]⟩, ⟨#[101, 108, 115, 101]⟩, ⟨#[100, 97, 116, 97]⟩]
theorem hasS_wordL (s : Str) : hasS wordL s = wordB s := by
  simp only [hasS, wordL, wordB, List.any_cons, List.any_nil, List.contains_cons, List.contains_nil, ByteArray.toList_eq]
  simp only [BEq.comm (b := s.data.toList)]

theorem strRow_new (w : World) (l : List Str) (t : TypeId) (h : ∀ s ∈ l, s.size ≤ lenMax) : StrRow (w.alloc (.cells (l.map Value.string).toArray t)) (some ⟨w.heap.size, 0, none⟩) l := by
  refine .inr ⟨_, _, rfl, fun i hi => ⟨?_, h _ (List.getElem_mem hi)⟩⟩
  rw [World.cell?_alloc_at _ _ _ _ rfl]
  simp [hi]

set_option maxHeartbeats 400000 in
theorem r02_words (w : World) : Calls Tryz.prog 93 #[] w fun r w' => r = .returned (.slice (some ⟨w.heap.size, 0, none⟩) wordL.length wordL.length) ∧ Below w.heap.size w w' ∧ StrRow w' (some ⟨w.heap.size, 0, none⟩) wordL := by
  go_enter Tryz.func93, Tryz.ntmps93
  go_wp2
  go_ret
  exact ⟨rfl, (Below.refl _ _).alloc (Nat.le_refl _) _, strRow_new w wordL _ (by decide)⟩

set_option maxHeartbeats 400000 in
theorem r02_Name (s : Str) (w : World) : Calls Tryz.prog 54 #[.string s] w fun r w' => r = .returned (.bool (nameB s)) ∧ Below w.heap.size w w' := by
  cases h1 : fitB s
  · go_enter Tryz.func54, Tryz.ntmps54
    go_wp2_with (go_at_call 90; refine (r02_parts _ _).mono ?_; rintro e w1 ⟨rfl, rfl⟩)
    go_ret
    exact ⟨ret_bool (by simp [nameB, h1]), Below.refl _ _⟩
  · have hp := fitB_pos h1
    have hh := Lib.hid (str_head hp)
    cases h2 : smlB s[0] <;> cases h3 : wordB s
    all_goals have h4 := Lib.hid ((hasS_wordL s).trans h3)
    all_goals go_enter Tryz.func54, Tryz.ntmps54
    all_goals go_wp2_with (first | (go_at_call 90; refine (r02_parts _ _).mono ?_; rintro e w1 ⟨rfl, rfl⟩) | (go_at_call 91; refine (r02_small _ _).mono ?_; rintro e w' ⟨rfl, rfl⟩) | (go_at_call 93; refine (r02_words _).mono ?_; rintro e w1 ⟨rfl, hB, hR⟩) | (go_at_call 92; refine (r02_in _ wordL _ _ _ (by decide) (by assumption)).mono ?_; rintro e w' ⟨rfl, rfl⟩; rw [h4.out]))
    all_goals go_ret
    all_goals exact ⟨ret_bool (by simp [nameB, h1, hh.out, h2, h3]), by first | assumption | exact Below.refl _ _⟩

set_option maxHeartbeats 400000 in
theorem r02_Con (s : Str) (w : World) : Calls Tryz.prog 73 #[.string s] w fun r w' => r = .returned (.bool (conB s)) ∧ Below w.heap.size w w' := by
  cases h1 : fitB s
  · go_enter Tryz.func73, Tryz.ntmps73
    go_wp2_with (go_at_call 90; refine (r02_parts _ _).mono ?_; rintro e w1 ⟨rfl, rfl⟩)
    go_ret
    exact ⟨ret_bool (by simp [conB, h1]), Below.refl _ _⟩
  · have hp := fitB_pos h1
    have hh := Lib.hid (str_head hp)
    cases h2 : grtB s[0]
    all_goals go_enter Tryz.func73, Tryz.ntmps73
    all_goals go_wp2_with (first | (go_at_call 90; refine (r02_parts _ _).mono ?_; rintro e w1 ⟨rfl, rfl⟩) | (go_at_call 101; refine (r02_great _ _).mono ?_; rintro e w' ⟨rfl, rfl⟩))
    all_goals go_ret
    all_goals exact ⟨ret_bool (by simp [conB, h1, hh.out, h2]), Below.refl _ _⟩

def doesB (s : Str) : Bool := [[43], [45], [42], [47]].contains s.toList
def holdsB (s : Str) : Bool := [[61, 61], [60]].contains s.toList

theorem ret_bb {a b c d : Bool} (h : a = c) (h' : b = d) : Ending.returned (.tuple #[.bool a, .bool b]) = .returned (.tuple #[.bool c, .bool d]) := by rw [h, h']

theorem is_cases (s : Str) : s.toList = [43] ∨ s.toList = [45] ∨ s.toList = [42] ∨ s.toList = [47] ∨ s.toList = [61, 61] ∨ s.toList = [60] ∨
    ((s.toList == [43]) = false ∧ (s.toList == [45]) = false ∧ (s.toList == [42]) = false ∧ (s.toList == [47]) = false ∧ (s.toList == [61, 61]) = false ∧ (s.toList == [60]) = false) := by
  simp only [beq_eq_false_iff_ne]
  by_cases h1 : s.toList = [43]; · exact .inl h1
  by_cases h2 : s.toList = [45]; · exact .inr (.inl h2)
  by_cases h3 : s.toList = [42]; · exact .inr (.inr (.inl h3))
  by_cases h4 : s.toList = [47]; · exact .inr (.inr (.inr (.inl h4)))
  by_cases h5 : s.toList = [61, 61]; · exact .inr (.inr (.inr (.inr (.inl h5))))
  by_cases h6 : s.toList = [60]; · exact .inr (.inr (.inr (.inr (.inr (.inl h6)))))
  exact .inr (.inr (.inr (.inr (.inr (.inr ⟨h1, h2, h3, h4, h5, h6⟩)))))

set_option maxHeartbeats 400000 in
theorem num_Is (s : Str) (w : World) : Calls Tryz.prog 109 #[.string s] w fun r w' => r = .returned (.tuple #[.bool (doesB s), .bool (holdsB s)]) ∧ w = w' := by
  rcases is_cases s with h | h | h | h | h | h | ⟨h1, h2, h3, h4, h5, h6⟩
  all_goals go_enter Tryz.func109, Tryz.ntmps109
  all_goals go_wp2
  all_goals go_ret2
  all_goals exact ⟨ret_bb (by simp_all [doesB]) (by simp_all [holdsB]), rfl⟩

set_option maxHeartbeats 400000 in
theorem r01_Is (s : Str) (w : World) : Calls Tryz.prog 74 #[.string s] w fun r w' => r = .returned (.tuple #[.bool (doesB s), .bool (holdsB s)]) ∧ w = w' := by
  rcases is_cases s with h | h | h | h | h | h | ⟨h1, h2, h3, h4, h5, h6⟩
  all_goals go_enter Tryz.func74, Tryz.ntmps74
  all_goals go_wp2
  all_goals go_ret2
  all_goals exact ⟨ret_bb (by simp_all [doesB]) (by simp_all [holdsB]), rfl⟩

end Go.Proofs.YtpdfeadajgokkaaGreatDoor
