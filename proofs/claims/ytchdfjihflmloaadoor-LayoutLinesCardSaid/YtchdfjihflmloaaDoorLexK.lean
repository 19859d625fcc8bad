/- The reference's words, names; operations. -/
import Derived.Test.YtchdfjihflmloaaDoorLexB
namespace Go.Proofs.YtchdfjihflmloaaDoor
open Go.RowKit

def hasS (l : List Str) (s : Str) : Bool := l.any fun x => x.toList == s.toList

set_option maxHeartbeats 400000 in
theorem r02_in (a : Option Addr) (l : List Str) (cap : Nat) (s : Str) (w : World) (hl : l.length ≤ lenMax) (hr : StrRow w a l) :
    Calls Tryd.prog 39 #[.slice a l.length cap, .string s] w fun r w' => r = .returned (.bool (hasS l s)) ∧ w = w' := by
  unfold lenMax at hl
  go_enter Tryd.func39, Tryd.ntmps39
  go_wp2_with fail
  go_loop [5] (fun i => ∃ k : Nat, k ≤ l.length ∧ i = .int .i64 k ∧ Hid (∀ j (hj : j < k) (hl : j < l.length), (l[j].toList == s.toList) = false)) (fun i => l.length - (intOf i).toNat)
  case atStart => exact ⟨0, by omega, rfl, fun j hj => by omega⟩
  case round =>
    obtain ⟨k, hk, rfl, hall⟩ := hrel
    by_cases hlt : k < l.length
    · rcases hr with hr | ⟨b, off, rfl, hr⟩
      · simp [hr] at hlt
      have hc := (hr k hlt).1
      clear hr
      cases hp : (l[k].toList == s.toList)
      · go_wp2_with fail
        go_round
        case rel => exact ⟨k + 1, by omega, by go_num, fun j hj hl => by
          rcases Nat.lt_or_ge j k with h | h
          · exact hall.out j h hl
          · obtain rfl : j = k := by omega
            exact hp⟩
        case measure => simp [intOf]; omega
      · go_wp2_with fail
        go_ret
        exact ⟨ret_bool (by rw [hasS, eq_comm, List.any_eq_true]; exact ⟨_, List.getElem_mem hlt, hp⟩), rfl⟩
    · go_wp2_with fail
      go_ret
      exact ⟨ret_bool (by rw [hasS, eq_comm, List.any_eq_false]; intro x hx; obtain ⟨j, hj, rfl⟩ := List.getElem_of_mem hx; rw [hall.out j (by omega) hj]; simp), rfl⟩

def wordL : List Str := [⟨#[99, 97, 115, 101]⟩, ⟨#[111, 102]⟩, ⟨#[108, 101, 116]⟩, ⟨#[105, 110]⟩, ⟨#[100, 111]⟩, ⟨#[100, 111, 115]⟩, ⟨#[105, 102]⟩, ⟨#[116, 104, 101, 110]⟩, ⟨#[101, 108, 115, 101]⟩, ⟨#[100, 97, 116, 97]⟩]
theorem hasS_wordL (s : Str) : hasS wordL s = wordB s := by
  simp only [hasS, wordL, wordB, List.any_cons, List.any_nil, List.contains_cons, List.contains_nil, ByteArray.toList_eq]
  simp only [BEq.comm (b := s.data.toList)]

theorem strRow_new (w : World) (l : List Str) (t : TypeId) (h : ∀ s ∈ l, s.size ≤ lenMax) : StrRow (w.alloc (.cells (l.map Value.string).toArray t)) (some ⟨w.heap.size, 0, none⟩) l := by
  refine .inr ⟨_, _, rfl, fun i hi => ⟨?_, h _ (List.getElem_mem hi)⟩⟩
  rw [World.cell?_alloc_at _ _ _ _ rfl]
  simp [hi]

set_option maxHeartbeats 400000 in
theorem r02_words (w : World) : Calls Tryd.prog 40 #[] w fun r w' => r = .returned (.slice (some ⟨w.heap.size, 0, none⟩) wordL.length wordL.length) ∧ Below w.heap.size w w' ∧ StrRow w' (some ⟨w.heap.size, 0, none⟩) wordL := by
  go_enter Tryd.func40, Tryd.ntmps40
  go_wp2
  go_ret
  exact ⟨rfl, (Below.refl _ _).alloc (Nat.le_refl _) _, strRow_new w wordL _ (by decide)⟩

set_option maxHeartbeats 400000 in
theorem r02_Name (s : Str) (w : World) : Calls Tryd.prog 22 #[.string s] w fun r w' => r = .returned (.bool (nameB s)) ∧ Below w.heap.size w w' := by
  cases h1 : fitB s
  · go_enter Tryd.func22, Tryd.ntmps22
    go_wp2_with (go_at_call 42; refine (r02_parts _ _).mono ?_; rintro e w1 ⟨rfl, rfl⟩)
    go_ret
    exact ⟨ret_bool (by simp [nameB, h1]), Below.refl _ _⟩
  · have hp := fitB_pos h1
    have hh := Lib.hid (str_head hp)
    cases h2 : smlB s[0] <;> cases h3 : wordB s
    all_goals have h4 := Lib.hid ((hasS_wordL s).trans h3)
    all_goals go_enter Tryd.func22, Tryd.ntmps22
    all_goals go_wp2_with (first | (go_at_call 42; refine (r02_parts _ _).mono ?_; rintro e w1 ⟨rfl, rfl⟩) | (go_at_call 43; refine (r02_small _ _).mono ?_; rintro e w' ⟨rfl, rfl⟩) | (go_at_call 40; refine (r02_words _).mono ?_; rintro e w1 ⟨rfl, hB, hR⟩) | (go_at_call 39; refine (r02_in _ wordL _ _ _ (by decide) (by assumption)).mono ?_; rintro e w' ⟨rfl, rfl⟩; rw [h4.out]))
    all_goals go_ret
    all_goals exact ⟨ret_bool (by simp [nameB, h1, hh.out, h2, h3]), by first | assumption | exact Below.refl _ _⟩

set_option maxHeartbeats 400000 in
theorem r02_Con (s : Str) (w : World) : Calls Tryd.prog 23 #[.string s] w fun r w' => r = .returned (.bool (conB s)) ∧ Below w.heap.size w w' := by
  cases h1 : fitB s
  · go_enter Tryd.func23, Tryd.ntmps23
    go_wp2_with (go_at_call 42; refine (r02_parts _ _).mono ?_; rintro e w1 ⟨rfl, rfl⟩)
    go_ret
    exact ⟨ret_bool (by simp [conB, h1]), Below.refl _ _⟩
  · have hp := fitB_pos h1
    have hh := Lib.hid (str_head hp)
    cases h2 : grtB s[0]
    all_goals go_enter Tryd.func23, Tryd.ntmps23
    all_goals go_wp2_with (first | (go_at_call 42; refine (r02_parts _ _).mono ?_; rintro e w1 ⟨rfl, rfl⟩) | (go_at_call 44; refine (r02_great _ _).mono ?_; rintro e w' ⟨rfl, rfl⟩))
    all_goals go_ret
    all_goals exact ⟨ret_bool (by simp [conB, h1, hh.out, h2]), Below.refl _ _⟩

end Go.Proofs.YtchdfjihflmloaaDoor
