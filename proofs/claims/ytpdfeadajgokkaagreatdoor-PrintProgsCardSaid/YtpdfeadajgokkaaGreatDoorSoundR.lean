/- The reference's 'Sound' and 'Check'. -/
import Derived.Test.YtpdfeadajgokkaaGreatDoorShort
import Derived.Test.YtpdfeadajgokkaaGreatDoorLexC
import Derived.Deep.QuietTactic
import Derived.BigQuiet
namespace Go.Proofs.YtpdfeadajgokkaaGreatDoor
open Go.RowKit

def namesB (l : List Str) : Bool := l.all nameB && decide (l.map ByteArray.toList).Nodup

theorem nodup_map_iff (l : List Str) : (l.map ByteArray.toList).Nodup ↔ ∀ i k (hi : i < l.length) (hk : k < i), l[k].toList ≠ l[i].toList := by
  rw [List.Nodup, List.pairwise_iff_getElem]
  constructor
  · intro h i k hi hk
    have := h k i (by simp; omega) (by simpa using hi) hk
    simpa using this
  · intro h k i hk hi hki
    have := h i k (by simpa using hi) hki
    simpa using this

set_option maxHeartbeats 1600000 in
theorem r04_names (a : Option Addr) (l : List Str) (cap : Nat) (many : Int) (w : World) (hl : l.length ≤ lenMax) (hr : StrRow w a l) :
    Calls Tryz.prog 72 #[.slice a l.length cap, .int .i64 many] w fun r w' => r = .returned (.bool ((decide (many < 0) || decide ((l.length : Int) = many)) && namesB l)) ∧ Below w.heap.size w w' := by
  unfold lenMax at hl
  by_cases hm : 0 ≤ many ∧ ¬ (l.length : Int) = many
  · obtain ⟨hm1, hm2⟩ := hm
    have hm3 : ((l.length : Int) != many) = true := by rw [bne_iff_ne]; exact hm2
    go_enter Tryz.func72, Tryz.ntmps72
    go_wp2_with fail
    go_ret
    exact ⟨ret_bool (by rw [decide_eq_false (by omega), decide_eq_false hm2]; rfl), Below.refl _ _⟩
  have hmm : Hid ((decide (many < 0) || decide ((l.length : Int) = many)) = true) := by
    unfold Hid; by_cases h : many < 0
    · simp [h]
    · have : (l.length : Int) = many := by omega
      simp [this]
  have hmx : (0 ≤ many → ((l.length : Int) != many) = false) := by
    intro h; rw [bne_eq_false_iff_eq]; omega
  have key : Calls Tryz.prog 72 #[.slice a l.length cap, .int .i64 many] w fun r w' => r = .returned (.bool (namesB l)) ∧ Below w.heap.size w w' := by
    by_cases hp : 0 ≤ many
    all_goals (try have hq := hmx hp)
    all_goals clear hmx hm hmm
    all_goals go_enter Tryz.func72, Tryz.ntmps72
    all_goals go_wp2_with fail
    all_goals go_loopw [5, 6, 7] (fun i _ _ wr => ∃ k : Nat, k ≤ l.length ∧ i = .int .i64 k ∧ Hid (∀ j (hj : j < k) (hl : j < l.length), nameB l[j] = true ∧ ∀ m (hm : m < j), l[m].toList ≠ l[j].toList) ∧ Below w.heap.size w wr) (fun i _ _ _ => l.length - (intOf i).toNat)
    all_goals first | exact ⟨0, by omega, rfl, fun j hj => by omega, Below.refl _ _⟩ | skip
    all_goals
      obtain ⟨k, hk, rfl, hall, hB⟩ := hrel
      by_cases hlt : k < l.length
      · rcases hr.keeps (Keeps.of_below hB) with hr' | ⟨b, off, rfl, hr'⟩
        · simp [hr'] at hlt
        have hc := (hr' k hlt).1
        cases h1 : nameB l[k]
        · clear hr'
          go_wp2_with fail
          refine (r02_Name _ _).mono ?_
          rintro e w1 ⟨rfl, hB1⟩
          go_wp2_with fail
          go_ret
          refine ⟨ret_bool ?_, hB.trans (hB1.mono hB.size)⟩
          have hx : l.all nameB = false := by
            rw [List.all_eq_false]
            exact ⟨_, List.getElem_mem hlt, by rw [h1]; simp⟩
          rw [namesB, hx]; rfl
        · have hr1 := Lib.hid hr'
          clear hr'
          go_wp2_with fail
          refine (r02_Name _ _).mono ?_
          rintro e w1 ⟨rfl, hB1⟩
          have hrr := fun i hi => Keeps.of_below hB1 _ _ (hr1.out i hi).1
          clear hc hr1
          have hr1 := Lib.hid hrr
          clear hrr
          go_wp2_with fail
          go_loopw [7] (fun m wr2 => ∃ j : Nat, j ≤ k ∧ m = .int .i64 j ∧ Hid (∀ x (hx : x < j) (hl : x < l.length), l[x].toList ≠ l[k].toList) ∧ Below w1.heap.size w1 wr2) (fun m _ => k - (intOf m).toNat)
          case atStart => exact ⟨0, by omega, rfl, fun x hx => by omega, Below.refl _ _⟩
          case round =>
            obtain ⟨j, hj, rfl, hall2, hB2⟩ := hrel
            by_cases hlt2 : j < k
            · have hlj : j < l.length := by omega
              have c1 := Keeps.of_below hB2 _ _ (hr1.out k hlt)
              have c2 := Keeps.of_below hB2 _ _ (hr1.out j hlj)
              cases h2 : (l[j].toList == l[k].toList)
              · go_wp2_with fail
                go_quiet (fail)
                go_wp2_with fail
                go_roundw
                case rel => exact ⟨j + 1, by omega, by go_num, fun x hx hl => by
                  rcases Nat.lt_or_ge x j with h | h
                  · exact hall2.out x h hl
                  · obtain rfl : x = j := by omega
                    exact beq_eq_false_iff_ne.1 h2, below_drewN hB2 _⟩
                case measure => simp [intOf]; omega
              · go_wp2_with fail
                go_quiet (fail)
                go_wp2_with fail
                go_ret
                refine ⟨ret_bool ?_, below_drewN (hB.trans ((hB1.trans (hB2.mono hB1.size)).mono hB.size)) _⟩
                have hy : ¬ (l.map ByteArray.toList).Nodup := fun h => (nodup_map_iff l).1 h k j hlt hlt2 (by simpa using h2)
                rw [namesB, decide_eq_false hy, Bool.and_false]
            · go_wp2_with fail
              go_roundw
              case rel => exact ⟨k + 1, by omega, by go_num, fun x hx hl => by
                  rcases Nat.lt_or_ge x k with h | h
                  · exact hall.out x h hl
                  · obtain rfl : x = k := by omega
                    exact ⟨h1, fun m hm => hall2.out m (by omega) (by omega)⟩, hB.trans ((hB1.trans (hB2.mono hB1.size)).mono hB.size)⟩
              case measure => simp [intOf]; omega
      · go_wp2_with fail
        go_ret
        refine ⟨ret_bool ?_, hB⟩
        have hx : l.all nameB = true := by
          rw [List.all_eq_true]
          intro x hx
          obtain ⟨j, hj, rfl⟩ := List.getElem_of_mem hx
          exact (hall.out j (by omega) hj).1
        have hy : (l.map ByteArray.toList).Nodup := (nodup_map_iff l).2 fun i k hi hk => (hall.out i (by omega) hi).2 k hk
        rw [namesB, hx, decide_eq_true hy]; rfl
  refine key.mono fun r w' ⟨h1, h2⟩ => ⟨?_, h2⟩
  rw [h1, hmm.out]; rfl

theorem kind_cases (k : Int) : k = 1 ∨ k = 2 ∨ k = 3 ∨ k = 4 ∨ k = 5 ∨ k = 6 ∨ k = 7 ∨ k = 8 ∨ k = 9 ∨ k = 10 ∨ k = 11 ∨ k = 12 ∨ k = 13 ∨ (k < 1 ∨ 13 < k) := by omega
theorem kind_other {k : Int} (h : k < 1 ∨ 13 < k) : (k == 1) = false ∧ (k == 2) = false ∧ (k == 3) = false ∧ (k == 4) = false ∧ (k == 5) = false ∧ (k == 6) = false ∧ (k == 7) = false ∧ (k == 8) = false ∧ (k == 9) = false ∧ (k == 10) = false ∧ (k == 11) = false ∧ (k == 12) = false ∧ (k == 13) = false := by
  simp only [beq_eq_false_iff_ne]; omega

def namedK (k : Int) : Bool := k == 2 || k == 3 || k == 8 || k == 9
def boundK (k : Int) : Bool := k == 4 || k == 6 || k == 8 || k == 13
def plainB (k : Int) (s : Str) (n : Int) (l : List Str) : Bool := (namedK k || s.toList.isEmpty) && (k == 1 || n == 0) && (boundK k || ((l.length : Int) == 0))

set_option maxHeartbeats 1600000 in
theorem r04_plain (k : Int) (s : Str) (n : Int) (a1 a2 : Option Addr) (c1 c2 m2 : Nat) (l : List Str) (w : World) (hl : l.length ≤ lenMax) :
    Calls Tryz.prog 67 #[.agg #[.int .i64 k, .string s, .int .i64 n, .slice a1 l.length c1, .slice a2 m2 c2]] w fun r w' => r = .returned (.bool (plainB k s n l)) ∧ Below w.heap.size w w' := by
  unfold lenMax at hl
  rcases kind_cases k with rfl | rfl | rfl | rfl | rfl | rfl | rfl | rfl | rfl | rfl | rfl | rfl | rfl | h
  case' inr.inr.inr.inr.inr.inr.inr.inr.inr.inr.inr.inr.inr => obtain ⟨h1, h2, h3, h4, h5, h6, h7, h8, h9, h10, h11, h12, h13⟩ := kind_other h; clear h
  all_goals go_enter Tryz.func67, Tryz.ntmps67
  all_goals go_wp2_with fail
  all_goals go_ret
  all_goals refine ⟨ret_bool ?_, (Below.refl _ _).alloc (Nat.le_refl _) _⟩
  all_goals simp [plainB, namedK, boundK, *]
end Go.Proofs.YtpdfeadajgokkaaGreatDoor
