/- The program's 'named', 'below'. -/
import Derived.Test.YtpdfeadajgokkaaGreatDoorTreeA
import Derived.Test.YtpdfeadajgokkaaGreatDoorTreeB
namespace Go.Proofs.YtpdfeadajgokkaaGreatDoor
open Go.RowKit

set_option maxHeartbeats 1600000 in
theorem tree_named (k : Int) (s : Str) (n : Int) (a1 a2 : Option Addr) (c1 c2 m1 m2 : Nat) (w : World) :
    Calls Tryz.prog 97 #[.agg #[.int .i64 k, .string s, .int .i64 n, .slice a1 m1 c1, .slice a2 m2 c2]] w fun r w' => r = .returned (.bool (namedB k s)) ∧ Below w.heap.size w w' := by
  have hB0 : Below (w.heap.size + 1) (w.alloc (.cells #[.int .i64 k, .string s, .int .i64 n, .slice a1 m1 c1, .slice a2 m2 c2] 40)) (w.alloc (.cells #[.int .i64 k, .string s, .int .i64 n, .slice a1 m1 c1, .slice a2 m2 c2] 40)) := Below.refl _ _
  by_cases h2 : k = 2
  · subst h2
    go_enter Tryz.func97, Tryz.ntmps97
    go_wp2_with fail
    refine (lex_Name _ _).mono ?_
    rintro e w1 ⟨rfl, hB⟩
    go_wp2_with fail
    go_ret
    exact ⟨ret_bool rfl, below_box (hB0.trans (hB.mono (by simp)))⟩
  by_cases h38 : k = 3 ∨ k = 8
  · have hx : Hid (namedB k s = conB s) := by unfold Hid; rw [namedB, if_neg h2, if_pos h38]
    rcases h38 with rfl | rfl
    all_goals go_enter Tryz.func97, Tryz.ntmps97
    all_goals go_wp2_with fail
    all_goals refine (lex_Con _ _).mono ?_
    all_goals rintro e w1 ⟨rfl, hB⟩
    all_goals go_wp2_with fail
    all_goals go_ret
    all_goals exact ⟨ret_bool hx.out.symm, below_box (hB0.trans (hB.mono (by simp)))⟩
  by_cases h9 : k = 9
  · subst h9
    cases hd : doesB s
    all_goals have hd' := Lib.hid hd
    all_goals clear hd
    all_goals go_enter Tryz.func97, Tryz.ntmps97
    all_goals go_wp2_with fail
    all_goals refine (num_Is _ _).mono ?_
    all_goals rintro e w1 ⟨rfl, rfl⟩
    all_goals rw [hd'.out]
    all_goals go_wp2_with fail
    all_goals go_ret
    all_goals exact ⟨ret_bool (by simp [namedB, hd'.out]), below_box hB0⟩
  have hx : Hid (namedB k s = s.toList.isEmpty) := by unfold Hid; rw [namedB, if_neg h2, if_neg h38, if_neg h9]
  have e2 : (k == 2) = false := by rw [beq_eq_false_iff_ne]; exact h2
  have e3 : (k == 3) = false := by rw [beq_eq_false_iff_ne]; omega
  have e8 : (k == 8) = false := by rw [beq_eq_false_iff_ne]; omega
  have e9 : (k == 9) = false := by rw [beq_eq_false_iff_ne]; exact h9
  clear h2 h38 h9
  go_enter Tryz.func97, Tryz.ntmps97
  go_wp2_with fail
  go_ret
  exact ⟨ret_bool hx.out.symm, below_box hB0⟩

set_option maxHeartbeats 3200000 in
theorem tree_below_other (k : Int) (s : Str) (n : Int) (a1 a2 : Option Addr) (c1 c2 m1 : Nat) (ks : List Ex) (w : World) (h7 : (k == 7) = false) (h11 : (k == 11) = false) (h12 : (k == 12) = false) (h7' : (k != 7) = true) (hl : ks.length ≤ lenMax) (hr : ExRow w a2 ks) :
    Calls Tryz.prog 98 #[.agg #[.int .i64 k, .string s, .int .i64 n, .slice a1 m1 c1, .slice a2 ks.length c2]] w fun r w' => r = .returned (.bool (belowB k ks)) ∧ Below w.heap.size w w' := by
  unfold lenMax at hl
  have hBad : Hid (∀ j (h : j < ks.length), mayAt k j ks.length ks[j].kind = false → belowB k ks = false) := fun j h hx => by
    rw [belowB, Bool.and_eq_false_iff]; left
    rw [← Bool.not_eq_true, zipIdx_all (p := fun i e => mayAt k i ks.length e.kind)]
    intro hh; rw [hh j h] at hx; cases hx
  have hGood : Hid ((∀ j (h : j < ks.length), mayAt k j ks.length ks[j].kind = true) → belowB k ks = (!(k == 7) || decide (1 < ks.length))) := fun hh => by
    rw [belowB, (zipIdx_all (p := fun i e => mayAt k i ks.length e.kind)).2 hh]; rfl
  go_enter Tryz.func98, Tryz.ntmps98
  go_wp2_with fail
  go_loopw [3, 4, 5, 6, 10] (fun _ _ _ _ i wr => ∃ j : Nat, j ≤ ks.length ∧ i = .int .i64 j ∧ Hid (∀ x (hx : x < j) (hl : x < ks.length), mayAt k x ks.length ks[x].kind = true) ∧ Below (w.heap.size+1) (w.alloc (.cells #[.int .i64 k, .string s, .int .i64 n, .slice a1 m1 c1, .slice a2 ks.length c2] 40)) wr) (fun _ _ _ _ i _ => ks.length - (intOf i).toNat)
  case atStart => exact ⟨0, by omega, rfl, fun x hx => by omega, Below.refl _ _⟩
  case round =>
    obtain ⟨j, hj, rfl, hall, hB⟩ := hrel
    obtain ⟨b0, b1, b2, b3, b4⟩ := box5 hB
    have hz := size_box hB
    have hzz : w.heap.size < wr.heap.size := by omega
    by_cases h1 : j < ks.length
    · obtain ⟨b, off, rfl, hkid⟩ := (hr.keeps (keeps_box hB)).kid (by rintro rfl; simp at h1)
      obtain ⟨a1, c1, a2, c2, g0, g1, g2, g3, g4, ge⟩ := hkid j h1
      clear hkid ge
      have bad : Hid (mayAt k j ks.length ks[j].kind = false → belowB k ks = false) := hBad.out j h1
      have good : Hid (mayAt k j ks.length ks[j].kind = true → Hid (∀ x (hx : x < j + 1) (hl : x < ks.length), mayAt k x ks.length ks[x].kind = true)) := fun hx x hxj hl => by
        rcases Nat.lt_or_ge x j with h | h
        · exact hall.out x h hl
        · obtain rfl : x = j := by omega
          exact hx
      generalize ks[j].kind = kk at g0 bad good
      rcases show kk = 8 ∨ kk = 13 ∨ ((kk == 8) = false ∧ (kk == 13) = false) by simp only [beq_eq_false_iff_ne]; omega with rfl | rfl | ⟨hk8, hk13⟩
      · go_wp2_with fail
        go_ret
        exact ⟨ret_bool (Eq.symm (bad.out (by simp [mayAt, h7]))), below_box (hB.alloc hz _)⟩
      · go_wp2_with fail
        go_ret
        exact ⟨ret_bool (Eq.symm (bad.out (by simp [mayAt, h7, h11, h12]))), below_box (hB.alloc hz _)⟩
      · go_wp2_with fail
        go_roundw
        case rel => exact ⟨j + 1, by omega, by go_num, good.out (by simp [mayAt, h7, hk8, hk13]), hB.alloc hz _⟩
        case measure => simp [intOf]; omega
    · have e : j = ks.length := by omega
      have hx := Lib.hid (hGood.out fun x hx => hall.out x (by omega) hx)
      clear e
      go_wp2_with fail
      go_ret
      exact ⟨ret_bool (by rw [hx.out]; rw [h7]; rfl), below_box hB⟩

set_option maxHeartbeats 3200000 in
theorem tree_below_case (s : Str) (n : Int) (a1 a2 : Option Addr) (c1 c2 m1 : Nat) (ks : List Ex) (w : World) (hl : ks.length ≤ lenMax) (hr : ExRow w a2 ks) :
    Calls Tryz.prog 98 #[.agg #[.int .i64 7, .string s, .int .i64 n, .slice a1 m1 c1, .slice a2 ks.length c2]] w fun r w' => r = .returned (.bool (belowB 7 ks)) ∧ Below w.heap.size w w' := by
  unfold lenMax at hl
  have hBad : Hid (∀ j (h : j < ks.length), mayAt 7 j ks.length ks[j].kind = false → belowB 7 ks = false) := fun j h hx => by
    rw [belowB, Bool.and_eq_false_iff]; left
    rw [← Bool.not_eq_true, zipIdx_all (p := fun i e => mayAt 7 i ks.length e.kind)]
    intro hh; rw [hh j h] at hx; cases hx
  have hGood : Hid ((∀ j (h : j < ks.length), mayAt 7 j ks.length ks[j].kind = true) → belowB 7 ks = (!(7 == 7) || decide (1 < ks.length))) := fun hh => by
    rw [belowB, (zipIdx_all (p := fun i e => mayAt 7 i ks.length e.kind)).2 hh]; rfl
  go_enter Tryz.func98, Tryz.ntmps98
  go_wp2_with fail
  go_loopw [3, 4, 5, 6, 10] (fun _ _ _ _ i wr => ∃ j : Nat, j ≤ ks.length ∧ i = .int .i64 j ∧ Hid (∀ x (hx : x < j) (hl : x < ks.length), mayAt 7 x ks.length ks[x].kind = true) ∧ Below (w.heap.size+1) (w.alloc (.cells #[.int .i64 7, .string s, .int .i64 n, .slice a1 m1 c1, .slice a2 ks.length c2] 40)) wr) (fun _ _ _ _ i _ => ks.length - (intOf i).toNat)
  case atStart => exact ⟨0, by omega, rfl, fun x hx => by omega, Below.refl _ _⟩
  case round =>
    obtain ⟨j, hj, rfl, hall, hB⟩ := hrel
    obtain ⟨b0, b1, b2, b3, b4⟩ := box5 hB
    have hz := size_box hB
    have hzz : w.heap.size < wr.heap.size := by omega
    by_cases h1 : j < ks.length
    · obtain ⟨b, off, rfl, hkid⟩ := (hr.keeps (keeps_box hB)).kid (by rintro rfl; simp at h1)
      obtain ⟨a1, c1, a2, c2, g0, g1, g2, g3, g4, ge⟩ := hkid j h1
      clear hkid ge
      have bad : Hid (mayAt 7 j ks.length ks[j].kind = false → belowB 7 ks = false) := hBad.out j h1
      have good : Hid (mayAt 7 j ks.length ks[j].kind = true → Hid (∀ x (hx : x < j + 1) (hl : x < ks.length), mayAt 7 x ks.length ks[x].kind = true)) := fun hx x hxj hl => by
        rcases Nat.lt_or_ge x j with h | h
        · exact hall.out x h hl
        · obtain rfl : x = j := by omega
          exact hx
      generalize ks[j].kind = kk at g0 bad good
      rcases show kk = 8 ∨ kk = 13 ∨ ((kk == 8) = false ∧ (kk == 13) = false) by simp only [beq_eq_false_iff_ne]; omega with rfl | rfl | ⟨hk8, hk13⟩
      · by_cases h0 : 0 < j
        · go_wp2_with fail
          go_roundw
          case rel => exact ⟨j + 1, by omega, by go_num, good.out (by simp [mayAt, h0]), hB.alloc hz _⟩
          case measure => simp [intOf]; omega
        · go_wp2_with fail
          go_ret
          exact ⟨ret_bool (Eq.symm (bad.out (by simp [mayAt, h0]))), below_box (hB.alloc hz _)⟩
      · by_cases h0 : 0 < j
        · go_wp2_with fail
          go_ret
          exact ⟨ret_bool (Eq.symm (bad.out (by simp [mayAt, h0]))), below_box (hB.alloc hz _)⟩
        · go_wp2_with fail
          go_ret
          exact ⟨ret_bool (Eq.symm (bad.out (by simp [mayAt, h0]))), below_box (hB.alloc hz _)⟩
      · by_cases h0 : 0 < j
        · go_wp2_with fail
          go_ret
          exact ⟨ret_bool (Eq.symm (bad.out (by simp [mayAt, h0, hk8, hk13]))), below_box (hB.alloc hz _)⟩
        · go_wp2_with fail
          go_roundw
          case rel => exact ⟨j + 1, by omega, by go_num, good.out (by simp [mayAt, h0, hk8, hk13]), hB.alloc hz _⟩
          case measure => simp [intOf]; omega
    · have e : j = ks.length := by omega
      have hx := Lib.hid (hGood.out fun x hx => hall.out x (by omega) hx)
      clear e
      by_cases h2 : (1 : Int) < ks.length
      · go_wp2_with fail
        go_ret
        exact ⟨ret_bool (by rw [hx.out, decide_eq_true (by omega)]; rfl), below_box hB⟩
      · go_wp2_with fail
        go_ret
        exact ⟨ret_bool (by rw [hx.out, decide_eq_false (by omega)]; rfl), below_box hB⟩

set_option maxHeartbeats 3200000 in
theorem tree_below_do (s : Str) (n : Int) (a1 a2 : Option Addr) (c1 c2 m1 : Nat) (ks : List Ex) (w : World) (hl : ks.length ≤ lenMax) (hr : ExRow w a2 ks) :
    Calls Tryz.prog 98 #[.agg #[.int .i64 11, .string s, .int .i64 n, .slice a1 m1 c1, .slice a2 ks.length c2]] w fun r w' => r = .returned (.bool (belowB 11 ks)) ∧ Below w.heap.size w w' := by
  unfold lenMax at hl
  have hBad : Hid (∀ j (h : j < ks.length), mayAt 11 j ks.length ks[j].kind = false → belowB 11 ks = false) := fun j h hx => by
    rw [belowB, Bool.and_eq_false_iff]; left
    rw [← Bool.not_eq_true, zipIdx_all (p := fun i e => mayAt 11 i ks.length e.kind)]
    intro hh; rw [hh j h] at hx; cases hx
  have hGood : Hid ((∀ j (h : j < ks.length), mayAt 11 j ks.length ks[j].kind = true) → belowB 11 ks = (!(11 == 7) || decide (1 < ks.length))) := fun hh => by
    rw [belowB, (zipIdx_all (p := fun i e => mayAt 11 i ks.length e.kind)).2 hh]; rfl
  go_enter Tryz.func98, Tryz.ntmps98
  go_wp2_with fail
  go_loopw [3, 4, 5, 6, 10] (fun _ _ _ _ i wr => ∃ j : Nat, j ≤ ks.length ∧ i = .int .i64 j ∧ Hid (∀ x (hx : x < j) (hl : x < ks.length), mayAt 11 x ks.length ks[x].kind = true) ∧ Below (w.heap.size+1) (w.alloc (.cells #[.int .i64 11, .string s, .int .i64 n, .slice a1 m1 c1, .slice a2 ks.length c2] 40)) wr) (fun _ _ _ _ i _ => ks.length - (intOf i).toNat)
  case atStart => exact ⟨0, by omega, rfl, fun x hx => by omega, Below.refl _ _⟩
  case round =>
    obtain ⟨j, hj, rfl, hall, hB⟩ := hrel
    obtain ⟨b0, b1, b2, b3, b4⟩ := box5 hB
    have hz := size_box hB
    have hzz : w.heap.size < wr.heap.size := by omega
    by_cases h1 : j < ks.length
    · obtain ⟨b, off, rfl, hkid⟩ := (hr.keeps (keeps_box hB)).kid (by rintro rfl; simp at h1)
      obtain ⟨a1, c1, a2, c2, g0, g1, g2, g3, g4, ge⟩ := hkid j h1
      clear hkid ge
      have bad : Hid (mayAt 11 j ks.length ks[j].kind = false → belowB 11 ks = false) := hBad.out j h1
      have good : Hid (mayAt 11 j ks.length ks[j].kind = true → Hid (∀ x (hx : x < j + 1) (hl : x < ks.length), mayAt 11 x ks.length ks[x].kind = true)) := fun hx x hxj hl => by
        rcases Nat.lt_or_ge x j with h | h
        · exact hall.out x h hl
        · obtain rfl : x = j := by omega
          exact hx
      generalize ks[j].kind = kk at g0 bad good
      rcases show kk = 8 ∨ kk = 13 ∨ ((kk == 8) = false ∧ (kk == 13) = false) by simp only [beq_eq_false_iff_ne]; omega with rfl | rfl | ⟨hk8, hk13⟩
      · go_wp2_with fail
        go_ret
        exact ⟨ret_bool (Eq.symm (bad.out (by simp [mayAt]))), below_box (hB.alloc hz _)⟩
      · by_cases h0 : (j : Int) < (ks.length : Int) - 1
        · have h0' : j + 1 < ks.length := by omega
          go_wp2_with fail
          go_roundw
          case rel => exact ⟨j + 1, by omega, by go_num, good.out (by simp [mayAt, h0']), hB.alloc hz _⟩
          case measure => simp [intOf]; omega
        · have h0' : ¬ j + 1 < ks.length := by omega
          go_wp2_with fail
          go_ret
          exact ⟨ret_bool (Eq.symm (bad.out (by simp [mayAt, h0']))), below_box (hB.alloc hz _)⟩
      · by_cases h0 : (j : Int) < (ks.length : Int) - 1
        · go_wp2_with fail
          go_roundw
          case rel => exact ⟨j + 1, by omega, by go_num, good.out (by simp [mayAt, hk8, hk13]), hB.alloc hz _⟩
          case measure => simp [intOf]; omega
        · go_wp2_with fail
          go_roundw
          case rel => exact ⟨j + 1, by omega, by go_num, good.out (by simp [mayAt, hk8, hk13]), hB.alloc hz _⟩
          case measure => simp [intOf]; omega
    · have e : j = ks.length := by omega
      have hx := Lib.hid (hGood.out fun x hx => hall.out x (by omega) hx)
      clear e
      go_wp2_with fail
      go_ret
      exact ⟨ret_bool (by rw [hx.out]; rfl), below_box hB⟩

set_option maxHeartbeats 3200000 in
theorem tree_below_dos (s : Str) (n : Int) (a1 a2 : Option Addr) (c1 c2 m1 : Nat) (ks : List Ex) (w : World) (hl : ks.length ≤ lenMax) (hr : ExRow w a2 ks) :
    Calls Tryz.prog 98 #[.agg #[.int .i64 12, .string s, .int .i64 n, .slice a1 m1 c1, .slice a2 ks.length c2]] w fun r w' => r = .returned (.bool (belowB 12 ks)) ∧ Below w.heap.size w w' := by
  unfold lenMax at hl
  have hBad : Hid (∀ j (h : j < ks.length), mayAt 12 j ks.length ks[j].kind = false → belowB 12 ks = false) := fun j h hx => by
    rw [belowB, Bool.and_eq_false_iff]; left
    rw [← Bool.not_eq_true, zipIdx_all (p := fun i e => mayAt 12 i ks.length e.kind)]
    intro hh; rw [hh j h] at hx; cases hx
  have hGood : Hid ((∀ j (h : j < ks.length), mayAt 12 j ks.length ks[j].kind = true) → belowB 12 ks = (!(12 == 7) || decide (1 < ks.length))) := fun hh => by
    rw [belowB, (zipIdx_all (p := fun i e => mayAt 12 i ks.length e.kind)).2 hh]; rfl
  go_enter Tryz.func98, Tryz.ntmps98
  go_wp2_with fail
  go_loopw [3, 4, 5, 6, 10] (fun _ _ _ _ i wr => ∃ j : Nat, j ≤ ks.length ∧ i = .int .i64 j ∧ Hid (∀ x (hx : x < j) (hl : x < ks.length), mayAt 12 x ks.length ks[x].kind = true) ∧ Below (w.heap.size+1) (w.alloc (.cells #[.int .i64 12, .string s, .int .i64 n, .slice a1 m1 c1, .slice a2 ks.length c2] 40)) wr) (fun _ _ _ _ i _ => ks.length - (intOf i).toNat)
  case atStart => exact ⟨0, by omega, rfl, fun x hx => by omega, Below.refl _ _⟩
  case round =>
    obtain ⟨j, hj, rfl, hall, hB⟩ := hrel
    obtain ⟨b0, b1, b2, b3, b4⟩ := box5 hB
    have hz := size_box hB
    have hzz : w.heap.size < wr.heap.size := by omega
    by_cases h1 : j < ks.length
    · obtain ⟨b, off, rfl, hkid⟩ := (hr.keeps (keeps_box hB)).kid (by rintro rfl; simp at h1)
      obtain ⟨a1, c1, a2, c2, g0, g1, g2, g3, g4, ge⟩ := hkid j h1
      clear hkid ge
      have bad : Hid (mayAt 12 j ks.length ks[j].kind = false → belowB 12 ks = false) := hBad.out j h1
      have good : Hid (mayAt 12 j ks.length ks[j].kind = true → Hid (∀ x (hx : x < j + 1) (hl : x < ks.length), mayAt 12 x ks.length ks[x].kind = true)) := fun hx x hxj hl => by
        rcases Nat.lt_or_ge x j with h | h
        · exact hall.out x h hl
        · obtain rfl : x = j := by omega
          exact hx
      generalize ks[j].kind = kk at g0 bad good
      rcases show kk = 8 ∨ kk = 13 ∨ ((kk == 8) = false ∧ (kk == 13) = false) by simp only [beq_eq_false_iff_ne]; omega with rfl | rfl | ⟨hk8, hk13⟩
      · go_wp2_with fail
        go_ret
        exact ⟨ret_bool (Eq.symm (bad.out (by simp [mayAt]))), below_box (hB.alloc hz _)⟩
      · by_cases h0 : (j : Int) < (ks.length : Int) - 1
        · have h0' : j + 1 < ks.length := by omega
          go_wp2_with fail
          go_roundw
          case rel => exact ⟨j + 1, by omega, by go_num, good.out (by simp [mayAt, h0']), hB.alloc hz _⟩
          case measure => simp [intOf]; omega
        · have h0' : ¬ j + 1 < ks.length := by omega
          go_wp2_with fail
          go_ret
          exact ⟨ret_bool (Eq.symm (bad.out (by simp [mayAt, h0']))), below_box (hB.alloc hz _)⟩
      · by_cases h0 : (j : Int) < (ks.length : Int) - 1
        · go_wp2_with fail
          go_roundw
          case rel => exact ⟨j + 1, by omega, by go_num, good.out (by simp [mayAt, hk8, hk13]), hB.alloc hz _⟩
          case measure => simp [intOf]; omega
        · go_wp2_with fail
          go_roundw
          case rel => exact ⟨j + 1, by omega, by go_num, good.out (by simp [mayAt, hk8, hk13]), hB.alloc hz _⟩
          case measure => simp [intOf]; omega
    · have e : j = ks.length := by omega
      have hx := Lib.hid (hGood.out fun x hx => hall.out x (by omega) hx)
      clear e
      go_wp2_with fail
      go_ret
      exact ⟨ret_bool (by rw [hx.out]; rfl), below_box hB⟩

theorem tree_below (k : Int) (s : Str) (n : Int) (a1 a2 : Option Addr) (c1 c2 m1 : Nat) (ks : List Ex) (w : World) (hl : ks.length ≤ lenMax) (hr : ExRow w a2 ks) :
    Calls Tryz.prog 98 #[.agg #[.int .i64 k, .string s, .int .i64 n, .slice a1 m1 c1, .slice a2 ks.length c2]] w fun r w' => r = .returned (.bool (belowB k ks)) ∧ Below w.heap.size w w' := by
  rcases show k = 7 ∨ k = 11 ∨ k = 12 ∨ ((k == 7) = false ∧ (k == 11) = false ∧ (k == 12) = false ∧ (k != 7) = true) by simp only [beq_eq_false_iff_ne, bne_iff_ne]; omega with rfl | rfl | rfl | ⟨h7, h11, h12, h7'⟩
  · exact tree_below_case s n a1 a2 c1 c2 m1 ks w hl hr
  · exact tree_below_do s n a1 a2 c1 c2 m1 ks w hl hr
  · exact tree_below_dos s n a1 a2 c1 c2 m1 ks w hl hr
  · exact tree_below_other k s n a1 a2 c1 c2 m1 ks w h7 h11 h12 h7' hl hr
end Go.Proofs.YtpdfeadajgokkaaGreatDoor
