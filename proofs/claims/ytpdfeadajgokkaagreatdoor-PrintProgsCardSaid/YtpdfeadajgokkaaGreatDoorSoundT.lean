/- The reference's 'ways', 'block', 'Sound' and 'Check'. -/
import Derived.Test.YtpdfeadajgokkaaGreatDoorSoundS
namespace Go.Proofs.YtpdfeadajgokkaaGreatDoor
open Go.RowKit

def isK (k j : Int) : Bool := k == j
def waysB (snd : Ex → Bool) (ks : List Ex) : Bool :=
  decide (2 ≤ ks.length) && (ks.head?.all fun e => !(e.kind == 8 || e.kind == 13)) && ((ks.drop 1).all fun e => e.kind == 8) && ks.all fun e => snd e && mayK e.kind 8
def blockB (snd : Ex → Bool) (ks : List Ex) : Bool :=
  decide (ks.length ≠ 0) && (ks.getLast?.all fun e => !(e.kind == 13)) && ks.all fun e => snd e && mayK e.kind 13

set_option maxHeartbeats 1600000 in
theorem r04_ways (snd : Ex → Bool) (k : Int) (s : Str) (n : Int) (a1 a2 : Option Addr) (c1 c2 m1 : Nat) (ks : List Ex) (w : World) (hl : ks.length ≤ lenMax) (hr : ExRow w a2 ks)
    (ih : ∀ e ∈ ks, ∀ v w, IsEx w v e → Calls Tryz.prog 37 #[v] w fun r w' => r = .returned (.bool (snd e)) ∧ Below w.heap.size w w') :
    Calls Tryz.prog 69 #[.agg #[.int .i64 k, .string s, .int .i64 n, .slice a1 m1 c1, .slice a2 ks.length c2]] w fun r w' => r = .returned (.bool (waysB snd ks)) ∧ Below w.heap.size w w' := by
  have hB0 : Below (w.heap.size + 1) (w.alloc (.cells #[.int .i64 k, .string s, .int .i64 n, .slice a1 m1 c1, .slice a2 ks.length c2] 40)) (w.alloc (.cells #[.int .i64 k, .string s, .int .i64 n, .slice a1 m1 c1, .slice a2 ks.length c2] 40)) := Below.refl _ _
  have hl0 := hl
  unfold lenMax at hl
  by_cases h2 : (ks.length : Int) < 2
  · go_enter Tryz.func69, Tryz.ntmps69
    go_wp2_with fail
    go_ret
    exact ⟨ret_bool (by rw [waysB, decide_eq_false (by omega)]; rfl), below_box hB0⟩
  have hl2 : 2 ≤ ks.length := by omega
  obtain ⟨b, off, rfl, hkid⟩ := (hr.keeps (keeps_box hB0)).kid (by rintro rfl; simp at hl2)
  obtain ⟨x1, y1, x2, y2, g0, -⟩ := hkid 0 (by omega)
  have hh : ks.head? = some ks[0] := by cases ks with | nil => simp at hl2 | cons => rfl
  have hh' := Lib.hid hh
  have hkid' := Lib.hid hkid
  clear hh hkid
  generalize hk0 : ks[0].kind = k0 at g0
  have hk0' := Lib.hid hk0
  clear hk0
  simp only [Nat.zero_mul, Nat.add_zero] at g0
  rcases show (k0 = 8 ∨ k0 = 13) ∨ ((k0 == 8) = false ∧ (k0 == 13) = false) by simp only [beq_eq_false_iff_ne]; omega with h813 | ⟨h8, h13⟩
  · have hx : Hid (waysB snd ks = false) := by
      unfold Hid
      rw [waysB, hh'.out, Option.all_some, hk0'.out]
      rcases h813 with rfl | rfl <;> simp
    rcases h813 with rfl | rfl
    all_goals go_enter Tryz.func69, Tryz.ntmps69
    all_goals go_wp2_with fail
    all_goals go_ret
    all_goals exact ⟨ret_bool hx.out.symm, below_box hB0⟩
  go_enter Tryz.func69, Tryz.ntmps69
  go_wp2_with fail
  go_loop [3] (fun i => ∃ j : Nat, 1 ≤ j ∧ j ≤ ks.length ∧ i = .int .i64 j ∧ Hid (∀ x (hx : x < j) (h0 : 1 ≤ x) (hl : x < ks.length), (ks[x].kind == 8) = true)) (fun i => ks.length - (intOf i).toNat)
  case atStart => exact ⟨1, by omega, by omega, rfl, fun x hx h0 => by omega⟩
  case round =>
    obtain ⟨j, hj1, hj, rfl, hall⟩ := hrel
    by_cases h1 : j < ks.length
    · obtain ⟨x1, y1, x2, y2, g0', -⟩ := hkid'.out j h1
      cases h3 : (ks[j].kind == 8)
      · have h4 : (ks[j].kind != 8) = true := by rw [bne, h3]; rfl
        go_wp2_with fail
        go_ret
        refine ⟨ret_bool ?_, below_box hB0⟩
        have hx : (ks.drop 1).all (fun e => e.kind == 8) = false := by
          rw [List.all_eq_false]
          refine ⟨ks[j], ?_, by rw [h3]; simp⟩
          rw [List.mem_drop_iff_getElem]
          exact ⟨j - 1, by omega, by congr 1; omega⟩
        rw [waysB, hx, Bool.and_false]; rfl
      · have h4 : (ks[j].kind != 8) = false := by rw [bne, h3]; rfl
        go_wp2_with fail
        go_round
        case rel => exact ⟨j + 1, by omega, by omega, by go_num, fun x hx h0 hl => by
          rcases Nat.lt_or_ge x j with h | h
          · exact hall.out x h h0 hl
          · obtain rfl : x = j := by omega
            exact h3⟩
        case measure => simp [intOf]; omega
    · go_wp2_with fail
      refine (r04_kids snd _ ks _ 8 _ hl0 (hr.keeps (keeps_box hB0)) ih).mono ?_
      rintro e w1 ⟨rfl, hB1⟩
      go_wp2_with fail
      go_ret
      refine ⟨ret_bool ?_, below_box (hB0.trans (hB1.mono (by simp)))⟩
      have hx : (ks.drop 1).all (fun e => e.kind == 8) = true := by
        rw [List.all_eq_true]
        intro x hx
        obtain ⟨i, hi, rfl⟩ := List.mem_drop_iff_getElem.1 hx
        have := hall.out (1 + i) (by omega) (by omega) (by omega)
        exact this
      rw [waysB, hx, hh'.out, Option.all_some, hk0'.out, h8, h13, decide_eq_true hl2]; rfl

set_option maxHeartbeats 1600000 in
theorem r04_block (snd : Ex → Bool) (k : Int) (s : Str) (n : Int) (a1 a2 : Option Addr) (c1 c2 m1 : Nat) (ks : List Ex) (w : World) (hl : ks.length ≤ lenMax) (hr : ExRow w a2 ks)
    (ih : ∀ e ∈ ks, ∀ v w, IsEx w v e → Calls Tryz.prog 37 #[v] w fun r w' => r = .returned (.bool (snd e)) ∧ Below w.heap.size w w') :
    Calls Tryz.prog 70 #[.agg #[.int .i64 k, .string s, .int .i64 n, .slice a1 m1 c1, .slice a2 ks.length c2]] w fun r w' => r = .returned (.bool (blockB snd ks)) ∧ Below w.heap.size w w' := by
  have hB0 : Below (w.heap.size + 1) (w.alloc (.cells #[.int .i64 k, .string s, .int .i64 n, .slice a1 m1 c1, .slice a2 ks.length c2] 40)) (w.alloc (.cells #[.int .i64 k, .string s, .int .i64 n, .slice a1 m1 c1, .slice a2 ks.length c2] 40)) := Below.refl _ _
  have hl0 := hl
  unfold lenMax at hl
  by_cases h2 : ks.length = 0
  · have hn : Hid (ks.length = 0) := h2
    have hn' : ((ks.length : Int) == 0) = true := by rw [h2]; rfl
    clear h2
    go_enter Tryz.func70, Tryz.ntmps70
    go_wp2_with fail
    go_ret
    exact ⟨ret_bool (by rw [blockB, hn.out]; rfl), below_box hB0⟩
  have hn' : ((ks.length : Int) == 0) = false := by rw [beq_eq_false_iff_ne]; omega
  obtain ⟨b, off, rfl, hkid⟩ := (hr.keeps (keeps_box hB0)).kid (by rintro rfl; simp at h2)
  obtain ⟨x1, y1, x2, y2, g0, -⟩ := hkid (ks.length - 1) (by omega)
  have hh : ks.getLast? = some (ks[ks.length - 1]'(by omega)) := by rw [List.getLast?_eq_getElem?, List.getElem?_eq_getElem]
  have hh' := Lib.hid hh
  clear hh hkid
  generalize hk0 : (ks[ks.length - 1]'(by omega)).kind = k0 at g0
  have hk0' := Lib.hid hk0
  clear hk0
  have hi : ((ks.length : Int) - 1).toNat = ks.length - 1 := by omega
  cases h3 : (k0 == 13)
  · go_enter Tryz.func70, Tryz.ntmps70
    go_wp2_with fail
    refine (r04_kids snd _ ks _ 13 _ hl0 (hr.keeps (keeps_box hB0)) ih).mono ?_
    rintro e w1 ⟨rfl, hB1⟩
    go_wp2_with fail
    go_ret
    refine ⟨ret_bool ?_, below_box (hB0.trans (hB1.mono (by simp)))⟩
    rw [blockB, hh'.out, Option.all_some, hk0'.out, h3, decide_eq_true h2]; rfl
  · go_enter Tryz.func70, Tryz.ntmps70
    go_wp2_with fail
    go_ret
    refine ⟨ret_bool ?_, below_box hB0⟩
    rw [blockB, hh'.out, Option.all_some, hk0'.out, h3, decide_eq_true h2]; rfl
end Go.Proofs.YtpdfeadajgokkaaGreatDoor
