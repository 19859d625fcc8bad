/- How many parts a tree has, and how deep it is, by the program and by the reference. -/
import Derived.Test.YtpdfeadajgokkaaGreatDoorBase
import Derived.Test.YtpdfeadajgokkaaGreatDoorProg
namespace Go.Proofs.YtpdfeadajgokkaaGreatDoor
open Go.RowKit

set_option maxHeartbeats 400000 in
theorem r04_size : ∀ (e : Ex) (v : Value) (most : Int) (w : World), IsEx w v e → 0 ≤ most → most ≤ 1000000 →
    Calls Tryz.prog 30 #[v, .int .i64 most] w fun r w' => r = .returned (.int .i64 (min (cnt e : Int) (most + 1))) ∧ Below w.heap.size w w' := by
  refine Ex.ind fun kd s nm ls ks ih v most w hv h0 hmm => ?_
  obtain ⟨a1, c1, a2, c2, rfl, _, _, hs, hls, hks, hl, hr⟩ := hv.open
  unfold lenMax at hks
  go_enter Tryz.func30, Tryz.ntmps30
  go_wp2_with fail
  go_loopw [5, 6] (fun n i wr => ∃ (k : Nat) (m : Int), k ≤ ks.length ∧ i = .int .i64 k ∧ n = .int .i64 m ∧ 1 ≤ m ∧ m ≤ most + 1 ∧ Hid (m = min (1 + cnt.cntL (ks.take k) : Int) (most + 1)) ∧ Below (w.heap.size+1) (w.alloc (.cells #[.int .i64 kd, .string s, .int .i64 nm, .slice a1 ls.length c1, .slice a2 ks.length c2] 40)) wr) (fun _ i _ => ks.length - (intOf i).toNat)
  case atStart => exact ⟨0, 1, by omega, rfl, rfl, by omega, by omega, by unfold Hid; simp [cnt.cntL]; omega, Below.refl _ _⟩
  case round =>
    obtain ⟨k, m, hk, rfl, rfl, hm1, hm2, hm, hB⟩ := hrel
    obtain ⟨b0, b1, b2, b3, b4⟩ := box5 hB
    have hz := size_box hB
    by_cases h1 : k < ks.length
    · by_cases h2 : m ≤ most
      · obtain ⟨b, off, rfl, hkid⟩ := (hr.keeps (keeps_box hB)).kid (by rintro rfl; simp at h1)
        obtain ⟨a1, c1, a2, c2, g0, g1, g2, g3, g4, ge⟩ := hkid k h1
        go_wp2_with fail
        refine (ih _ (List.getElem_mem h1) _ _ _ ge (by omega) (by omega)).mono ?_
        rintro e w1 ⟨rfl, hB1⟩
        go_wp2_with fail
        go_roundw
        case rel => exact ⟨k + 1, _, by omega, by go_num, rfl, by omega, by omega, by have := hm.out; unfold Hid; rw [cntL_take_succ _ _ h1]; omega, hB.trans (hB1.mono hz)⟩
        case measure => simp [intOf]; omega
      · have e : m = most + 1 := by omega
        have e' := Lib.hid e
        clear e
        go_wp2_with fail
        go_ret
        have := hm.out
        refine ⟨ret_int ?_, below_box hB⟩
        have h3 := cntL_take_le ks k
        have := e'.out
        simp only [cnt]; omega
    · have e : k = ks.length := by omega
      have e' := Lib.hid e
      clear e
      go_wp2_with fail
      go_ret
      have := hm.out
      rw [e'.out, List.take_length] at this
      refine ⟨ret_int ?_, below_box hB⟩
      simp only [cnt]; omega

set_option maxHeartbeats 400000 in
theorem tree_size : ∀ (e : Ex) (v : Value) (most : Int) (w : World), IsEx w v e → 0 ≤ most → most ≤ 1000000 →
    Calls Tryz.prog 61 #[v, .int .i64 most] w fun r w' => r = .returned (.int .i64 (min (cnt e : Int) (most + 1))) ∧ Below w.heap.size w w' := by
  refine Ex.ind fun kd s nm ls ks ih v most w hv h0 hmm => ?_
  obtain ⟨a1, c1, a2, c2, rfl, _, _, hs, hls, hks, hl, hr⟩ := hv.open
  unfold lenMax at hks
  go_enter Tryz.func61, Tryz.ntmps61
  go_wp2_with fail
  go_loopw [5, 11] (fun n i wr => ∃ (k : Nat) (m : Int), k ≤ ks.length ∧ i = .int .i64 k ∧ n = .int .i64 m ∧ 1 ≤ m ∧ m ≤ most + 1 ∧ Hid (m = min (1 + cnt.cntL (ks.take k) : Int) (most + 1)) ∧ Below (w.heap.size+1) (w.alloc (.cells #[.int .i64 kd, .string s, .int .i64 nm, .slice a1 ls.length c1, .slice a2 ks.length c2] 40)) wr) (fun _ i _ => ks.length - (intOf i).toNat)
  case atStart => exact ⟨0, 1, by omega, rfl, rfl, by omega, by omega, by unfold Hid; simp [cnt.cntL]; omega, Below.refl _ _⟩
  case round =>
    obtain ⟨k, m, hk, rfl, rfl, hm1, hm2, hm, hB⟩ := hrel
    have hz := size_box hB
    by_cases h1 : k < ks.length
    · obtain ⟨b, off, rfl, hkid⟩ := (hr.keeps (keeps_box hB)).kid (by rintro rfl; simp at h1)
      obtain ⟨a1, c1, a2, c2, g0, g1, g2, g3, g4, ge⟩ := hkid k h1
      by_cases h2 : m ≤ most
      · go_wp2_with fail
        refine (ih _ (List.getElem_mem h1) _ _ _ (ge.keeps (Keeps.of_below ((Below.refl _ _).alloc (Nat.le_refl _) _))) (by omega) (by omega)).mono ?_
        rintro e w1 ⟨rfl, hB1⟩
        go_wp2_with fail
        go_roundw
        case rel => exact ⟨k + 1, _, by omega, by go_num, rfl, by omega, by omega, by have := hm.out; unfold Hid; rw [cntL_take_succ _ _ h1]; omega, (hB.alloc hz _).trans (hB1.mono (by simp; omega))⟩
        case measure => simp [intOf]; omega
      · have e : m = most + 1 := by omega
        have e' := Lib.hid e
        clear e
        go_wp2_with fail
        go_ret
        have := hm.out
        refine ⟨ret_int ?_, below_box (hB.alloc hz _)⟩
        have h3 := cntL_take_le ks k
        have := e'.out
        simp only [cnt]; omega
    · have e : k = ks.length := by omega
      have e' := Lib.hid e
      clear e
      go_wp2_with fail
      go_ret
      have := hm.out
      rw [e'.out, List.take_length] at this
      refine ⟨ret_int ?_, below_box hB⟩
      simp only [cnt]; omega

set_option maxHeartbeats 400000 in
theorem r04_Depth : ∀ (e : Ex) (v : Value) (most : Int) (w : World), IsEx w v e → 0 ≤ most → most ≤ 1000000 →
    Calls Tryz.prog 31 #[v, .int .i64 most] w fun r w' => r = .returned (.int .i64 (min (dep e : Int) (most + 1))) ∧ Below w.heap.size w w' := by
  refine Ex.ind fun kd s nm ls ks ih v most w hv h0 hmm => ?_
  obtain ⟨a1, c1, a2, c2, rfl, _, _, hs, hls, hks, hl, hr⟩ := hv.open
  unfold lenMax at hks
  have hd := dep_pos (.mk kd s nm ls ks)
  by_cases hm0 : most ≤ 0
  · go_enter Tryz.func31, Tryz.ntmps31
    go_wp2_with fail
    go_ret
    exact ⟨ret_int (by omega), (Below.refl _ _).alloc (Nat.le_refl _) _⟩
  go_enter Tryz.func31, Tryz.ntmps31
  go_wp2_with fail
  go_loopw [5, 6] (fun n i wr => ∃ (k : Nat) (m : Int), k ≤ ks.length ∧ i = .int .i64 k ∧ n = .int .i64 m ∧ 0 ≤ m ∧ m ≤ most ∧ Hid (m = min (dep.depL (ks.take k) : Int) most) ∧ Below (w.heap.size+1) (w.alloc (.cells #[.int .i64 kd, .string s, .int .i64 nm, .slice a1 ls.length c1, .slice a2 ks.length c2] 40)) wr) (fun _ i _ => ks.length - (intOf i).toNat)
  case atStart => exact ⟨0, 0, by omega, rfl, rfl, by omega, by omega, by unfold Hid; simp [dep.depL]; omega, Below.refl _ _⟩
  case round =>
    obtain ⟨k, m, hk, rfl, rfl, hm1, hm2, hm, hB⟩ := hrel
    obtain ⟨b0, b1, b2, b3, b4⟩ := box5 hB
    have hz := size_box hB
    by_cases h1 : k < ks.length
    · obtain ⟨b, off, rfl, hkid⟩ := (hr.keeps (keeps_box hB)).kid (by rintro rfl; simp at h1)
      obtain ⟨a1, c1, a2, c2, g0, g1, g2, g3, g4, ge⟩ := hkid k h1
      go_wp2_with fail
      refine (ih _ (List.getElem_mem h1) _ _ _ ge (by omega) (by omega)).mono ?_
      rintro e w1 ⟨rfl, hB1⟩
      go_wp2_with fail
      go_roundw
      case rel => exact ⟨k + 1, _, by omega, by go_num, rfl, by omega, by omega, by have := hm.out; unfold Hid; rw [depL_take_succ _ _ h1]; omega, hB.trans (hB1.mono hz)⟩
      case measure => simp [intOf]; omega
    · have e : k = ks.length := by omega
      have e' := Lib.hid e
      clear e
      go_wp2_with fail
      go_ret
      have := hm.out
      rw [e'.out, List.take_length] at this
      refine ⟨ret_int ?_, below_box hB⟩
      simp only [dep]; omega

set_option maxHeartbeats 400000 in
theorem tree_depth : ∀ (e : Ex) (v : Value) (most : Int) (w : World), IsEx w v e → 0 ≤ most → most ≤ 1000000 →
    Calls Tryz.prog 60 #[v, .int .i64 most] w fun r w' => r = .returned (.int .i64 (min (dep e : Int) (most + 1))) ∧ Below w.heap.size w w' := by
  refine Ex.ind fun kd s nm ls ks ih v most w hv h0 hmm => ?_
  obtain ⟨a1, c1, a2, c2, rfl, _, _, hs, hls, hks, hl, hr⟩ := hv.open
  unfold lenMax at hks
  have hd := dep_pos (.mk kd s nm ls ks)
  by_cases hm0 : most ≤ 0
  · go_enter Tryz.func60, Tryz.ntmps60
    go_wp2_with fail
    go_ret
    exact ⟨ret_int (by omega), (Below.refl _ _).alloc (Nat.le_refl _) _⟩
  go_enter Tryz.func60, Tryz.ntmps60
  go_wp2_with fail
  go_loopw [5, 13] (fun n i wr => ∃ (k : Nat) (m : Int), k ≤ ks.length ∧ i = .int .i64 k ∧ n = .int .i64 m ∧ 0 ≤ m ∧ m ≤ most ∧ Hid (m = min (dep.depL (ks.take k) : Int) most) ∧ Below (w.heap.size+1) (w.alloc (.cells #[.int .i64 kd, .string s, .int .i64 nm, .slice a1 ls.length c1, .slice a2 ks.length c2] 40)) wr) (fun _ i _ => ks.length - (intOf i).toNat)
  case atStart => exact ⟨0, 0, by omega, rfl, rfl, by omega, by omega, by unfold Hid; simp [dep.depL]; omega, Below.refl _ _⟩
  case round =>
    obtain ⟨k, m, hk, rfl, rfl, hm1, hm2, hm, hB⟩ := hrel
    have hz := size_box hB
    by_cases h1 : k < ks.length
    · obtain ⟨b, off, rfl, hkid⟩ := (hr.keeps (keeps_box hB)).kid (by rintro rfl; simp at h1)
      obtain ⟨a1, c1, a2, c2, g0, g1, g2, g3, g4, ge⟩ := hkid k h1
      go_wp2_with fail
      refine (ih _ (List.getElem_mem h1) _ _ _ (ge.keeps (Keeps.of_below ((Below.refl _ _).alloc (Nat.le_refl _) _))) (by omega) (by omega)).mono ?_
      rintro e w1 ⟨rfl, hB1⟩
      go_wp2_with fail
      go_roundw
      case rel => exact ⟨k + 1, _, by omega, by go_num, rfl, by omega, by omega, by have := hm.out; unfold Hid; rw [depL_take_succ _ _ h1]; omega, (hB.alloc hz _).trans (hB1.mono (by simp; omega))⟩
      case measure => simp [intOf]; omega
    · have e : k = ks.length := by omega
      have e' := Lib.hid e
      clear e
      go_wp2_with fail
      go_ret
      have := hm.out
      rw [e'.out, List.take_length] at this
      refine ⟨ret_int ?_, below_box hB⟩
      simp only [dep]; omega
end Go.Proofs.YtpdfeadajgokkaaGreatDoor
