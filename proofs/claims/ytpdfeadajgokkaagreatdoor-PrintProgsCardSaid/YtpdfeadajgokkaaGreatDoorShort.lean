/- 'Few': a tree of few parts, of short texts. -/
import Derived.Test.YtpdfeadajgokkaaGreatDoorSizes
namespace Go.Proofs.YtpdfeadajgokkaaGreatDoor
open Go.RowKit

def shortB : Ex → Bool
  | .mk _ s _ l ks => decide (s.size ≤ 100) && decide (l.length ≤ 40) && l.all (fun x => decide (x.size ≤ 100)) && shortL ks
where shortL : List Ex → Bool
  | [] => true
  | e :: r => shortB e && shortL r

theorem shortL_all (l : List Ex) : shortB.shortL l = l.all shortB := by
  induction l with
  | nil => rfl
  | cons e r ih => simp only [shortB.shortL, List.all_cons, ih]

set_option maxHeartbeats 800000 in
theorem r04_short : ∀ (e : Ex) (v : Value) (w : World), IsEx w v e →
    Calls Tryz.prog 32 #[v] w fun r w' => r = .returned (.bool (shortB e)) ∧ Below w.heap.size w w' := by
  refine Ex.ind fun kd s nm ls ks ih v w hv => ?_
  obtain ⟨a1, c1, a2, c2, rfl, _, _, hs, hls, hks, hl, hr⟩ := hv.open
  unfold lenMax at hks
  by_cases h1 : (100 : Int) < s.size
  · go_enter Tryz.func32, Tryz.ntmps32
    go_wp2_with fail
    go_ret
    exact ⟨ret_bool (by rw [shortB, decide_eq_false (by omega)]; rfl), (Below.refl _ _).alloc (Nat.le_refl _) _⟩
  by_cases h2 : (40 : Int) < ls.length
  · go_enter Tryz.func32, Tryz.ntmps32
    go_wp2_with fail
    go_ret
    exact ⟨ret_bool (by rw [shortB, decide_eq_false (p := ls.length ≤ 40) (by omega), Bool.and_false]; rfl), (Below.refl _ _).alloc (Nat.le_refl _) _⟩
  go_enter Tryz.func32, Tryz.ntmps32
  go_wp2_with fail
  go_loop [3] (fun i => ∃ k : Nat, k ≤ ls.length ∧ i = .int .i64 k ∧ Hid (∀ j (hj : j < k) (hl : j < ls.length), decide (ls[j].size ≤ 100) = true)) (fun i => ls.length - (intOf i).toNat)
  case atStart => exact ⟨0, by omega, rfl, fun j hj => by omega⟩
  case round =>
    obtain ⟨k, hk, rfl, hall⟩ := hrel
    by_cases hlt : k < ls.length
    · rcases hl with hl | ⟨b, off, rfl, hl⟩
      · simp [hl] at hlt
      have hc := (hl k hlt).1
      have hb := cell_block hc
      have hc' : (w.alloc (.cells #[.int .i64 kd, .string s, .int .i64 nm, .slice (some ⟨b, off, none⟩) ls.length c1, .slice a2 ks.length c2] 40)).cell? ⟨b, off + k, none⟩ = some (.string ls[k]) := by
        rw [World.cell?_alloc_past _ _ _ hb]; exact hc
      clear hl
      by_cases h3 : (100 : Int) < ls[k].size
      · go_wp2_with fail
        go_ret
        have hx : ls.all (fun x => decide (x.size ≤ 100)) = false := by
          rw [List.all_eq_false]
          exact ⟨_, List.getElem_mem hlt, by simp; omega⟩
        exact ⟨ret_bool (by rw [shortB, hx, Bool.and_false]; rfl), (Below.refl _ _).alloc (Nat.le_refl _) _⟩
      · go_wp2_with fail
        go_round
        case rel => exact ⟨k + 1, by omega, by go_num, fun j hj hl => by
          rcases Nat.lt_or_ge j k with h | h
          · exact hall.out j h hl
          · obtain rfl : j = k := by omega
            exact decide_eq_true (by omega)⟩
        case measure => simp [intOf]; omega
    · have hx : Hid (ls.all (fun x => decide (x.size ≤ 100)) = true) := by
        unfold Hid
        rw [List.all_eq_true]
        intro x hx
        obtain ⟨j, hj, rfl⟩ := List.getElem_of_mem hx
        exact hall.out j (by omega) hj
      go_wp2_with fail
      go_loopw [4, 5] (fun i _ wr => ∃ k : Nat, k ≤ ks.length ∧ i = .int .i64 k ∧ Hid (∀ j (hj : j < k) (hl : j < ks.length), shortB ks[j] = true) ∧ Below (w.heap.size+1) (w.alloc (.cells #[.int .i64 kd, .string s, .int .i64 nm, .slice a1 ls.length c1, .slice a2 ks.length c2] 40)) wr) (fun i _ _ => ks.length - (intOf i).toNat)
      case atStart => exact ⟨0, by omega, rfl, fun j hj => by omega, Below.refl _ _⟩
      case round =>
        clear hl hall hlt hk
        obtain ⟨k, hk, rfl, hall, hB⟩ := hrel
        obtain ⟨b0, b1, b2, b3, b4⟩ := box5 hB
        have hz := size_box hB
        by_cases h1 : k < ks.length
        · obtain ⟨b, off, rfl, hkid⟩ := (hr.keeps (keeps_box hB)).kid (by rintro rfl; simp at h1)
          obtain ⟨a1, c1, a2, c2, g0, g1, g2, g3, g4, ge⟩ := hkid k h1
          cases h3 : shortB ks[k]
          · go_wp2_with fail
            refine (ih _ (List.getElem_mem h1) _ _ ge).mono ?_
            rintro e w1 ⟨rfl, hB1⟩
            go_wp2_with fail
            go_ret
            refine ⟨ret_bool ?_, below_box (hB.trans (hB1.mono hz))⟩
            have hy : ks.all shortB = false := by
              rw [List.all_eq_false]
              exact ⟨_, List.getElem_mem h1, by rw [h3]; simp⟩
            rw [shortB, shortL_all, hy, Bool.and_false]
          · go_wp2_with fail
            refine (ih _ (List.getElem_mem h1) _ _ ge).mono ?_
            rintro e w1 ⟨rfl, hB1⟩
            go_wp2_with fail
            go_roundw
            case rel => exact ⟨k + 1, by omega, by go_num, fun j hj hl => by
              rcases Nat.lt_or_ge j k with h | h
              · exact hall.out j h hl
              · obtain rfl : j = k := by omega
                exact h3, hB.trans (hB1.mono hz)⟩
            case measure => simp [intOf]; omega
        · go_wp2_with fail
          go_ret
          refine ⟨ret_bool ?_, below_box hB⟩
          have hy : ks.all shortB = true := by
            rw [List.all_eq_true]
            intro x hx
            obtain ⟨j, hj, rfl⟩ := List.getElem_of_mem hx
            exact hall.out j (by omega) hj
          rw [shortB, shortL_all, hy, hx.out, decide_eq_true (by omega), decide_eq_true (by omega)]; rfl

def fewB (e : Ex) : Bool := decide (cnt e ≤ 2000) && decide (dep e ≤ 40) && shortB e

set_option maxHeartbeats 400000 in
theorem r04_Few (e : Ex) (v : Value) (w : World) (hv : IsEx w v e) :
    Calls Tryz.prog 12 #[v] w fun r w' => r = .returned (.bool (fewB e)) ∧ Below w.heap.size w w' := by
  have hv0 := hv
  cases e with
  | mk kd s nm ls ks =>
  obtain ⟨a1, c1, a2, c2, rfl, _⟩ := hv.open
  have hB0 : Below (w.heap.size + 1) (w.alloc (.cells #[.int .i64 kd, .string s, .int .i64 nm, .slice a1 ls.length c1, .slice a2 ks.length c2] 40)) (w.alloc (.cells #[.int .i64 kd, .string s, .int .i64 nm, .slice a1 ls.length c1, .slice a2 ks.length c2] 40)) := Below.refl _ _
  by_cases h1 : cnt (.mk kd s nm ls ks) ≤ 2000
  · by_cases h2 : dep (.mk kd s nm ls ks) ≤ 40
    · go_enter Tryz.func12, Tryz.ntmps12
      go_wp2_with fail
      refine (r04_size _ _ _ _ (hv.keeps (keeps_box hB0)) (by omega) (by omega)).mono ?_
      rintro e w1 ⟨rfl, hB1⟩
      have hB1 := hB0.trans (hB1.mono (by simp))
      obtain ⟨b0, b1, b2, b3, b4⟩ := box5 hB1
      go_wp2_with fail
      refine (r04_Depth _ _ _ _ (hv.keeps (keeps_box hB1)) (by omega) (by omega)).mono ?_
      rintro e w2 ⟨rfl, hB2⟩
      have hB2 := hB1.trans (hB2.mono (size_box hB1))
      clear b0 b1 b2 b3 b4
      obtain ⟨b0, b1, b2, b3, b4⟩ := box5 hB2
      go_wp2_with fail
      refine (r04_short _ _ _ (hv.keeps (keeps_box hB2))).mono ?_
      rintro e w3 ⟨rfl, hB3⟩
      go_wp2_with fail
      go_ret
      exact ⟨ret_bool (by rw [fewB, decide_eq_true h1, decide_eq_true h2]; rfl), below_box (hB2.trans (hB3.mono (size_box hB2)))⟩
    · go_enter Tryz.func12, Tryz.ntmps12
      go_wp2_with fail
      refine (r04_size _ _ _ _ (hv.keeps (keeps_box hB0)) (by omega) (by omega)).mono ?_
      rintro e w1 ⟨rfl, hB1⟩
      have hB1 := hB0.trans (hB1.mono (by simp))
      obtain ⟨b0, b1, b2, b3, b4⟩ := box5 hB1
      go_wp2_with fail
      refine (r04_Depth _ _ _ _ (hv.keeps (keeps_box hB1)) (by omega) (by omega)).mono ?_
      rintro e w2 ⟨rfl, hB2⟩
      go_wp2_with fail
      go_ret
      exact ⟨ret_bool (by rw [fewB, decide_eq_false h2, Bool.and_false]; rfl), below_box (hB1.trans (hB2.mono (size_box hB1)))⟩
  · go_enter Tryz.func12, Tryz.ntmps12
    go_wp2_with fail
    refine (r04_size _ _ _ _ (hv.keeps (keeps_box hB0)) (by omega) (by omega)).mono ?_
    rintro e w1 ⟨rfl, hB1⟩
    go_wp2_with fail
    go_ret
    exact ⟨ret_bool (by rw [fewB, decide_eq_false h1]; rfl), below_box (hB0.trans (hB1.mono (by simp)))⟩
end Go.Proofs.YtpdfeadajgokkaaGreatDoor
