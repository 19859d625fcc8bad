/- The reference's 'Sound' and 'Check': by kinds. -/
import Derived.Test.YtpdfeadajgokkaaGreatDoorSoundR
namespace Go.Proofs.YtpdfeadajgokkaaGreatDoor
open Go.RowKit

def leafB (k : Int) (s : Str) (n : Int) (ks : List Ex) : Bool := decide (ks.length = 0) && (if k = 1 then decide (0 ≤ n) else if k = 2 then nameB s else conB s)

set_option maxHeartbeats 1600000 in
theorem r04_leaf (k : Int) (s : Str) (n : Int) (a1 a2 : Option Addr) (c1 c2 m1 : Nat) (ks : List Ex) (w : World) (hl : ks.length ≤ lenMax) :
    Calls Tryz.prog 68 #[.agg #[.int .i64 k, .string s, .int .i64 n, .slice a1 m1 c1, .slice a2 ks.length c2]] w fun r w' => r = .returned (.bool (leafB k s n ks)) ∧ Below w.heap.size w w' := by
  unfold lenMax at hl
  have hB0 : Below (w.heap.size + 1) (w.alloc (.cells #[.int .i64 k, .string s, .int .i64 n, .slice a1 m1 c1, .slice a2 ks.length c2] 40)) (w.alloc (.cells #[.int .i64 k, .string s, .int .i64 n, .slice a1 m1 c1, .slice a2 ks.length c2] 40)) := Below.refl _ _
  by_cases h0 : (0 : Int) < ks.length
  · go_enter Tryz.func68, Tryz.ntmps68
    go_wp2_with fail
    go_ret
    exact ⟨ret_bool (by rw [leafB, decide_eq_false (by omega)]; rfl), below_box hB0⟩
  · have h0' : Hid (ks.length = 0) := by unfold Hid; omega
    rcases show k = 1 ∨ k = 2 ∨ ((k == 1) = false ∧ (k == 2) = false) by simp only [beq_eq_false_iff_ne]; omega with rfl | rfl | ⟨h1, h2⟩
    · go_enter Tryz.func68, Tryz.ntmps68
      go_wp2_with fail
      go_ret
      exact ⟨ret_bool (by rw [leafB, h0'.out]; rfl), below_box hB0⟩
    · go_enter Tryz.func68, Tryz.ntmps68
      go_wp2_with fail
      refine (r02_Name _ _).mono ?_
      rintro e w1 ⟨rfl, hB⟩
      go_wp2_with fail
      go_ret
      exact ⟨ret_bool (by rw [leafB, h0'.out]; simp), below_box (hB0.trans (hB.mono (by simp)))⟩
    · go_enter Tryz.func68, Tryz.ntmps68
      go_wp2_with fail
      refine (r02_Con _ _).mono ?_
      rintro e w1 ⟨rfl, hB⟩
      go_wp2_with fail
      go_ret
      refine ⟨ret_bool ?_, below_box (hB0.trans (hB.mono (by simp)))⟩
      rw [leafB, h0'.out, if_neg (by simpa using h1), if_neg (by simpa using h2)]; simp

/-- May kids of some kind stand there? -/
def mayK (k may : Int) : Bool := !((k == 8 || k == 13) && k != may)

set_option maxHeartbeats 1600000 in
theorem r04_kids (snd : Ex → Bool) (a : Option Addr) (l : List Ex) (cap : Nat) (may : Int) (w : World) (hl : l.length ≤ lenMax) (hr : ExRow w a l)
    (ih : ∀ e ∈ l, ∀ v w, IsEx w v e → Calls Tryz.prog 37 #[v] w fun r w' => r = .returned (.bool (snd e)) ∧ Below w.heap.size w w') :
    Calls Tryz.prog 71 #[.slice a l.length cap, .int .i64 0, .int .i64 may] w fun r w' => r = .returned (.bool (l.all fun e => snd e && mayK e.kind may)) ∧ Below w.heap.size w w' := by
  unfold lenMax at hl
  go_enter Tryz.func71, Tryz.ntmps71
  go_wp2_with fail
  go_loopw [7, 8] (fun i _ wr => ∃ k : Nat, k ≤ l.length ∧ i = .int .i64 k ∧ Hid (∀ j (hj : j < k) (hl : j < l.length), (snd l[j] && mayK l[j].kind may) = true) ∧ Below w.heap.size w wr) (fun i _ _ => l.length - (intOf i).toNat)
  case atStart => exact ⟨0, by omega, rfl, fun j hj => by omega, Below.refl _ _⟩
  case round =>
    obtain ⟨k, hk, rfl, hall, hB⟩ := hrel
    by_cases h1 : k < l.length
    · obtain ⟨b, off, rfl, hkid⟩ := (hr.keeps (Keeps.of_below hB)).kid (by rintro rfl; simp at h1)
      obtain ⟨a1, c1, a2, c2, g0, g1, g2, g3, g4, ge⟩ := hkid k h1
      clear hkid
      have bad : ∀ (w' : World), Below w.heap.size w w' → (snd l[k] && mayK l[k].kind may) = false → Ending.returned (.bool false) = .returned (.bool (l.all fun e => snd e && mayK e.kind may)) ∧ Below w.heap.size w w' := by
        intro w' hw' hx
        refine ⟨ret_bool (Eq.symm ?_), hw'⟩
        rw [List.all_eq_false]
        exact ⟨_, List.getElem_mem h1, by rw [hx]; simp⟩
      have good : (snd l[k] && mayK l[k].kind may) = true → Hid (∀ j (hj : j < k + 1) (hl : j < l.length), (snd l[j] && mayK l[j].kind may) = true) := fun hx j hj hl => by
        rcases Nat.lt_or_ge j k with h | h
        · exact hall.out j h hl
        · obtain rfl : j = k := by omega
          exact hx
      have bad' := Lib.hid bad
      have good' := Lib.hid good
      clear bad good
      cases h3 : snd l[k]
      · go_wp2_with fail
        refine (ih _ (List.getElem_mem h1) _ _ ge).mono ?_
        rintro e w1 ⟨rfl, hB1⟩
        go_wp2_with fail
        go_ret
        exact bad'.out _ (hB.trans (hB1.mono hB.size)) (by rw [h3]; rfl)
      · have hh3 := Lib.hid h3
        generalize hkk : l[k].kind = kk at g0 ge bad' good'
        have hx : ∀ w1, Below wr.heap.size wr w1 → w1.cell? ⟨b, off + k * 5, none⟩ = some (.int .i64 kk) := fun w1 hB1 => Keeps.of_below hB1 _ _ g0
        have hx' := Lib.hid hx
        clear hx h3 hkk
        rcases show (kk = 8 ∨ kk = 13) ∨ ((kk == 8) = false ∧ (kk == 13) = false) by simp only [beq_eq_false_iff_ne]; omega with h813 | ⟨h8, h13⟩
        · have hm : mayK kk may = !(kk != may) := by rcases h813 with rfl | rfl <;> rfl
          have hm' := Lib.hid hm
          clear hm
          cases hq : (kk != may)
          · rcases h813 with rfl | rfl
            all_goals go_wp2_with fail
            all_goals refine (ih _ (List.getElem_mem h1) _ _ ge).mono ?_
            all_goals rintro e w1 ⟨rfl, hB1⟩
            all_goals rw [hh3.out]
            all_goals have hc := hx'.out w1 hB1
            all_goals go_wp2_with fail
            all_goals go_roundw
            case rel => exact ⟨k + 1, by omega, by go_num, good'.out (by rw [hh3.out, hm'.out, hq]; rfl), hB.trans (hB1.mono hB.size)⟩
            case measure => simp [intOf]; omega
            case rel => exact ⟨k + 1, by omega, by go_num, good'.out (by rw [hh3.out, hm'.out, hq]; rfl), hB.trans (hB1.mono hB.size)⟩
            case measure => simp [intOf]; omega
          · rcases h813 with rfl | rfl
            all_goals go_wp2_with fail
            all_goals refine (ih _ (List.getElem_mem h1) _ _ ge).mono ?_
            all_goals rintro e w1 ⟨rfl, hB1⟩
            all_goals rw [hh3.out]
            all_goals have hc := hx'.out w1 hB1
            all_goals go_wp2_with fail
            all_goals go_ret
            all_goals exact bad'.out _ (hB.trans (hB1.mono hB.size)) (by rw [hh3.out, hm'.out, hq]; rfl)
        · go_wp2_with fail
          refine (ih _ (List.getElem_mem h1) _ _ ge).mono ?_
          rintro e w1 ⟨rfl, hB1⟩
          rw [hh3.out]
          have hc := hx'.out w1 hB1
          go_wp2_with fail
          go_roundw
          case rel => exact ⟨k + 1, by omega, by go_num, good'.out (by rw [hh3.out, mayK, h8, h13]; rfl), hB.trans (hB1.mono hB.size)⟩
          case measure => simp [intOf]; omega
    · go_wp2_with fail
      go_ret
      refine ⟨ret_bool (Eq.symm ?_), hB⟩
      rw [List.all_eq_true]
      intro x hx
      obtain ⟨j, hj, rfl⟩ := List.getElem_of_mem hx
      exact hall.out j (by omega) hj
end Go.Proofs.YtpdfeadajgokkaaGreatDoor
