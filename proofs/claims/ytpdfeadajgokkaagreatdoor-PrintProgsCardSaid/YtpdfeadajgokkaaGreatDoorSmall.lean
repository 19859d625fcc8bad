/- May a written type's text be told? -/
import Derived.Test.YtpdfeadajgokkaaGreatDoorTypes
import Derived.Test.YtpdfeadajgokkaaGreatDoorProg
namespace Go.Proofs.YtpdfeadajgokkaaGreatDoor
open Go.RowKit

theorem box2 {w wr : World} {v0 v1 : Value} {t : TypeId} (h : Below (w.heap.size + 1) (w.alloc (.cells #[v0, v1] t)) wr) :
    wr.cell? ⟨w.heap.size, 0, none⟩ = some v0 ∧ wr.cell? ⟨w.heap.size, 1, none⟩ = some v1 := by
  refine ⟨?_, ?_⟩ <;> (rw [h.cell (by simp), World.cell?_alloc_at _ _ _ _ rfl]; rfl)

/-- At most forty of each, at most so deep. -/
def smallB : Sg → Int → Bool
  | .mk _ l, most => decide (0 < most) && decide (l.length ≤ 40) && smallL l (most - 1)
where smallL : List Sg → Int → Bool
  | [], _ => true
  | e :: r, most => smallB e most && smallL r most
theorem smallL_all (l : List Sg) (most : Int) : smallB.smallL l most = l.all fun e => smallB e most := by
  induction l with
  | nil => rfl
  | cons e r ih => simp only [smallB.smallL, List.all_cons, ih]

set_option maxHeartbeats 400000 in
theorem print_small : ∀ (s : Sg) (v : Value) (most : Int) (w : World), IsSg w v s → -1000 ≤ most → most ≤ 1000 →
    Calls Tryz.prog 26 #[v, .int .i64 most] w fun r w' => r = .returned (.bool (smallB s most)) ∧ Below w.heap.size w w' := by
  refine Sg.ind fun nm l ih v most w hv h0 h9 => ?_
  obtain ⟨a1, c1, rfl, hs, hn, hr⟩ := hv.open
  unfold lenMax at hs hn
  have hB0 : Below (w.heap.size + 1) (w.alloc (.cells #[.string nm, .slice a1 l.length c1] 28)) (w.alloc (.cells #[.string nm, .slice a1 l.length c1] 28)) := Below.refl _ _
  by_cases hm : most ≤ 0
  · go_enter Tryz.func26, Tryz.ntmps26
    go_wp2_with fail
    go_ret
    exact ⟨ret_bool (by rw [smallB, decide_eq_false (by omega)]; rfl), below_box hB0⟩
  by_cases hk : 40 < l.length
  · go_enter Tryz.func26, Tryz.ntmps26
    go_wp2_with fail
    go_ret
    exact ⟨ret_bool (by rw [smallB, decide_eq_false (p := l.length ≤ 40) (by omega), Bool.and_false]; rfl), below_box hB0⟩
  go_enter Tryz.func26, Tryz.ntmps26
  go_wp2_with fail
  go_loopw [18] (fun i wr => ∃ k : Nat, k ≤ l.length ∧ i = .int .i64 k ∧ Hid (∀ j (hj : j < k) (hl : j < l.length), smallB l[j] (most - 1) = true) ∧ Below (w.heap.size+1) (w.alloc (.cells #[.string nm, .slice a1 l.length c1] 28)) wr) (fun i _ => l.length - (intOf i).toNat)
  case atStart => exact ⟨0, by omega, rfl, fun j hj => by omega, Below.refl _ _⟩
  case round =>
    obtain ⟨k, hk, rfl, hall, hB⟩ := hrel
    have hz := size_box hB
    by_cases h1 : k < l.length
    · obtain ⟨b, off, rfl, harg⟩ := (hr.keeps (keeps_box hB)).arg (by rintro rfl; simp at h1)
      obtain ⟨a2, c2, g0, g1, ge⟩ := harg k h1
      have ge' := ge.keeps (Keeps.of_below ((Below.refl _ _).alloc (Nat.le_refl _) (.cells #[.string l[k].name, .slice a2 l[k].args.length c2] 28)))
      have hBa := hB.alloc hz (.cells #[.string l[k].name, .slice a2 l[k].args.length c2] 28)
      cases h3 : smallB l[k] (most - 1)
      · go_wp2_with fail
        refine (ih _ (List.getElem_mem h1) _ _ _ ge' (by omega) (by omega)).mono ?_
        rintro e w1 ⟨rfl, hB1⟩
        go_wp2_with fail
        go_ret
        refine ⟨ret_bool ?_, below_box (hBa.trans (hB1.mono (by simp; omega)))⟩
        have hy : (l.all fun e => smallB e (most - 1)) = false := by
          rw [List.all_eq_false]
          exact ⟨_, List.getElem_mem h1, by rw [h3]; simp⟩
        rw [smallB, smallL_all, hy, Bool.and_false]
      · go_wp2_with fail
        refine (ih _ (List.getElem_mem h1) _ _ _ ge' (by omega) (by omega)).mono ?_
        rintro e w1 ⟨rfl, hB1⟩
        go_wp2_with fail
        go_roundw
        case rel => exact ⟨k + 1, by omega, by go_num, fun j hj hl => by
          rcases Nat.lt_or_ge j k with h | h
          · exact hall.out j h hl
          · obtain rfl : j = k := by omega
            exact h3, hBa.trans (hB1.mono (by simp; omega))⟩
        case measure => simp [intOf]; omega
    · go_wp2_with fail
      go_ret
      refine ⟨ret_bool ?_, below_box hB⟩
      have hy : (l.all fun e => smallB e (most - 1)) = true := by
        rw [List.all_eq_true]
        intro x hx
        obtain ⟨j, hj, rfl⟩ := List.getElem_of_mem hx
        exact hall.out j (by omega) hj
      rw [smallB, smallL_all, hy, decide_eq_true (by omega), decide_eq_true (by omega)]; rfl
end Go.Proofs.YtpdfeadajgokkaaGreatDoor
