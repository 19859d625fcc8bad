/- May a type be, by the reference; is it another one. -/
import Derived.Test.YticjpeefhppjoaaDoorTyA
import Derived.Lib.Strings
namespace Go.Proofs.YticjpeefhppjoaaDoor
open Go.RowKit

def holeS (s : Str) : Bool := s.toList.isEmpty
theorem str_nil {s : Str} (h : s.toList.isEmpty = true) : s = ⟨#[]⟩ := by
  rw [Lib.toList_data] at h
  obtain ⟨⟨l⟩⟩ := s
  simp at h; rw [h]
theorem holeS_size (s : Str) : holeS s = decide (s.size = 0) := by
  unfold holeS
  rw [Lib.size_eq, Lib.toList_data]
  cases h : s.data.toList <;> simp_all

theorem r08_hole (s : Str) (n : Int) (a : Option Addr) (m c : Nat) (w : World) : Calls Tryd.prog 52 #[.agg #[.string s, .int .i64 n, .slice a m c]] w fun r w' => r = .returned (.bool (holeS s)) ∧ Below w.heap.size w w' := by
  have hB0 : Below (w.heap.size + 1) (w.alloc (.cells #[.string s, .int .i64 n, .slice a m c] 24)) (w.alloc (.cells #[.string s, .int .i64 n, .slice a m c] 24)) := Below.refl _ _
  go_enter Tryd.func52, Tryd.ntmps52
  go_wp2_with fail
  go_ret
  exact ⟨ret_bool (by unfold holeS; first | rfl | simp), below_box hB0⟩

theorem head_cases (s : Str) (n : Int) (m : Nat) (h : ¬ 20 < s.size) :
    (headT s n m = false ∧ ((holeS s = true ∧ (decide (n < 0) = true ∨ (decide (n < 0) = false ∧ decide (0 < m) = true))) ∨ (holeS s = false ∧ (n != 0) = true))) ∨
    (headT s n m = true ∧ ((holeS s = true ∧ decide (n < 0) = false ∧ decide (0 < m) = false) ∨ (holeS s = false ∧ (n != 0) = false))) := by
  unfold headT
  rw [holeS_size]
  by_cases h0 : s.size = 0
  · rw [decide_eq_true h0, if_pos h0]
    by_cases h1 : 0 ≤ n
    · by_cases h2 : m = 0
      · exact .inr ⟨by simp [h0, h1, h2], .inl ⟨rfl, by simp; omega, by simp; omega⟩⟩
      · exact .inl ⟨by simp [h2], .inl ⟨rfl, .inr ⟨by simp; omega, by simp; omega⟩⟩⟩
    · exact .inl ⟨by simp [h1], .inl ⟨rfl, .inl (by simp; omega)⟩⟩
  · rw [decide_eq_false h0, if_neg h0]
    by_cases h1 : n = 0
    · exact .inr ⟨by simp [h1]; omega, .inr ⟨rfl, by simp [h1]⟩⟩
    · exact .inl ⟨by simp [h1], .inr ⟨rfl, by simpa using h1⟩⟩

set_option maxHeartbeats 1600000 in
set_option maxRecDepth 100000 in
theorem r08_sound : ∀ (e : Ty) (v : Value) (most : Int) (w : World), IsTy w v e → -1000 ≤ most → most ≤ 1000 →
    Calls Tryd.prog 35 #[v, .int .i64 most] w fun r w' => r = .returned (.bool (sndT e most)) ∧ Below w.heap.size w w' := by
  refine Ty.ind fun s n l ih v most w hv h0 h9 => ?_
  obtain ⟨a1, c1, rfl, _, hn, hs, hl, hr⟩ := hv.open
  unfold lenMax at hs hl
  have hB0 : Below (w.heap.size + 1) (w.alloc (.cells #[.string s, .int .i64 n, .slice a1 l.length c1] 24)) (w.alloc (.cells #[.string s, .int .i64 n, .slice a1 l.length c1] 24)) := Below.refl _ _
  obtain ⟨k0, k1, k2⟩ := box3 hB0
  have hr' := Lib.hid hr
  have ih' := Lib.hid ih
  have hH : Hid (∀ V, Below (w.heap.size + 1) (w.alloc (.cells #[.string s, .int .i64 n, .slice a1 l.length c1] 24)) V → Calls Tryd.prog 52 #[.agg #[.string s, .int .i64 n, .slice a1 l.length c1]] V fun r V' => r = .returned (.bool (holeS s)) ∧ Below (w.heap.size + 1) (w.alloc (.cells #[.string s, .int .i64 n, .slice a1 l.length c1] 24)) V') := fun V hV => by
    refine (r08_hole s n a1 l.length c1 V).mono ?_
    rintro r V' ⟨hr, hB⟩
    exact ⟨hr, hV.trans (hB.mono (size_box hV))⟩
  clear hv hr ih
  by_cases hm : most ≤ 0
  · go_enter Tryd.func35, Tryd.ntmps35
    go_wp2_with fail
    go_ret
    exact ⟨ret_bool (by rw [sndT, decide_eq_false (by omega)]; rfl), below_box hB0⟩
  by_cases hk : 20 < s.size
  · go_enter Tryd.func35, Tryd.ntmps35
    go_wp2_with fail
    go_ret
    exact ⟨ret_bool (by rw [sndT, show headT s n l.length = false from by unfold headT; rw [decide_eq_false (p := s.size ≤ 20) (by omega)]; rfl, Bool.and_false]; rfl), below_box hB0⟩
  have hk1 : decide ((20 : Int) < (s.size : Int)) = false := by simp; omega
  have hk2 : decide (most ≤ 0) = false := by simp; omega
  rcases head_cases s n l.length hk with ⟨hH0, hq⟩ | ⟨hH0, hq⟩
  · have hF : Hid (sndT (.mk s n l) most = false) := by unfold Hid; rw [sndT, hH0, Bool.and_false]; rfl
    clear hH0
    rcases hq with ⟨hq, hq2⟩ | ⟨hq, hq2⟩
    · rw [hq] at hH
      clear hq
      rcases hq2 with hq2 | ⟨hq2, hq3⟩
      all_goals
        go_enter Tryd.func35, Tryd.ntmps35
        go_wp2_with fail
        refine (hH.out _ hB0).mono ?_
        rintro e w1 ⟨rfl, hC1⟩
        clear k0 k1 k2
        obtain ⟨k0, k1, k2⟩ := box3 hC1
        go_wp2_with fail
        go_ret
        exact ⟨ret_bool hF.out.symm, below_box hC1⟩
    · rw [hq] at hH
      clear hq
      go_enter Tryd.func35, Tryd.ntmps35
      go_wp2_with fail
      refine (hH.out _ hB0).mono ?_
      rintro e w1 ⟨rfl, hC1⟩
      clear k0 k1 k2
      obtain ⟨k0, k1, k2⟩ := box3 hC1
      go_wp2_with fail
      refine (hH.out _ hC1).mono ?_
      rintro e w2 ⟨rfl, hC2⟩
      clear k0 k1 k2
      obtain ⟨k0, k1, k2⟩ := box3 hC2
      go_wp2_with fail
      go_ret
      exact ⟨ret_bool hF.out.symm, below_box hC2⟩
  · have hT : Hid (sndT (.mk s n l) most = l.all fun e => sndT e (most - 1)) := by unfold Hid; rw [sndT, hH0, sndT_all, decide_eq_true (by omega)]; rfl
    clear hH0
    rcases hq with ⟨hq, hq2, hq3⟩ | ⟨hq, hq2⟩
    all_goals
      rw [hq] at hH
      clear hq
      go_enter Tryd.func35, Tryd.ntmps35
      go_wp2_with fail
      refine (hH.out _ hB0).mono ?_
      rintro e w1 ⟨rfl, hC1⟩
      clear k0 k1 k2
      obtain ⟨k0, k1, k2⟩ := box3 hC1
      go_wp2_with fail
      refine (hH.out _ hC1).mono ?_
      rintro e w2 ⟨rfl, hC2⟩
      clear k0 k1 k2
      obtain ⟨k0, k1, k2⟩ := box3 hC2
      go_wp2_with fail
      go_loopw [5] (fun i wr => ∃ k : Nat, k ≤ l.length ∧ i = .int .i64 k ∧ Hid (∀ j (hj : j < k) (hl : j < l.length), sndT l[j] (most - 1) = true) ∧ Below (w.heap.size+1) (w.alloc (.cells #[.string s, .int .i64 n, .slice a1 l.length c1] 24)) wr) (fun i _ => l.length - (intOf i).toNat)
      case atStart => exact ⟨0, by omega, rfl, fun j hj => by omega, hC2⟩
      case round =>
        clear k0 k1 k2 hC1 hC2
        obtain ⟨k, hk, rfl, hall, hB⟩ := hrel
        obtain ⟨q0, q1, q2⟩ := box3 hB
        have hz := size_box hB
        by_cases h1 : k < l.length
        · obtain ⟨b, off, rfl, harg⟩ := (hr'.out.keeps (keeps_box hB)).arg (by rintro rfl; simp at h1)
          obtain ⟨a2, c2, g0, g1, g2, ge⟩ := harg k h1
          have hcall := Lib.hid (ih'.out _ (List.getElem_mem h1) _ (most - 1) wr ge (by omega) (by omega))
          clear ge harg
          cases h3 : sndT l[k] (most - 1)
          · rw [h3] at hcall
            have h3' := Lib.hid h3
            clear h3
            go_wp2_with fail
            refine hcall.out.mono ?_
            rintro e w1 ⟨rfl, hB1⟩
            go_wp2_with fail
            go_ret
            exact ⟨ret_bool (by rw [hT.out, all_not h1 h3'.out]), below_box (hB.trans (hB1.mono hz))⟩
          · rw [h3] at hcall
            have h3' := Lib.hid h3
            clear h3
            go_wp2_with fail
            refine hcall.out.mono ?_
            rintro e w1 ⟨rfl, hB1⟩
            have hB1' := hB.trans (hB1.mono hz)
            clear hB1
            go_wp2_with fail
            go_roundw
            case rel => exact ⟨k + 1, by omega, by go_num, fun j hj hl => by
              rcases Nat.lt_or_ge j k with h | h
              · exact hall.out j h hl
              · obtain rfl : j = k := by omega
                exact h3'.out, hB1'⟩
            case measure => simp [intOf]; omega
        · go_wp2_with fail
          go_ret
          exact ⟨ret_bool (by rw [hT.out, all_take (fun j hj => hall.out j (by omega) hj)]), below_box hB⟩

theorem r08_Check (e : Ty) (v : Value) (w : World) (hv : IsTy w v e) : Calls Tryd.prog 16 #[v] w fun r w' => r = .returned (.bool (chkT e)) ∧ Below w.heap.size w w' := by
  have hv0 := hv
  obtain ⟨s, n, l⟩ := e
  obtain ⟨a1, c1, rfl, _⟩ := hv.open
  have hB0 : Below (w.heap.size + 1) (w.alloc (.cells #[.string s, .int .i64 n, .slice a1 l.length c1] 24)) (w.alloc (.cells #[.string s, .int .i64 n, .slice a1 l.length c1] 24)) := Below.refl _ _
  obtain ⟨k0, k1, k2⟩ := box3 hB0
  have hp := Lib.hid (r08_parts _ _ 2000 _ (hv0.below (below_box hB0)) (by omega) (by omega))
  have hs := Lib.hid (fun V (hV : Below (w.heap.size + 1) (w.alloc (.cells #[.string s, .int .i64 n, .slice a1 l.length c1] 24)) V) => r08_sound _ _ 60 V (hv0.below (below_box hV)) (by omega) (by omega))
  have hp1 := tcnt_pos (.mk s n l)
  have hc : Hid (chkT (.mk s n l) = (decide (tcnt (.mk s n l) ≤ 2000) && sndT (.mk s n l) 60)) := rfl
  generalize tcnt (.mk s n l) = c at hp hp1 hc
  clear hv hv0
  by_cases h : c ≤ 2000
  · have hm : min (c : Int) (2000 + 1) = c := by omega
    rw [hm] at hp
    rw [decide_eq_true h, Bool.true_and] at hc
    have h' : (c : Int) ≤ 2000 := by omega
    clear hm h
    cases hq : sndT (.mk s n l) 60
    all_goals
      rw [hq] at hs hc
      clear hq
      go_enter Tryd.func16, Tryd.ntmps16
      go_wp2_with fail
      refine hp.out.mono ?_
      rintro e w1 ⟨rfl, hB1⟩
      have hC1 := hB1.mono (B' := w.heap.size + 1) (by simp)
      clear hB1 k0 k1 k2
      obtain ⟨k0, k1, k2⟩ := box3 hC1
      go_wp2_with fail
      refine (hs.out _ hC1).mono ?_
      rintro e w2 ⟨rfl, hB2⟩
      go_wp2_with fail
      go_ret
      exact ⟨ret_bool hc.out.symm, below_box (hC1.trans (hB2.mono (size_box hC1)))⟩
  · have hm : min (c : Int) (2000 + 1) = 2001 := by omega
    rw [hm] at hp
    rw [decide_eq_false h, Bool.false_and] at hc
    clear hm
    go_enter Tryd.func16, Tryd.ntmps16
    go_wp2_with fail
    refine hp.out.mono ?_
    rintro e w1 ⟨rfl, hB1⟩
    have hC1 := hB1.mono (B' := w.heap.size + 1) (by simp)
    go_wp2_with fail
    go_ret
    exact ⟨ret_bool hc.out.symm, below_box hC1⟩

theorem r08_Few (e : Ty) (v : Value) (w : World) (hv : IsTy w v e) : Calls Tryd.prog 12 #[v] w fun r w' => r = .returned (.bool (fewT e)) ∧ Below w.heap.size w w' := by
  have hv0 := hv
  obtain ⟨s, n, l⟩ := e
  obtain ⟨a1, c1, rfl, _⟩ := hv.open
  have hB0 : Below (w.heap.size + 1) (w.alloc (.cells #[.string s, .int .i64 n, .slice a1 l.length c1] 24)) (w.alloc (.cells #[.string s, .int .i64 n, .slice a1 l.length c1] 24)) := Below.refl _ _
  obtain ⟨k0, k1, k2⟩ := box3 hB0
  have hp := Lib.hid (r08_parts _ _ 300 _ (hv0.below (below_box hB0)) (by omega) (by omega))
  have hs := Lib.hid (fun V (hV : Below (w.heap.size + 1) (w.alloc (.cells #[.string s, .int .i64 n, .slice a1 l.length c1] 24)) V) => r08_deep _ _ 70 V (hv0.below (below_box hV)) (by omega) (by omega))
  have ht := Lib.hid (fun V (hV : Below (w.heap.size + 1) (w.alloc (.cells #[.string s, .int .i64 n, .slice a1 l.length c1] 24)) V) => r08_short _ _ V (hv0.below (below_box hV)))
  have hp1 := tcnt_pos (.mk s n l)
  have hc : Hid (fewT (.mk s n l) = (decide (tcnt (.mk s n l) ≤ 300) && deepB (.mk s n l) 70 && shortT (.mk s n l))) := rfl
  generalize tcnt (.mk s n l) = c at hp hp1 hc
  clear hv hv0
  by_cases h : c ≤ 300
  · have hm : min (c : Int) (300 + 1) = c := by omega
    rw [hm] at hp
    rw [decide_eq_true h, Bool.true_and] at hc
    have h' : (c : Int) ≤ 300 := by omega
    clear hm h
    cases hq : deepB (.mk s n l) 70
    · rw [hq] at hs hc
      clear hq
      go_enter Tryd.func12, Tryd.ntmps12
      go_wp2_with fail
      refine hp.out.mono ?_
      rintro e w1 ⟨rfl, hB1⟩
      have hC1 := hB1.mono (B' := w.heap.size + 1) (by simp)
      clear hB1 k0 k1 k2
      obtain ⟨k0, k1, k2⟩ := box3 hC1
      go_wp2_with fail
      refine (hs.out _ hC1).mono ?_
      rintro e w2 ⟨rfl, hB2⟩
      go_wp2_with fail
      go_ret
      exact ⟨ret_bool hc.out.symm, below_box (hC1.trans (hB2.mono (size_box hC1)))⟩
    · rw [hq, Bool.true_and] at hc
      rw [hq] at hs
      clear hq
      cases hq : shortT (.mk s n l)
      all_goals
        rw [hq] at ht hc
        clear hq
        go_enter Tryd.func12, Tryd.ntmps12
        go_wp2_with fail
        refine hp.out.mono ?_
        rintro e w1 ⟨rfl, hB1⟩
        have hC1 := hB1.mono (B' := w.heap.size + 1) (by simp)
        clear hB1 k0 k1 k2
        obtain ⟨k0, k1, k2⟩ := box3 hC1
        go_wp2_with fail
        refine (hs.out _ hC1).mono ?_
        rintro e w2 ⟨rfl, hB2⟩
        have hC2 := hC1.trans (hB2.mono (size_box hC1))
        clear hB2 k0 k1 k2
        obtain ⟨k0, k1, k2⟩ := box3 hC2
        go_wp2_with fail
        refine (ht.out _ hC2).mono ?_
        rintro e w3 ⟨rfl, hB3⟩
        go_wp2_with fail
        go_ret
        exact ⟨ret_bool hc.out.symm, below_box (hC2.trans (hB3.mono (size_box hC2)))⟩
  · have hm : min (c : Int) (300 + 1) = 301 := by omega
    rw [hm] at hp
    rw [decide_eq_false h, Bool.false_and, Bool.false_and] at hc
    clear hm
    go_enter Tryd.func12, Tryd.ntmps12
    go_wp2_with fail
    refine hp.out.mono ?_
    rintro e w1 ⟨rfl, hB1⟩
    have hC1 := hB1.mono (B' := w.heap.size + 1) (by simp)
    go_wp2_with fail
    go_ret
    exact ⟨ret_bool hc.out.symm, below_box hC1⟩
end Go.Proofs.YticjpeefhppjoaaDoor
