/- A part of the proof that parser laws hold: texts of the walk and of its plain laws, made small. -/
import Derived.Test.YtnfclcfcpgfajaaGreatDoorM01
import Derived.Lib.Strings
set_option linter.unusedVariables false
set_option linter.unusedSimpArgs false
/- May a type be, by the reference; is it another one. -/
namespace Go.Proofs.YtnfclcfcpgfajaaGreatDoor
open Go.RowKit

def holeS (s : Str) : Bool := s.toList.isEmpty
theorem str_nil {s : Str} (h : s.toList.isEmpty = true) : s = ⟨#[]⟩ := by
  rw [Lib.toList_data] at h
  obtain ⟨⟨l⟩⟩ := s
  simp at h; rw [h]
theorem holeS_size (s : Str) : holeS s = decide (s.size = 0) := by
  unfold holeS
  rw [Lib.size_eq, Lib.toList_data]
  cases h : s.data.toList <;> simp_all

theorem r08_hole (s : Str) (n : Int) (a : Option Addr) (m c : Nat) (w : World) : Calls Tryz.prog 180 #[.agg #[.string s, .int .i64 n, .slice a m c]] w fun r w' => r = .returned (.bool (holeS s)) ∧ Below w.heap.size w w' := by
  have hB0 : Below (w.heap.size + 1) (w.alloc (.cells #[.string s, .int .i64 n, .slice a m c] 25)) (w.alloc (.cells #[.string s, .int .i64 n, .slice a m c] 25)) := Below.refl _ _
  go_enter Tryz.func180, Tryz.ntmps180
  go_wp2_with fail
  go_ret
  exact ⟨ret_bool (by unfold holeS; first | rfl | simp), below_box hB0⟩

theorem head_cases (s : Str) (n : Int) (m : Nat) (h : ¬ 20 < s.size) :
    (headT s n m = false ∧ ((holeS s = true ∧ (decide (n < 0) = true ∨ (decide (n < 0) = false ∧ decide (0 < m) = true))) ∨ (holeS s = false ∧ (n != 0) = true))) ∨
    (headT s n m = true ∧ ((holeS s = true ∧ decide (n < 0) = false ∧ decide (0 < m) = false) ∨ (holeS s = false ∧ (n != 0) = false))) := by
  unfold headT
  rw [holeS_size]
  by_cases h0 : s.size = 0
  · rw [decide_eq_true h0, if_pos h0]
    by_cases h1 : 0 ≤ n
    · by_cases h2 : m = 0
      · exact .inr ⟨by simp [h0, h1, h2], .inl ⟨rfl, by simp; omega, by simp; omega⟩⟩
      · exact .inl ⟨by simp [h2], .inl ⟨rfl, .inr ⟨by simp; omega, by simp; omega⟩⟩⟩
    · exact .inl ⟨by simp [h1], .inl ⟨rfl, .inl (by simp; omega)⟩⟩
  · rw [decide_eq_false h0, if_neg h0]
    by_cases h1 : n = 0
    · exact .inr ⟨by simp [h1]; omega, .inr ⟨rfl, by simp [h1]⟩⟩
    · exact .inl ⟨by simp [h1], .inr ⟨rfl, by simpa using h1⟩⟩

set_option maxHeartbeats 1600000 in
set_option maxRecDepth 100000 in
theorem r08_sound : ∀ (e : Ty) (v : Value) (most : Int) (w : World), IsTy w v e → -1000 ≤ most → most ≤ 1000 →
    Calls Tryz.prog 104 #[v, .int .i64 most] w fun r w' => r = .returned (.bool (sndT e most)) ∧ Below w.heap.size w w' := by
  refine Ty.ind fun s n l ih v most w hv h0 h9 => ?_
  obtain ⟨a1, c1, rfl, _, hn, hs, hl, hr⟩ := hv.open
  unfold lenMax at hs hl
  have hB0 : Below (w.heap.size + 1) (w.alloc (.cells #[.string s, .int .i64 n, .slice a1 l.length c1] 25)) (w.alloc (.cells #[.string s, .int .i64 n, .slice a1 l.length c1] 25)) := Below.refl _ _
  obtain ⟨k0, k1, k2⟩ := box3 hB0
  have hr' := Lib.hid hr
  have ih' := Lib.hid ih
  have hH : Hid (∀ V, Below (w.heap.size + 1) (w.alloc (.cells #[.string s, .int .i64 n, .slice a1 l.length c1] 25)) V → Calls Tryz.prog 180 #[.agg #[.string s, .int .i64 n, .slice a1 l.length c1]] V fun r V' => r = .returned (.bool (holeS s)) ∧ Below (w.heap.size + 1) (w.alloc (.cells #[.string s, .int .i64 n, .slice a1 l.length c1] 25)) V') := fun V hV => by
    refine (r08_hole s n a1 l.length c1 V).mono ?_
    rintro r V' ⟨hr, hB⟩
    exact ⟨hr, hV.trans (hB.mono (size_box hV))⟩
  clear hv hr ih
  by_cases hm : most ≤ 0
  · go_enter Tryz.func104, Tryz.ntmps104
    go_wp2_with fail
    go_ret
    exact ⟨ret_bool (by rw [sndT, decide_eq_false (by omega)]; rfl), below_box hB0⟩
  by_cases hk : 20 < s.size
  · go_enter Tryz.func104, Tryz.ntmps104
    go_wp2_with fail
    go_ret
    exact ⟨ret_bool (by rw [sndT, show headT s n l.length = false from by unfold headT; rw [decide_eq_false (p := s.size ≤ 20) (by omega)]; rfl, Bool.and_false]; rfl), below_box hB0⟩
  have hk1 : decide ((20 : Int) < (s.size : Int)) = false := by simp; omega
  have hk2 : decide (most ≤ 0) = false := by simp; omega
  rcases head_cases s n l.length hk with ⟨hH0, hq⟩ | ⟨hH0, hq⟩
  · have hF : Hid (sndT (.mk s n l) most = false) := by unfold Hid; rw [sndT, hH0, Bool.and_false]; rfl
    clear hH0
    rcases hq with ⟨hq, hq2⟩ | ⟨hq, hq2⟩
    · rw [hq] at hH
      clear hq
      rcases hq2 with hq2 | ⟨hq2, hq3⟩
      all_goals
        go_enter Tryz.func104, Tryz.ntmps104
        go_wp2_with fail
        refine (hH.out _ hB0).mono ?_
        rintro e w1 ⟨rfl, hC1⟩
        clear k0 k1 k2
        obtain ⟨k0, k1, k2⟩ := box3 hC1
        go_wp2_with fail
        go_ret
        exact ⟨ret_bool hF.out.symm, below_box hC1⟩
    · rw [hq] at hH
      clear hq
      go_enter Tryz.func104, Tryz.ntmps104
      go_wp2_with fail
      refine (hH.out _ hB0).mono ?_
      rintro e w1 ⟨rfl, hC1⟩
      clear k0 k1 k2
      obtain ⟨k0, k1, k2⟩ := box3 hC1
      go_wp2_with fail
      refine (hH.out _ hC1).mono ?_
      rintro e w2 ⟨rfl, hC2⟩
      clear k0 k1 k2
      obtain ⟨k0, k1, k2⟩ := box3 hC2
      go_wp2_with fail
      go_ret
      exact ⟨ret_bool hF.out.symm, below_box hC2⟩
  · have hT : Hid (sndT (.mk s n l) most = l.all fun e => sndT e (most - 1)) := by unfold Hid; rw [sndT, hH0, sndT_all, decide_eq_true (by omega)]; rfl
    clear hH0
    rcases hq with ⟨hq, hq2, hq3⟩ | ⟨hq, hq2⟩
    all_goals
      rw [hq] at hH
      clear hq
      go_enter Tryz.func104, Tryz.ntmps104
      go_wp2_with fail
      refine (hH.out _ hB0).mono ?_
      rintro e w1 ⟨rfl, hC1⟩
      clear k0 k1 k2
      obtain ⟨k0, k1, k2⟩ := box3 hC1
      go_wp2_with fail
      refine (hH.out _ hC1).mono ?_
      rintro e w2 ⟨rfl, hC2⟩
      clear k0 k1 k2
      obtain ⟨k0, k1, k2⟩ := box3 hC2
      go_wp2_with fail
      go_loopw [5] (fun i wr => ∃ k : Nat, k ≤ l.length ∧ i = .int .i64 k ∧ Hid (∀ j (hj : j < k) (hl : j < l.length), sndT l[j] (most - 1) = true) ∧ Below (w.heap.size+1) (w.alloc (.cells #[.string s, .int .i64 n, .slice a1 l.length c1] 25)) wr) (fun i _ => l.length - (intOf i).toNat)
      case atStart => exact ⟨0, by omega, rfl, fun j hj => by omega, hC2⟩
      case round =>
        clear k0 k1 k2 hC1 hC2
        obtain ⟨k, hk, rfl, hall, hB⟩ := hrel
        obtain ⟨q0, q1, q2⟩ := box3 hB
        have hz := size_box hB
        by_cases h1 : k < l.length
        · obtain ⟨b, off, rfl, harg⟩ := (hr'.out.keeps (keeps_box hB)).arg (by rintro rfl; simp at h1)
          obtain ⟨a2, c2, g0, g1, g2, ge⟩ := harg k h1
          have hcall := Lib.hid (ih'.out _ (List.getElem_mem h1) _ (most - 1) wr ge (by omega) (by omega))
          clear ge harg
          cases h3 : sndT l[k] (most - 1)
          · rw [h3] at hcall
            have h3' := Lib.hid h3
            clear h3
            go_wp2_with fail
            refine hcall.out.mono ?_
            rintro e w1 ⟨rfl, hB1⟩
            go_wp2_with fail
            go_ret
            exact ⟨ret_bool (by rw [hT.out, all_not h1 h3'.out]), below_box (hB.trans (hB1.mono hz))⟩
          · rw [h3] at hcall
            have h3' := Lib.hid h3
            clear h3
            go_wp2_with fail
            refine hcall.out.mono ?_
            rintro e w1 ⟨rfl, hB1⟩
            have hB1' := hB.trans (hB1.mono hz)
            clear hB1
            go_wp2_with fail
            go_roundw
            case rel => exact ⟨k + 1, by omega, by go_num, fun j hj hl => by
              rcases Nat.lt_or_ge j k with h | h
              · exact hall.out j h hl
              · obtain rfl : j = k := by omega
                exact h3'.out, hB1'⟩
            case measure => simp [intOf]; omega
        · go_wp2_with fail
          go_ret
          exact ⟨ret_bool (by rw [hT.out, all_take (fun j hj => hall.out j (by omega) hj)]), below_box hB⟩

theorem r08_Check (e : Ty) (v : Value) (w : World) (hv : IsTy w v e) : Calls Tryz.prog 54 #[v] w fun r w' => r = .returned (.bool (chkT e)) ∧ Below w.heap.size w w' := by
  have hv0 := hv
  obtain ⟨s, n, l⟩ := e
  obtain ⟨a1, c1, rfl, _⟩ := hv.open
  have hB0 : Below (w.heap.size + 1) (w.alloc (.cells #[.string s, .int .i64 n, .slice a1 l.length c1] 25)) (w.alloc (.cells #[.string s, .int .i64 n, .slice a1 l.length c1] 25)) := Below.refl _ _
  obtain ⟨k0, k1, k2⟩ := box3 hB0
  have hp := Lib.hid (r08_parts _ _ 2000 _ (hv0.below (below_box hB0)) (by omega) (by omega))
  have hs := Lib.hid (fun V (hV : Below (w.heap.size + 1) (w.alloc (.cells #[.string s, .int .i64 n, .slice a1 l.length c1] 25)) V) => r08_sound _ _ 60 V (hv0.below (below_box hV)) (by omega) (by omega))
  have hp1 := tcnt_pos (.mk s n l)
  have hc : Hid (chkT (.mk s n l) = (decide (tcnt (.mk s n l) ≤ 2000) && sndT (.mk s n l) 60)) := rfl
  generalize tcnt (.mk s n l) = c at hp hp1 hc
  clear hv hv0
  by_cases h : c ≤ 2000
  · have hm : min (c : Int) (2000 + 1) = c := by omega
    rw [hm] at hp
    rw [decide_eq_true h, Bool.true_and] at hc
    have h' : (c : Int) ≤ 2000 := by omega
    clear hm h
    cases hq : sndT (.mk s n l) 60
    all_goals
      rw [hq] at hs hc
      clear hq
      go_enter Tryz.func54, Tryz.ntmps54
      go_wp2_with fail
      refine hp.out.mono ?_
      rintro e w1 ⟨rfl, hB1⟩
      have hC1 := hB1.mono (B' := w.heap.size + 1) (by simp)
      clear hB1 k0 k1 k2
      obtain ⟨k0, k1, k2⟩ := box3 hC1
      go_wp2_with fail
      refine (hs.out _ hC1).mono ?_
      rintro e w2 ⟨rfl, hB2⟩
      go_wp2_with fail
      go_ret
      exact ⟨ret_bool hc.out.symm, below_box (hC1.trans (hB2.mono (size_box hC1)))⟩
  · have hm : min (c : Int) (2000 + 1) = 2001 := by omega
    rw [hm] at hp
    rw [decide_eq_false h, Bool.false_and] at hc
    clear hm
    go_enter Tryz.func54, Tryz.ntmps54
    go_wp2_with fail
    refine hp.out.mono ?_
    rintro e w1 ⟨rfl, hB1⟩
    have hC1 := hB1.mono (B' := w.heap.size + 1) (by simp)
    go_wp2_with fail
    go_ret
    exact ⟨ret_bool hc.out.symm, below_box hC1⟩

theorem r08_Few (e : Ty) (v : Value) (w : World) (hv : IsTy w v e) : Calls Tryz.prog 14 #[v] w fun r w' => r = .returned (.bool (fewT e)) ∧ Below w.heap.size w w' := by
  have hv0 := hv
  obtain ⟨s, n, l⟩ := e
  obtain ⟨a1, c1, rfl, _⟩ := hv.open
  have hB0 : Below (w.heap.size + 1) (w.alloc (.cells #[.string s, .int .i64 n, .slice a1 l.length c1] 25)) (w.alloc (.cells #[.string s, .int .i64 n, .slice a1 l.length c1] 25)) := Below.refl _ _
  obtain ⟨k0, k1, k2⟩ := box3 hB0
  have hp := Lib.hid (r08_parts _ _ 300 _ (hv0.below (below_box hB0)) (by omega) (by omega))
  have hs := Lib.hid (fun V (hV : Below (w.heap.size + 1) (w.alloc (.cells #[.string s, .int .i64 n, .slice a1 l.length c1] 25)) V) => r08_deep _ _ 70 V (hv0.below (below_box hV)) (by omega) (by omega))
  have ht := Lib.hid (fun V (hV : Below (w.heap.size + 1) (w.alloc (.cells #[.string s, .int .i64 n, .slice a1 l.length c1] 25)) V) => r08_short _ _ V (hv0.below (below_box hV)))
  have hp1 := tcnt_pos (.mk s n l)
  have hc : Hid (fewT (.mk s n l) = (decide (tcnt (.mk s n l) ≤ 300) && deepB (.mk s n l) 70 && shortT (.mk s n l))) := rfl
  generalize tcnt (.mk s n l) = c at hp hp1 hc
  clear hv hv0
  by_cases h : c ≤ 300
  · have hm : min (c : Int) (300 + 1) = c := by omega
    rw [hm] at hp
    rw [decide_eq_true h, Bool.true_and] at hc
    have h' : (c : Int) ≤ 300 := by omega
    clear hm h
    cases hq : deepB (.mk s n l) 70
    · rw [hq] at hs hc
      clear hq
      go_enter Tryz.func14, Tryz.ntmps14
      go_wp2_with fail
      refine hp.out.mono ?_
      rintro e w1 ⟨rfl, hB1⟩
      have hC1 := hB1.mono (B' := w.heap.size + 1) (by simp)
      clear hB1 k0 k1 k2
      obtain ⟨k0, k1, k2⟩ := box3 hC1
      go_wp2_with fail
      refine (hs.out _ hC1).mono ?_
      rintro e w2 ⟨rfl, hB2⟩
      go_wp2_with fail
      go_ret
      exact ⟨ret_bool hc.out.symm, below_box (hC1.trans (hB2.mono (size_box hC1)))⟩
    · rw [hq, Bool.true_and] at hc
      rw [hq] at hs
      clear hq
      cases hq : shortT (.mk s n l)
      all_goals
        rw [hq] at ht hc
        clear hq
        go_enter Tryz.func14, Tryz.ntmps14
        go_wp2_with fail
        refine hp.out.mono ?_
        rintro e w1 ⟨rfl, hB1⟩
        have hC1 := hB1.mono (B' := w.heap.size + 1) (by simp)
        clear hB1 k0 k1 k2
        obtain ⟨k0, k1, k2⟩ := box3 hC1
        go_wp2_with fail
        refine (hs.out _ hC1).mono ?_
        rintro e w2 ⟨rfl, hB2⟩
        have hC2 := hC1.trans (hB2.mono (size_box hC1))
        clear hB2 k0 k1 k2
        obtain ⟨k0, k1, k2⟩ := box3 hC2
        go_wp2_with fail
        refine (ht.out _ hC2).mono ?_
        rintro e w3 ⟨rfl, hB3⟩
        go_wp2_with fail
        go_ret
        exact ⟨ret_bool hc.out.symm, below_box (hC2.trans (hB3.mono (size_box hC2)))⟩
  · have hm : min (c : Int) (300 + 1) = 301 := by omega
    rw [hm] at hp
    rw [decide_eq_false h, Bool.false_and, Bool.false_and] at hc
    clear hm
    go_enter Tryz.func14, Tryz.ntmps14
    go_wp2_with fail
    refine hp.out.mono ?_
    rintro e w1 ⟨rfl, hB1⟩
    have hC1 := hB1.mono (B' := w.heap.size + 1) (by simp)
    go_wp2_with fail
    go_ret
    exact ⟨ret_bool hc.out.symm, below_box hC1⟩
end Go.Proofs.YtnfclcfcpgfajaaGreatDoor

/- May a type be, by the program. -/
namespace Go.Proofs.YtnfclcfcpgfajaaGreatDoor
open Go.RowKit

theorem ty_hole (s : Str) (n : Int) (a : Option Addr) (m c : Nat) (w : World) : Calls Tryz.prog 133 #[.agg #[.string s, .int .i64 n, .slice a m c]] w fun r w' => r = .returned (.bool (holeS s)) ∧ Below w.heap.size w w' := by
  have hB0 : Below (w.heap.size + 1) (w.alloc (.cells #[.string s, .int .i64 n, .slice a m c] 25)) (w.alloc (.cells #[.string s, .int .i64 n, .slice a m c] 25)) := Below.refl _ _
  go_enter Tryz.func133, Tryz.ntmps133
  go_wp2_with fail
  go_ret
  exact ⟨ret_bool (by unfold holeS; first | rfl | simp), below_box hB0⟩

theorem ret_nb {a b : Int} {c d : Bool} (h : a = b) (h' : c = d) : Ending.returned (.tuple #[.int .i64 a, .bool c]) = .returned (.tuple #[.int .i64 b, .bool d]) := by rw [h, h']

/-- Whether a type is, of at most such a depth, and how many parts are left of so many. -/
def sndP : Ty → Int → Int → Int × Bool
  | .mk s n l, d, x => if 0 < d ∧ 0 ≤ x - 1 ∧ headT s n l.length = true then sndPL l (d - 1) (x - 1) else (x - 1, false)
where sndPL : List Ty → Int → Int → Int × Bool
  | [], _, x => (x, true)
  | e :: r, d, x => if (sndP e d x).2 = true then sndPL r d (sndP e d x).1 else sndP e d x

theorem sndPL_append (a b : List Ty) (d x : Int) : sndP.sndPL (a ++ b) d x = if (sndP.sndPL a d x).2 = true then sndP.sndPL b d (sndP.sndPL a d x).1 else sndP.sndPL a d x := by
  induction a generalizing x with
  | nil => simp [sndP.sndPL]
  | cons e r ih =>
    have h1 : sndP.sndPL (e :: r) d x = if (sndP e d x).2 = true then sndP.sndPL r d (sndP e d x).1 else sndP e d x := rfl
    have h2 : sndP.sndPL (e :: r ++ b) d x = if (sndP e d x).2 = true then sndP.sndPL (r ++ b) d (sndP e d x).1 else sndP e d x := rfl
    cases h : (sndP e d x).2
    · rw [h] at h1 h2
      simp only [Bool.false_eq_true, if_false] at h1 h2
      rw [h2, h1, h]; simp
    · rw [h] at h1 h2
      simp only [if_true] at h1 h2
      rw [h2, h1, ih]
theorem sndPL_snoc {l : List Ty} {k : Nat} (hk : k < l.length) {d x m : Int} (h : sndP.sndPL (l.take k) d x = (m, true)) : sndP.sndPL (l.take (k + 1)) d x = sndP l[k] d m := by
  rw [List.take_succ_eq_append_getElem hk, sndPL_append, h]
  simp only [sndP.sndPL, if_true]
  by_cases h2 : (sndP l[k] d m).2 = true
  · rw [if_pos h2]; exact Prod.ext rfl h2.symm
  · rw [if_neg h2]
theorem sndPL_stop {l : List Ty} {k : Nat} (hk : k < l.length) {d x m y : Int} (h : sndP.sndPL (l.take k) d x = (m, true)) (h2 : sndP l[k] d m = (y, false)) : sndP.sndPL l d x = (y, false) := by
  have e : l = l.take (k + 1) ++ l.drop (k + 1) := (List.take_append_drop _ _).symm
  rw [e, sndPL_append, sndPL_snoc hk h, h2]; simp
/-- What it says: a type that is, of at most so many parts. -/
theorem sndP_eq : ∀ (e : Ty) (d x : Int), 0 ≤ x → ((sndT e d = true ∧ (tcnt e : Int) ≤ x) → sndP e d x = (x - tcnt e, true)) ∧ (¬ (sndT e d = true ∧ (tcnt e : Int) ≤ x) → (sndP e d x).2 = false ∧ -1 ≤ (sndP e d x).1 ∧ (sndP e d x).1 ≤ x) := by
  refine Ty.ind fun s n l ih d x hx => ?_
  have hL : ∀ (r : List Ty) (x : Int), (∀ e ∈ r, e ∈ l) → 0 ≤ x → (((r.all fun e => sndT e (d - 1)) = true ∧ (tcnt.cntL r : Int) ≤ x) → sndP.sndPL r (d - 1) x = (x - tcnt.cntL r, true)) ∧ (¬ ((r.all fun e => sndT e (d - 1)) = true ∧ (tcnt.cntL r : Int) ≤ x) → (sndP.sndPL r (d - 1) x).2 = false ∧ -1 ≤ (sndP.sndPL r (d - 1) x).1 ∧ (sndP.sndPL r (d - 1) x).1 ≤ x) := by
    intro r
    induction r with
    | nil => intro x _ hx; simp [sndP.sndPL, tcnt.cntL, hx]
    | cons e r ihr =>
      intro x hm hx
      have he := ih e (hm e (by simp)) (d - 1) x hx
      have hp := tcnt_pos e
      simp only [List.all_cons, Bool.and_eq_true, tcnt.cntL, sndP.sndPL]
      by_cases h1 : sndT e (d - 1) = true ∧ (tcnt e : Int) ≤ x
      · have h2 := he.1 h1
        rw [h2]
        simp only [if_true]
        have h3 := ihr (x - tcnt e) (fun y hy => hm y (by simp [hy])) (by omega)
        constructor
        · rintro ⟨⟨h4, h5⟩, h6⟩
          rw [h3.1 ⟨h5, by omega⟩]
          refine Prod.ext ?_ rfl
          simp only; omega
        · intro h4
          have h5 := h3.2 (fun h5 => h4 ⟨⟨h1.1, h5.1⟩, by omega⟩)
          exact ⟨h5.1, h5.2.1, by omega⟩
      · have h2 := he.2 h1
        rw [if_neg (by rw [h2.1]; simp)]
        constructor
        · rintro ⟨⟨h4, h5⟩, h6⟩
          exact (h1 ⟨h4, by omega⟩).elim
        · intro _; exact h2
  have h1 := hL l (x - 1) (fun _ h => h)
  simp only [sndT, sndT_all, tcnt, sndP, Bool.and_eq_true, decide_eq_true_eq]
  by_cases h2 : 0 < d ∧ 0 ≤ x - 1 ∧ headT s n l.length = true
  · rw [if_pos h2]
    have h3 := h1 h2.2.1
    constructor
    · rintro ⟨⟨_, h4⟩, h5⟩
      rw [h3.1 ⟨h4, by omega⟩]
      refine Prod.ext ?_ rfl
      simp only; omega
    · intro h4
      have h5 := h3.2 (fun h5 => h4 ⟨⟨⟨h2.1, h2.2.2⟩, h5.1⟩, by omega⟩)
      exact ⟨h5.1, h5.2.1, by omega⟩
  · rw [if_neg h2]
    constructor
    · rintro ⟨⟨⟨h4, h5⟩, h6⟩, h7⟩
      exact (h2 ⟨h4, by omega, h5⟩).elim
    · intro _; exact ⟨rfl, by simp only; omega, by simp only; omega⟩
theorem sndP_ge {e : Ty} {d x y : Int} (hx : 0 ≤ x) (h : sndP e d x = (y, true)) : 0 ≤ y ∧ y ≤ x := by
  have h1 := sndP_eq e d x hx
  by_cases h2 : sndT e d = true ∧ (tcnt e : Int) ≤ x
  · rw [h1.1 h2] at h
    have := tcnt_pos e
    simp only [Prod.mk.injEq, and_true] at h
    omega
  · have := (h1.2 h2).1
    rw [h] at this; simp at this

set_option maxHeartbeats 1600000 in
set_option maxRecDepth 100000 in
theorem ty_sound : ∀ (e : Ty) (v : Value) (d x : Int) (w : World), IsTy w v e → -1000 ≤ d → d ≤ 1000 → 0 ≤ x → x ≤ 1000000 →
    Calls Tryz.prog 73 #[v, .int .i64 d, .int .i64 x] w fun r w' => r = .returned (.tuple #[.int .i64 (sndP e d x).1, .bool (sndP e d x).2]) ∧ Below w.heap.size w w' := by
  refine Ty.ind fun s n l ih v d x w hv h0 h9 hx0 hx9 => ?_
  obtain ⟨a1, c1, rfl, _, hn, hs, hl, hr⟩ := hv.open
  unfold lenMax at hs hl
  have hB0 : Below (w.heap.size + 1) (w.alloc (.cells #[.string s, .int .i64 n, .slice a1 l.length c1] 25)) (w.alloc (.cells #[.string s, .int .i64 n, .slice a1 l.length c1] 25)) := Below.refl _ _
  obtain ⟨k0, k1, k2⟩ := box3 hB0
  have hr' := Lib.hid hr
  have ih' := Lib.hid ih
  have hH : Hid (∀ V, Below (w.heap.size + 1) (w.alloc (.cells #[.string s, .int .i64 n, .slice a1 l.length c1] 25)) V → Calls Tryz.prog 133 #[.agg #[.string s, .int .i64 n, .slice a1 l.length c1]] V fun r V' => r = .returned (.bool (holeS s)) ∧ Below (w.heap.size + 1) (w.alloc (.cells #[.string s, .int .i64 n, .slice a1 l.length c1] 25)) V') := fun V hV => by
    refine (ty_hole s n a1 l.length c1 V).mono ?_
    rintro r V' ⟨hr, hB⟩
    exact ⟨hr, hV.trans (hB.mono (size_box hV))⟩
  clear hv hr ih
  by_cases hm : d ≤ 0
  · have hF : Hid (sndP (.mk s n l) d x = (x - 1, false)) := by unfold Hid; rw [sndP, if_neg (by omega)]
    go_enter Tryz.func73, Tryz.ntmps73
    go_wp2_with fail
    go_ret2
    exact ⟨ret_nb (by rw [hF.out]) (by rw [hF.out]), below_box hB0⟩
  by_cases hx1 : x - 1 < 0
  · have hF : Hid (sndP (.mk s n l) d x = (x - 1, false)) := by unfold Hid; rw [sndP, if_neg (by omega)]
    go_enter Tryz.func73, Tryz.ntmps73
    go_wp2_with fail
    go_ret2
    exact ⟨ret_nb (by rw [hF.out]) (by rw [hF.out]), below_box hB0⟩
  by_cases hk : 20 < s.size
  · have hF : Hid (sndP (.mk s n l) d x = (x - 1, false)) := by
      unfold Hid; rw [sndP, if_neg]
      rw [show headT s n l.length = false from by unfold headT; rw [decide_eq_false (p := s.size ≤ 20) (by omega)]; rfl]
      simp
    go_enter Tryz.func73, Tryz.ntmps73
    go_wp2_with fail
    go_ret2
    exact ⟨ret_nb (by rw [hF.out]) (by rw [hF.out]), below_box hB0⟩
  have hk1 : decide ((20 : Int) < (s.size : Int)) = false := by simp; omega
  have hk2 : decide (d ≤ 0) = false := by simp; omega
  rcases head_cases s n l.length hk with ⟨hH0, hq⟩ | ⟨hH0, hq⟩
  · have hF : Hid (sndP (.mk s n l) d x = (x - 1, false)) := by unfold Hid; rw [sndP, if_neg]; rw [hH0]; simp
    clear hH0
    rcases hq with ⟨hq, hq2⟩ | ⟨hq, hq2⟩
    · rw [hq] at hH
      clear hq
      rcases hq2 with hq2 | ⟨hq2, hq3⟩
      all_goals
        go_enter Tryz.func73, Tryz.ntmps73
        go_wp2_with fail
        refine (hH.out _ hB0).mono ?_
        rintro e w1 ⟨rfl, hC1⟩
        clear k0 k1 k2
        obtain ⟨k0, k1, k2⟩ := box3 hC1
        go_wp2_with fail
        go_ret2
        exact ⟨ret_nb (by rw [hF.out]) (by rw [hF.out]), below_box hC1⟩
    · rw [hq] at hH
      clear hq
      go_enter Tryz.func73, Tryz.ntmps73
      go_wp2_with fail
      refine (hH.out _ hB0).mono ?_
      rintro e w1 ⟨rfl, hC1⟩
      clear k0 k1 k2
      obtain ⟨k0, k1, k2⟩ := box3 hC1
      go_wp2_with fail
      refine (hH.out _ hC1).mono ?_
      rintro e w2 ⟨rfl, hC2⟩
      clear k0 k1 k2
      obtain ⟨k0, k1, k2⟩ := box3 hC2
      go_wp2_with fail
      go_ret2
      exact ⟨ret_nb (by rw [hF.out]) (by rw [hF.out]), below_box hC2⟩
  · have hT : Hid (sndP (.mk s n l) d x = sndP.sndPL l (d - 1) (x - 1)) := by unfold Hid; rw [sndP, if_pos ⟨by omega, by omega, hH0⟩]
    clear hH0
    rcases hq with ⟨hq, hq2, hq3⟩ | ⟨hq, hq2⟩
    all_goals
      rw [hq] at hH
      clear hq
      go_enter Tryz.func73, Tryz.ntmps73
      go_wp2_with fail
      refine (hH.out _ hB0).mono ?_
      rintro e w1 ⟨rfl, hC1⟩
      clear k0 k1 k2
      obtain ⟨k0, k1, k2⟩ := box3 hC1
      go_wp2_with fail
      refine (hH.out _ hC1).mono ?_
      rintro e w2 ⟨rfl, hC2⟩
      clear k0 k1 k2
      obtain ⟨k0, k1, k2⟩ := box3 hC2
      go_wp2_with fail
      go_loopw [2, 8, 54] (fun y o i wr => ∃ (k : Nat) (m : Int) (bb : Bool), k ≤ l.length ∧ i = .int .i64 k ∧ y = .int .i64 m ∧ o = .bool bb ∧ 0 ≤ m ∧ m ≤ x ∧ Hid (sndP.sndPL (l.take k) (d - 1) (x - 1) = (m, true)) ∧ Below (w.heap.size+1) (w.alloc (.cells #[.string s, .int .i64 n, .slice a1 l.length c1] 25)) wr) (fun _ _ i _ => l.length - (intOf i).toNat)
      case atStart => exact ⟨0, x - 1, true, by omega, rfl, rfl, rfl, by omega, by omega, rfl, hC2⟩
      case round =>
        clear k0 k1 k2 hC1 hC2
        obtain ⟨k, m, bb, hk, rfl, rfl, rfl, hm0, hmx, hall, hB⟩ := hrel
        obtain ⟨q0, q1, q2⟩ := box3 hB
        have hz := size_box hB
        by_cases h1 : k < l.length
        · obtain ⟨b, off, rfl, harg⟩ := (hr'.out.keeps (keeps_box hB)).arg (by rintro rfl; simp at h1)
          obtain ⟨a2, c2, g0, g1, g2, ge⟩ := harg k h1
          have hBa := hB.alloc hz (.cells #[.string l[k].name, .int .i64 l[k].n, .slice a2 l[k].args.length c2] 25)
          have hcall := Lib.hid (ih'.out _ (List.getElem_mem h1) _ (d - 1) m _ (ge.below ((Below.refl _ _).alloc (Nat.le_refl _) (.cells #[.string l[k].name, .int .i64 l[k].n, .slice a2 l[k].args.length c2] 25))) (by omega) (by omega) hm0 (by omega))
          clear ge harg
          obtain ⟨y, ob, hp⟩ : ∃ y ob, sndP l[k] (d - 1) m = (y, ob) := ⟨_, _, rfl⟩
          rw [hp] at hcall
          cases ob
          · have hst := Lib.hid (sndPL_stop h1 hall.out hp)
            clear hp
            go_wp2_with fail
            refine hcall.out.mono ?_
            rintro e w1 ⟨rfl, hB1⟩
            go_wp2_with fail
            go_ret2
            exact ⟨ret_nb (by rw [hT.out, hst.out]) (by rw [hT.out, hst.out]), below_box (hBa.trans (hB1.mono (by simp; omega)))⟩
          · have hst := Lib.hid ((sndPL_snoc h1 hall.out).trans hp)
            have hy := sndP_ge hm0 hp
            clear hp
            go_wp2_with fail
            refine hcall.out.mono ?_
            rintro e w1 ⟨rfl, hB1⟩
            have hB1' := hBa.trans (hB1.mono (by simp; omega))
            clear hB1
            go_wp2_with fail
            go_roundw
            case rel => exact ⟨k + 1, y, true, by omega, by go_num, rfl, rfl, by omega, by omega, hst, hB1'⟩
            case measure => simp [intOf]; omega
        · have e : k = l.length := by omega
          have hT2 : Hid (sndP (.mk s n l) d x = (m, true)) := by
            unfold Hid
            have := hall.out
            rw [e, List.take_length] at this
            rw [hT.out, this]
          clear e
          go_wp2_with fail
          go_ret2
          exact ⟨ret_nb (by rw [hT2.out]) (by rw [hT2.out]), below_box hB⟩

theorem ty_Check (e : Ty) (v : Value) (w : World) (hv : IsTy w v e) : Calls Tryz.prog 30 #[v] w fun r w' => r = .returned (.bool (chkT e)) ∧ Below w.heap.size w w' := by
  have hv0 := hv
  obtain ⟨s, n, l⟩ := e
  obtain ⟨a1, c1, rfl, _⟩ := hv.open
  have hB0 : Below (w.heap.size + 1) (w.alloc (.cells #[.string s, .int .i64 n, .slice a1 l.length c1] 25)) (w.alloc (.cells #[.string s, .int .i64 n, .slice a1 l.length c1] 25)) := Below.refl _ _
  obtain ⟨k0, k1, k2⟩ := box3 hB0
  have hs := Lib.hid (ty_sound _ _ 60 2000 _ (hv0.below (below_box hB0)) (by omega) (by omega) (by omega) (by omega))
  have hc : Hid (chkT (.mk s n l) = (sndP (.mk s n l) 60 2000).2) := by
    unfold Hid chkT
    have h := sndP_eq (.mk s n l) 60 2000 (by omega)
    by_cases h1 : sndT (.mk s n l) 60 = true ∧ (tcnt (.mk s n l) : Int) ≤ 2000
    · rw [h.1 h1, h1.1, decide_eq_true (by omega)]; rfl
    · rw [(h.2 h1).1]
      by_cases h2 : sndT (.mk s n l) 60 = true
      · rw [decide_eq_false (fun h3 => h1 ⟨h2, by omega⟩)]; rfl
      · rw [Bool.not_eq_true] at h2; rw [h2, Bool.and_false]
  clear hv hv0
  go_enter Tryz.func30, Tryz.ntmps30
  go_wp2_with fail
  refine hs.out.mono ?_
  rintro e w1 ⟨rfl, hB1⟩
  go_wp2_with fail
  go_ret
  exact ⟨ret_bool hc.out.symm, below_box (hB1.mono (by simp))⟩
end Go.Proofs.YtnfclcfcpgfajaaGreatDoor
