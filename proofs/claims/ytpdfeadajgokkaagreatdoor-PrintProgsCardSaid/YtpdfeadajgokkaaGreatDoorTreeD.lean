/- The program's 'sound'. -/
import Derived.Test.YtpdfeadajgokkaaGreatDoorTreeC
namespace Go.Proofs.YtpdfeadajgokkaaGreatDoor
open Go.RowKit

theorem sndQ_eq (k : Int) (s : Str) (n : Int) (l : List Str) (ks : List Ex) : sndQ (.mk k s n l ks) = (okK k && namedB k s && namesB l && belowB k ks && (if k = 1 then decide (0 ≤ n) else n == 0) && decide (namesK k < 0 ∨ (l.length : Int) = namesK k) && decide (kidsK k = ks.length ∨ (kidsK k < 0 ∧ 0 < ks.length))) := rfl

/-- The box of a struct of four cells. -/
theorem box4 {w wr : World} {v0 v1 v2 v3 : Value} {t : TypeId} (h : Below (w.heap.size + 1) (w.alloc (.cells #[v0, v1, v2, v3] t)) wr) :
    wr.cell? ⟨w.heap.size, 0, none⟩ = some v0 ∧ wr.cell? ⟨w.heap.size, 1, none⟩ = some v1 ∧ wr.cell? ⟨w.heap.size, 2, none⟩ = some v2 ∧ wr.cell? ⟨w.heap.size, 3, none⟩ = some v3 := by
  refine ⟨?_, ?_, ?_, ?_⟩ <;> (rw [h.cell (by simp), World.cell?_alloc_at _ _ _ _ rfl]; rfl)

set_option maxHeartbeats 3200000 in
theorem tree_sound (e : Ex) (v : Value) (w : World) (hv : IsEx w v e) : Calls Tryz.prog 63 #[v] w fun r w' => r = .returned (.bool (sndQ e)) ∧ Below w.heap.size w w' := by
  have hv0 := hv
  cases e with
  | mk k s n l ks =>
  obtain ⟨a1, c1, a2, c2, rfl, _, _, hs, hls, hks, hl, hr⟩ := hv.open
  have hB0 : Below (w.heap.size + 1) (w.alloc (.cells #[.int .i64 k, .string s, .int .i64 n, .slice a1 l.length c1, .slice a2 ks.length c2] 40)) (w.alloc (.cells #[.int .i64 k, .string s, .int .i64 n, .slice a1 l.length c1, .slice a2 ks.length c2] 40)) := Below.refl _ _
  have hQ := Lib.hid (sndQ_eq k s n l ks)
  cases hok : okK k
  · have hx := Lib.hid (show sndQ (.mk k s n l ks) = false by rw [hQ.out, hok]; rfl)
    have hok' := Lib.hid hok
    clear hok hQ
    go_enter Tryz.func63, Tryz.ntmps63
    go_wp2_with fail
    refine (tree_of k _).mono ?_
    rintro e w1 ⟨rfl, hB1⟩
    rw [hok'.out]
    have hB1 := hB0.trans (hB1.mono (by simp))
    go_wp2_with fail
    go_ret
    exact ⟨ret_bool hx.out.symm, below_box (hB1.alloc (size_box hB1) _)⟩
  have hok' := Lib.hid hok
  clear hok
  generalize hnk : namesK k = nk at hQ
  generalize hkk : kidsK k = kk at hQ
  have hnk' := Lib.hid hnk
  have hkk' := Lib.hid hkk
  clear hnk hkk
  cases hnm : namedB k s
  · have hx := Lib.hid (show sndQ (.mk k s n l ks) = false by rw [hQ.out, hnm, Bool.and_false]; rfl)
    have hnm' := Lib.hid hnm
    clear hnm hQ
    go_enter Tryz.func63, Tryz.ntmps63
    go_wp2_with fail
    refine (tree_of k _).mono ?_
    rintro e w1 ⟨rfl, hB1⟩
    rw [hok'.out, hnk'.out, hkk'.out]
    have hB1 := hB0.trans (hB1.mono (by simp))
    have hz1 := size_box hB1
    obtain ⟨b0, b1, b2, b3, b4⟩ := box5 hB1
    have hzz1 : w.heap.size < w1.heap.size := by omega
    go_wp2_with fail
    refine (tree_named k s n _ _ _ _ _ _ _).mono ?_
    rintro e w2 ⟨rfl, hB2⟩
    rw [hnm'.out]
    go_wp2_with fail
    go_ret
    exact ⟨ret_bool hx.out.symm, below_box ((hB1.alloc hz1 _).trans (hB2.mono (by simp; omega)))⟩
  have hnm' := Lib.hid hnm
  clear hnm
  cases hns : namesB l
  · have hx := Lib.hid (show sndQ (.mk k s n l ks) = false by rw [hQ.out, hns, Bool.and_false]; rfl)
    have hns' := Lib.hid hns
    clear hns hQ
    go_enter Tryz.func63, Tryz.ntmps63
    go_wp2_with fail
    refine (tree_of k _).mono ?_
    rintro e w1 ⟨rfl, hB1⟩
    rw [hok'.out, hnk'.out, hkk'.out]
    have hB1 := hB0.trans (hB1.mono (by simp))
    have hz1 := size_box hB1
    obtain ⟨b0, b1, b2, b3, b4⟩ := box5 hB1
    have hzz1 : w.heap.size < w1.heap.size := by omega
    go_wp2_with fail
    refine (tree_named k s n _ _ _ _ _ _ _).mono ?_
    rintro e w2 ⟨rfl, hB2⟩
    rw [hnm'.out]
    have hB2 := (hB1.alloc hz1 _).trans (hB2.mono (by simp; omega))
    clear b0 b1 b2 b3 b4
    obtain ⟨b0, b1, b2, b3, b4⟩ := box5 hB2
    go_wp2_with fail
    refine (tree_names a1 l c1 _ hls (hl.keeps (keeps_box hB2))).mono ?_
    rintro e w3 ⟨rfl, hB3⟩
    rw [hns'.out]
    go_wp2_with fail
    go_ret
    exact ⟨ret_bool hx.out.symm, below_box (hB2.trans (hB3.mono (size_box hB2)))⟩
  have hns' := Lib.hid hns
  clear hns
  cases hbl : belowB k ks
  · have hx := Lib.hid (show sndQ (.mk k s n l ks) = false by rw [hQ.out, hbl, Bool.and_false]; rfl)
    have hbl' := Lib.hid hbl
    clear hbl hQ
    go_enter Tryz.func63, Tryz.ntmps63
    go_wp2_with fail
    refine (tree_of k _).mono ?_
    rintro e w1 ⟨rfl, hB1⟩
    rw [hok'.out, hnk'.out, hkk'.out]
    have hB1 := hB0.trans (hB1.mono (by simp))
    have hz1 := size_box hB1
    obtain ⟨b0, b1, b2, b3, b4⟩ := box5 hB1
    have hzz1 : w.heap.size < w1.heap.size := by omega
    go_wp2_with fail
    refine (tree_named k s n _ _ _ _ _ _ _).mono ?_
    rintro e w2 ⟨rfl, hB2⟩
    rw [hnm'.out]
    have hB2 := (hB1.alloc hz1 _).trans (hB2.mono (by simp; omega))
    clear b0 b1 b2 b3 b4
    obtain ⟨b0, b1, b2, b3, b4⟩ := box5 hB2
    go_wp2_with fail
    refine (tree_names a1 l c1 _ hls (hl.keeps (keeps_box hB2))).mono ?_
    rintro e w3 ⟨rfl, hB3⟩
    rw [hns'.out]
    have hB3 := hB2.trans (hB3.mono (size_box hB2))
    clear b0 b1 b2 b3 b4
    obtain ⟨b0, b1, b2, b3, b4⟩ := box5 hB3
    go_wp2_with fail
    refine (tree_below k s n a1 a2 c1 c2 _ ks _ hks (hr.keeps (keeps_box hB3))).mono ?_
    rintro e w4 ⟨rfl, hB4⟩
    rw [hbl'.out]
    go_wp2_with fail
    go_ret
    exact ⟨ret_bool hx.out.symm, below_box (hB3.trans (hB4.mono (size_box hB3)))⟩
  have hbl' := Lib.hid hbl
  clear hbl
  unfold lenMax at hls hks
  have hrest : sndQ (.mk k s n l ks) = ((if k = 1 then decide (0 ≤ n) else n == 0) && decide (nk < 0 ∨ (l.length : Int) = nk) && decide (kk = ks.length ∨ (kk < 0 ∧ 0 < ks.length))) := by
    rw [hQ.out, hok'.out, hnm'.out, hns'.out, hbl'.out]; rfl
  have hrest' := Lib.hid hrest
  clear hrest hQ
  go_enter Tryz.func63, Tryz.ntmps63
  go_wp2_with fail
  refine (tree_of k _).mono ?_
  rintro e w1 ⟨rfl, hB1⟩
  rw [hok'.out, hnk'.out, hkk'.out]
  have hB1 := hB0.trans (hB1.mono (by simp))
  have hz1 := size_box hB1
  obtain ⟨b0, b1, b2, b3, b4⟩ := box5 hB1
  have hzz1 : w.heap.size < w1.heap.size := by omega
  go_wp2_with fail
  refine (tree_named k s n _ _ _ _ _ _ _).mono ?_
  rintro e w2 ⟨rfl, hB2⟩
  rw [hnm'.out]
  have hS2 : Below (w1.heap.size + 1) (w1.alloc (.cells #[.bool (namedK k), .bool (k == 1), .int .i64 nk, .int .i64 kk] 110)) w2 := by simpa using hB2
  have hB2 := (hB1.alloc hz1 _).trans (hB2.mono (by simp; omega))
  clear b0 b1 b2 b3 b4
  obtain ⟨b0, b1, b2, b3, b4⟩ := box5 hB2
  go_wp2_with fail
  refine (tree_names a1 l c1 _ hls (hl.keeps (keeps_box hB2))).mono ?_
  rintro e w3 ⟨rfl, hB3⟩
  rw [hns'.out]
  have hS3 := hS2.trans (hB3.mono (size_box hS2))
  have hB3 := hB2.trans (hB3.mono (size_box hB2))
  clear b0 b1 b2 b3 b4
  obtain ⟨b0, b1, b2, b3, b4⟩ := box5 hB3
  go_wp2_with fail
  refine (tree_below k s n a1 a2 c1 c2 _ ks _ hks (hr.keeps (keeps_box hB3))).mono ?_
  rintro e w4 ⟨rfl, hB4⟩
  rw [hbl'.out]
  have hS4 := hS3.trans (hB4.mono (size_box hS3))
  have hB4 := hB3.trans (hB4.mono (size_box hB3))
  clear b0 b1 b2 b3 b4
  obtain ⟨b0, b1, b2, b3, b4⟩ := box5 hB4
  obtain ⟨s0, s1, s2, s3⟩ := box4 hS4
  have hend := Lib.hid (below_box hB4)
  clear hB0 hB1 hB2 hB3 hB4 hS2 hS3 hS4 hv hv0 hr hl
  cases h1 : (k == 1)
  · have hk1 : Hid (k ≠ 1) := beq_eq_false_iff_ne.1 h1
    cases hn : (n != 0)
    · have hnum := Lib.hid (show (if k = 1 then decide (0 ≤ n) else n == 0) = true by rw [if_neg hk1.out]; simpa using hn)
      by_cases h2 : 0 ≤ nk
      · cases h3 : ((l.length : Int) != nk)
        · have hn2 := Lib.hid (show decide (nk < 0 ∨ (l.length : Int) = nk) = true by rw [decide_eq_true_eq]; right; simpa using h3)
          cases h4 : (kk == (ks.length : Int))
          · have h4' : Hid (kk ≠ (ks.length : Int)) := beq_eq_false_iff_ne.1 h4
            by_cases h5 : kk < 0
            · go_wp2_with fail
              go_ret
              refine ⟨ret_bool ?_, hend.out⟩
              rw [hrest'.out, hnum.out, hn2.out]
              exact decide_eq_decide.2 (by have := h4'.out; omega)
            · go_wp2_with fail
              go_ret
              refine ⟨ret_bool ?_, hend.out⟩
              rw [hrest'.out, hnum.out, hn2.out, decide_eq_false (by have := h4'.out; omega)]; rfl
          · have h4' : Hid (kk = (ks.length : Int)) := by unfold Hid; simpa using h4
            go_wp2_with fail
            go_ret
            refine ⟨ret_bool ?_, hend.out⟩
            rw [hrest'.out, hnum.out, hn2.out, decide_eq_true (.inl h4'.out)]; rfl
        · have hn2 := Lib.hid (show decide (nk < 0 ∨ (l.length : Int) = nk) = false by
            have h3' := bne_iff_ne.1 h3
            rw [decide_eq_false_iff_not]; omega)
          go_wp2_with fail
          go_ret
          refine ⟨ret_bool ?_, hend.out⟩
          rw [hrest'.out, hn2.out, Bool.and_false]; rfl
      · have hn2 := Lib.hid (show decide (nk < 0 ∨ (l.length : Int) = nk) = true by rw [decide_eq_true_eq]; left; omega)
        cases h4 : (kk == (ks.length : Int))
        · have h4' : Hid (kk ≠ (ks.length : Int)) := beq_eq_false_iff_ne.1 h4
          by_cases h5 : kk < 0
          · go_wp2_with fail
            go_ret
            refine ⟨ret_bool ?_, hend.out⟩
            rw [hrest'.out, hnum.out, hn2.out]
            exact decide_eq_decide.2 (by have := h4'.out; omega)
          · go_wp2_with fail
            go_ret
            refine ⟨ret_bool ?_, hend.out⟩
            rw [hrest'.out, hnum.out, hn2.out, decide_eq_false (by have := h4'.out; omega)]; rfl
        · have h4' : Hid (kk = (ks.length : Int)) := by unfold Hid; simpa using h4
          go_wp2_with fail
          go_ret
          refine ⟨ret_bool ?_, hend.out⟩
          rw [hrest'.out, hnum.out, hn2.out, decide_eq_true (.inl h4'.out)]; rfl
    · have hnum := Lib.hid (show (if k = 1 then decide (0 ≤ n) else n == 0) = false by rw [if_neg hk1.out]; simpa using hn)
      go_wp2_with fail
      go_ret
      refine ⟨ret_bool ?_, hend.out⟩
      rw [hrest'.out, hnum.out]; rfl
  · have hk1 : Hid (k = 1) := by unfold Hid; simpa using h1
    have hnk1 : nk = 0 := by rw [← hnk'.out, hk1.out]; rfl
    have hkk1 : kk = 0 := by rw [← hkk'.out, hk1.out]; rfl
    subst hnk1 hkk1
    by_cases hn : n < 0
    · have hnum := Lib.hid (show (if k = 1 then decide (0 ≤ n) else n == 0) = false by rw [if_pos hk1.out, decide_eq_false (by omega)])
      go_wp2_with fail
      go_ret
      refine ⟨ret_bool ?_, hend.out⟩
      rw [hrest'.out, hnum.out]; rfl
    · have hnum := Lib.hid (show (if k = 1 then decide (0 ≤ n) else n == 0) = true by rw [if_pos hk1.out, decide_eq_true (by omega)])
      cases h3 : ((l.length : Int) != 0)
      · have hn2 := Lib.hid (show decide ((0 : Int) < 0 ∨ (l.length : Int) = 0) = true by rw [decide_eq_true_eq]; right; simpa using h3)
        cases h4 : ((0 : Int) == (ks.length : Int))
        · have h4' : Hid ((0 : Int) ≠ (ks.length : Int)) := beq_eq_false_iff_ne.1 h4
          go_wp2_with fail
          go_ret
          refine ⟨ret_bool ?_, hend.out⟩
          rw [hrest'.out, hnum.out, hn2.out, decide_eq_false (by have := h4'.out; omega)]; rfl
        · have h4' : Hid ((0 : Int) = (ks.length : Int)) := by unfold Hid; simpa using h4
          go_wp2_with fail
          go_ret
          refine ⟨ret_bool ?_, hend.out⟩
          rw [hrest'.out, hnum.out, hn2.out, decide_eq_true (.inl h4'.out)]; rfl
      · have hn2 := Lib.hid (show decide ((0 : Int) < 0 ∨ (l.length : Int) = 0) = false by
          have h3' := bne_iff_ne.1 h3
          rw [decide_eq_false_iff_not]; omega)
        go_wp2_with fail
        go_ret
        refine ⟨ret_bool ?_, hend.out⟩
        rw [hrest'.out, hn2.out, Bool.and_false]; rfl
end Go.Proofs.YtpdfeadajgokkaaGreatDoor
