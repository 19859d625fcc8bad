/- May a written type, a type that is told of, a program be, by the reference? -/
import Derived.Test.YtpdfeadajgokkaaGreatDoorPprog
import Derived.Test.YtpdfeadajgokkaaGreatDoorRtx
import Derived.Test.YtpdfeadajgokkaaGreatDoorUni
namespace Go.Proofs.YtpdfeadajgokkaaGreatDoor
open Go.RowKit

set_option maxHeartbeats 1600000 in
theorem r04_Sig : ∀ (s : Sg) (v : Value) (most : Int) (w : World), IsSg w v s → -900 ≤ most → most ≤ 900 →
    Calls Tryz.prog 89 #[v, .int .i64 most] w fun r w' => r = .returned (.bool (sigB s most)) ∧ Below w.heap.size w w' := by
  refine Sg.ind fun nm l ih v most w hv h0 h9 => ?_
  obtain ⟨a1, c1, rfl, hs, hn, hr⟩ := hv.open
  unfold lenMax at hs hn
  have hB0 : Below (w.heap.size + 1) (w.alloc (.cells #[.string nm, .slice a1 l.length c1] 28)) (w.alloc (.cells #[.string nm, .slice a1 l.length c1] 28)) := Below.refl _ _
  have hbw := Lib.hid (below_box hB0)
  obtain ⟨k0, k1⟩ := box2 hB0
  have hr' := Lib.hid hr
  have ih' := Lib.hid ih
  clear hr ih hv hB0
  have hCon := Lib.hid (fun W => r02_Con nm W)
  have hNm := Lib.hid (fun W => r02_Name nm W)
  by_cases hm : most ≤ 0
  · go_enter Tryz.func89, Tryz.ntmps89
    go_wp2_with fail
    go_ret
    exact ⟨ret_bool (by rw [sigB, decide_eq_false (by omega)]; rfl), hbw.out⟩
  by_cases hk : 40 < l.length
  · go_enter Tryz.func89, Tryz.ntmps89
    go_wp2_with fail
    go_ret
    exact ⟨ret_bool (by rw [sigB, decide_eq_false (p := l.length ≤ 40) (by omega), Bool.and_false]; rfl), hbw.out⟩
  have hq : (headB nm l.length = false ∧ conB nm = false ∧ ((nameB nm = false ∧ ((nm.toList == [45, 62]) = false ∨ ((nm.toList == [45, 62]) = true ∧ ((l.length : Int) == 2) = false))) ∨ (nameB nm = true ∧ ((l.length : Int) == 0) = false ∧ ((nm.toList == [45, 62]) = false ∨ ((nm.toList == [45, 62]) = true ∧ ((l.length : Int) == 2) = false))))) ∨
      (headB nm l.length = true ∧ (conB nm = true ∨ (conB nm = false ∧ ((nameB nm = false ∧ (nm.toList == [45, 62]) = true ∧ ((l.length : Int) == 2) = true) ∨ (nameB nm = true ∧ ((l.length : Int) == 0) = true) ∨ (nameB nm = true ∧ ((l.length : Int) == 0) = false ∧ (nm.toList == [45, 62]) = true ∧ ((l.length : Int) == 2) = true))))) := by
    unfold headB
    cases conB nm <;> cases nameB nm <;> cases (nm.toList == [45, 62]) <;> cases ((l.length : Int) == 0) <;> cases ((l.length : Int) == 2) <;> simp
  rcases hq with ⟨hH, hc, hq⟩ | ⟨hH, hq⟩
  · have hH' := Lib.hid hH
    rw [hc] at hCon
    clear hH hc
    rcases hq with ⟨hq1, hq2 | ⟨hq2, hq3⟩⟩ | ⟨hq1, hq4, hq2 | ⟨hq2, hq3⟩⟩
    all_goals
      rw [hq1] at hNm
      clear hq1
      go_enter Tryz.func89, Tryz.ntmps89
      go_wp2_with fail
      refine (hCon.out _).mono ?_
      rintro e w1 ⟨rfl, hB1⟩
      have hC1 := hB1.mono (B' := w.heap.size + 1) (by simp)
      clear hB1 k0 k1
      obtain ⟨k0, k1⟩ := box2 hC1
      go_wp2_with fail
      refine (hNm.out _).mono ?_
      rintro e w2 ⟨rfl, hB2⟩
      have hC2 := hC1.trans (hB2.mono (size_box hC1))
      clear hB2 k0 k1
      obtain ⟨k0, k1⟩ := box2 hC2
      go_wp2_with fail
      go_ret
      exact ⟨ret_bool (by rw [sigB, hH'.out, Bool.and_false]; rfl), below_box hC2⟩
  · have hH' := Lib.hid hH
    clear hH
    rcases hq with hc | ⟨hc, ⟨hq1, hq2, hq3⟩ | ⟨hq1, hq2⟩ | ⟨hq1, hq2, hq3, hq4⟩⟩
    all_goals
      rw [hc] at hCon
      try rw [hq1] at hNm
      try clear hq1
      clear hc
      go_enter Tryz.func89, Tryz.ntmps89
      go_wp2_with fail
      refine (hCon.out _).mono ?_
      rintro e w1 ⟨rfl, hB1⟩
      have hC1 := hB1.mono (B' := w.heap.size + 1) (by simp)
      clear hB1 k0 k1
      obtain ⟨k0, k1⟩ := box2 hC1
      go_wp2_with fail
      refine (hNm.out _).mono ?_
      rintro e w2 ⟨rfl, hB2⟩
      have hC2 := hC1.trans (hB2.mono (size_box hC1))
      clear hB2 k0 k1
      obtain ⟨k0, k1⟩ := box2 hC2
      go_wp2_with fail
      go_loopw [7] (fun i wr => ∃ k : Nat, k ≤ l.length ∧ i = .int .i64 k ∧ Hid (∀ j (hj : j < k) (hl : j < l.length), sigB l[j] (most - 1) = true) ∧ Below (w.heap.size+1) (w.alloc (.cells #[.string nm, .slice a1 l.length c1] 28)) wr) (fun i _ => l.length - (intOf i).toNat)
      case atStart => exact ⟨0, by omega, rfl, fun j hj => by omega, hC2⟩
      case round =>
        clear k0 k1 hC2 hC1
        obtain ⟨k, hk, rfl, hall, hB⟩ := hrel
        obtain ⟨q0, q1⟩ := box2 hB
        have hz := size_box hB
        by_cases h1 : k < l.length
        · obtain ⟨b, off, rfl, harg⟩ := (hr'.out.keeps (keeps_box hB)).arg (by rintro rfl; simp at h1)
          obtain ⟨a2, c2, g0, g1, ge⟩ := harg k h1
          have hcall := Lib.hid (ih'.out _ (List.getElem_mem h1) _ (most - 1) wr ge (by omega) (by omega))
          clear ge harg
          cases h3 : sigB l[k] (most - 1)
          · rw [h3] at hcall
            have h3' := Lib.hid h3
            clear h3
            go_wp2_with fail
            refine hcall.out.mono ?_
            rintro e w3 ⟨rfl, hB3⟩
            go_wp2_with fail
            go_ret
            refine ⟨ret_bool ?_, below_box (hB.trans (hB3.mono hz))⟩
            have hy : (l.all fun e => sigB e (most - 1)) = false := by
              rw [List.all_eq_false]
              exact ⟨_, List.getElem_mem h1, by rw [h3'.out]; simp⟩
            rw [sigB, sigL_all, hy, Bool.and_false]
          · rw [h3] at hcall
            have h3' := Lib.hid h3
            clear h3
            go_wp2_with fail
            refine hcall.out.mono ?_
            rintro e w3 ⟨rfl, hB3⟩
            have hB3' := hB.trans (hB3.mono hz)
            clear hB3
            go_wp2_with fail
            go_roundw
            case rel => exact ⟨k + 1, by omega, by go_num, fun j hj hl => by
              rcases Nat.lt_or_ge j k with h | h
              · exact hall.out j h hl
              · obtain rfl : j = k := by omega
                exact h3'.out, hB3'⟩
            case measure => simp [intOf]; omega
        · go_wp2_with fail
          go_ret
          refine ⟨ret_bool ?_, below_box hB⟩
          have hy : (l.all fun e => sigB e (most - 1)) = true := by
            rw [List.all_eq_true]
            intro x hx
            obtain ⟨j, hj, rfl⟩ := List.getElem_of_mem hx
            exact hall.out j (by omega) hj
          rw [sigB, sigL_all, hy, hH'.out, decide_eq_true (by omega), decide_eq_true (by omega)]; rfl

set_option maxHeartbeats 1600000 in
set_option maxRecDepth 100000 in
theorem r04_data (d : Dt) (v : Value) (w : World) (hv : IsDt w v d) : Calls Tryz.prog 53 #[v] w fun r w' => r = .returned (.bool (datB d)) ∧ Below w.heap.size w w' := by
  obtain ⟨nm, ps, fs⟩ := d
  obtain ⟨a1, c1, a2, c2, rfl, _, hs, hp, hf, hpr, hfr⟩ := hv
  simp only at hs hp hf hpr hfr
  have hp' := hp
  unfold lenMax at hs hp hf
  have hB0 : Below (w.heap.size + 1) (w.alloc (.cells #[.string nm, .slice a1 ps.length c1, .slice a2 fs.length c2] 49)) (w.alloc (.cells #[.string nm, .slice a1 ps.length c1, .slice a2 fs.length c2] 49)) := Below.refl _ _
  have hbw := Lib.hid (below_box hB0)
  obtain ⟨k0, k1, k2⟩ := box3 hB0
  have hCon := Lib.hid (fun W => r02_Con nm W)
  have hNms : Hid (∀ V, Below w.heap.size w V → Calls Tryz.prog 72 #[.slice a1 ps.length c1, .int .i64 (-1)] V fun r w' => r = .returned (.bool (namesB ps)) ∧ Below V.heap.size V w') := fun V h => by
    have := r04_names a1 ps c1 (-1) V hp' (hpr.keeps (Keeps.of_below h))
    simpa using this
  have hfr' := Lib.hid hfr
  clear hB0 hpr hfr hp'
  cases hc : conB nm
  · have hH : Hid (datB ⟨nm, ps, fs⟩ = false) := by unfold Hid; rw [datB]; show (conB nm && _ && _ && _ && _) = _; rw [hc]; rfl
    rw [hc] at hCon
    clear hc
    go_enter Tryz.func53, Tryz.ntmps53
    go_wp2_with fail
    refine (hCon.out _).mono ?_
    rintro e w1 ⟨rfl, hB1⟩
    go_wp2_with fail
    go_ret
    exact ⟨ret_bool hH.out.symm, hbw.out.trans (hB1.mono (by simp))⟩
  rw [hc] at hCon
  have hc' := Lib.hid hc
  clear hc
  cases hn : namesB ps
  · have hH : Hid (datB ⟨nm, ps, fs⟩ = false) := by unfold Hid; rw [datB]; show (conB nm && namesB ps && _ && _ && _) = _; rw [hc'.out, hn]; rfl
    rw [hn] at hNms
    clear hn
    go_enter Tryz.func53, Tryz.ntmps53
    go_wp2_with fail
    refine (hCon.out _).mono ?_
    rintro e w1 ⟨rfl, hB1⟩
    clear k0 k1 k2
    obtain ⟨k0, k1, k2⟩ := box3 (hB1.mono (by simp))
    have hB1' := hbw.out.trans (hB1.mono (by simp))
    clear hB1
    go_wp2_with fail
    refine (hNms.out _ hB1').mono ?_
    rintro e w2 ⟨rfl, hB2⟩
    go_wp2_with fail
    go_ret
    exact ⟨ret_bool hH.out.symm, hB1'.trans (hB2.mono hB1'.size)⟩
  rw [hn] at hNms
  have hn' := Lib.hid hn
  clear hn
  by_cases hf1 : fs.length < 1
  · have hH : Hid (datB ⟨nm, ps, fs⟩ = false) := by unfold Hid; rw [datB, decide_eq_false (p := 1 ≤ fs.length) (by show ¬ _; omega), Bool.and_false]; rfl
    go_enter Tryz.func53, Tryz.ntmps53
    go_wp2_with fail
    refine (hCon.out _).mono ?_
    rintro e w1 ⟨rfl, hB1⟩
    clear k0 k1 k2
    have hC1 := hB1.mono (B' := w.heap.size + 1) (by simp)
    obtain ⟨k0, k1, k2⟩ := box3 hC1
    have hB1' := hbw.out.trans (hB1.mono (by simp))
    clear hB1
    go_wp2_with fail
    refine (hNms.out _ hB1').mono ?_
    rintro e w2 ⟨rfl, hB2⟩
    have hC2 := hC1.trans (hB2.mono (size_box hC1))
    clear hB2 k0 k1 k2
    obtain ⟨k0, k1, k2⟩ := box3 hC2
    go_wp2_with fail
    go_ret
    exact ⟨ret_bool hH.out.symm, below_box hC2⟩
  by_cases hf2 : 40 < fs.length
  · have hH : Hid (datB ⟨nm, ps, fs⟩ = false) := by unfold Hid; rw [datB, decide_eq_false (p := fs.length ≤ 40) (Nat.not_le.2 hf2), Bool.and_false]; rfl
    go_enter Tryz.func53, Tryz.ntmps53
    go_wp2_with fail
    refine (hCon.out _).mono ?_
    rintro e w1 ⟨rfl, hB1⟩
    clear k0 k1 k2
    have hC1 := hB1.mono (B' := w.heap.size + 1) (by simp)
    obtain ⟨k0, k1, k2⟩ := box3 hC1
    have hB1' := hbw.out.trans (hB1.mono (by simp))
    clear hB1
    go_wp2_with fail
    refine (hNms.out _ hB1').mono ?_
    rintro e w2 ⟨rfl, hB2⟩
    have hC2 := hC1.trans (hB2.mono (size_box hC1))
    clear hB2 k0 k1 k2
    obtain ⟨k0, k1, k2⟩ := box3 hC2
    go_wp2_with fail
    go_ret
    exact ⟨ret_bool hH.out.symm, below_box hC2⟩
  have hH : Hid (datB ⟨nm, ps, fs⟩ = fs.all formB) := by unfold Hid; rw [datB]; show (conB nm && namesB ps && decide (1 ≤ fs.length) && decide (fs.length ≤ 40) && _) = _; rw [hc'.out, hn'.out, decide_eq_true (by omega), decide_eq_true (by omega)]; rfl
  go_enter Tryz.func53, Tryz.ntmps53
  go_wp2_with fail
  refine (hCon.out _).mono ?_
  rintro e w1 ⟨rfl, hB1⟩
  clear k0 k1 k2
  have hC1 := hB1.mono (B' := w.heap.size + 1) (by simp)
  obtain ⟨k0, k1, k2⟩ := box3 hC1
  have hB1' := hbw.out.trans (hB1.mono (by simp))
  clear hB1
  go_wp2_with fail
  refine (hNms.out _ hB1').mono ?_
  rintro e w2 ⟨rfl, hB2⟩
  have hC2 := hC1.trans (hB2.mono (size_box hC1))
  clear hB2 k0 k1 k2
  obtain ⟨k0, k1, k2⟩ := box3 hC2
  go_wp2_with fail
  go_loopw [4] (fun i wr => ∃ k : Nat, k ≤ fs.length ∧ i = .int .i64 k ∧ Hid (∀ j (hj : j < k) (hl : j < fs.length), formB fs[j] = true) ∧ Below (w.heap.size + 1) (w.alloc (.cells #[.string nm, .slice a1 ps.length c1, .slice a2 fs.length c2] 49)) wr) (fun i _ => fs.length - (intOf i).toNat)
  case atStart => exact ⟨0, by omega, rfl, fun j hj => by omega, hC2⟩
  case round =>
    clear k0 k1 k2 hC2 hC1 hB1'
    obtain ⟨k, hk, rfl, hall, hB⟩ := hrel
    obtain ⟨q0, q1, q2⟩ := box3 hB
    have hz := size_box hB
    by_cases h1 : k < fs.length
    · obtain ⟨b, off, rfl, harg⟩ := (hfr'.out.keeps (keeps_box hB)).arg (by rintro rfl; simp at h1)
      obtain ⟨a3, c3, g0, g1, ge⟩ := harg k h1
      have hBa := hB.alloc hz (.cells #[.string fs[k].name, .slice a3 fs[k].args.length c3] 46)
      obtain ⟨f, hfk⟩ : ∃ f, fs[k] = f := ⟨_, rfl⟩
      have hfk' := Lib.hid hfk
      rw [hfk] at g0 g1 ge hBa
      clear harg hfk
      have ge' := Lib.hid ge
      have hgl : f.args.length ≤ 140737488355328 ∧ f.name.size ≤ 140737488355328 := by
        obtain ⟨fn, fa⟩ := f
        obtain ⟨_, _, _, h7, h8, _⟩ := ge.open
        unfold lenMax at h7 h8
        exact ⟨h8, h7⟩
      obtain ⟨hgl, hgn⟩ := hgl
      have hCf := Lib.hid (fun W => r02_Con f.name W)
      obtain ⟨m0, m1⟩ := box2 (w := wr) (v0 := .string f.name) (v1 := .slice a3 f.args.length c3) (t := 46) (Below.refl _ _)
      clear ge
      cases hcf : conB f.name
      · rw [hcf] at hCf
        have hF : Hid (fs.all formB = false) := by
          unfold Hid
          rw [List.all_eq_false]
          exact ⟨_, List.getElem_mem h1, by rw [hfk'.out, formB, hcf]; simp⟩
        clear hcf
        go_wp2_with fail
        refine (hCf.out _).mono ?_
        rintro e w3 ⟨rfl, hB3⟩
        have hB3' := hBa.trans (hB3.mono (by simp; omega))
        clear hB3
        go_wp2_with fail
        go_ret
        exact ⟨ret_bool (by rw [hH.out, hF.out]), below_box hB3'⟩
      rw [hcf] at hCf
      have hcf' := Lib.hid hcf
      clear hcf
      by_cases hk2 : 40 < f.args.length
      · have hF : Hid (fs.all formB = false) := by
          unfold Hid
          rw [List.all_eq_false]
          exact ⟨_, List.getElem_mem h1, by rw [hfk'.out, formB, decide_eq_false (p := f.args.length ≤ 40) (by omega), Bool.and_false]; simp⟩
        go_wp2_with fail
        refine (hCf.out _).mono ?_
        rintro e w3 ⟨rfl, hB3⟩
        have hB3' := hBa.trans (hB3.mono (by simp; omega))
        have hE3 := hB3.mono (B' := wr.heap.size + 1) (by simp)
        clear hB3 m0 m1
        obtain ⟨m0, m1⟩ := box2 hE3
        go_wp2_with fail
        go_ret
        exact ⟨ret_bool (by rw [hH.out, hF.out]), below_box hB3'⟩
      go_wp2_with fail
      refine (hCf.out _).mono ?_
      rintro e w3 ⟨rfl, hB3⟩
      have hE3 := hB3.mono (B' := wr.heap.size + 1) (by simp)
      clear hB3 m0 m1
      obtain ⟨m0, m1⟩ := box2 hE3
      go_wp2_with fail
      go_loopw [7] (fun i wi => ∃ m : Nat, m ≤ f.args.length ∧ i = .int .i64 m ∧ Hid (∀ j (hj : j < m) (hl : j < f.args.length), sigB f.args[j] 30 = true) ∧ Below (wr.heap.size + 1) (wr.alloc (.cells #[.string f.name, .slice a3 f.args.length c3] 46)) wi) (fun i _ => f.args.length - (intOf i).toNat)
      case atStart => exact ⟨0, by omega, rfl, fun j hj => by omega, hE3⟩
      case round =>
        clear m0 m1 hE3
        obtain ⟨m, hm, rfl, hall2, hB2⟩ := hrel
        obtain ⟨m0, m1⟩ := box2 hB2
        have hz2 := size_box hB2
        have hBB := Lib.hid (hBa.trans (hB2.mono (by omega)))
        by_cases h2 : m < f.args.length
        · have ge2 := (IsSg.keeps (keeps_box hB2) _ _ ge'.out)
          obtain ⟨fn, fa⟩ := f
          simp only [Sg.name, Sg.args] at *
          obtain ⟨y1, y2, hy, _, _, hyr⟩ := ge2.open
          simp only [Value.agg.injEq, Array.mk.injEq, List.cons.injEq, Value.slice.injEq, and_true, true_and] at hy
          obtain ⟨rfl, rfl⟩ := hy
          obtain ⟨b5, off5, rfl, harg⟩ := hyr.arg (by rintro rfl; simp at h2)
          obtain ⟨a6, c6, r0, r1, ge⟩ := harg m h2
          have hcall := Lib.hid (r04_Sig _ _ 30 _ ge (by omega) (by omega))
          clear ge harg hyr ge2
          cases h3 : sigB fa[m] 30
          · rw [h3] at hcall
            have hF : Hid (fs.all formB = false) := by
              unfold Hid
              rw [List.all_eq_false]
              refine ⟨_, List.getElem_mem h1, ?_⟩
              rw [hfk'.out, formB, show (Sg.mk fn fa).args.all (fun e => sigB e 30) = false from List.all_eq_false.2 ⟨_, List.getElem_mem h2, by rw [h3]; simp⟩]
              simp
            clear h3
            go_wp2_with fail
            refine hcall.out.mono ?_
            rintro e w4 ⟨rfl, hB4⟩
            go_wp2_with fail
            go_ret
            exact ⟨ret_bool (by rw [hH.out, hF.out]), below_box (hBB.out.trans (hB4.mono (size_box hBB.out)))⟩
          · rw [h3] at hcall
            have h3' := Lib.hid h3
            clear h3
            go_wp2_with fail
            refine hcall.out.mono ?_
            rintro e w4 ⟨rfl, hB4⟩
            have hB4' := hB2.trans (hB4.mono hz2)
            clear hB4
            go_wp2_with fail
            go_roundw
            case rel => exact ⟨m + 1, by omega, by go_num, fun j hj hl => by
              rcases Nat.lt_or_ge j m with h | h
              · exact hall2.out j h hl
              · obtain rfl : j = m := by omega
                exact h3'.out, hB4'⟩
            case measure => simp [intOf]; omega
        · have hF : Hid (formB fs[k] = true) := by
            unfold Hid
            rw [hfk'.out, formB, hcf'.out, decide_eq_true (by omega), List.all_eq_true.2 (fun x hx => by
              obtain ⟨j, hj, rfl⟩ := List.getElem_of_mem hx
              exact hall2.out j (by omega) hj)]
            rfl
          have hBn := hBB.out
          go_wp2_with fail
          go_roundw
          case rel => exact ⟨k + 1, by omega, by go_num, fun j hj hl => by
            rcases Nat.lt_or_ge j k with h | h
            · exact hall.out j h hl
            · obtain rfl : j = k := by omega
              exact hF.out, hBn⟩
          case measure => simp [intOf]; omega
    · go_wp2_with fail
      go_ret
      refine ⟨ret_bool ?_, below_box hB⟩
      rw [hH.out, List.all_eq_true.2 (fun x hx => by
        obtain ⟨j, hj, rfl⟩ := List.getElem_of_mem hx
        exact hall.out j (by omega) hj)]

set_option maxHeartbeats 1600000 in
set_option maxRecDepth 100000 in
theorem r04_Prog (p : Pg) (v : Value) (w : World) (hv : IsPg w v p) : Calls Tryz.prog 23 #[v] w fun r w' => r = .returned (.bool (progB p)) ∧ Below w.heap.size w w' := by
  obtain ⟨ds, fs⟩ := p
  obtain ⟨a1, c1, a2, c2, rfl, hds, hfs, hdr, hfr⟩ := hv
  simp only at hds hfs hdr hfr
  unfold lenMax at hds hfs
  have hB0 : Below (w.heap.size + 1) (w.alloc (.cells #[.slice a1 ds.length c1, .slice a2 fs.length c2] 25)) (w.alloc (.cells #[.slice a1 ds.length c1, .slice a2 fs.length c2] 25)) := Below.refl _ _
  have hbw := Lib.hid (below_box hB0)
  obtain ⟨k0, k1⟩ := box2 hB0
  have hdr' := Lib.hid hdr
  have hfr' := Lib.hid hfr
  clear hdr hfr hB0
  by_cases h1 : 40 < ds.length
  · have hH : Hid (progB ⟨ds, fs⟩ = false) := by unfold Hid; rw [progB, decide_eq_false (p := ds.length ≤ 40) (by omega)]; rfl
    go_enter Tryz.func23, Tryz.ntmps23
    go_wp2_with fail
    go_ret
    exact ⟨ret_bool hH.out.symm, hbw.out⟩
  by_cases h2 : 40 < fs.length
  · have hH : Hid (progB ⟨ds, fs⟩ = false) := by unfold Hid; rw [progB, decide_eq_false (p := fs.length ≤ 40) (by omega), Bool.and_false]; rfl
    go_enter Tryz.func23, Tryz.ntmps23
    go_wp2_with fail
    go_ret
    exact ⟨ret_bool hH.out.symm, hbw.out⟩
  have hH : Hid (progB ⟨ds, fs⟩ = (ds.all datB && fs.all defB)) := by unfold Hid; rw [progB, decide_eq_true (p := ds.length ≤ 40) (by omega), decide_eq_true (p := fs.length ≤ 40) (by omega)]; rfl
  go_enter Tryz.func23, Tryz.ntmps23
  go_wp2_with fail
  go_loopw [3] (fun i wr => ∃ k : Nat, k ≤ ds.length ∧ i = .int .i64 k ∧ Hid (∀ j (hj : j < k) (hl : j < ds.length), datB ds[j] = true) ∧ Below (w.heap.size + 1) (w.alloc (.cells #[.slice a1 ds.length c1, .slice a2 fs.length c2] 25)) wr) (fun i _ => ds.length - (intOf i).toNat)
  case atStart => exact ⟨0, by omega, rfl, fun j hj => by omega, Below.refl _ _⟩
  case round =>
    clear k0 k1
    obtain ⟨k, hk, rfl, hall, hB⟩ := hrel
    obtain ⟨k0, k1⟩ := box2 hB
    have hz := size_box hB
    by_cases hlt : k < ds.length
    · obtain ⟨b, off, rfl, hat⟩ := (hdr'.out.keeps (Keeps.of_below (below_box hB))).at (by rintro rfl; simp at hlt)
      obtain ⟨a3, c3, a4, c4, g0, g1, g2, ge⟩ := hat k hlt
      have hcall := Lib.hid (r04_data ds[k] _ wr ge)
      clear ge hat
      cases h3 : datB ds[k]
      · rw [h3] at hcall
        have hF : Hid (ds.all datB = false) := List.all_eq_false.2 ⟨_, List.getElem_mem hlt, by rw [h3]; simp⟩
        clear h3
        go_wp2_with fail
        refine hcall.out.mono ?_
        rintro r w1 ⟨rfl, hB1⟩
        go_wp2_with fail
        go_ret
        exact ⟨ret_bool (by rw [hH.out, hF.out]; rfl), below_box (hB.trans (hB1.mono hz))⟩
      · rw [h3] at hcall
        have h3' := Lib.hid h3
        clear h3
        go_wp2_with fail
        refine hcall.out.mono ?_
        rintro r w1 ⟨rfl, hB1⟩
        have hB1' := hB.trans (hB1.mono hz)
        clear hB1
        go_wp2_with fail
        go_roundw
        case rel => exact ⟨k + 1, by omega, by go_num, fun j hj hl => by
          rcases Nat.lt_or_ge j k with h | h
          · exact hall.out j h hl
          · obtain rfl : j = k := by omega
            exact h3'.out, hB1'⟩
        case measure => simp [intOf]; omega
    · have hdats : Hid (ds.all datB = true) := List.all_eq_true.2 fun x hx => by
        obtain ⟨j, hj, rfl⟩ := List.getElem_of_mem hx
        exact hall.out j (by omega) hj
      have hBx := hB
      clear hall hz
      go_wp2_with fail
      go_loopw [5] (fun i wr => ∃ k : Nat, k ≤ fs.length ∧ i = .int .i64 k ∧ Hid (∀ j (hj : j < k) (hl : j < fs.length), defB fs[j] = true) ∧ Below (w.heap.size + 1) (w.alloc (.cells #[.slice a1 ds.length c1, .slice a2 fs.length c2] 25)) wr) (fun i _ => fs.length - (intOf i).toNat)
      case atStart => exact ⟨0, by omega, rfl, fun j hj => by omega, hBx⟩
      case round =>
        clear hBx hB k0 k1 hlt hk
        obtain ⟨k, hk, rfl, hall, hB⟩ := hrel
        obtain ⟨k0, k1⟩ := box2 hB
        have hz := size_box hB
        by_cases hlt : k < fs.length
        · obtain ⟨b, off, rfl, hat⟩ := (hfr'.out.keeps (Keeps.of_below (below_box hB))).at (by rintro rfl; simp at hlt)
          obtain ⟨a3, c3, a4, c4, g0, g1, g2, g3, g4, g5, ge⟩ := hat k hlt
          have hCn := Lib.hid (fun W => r02_Name fs[k].name W)
          have hCk := Lib.hid (fun V (hb : Below wr.heap.size wr V) => r04_Check fs[k].body _ V (ge.body.keeps (Keeps.of_below hb)))
          have hk2 : Hid (∀ V, Below wr.heap.size wr V → V.cell? ⟨b, off + k * 6, none⟩ = some (.string fs[k].name) ∧ V.cell? ⟨b, off + k * 6 + 1, none⟩ = some (.int .i64 fs[k].body.kind) ∧ V.cell? ⟨b, off + k * 6 + 2, none⟩ = some (.string fs[k].body.name) ∧ V.cell? ⟨b, off + k * 6 + 3, none⟩ = some (.int .i64 fs[k].body.num) ∧ V.cell? ⟨b, off + k * 6 + 4, none⟩ = some (.slice a3 fs[k].body.names.length c3) ∧ V.cell? ⟨b, off + k * 6 + 5, none⟩ = some (.slice a4 fs[k].body.kids.length c4)) := fun V hb => ⟨Keeps.of_below hb _ _ g0, Keeps.of_below hb _ _ g1, Keeps.of_below hb _ _ g2, Keeps.of_below hb _ _ g3, Keeps.of_below hb _ _ g4, Keeps.of_below hb _ _ g5⟩
          clear ge hat
          have hdef : Hid (defB fs[k] = (nameB fs[k].name && chkB fs[k].body)) := rfl
          have hq : (defB fs[k] = false ∧ (nameB fs[k].name = false ∨ (nameB fs[k].name = true ∧ chkB fs[k].body = false))) ∨ (defB fs[k] = true ∧ nameB fs[k].name = true ∧ chkB fs[k].body = true) := by
            rw [hdef.out]
            cases nameB fs[k].name <;> cases chkB fs[k].body <;> simp
          rcases hq with ⟨hd, hq⟩ | ⟨hd, hq1, hq2⟩
          · have hF : Hid (fs.all defB = false) := List.all_eq_false.2 ⟨_, List.getElem_mem hlt, by rw [hd]; simp⟩
            clear hd
            rcases hq with hq1 | ⟨hq1, hq2⟩
            all_goals
              rw [hq1] at hCn
              try rw [hq2] at hCk
              clear hq1
              try clear hq2
              go_wp2_with fail
              refine (hCn.out _).mono ?_
              rintro r w1 ⟨rfl, hB1⟩
              have hB1' := hB.trans (hB1.mono hz)
              have hCk' := Lib.hid (hCk.out _ hB1)
              obtain ⟨j0, j1, j2, j3, j4, j5⟩ := hk2.out _ hB1
              obtain ⟨m0, m1⟩ := box2 hB1'
              have hz1 := hB1.size
              clear hB1 g0 g1 g2 g3 g4 g5 k0 k1
              go_wp2_with fail
              refine hCk'.out.mono ?_
              rintro r w2 ⟨rfl, hB2⟩
              have hB2' := hB1'.trans (hB2.mono (by omega))
              clear hB2
              go_wp2_with fail
              go_ret
              exact ⟨ret_bool (by rw [hH.out, hF.out, Bool.and_false]), below_box hB2'⟩
          · have hd' := Lib.hid hd
            rw [hq1] at hCn
            rw [hq2] at hCk
            clear hq1 hq2 hd
            go_wp2_with fail
            refine (hCn.out _).mono ?_
            rintro r w1 ⟨rfl, hB1⟩
            have hB1' := hB.trans (hB1.mono hz)
            have hCk' := Lib.hid (hCk.out _ hB1)
            obtain ⟨j0, j1, j2, j3, j4, j5⟩ := hk2.out _ hB1
            obtain ⟨m0, m1⟩ := box2 hB1'
            have hz1 := hB1.size
            clear hB1 g0 g1 g2 g3 g4 g5 k0 k1
            go_wp2_with fail
            refine hCk'.out.mono ?_
            rintro r w2 ⟨rfl, hB2⟩
            have hB2' := hB1'.trans (hB2.mono (by omega))
            clear hB2
            go_wp2_with fail
            go_roundw
            case rel => exact ⟨k + 1, by omega, by go_num, fun j hj hl => by
              rcases Nat.lt_or_ge j k with h | h
              · exact hall.out j h hl
              · obtain rfl : j = k := by omega
                exact hd'.out, hB2'⟩
            case measure => simp [intOf]; omega
        · have hdefs : Hid (fs.all defB = true) := List.all_eq_true.2 fun x hx => by
            obtain ⟨j, hj, rfl⟩ := List.getElem_of_mem hx
            exact hall.out j (by omega) hj
          go_wp2_with fail
          go_ret
          exact ⟨ret_bool (by rw [hH.out, hdats.out, hdefs.out]; rfl), below_box hB⟩
end Go.Proofs.YtpdfeadajgokkaaGreatDoor

namespace Go.Proofs.YtpdfeadajgokkaaGreatDoor
open Go.RowKit

def RSg (s : Sg) : Prop := ∀ (v : Value) (W : World), IsSg W v s → Calls Tryz.prog 29 #[v] W fun r w' => r = .returned (.string (mkS (sgText s))) ∧ Below W.heap.size W w'
def RSa (s : Sg) : Prop := ∀ (v : Value) (W : World), IsSg W v s → Calls Tryz.prog 56 #[v] W fun r w' => r = .returned (.string (mkS (sgAtom s))) ∧ Below W.heap.size W w'

set_option maxHeartbeats 400000 in
theorem r_small : ∀ (s : Sg) (v : Value) (most : Int) (w : World), IsSg w v s → -1000 ≤ most → most ≤ 1000 →
    Calls Tryz.prog 28 #[v, .int .i64 most] w fun r w' => r = .returned (.bool (smallB s most)) ∧ Below w.heap.size w w' := by
  refine Sg.ind fun nm l ih v most w hv h0 h9 => ?_
  obtain ⟨a1, c1, rfl, hs, hn, hr⟩ := hv.open
  unfold lenMax at hs hn
  have hB0 : Below (w.heap.size + 1) (w.alloc (.cells #[.string nm, .slice a1 l.length c1] 28)) (w.alloc (.cells #[.string nm, .slice a1 l.length c1] 28)) := Below.refl _ _
  by_cases hm : most ≤ 0
  · go_enter Tryz.func28, Tryz.ntmps28
    go_wp2_with fail
    go_ret
    exact ⟨ret_bool (by rw [smallB, decide_eq_false (by omega)]; rfl), below_box hB0⟩
  by_cases hk : 40 < l.length
  · go_enter Tryz.func28, Tryz.ntmps28
    go_wp2_with fail
    go_ret
    exact ⟨ret_bool (by rw [smallB, decide_eq_false (p := l.length ≤ 40) (by omega), Bool.and_false]; rfl), below_box hB0⟩
  go_enter Tryz.func28, Tryz.ntmps28
  go_wp2_with fail
  go_loopw [5] (fun i wr => ∃ k : Nat, k ≤ l.length ∧ i = .int .i64 k ∧ Hid (∀ j (hj : j < k) (hl : j < l.length), smallB l[j] (most - 1) = true) ∧ Below (w.heap.size+1) (w.alloc (.cells #[.string nm, .slice a1 l.length c1] 28)) wr) (fun i _ => l.length - (intOf i).toNat)
  case atStart => exact ⟨0, by omega, rfl, fun j hj => by omega, Below.refl _ _⟩
  case round =>
    obtain ⟨k, hk, rfl, hall, hB⟩ := hrel
    obtain ⟨q0, q1⟩ := box2 hB
    have hz := size_box hB
    by_cases h1 : k < l.length
    · obtain ⟨b, off, rfl, harg⟩ := (hr.keeps (keeps_box hB)).arg (by rintro rfl; simp at h1)
      obtain ⟨a2, c2, g0, g1, ge⟩ := harg k h1
      have hcall := Lib.hid (ih _ (List.getElem_mem h1) _ (most - 1) wr ge (by omega) (by omega))
      clear ge harg
      cases h3 : smallB l[k] (most - 1)
      · rw [h3] at hcall
        have h3' := Lib.hid h3
        clear h3
        go_wp2_with fail
        refine hcall.out.mono ?_
        rintro e w1 ⟨rfl, hB1⟩
        go_wp2_with fail
        go_ret
        refine ⟨ret_bool ?_, below_box (hB.trans (hB1.mono hz))⟩
        have hy : (l.all fun e => smallB e (most - 1)) = false := by
          rw [List.all_eq_false]
          exact ⟨_, List.getElem_mem h1, by rw [h3'.out]; simp⟩
        rw [smallB, smallL_all, hy, Bool.and_false]
      · rw [h3] at hcall
        have h3' := Lib.hid h3
        clear h3
        go_wp2_with fail
        refine hcall.out.mono ?_
        rintro e w1 ⟨rfl, hB1⟩
        have hB1' := hB.trans (hB1.mono hz)
        clear hB1
        go_wp2_with fail
        go_roundw
        case rel => exact ⟨k + 1, by omega, by go_num, fun j hj hl => by
          rcases Nat.lt_or_ge j k with h | h
          · exact hall.out j h hl
          · obtain rfl : j = k := by omega
            exact h3'.out, hB1'⟩
        case measure => simp [intOf]; omega
    · go_wp2_with fail
      go_ret
      refine ⟨ret_bool ?_, below_box hB⟩
      have hy : (l.all fun e => smallB e (most - 1)) = true := by
        rw [List.all_eq_true]
        intro x hx
        obtain ⟨j, hj, rfl⟩ := List.getElem_of_mem hx
        exact hall.out j (by omega) hj
      rw [smallB, smallL_all, hy, decide_eq_true (by omega), decide_eq_true (by omega)]; rfl

theorem r_sigAtom (s : Sg) (h : 0 < s.args.length → RSg s) (hl : (sgText s).length ≤ 1099511627775) : RSa s := by
  obtain ⟨nm, l⟩ := s
  intro v w hv
  have hv0 := hv
  obtain ⟨a1, c1, rfl, hs, hn, hr⟩ := hv.open
  unfold lenMax at hs hn
  have hB0 : Below (w.heap.size + 1) (w.alloc (.cells #[.string nm, .slice a1 l.length c1] 28)) (w.alloc (.cells #[.string nm, .slice a1 l.length c1] 28)) := Below.refl _ _
  have hbw := Lib.hid (below_box hB0)
  obtain ⟨k0, k1⟩ := box2 hB0
  obtain ⟨S, hS⟩ : ∃ S, mkS (sgText (.mk nm l)) = S := ⟨_, rfl⟩
  have hsz : S.size ≤ 1099511627775 := by rw [← hS, sz_mkS]; exact hl
  have hcall := Lib.hid (fun h0 : 0 < l.length => h h0 _ _ (IsSg.keeps (keeps_box hB0) _ _ hv0))
  rw [hS] at hcall
  by_cases h0 : l.length = 0
  · have hat : Hid (nm = mkS (sgAtom (.mk nm l))) := by unfold Hid; rw [sgAtom, Sg.args, if_pos h0]; rfl
    have h0' : ((l.length : Int) == 0) = true := by rw [h0]; rfl
    clear hv hv0 hB0 h hl hS hr h0
    go_enter Tryz.func56, Tryz.ntmps56
    go_wp2_with fail
    go_ret
    exact ⟨ret_str hat.out, hbw.out⟩
  · have hat : Hid (⟨#[40]⟩ ++ S ++ ⟨#[41]⟩ = mkS (sgAtom (.mk nm l))) := by
      unfold Hid
      refine bs_inj ?_
      rw [bs_mkS, sgAtom, Sg.args, if_neg h0, bs_cat, bs_cat, ← hS]; rfl
    have h0' : ((l.length : Int) == 0) = false := by rw [beq_eq_false_iff_ne]; omega
    have h1 : 0 < l.length := by omega
    replace hcall := Lib.hid (hcall.out h1)
    clear hv hv0 hB0 h hl hS hr h0
    go_enter Tryz.func56, Tryz.ntmps56
    go_wp2_with fail
    refine hcall.out.mono ?_
    rintro e w1 ⟨rfl, hB1⟩
    have hb1 := hbw.out.trans (hB1.mono (by simp))
    clear hB1
    go_wp2_with fail
    go_ret
    exact ⟨ret_str hat.out, hb1⟩

/-- Operands, each with a byte 32 ahead. -/
def saT (l : List Sg) : List UInt8 := l.flatMap fun e => 32 :: sgAtom e
theorem saT_succ (l : List Sg) (k : Nat) (h : k < l.length) : saT (l.take (k + 1)) = saT (l.take k) ++ (32 :: sgAtom l[k]) := by
  rw [List.take_succ_eq_append_getElem h]; simp only [saT, List.flatMap_append, List.flatMap_cons, List.flatMap_nil, List.append_nil]
theorem saT_le (l : List Sg) (k : Nat) : (saT (l.take k)).length ≤ (saT l).length := by
  have : saT l = saT (l.take k) ++ saT (l.drop k) := by
    have h := congrArg saT (List.take_append_drop k l)
    rw [← h]; simp only [saT, List.flatMap_append]
  rw [this]; simp
theorem tail_sa (l : List Sg) : Lib.joinTail [32] (l.map sgAtom) = saT l := by
  simp [Lib.joinTail, saT, List.flatMap_def, Function.comp_def]
theorem join_sa (x : List UInt8) (l : List Sg) : Lib.join (x :: l.map sgAtom) [32] = x ++ saT l := by
  rw [Lib.join_cons, tail_sa]
theorem sg_loop {nm : Str} {l : List Sg} (h : ¬ (nm.toList = [45, 62] ∧ l.length = 2)) : sgText (.mk nm l) = bs nm ++ saT l := by
  rw [← join_sa]
  unfold sgText sgBody
  rw [if_neg (fun h2 => h ⟨by rw [Lib.toList_data]; exact h2.1, h2.2⟩), sgAtoms_map]

set_option maxHeartbeats 4000000 in
set_option maxRecDepth 100000 in
theorem r_sig : ∀ s : Sg, (sgText s).length ≤ 1099511627775 → RSg s := by
  refine Sg.ind fun nm l ih hlen v w hv => ?_
  have hat : ∀ e ∈ l, RSa e ∧ (sgAtom e).length ≤ 1099511627775 := fun e he => ⟨r_sigAtom e (fun _ => ih e he (Nat.le_trans (sgText_le_atom e) (Nat.le_trans (sgAtom_le nm l he) hlen))) (Nat.le_trans (sgText_le_atom e) (Nat.le_trans (sgAtom_le nm l he) hlen)), Nat.le_trans (sgAtom_le nm l he) hlen⟩
  obtain ⟨a1, c1, rfl, hs, hn, hr⟩ := hv.open
  unfold lenMax at hs hn
  clear hv ih
  by_cases h2 : nm.toList = [45, 62] ∧ l.length = 2
  · obtain ⟨h3, h4⟩ := h2
    obtain ⟨x, y, rfl⟩ := len2 h4
    obtain ⟨b, off, rfl, harg⟩ := hr.arg (by simp)
    obtain ⟨a2, c2, g0, g1, ge⟩ := harg 0 (by simp)
    obtain ⟨a3, c3, g2, g3, ge2⟩ := harg 1 (by simp)
    simp only [List.getElem_cons_zero, List.getElem_cons_succ, Nat.zero_mul, Nat.one_mul, Nat.add_zero, Nat.add_assoc, Nat.reduceAdd] at g0 g1 g2 g3 ge ge2
    have h5 : (nm.toList == [45, 62]) = true := by rw [h3]; rfl
    have hax := hat x (by simp)
    have hay := hat y (by simp)
    simp only [List.length_cons, List.length_nil, Nat.zero_add, Nat.reduceAdd] at *
    have hS : Hid (∀ V, Below (w.heap.size + 1) (w.alloc (.cells #[.string nm, .slice (some ⟨b, off, none⟩) 2 c1] 28)) V → Below (w.heap.size + 1) (w.alloc (.cells #[.string nm, .slice (some ⟨b, off, none⟩) 2 c1] 28)) V ∧ V.cell? ⟨w.heap.size, 0, none⟩ = some (.string nm) ∧ V.cell? ⟨w.heap.size, 1, none⟩ = some (.slice (some ⟨b, off, none⟩) 2 c1) ∧ V.cell? ⟨b, off, none⟩ = some (.string x.name) ∧ V.cell? ⟨b, off + 1, none⟩ = some (.slice a2 x.args.length c2) ∧ V.cell? ⟨b, off + 2, none⟩ = some (.string y.name) ∧ V.cell? ⟨b, off + 3, none⟩ = some (.slice a3 y.args.length c3)) := by
      intro V hb
      have bx := box2 hb
      have hk := keeps_box hb
      exact ⟨hb, bx.1, bx.2, hk _ _ g0, hk _ _ g1, hk _ _ g2, hk _ _ g3⟩
    obtain ⟨S0, hS0⟩ : ∃ S, mkS (sgAtom x) = S := ⟨_, rfl⟩
    have z0' : S0.size ≤ 1099511627775 := by rw [← hS0, sz_mkS]; exact hax.2
    have hC0 : Hid (∀ V, Below (w.heap.size + 1) (w.alloc (.cells #[.string nm, .slice (some ⟨b, off, none⟩) 2 c1] 28)) V → Calls Tryz.prog 56 #[(.agg #[.string x.name, .slice a2 x.args.length c2])] V fun r w' => r = .returned (.string S0) ∧ Below (w.heap.size + 1) (w.alloc (.cells #[.string nm, .slice (some ⟨b, off, none⟩) 2 c1] 28)) w') := by
      intro V hb
      rw [← hS0]
      refine (hax.1 _ V (IsSg.keeps (keeps_box hb) _ _ ge)).mono ?_
      rintro r w' ⟨rfl, hB⟩
      exact ⟨rfl, hb.trans (hB.mono (by have := hb.size; simpa using this))⟩
    obtain ⟨S1, hS1⟩ : ∃ S, mkS (sgAtom y) = S := ⟨_, rfl⟩
    have z1' : S1.size ≤ 1099511627775 := by rw [← hS1, sz_mkS]; exact hay.2
    have hC1 : Hid (∀ V, Below (w.heap.size + 1) (w.alloc (.cells #[.string nm, .slice (some ⟨b, off, none⟩) 2 c1] 28)) V → Calls Tryz.prog 56 #[(.agg #[.string y.name, .slice a3 y.args.length c3])] V fun r w' => r = .returned (.string S1) ∧ Below (w.heap.size + 1) (w.alloc (.cells #[.string nm, .slice (some ⟨b, off, none⟩) 2 c1] 28)) w') := by
      intro V hb
      rw [← hS1]
      refine (hay.1 _ V (IsSg.keeps (keeps_box hb) _ _ ge2)).mono ?_
      rintro r w' ⟨rfl, hB⟩
      exact ⟨rfl, hb.trans (hB.mono (by have := hb.size; simpa using this))⟩
    have hfin : Hid (S0 ++ (⟨#[32, 45, 62, 32]⟩ : Str) ++ S1 = mkS (sgText (.mk nm [x, y]))) := by
      refine bs_inj ?_
      rw [bs_mkS]
      simp only [bs_cat, ← hS0, ← hS1, bs_mkS]
      rw [Lib.toList_data] at h3
      simp [sgText, sgBody, sgAtoms_map, bs, mkS, h3, Lib.join_cons, Lib.joinTail]
    obtain ⟨_, k0, k1, _⟩ := hS.out _ (Below.refl _ _)
    have hno1 : ¬ (9223372036854775807 < S0.size + 4) := by omega
    have hno2 : ¬ (9223372036854775807 < S0.size + 4 + S1.size) := by omega
    have hdr := Lib.hid (hS.out _ ((Below.refl _ _).drew))
    clear hat hr harg hax hay hS0 hS1 ge ge2 h3 hlen h4
    go_enter Tryz.func29, Tryz.ntmps29
    go_wp2_with fail
    go_region_held3 (fun V => Below (w.heap.size + 1) (w.alloc (.cells #[.string nm, .slice (some ⟨b, off, none⟩) 2 c1] 28)) V ∧ V.cell? ⟨w.heap.size, 0, none⟩ = some (.string nm) ∧ V.cell? ⟨w.heap.size, 1, none⟩ = some (.slice (some ⟨b, off, none⟩) 2 c1) ∧ V.cell? ⟨b, off, none⟩ = some (.string x.name) ∧ V.cell? ⟨b, off + 1, none⟩ = some (.slice a2 x.args.length c2) ∧ V.cell? ⟨b, off + 2, none⟩ = some (.string y.name) ∧ V.cell? ⟨b, off + 3, none⟩ = some (.slice a3 y.args.length c3)) ((first | exact hdr.out | exact hS.out _ (by assumption) | exact hS.out _ (Below.drew (by assumption))))
      (first | (go_at_call 56; (with_reducible refine (hC0.out _ (by first | assumption | exact Below.drew (by assumption))).mono ?_); rintro e w1 ⟨rfl, hb1⟩) | (go_at_call 56; (with_reducible refine (hC1.out _ (by first | assumption | exact Below.drew (by assumption))).mono ?_); rintro e w1 ⟨rfl, hb1⟩))
    all_goals
      go_wp2_with fail
      go_ret
      exact ⟨ret_str hfin.out, below_box hb1⟩
  · have hT : Hid (sgText (.mk nm l) = bs nm ++ saT l) := sg_loop h2
    have hsl : Hid (nm.size + (saT l).length ≤ 1099511627775) := by
      have := hlen
      rw [hT.out, List.length_append] at this
      have e : (bs nm).length = nm.size := by rw [Lib.size_eq]; rfl
      unfold Hid; omega
    have hat' := Lib.hid hat
    have hB0 : Below (w.heap.size + 1) (w.alloc (.cells #[.string nm, .slice a1 l.length c1] 28)) (w.alloc (.cells #[.string nm, .slice a1 l.length c1] 28)) := Below.refl _ _
    obtain ⟨k0, k1⟩ := box2 hB0
    have hr' := Lib.hid hr
    clear hat hlen hr hB0
    have hq : (nm.toList == [45, 62]) = false ∨ ((nm.toList == [45, 62]) = true ∧ ((l.length : Int) == 2) = false) := by
      cases h : (nm.toList == [45, 62])
      · exact .inl rfl
      · refine .inr ⟨rfl, ?_⟩
        rw [beq_eq_false_iff_ne]
        exact fun h' => h2 ⟨by simpa using h, by omega⟩
    clear h2
    rcases hq with h4 | ⟨h4, h5⟩
    all_goals
      go_enter Tryz.func29, Tryz.ntmps29
      go_wp2_with fail
      go_loopw [3, 4] (fun s i wr => ∃ (k : Nat) (S : Str), k ≤ l.length ∧ i = .int .i64 k ∧ s = .string S ∧ Hid (S = mkS (bs nm ++ saT (l.take k))) ∧ Below (w.heap.size + 1) (w.alloc (.cells #[.string nm, .slice a1 l.length c1] 28)) wr) (fun _ i _ => l.length - (intOf i).toNat)
      case atStart => exact ⟨0, _, by omega, rfl, rfl, by unfold Hid; simp [saT]; rfl, Below.refl _ _⟩
      case round =>
        clear k0 k1
        obtain ⟨k, S, hk, rfl, rfl, hS, hB⟩ := hrel
        obtain ⟨k0, k1⟩ := box2 hB
        have hz := size_box hB
        by_cases h1 : k < l.length
        · obtain ⟨b, off, rfl, harg⟩ := (hr'.out.keeps (keeps_box hB)).arg (by rintro rfl; simp at h1)
          obtain ⟨a2, c2, g0, g1, ge⟩ := harg k h1
          obtain ⟨S1, hS1⟩ : ∃ S, mkS (sgAtom l[k]) = S := ⟨_, rfl⟩
          have hcall := Lib.hid ((hat'.out _ (List.getElem_mem h1)).1 _ wr ge)
          rw [hS1] at hcall
          have hn : Hid (S ++ ⟨#[32]⟩ ++ S1 = mkS (bs nm ++ saT (l.take (k + 1)))) := by
            refine bs_inj ?_
            rw [bs_cat, bs_cat, hS.out, ← hS1, saT_succ l k h1]
            simp [bs, mkS]
          have hz1 : S.size + 1 + S1.size ≤ 1099511627775 := by
            have h1' := saT_le l (k + 1)
            rw [saT_succ l k h1] at h1'
            have h2' := hsl.out
            simp only [List.length_append, List.length_cons] at h1'
            have e : (bs nm).length = nm.size := by rw [Lib.size_eq]; rfl
            rw [hS.out, ← hS1, sz_mkS, sz_mkS, List.length_append]; omega
          have hz2 : S.size + 1 ≤ 1099511627775 := by omega
          clear hS1 ge harg
          go_wp2_with fail
          refine hcall.out.mono ?_
          rintro e w1 ⟨rfl, hB1⟩
          have hB1' := hB.trans (hB1.mono hz)
          clear hB1
          go_wp2_with fail
          go_roundw
          case rel => exact ⟨k + 1, _, by omega, by go_num, rfl, hn, hB1'⟩
          case measure => simp [intOf]; omega
        · have e : k = l.length := by omega
          have e' := Lib.hid e
          clear e
          go_wp2_with fail
          go_ret
          exact ⟨ret_str (by rw [hS.out, e'.out, List.take_length, hT.out]), below_box hB⟩
end Go.Proofs.YtpdfeadajgokkaaGreatDoor

namespace Go.Proofs.YtpdfeadajgokkaaGreatDoor
open Go.RowKit

theorem r_Sig (s : Sg) (v : Value) (w : World) (hv : IsSg w v s) (hl : smallB s 30 = true → (sgText s).length ≤ 1099511627775) : Calls Tryz.prog 11 #[v] w fun r w' => r = .returned (.string (if smallB s 30 = true then mkS (sgText s) else ⟨#[]⟩)) ∧ Below w.heap.size w w' := by
  have hv0 := hv
  obtain ⟨nm, l⟩ := s
  obtain ⟨a1, c1, rfl, _⟩ := hv.open
  have hB0 : Below (w.heap.size + 1) (w.alloc (.cells #[.string nm, .slice a1 l.length c1] 28)) (w.alloc (.cells #[.string nm, .slice a1 l.length c1] 28)) := Below.refl _ _
  have hsm := Lib.hid (r_small (.mk nm l) _ 30 _ (hv0.below (below_box hB0)) (by omega) (by omega))
  have hbx := Lib.hid (below_box hB0)
  go_enter Tryz.func11, Tryz.ntmps11
  cases h : smallB (.mk nm l) 30
  · rw [h] at hsm
    clear hB0 hl
    go_wp2_with fail
    refine hsm.out.mono ?_
    rintro e w1 ⟨rfl, hB1⟩
    go_wp2_with fail
    go_ret
    exact ⟨rfl, hbx.out.trans (hB1.mono (by simp))⟩
  · rw [h] at hsm
    have hs := Lib.hid (fun W (hb : Below w.heap.size w W) => r_sig _ (hl h) _ W (hv0.below hb))
    clear hB0 hl h
    go_wp2_with fail
    refine hsm.out.mono ?_
    rintro e w1 ⟨rfl, hB1⟩
    have hB1' := hbx.out.trans (hB1.mono (by simp))
    obtain ⟨j0, j1⟩ := box2 (hB1.mono (by simp))
    clear hB1
    go_wp2_with fail
    refine (hs.out _ hB1').mono ?_
    rintro e w2 ⟨rfl, hB2⟩
    go_wp2_with fail
    go_ret
    exact ⟨rfl, hB1'.trans (hB2.mono hB1'.size)⟩

/-- The head of a type that is told of. -/
def hdT (nm : Str) (ps : List Str) : List UInt8 := [100, 97, 116, 97, 32] ++ (bs nm ++ (nmT ps ++ [32, 61]))
theorem dataT_hd (d : Dt) : dataT d = hdT d.name d.params ++ nmT (formsW d.forms) := by
  unfold dataT dataW hdT
  simp only [List.cons_append, List.nil_append, joinSp_cons]
  simp [nmT, bs]
theorem formW_sa (f : Sg) : nmT (formW f) = 32 :: (bs f.name ++ saT f.args) := by
  unfold formW
  simp [nmT, saT, bs, mkS, List.flatMap_map]
theorem formsW_take (fs : List Sg) (k : Nat) (h : k < fs.length) : nmT (formsW (fs.take (k + 1))) = nmT (formsW (fs.take k)) ++ ((if 0 < k then [32, 124] else []) ++ (32 :: (bs fs[k].name ++ saT fs[k].args))) := by
  rw [formsW_succ fs k h, nm_app, nm_app, formW_sa]
  congr 2
  by_cases h0 : 0 < k
  · rw [if_pos h0, if_pos h0]; rfl
  · rw [if_neg h0, if_neg h0]; rfl
theorem nm_formsW_le (fs : List Sg) (k : Nat) : (nmT (formsW (fs.take k))).length ≤ (nmT (formsW fs)).length := by
  induction h : fs.length - k generalizing k with
  | zero => rw [List.take_of_length_le (by omega)]; exact Nat.le_refl _
  | succ n ih =>
    have h1 := ih (k + 1) (by omega)
    rw [formsW_take fs k (by omega), List.length_append] at h1
    omega

set_option maxHeartbeats 4000000 in
set_option maxRecDepth 100000 in
theorem r_data (d : Dt) (v : Value) (w : World) (hv : IsDt w v d) (hlen : (dataT d).length ≤ 1099511627775) :
    Calls Tryz.prog 24 #[v] w fun r w' => r = .returned (.string (mkS (dataT d))) ∧ Below w.heap.size w w' := by
  have hsa : Hid (∀ f ∈ d.forms, ∀ e ∈ f.args, RSa e) := fun f hf e he => by
    have h1 : (sgAtom e).length ≤ 1099511627775 := Nat.le_trans (mem_le (p := mkS (sgAtom e)) (l := dataW d) (by
      have : mkS (sgAtom e) ∈ formsW d.forms := by
        cases hfs : d.forms with
        | nil => rw [hfs] at hf; simp at hf
        | cons g r =>
          rw [hfs] at hf
          simp only [formsW, List.mem_append, List.mem_flatMap, formW, List.mem_cons, List.mem_map]
          rcases List.mem_cons.1 hf with rfl | hf
          · exact .inl (.inr ⟨e, he, rfl⟩)
          · exact .inr ⟨f, hf, .inr (.inr ⟨e, he, rfl⟩)⟩
      unfold dataW
      exact List.mem_append_right _ this)) hlen
    exact r_sigAtom e (fun _ => r_sig e (Nat.le_trans (sgText_le_atom e) h1)) (Nat.le_trans (sgText_le_atom e) h1)
  obtain ⟨nm, ps, fs⟩ := d
  have hT : Hid (dataT ⟨nm, ps, fs⟩ = hdT nm ps ++ nmT (formsW fs)) := dataT_hd _
  have hlt : Hid ((hdT nm ps).length + (nmT (formsW fs)).length ≤ 1099511627775) := by
    have := hlen
    rw [hT.out, List.length_append] at this
    exact this
  have hnl : (bs nm).length + (nmT ps).length ≤ 1099511627775 := by
    have := hlt.out
    unfold hdT at this
    simp only [List.length_append, List.length_cons, List.length_nil] at this
    omega
  obtain ⟨a1, c1, a2, c2, rfl, _, hs, hp, hf, hpr, hfr⟩ := hv
  simp only at hs hp hf hpr hfr hsa
  have hB0 : Below (w.heap.size + 1) (w.alloc (.cells #[.string nm, .slice a1 ps.length c1, .slice a2 fs.length c2] 49)) (w.alloc (.cells #[.string nm, .slice a1 ps.length c1, .slice a2 fs.length c2] 49)) := Below.refl _ _
  obtain ⟨k0, k1, k2⟩ := box3 hB0
  obtain ⟨P, hP⟩ : ∃ P, mkS (nmT ps) = P := ⟨_, rfl⟩
  have hnms : Hid (∀ V, Below (w.heap.size + 1) (w.alloc (.cells #[.string nm, .slice a1 ps.length c1, .slice a2 fs.length c2] 49)) V → Calls Tryz.prog 55 #[.slice a1 ps.length c1] V fun r w' => r = .returned (.string P) ∧ Below (w.heap.size + 1) (w.alloc (.cells #[.string nm, .slice a1 ps.length c1, .slice a2 fs.length c2] 49)) w') := by
    intro V hV
    rw [← hP]
    refine (r_names a1 ps c1 V hp (hpr.keeps (keeps_box hV)) (by omega)).mono ?_
    rintro r w' ⟨rfl, hB⟩
    exact ⟨rfl, hV.trans (hB.mono (size_box hV))⟩
  have hSt : Hid (∀ V, Below (w.heap.size + 1) (w.alloc (.cells #[.string nm, .slice a1 ps.length c1, .slice a2 fs.length c2] 49)) V → Below (w.heap.size + 1) (w.alloc (.cells #[.string nm, .slice a1 ps.length c1, .slice a2 fs.length c2] 49)) V ∧ V.cell? ⟨w.heap.size, 0, none⟩ = some (.string nm) ∧ V.cell? ⟨w.heap.size, 1, none⟩ = some (.slice a1 ps.length c1) ∧ V.cell? ⟨w.heap.size, 2, none⟩ = some (.slice a2 fs.length c2)) := fun V hV => ⟨hV, box3 hV⟩
  have hst := Lib.hid (hSt.out _ hB0)
  have hdr := Lib.hid (hSt.out _ hB0.drew)
  have hz0 : nm.size + P.size ≤ 1099511627775 := by
    rw [← hP, sz_mkS]
    have e : (bs nm).length = nm.size := by rw [Lib.size_eq]; rfl
    omega
  have hh : Hid ((⟨#[100, 97, 116, 97, 32]⟩ : Str) ++ nm ++ P ++ ⟨#[32, 61]⟩ = mkS (hdT nm ps ++ nmT (formsW (fs.take 0)))) := by
    refine bs_inj ?_
    rw [bs_cat, bs_cat, bs_cat, ← hP, List.take_zero]
    simp [hdT, bs, mkS, formsW, nmT]
  have hno1 : ¬ (9223372036854775807 < 5 + nm.size) := by omega
  have hno2 : ¬ (9223372036854775807 < 5 + nm.size + P.size) := by omega
  have hno3 : ¬ (9223372036854775807 < 5 + nm.size + P.size + 2) := by omega
  have hfr' := Lib.hid hfr
  unfold lenMax at hs hp hf
  clear hlen hpr hfr hP hB0 hnl
  go_enter Tryz.func24, Tryz.ntmps24
  go_wp2_with fail
  go_region_held3 (fun V => Below (w.heap.size + 1) (w.alloc (.cells #[.string nm, .slice a1 ps.length c1, .slice a2 fs.length c2] 49)) V ∧ V.cell? ⟨w.heap.size, 0, none⟩ = some (.string nm) ∧ V.cell? ⟨w.heap.size, 1, none⟩ = some (.slice a1 ps.length c1) ∧ V.cell? ⟨w.heap.size, 2, none⟩ = some (.slice a2 fs.length c2)) ((first | exact hdr.out | exact hst.out | exact hSt.out _ (by assumption) | exact hSt.out _ (Below.drew (by assumption))))
    (first | (go_at_call 55; (with_reducible refine (hnms.out _ (by first | assumption | exact Below.drew (by assumption) | exact Below.refl _ _ | exact (Below.refl _ _).drew)).mono ?_); rintro e w1 ⟨rfl, hC1⟩))
  all_goals
    clear k0 k1 k2
    obtain ⟨k0, k1, k2⟩ := box3 hC1
    go_wp2_with fail
    go_loopw [3, 4] (fun s i wr => ∃ (k : Nat) (S : Str), k ≤ fs.length ∧ i = .int .i64 k ∧ s = .string S ∧ Hid (S = mkS (hdT nm ps ++ nmT (formsW (fs.take k)))) ∧ Below (w.heap.size + 1) (w.alloc (.cells #[.string nm, .slice a1 ps.length c1, .slice a2 fs.length c2] 49)) wr) (fun _ i _ => fs.length - (intOf i).toNat)
    case atStart => exact ⟨0, _, by omega, rfl, rfl, hh, hC1⟩
    case round =>
      clear k0 k1 k2 hC1 hh hno1 hno2 hno3 hz0 hnms hst hdr hSt
      obtain ⟨k, S, hk, rfl, rfl, hS, hB⟩ := hrel
      obtain ⟨q0, q1, q2⟩ := box3 hB
      have hz := size_box hB
      by_cases h1 : k < fs.length
      · obtain ⟨b, off, rfl, harg⟩ := (hfr'.out.keeps (keeps_box hB)).arg (by rintro rfl; simp at h1)
        obtain ⟨a3, c3, g0, g1, ge⟩ := harg k h1
        have hlk : Hid ((hdT nm ps).length + ((nmT (formsW (fs.take k))).length + ((if 0 < k then 2 else 0) + (1 + ((bs fs[k].name).length + (saT fs[k].args).length)))) ≤ 1099511627775) := by
          have h2 := nm_formsW_le fs (k + 1)
          have h3 := hlt.out
          rw [formsW_take fs k h1] at h2
          unfold Hid
          by_cases h0 : 0 < k
          · rw [if_pos h0] at h2 ⊢; simp only [List.length_append, List.length_cons, List.length_nil] at h2; omega
          · rw [if_neg h0] at h2 ⊢; simp only [List.length_append, List.length_cons, List.length_nil] at h2; omega
        have hnx : Hid (mkS (hdT nm ps ++ nmT (formsW (fs.take (k + 1)))) = mkS (hdT nm ps ++ (nmT (formsW (fs.take k)) ++ ((if 0 < k then [32, 124] else []) ++ (32 :: (bs fs[k].name ++ saT fs[k].args)))))) := by
          unfold Hid; rw [formsW_take fs k h1]
        have hsk : Hid (∀ e ∈ fs[k].args, RSa e) := hsa.out _ (List.getElem_mem h1)
        have hzS : S.size = (hdT nm ps).length + (nmT (formsW (fs.take k))).length := by rw [hS.out, sz_mkS, List.length_append]
        have hfn : (bs fs[k].name).length = fs[k].name.size := by rw [Lib.size_eq]; rfl
        obtain ⟨f, hfk⟩ : ∃ f, fs[k] = f := ⟨_, rfl⟩
        rw [hfk] at g0 g1 ge hlk hnx hsk hfn
        clear harg hfk
        have ge' := Lib.hid ge
        have hgl : f.args.length ≤ 140737488355328 := by
          obtain ⟨fn, fa⟩ := f
          obtain ⟨_, _, _, h7, h8, _⟩ := ge.open
          unfold lenMax at h8
          exact h8
        have hgz : S.size + (2 + (1 + f.name.size)) ≤ 1099511627780 := by
          have := hlk.out
          split at this <;> omega
        have hbase : Hid (∃ S1 : Str, ((0 < k ∧ S1 = S ++ ⟨#[32, 124]⟩ ++ ⟨#[32]⟩ ++ f.name) ∨ (¬ 0 < k ∧ S1 = S ++ ⟨#[32]⟩ ++ f.name))) := by
          by_cases h0 : 0 < k
          · exact ⟨_, .inl ⟨h0, rfl⟩⟩
          · exact ⟨_, .inr ⟨h0, rfl⟩⟩
        have hin : Hid (∀ S1 : Str, ((0 < k ∧ S1 = S ++ ⟨#[32, 124]⟩ ++ ⟨#[32]⟩ ++ f.name) ∨ (¬ 0 < k ∧ S1 = S ++ ⟨#[32]⟩ ++ f.name)) → S1 = mkS (hdT nm ps ++ (nmT (formsW (fs.take k)) ++ ((if 0 < k then [32, 124] else []) ++ (32 :: (bs f.name ++ saT (f.args.take 0))))))) := by
          rintro S1 (⟨h0, rfl⟩ | ⟨h0, rfl⟩)
          · refine bs_inj ?_
            rw [bs_cat, bs_cat, bs_cat, hS.out, if_pos h0]
            simp [bs, mkS, saT]
          · refine bs_inj ?_
            rw [bs_cat, bs_cat, hS.out, if_neg h0]
            simp [bs, mkS, saT]
        clear ge hbase
        have hk2 : Hid (∀ V, Below (w.heap.size + 1) (w.alloc (.cells #[.string nm, .slice a1 ps.length c1, .slice (some ⟨b, off, none⟩) fs.length c2] 49)) V → Below wr.heap.size wr V → V.cell? ⟨b, off + k * 2, none⟩ = some (.string f.name) ∧ V.cell? ⟨b, off + k * 2 + 1, none⟩ = some (.slice a3 f.args.length c3) ∧ IsSg V (.agg #[.string f.name, .slice a3 f.args.length c3]) f) := fun V _ hb => ⟨Keeps.of_below hb _ _ g0, Keeps.of_below hb _ _ g1, IsSg.keeps (Keeps.of_below hb) _ _ ge'.out⟩
        have hki : (k : Int) < (fs.length : Int) := by omega
        by_cases h0 : 0 < k
        all_goals
          have hS1 := Lib.hid (hin.out _ (by first | exact .inl ⟨h0, rfl⟩ | exact .inr ⟨h0, rfl⟩))
          go_wp2_with fail
          go_loopw [3, 5] (fun s i wi => ∃ (m : Nat) (S2 : Str), m ≤ f.args.length ∧ i = .int .i64 m ∧ s = .string S2 ∧ Hid (S2 = mkS (hdT nm ps ++ (nmT (formsW (fs.take k)) ++ ((if 0 < k then [32, 124] else []) ++ (32 :: (bs f.name ++ saT (f.args.take m))))))) ∧ Below wr.heap.size wr wi) (fun _ i _ => f.args.length - (intOf i).toNat)
          case atStart => exact ⟨0, _, by omega, rfl, rfl, hS1, Below.refl _ _⟩
          case round =>
            clear q0 q1 q2 g0 g1
            obtain ⟨m, S2, hm, rfl, rfl, hS2, hB2⟩ := hrel
            have hBB := hB.trans (hB2.mono hz)
            obtain ⟨q0, q1, q2⟩ := box3 hBB
            obtain ⟨g0, g1, ge⟩ := hk2.out _ hBB hB2
            have hz2 := size_box hBB
            by_cases h2 : m < f.args.length
            · obtain ⟨fn, fa⟩ := f
              simp only [Sg.name, Sg.args] at *
              obtain ⟨y1, y2, hy, _, _, hyr⟩ := ge.open
              simp only [Value.agg.injEq, Array.mk.injEq, List.cons.injEq, Value.slice.injEq, and_true, true_and] at hy
              obtain ⟨rfl, rfl⟩ := hy
              obtain ⟨b5, off5, rfl, harg⟩ := hyr.arg (by rintro rfl; simp at h2)
              obtain ⟨a6, c6, r0, r1, ge2⟩ := harg m h2
              obtain ⟨S3, hS3⟩ : ∃ S, mkS (sgAtom fa[m]) = S := ⟨_, rfl⟩
              have hcall := Lib.hid (hsk.out _ (List.getElem_mem h2) _ _ ge2)
              rw [hS3] at hcall
              have hn : Hid (S2 ++ ⟨#[32]⟩ ++ S3 = mkS (hdT nm ps ++ (nmT (formsW (fs.take k)) ++ ((if 0 < k then [32, 124] else []) ++ (32 :: (bs fn ++ saT (fa.take (m + 1)))))))) := by
                refine bs_inj ?_
                rw [bs_cat, bs_cat, hS2.out, ← hS3, saT_succ fa m h2]
                simp [bs, mkS]
              have hzz : S2.size + 1 + S3.size ≤ 1099511627775 := by
                have h3 := hlk.out
                have h4 := saT_le fa (m + 1)
                rw [saT_succ fa m h2] at h4
                rw [hS2.out, ← hS3, sz_mkS, sz_mkS]
                simp only [List.length_append, List.length_cons, List.length_nil] at h4 ⊢
                split at h3 <;> split <;> simp only [List.length_cons, List.length_nil] <;> omega
              have hzz1 : S2.size + 1 ≤ 1099511627775 := by omega
              clear hS3 ge ge2 harg hyr
              go_wp2_with fail
              refine hcall.out.mono ?_
              rintro e w3 ⟨rfl, hB3⟩
              have hB3' := hB2.trans (hB3.mono hB2.size)
              clear hB3
              go_wp2_with fail
              go_roundw
              case rel => exact ⟨m + 1, _, by omega, by go_num, rfl, hn, hB3'⟩
              case measure => simp [intOf]; omega
            · have e : m = f.args.length := by omega
              have hn : Hid (S2 = mkS (hdT nm ps ++ nmT (formsW (fs.take (k + 1))))) := by
                unfold Hid
                rw [hnx.out, hS2.out, e, List.take_length]
              clear e ge
              go_wp2_with fail
              go_roundw
              case rel => exact ⟨k + 1, _, by omega, by go_num, rfl, hn, hBB⟩
              case measure => simp [intOf]; omega
      · have e : k = fs.length := by omega
        have e' := Lib.hid e
        clear e
        go_wp2_with fail
        go_ret
        exact ⟨ret_str (by rw [hS.out, e'.out, List.take_length, hT.out]), below_box hB⟩

/-- Texts, with ; between, a byte 32 ahead of each. -/
def spT (L : List (List UInt8)) : List UInt8 := if L.length = 0 then [] else 32 :: seqT L
theorem spT_snoc (L : List (List UInt8)) (x : List UInt8) : spT (L ++ [x]) = spT L ++ ((if 0 < L.length then [32, 59] else []) ++ (32 :: x)) := by
  unfold spT
  rw [if_neg (by simp), seq_snoc]
  by_cases h : L.length = 0
  · obtain rfl := List.length_eq_zero_iff.1 h
    simp [seq_nil]
  · rw [if_neg h, if_pos (by omega), if_pos (by omega)]
    simp
theorem progT_sp (p : Pg) : progT p = 123 :: (spT (progL p) ++ [32, 125]) := by
  unfold progT spT
  by_cases h : progL p = []
  · rw [if_pos h, h]; rfl
  · rw [if_neg h, if_neg (fun h' => h (List.length_eq_zero_iff.1 h'))]
    unfold progW
    rw [joinSp_cons]
    simp [nmT, bs, mkS, seqT]
theorem spT_pre (A B : List (List UInt8)) : (spT A).length ≤ (spT (A ++ B)).length := by
  induction B generalizing A with
  | nil => simp
  | cons b B ih =>
    have h1 := ih (A ++ [b])
    rw [List.append_assoc, List.singleton_append, spT_snoc, List.length_append] at h1
    omega
theorem spT_take (L : List (List UInt8)) (k : Nat) : (spT (L.take k)).length ≤ (spT L).length := by
  have := spT_pre (L.take k) (L.drop k)
  rwa [List.take_append_drop] at this
theorem pre1 (ds : List Dt) (fs : List Df) (k : Nat) : (spT ((ds.take k).map dataT)).length ≤ (spT (progL ⟨ds, fs⟩)).length := by
  have e : progL ⟨ds, fs⟩ = (ds.take k).map dataT ++ ((ds.drop k).map dataT ++ fs.map defT) := by
    rw [← List.append_assoc, ← List.map_append, List.take_append_drop]; rfl
  rw [e]; exact spT_pre _ _
theorem pre2 (ds : List Dt) (fs : List Df) (k : Nat) : (spT (ds.map dataT ++ (fs.take k).map defT)).length ≤ (spT (progL ⟨ds, fs⟩)).length := by
  have e : progL ⟨ds, fs⟩ = (ds.map dataT ++ (fs.take k).map defT) ++ (fs.drop k).map defT := by
    rw [List.append_assoc, ← List.map_append, List.take_append_drop]; rfl
  rw [e]; exact spT_pre _ _
theorem spT_d (ds : List Dt) (k : Nat) (h : k < ds.length) : spT ((ds.take (k + 1)).map dataT) = spT ((ds.take k).map dataT) ++ ((if 0 < k then [32, 59] else []) ++ (32 :: dataT ds[k])) := by
  rw [List.take_succ_eq_append_getElem h, List.map_append, List.map_cons, List.map_nil, spT_snoc, List.length_map, List.length_take, Nat.min_eq_left (by omega)]
theorem spT_f (ds : List Dt) (fs : List Df) (k : Nat) (h : k < fs.length) : spT (ds.map dataT ++ (fs.take (k + 1)).map defT) = spT (ds.map dataT ++ (fs.take k).map defT) ++ ((if 0 < ds.length + k then [32, 59] else []) ++ (32 :: (bs fs[k].name ++ (32 :: 61 :: 32 :: textE fs[k].body)))) := by
  rw [List.take_succ_eq_append_getElem h, List.map_append, List.map_cons, List.map_nil, ← List.append_assoc, spT_snoc, List.length_append, List.length_map, List.length_map, List.length_take, Nat.min_eq_left (by omega), def_text]

set_option maxHeartbeats 4000000 in
set_option maxRecDepth 100000 in
theorem r_Prog (p : Pg) (v : Value) (w : World) (hv : IsPg w v p) (hl : progB p = true → (progT p).length ≤ 1099511627775) :
    Calls Tryz.prog 9 #[v] w fun r w' => r = .returned (.tuple #[.string (prgS p), .int .i64 (prgN p)]) ∧ Below w.heap.size w w' := by
  have hv0 := hv
  obtain ⟨ds, fs⟩ := p
  obtain ⟨a1, c1, a2, c2, rfl, hds, hfs, hdr, hfr⟩ := hv
  simp only at hds hfs hdr hfr
  unfold lenMax at hds hfs
  have hB0 : Below (w.heap.size + 1) (w.alloc (.cells #[.slice a1 ds.length c1, .slice a2 fs.length c2] 25)) (w.alloc (.cells #[.slice a1 ds.length c1, .slice a2 fs.length c2] 25)) := Below.refl _ _
  have hbw := Lib.hid (below_box hB0)
  obtain ⟨k0, k1⟩ := box2 hB0
  have hchk := Lib.hid (r04_Prog _ _ _ (hv0.keeps (Keeps.of_below hbw.out)))
  cases h : progB ⟨ds, fs⟩
  · have hx : Hid (prgS ⟨ds, fs⟩ = ⟨#[]⟩ ∧ prgN ⟨ds, fs⟩ = 40) := ⟨by simp [prgS, h], by simp [prgN, h]⟩
    rw [h] at hchk
    clear h hl hv0 hB0 hdr hfr
    go_enter Tryz.func9, Tryz.ntmps9
    go_wp2_with fail
    refine hchk.out.mono ?_
    rintro e w1 ⟨rfl, hB1⟩
    go_wp2_with fail
    go_ret2
    exact ⟨ret_sn hx.out.1.symm hx.out.2.symm, hbw.out.trans (hB1.mono (by simp))⟩
  have hx : Hid (prgS ⟨ds, fs⟩ = mkS (progT ⟨ds, fs⟩) ∧ prgN ⟨ds, fs⟩ = 0) := ⟨by simp [prgS, h], by simp [prgN, h]⟩
  have hT := Lib.hid (hl h)
  have hlt : Hid ((spT (progL ⟨ds, fs⟩)).length + 3 ≤ 1099511627775) := by
    have := hT.out
    rw [progT_sp] at this
    simp only [List.length_append, List.length_cons, List.length_nil] at this
    unfold Hid; omega
  have hdef : Hid (∀ d ∈ fs, RT d.body ∧ (defT d).length ≤ 1099511627775) := fun d hd => by
    have h1 : (defT d).length ≤ 1099511627775 := Nat.le_trans (prog_mem_le ⟨ds, fs⟩ (by simp only [progL, List.mem_append, List.mem_map]; exact .inr ⟨d, hd, rfl⟩)) hT.out
    refine ⟨?_, h1⟩
    simp only [progB, Bool.and_eq_true, List.all_eq_true] at h
    have h2 := h.2 d hd
    simp only [defB, Bool.and_eq_true] at h2
    obtain ⟨v, hve⟩ := hfr.mem hd
    exact r_Text (chk_snd h2.2) (IsEx.numOk _ _ hve) (Nat.le_trans (mem_le (p := mkS (textE d.body)) (l := defW d) (by simp [defW])) h1)
  have hdat : Hid (∀ d ∈ ds, (dataT d).length ≤ 1099511627775) := fun d hd =>
    Nat.le_trans (prog_mem_le ⟨ds, fs⟩ (by simp only [progL, List.mem_append, List.mem_map]; exact .inl ⟨d, hd, rfl⟩)) hT.out
  have hdr' := Lib.hid hdr
  have hfr' := Lib.hid hfr
  rw [h] at hchk
  clear h hl hv0 hB0 hdr hfr
  go_enter Tryz.func9, Tryz.ntmps9
  go_wp2_with fail
  refine hchk.out.mono ?_
  rintro e w1 ⟨rfl, hB1⟩
  have hC1 := hB1.mono (B' := w.heap.size + 1) (by simp)
  clear hB1 k0 k1
  go_wp2_with fail
  go_loopw [5, 6] (fun s i wr => ∃ (k : Nat) (S : Str), k ≤ ds.length ∧ i = .int .i64 k ∧ s = .string S ∧ Hid (S = mkS (123 :: spT ((ds.take k).map dataT))) ∧ Below (w.heap.size + 1) (w.alloc (.cells #[.slice a1 ds.length c1, .slice a2 fs.length c2] 25)) wr) (fun _ i _ => ds.length - (intOf i).toNat)
  case atStart => exact ⟨0, _, by omega, rfl, rfl, rfl, hC1⟩
  case round =>
    clear hC1
    obtain ⟨k, S, hk, rfl, rfl, hS, hB⟩ := hrel
    obtain ⟨q0, q1⟩ := box2 hB
    have hz := size_box hB
    by_cases h1 : k < ds.length
    · obtain ⟨b, off, rfl, hat⟩ := (hdr'.out.keeps (Keeps.of_below (below_box hB))).at (by rintro rfl; simp at h1)
      obtain ⟨a5, c5, a6, c6, g0, g1, g2, ge⟩ := hat k h1
      obtain ⟨S1, hS1⟩ : ∃ S, mkS (dataT ds[k]) = S := ⟨_, rfl⟩
      have hcall := Lib.hid (r_data ds[k] _ _ ge (hdat.out _ (List.getElem_mem h1)))
      rw [hS1] at hcall
      have hzS : S.size = 1 + (spT ((ds.take k).map dataT)).length := by rw [hS.out, sz_mkS, List.length_cons]; omega
      have hzz : S.size + 2 + 1 + S1.size ≤ 1099511627780 := by
        have h2 := pre1 ds fs (k + 1)
        have h3 := hlt.out
        rw [spT_d ds k h1] at h2
        simp only [List.length_append, List.length_cons] at h2
        rw [← hS1, sz_mkS]; omega
      have hn : Hid (∀ S', ((0 < k ∧ S' = S ++ ⟨#[32, 59]⟩) ∨ (¬ 0 < k ∧ S' = S)) → S' ++ ⟨#[32]⟩ ++ S1 = mkS (123 :: spT ((ds.take (k + 1)).map dataT))) := by
        rintro S' (⟨h0, rfl⟩ | ⟨h0, rfl⟩)
        · refine bs_inj ?_
          rw [bs_cat, bs_cat, bs_cat, hS.out, ← hS1, spT_d ds k h1, if_pos h0]
          simp [bs, mkS]
        · refine bs_inj ?_
          rw [bs_cat, bs_cat, hS.out, ← hS1, spT_d ds k h1, if_neg h0]
          simp [bs, mkS]
      clear hat ge hS1 hzS
      by_cases h0 : 0 < k
      all_goals
        go_wp2_with fail
        refine hcall.out.mono ?_
        rintro e w2 ⟨rfl, hB2⟩
        have hB2' := hB.trans (hB2.mono hz)
        clear hB2
        go_wp2_with fail
        go_roundw
        case rel => exact ⟨k + 1, _, by omega, by go_num, rfl, hn.out _ (by first | exact .inl ⟨h0, rfl⟩ | exact .inr ⟨h0, rfl⟩), hB2'⟩
        case measure => simp [intOf]; omega
    · have e : k = ds.length := by omega
      have hS0 : Hid (S = mkS (123 :: spT (ds.map dataT ++ (fs.take 0).map defT))) := by
        unfold Hid
        rw [hS.out, e, List.take_length, List.take_zero, List.map_nil, List.append_nil]
      clear e
      go_wp2_with fail
      go_loopw [5, 7] (fun s i wr => ∃ (m : Nat) (S : Str), m ≤ fs.length ∧ i = .int .i64 m ∧ s = .string S ∧ Hid (S = mkS (123 :: spT (ds.map dataT ++ (fs.take m).map defT))) ∧ Below (w.heap.size + 1) (w.alloc (.cells #[.slice a1 ds.length c1, .slice a2 fs.length c2] 25)) wr) (fun _ i _ => fs.length - (intOf i).toNat)
      case atStart => exact ⟨0, _, by omega, rfl, rfl, hS0, hB⟩
      case round =>
        clear hS0 hB q0 q1 hk h1 hz hS
        obtain ⟨m, S, hm, rfl, rfl, hS, hB⟩ := hrel
        obtain ⟨q0, q1⟩ := box2 hB
        have hz := size_box hB
        by_cases h2 : m < fs.length
        · rcases Nat.eq_zero_or_pos m with rfl | hpos
          · obtain ⟨b, off, rfl, hat⟩ := hfr'.out.at (by rintro rfl; simp at h2)
            obtain ⟨a5, c5, a6, c6, g0, g1, g2, g3, g4, g5, ge⟩ := hat 0 h2
            have hd := hdef.out _ (List.getElem_mem h2)
            have hsn := Lib.hid (spT_f ds fs 0 h2)
            have hzS : S.size = 1 + (spT (ds.map dataT ++ (fs.take 0).map defT)).length := by rw [hS.out, sz_mkS, List.length_cons]; omega
            have hp2 := pre2 ds fs (0 + 1)
            rw [hsn.out] at hp2
            obtain ⟨d, hdm⟩ : ∃ d, fs[0] = d := ⟨_, rfl⟩
            simp only [Nat.zero_mul, Nat.add_zero, Nat.zero_add] at g0 g1 g2 g3 g4 g5
            rw [hdm] at g0 g1 g2 g3 g4 g5 ge hd hsn hp2
            obtain ⟨S1, hS1⟩ : ∃ S, mkS (textE d.body) = S := ⟨_, rfl⟩
            have hdz : (bs d.name).length = d.name.size := by rw [Lib.size_eq]; rfl
            have hs1z : (textE d.body).length = S1.size := by rw [← hS1, sz_mkS]
            have hzz : S.size + 2 + 1 + d.name.size + 3 + S1.size ≤ 1099511627780 := by
              have h3 := hlt.out
              simp only [List.length_append, List.length_cons] at hp2
              omega
            have hbd := ge.body
            have hSt : Hid (∀ V, Below (w.heap.size + 1) (w.alloc (.cells #[.slice a1 ds.length c1, .slice (some ⟨b, off, none⟩) fs.length c2] 25)) V → Below (w.heap.size + 1) (w.alloc (.cells #[.slice a1 ds.length c1, .slice (some ⟨b, off, none⟩) fs.length c2] 25)) V ∧ V.cell? ⟨w.heap.size, 0, none⟩ = some (.slice a1 ds.length c1) ∧ V.cell? ⟨w.heap.size, 1, none⟩ = some (.slice (some ⟨b, off, none⟩) fs.length c2) ∧ V.cell? ⟨b, off, none⟩ = some (.string d.name) ∧ V.cell? ⟨b, off + 1, none⟩ = some (.int .i64 d.body.kind) ∧ V.cell? ⟨b, off + 2, none⟩ = some (.string d.body.name) ∧ V.cell? ⟨b, off + 3, none⟩ = some (.int .i64 d.body.num) ∧ V.cell? ⟨b, off + 4, none⟩ = some (.slice a5 d.body.names.length c5) ∧ V.cell? ⟨b, off + 5, none⟩ = some (.slice a6 d.body.kids.length c6)) := by
              intro V hb
              have bx := box2 hb
              have hk := keeps_box hb
              have hk' : Keeps w V := Keeps.of_below (below_box hb)
              exact ⟨hb, bx.1, bx.2, hk' _ _ g0, hk' _ _ g1, hk' _ _ g2, hk' _ _ g3, hk' _ _ g4, hk' _ _ g5⟩
            have hC0 : Hid (∀ V, Below (w.heap.size + 1) (w.alloc (.cells #[.slice a1 ds.length c1, .slice (some ⟨b, off, none⟩) fs.length c2] 25)) V → Calls Tryz.prog 25 #[(.agg #[.int .i64 d.body.kind, .string d.body.name, .int .i64 d.body.num, .slice a5 d.body.names.length c5, .slice a6 d.body.kids.length c6])] V fun r w' => r = .returned (.string S1) ∧ Below (w.heap.size + 1) (w.alloc (.cells #[.slice a1 ds.length c1, .slice (some ⟨b, off, none⟩) fs.length c2] 25)) w') := by
              intro V hb
              rw [← hS1]
              refine (hd.1 _ V (hbd.keeps (Keeps.of_below (below_box hb)))).mono ?_
              rintro r w' ⟨rfl, hB⟩
              exact ⟨rfl, hb.trans (hB.mono (by have := hb.size; simpa using this))⟩
            have hn : Hid (∀ S', ((0 < ds.length + 0 ∧ S' = S ++ ⟨#[32, 59]⟩) ∨ (¬ 0 < ds.length + 0 ∧ S' = S)) → S' ++ ⟨#[32]⟩ ++ d.name ++ ⟨#[32, 61, 32]⟩ ++ S1 = mkS (123 :: spT (ds.map dataT ++ (fs.take (0 + 1)).map defT))) := by
              rintro S' (⟨h0, rfl⟩ | ⟨h0, rfl⟩)
              · refine bs_inj ?_
                rw [bs_cat, bs_cat, bs_cat, bs_cat, bs_cat, hS.out, ← hS1, hsn.out, if_pos h0]
                simp [bs, mkS]
              · refine bs_inj ?_
                rw [bs_cat, bs_cat, bs_cat, bs_cat, hS.out, ← hS1, hsn.out, if_neg h0]
                simp [bs, mkS]
            have hmi : (0 : Int) < (fs.length : Int) := by omega
            have hst := Lib.hid (hSt.out _ hB)
            have hdr := Lib.hid (hSt.out _ hB.drew)
            have hno1 : ¬ (9223372036854775807 < S.size + 1) := by omega
            have hno2 : ¬ (9223372036854775807 < S.size + 1 + d.name.size) := by omega
            have hno3 : ¬ (9223372036854775807 < S.size + 1 + d.name.size + 3) := by omega
            have hno4 : ¬ (9223372036854775807 < S.size + 1 + d.name.size + 3 + S1.size) := by omega
            have hno5 : ¬ (9223372036854775807 < S.size + 2 + 1) := by omega
            have hno6 : ¬ (9223372036854775807 < S.size + 2 + 1 + d.name.size) := by omega
            have hno7 : ¬ (9223372036854775807 < S.size + 2 + 1 + d.name.size + 3) := by omega
            have hno8 : ¬ (9223372036854775807 < S.size + 2 + 1 + d.name.size + 3 + S1.size) := by omega
            obtain ⟨_, _, _, j0, j1, j2, j3, j4, j5⟩ := hSt.out _ hB
            clear hat ge hd hsn hp2 hdm hS1 hdz hs1z hzS hbd g0 g1 g2 g3 g4 g5
            have hq : ((0 : Int) < (ds.length : Int)) ∨ ((ds.length : Int) ≤ 0) := by omega
            rcases hq with h4 | h4
            all_goals
              go_wp2_with fail
              go_region_held3 (fun V => Below (w.heap.size + 1) (w.alloc (.cells #[.slice a1 ds.length c1, .slice (some ⟨b, off, none⟩) fs.length c2] 25)) V ∧ V.cell? ⟨w.heap.size, 0, none⟩ = some (.slice a1 ds.length c1) ∧ V.cell? ⟨w.heap.size, 1, none⟩ = some (.slice (some ⟨b, off, none⟩) fs.length c2) ∧ V.cell? ⟨b, off, none⟩ = some (.string d.name) ∧ V.cell? ⟨b, off + 1, none⟩ = some (.int .i64 d.body.kind) ∧ V.cell? ⟨b, off + 2, none⟩ = some (.string d.body.name) ∧ V.cell? ⟨b, off + 3, none⟩ = some (.int .i64 d.body.num) ∧ V.cell? ⟨b, off + 4, none⟩ = some (.slice a5 d.body.names.length c5) ∧ V.cell? ⟨b, off + 5, none⟩ = some (.slice a6 d.body.kids.length c6)) ((first | exact hdr.out | exact hst.out | exact hSt.out _ (by assumption) | exact hSt.out _ (Below.drew (by assumption))))
                (first | (go_at_call 25; (with_reducible refine (hC0.out _ (by first | assumption | exact Below.drew (by assumption))).mono ?_); rintro e w2 ⟨rfl, hb1⟩))
              all_goals
                go_wp2_with fail
                go_roundw
                case rel => exact ⟨0 + 1, _, by omega, by go_num, rfl, hn.out _ (by first | exact .inl ⟨by omega, rfl⟩ | exact .inr ⟨by omega, rfl⟩), hb1⟩
                case measure => simp [intOf]; omega
          · obtain ⟨b, off, rfl, hat⟩ := hfr'.out.at (by rintro rfl; simp at h2)
            obtain ⟨a5, c5, a6, c6, g0, g1, g2, g3, g4, g5, ge⟩ := hat m h2
            have hd := hdef.out _ (List.getElem_mem h2)
            have hsn := Lib.hid (spT_f ds fs m h2)
            have hzS : S.size = 1 + (spT (ds.map dataT ++ (fs.take m).map defT)).length := by rw [hS.out, sz_mkS, List.length_cons]; omega
            have hp2 := pre2 ds fs (m + 1)
            rw [hsn.out] at hp2
            obtain ⟨d, hdm⟩ : ∃ d, fs[m] = d := ⟨_, rfl⟩
            rw [hdm] at g0 g1 g2 g3 g4 g5 ge hd hsn hp2
            obtain ⟨S1, hS1⟩ : ∃ S, mkS (textE d.body) = S := ⟨_, rfl⟩
            have hdz : (bs d.name).length = d.name.size := by rw [Lib.size_eq]; rfl
            have hs1z : (textE d.body).length = S1.size := by rw [← hS1, sz_mkS]
            have hzz : S.size + 2 + 1 + d.name.size + 3 + S1.size ≤ 1099511627780 := by
              have h3 := hlt.out
              simp only [List.length_append, List.length_cons] at hp2
              omega
            have hbd := ge.body
            have hSt : Hid (∀ V, Below (w.heap.size + 1) (w.alloc (.cells #[.slice a1 ds.length c1, .slice (some ⟨b, off, none⟩) fs.length c2] 25)) V → Below (w.heap.size + 1) (w.alloc (.cells #[.slice a1 ds.length c1, .slice (some ⟨b, off, none⟩) fs.length c2] 25)) V ∧ V.cell? ⟨w.heap.size, 0, none⟩ = some (.slice a1 ds.length c1) ∧ V.cell? ⟨w.heap.size, 1, none⟩ = some (.slice (some ⟨b, off, none⟩) fs.length c2) ∧ V.cell? ⟨b, off + m * 6, none⟩ = some (.string d.name) ∧ V.cell? ⟨b, off + m * 6 + 1, none⟩ = some (.int .i64 d.body.kind) ∧ V.cell? ⟨b, off + m * 6 + 2, none⟩ = some (.string d.body.name) ∧ V.cell? ⟨b, off + m * 6 + 3, none⟩ = some (.int .i64 d.body.num) ∧ V.cell? ⟨b, off + m * 6 + 4, none⟩ = some (.slice a5 d.body.names.length c5) ∧ V.cell? ⟨b, off + m * 6 + 5, none⟩ = some (.slice a6 d.body.kids.length c6)) := by
              intro V hb
              have bx := box2 hb
              have hk := keeps_box hb
              have hk' : Keeps w V := Keeps.of_below (below_box hb)
              exact ⟨hb, bx.1, bx.2, hk' _ _ g0, hk' _ _ g1, hk' _ _ g2, hk' _ _ g3, hk' _ _ g4, hk' _ _ g5⟩
            have hC0 : Hid (∀ V, Below (w.heap.size + 1) (w.alloc (.cells #[.slice a1 ds.length c1, .slice (some ⟨b, off, none⟩) fs.length c2] 25)) V → Calls Tryz.prog 25 #[(.agg #[.int .i64 d.body.kind, .string d.body.name, .int .i64 d.body.num, .slice a5 d.body.names.length c5, .slice a6 d.body.kids.length c6])] V fun r w' => r = .returned (.string S1) ∧ Below (w.heap.size + 1) (w.alloc (.cells #[.slice a1 ds.length c1, .slice (some ⟨b, off, none⟩) fs.length c2] 25)) w') := by
              intro V hb
              rw [← hS1]
              refine (hd.1 _ V (hbd.keeps (Keeps.of_below (below_box hb)))).mono ?_
              rintro r w' ⟨rfl, hB⟩
              exact ⟨rfl, hb.trans (hB.mono (by have := hb.size; simpa using this))⟩
            have hn : Hid (∀ S', ((0 < ds.length + m ∧ S' = S ++ ⟨#[32, 59]⟩) ∨ (¬ 0 < ds.length + m ∧ S' = S)) → S' ++ ⟨#[32]⟩ ++ d.name ++ ⟨#[32, 61, 32]⟩ ++ S1 = mkS (123 :: spT (ds.map dataT ++ (fs.take (m + 1)).map defT))) := by
              rintro S' (⟨h0, rfl⟩ | ⟨h0, rfl⟩)
              · refine bs_inj ?_
                rw [bs_cat, bs_cat, bs_cat, bs_cat, bs_cat, hS.out, ← hS1, hsn.out, if_pos h0]
                simp [bs, mkS]
              · refine bs_inj ?_
                rw [bs_cat, bs_cat, bs_cat, bs_cat, hS.out, ← hS1, hsn.out, if_neg h0]
                simp [bs, mkS]
            have hmi : (m : Int) < (fs.length : Int) := by omega
            have hst := Lib.hid (hSt.out _ hB)
            have hdr := Lib.hid (hSt.out _ hB.drew)
            have hno1 : ¬ (9223372036854775807 < S.size + 1) := by omega
            have hno2 : ¬ (9223372036854775807 < S.size + 1 + d.name.size) := by omega
            have hno3 : ¬ (9223372036854775807 < S.size + 1 + d.name.size + 3) := by omega
            have hno4 : ¬ (9223372036854775807 < S.size + 1 + d.name.size + 3 + S1.size) := by omega
            have hno5 : ¬ (9223372036854775807 < S.size + 2 + 1) := by omega
            have hno6 : ¬ (9223372036854775807 < S.size + 2 + 1 + d.name.size) := by omega
            have hno7 : ¬ (9223372036854775807 < S.size + 2 + 1 + d.name.size + 3) := by omega
            have hno8 : ¬ (9223372036854775807 < S.size + 2 + 1 + d.name.size + 3 + S1.size) := by omega
            obtain ⟨_, _, _, j0, j1, j2, j3, j4, j5⟩ := hSt.out _ hB
            clear hat ge hd hsn hp2 hdm hS1 hdz hs1z hzS hbd g0 g1 g2 g3 g4 g5
            have hm0 : (0 : Int) ≤ (m : Int) := by omega
            have h3 : (0 : Int) < (m : Int) := by omega
            all_goals
              go_wp2_with fail
              go_region_held3 (fun V => Below (w.heap.size + 1) (w.alloc (.cells #[.slice a1 ds.length c1, .slice (some ⟨b, off, none⟩) fs.length c2] 25)) V ∧ V.cell? ⟨w.heap.size, 0, none⟩ = some (.slice a1 ds.length c1) ∧ V.cell? ⟨w.heap.size, 1, none⟩ = some (.slice (some ⟨b, off, none⟩) fs.length c2) ∧ V.cell? ⟨b, off + m * 6, none⟩ = some (.string d.name) ∧ V.cell? ⟨b, off + m * 6 + 1, none⟩ = some (.int .i64 d.body.kind) ∧ V.cell? ⟨b, off + m * 6 + 2, none⟩ = some (.string d.body.name) ∧ V.cell? ⟨b, off + m * 6 + 3, none⟩ = some (.int .i64 d.body.num) ∧ V.cell? ⟨b, off + m * 6 + 4, none⟩ = some (.slice a5 d.body.names.length c5) ∧ V.cell? ⟨b, off + m * 6 + 5, none⟩ = some (.slice a6 d.body.kids.length c6)) ((first | exact hdr.out | exact hst.out | exact hSt.out _ (by assumption) | exact hSt.out _ (Below.drew (by assumption))))
                (first | (go_at_call 25; (with_reducible refine (hC0.out _ (by first | assumption | exact Below.drew (by assumption))).mono ?_); rintro e w2 ⟨rfl, hb1⟩))
              all_goals
                go_wp2_with fail
                go_roundw
                case rel => exact ⟨m + 1, _, by omega, by go_num, rfl, hn.out _ (by first | exact .inl ⟨by omega, rfl⟩ | exact .inr ⟨by omega, rfl⟩), hb1⟩
                case measure => simp [intOf]; omega
        · have e : m = fs.length := by omega
          have hn : Hid (S ++ ⟨#[32, 125]⟩ = mkS (progT ⟨ds, fs⟩)) := by
            refine bs_inj ?_
            rw [progT_sp, bs_cat, hS.out, e, List.take_length]
            simp [bs, mkS, progL]
          have hzS : S.size + 2 ≤ 1099511627775 := by
            have h3 := hlt.out
            have h4 := pre2 ds fs m
            rw [hS.out, sz_mkS, List.length_cons]; omega
          clear e
          go_wp2_with fail
          go_ret2
          exact ⟨ret_sn (hn.out.trans hx.out.1.symm) hx.out.2.symm, below_box hB⟩
end Go.Proofs.YtpdfeadajgokkaaGreatDoor
