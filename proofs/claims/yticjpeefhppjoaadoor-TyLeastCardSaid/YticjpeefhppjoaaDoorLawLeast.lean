/- dawdlerlaw08.TyLeast answers true. -/
import Derived.Test.YticjpeefhppjoaaDoorTyAw
import Derived.Test.YticjpeefhppjoaaDoorTyTn
import Derived.Test.YticjpeefhppjoaaDoorLawApplies
import Derived.Test.YticjpeefhppjoaaDoorInv
import Derived.Deep.CutRange
import Derived.Deep.RegionHeld3
namespace Go.Proofs.YticjpeefhppjoaaDoor
open Go.RowKit

set_option maxHeartbeats 8000000 in
set_option maxRecDepth 100000 in
theorem least_c (a b : Ty) (F : List Fa) (aF : Option Addr) (cF : Nat) (va vb : Value) (w : World) (hva : IsTy w va a) (hvb : IsTy w vb b) (hFl : F.length ≤ lenMax) (hF : FaRow (fun _ => False) w aF F) (ht : Tab w) : Calls Tryd.prog 7 #[va, vb, .slice aF F.length cF] w fun r w' => r = .returned (.bool true) ∧ Below w.heap.size w w' := by
  have h64 : Hid (∀ m ∈ allT a ++ allT b, In64 m) := fun m hm => by
    rcases List.mem_append.1 hm with h | h
    · exact all_in64 hva m h
    · exact all_in64 hvb m h
  have hFl' := Lib.hid hFl
  obtain ⟨s, n, l⟩ := a
  obtain ⟨a1, c1, rfl, _⟩ := hva.open
  obtain ⟨s', n', l'⟩ := b
  obtain ⟨a2, c2, rfl, _⟩ := hvb.open
  obtain ⟨W1, hW1⟩ : ∃ W, (w.alloc (.cells #[.string s, .int .i64 n, .slice a1 l.length c1] 24)).alloc (.cells #[.string s', .int .i64 n', .slice a2 l'.length c2] 24) = W := ⟨_, rfl⟩
  have hb1 : Below w.heap.size w W1 := by rw [← hW1]; exact ((Below.refl _ w).alloc (Nat.le_refl _) _).alloc (by simp) _
  have hz1 : W1.heap.size = w.heap.size + 2 := by rw [← hW1]; simp
  have x1 : BoxT W1 w.heap.size (.string s) (.int .i64 n) (.slice a1 l.length c1) := by rw [← hW1]; exact new_block ((Below.refl _ _).alloc (by simp) _)
  have x2 : BoxT W1 (w.heap.size + 1) (.string s') (.int .i64 n') (.slice a2 l'.length c2) := by rw [← hW1]; exact new_block2 (Below.refl _ _)
  have hS : Hid (∀ V, Below W1.heap.size W1 V → (Below W1.heap.size W1 V ∧ V.cell? ⟨w.heap.size, 0, none⟩ = some (.string s) ∧ V.cell? ⟨w.heap.size, 1, none⟩ = some (.int .i64 n) ∧ V.cell? ⟨w.heap.size, 2, none⟩ = some (.slice a1 l.length c1) ∧ V.cell? ⟨w.heap.size + 1, 0, none⟩ = some (.string s') ∧ V.cell? ⟨w.heap.size + 1, 1, none⟩ = some (.int .i64 n') ∧ V.cell? ⟨w.heap.size + 1, 2, none⟩ = some (.slice a2 l'.length c2))) := fun V hV => by
    obtain ⟨p0, p1, p2⟩ := (x1.below hV x1.lt).cells
    obtain ⟨p3, p4, p5⟩ := (x2.below hV x2.lt).cells
    exact ⟨hV, p0, p1, p2, p3, p4, p5⟩
  have hI : Hid (∀ V, Below W1.heap.size W1 V → (IsTy V (.agg #[.string s, .int .i64 n, .slice a1 l.length c1]) (.mk s n l) ∧ IsTy V (.agg #[.string s', .int .i64 n', .slice a2 l'.length c2]) (.mk s' n' l') ∧ FaRow (fun _ => False) V aF F ∧ Below w.heap.size w V)) := fun V hV => by
    have hwV := hb1.trans (hV.mono (by omega))
    exact ⟨TyX.below hva hwV, TyX.below hvb hwV, hF.keeps (Keeps.of_below hwV), hwV⟩
  have hW1' := Lib.hid hW1
  have htW := Lib.hid (ht.below hb1)
  clear hva hvb hF hFl ht hW1 hb1 x1 x2
  go_enter Tryd.func7, Tryd.ntmps7
  go_wp2_with fail
  rw [hW1'.out]
  refine (law_awake W1 htW.out).mono ?_
  rintro r V ⟨rfl, hV⟩
  have h0 := Lib.hid hV
  clear hV
  obtain ⟨_, q0, q1, q2, _⟩ := hS.out V h0.out
  have hf := Lib.hid (r08_Few _ _ V (hI.out V h0.out).1)
  cases hfw : fewT (.mk s n l)
  case false =>
    rw [hfw] at hf
    go_wp2_with fail
    refine hf.out.mono ?_
    rintro r Vq ⟨rfl, hVq⟩
    have hfin := Lib.hid ((hI.out V h0.out).2.2.2.trans (hVq.mono (hI.out V h0.out).2.2.2.size))
    clear q0 q1 q2
    go_wp2_with fail
    go_ret
    exact ⟨ret_bool rfl, hfin.out⟩
  rw [hfw] at hf
  clear hfw
  go_wp2_with fail
  refine hf.out.mono ?_
  rintro r V2 ⟨rfl, hVq⟩
  have h1 := Lib.hid (h0.out.trans (hVq.mono h0.out.size))
  clear q0 q1 q2 hf hVq
  obtain ⟨_, _, _, _, q0, q1, q2⟩ := hS.out V2 h1.out
  have hf := Lib.hid (r08_Few _ _ V2 (hI.out V2 h1.out).2.1)
  cases hfw : fewT (.mk s' n' l')
  case false =>
    rw [hfw] at hf
    go_wp2_with fail
    refine hf.out.mono ?_
    rintro r Vq ⟨rfl, hVq⟩
    have hfin := Lib.hid ((hI.out V2 h1.out).2.2.2.trans (hVq.mono (hI.out V2 h1.out).2.2.2.size))
    clear q0 q1 q2
    go_wp2_with fail
    go_ret
    exact ⟨ret_bool rfl, hfin.out⟩
  rw [hfw] at hf
  clear hfw
  go_wp2_with fail
  refine hf.out.mono ?_
  rintro r V3 ⟨rfl, hVq⟩
  have h2 := Lib.hid (h1.out.trans (hVq.mono h1.out.size))
  clear q0 q1 q2 hf hVq
  by_cases h20 : 20 < F.length
  · have h20i : (20 : Int) < (F.length : Int) := by omega
    have hfin := Lib.hid (hI.out V3 h2.out).2.2.2
    go_wp2_with fail
    go_ret
    exact ⟨ret_bool rfl, hfin.out⟩
  have h20i : ¬ (20 : Int) < (F.length : Int) := by omega
  go_wp2_with fail
  go_loopw [8] (fun i wr => ∃ k : Nat, k ≤ F.length ∧ i = .int .i64 k ∧ Hid ((F.take k).all goodF = true) ∧ Hid (Below V3.heap.size V3 wr)) (fun i _ => F.length - (intOf i).toNat)
  case atStart => exact ⟨0, by omega, rfl, (by unfold Hid; simp), Below.refl _ _⟩
  case round =>
    obtain ⟨k, hk, rfl, hgood, hB⟩ := hrel
    have h5 := Lib.hid (h2.out.trans (hB.out.mono h2.out.size))
    have hI5 := Lib.hid (hI.out wr h5.out)
    by_cases h1 : k < F.length
    · obtain ⟨b, off, rfl, hc⟩ := hI5.out.2.2.1.fa (by rintro rfl; simp at h1)
      obtain ⟨a4, c4, g0, g1, g2, g3, ge, gn⟩ := hc k h1
      have hk4 : Hid (∀ V, Below wr.heap.size wr V → V.cell? ⟨b, off + k * 4, none⟩ = some (.int .i64 F[k].n) ∧ V.cell? ⟨b, off + k * 4 + 1, none⟩ = some (.string F[k].ty.name) ∧ V.cell? ⟨b, off + k * 4 + 2, none⟩ = some (.int .i64 F[k].ty.n) ∧ V.cell? ⟨b, off + k * 4 + 3, none⟩ = some (.slice a4 F[k].ty.args.length c4)) := fun V hV => ⟨Keeps.of_below hV _ _ g0, Keeps.of_below hV _ _ g1, Keeps.of_below hV _ _ g2, Keeps.of_below hV _ _ g3⟩
      have ge' := Lib.hid ge
      have hf := Lib.hid (r08_Few _ _ wr ge)
      clear hc ge gn
      cases hfw : fewT F[k].ty
      all_goals
        rw [hfw] at hf
        clear hfw
        go_wp2_with fail
        refine hf.out.mono ?_
        rintro r Va ⟨rfl, hVa⟩
        have hwa := Lib.hid (hI5.out.2.2.2.trans (hVa.mono hI5.out.2.2.2.size))
        have hVa' := Lib.hid hVa
        clear hVa g0 g1 g2 g3 hf
      · go_wp2_with fail
        go_ret
        exact ⟨ret_bool rfl, hwa.out⟩
      obtain ⟨g0, g1, g2, g3⟩ := hk4.out Va hVa'.out
      have hf := Lib.hid (ty_Check _ _ Va (TyX.below ge'.out hVa'.out))
      cases hcw : chkT F[k].ty
      all_goals
        rw [hcw] at hf
        go_wp2_with fail
        refine hf.out.mono ?_
        rintro r Vb ⟨rfl, hVb⟩
        have hwb := Lib.hid (hwa.out.trans (hVb.mono hwa.out.size))
        have hVb' := Lib.hid (hVa'.out.trans (hVb.mono hVa'.out.size))
        clear hVb g0 g1 g2 g3 hf
      · go_wp2_with fail
        go_ret
        exact ⟨ret_bool rfl, hwb.out⟩
      obtain ⟨g0, g1, g2, g3⟩ := hk4.out Vb hVb'.out
      by_cases hn0 : F[k].n < 0
      · go_wp2_with fail
        go_ret
        exact ⟨ret_bool rfl, hwb.out⟩
      · have hg2 : Hid ((F.take (k + 1)).all goodF = true) := by
          unfold Hid
          rw [List.take_succ_eq_append_getElem h1, List.all_append, hgood.out]
          simp only [List.all_cons, List.all_nil, goodF, hcw, Bool.true_and, Bool.and_true, decide_eq_true_eq]
          omega
        have hB3 := Lib.hid (hB.out.trans (hVb'.out.mono hB.out.size))
        clear hcw
        go_wp2_with fail
        go_roundw
        case rel => exact ⟨k + 1, by omega, by go_num, hg2, hB3.out⟩
        case measure => simp [intOf]; omega
    · have hgF : Hid (F.all goodF = true) := by
        have h := hgood.out
        rw [List.take_of_length_le (by omega)] at h
        exact h
      clear hgood
      obtain ⟨ca, hca⟩ : ∃ b, chkT (.mk s n l) = b := ⟨_, rfl⟩
      obtain ⟨cb, hcb⟩ : ∃ b, chkT (.mk s' n' l') = b := ⟨_, rfl⟩
      obtain ⟨ta, hta⟩ : ∃ t, applyT F (.mk s n l) = t := ⟨_, rfl⟩
      obtain ⟨tb, htb⟩ : ∃ t, applyT F (.mk s' n' l') = t := ⟨_, rfl⟩
      have hca' := Lib.hid hca
      have hcb' := Lib.hid hcb
      have hta' := Lib.hid hta
      have htb' := Lib.hid htb
      clear hca hcb hta htb
      have hCa : Hid (∀ V, (Below W1.heap.size W1 V ∧ V.cell? ⟨w.heap.size, 0, none⟩ = some (.string s) ∧ V.cell? ⟨w.heap.size, 1, none⟩ = some (.int .i64 n) ∧ V.cell? ⟨w.heap.size, 2, none⟩ = some (.slice a1 l.length c1) ∧ V.cell? ⟨w.heap.size + 1, 0, none⟩ = some (.string s') ∧ V.cell? ⟨w.heap.size + 1, 1, none⟩ = some (.int .i64 n') ∧ V.cell? ⟨w.heap.size + 1, 2, none⟩ = some (.slice a2 l'.length c2)) → Calls Tryd.prog 15 #[.agg #[.string s, .int .i64 n, .slice a1 l.length c1]] V fun r V' => r = .returned (.bool ca) ∧ (Below W1.heap.size W1 V' ∧ V'.cell? ⟨w.heap.size, 0, none⟩ = some (.string s) ∧ V'.cell? ⟨w.heap.size, 1, none⟩ = some (.int .i64 n) ∧ V'.cell? ⟨w.heap.size, 2, none⟩ = some (.slice a1 l.length c1) ∧ V'.cell? ⟨w.heap.size + 1, 0, none⟩ = some (.string s') ∧ V'.cell? ⟨w.heap.size + 1, 1, none⟩ = some (.int .i64 n') ∧ V'.cell? ⟨w.heap.size + 1, 2, none⟩ = some (.slice a2 l'.length c2))) := by
        intro V hV
        refine (ty_Check _ _ V (hI.out V hV.1).1).mono ?_
        rintro r V' ⟨hr, hB⟩
        rw [hca'.out] at hr
        exact ⟨hr, hS.out _ (hV.1.trans (hB.mono hV.1.size))⟩
      have hCb : Hid (∀ V, (Below W1.heap.size W1 V ∧ V.cell? ⟨w.heap.size, 0, none⟩ = some (.string s) ∧ V.cell? ⟨w.heap.size, 1, none⟩ = some (.int .i64 n) ∧ V.cell? ⟨w.heap.size, 2, none⟩ = some (.slice a1 l.length c1) ∧ V.cell? ⟨w.heap.size + 1, 0, none⟩ = some (.string s') ∧ V.cell? ⟨w.heap.size + 1, 1, none⟩ = some (.int .i64 n') ∧ V.cell? ⟨w.heap.size + 1, 2, none⟩ = some (.slice a2 l'.length c2)) → Calls Tryd.prog 15 #[.agg #[.string s', .int .i64 n', .slice a2 l'.length c2]] V fun r V' => r = .returned (.bool cb) ∧ (Below W1.heap.size W1 V' ∧ V'.cell? ⟨w.heap.size, 0, none⟩ = some (.string s) ∧ V'.cell? ⟨w.heap.size, 1, none⟩ = some (.int .i64 n) ∧ V'.cell? ⟨w.heap.size, 2, none⟩ = some (.slice a1 l.length c1) ∧ V'.cell? ⟨w.heap.size + 1, 0, none⟩ = some (.string s') ∧ V'.cell? ⟨w.heap.size + 1, 1, none⟩ = some (.int .i64 n') ∧ V'.cell? ⟨w.heap.size + 1, 2, none⟩ = some (.slice a2 l'.length c2))) := by
        intro V hV
        refine (ty_Check _ _ V (hI.out V hV.1).2.1).mono ?_
        rintro r V' ⟨hr, hB⟩
        rw [hcb'.out] at hr
        exact ⟨hr, hS.out _ (hV.1.trans (hB.mono hV.1.size))⟩
      have hPa : Hid (∀ V, (Below W1.heap.size W1 V ∧ V.cell? ⟨w.heap.size, 0, none⟩ = some (.string s) ∧ V.cell? ⟨w.heap.size, 1, none⟩ = some (.int .i64 n) ∧ V.cell? ⟨w.heap.size, 2, none⟩ = some (.slice a1 l.length c1) ∧ V.cell? ⟨w.heap.size + 1, 0, none⟩ = some (.string s') ∧ V.cell? ⟨w.heap.size + 1, 1, none⟩ = some (.int .i64 n') ∧ V.cell? ⟨w.heap.size + 1, 2, none⟩ = some (.slice a2 l'.length c2)) → Calls Tryd.prog 22 #[.slice aF F.length cF, .agg #[.string s, .int .i64 n, .slice a1 l.length c1]] V fun r V' => ∃ ua uc, r = .returned (.agg #[.string ta.name, .int .i64 ta.n, .slice ua ta.args.length uc]) ∧ IsTy V' (.agg #[.string ta.name, .int .i64 ta.n, .slice ua ta.args.length uc]) ta ∧ (Below W1.heap.size W1 V' ∧ V'.cell? ⟨w.heap.size, 0, none⟩ = some (.string s) ∧ V'.cell? ⟨w.heap.size, 1, none⟩ = some (.int .i64 n) ∧ V'.cell? ⟨w.heap.size, 2, none⟩ = some (.slice a1 l.length c1) ∧ V'.cell? ⟨w.heap.size + 1, 0, none⟩ = some (.string s') ∧ V'.cell? ⟨w.heap.size + 1, 1, none⟩ = some (.int .i64 n') ∧ V'.cell? ⟨w.heap.size + 1, 2, none⟩ = some (.slice a2 l'.length c2)) ∧ Hid (Below V.heap.size V V')) := by
        intro V hV
        refine (ty_Apply aF cF F _ _ V hFl'.out (hI.out V hV.1).2.2.1 (hI.out V hV.1).1).mono ?_
        rintro r V' ⟨u, rfl, hu, hB⟩
        rw [hta'.out] at hu
        obtain ⟨ua, uc, rfl⟩ := hu.form
        exact ⟨ua, uc, rfl, hu, hS.out _ (hV.1.trans (hB.mono hV.1.size)), hB⟩
      have hPb : Hid (∀ V, (Below W1.heap.size W1 V ∧ V.cell? ⟨w.heap.size, 0, none⟩ = some (.string s) ∧ V.cell? ⟨w.heap.size, 1, none⟩ = some (.int .i64 n) ∧ V.cell? ⟨w.heap.size, 2, none⟩ = some (.slice a1 l.length c1) ∧ V.cell? ⟨w.heap.size + 1, 0, none⟩ = some (.string s') ∧ V.cell? ⟨w.heap.size + 1, 1, none⟩ = some (.int .i64 n') ∧ V.cell? ⟨w.heap.size + 1, 2, none⟩ = some (.slice a2 l'.length c2)) → Calls Tryd.prog 22 #[.slice aF F.length cF, .agg #[.string s', .int .i64 n', .slice a2 l'.length c2]] V fun r V' => ∃ ua uc, r = .returned (.agg #[.string tb.name, .int .i64 tb.n, .slice ua tb.args.length uc]) ∧ IsTy V' (.agg #[.string tb.name, .int .i64 tb.n, .slice ua tb.args.length uc]) tb ∧ (Below W1.heap.size W1 V' ∧ V'.cell? ⟨w.heap.size, 0, none⟩ = some (.string s) ∧ V'.cell? ⟨w.heap.size, 1, none⟩ = some (.int .i64 n) ∧ V'.cell? ⟨w.heap.size, 2, none⟩ = some (.slice a1 l.length c1) ∧ V'.cell? ⟨w.heap.size + 1, 0, none⟩ = some (.string s') ∧ V'.cell? ⟨w.heap.size + 1, 1, none⟩ = some (.int .i64 n') ∧ V'.cell? ⟨w.heap.size + 1, 2, none⟩ = some (.slice a2 l'.length c2)) ∧ Hid (Below V.heap.size V V')) := by
        intro V hV
        refine (ty_Apply aF cF F _ _ V hFl'.out (hI.out V hV.1).2.2.1 (hI.out V hV.1).2.1).mono ?_
        rintro r V' ⟨u, rfl, hu, hB⟩
        rw [htb'.out] at hu
        obtain ⟨ua, uc, rfl⟩ := hu.form
        exact ⟨ua, uc, rfl, hu, hS.out _ (hV.1.trans (hB.mono hV.1.size)), hB⟩
      obtain ⟨eqv, heqv⟩ : ∃ b, eqB ta tb = b := ⟨_, rfl⟩
      have heqv' := Lib.hid heqv
      clear heqv
      have hSm : Hid (∀ V p q p' q', (Below W1.heap.size W1 V ∧ V.cell? ⟨w.heap.size, 0, none⟩ = some (.string s) ∧ V.cell? ⟨w.heap.size, 1, none⟩ = some (.int .i64 n) ∧ V.cell? ⟨w.heap.size, 2, none⟩ = some (.slice a1 l.length c1) ∧ V.cell? ⟨w.heap.size + 1, 0, none⟩ = some (.string s') ∧ V.cell? ⟨w.heap.size + 1, 1, none⟩ = some (.int .i64 n') ∧ V.cell? ⟨w.heap.size + 1, 2, none⟩ = some (.slice a2 l'.length c2)) → IsTy V (.agg #[.string ta.name, .int .i64 ta.n, .slice p ta.args.length q]) ta → IsTy V (.agg #[.string tb.name, .int .i64 tb.n, .slice p' tb.args.length q']) tb → Calls Tryd.prog 17 #[.agg #[.string ta.name, .int .i64 ta.n, .slice p ta.args.length q], .agg #[.string tb.name, .int .i64 tb.n, .slice p' tb.args.length q']] V fun r V' => r = .returned (.bool eqv) ∧ (Below W1.heap.size W1 V' ∧ V'.cell? ⟨w.heap.size, 0, none⟩ = some (.string s) ∧ V'.cell? ⟨w.heap.size, 1, none⟩ = some (.int .i64 n) ∧ V'.cell? ⟨w.heap.size, 2, none⟩ = some (.slice a1 l.length c1) ∧ V'.cell? ⟨w.heap.size + 1, 0, none⟩ = some (.string s') ∧ V'.cell? ⟨w.heap.size + 1, 1, none⟩ = some (.int .i64 n') ∧ V'.cell? ⟨w.heap.size + 1, 2, none⟩ = some (.slice a2 l'.length c2))) := by
        intro V p q p' q' hV hu hu'
        refine (r08_Same ta tb _ _ V hu hu').mono ?_
        rintro r V' ⟨hr, hB⟩
        rw [heqv'.out] at hr
        exact ⟨hr, hS.out _ (hV.1.trans (hB.mono hV.1.size))⟩
      have hst := Lib.hid (hS.out _ h5.out)
      have hdr := Lib.hid (hS.out _ h5.out.drew)
      go_upto_region 9 with (fail)
      go_cut [75] from 58 to 75 (fun s75 U => s75 = .bool (!(ca && cb && eqv)) ∧ Below W1.heap.size W1 U)
      case first =>
        obtain ⟨_, r0, r1, r2, r3, r4, r5⟩ := hst.out
        cases ca
        case false =>
          refine wp_region_inv (fun f a Vr => ∃ x58 x59 x60 x61 x62 x63 x64 x65 x66 x67 x68 x69 x70 x71 x72 x73 x74 x75, a = ⟨#[.agg #[.string s, .int .i64 n, .slice a1 l.length c1], .agg #[.string s', .int .i64 n', .slice a2 l'.length c2], .slice aF F.length cF, .pointer (some ⟨w.heap.size, 0, none⟩), .pointer (some ⟨w.heap.size + 1, 0, none⟩), undef, u6, .bool true, .int .i64 (k : Int), undef, undef, undef, .bool true, .agg #[.string s, .int .i64 n, .slice a1 l.length c1], .bool true, .bool false, .bool false, .agg #[.string s', .int .i64 n', .slice a2 l'.length c2], .bool true, .bool false, .bool false, .bool false, .slice aF F.length cF, .int .i64 (F.length : Int), .bool (decide ((20 : Int) < (F.length : Int))), .bool (decide ((20 : Int) < (F.length : Int))), undef, .int .i64 (k : Int), .slice aF F.length cF, .int .i64 (F.length : Int), .bool false, u31, u32, u33, u34, u35, u36, u37, u38, u39, u40, u41, u42, u43, u44, u45, u46, u47, u48, u49, u50, u51, u52, u53, u54, u55, u56, u57, x58, x59, x60, x61, x62, x63, x64, x65, x66, x67, x68, x69, x70, x71, x72, x73, x74, x75, undef, undef, undef, undef, undef, undef, undef, undef, undef, undef, undef, undef, undef, undef, undef, undef, undef, undef, undef, undef, undef, undef, undef, undef, undef, undef, undef, undef, undef, undef, undef, undef, undef], []⟩ ∧ Below W1.heap.size W1 Vr ∧ (f 0 = true → x58 = .agg #[.string s, .int .i64 n, .slice a1 l.length c1]) ∧ (f 1 = true → x59 = .bool false) ∧ (f 2 = true → x60 = .bool true) ∧ (f 3 = true → x61 = .bool true) ∧ (f 4 = true → x62 = undef) ∧ (f 5 = true → x63 = undef) ∧ (f 6 = true → x64 = undef) ∧ (f 7 = true → x65 = .bool true) ∧ (f 8 = true → x66 = .bool true) ∧ (f 9 = true → x67 = undef) ∧ (f 10 = true → x68 = undef) ∧ (f 11 = true → x69 = undef) ∧ (f 12 = true → x70 = undef) ∧ (f 13 = true → x71 = undef) ∧ (f 14 = true → x72 = undef) ∧ (f 15 = true → x73 = undef) ∧ (f 16 = true → x74 = undef) ∧ (f 17 = true → x75 = .bool true)) (by kernel_rfl) (by kernel_rfl) (rs := [0, 1, 2, 3, 4, 5, 6, 7, 8, 9, 10, 11, 12, 13, 14, 15, 16, 17]) (by kernel_rfl) ?start ?steps ?done
          case start => exact ⟨_, _, _, _, _, _, _, _, _, _, _, _, _, _, _, _, _, _, rfl, h5.out.drew, by simp, by simp, by simp, by simp, by simp, by simp, by simp, by simp, by simp, by simp, by simp, by simp, by simp, by simp, by simp, by simp, by simp, by simp⟩
          case steps =>
            refine KeepsI.cons (ds := []) rfl (by kernel_rfl) ?s0 (KeepsI.cons (ds := [0]) rfl (by kernel_rfl) ?s1 (KeepsI.cons (ds := [1]) rfl (by kernel_rfl) ?s2 (KeepsI.cons (ds := [2]) rfl (by kernel_rfl) ?s3 (KeepsI.cons (ds := [3]) rfl (by kernel_rfl) ?s4 (KeepsI.cons (ds := [3]) rfl (by kernel_rfl) ?s5 (KeepsI.cons (ds := [3]) rfl (by kernel_rfl) ?s6 (KeepsI.cons (ds := [3, 6]) rfl (by kernel_rfl) ?s7 (KeepsI.cons (ds := [7]) rfl (by kernel_rfl) ?s8 (KeepsI.cons (ds := [8]) rfl (by kernel_rfl) ?s9 (KeepsI.cons (ds := [8]) rfl (by kernel_rfl) ?s10 (KeepsI.cons (ds := [8]) rfl (by kernel_rfl) ?s11 (KeepsI.cons (ds := [8]) rfl (by kernel_rfl) ?s12 (KeepsI.cons (ds := [8]) rfl (by kernel_rfl) ?s13 (KeepsI.cons (ds := [8]) rfl (by kernel_rfl) ?s14 (KeepsI.cons (ds := [8]) rfl (by kernel_rfl) ?s15 (KeepsI.cons (ds := [8]) rfl (by kernel_rfl) ?s16 (KeepsI.cons (ds := [8]) rfl (by kernel_rfl) ?s17 KeepsI.nil)))))))))))))))))
            all_goals (intro f a Vr hf hd hcl hI K' hK; obtain ⟨x58, x59, x60, x61, x62, x63, x64, x65, x66, x67, x68, x69, x70, x71, x72, x73, x74, x75, rfl, hVr, g0, g1, g2, g3, g4, g5, g6, g7, g8, g9, g10, g11, g12, g13, g14, g15, g16, g17⟩ := hI)
            case s0 =>
              obtain ⟨_, r0, r1, r2, r3, r4, r5⟩ := hS.out Vr hVr
              go_simp
              exact hK _ _ ⟨_, _, _, _, _, _, _, _, _, _, _, _, _, _, _, _, _, _, rfl, hVr, fun _ => rfl, g1, g2, g3, g4, g5, g6, g7, g8, g9, g10, g11, g12, g13, g14, g15, g16, g17⟩
            case s1 =>
              have e0 := g0 (hd 0 (by simp))
              subst e0
              have hct := Lib.hid (hCa.out Vr (hS.out Vr hVr))
              go_simp
              refine hct.out.mono ?_
              rintro e Vn ⟨rfl, hsn⟩
              go_simp
              exact hK _ _ ⟨_, _, _, _, _, _, _, _, _, _, _, _, _, _, _, _, _, _, rfl, hsn.1, fun _ => rfl, fun _ => rfl, g2, g3, g4, g5, g6, g7, g8, g9, g10, g11, g12, g13, g14, g15, g16, g17⟩
            case s2 =>
              have e1 := g1 (hd 1 (by simp))
              subst e1
              go_simp
              exact hK _ _ ⟨_, _, _, _, _, _, _, _, _, _, _, _, _, _, _, _, _, _, rfl, hVr, g0, fun _ => rfl, fun _ => rfl, g3, g4, g5, g6, g7, g8, g9, g10, g11, g12, g13, g14, g15, g16, g17⟩
            case s3 =>
              have e2 := g2 (hd 2 (by simp))
              subst e2
              go_simp
              exact hK _ _ ⟨_, _, _, _, _, _, _, _, _, _, _, _, _, _, _, _, _, _, rfl, hVr, g0, g1, fun _ => rfl, fun _ => rfl, g4, g5, g6, g7, g8, g9, g10, g11, g12, g13, g14, g15, g16, g17⟩
            case s4 =>
              have e3 := g3 (hd 3 (by simp))
              subst e3
              go_simp
              exact hK _ _ ⟨_, _, _, _, _, _, _, _, _, _, _, _, _, _, _, _, _, _, rfl, hVr, g0, g1, g2, fun _ => rfl, fun _ => rfl, g5, g6, g7, g8, g9, g10, g11, g12, g13, g14, g15, g16, g17⟩
            case s5 =>
              have e3 := g3 (hd 3 (by simp))
              subst e3
              go_simp
              exact hK _ _ ⟨_, _, _, _, _, _, _, _, _, _, _, _, _, _, _, _, _, _, rfl, hVr, g0, g1, g2, fun _ => rfl, g4, fun _ => rfl, g6, g7, g8, g9, g10, g11, g12, g13, g14, g15, g16, g17⟩
            case s6 =>
              have e3 := g3 (hd 3 (by simp))
              subst e3
              go_simp
              exact hK _ _ ⟨_, _, _, _, _, _, _, _, _, _, _, _, _, _, _, _, _, _, rfl, hVr, g0, g1, g2, fun _ => rfl, g4, g5, fun _ => rfl, g7, g8, g9, g10, g11, g12, g13, g14, g15, g16, g17⟩
            case s7 =>
              have e3 := g3 (hd 3 (by simp))
              have e6 := g6 (hd 6 (by simp))
              subst e3 e6
              go_simp
              exact hK _ _ ⟨_, _, _, _, _, _, _, _, _, _, _, _, _, _, _, _, _, _, rfl, hVr, g0, g1, g2, fun _ => rfl, g4, g5, fun _ => rfl, fun _ => rfl, g8, g9, g10, g11, g12, g13, g14, g15, g16, g17⟩
            case s8 =>
              have e7 := g7 (hd 7 (by simp))
              subst e7
              go_simp
              exact hK _ _ ⟨_, _, _, _, _, _, _, _, _, _, _, _, _, _, _, _, _, _, rfl, hVr, g0, g1, g2, g3, g4, g5, g6, fun _ => rfl, fun _ => rfl, g9, g10, g11, g12, g13, g14, g15, g16, g17⟩
            case s9 =>
              have e8 := g8 (hd 8 (by simp))
              subst e8
              go_simp
              exact hK _ _ ⟨_, _, _, _, _, _, _, _, _, _, _, _, _, _, _, _, _, _, rfl, hVr, g0, g1, g2, g3, g4, g5, g6, g7, fun _ => rfl, fun _ => rfl, g10, g11, g12, g13, g14, g15, g16, g17⟩
            case s10 =>
              have e8 := g8 (hd 8 (by simp))
              subst e8
              go_simp
              exact hK _ _ ⟨_, _, _, _, _, _, _, _, _, _, _, _, _, _, _, _, _, _, rfl, hVr, g0, g1, g2, g3, g4, g5, g6, g7, fun _ => rfl, g9, fun _ => rfl, g11, g12, g13, g14, g15, g16, g17⟩
            case s11 =>
              have e8 := g8 (hd 8 (by simp))
              subst e8
              go_simp
              exact hK _ _ ⟨_, _, _, _, _, _, _, _, _, _, _, _, _, _, _, _, _, _, rfl, hVr, g0, g1, g2, g3, g4, g5, g6, g7, fun _ => rfl, g9, g10, fun _ => rfl, g12, g13, g14, g15, g16, g17⟩
            case s12 =>
              have e8 := g8 (hd 8 (by simp))
              subst e8
              go_simp
              exact hK _ _ ⟨_, _, _, _, _, _, _, _, _, _, _, _, _, _, _, _, _, _, rfl, hVr, g0, g1, g2, g3, g4, g5, g6, g7, fun _ => rfl, g9, g10, g11, fun _ => rfl, g13, g14, g15, g16, g17⟩
            case s13 =>
              have e8 := g8 (hd 8 (by simp))
              subst e8
              go_simp
              exact hK _ _ ⟨_, _, _, _, _, _, _, _, _, _, _, _, _, _, _, _, _, _, rfl, hVr, g0, g1, g2, g3, g4, g5, g6, g7, fun _ => rfl, g9, g10, g11, g12, fun _ => rfl, g14, g15, g16, g17⟩
            case s14 =>
              have e8 := g8 (hd 8 (by simp))
              subst e8
              go_simp
              exact hK _ _ ⟨_, _, _, _, _, _, _, _, _, _, _, _, _, _, _, _, _, _, rfl, hVr, g0, g1, g2, g3, g4, g5, g6, g7, fun _ => rfl, g9, g10, g11, g12, g13, fun _ => rfl, g15, g16, g17⟩
            case s15 =>
              have e8 := g8 (hd 8 (by simp))
              subst e8
              go_simp
              exact hK _ _ ⟨_, _, _, _, _, _, _, _, _, _, _, _, _, _, _, _, _, _, rfl, hVr, g0, g1, g2, g3, g4, g5, g6, g7, fun _ => rfl, g9, g10, g11, g12, g13, g14, fun _ => rfl, g16, g17⟩
            case s16 =>
              have e8 := g8 (hd 8 (by simp))
              subst e8
              go_simp
              exact hK _ _ ⟨_, _, _, _, _, _, _, _, _, _, _, _, _, _, _, _, _, _, rfl, hVr, g0, g1, g2, g3, g4, g5, g6, g7, fun _ => rfl, g9, g10, g11, g12, g13, g14, g15, fun _ => rfl, g17⟩
            case s17 =>
              have e8 := g8 (hd 8 (by simp))
              subst e8
              go_simp
              exact hK _ _ ⟨_, _, _, _, _, _, _, _, _, _, _, _, _, _, _, _, _, _, rfl, hVr, g0, g1, g2, g3, g4, g5, g6, g7, fun _ => rfl, g9, g10, g11, g12, g13, g14, g15, g16, fun _ => rfl⟩
          case done =>
            intro f a Vr hf hI
            obtain ⟨x58, x59, x60, x61, x62, x63, x64, x65, x66, x67, x68, x69, x70, x71, x72, x73, x74, x75, rfl, hVr, g0, g1, g2, g3, g4, g5, g6, g7, g8, g9, g10, g11, g12, g13, g14, g15, g16, g17⟩ := hI
            have e := g17 (hf 17 (by simp))
            subst e
            clear g0 g1 g2 g3 g4 g5 g6 g7 g8 g9 g10 g11 g12 g13 g14 g15 g16 g17
            go_wp2_with fail
            go_meet
            case rel => exact ⟨rfl, hVr⟩
        cases cb
        case false =>
          refine wp_region_inv (fun f a Vr => ∃ x58 x59 x60 x61 x62 x63 x64 x65 x66 x67 x68 x69 x70 x71 x72 x73 x74 x75, a = ⟨#[.agg #[.string s, .int .i64 n, .slice a1 l.length c1], .agg #[.string s', .int .i64 n', .slice a2 l'.length c2], .slice aF F.length cF, .pointer (some ⟨w.heap.size, 0, none⟩), .pointer (some ⟨w.heap.size + 1, 0, none⟩), undef, u6, .bool true, .int .i64 (k : Int), undef, undef, undef, .bool true, .agg #[.string s, .int .i64 n, .slice a1 l.length c1], .bool true, .bool false, .bool false, .agg #[.string s', .int .i64 n', .slice a2 l'.length c2], .bool true, .bool false, .bool false, .bool false, .slice aF F.length cF, .int .i64 (F.length : Int), .bool (decide ((20 : Int) < (F.length : Int))), .bool (decide ((20 : Int) < (F.length : Int))), undef, .int .i64 (k : Int), .slice aF F.length cF, .int .i64 (F.length : Int), .bool false, u31, u32, u33, u34, u35, u36, u37, u38, u39, u40, u41, u42, u43, u44, u45, u46, u47, u48, u49, u50, u51, u52, u53, u54, u55, u56, u57, x58, x59, x60, x61, x62, x63, x64, x65, x66, x67, x68, x69, x70, x71, x72, x73, x74, x75, undef, undef, undef, undef, undef, undef, undef, undef, undef, undef, undef, undef, undef, undef, undef, undef, undef, undef, undef, undef, undef, undef, undef, undef, undef, undef, undef, undef, undef, undef, undef, undef, undef], []⟩ ∧ Below W1.heap.size W1 Vr ∧ (f 0 = true → x58 = .agg #[.string s, .int .i64 n, .slice a1 l.length c1]) ∧ (f 1 = true → x59 = .bool true) ∧ (f 2 = true → x60 = .bool false) ∧ (f 3 = true → x61 = .bool false) ∧ (f 4 = true → x62 = .agg #[.string s', .int .i64 n', .slice a2 l'.length c2]) ∧ (f 5 = true → x63 = .bool false) ∧ (f 6 = true → x64 = .bool true) ∧ (f 7 = true → x65 = .bool true) ∧ (f 8 = true → x66 = .bool true) ∧ (f 9 = true → x67 = undef) ∧ (f 10 = true → x68 = undef) ∧ (f 11 = true → x69 = undef) ∧ (f 12 = true → x70 = undef) ∧ (f 13 = true → x71 = undef) ∧ (f 14 = true → x72 = undef) ∧ (f 15 = true → x73 = undef) ∧ (f 16 = true → x74 = undef) ∧ (f 17 = true → x75 = .bool true)) (by kernel_rfl) (by kernel_rfl) (rs := [0, 1, 2, 3, 4, 5, 6, 7, 8, 9, 10, 11, 12, 13, 14, 15, 16, 17]) (by kernel_rfl) ?start ?steps ?done
          case start => exact ⟨_, _, _, _, _, _, _, _, _, _, _, _, _, _, _, _, _, _, rfl, h5.out.drew, by simp, by simp, by simp, by simp, by simp, by simp, by simp, by simp, by simp, by simp, by simp, by simp, by simp, by simp, by simp, by simp, by simp, by simp⟩
          case steps =>
            refine KeepsI.cons (ds := []) rfl (by kernel_rfl) ?s0 (KeepsI.cons (ds := [0]) rfl (by kernel_rfl) ?s1 (KeepsI.cons (ds := [1]) rfl (by kernel_rfl) ?s2 (KeepsI.cons (ds := [2]) rfl (by kernel_rfl) ?s3 (KeepsI.cons (ds := [3]) rfl (by kernel_rfl) ?s4 (KeepsI.cons (ds := [3, 4]) rfl (by kernel_rfl) ?s5 (KeepsI.cons (ds := [3, 5]) rfl (by kernel_rfl) ?s6 (KeepsI.cons (ds := [3, 6]) rfl (by kernel_rfl) ?s7 (KeepsI.cons (ds := [7]) rfl (by kernel_rfl) ?s8 (KeepsI.cons (ds := [8]) rfl (by kernel_rfl) ?s9 (KeepsI.cons (ds := [8]) rfl (by kernel_rfl) ?s10 (KeepsI.cons (ds := [8]) rfl (by kernel_rfl) ?s11 (KeepsI.cons (ds := [8]) rfl (by kernel_rfl) ?s12 (KeepsI.cons (ds := [8]) rfl (by kernel_rfl) ?s13 (KeepsI.cons (ds := [8]) rfl (by kernel_rfl) ?s14 (KeepsI.cons (ds := [8]) rfl (by kernel_rfl) ?s15 (KeepsI.cons (ds := [8]) rfl (by kernel_rfl) ?s16 (KeepsI.cons (ds := [8]) rfl (by kernel_rfl) ?s17 KeepsI.nil)))))))))))))))))
            all_goals (intro f a Vr hf hd hcl hI K' hK; obtain ⟨x58, x59, x60, x61, x62, x63, x64, x65, x66, x67, x68, x69, x70, x71, x72, x73, x74, x75, rfl, hVr, g0, g1, g2, g3, g4, g5, g6, g7, g8, g9, g10, g11, g12, g13, g14, g15, g16, g17⟩ := hI)
            case s0 =>
              obtain ⟨_, r0, r1, r2, r3, r4, r5⟩ := hS.out Vr hVr
              go_simp
              exact hK _ _ ⟨_, _, _, _, _, _, _, _, _, _, _, _, _, _, _, _, _, _, rfl, hVr, fun _ => rfl, g1, g2, g3, g4, g5, g6, g7, g8, g9, g10, g11, g12, g13, g14, g15, g16, g17⟩
            case s1 =>
              have e0 := g0 (hd 0 (by simp))
              subst e0
              have hct := Lib.hid (hCa.out Vr (hS.out Vr hVr))
              go_simp
              refine hct.out.mono ?_
              rintro e Vn ⟨rfl, hsn⟩
              go_simp
              exact hK _ _ ⟨_, _, _, _, _, _, _, _, _, _, _, _, _, _, _, _, _, _, rfl, hsn.1, fun _ => rfl, fun _ => rfl, g2, g3, g4, g5, g6, g7, g8, g9, g10, g11, g12, g13, g14, g15, g16, g17⟩
            case s2 =>
              have e1 := g1 (hd 1 (by simp))
              subst e1
              go_simp
              exact hK _ _ ⟨_, _, _, _, _, _, _, _, _, _, _, _, _, _, _, _, _, _, rfl, hVr, g0, fun _ => rfl, fun _ => rfl, g3, g4, g5, g6, g7, g8, g9, g10, g11, g12, g13, g14, g15, g16, g17⟩
            case s3 =>
              have e2 := g2 (hd 2 (by simp))
              subst e2
              go_simp
              exact hK _ _ ⟨_, _, _, _, _, _, _, _, _, _, _, _, _, _, _, _, _, _, rfl, hVr, g0, g1, fun _ => rfl, fun _ => rfl, g4, g5, g6, g7, g8, g9, g10, g11, g12, g13, g14, g15, g16, g17⟩
            case s4 =>
              have e3 := g3 (hd 3 (by simp))
              subst e3
              obtain ⟨_, r0, r1, r2, r3, r4, r5⟩ := hS.out Vr hVr
              go_simp
              exact hK _ _ ⟨_, _, _, _, _, _, _, _, _, _, _, _, _, _, _, _, _, _, rfl, hVr, g0, g1, g2, fun _ => rfl, fun _ => rfl, g5, g6, g7, g8, g9, g10, g11, g12, g13, g14, g15, g16, g17⟩
            case s5 =>
              have e3 := g3 (hd 3 (by simp))
              have e4 := g4 (hd 4 (by simp))
              subst e3 e4
              have hct := Lib.hid (hCb.out Vr (hS.out Vr hVr))
              go_simp
              refine hct.out.mono ?_
              rintro e Vn ⟨rfl, hsn⟩
              go_simp
              exact hK _ _ ⟨_, _, _, _, _, _, _, _, _, _, _, _, _, _, _, _, _, _, rfl, hsn.1, g0, g1, g2, fun _ => rfl, fun _ => rfl, fun _ => rfl, g6, g7, g8, g9, g10, g11, g12, g13, g14, g15, g16, g17⟩
            case s6 =>
              have e3 := g3 (hd 3 (by simp))
              have e5 := g5 (hd 5 (by simp))
              subst e3 e5
              go_simp
              exact hK _ _ ⟨_, _, _, _, _, _, _, _, _, _, _, _, _, _, _, _, _, _, rfl, hVr, g0, g1, g2, fun _ => rfl, g4, fun _ => rfl, fun _ => rfl, g7, g8, g9, g10, g11, g12, g13, g14, g15, g16, g17⟩
            case s7 =>
              have e3 := g3 (hd 3 (by simp))
              have e6 := g6 (hd 6 (by simp))
              subst e3 e6
              go_simp
              exact hK _ _ ⟨_, _, _, _, _, _, _, _, _, _, _, _, _, _, _, _, _, _, rfl, hVr, g0, g1, g2, fun _ => rfl, g4, g5, fun _ => rfl, fun _ => rfl, g8, g9, g10, g11, g12, g13, g14, g15, g16, g17⟩
            case s8 =>
              have e7 := g7 (hd 7 (by simp))
              subst e7
              go_simp
              exact hK _ _ ⟨_, _, _, _, _, _, _, _, _, _, _, _, _, _, _, _, _, _, rfl, hVr, g0, g1, g2, g3, g4, g5, g6, fun _ => rfl, fun _ => rfl, g9, g10, g11, g12, g13, g14, g15, g16, g17⟩
            case s9 =>
              have e8 := g8 (hd 8 (by simp))
              subst e8
              go_simp
              exact hK _ _ ⟨_, _, _, _, _, _, _, _, _, _, _, _, _, _, _, _, _, _, rfl, hVr, g0, g1, g2, g3, g4, g5, g6, g7, fun _ => rfl, fun _ => rfl, g10, g11, g12, g13, g14, g15, g16, g17⟩
            case s10 =>
              have e8 := g8 (hd 8 (by simp))
              subst e8
              go_simp
              exact hK _ _ ⟨_, _, _, _, _, _, _, _, _, _, _, _, _, _, _, _, _, _, rfl, hVr, g0, g1, g2, g3, g4, g5, g6, g7, fun _ => rfl, g9, fun _ => rfl, g11, g12, g13, g14, g15, g16, g17⟩
            case s11 =>
              have e8 := g8 (hd 8 (by simp))
              subst e8
              go_simp
              exact hK _ _ ⟨_, _, _, _, _, _, _, _, _, _, _, _, _, _, _, _, _, _, rfl, hVr, g0, g1, g2, g3, g4, g5, g6, g7, fun _ => rfl, g9, g10, fun _ => rfl, g12, g13, g14, g15, g16, g17⟩
            case s12 =>
              have e8 := g8 (hd 8 (by simp))
              subst e8
              go_simp
              exact hK _ _ ⟨_, _, _, _, _, _, _, _, _, _, _, _, _, _, _, _, _, _, rfl, hVr, g0, g1, g2, g3, g4, g5, g6, g7, fun _ => rfl, g9, g10, g11, fun _ => rfl, g13, g14, g15, g16, g17⟩
            case s13 =>
              have e8 := g8 (hd 8 (by simp))
              subst e8
              go_simp
              exact hK _ _ ⟨_, _, _, _, _, _, _, _, _, _, _, _, _, _, _, _, _, _, rfl, hVr, g0, g1, g2, g3, g4, g5, g6, g7, fun _ => rfl, g9, g10, g11, g12, fun _ => rfl, g14, g15, g16, g17⟩
            case s14 =>
              have e8 := g8 (hd 8 (by simp))
              subst e8
              go_simp
              exact hK _ _ ⟨_, _, _, _, _, _, _, _, _, _, _, _, _, _, _, _, _, _, rfl, hVr, g0, g1, g2, g3, g4, g5, g6, g7, fun _ => rfl, g9, g10, g11, g12, g13, fun _ => rfl, g15, g16, g17⟩
            case s15 =>
              have e8 := g8 (hd 8 (by simp))
              subst e8
              go_simp
              exact hK _ _ ⟨_, _, _, _, _, _, _, _, _, _, _, _, _, _, _, _, _, _, rfl, hVr, g0, g1, g2, g3, g4, g5, g6, g7, fun _ => rfl, g9, g10, g11, g12, g13, g14, fun _ => rfl, g16, g17⟩
            case s16 =>
              have e8 := g8 (hd 8 (by simp))
              subst e8
              go_simp
              exact hK _ _ ⟨_, _, _, _, _, _, _, _, _, _, _, _, _, _, _, _, _, _, rfl, hVr, g0, g1, g2, g3, g4, g5, g6, g7, fun _ => rfl, g9, g10, g11, g12, g13, g14, g15, fun _ => rfl, g17⟩
            case s17 =>
              have e8 := g8 (hd 8 (by simp))
              subst e8
              go_simp
              exact hK _ _ ⟨_, _, _, _, _, _, _, _, _, _, _, _, _, _, _, _, _, _, rfl, hVr, g0, g1, g2, g3, g4, g5, g6, g7, fun _ => rfl, g9, g10, g11, g12, g13, g14, g15, g16, fun _ => rfl⟩
          case done =>
            intro f a Vr hf hI
            obtain ⟨x58, x59, x60, x61, x62, x63, x64, x65, x66, x67, x68, x69, x70, x71, x72, x73, x74, x75, rfl, hVr, g0, g1, g2, g3, g4, g5, g6, g7, g8, g9, g10, g11, g12, g13, g14, g15, g16, g17⟩ := hI
            have e := g17 (hf 17 (by simp))
            subst e
            clear g0 g1 g2 g3 g4 g5 g6 g7 g8 g9 g10 g11 g12 g13 g14 g15 g16 g17
            go_wp2_with fail
            go_meet
            case rel => exact ⟨rfl, hVr⟩
        cases eqv
        case false =>
          first | (go_region_held3 (fun V => (Below W1.heap.size W1 V ∧ V.cell? ⟨w.heap.size, 0, none⟩ = some (.string s) ∧ V.cell? ⟨w.heap.size, 1, none⟩ = some (.int .i64 n) ∧ V.cell? ⟨w.heap.size, 2, none⟩ = some (.slice a1 l.length c1) ∧ V.cell? ⟨w.heap.size + 1, 0, none⟩ = some (.string s') ∧ V.cell? ⟨w.heap.size + 1, 1, none⟩ = some (.int .i64 n') ∧ V.cell? ⟨w.heap.size + 1, 2, none⟩ = some (.slice a2 l'.length c2))) ((first | exact hdr.out | exact hst.out | assumption))
            (first
              | (go_at_call 15; (with_reducible refine (hCa.out _ (by assumption)).mono ?_); rintro e w7 ⟨rfl, hs7⟩)
              | (go_at_call 15; (with_reducible refine (hCb.out _ (by assumption)).mono ?_); rintro e w7 ⟨rfl, hs7⟩)
              | (go_at_call 22; (with_reducible refine (hPa.out _ (by assumption)).mono ?_); rintro e w7 ⟨ua7, uc7, rfl, hu7, hs7, hB7⟩)
              | (go_at_call 22; (with_reducible refine (hPb.out _ (by assumption)).mono ?_); rintro e w8 ⟨ua8, uc8, rfl, hu8, hs7, hB8⟩; have hu78 := TyX.below hu7 hB8.out)
              | (go_at_call 17; (with_reducible refine (hSm.out _ _ _ _ _ (by assumption) (by assumption) (by assumption)).mono ?_); rintro e w7 ⟨rfl, hs7⟩))) | fail
          all_goals
            have hfin := Lib.hid hs7.1
            go_wp2_with fail
            go_meet
            case rel => exact ⟨rfl, hfin.out⟩
        first | (go_region_held3 (fun V => (Below W1.heap.size W1 V ∧ V.cell? ⟨w.heap.size, 0, none⟩ = some (.string s) ∧ V.cell? ⟨w.heap.size, 1, none⟩ = some (.int .i64 n) ∧ V.cell? ⟨w.heap.size, 2, none⟩ = some (.slice a1 l.length c1) ∧ V.cell? ⟨w.heap.size + 1, 0, none⟩ = some (.string s') ∧ V.cell? ⟨w.heap.size + 1, 1, none⟩ = some (.int .i64 n') ∧ V.cell? ⟨w.heap.size + 1, 2, none⟩ = some (.slice a2 l'.length c2))) ((first | exact hdr.out | exact hst.out | assumption))
          (first
            | (go_at_call 15; (with_reducible refine (hCa.out _ (by assumption)).mono ?_); rintro e w7 ⟨rfl, hs7⟩)
            | (go_at_call 15; (with_reducible refine (hCb.out _ (by assumption)).mono ?_); rintro e w7 ⟨rfl, hs7⟩)
            | (go_at_call 22; (with_reducible refine (hPa.out _ (by assumption)).mono ?_); rintro e w7 ⟨ua7, uc7, rfl, hu7, hs7, hB7⟩)
            | (go_at_call 22; (with_reducible refine (hPb.out _ (by assumption)).mono ?_); rintro e w8 ⟨ua8, uc8, rfl, hu8, hs7, hB8⟩; have hu78 := TyX.below hu7 hB8.out)
            | (go_at_call 17; (with_reducible refine (hSm.out _ _ _ _ _ (by assumption) (by assumption) (by assumption)).mono ?_); rintro e w7 ⟨rfl, hs7⟩))) | fail
        all_goals
          have hfin := Lib.hid hs7.1
          go_wp2_with fail
          go_meet
          case rel => exact ⟨rfl, hfin.out⟩
      case rest =>
      obtain ⟨rfl, hUc⟩ := hcut
      obtain ⟨U, rfl⟩ : ∃ U, U = wc := ⟨_, rfl⟩
      have hU := Lib.hid hUc
      clear hUc hst hdr hCa hCb hPa hPb hSm
      cases hall : (ca && cb && eqv)
      case false =>
        have hfin := Lib.hid (hI.out U hU.out).2.2.2
        go_wp2_with fail
        go_ret
        exact ⟨ret_bool rfl, hfin.out⟩
      simp only [Bool.and_eq_true] at hall
      obtain ⟨⟨rfl, rfl⟩, rfl⟩ := hall
      simp only [Bool.not_true]
      have heq : ta = tb := by
        have := heqv'.out
        rcases Classical.em (ta = tb) with h | h
        · exact h
        · rw [eqB_false h] at this; cases this
      obtain ⟨r1, hr1⟩ := ans_exists hca'.out hcb'.out h64.out
      have hlen := hr1.len hca'.out hcb'.out
      obtain ⟨G, rfl, hG⟩ := hr1.least hca'.out hcb'.out hgF.out (by rw [hta'.out, htb'.out, heq])
      obtain ⟨f1, hu1⟩ := hr1.uni
      have hG' := Lib.hid hG
      have hGl : Hid (G.length ≤ 4000) := hlen
      have hu := Lib.hid (ty_Unify f1 _ _ _ _ U _ hu1 (hI.out U hU.out).1 (hI.out U hU.out).2.1)
      obtain ⟨_, q0, q1, q2, q3, q4, q5⟩ := hS.out U hU.out
      clear hlen hG hr1 hu1 heq hca' hcb' hta' htb' heqv'
      go_wp2_with fail
      refine hu.out.mono ?_
      rintro e V6 ⟨⟨v1, rfl, hv1⟩, hV6⟩
      simp only [Option.isSome_some, if_true]
      have h6 := Lib.hid (hU.out.trans (hV6.mono hU.out.size))
      obtain ⟨ga, gc, rfl, _, hgr⟩ := hv1
      have hgr' : Hid (FaRow (fun _ => False) V6 ga G) := hgr
      clear q0 q1 q2 q3 q4 q5 hu hV6 hgr
      simp only [Option.getD_some]
      go_wp2_with fail
      go_loopw [11] (fun i wq => ∃ k2 : Nat, k2 ≤ G.length ∧ i = .int .i64 k2 ∧ Hid (Below V6.heap.size V6 wq)) (fun i _ => G.length - (intOf i).toNat)
      case atStart => exact ⟨0, by omega, rfl, Below.refl _ _⟩
      case round =>
        obtain ⟨k2, hk2, rfl, hBq⟩ := hrel
        have h7 := Lib.hid (h6.out.trans (hBq.out.mono h6.out.size))
        have hGl2 : G.length ≤ 4000 := hGl.out
        by_cases h2k : k2 < G.length
        · obtain ⟨b, off, rfl, hc⟩ := (hgr'.out.keeps (Keeps.of_below hBq.out)).fa (by rintro rfl; simp at h2k)
          obtain ⟨a4, c4, g0, g1, g2, g3, ge, gn⟩ := hc k2 h2k
          obtain ⟨gc1, gc2, gc3⟩ := hG'.out _ (List.getElem_mem h2k)
          obtain ⟨tt, htt⟩ : ∃ t, applyT F G[k2].ty = t := ⟨_, rfl⟩
          have htt' := Lib.hid htt
          have htt2 : Hid (applyT F (holeT G[k2].n) = tt) := by unfold Hid; rw [← gc3, htt]
          have ge' := Lib.hid ge
          have gn' := Lib.hid gn
          have hS7 : Hid (∀ V, Below wr.heap.size wr V → (Below wr.heap.size wr V ∧ V.cell? ⟨b, off + k2 * 4, none⟩ = some (.int .i64 G[k2].n) ∧ V.cell? ⟨b, off + k2 * 4 + 1, none⟩ = some (.string G[k2].ty.name) ∧ V.cell? ⟨b, off + k2 * 4 + 2, none⟩ = some (.int .i64 G[k2].ty.n) ∧ V.cell? ⟨b, off + k2 * 4 + 3, none⟩ = some (.slice a4 G[k2].ty.args.length c4))) := fun V hV => ⟨hV, Keeps.of_below hV _ _ g0, Keeps.of_below hV _ _ g1, Keeps.of_below hV _ _ g2, Keeps.of_below hV _ _ g3⟩
          have hI7 : Hid (∀ V, Below wr.heap.size wr V → FaRow (fun _ => False) V aF F ∧ Below w.heap.size w V) := fun V hV => (hI.out V (h7.out.trans (hV.mono h7.out.size))).2.2
          have hP1 : Hid (∀ V, (Below wr.heap.size wr V ∧ V.cell? ⟨b, off + k2 * 4, none⟩ = some (.int .i64 G[k2].n) ∧ V.cell? ⟨b, off + k2 * 4 + 1, none⟩ = some (.string G[k2].ty.name) ∧ V.cell? ⟨b, off + k2 * 4 + 2, none⟩ = some (.int .i64 G[k2].ty.n) ∧ V.cell? ⟨b, off + k2 * 4 + 3, none⟩ = some (.slice a4 G[k2].ty.args.length c4)) → Calls Tryd.prog 22 #[.slice aF F.length cF, .agg #[.string G[k2].ty.name, .int .i64 G[k2].ty.n, .slice a4 G[k2].ty.args.length c4]] V fun r V' => ∃ ua uc, r = .returned (.agg #[.string tt.name, .int .i64 tt.n, .slice ua tt.args.length uc]) ∧ IsTy V' (.agg #[.string tt.name, .int .i64 tt.n, .slice ua tt.args.length uc]) tt ∧ (Below wr.heap.size wr V' ∧ V'.cell? ⟨b, off + k2 * 4, none⟩ = some (.int .i64 G[k2].n) ∧ V'.cell? ⟨b, off + k2 * 4 + 1, none⟩ = some (.string G[k2].ty.name) ∧ V'.cell? ⟨b, off + k2 * 4 + 2, none⟩ = some (.int .i64 G[k2].ty.n) ∧ V'.cell? ⟨b, off + k2 * 4 + 3, none⟩ = some (.slice a4 G[k2].ty.args.length c4)) ∧ Hid (Below V.heap.size V V')) := by
            intro V hV
            refine (ty_Apply aF cF F _ _ V hFl'.out (hI7.out V hV.1).1 (TyX.below ge'.out hV.1)).mono ?_
            rintro r V' ⟨u, rfl, hu, hB⟩
            rw [htt'.out] at hu
            obtain ⟨ua, uc, rfl⟩ := hu.form
            exact ⟨ua, uc, rfl, hu, hS7.out _ (hV.1.trans (hB.mono hV.1.size)), hB⟩
          have hP2 : Hid (∀ V, (Below wr.heap.size wr V ∧ V.cell? ⟨b, off + k2 * 4, none⟩ = some (.int .i64 G[k2].n) ∧ V.cell? ⟨b, off + k2 * 4 + 1, none⟩ = some (.string G[k2].ty.name) ∧ V.cell? ⟨b, off + k2 * 4 + 2, none⟩ = some (.int .i64 G[k2].ty.n) ∧ V.cell? ⟨b, off + k2 * 4 + 3, none⟩ = some (.slice a4 G[k2].ty.args.length c4)) → Calls Tryd.prog 22 #[.slice aF F.length cF, .agg #[.string ⟨#[]⟩, .int .i64 G[k2].n, .slice none 0 0]] V fun r V' => ∃ ua uc, r = .returned (.agg #[.string tt.name, .int .i64 tt.n, .slice ua tt.args.length uc]) ∧ IsTy V' (.agg #[.string tt.name, .int .i64 tt.n, .slice ua tt.args.length uc]) tt ∧ (Below wr.heap.size wr V' ∧ V'.cell? ⟨b, off + k2 * 4, none⟩ = some (.int .i64 G[k2].n) ∧ V'.cell? ⟨b, off + k2 * 4 + 1, none⟩ = some (.string G[k2].ty.name) ∧ V'.cell? ⟨b, off + k2 * 4 + 2, none⟩ = some (.int .i64 G[k2].ty.n) ∧ V'.cell? ⟨b, off + k2 * 4 + 3, none⟩ = some (.slice a4 G[k2].ty.args.length c4)) ∧ Hid (Below V.heap.size V V')) := by
            intro V hV
            refine (ty_Apply aF cF F (holeT G[k2].n) _ V hFl'.out (hI7.out V hV.1).1 (hole_is V gn'.out)).mono ?_
            rintro r V' ⟨u, rfl, hu, hB⟩
            rw [htt2.out] at hu
            obtain ⟨ua, uc, rfl⟩ := hu.form
            exact ⟨ua, uc, rfl, hu, hS7.out _ (hV.1.trans (hB.mono hV.1.size)), hB⟩
          have hSm : Hid (∀ V p q p' q', (Below wr.heap.size wr V ∧ V.cell? ⟨b, off + k2 * 4, none⟩ = some (.int .i64 G[k2].n) ∧ V.cell? ⟨b, off + k2 * 4 + 1, none⟩ = some (.string G[k2].ty.name) ∧ V.cell? ⟨b, off + k2 * 4 + 2, none⟩ = some (.int .i64 G[k2].ty.n) ∧ V.cell? ⟨b, off + k2 * 4 + 3, none⟩ = some (.slice a4 G[k2].ty.args.length c4)) → IsTy V (.agg #[.string tt.name, .int .i64 tt.n, .slice p tt.args.length q]) tt → IsTy V (.agg #[.string tt.name, .int .i64 tt.n, .slice p' tt.args.length q']) tt → Calls Tryd.prog 17 #[.agg #[.string tt.name, .int .i64 tt.n, .slice p tt.args.length q], .agg #[.string tt.name, .int .i64 tt.n, .slice p' tt.args.length q']] V fun r V' => r = .returned (.bool true) ∧ (Below wr.heap.size wr V' ∧ V'.cell? ⟨b, off + k2 * 4, none⟩ = some (.int .i64 G[k2].n) ∧ V'.cell? ⟨b, off + k2 * 4 + 1, none⟩ = some (.string G[k2].ty.name) ∧ V'.cell? ⟨b, off + k2 * 4 + 2, none⟩ = some (.int .i64 G[k2].ty.n) ∧ V'.cell? ⟨b, off + k2 * 4 + 3, none⟩ = some (.slice a4 G[k2].ty.args.length c4))) := by
            intro V p q p' q' hV hu hu'
            refine (r08_Same tt tt _ _ V hu hu').mono ?_
            rintro r V' ⟨hr, hB⟩
            rw [eqB_true rfl] at hr
            exact ⟨hr, hS7.out _ (hV.1.trans (hB.mono hV.1.size))⟩
          have hst := Lib.hid (hS7.out _ (Below.refl _ wr))
          have hdr := Lib.hid (hS7.out _ (Below.refl _ wr).drew)
          have h2i : (k2 : Int) < (G.length : Int) := by omega
          clear hc ge gn gc1 gc2 gc3 htt
          go_upto_region 17 with (fail)
          first | (go_region_held3 (fun V => (Below wr.heap.size wr V ∧ V.cell? ⟨b, off + k2 * 4, none⟩ = some (.int .i64 G[k2].n) ∧ V.cell? ⟨b, off + k2 * 4 + 1, none⟩ = some (.string G[k2].ty.name) ∧ V.cell? ⟨b, off + k2 * 4 + 2, none⟩ = some (.int .i64 G[k2].ty.n) ∧ V.cell? ⟨b, off + k2 * 4 + 3, none⟩ = some (.slice a4 G[k2].ty.args.length c4))) ((first | exact hdr.out | exact hst.out | assumption))
            (first
              | (go_at_call 22; (with_reducible refine (hP1.out _ (by assumption)).mono ?_); rintro e w7 ⟨ua7, uc7, rfl, hu7, hs7, hB7⟩)
              | (go_at_call 22; (with_reducible refine (hP2.out _ (by assumption)).mono ?_); rintro e w8 ⟨ua8, uc8, rfl, hu8, hs7, hB8⟩; have hu78 := TyX.below hu7 hB8.out)
              | (go_at_call 17; (with_reducible refine (hSm.out _ _ _ _ _ (by assumption) (by assumption) (by assumption)).mono ?_); rintro e w7 ⟨rfl, hs7⟩))) | fail
          all_goals
            have hfin := Lib.hid (hBq.out.trans (hs7.1.mono hBq.out.size))
            go_wp2_with fail
            go_roundw
            case rel => first | exact ⟨k2 + 1, by omega, by go_num, hfin.out⟩ | exact ⟨_, _, _, _, _, _, _, _, _, _, _, _, _, _, _, _, _, _, _, _, _, _, _, _, _, ⟨k2 + 1, by omega, by go_num, hfin.out⟩, rfl⟩
            case measure => simp [intOf]; omega
        · have hfin := Lib.hid (hI.out wr h7.out).2.2.2
          have h2i : ¬ (k2 : Int) < (G.length : Int) := by omega
          go_wp2_with fail
          go_ret
          exact ⟨ret_bool rfl, hfin.out⟩
end Go.Proofs.YticjpeefhppjoaaDoor
