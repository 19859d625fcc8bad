/- dawdlerlaw08.TyTells answers true. -/
import Derived.Test.YticjpeefhppjoaaDoorTyAw
import Derived.Deep.RegionHeld3
namespace Go.Proofs.YticjpeefhppjoaaDoor
open Go.RowKit

set_option maxHeartbeats 4000000 in
set_option maxRecDepth 100000 in
theorem tells_c (e : Ty) (v : Value) (w : World) (hv : IsTy w v e) (ht : Tab w) : Calls Tryd.prog 3 #[v] w fun r w' => r = .returned (.bool true) ∧ Below w.heap.size w w' := by
  have hv0 := Lib.hid hv
  have ht' := Lib.hid ht
  obtain ⟨s, n, l⟩ := e
  obtain ⟨a1, c1, rfl, _, hn, _⟩ := hv.open
  obtain ⟨W1, hW1⟩ : ∃ W, w.alloc (.cells #[.string s, .int .i64 n, .slice a1 l.length c1] 24) = W := ⟨_, rfl⟩
  have hb1 : Below w.heap.size w W1 := by rw [← hW1]; exact (Below.refl _ w).alloc (Nat.le_refl _) _
  have hz1 : W1.heap.size = w.heap.size + 1 := by rw [← hW1]; simp
  have x1 : BoxT W1 w.heap.size (.string s) (.int .i64 n) (.slice a1 l.length c1) := by rw [← hW1]; exact new_block (Below.refl _ _)
  have hS : Hid (∀ V, Below W1.heap.size W1 V → (Below W1.heap.size W1 V ∧ V.cell? ⟨w.heap.size, 0, none⟩ = some (.string s) ∧ V.cell? ⟨w.heap.size, 1, none⟩ = some (.int .i64 n) ∧ V.cell? ⟨w.heap.size, 2, none⟩ = some (.slice a1 l.length c1))) := fun V hV => ⟨hV, (x1.below hV x1.lt).cells⟩
  have hI : Hid (∀ V, Below W1.heap.size W1 V → IsTy V (.agg #[.string s, .int .i64 n, .slice a1 l.length c1]) (.mk s n l) ∧ Tab V ∧ Below w.heap.size w V) := fun V hV => by
    have hwV := hb1.trans (hV.mono (by omega))
    exact ⟨TyX.below hv hwV, ht.below hwV, hwV⟩
  have hW1' := Lib.hid hW1
  have htW := Lib.hid (ht.below hb1)
  clear hv ht hW1 hb1 x1
  go_enter Tryd.func3, Tryd.ntmps3
  go_wp2_with fail
  rw [hW1'.out]
  refine (law_awake W1 htW.out).mono ?_
  rintro r V ⟨rfl, hV⟩
  obtain ⟨_, q0, q1, q2⟩ := hS.out V hV
  have hf := Lib.hid (r08_Few _ _ V (hI.out V hV).1)
  cases hfw : fewT (.mk s n l)
  case false =>
    rw [hfw] at hf
    go_wp2_with fail
    refine hf.out.mono ?_
    rintro r V2 ⟨rfl, hV2⟩
    have hfin := Lib.hid ((hI.out V hV).2.2.trans (hV2.mono (hI.out V hV).2.2.size))
    clear q0 q1 q2
    go_wp2_with fail
    go_ret
    exact ⟨ret_bool rfl, hfin.out⟩
  rw [hfw] at hf
  clear hfw
  go_wp2_with fail
  refine hf.out.mono ?_
  rintro r V2 ⟨rfl, hV2⟩
  have h2 := Lib.hid (hV.trans (hV2.mono hV.size))
  clear q0 q1 q2 hf hV hV2
  obtain ⟨_, q0, q1, q2⟩ := hS.out V2 h2.out
  have hh := Lib.hid (ty_Holes _ _ V2 (hI.out V2 h2.out).1)
  obtain ⟨H, hH⟩ : ∃ H, holesC (.mk s n l) = H := ⟨_, rfl⟩
  rw [hH] at hh
  go_wp2_with fail
  refine hh.out.mono ?_
  rintro r V3 ⟨⟨z, rfl, hz⟩, hV3⟩
  obtain ⟨za, zc, rfl⟩ := hz.form
  have h3 := Lib.hid (h2.out.trans (hV3.mono h2.out.size))
  have hz' := Lib.hid hz
  clear q0 q1 q2 hh hz hV3
  obtain ⟨_, q0, q1, q2⟩ := hS.out V3 h3.out
  have hh := Lib.hid (r08_Holes _ _ V3 (hI.out V3 h3.out).1)
  rw [hH] at hh
  go_wp2_with fail
  refine hh.out.mono ?_
  rintro r V4 ⟨⟨y, rfl, hy⟩, hV4⟩
  obtain ⟨ya, yc, rfl⟩ := hy.form
  have h4 := Lib.hid (h3.out.trans (hV4.mono h3.out.size))
  have hy' := Lib.hid hy
  have hz4 := Lib.hid (hz'.out.keeps (Keeps.of_below hV4))
  have hHl : Hid (H.length ≤ 4000) := by
    unfold Hid
    rw [← hH]
    unfold holesC
    split
    · rename_i h; have := holesT_len (.mk s n l) []; have := chk_cnt h; simp at *; omega
    · simp
  clear q0 q1 q2 hh hy hV4 hz' hH
  go_wp2_with fail
  go_loopw [6] (fun i wr => ∃ k : Nat, k ≤ H.length ∧ i = .int .i64 k ∧ Below V4.heap.size V4 wr) (fun i _ => H.length - (intOf i).toNat)
  case atStart => exact ⟨0, by omega, rfl, Below.refl _ _⟩
  case round =>
    obtain ⟨k, hk, rfl, hB⟩ := hrel
    have hHl' : H.length ≤ 4000 := hHl.out
    by_cases h1 : k < H.length
    · obtain ⟨b, off, rfl, hc⟩ := (hz4.out.keeps (Keeps.of_below hB)).at.2 (by rintro rfl; simp at h1)
      obtain ⟨b', off', rfl, hc'⟩ := (hy'.out.keeps (Keeps.of_below hB)).at.2 (by rintro rfl; simp at h1)
      have g0 := hc k h1
      have g1 := hc' k h1
      clear hc hc'
      go_wp2_with fail
      go_region
      go_wp2_with fail
      go_roundw
      case rel => exact ⟨k + 1, by omega, by go_num, hB.drew⟩
      case measure => simp [intOf]; omega
    · have h5 := Lib.hid (h4.out.trans (hB.mono h4.out.size))
      obtain ⟨cb, hcb⟩ : ∃ b, chkT (.mk s n l) = b := ⟨_, rfl⟩
      obtain ⟨ce, hce⟩ : ∃ c, canonT (.mk s n l) = c := ⟨_, rfl⟩
      obtain ⟨ts, hts⟩ : ∃ t, (if chkT (.mk s n l) = true then mkS (textT (.mk s n l)) else ⟨#[]⟩) = t := ⟨_, rfl⟩
      have hcb' := Lib.hid hcb
      have hce' := Lib.hid hce
      have hts' := Lib.hid hts
      clear hcb hce hts
      have hCk : Hid (∀ V, (Below W1.heap.size W1 V ∧ V.cell? ⟨w.heap.size, 0, none⟩ = some (.string s) ∧ V.cell? ⟨w.heap.size, 1, none⟩ = some (.int .i64 n) ∧ V.cell? ⟨w.heap.size, 2, none⟩ = some (.slice a1 l.length c1)) → Calls Tryd.prog 15 #[.agg #[.string s, .int .i64 n, .slice a1 l.length c1]] V fun r V' => r = .returned (.bool cb) ∧ (Below W1.heap.size W1 V' ∧ V'.cell? ⟨w.heap.size, 0, none⟩ = some (.string s) ∧ V'.cell? ⟨w.heap.size, 1, none⟩ = some (.int .i64 n) ∧ V'.cell? ⟨w.heap.size, 2, none⟩ = some (.slice a1 l.length c1))) := by
        intro V hV
        have hi := hI.out V hV.1
        refine (ty_Check _ _ V hi.1).mono ?_
        rintro r V' ⟨hr, hB⟩
        rw [hcb'.out] at hr
        exact ⟨hr, hS.out _ (hV.1.trans (hB.mono hV.1.size))⟩
      have hRk : Hid (∀ V, (Below W1.heap.size W1 V ∧ V.cell? ⟨w.heap.size, 0, none⟩ = some (.string s) ∧ V.cell? ⟨w.heap.size, 1, none⟩ = some (.int .i64 n) ∧ V.cell? ⟨w.heap.size, 2, none⟩ = some (.slice a1 l.length c1)) → Calls Tryd.prog 16 #[.agg #[.string s, .int .i64 n, .slice a1 l.length c1]] V fun r V' => r = .returned (.bool cb) ∧ (Below W1.heap.size W1 V' ∧ V'.cell? ⟨w.heap.size, 0, none⟩ = some (.string s) ∧ V'.cell? ⟨w.heap.size, 1, none⟩ = some (.int .i64 n) ∧ V'.cell? ⟨w.heap.size, 2, none⟩ = some (.slice a1 l.length c1))) := by
        intro V hV
        have hi := hI.out V hV.1
        refine (r08_Check _ _ V hi.1).mono ?_
        rintro r V' ⟨hr, hB⟩
        rw [hcb'.out] at hr
        exact ⟨hr, hS.out _ (hV.1.trans (hB.mono hV.1.size))⟩
      have hTx : Hid (∀ V, (Below W1.heap.size W1 V ∧ V.cell? ⟨w.heap.size, 0, none⟩ = some (.string s) ∧ V.cell? ⟨w.heap.size, 1, none⟩ = some (.int .i64 n) ∧ V.cell? ⟨w.heap.size, 2, none⟩ = some (.slice a1 l.length c1)) → Calls Tryd.prog 20 #[.agg #[.string s, .int .i64 n, .slice a1 l.length c1]] V fun r V' => r = .returned (.string ts) ∧ (Below W1.heap.size W1 V' ∧ V'.cell? ⟨w.heap.size, 0, none⟩ = some (.string s) ∧ V'.cell? ⟨w.heap.size, 1, none⟩ = some (.int .i64 n) ∧ V'.cell? ⟨w.heap.size, 2, none⟩ = some (.slice a1 l.length c1))) := by
        intro V hV
        have hi := hI.out V hV.1
        refine (ty_Text _ _ V hi.1 hi.2.1).mono ?_
        rintro r V' ⟨hr, hB⟩
        rw [hts'.out] at hr
        exact ⟨hr, hS.out _ (hV.1.trans (hB.mono hV.1.size))⟩
      have hRx : Hid (∀ V, (Below W1.heap.size W1 V ∧ V.cell? ⟨w.heap.size, 0, none⟩ = some (.string s) ∧ V.cell? ⟨w.heap.size, 1, none⟩ = some (.int .i64 n) ∧ V.cell? ⟨w.heap.size, 2, none⟩ = some (.slice a1 l.length c1)) → Calls Tryd.prog 21 #[.agg #[.string s, .int .i64 n, .slice a1 l.length c1]] V fun r V' => r = .returned (.string ts) ∧ (Below W1.heap.size W1 V' ∧ V'.cell? ⟨w.heap.size, 0, none⟩ = some (.string s) ∧ V'.cell? ⟨w.heap.size, 1, none⟩ = some (.int .i64 n) ∧ V'.cell? ⟨w.heap.size, 2, none⟩ = some (.slice a1 l.length c1))) := by
        intro V hV
        have hi := hI.out V hV.1
        refine (r08_Text _ _ V hi.1).mono ?_
        rintro r V' ⟨hr, hB⟩
        rw [hts'.out] at hr
        exact ⟨hr, hS.out _ (hV.1.trans (hB.mono hV.1.size))⟩
      have hCa : Hid (∀ V, (Below W1.heap.size W1 V ∧ V.cell? ⟨w.heap.size, 0, none⟩ = some (.string s) ∧ V.cell? ⟨w.heap.size, 1, none⟩ = some (.int .i64 n) ∧ V.cell? ⟨w.heap.size, 2, none⟩ = some (.slice a1 l.length c1)) → Calls Tryd.prog 18 #[.agg #[.string s, .int .i64 n, .slice a1 l.length c1]] V fun r V' => ∃ ua uc, r = .returned (.agg #[.string ce.name, .int .i64 ce.n, .slice ua ce.args.length uc]) ∧ IsTy V' (.agg #[.string ce.name, .int .i64 ce.n, .slice ua ce.args.length uc]) ce ∧ (Below W1.heap.size W1 V' ∧ V'.cell? ⟨w.heap.size, 0, none⟩ = some (.string s) ∧ V'.cell? ⟨w.heap.size, 1, none⟩ = some (.int .i64 n) ∧ V'.cell? ⟨w.heap.size, 2, none⟩ = some (.slice a1 l.length c1)) ∧ Hid (Below V.heap.size V V')) := by
        intro V hV
        have hi := hI.out V hV.1
        refine (ty_Canon _ _ V hi.1).mono ?_
        rintro r V' ⟨u, rfl, hu, hB⟩
        rw [hce'.out] at hu
        obtain ⟨ua, uc, rfl⟩ := hu.form
        exact ⟨ua, uc, rfl, hu, hS.out _ (hV.1.trans (hB.mono hV.1.size)), hB⟩
      have hRa : Hid (∀ V, (Below W1.heap.size W1 V ∧ V.cell? ⟨w.heap.size, 0, none⟩ = some (.string s) ∧ V.cell? ⟨w.heap.size, 1, none⟩ = some (.int .i64 n) ∧ V.cell? ⟨w.heap.size, 2, none⟩ = some (.slice a1 l.length c1)) → Calls Tryd.prog 19 #[.agg #[.string s, .int .i64 n, .slice a1 l.length c1]] V fun r V' => ∃ ua uc, r = .returned (.agg #[.string ce.name, .int .i64 ce.n, .slice ua ce.args.length uc]) ∧ IsTy V' (.agg #[.string ce.name, .int .i64 ce.n, .slice ua ce.args.length uc]) ce ∧ (Below W1.heap.size W1 V' ∧ V'.cell? ⟨w.heap.size, 0, none⟩ = some (.string s) ∧ V'.cell? ⟨w.heap.size, 1, none⟩ = some (.int .i64 n) ∧ V'.cell? ⟨w.heap.size, 2, none⟩ = some (.slice a1 l.length c1)) ∧ Hid (Below V.heap.size V V')) := by
        intro V hV
        have hi := hI.out V hV.1
        refine (r08_Canon _ _ V hi.1).mono ?_
        rintro r V' ⟨u, rfl, hu, hB⟩
        rw [hce'.out] at hu
        obtain ⟨ua, uc, rfl⟩ := hu.form
        exact ⟨ua, uc, rfl, hu, hS.out _ (hV.1.trans (hB.mono hV.1.size)), hB⟩
      have hSm : Hid (∀ V a c a' c', (Below W1.heap.size W1 V ∧ V.cell? ⟨w.heap.size, 0, none⟩ = some (.string s) ∧ V.cell? ⟨w.heap.size, 1, none⟩ = some (.int .i64 n) ∧ V.cell? ⟨w.heap.size, 2, none⟩ = some (.slice a1 l.length c1)) → IsTy V (.agg #[.string ce.name, .int .i64 ce.n, .slice a ce.args.length c]) ce → IsTy V (.agg #[.string ce.name, .int .i64 ce.n, .slice a' ce.args.length c']) ce → Calls Tryd.prog 17 #[.agg #[.string ce.name, .int .i64 ce.n, .slice a ce.args.length c], .agg #[.string ce.name, .int .i64 ce.n, .slice a' ce.args.length c']] V fun r V' => r = .returned (.bool true) ∧ (Below W1.heap.size W1 V' ∧ V'.cell? ⟨w.heap.size, 0, none⟩ = some (.string s) ∧ V'.cell? ⟨w.heap.size, 1, none⟩ = some (.int .i64 n) ∧ V'.cell? ⟨w.heap.size, 2, none⟩ = some (.slice a1 l.length c1))) := by
        intro V a c a' c' hV hu hu'
        refine (r08_Same ce ce _ _ V hu hu').mono ?_
        rintro r V' ⟨hr, hB⟩
        rw [eqB_true rfl] at hr
        exact ⟨hr, hS.out _ (hV.1.trans (hB.mono hV.1.size))⟩
      have hst := Lib.hid (hS.out _ h5.out)
      have hdr := Lib.hid (hS.out _ h5.out.drew)
      obtain ⟨_, r0, r1, r2⟩ := hst.out
      go_upto_region 13 with (fail)
      go_region_held3 (fun V => Below W1.heap.size W1 V ∧ V.cell? ⟨w.heap.size, 0, none⟩ = some (.string s) ∧ V.cell? ⟨w.heap.size, 1, none⟩ = some (.int .i64 n) ∧ V.cell? ⟨w.heap.size, 2, none⟩ = some (.slice a1 l.length c1)) ((first | exact hdr.out | exact hst.out | assumption))
        (first
          | (go_at_call 15; (with_reducible refine (hCk.out _ (by assumption)).mono ?_); rintro e w7 ⟨rfl, hs7⟩)
          | (go_at_call 16; (with_reducible refine (hRk.out _ (by assumption)).mono ?_); rintro e w7 ⟨rfl, hs7⟩)
          | (go_at_call 20; (with_reducible refine (hTx.out _ (by assumption)).mono ?_); rintro e w7 ⟨rfl, hs7⟩)
          | (go_at_call 21; (with_reducible refine (hRx.out _ (by assumption)).mono ?_); rintro e w7 ⟨rfl, hs7⟩)
          | (go_at_call 18; (with_reducible refine (hCa.out _ (by assumption)).mono ?_); rintro e w7 ⟨ua7, uc7, rfl, hu7, hs7, hB7⟩)
          | (go_at_call 19; (with_reducible refine (hRa.out _ (by assumption)).mono ?_); rintro e w8 ⟨ua8, uc8, rfl, hu8, hs8, hB8⟩; have hu78 := TyX.below hu7 hB8.out)
          | (go_at_call 17; (with_reducible refine (hSm.out _ _ _ _ _ (by assumption) (by assumption) (by assumption)).mono ?_); rintro e w7 ⟨rfl, hs7⟩))
      all_goals
        have hfin := Lib.hid (hI.out _ hs7.1).2.2
        go_wp2_with fail
        go_ret
        exact ⟨ret_bool (by simp), hfin.out⟩
end Go.Proofs.YticjpeefhppjoaaDoor
