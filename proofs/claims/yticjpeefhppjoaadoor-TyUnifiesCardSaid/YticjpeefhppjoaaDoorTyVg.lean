/- The reference's Unify, walked. -/
import Derived.Test.YticjpeefhppjoaaDoorTyVf
namespace Go.Proofs.YticjpeefhppjoaaDoor
open Go.RowKit

set_option maxHeartbeats 8000000 in
set_option maxRecDepth 100000 in
theorem r08_Unify (fuel : Nat) (a b : Ty) (va vb : Value) (w : World) (r : Option (List Fa)) (hr : UniP fuel a b r) (hva : IsTy w va a) (hvb : IsTy w vb b) :
    Calls Tryd.prog 25 #[va, vb] w fun z w' => (∃ v, z = .returned (.tuple #[v, .int .i64 (if r.isSome then 0 else 80)]) ∧ FaSl w' v (r.getD [])) ∧ Below w.heap.size w w' := by
  have h64 : Hid (∀ m ∈ allT a ++ allT b, In64 m) := fun m hm => by
    rcases List.mem_append.1 hm with h | h
    · exact all_in64 hva m h
    · exact all_in64 hvb m h
  have hr' := Lib.hid hr
  obtain ⟨ta, hta⟩ : ∃ t, a = t := ⟨_, rfl⟩
  obtain ⟨tb, htb⟩ : ∃ t, b = t := ⟨_, rfl⟩
  have hva' := Lib.hid hva
  have hvb' := Lib.hid hvb
  rw [hta] at hva' h64 hr'
  rw [htb] at hvb' h64 hr'
  obtain ⟨sa, na, la⟩ := a
  obtain ⟨sc, nc, lc⟩ := b
  obtain ⟨aa, ac, rfl, _⟩ := hva.open
  obtain ⟨ba, bc, rfl, _⟩ := hvb.open
  clear hta htb hr hva hvb
  obtain ⟨W1, hW1⟩ : ∃ W, (w.alloc (.cells #[.string sa, .int .i64 na, .slice aa la.length ac] 24)).alloc (.cells #[.string sc, .int .i64 nc, .slice ba lc.length bc] 24) = W := ⟨_, rfl⟩
  have hz1 : w.heap.size + 2 ≤ W1.heap.size := by rw [← hW1]; simp
  have hb1 : Below w.heap.size w W1 := by rw [← hW1]; exact ((Below.refl _ w).alloc (Nat.le_refl _) _).alloc (by simp) _
  have hba : BoxT W1 w.heap.size (.string sa) (.int .i64 na) (.slice aa la.length ac) := by rw [← hW1]; exact new_block ((Below.refl _ _).alloc (by simp) _)
  have hbb : BoxT W1 (w.heap.size + 1) (.string sc) (.int .i64 nc) (.slice ba lc.length bc) := by rw [← hW1]; exact new_block2 (Below.refl _ _)
  have hW1' := Lib.hid hW1
  have hb1' := Lib.hid hb1
  have hba' := Lib.hid hba
  have hbb' := Lib.hid hbb
  have hct := Lib.hid (r08_Check ta _ W1 (hva'.out.below hb1))
  obtain ⟨q0, q1, q2⟩ := hba.cells
  clear hW1 hb1 hba hbb
  go_enter Tryd.func25, Tryd.ntmps25
  go_wp2_with fail
  rw [hW1'.out]
  go_wp2_with fail
  refine hct.out.mono ?_
  rintro e V1 ⟨rfl, hB1⟩
  have hwV1 := Lib.hid (hb1'.out.trans (hB1.mono (by omega)))
  have hba1 := Lib.hid (hba'.out.below hB1 hba'.out.lt)
  have hbb1 := Lib.hid (hbb'.out.below hB1 hbb'.out.lt)
  have hct := Lib.hid (r08_Check tb _ V1 (hvb'.out.below hwV1.out))
  clear q0 q1 q2 hB1
  obtain ⟨q0, q1, q2⟩ := hbb1.out.cells
  go_wp2_with fail
  refine hct.out.mono ?_
  rintro e V2 ⟨rfl, hB2⟩
  have hwV2 := Lib.hid (hwV1.out.trans (hB2.mono hwV1.out.size))
  have hba2 := Lib.hid (hba1.out.below hB2 hba1.out.lt)
  have hbb2 := Lib.hid (hbb1.out.below hB2 hbb1.out.lt)
  clear q0 q1 q2 hB2 hba1 hbb1 hba' hbb' hct
  cases hcc : (chkT ta && chkT tb)
  case false =>
    have hrn : r = none := by
      rcases hr'.out with ⟨_, h⟩ | ⟨h, _⟩
      · exact h
      · rw [hcc] at h; cases h
    subst hrn
    have hcc' := Lib.hid hcc
    cases hc1 : chkT ta
    · clear hcc
      go_wp2_with fail
      go_ret2
      exact ⟨⟨_, ret_two rfl rfl, FaSl.nil _⟩, hwV2.out⟩
    · rw [hc1, Bool.true_and] at hcc
      rw [hcc]
      clear hcc
      go_wp2_with fail
      go_ret2
      exact ⟨⟨_, ret_two rfl rfl, FaSl.nil _⟩, hwV2.out⟩
  case true =>
    obtain ⟨hin, hUl, L, c, ho, hrest⟩ := uni_ref hr'.out hcc h64.out
    have hc1 : chkT ta = true := by rw [Bool.and_eq_true] at hcc; exact hcc.1
    have hc2 : chkT tb = true := by rw [Bool.and_eq_true] at hcc; exact hcc.2
    rw [hc1, hc2]
    have hct : Hid (Calls Tryd.prog 48 #[.slice none 0 0, .agg #[.string sa, .int .i64 na, .slice aa la.length ac], .agg #[.string sc, .int .i64 nc, .slice ba lc.length bc]] V2 fun r w' => (∃ u, r = .returned (.tuple #[u, .bool c]) ∧ FaSl w' u L) ∧ Below V2.heap.size V2 w') := r08_One (allT ta ++ allT tb) (by omega) h64.out fuel [] ta tb none 0 _ _ V2 (L, c) ho hin (fun m h => List.mem_append.2 (.inl h)) (fun m h => List.mem_append.2 (.inr h)) (fun _ => rfl) (.inl rfl) (hva'.out.below hwV2.out) (hvb'.out.below hwV2.out)
    have hrest' := Lib.hid hrest
    obtain ⟨q0, q1, q2⟩ := hba2.out.cells
    obtain ⟨q3, q4, q5⟩ := hbb2.out.cells
    clear hcc hin hUl ho hrest hc1 hc2
    go_wp2_with fail
    refine hct.out.mono ?_
    rintro e V3 ⟨⟨u, rfl, hu⟩, hB3⟩
    have hwV3 := Lib.hid (hwV2.out.trans (hB3.mono hwV2.out.size))
    obtain ⟨xa, xc, rfl, _⟩ := hu.open
    have hu' := Lib.hid hu
    clear q0 q1 q2 q3 q4 q5 hu hB3 hct
    rcases hrest'.out with ⟨rfl, hrn⟩ | ⟨rfl, hLl, hnd, rho, si, K, hac, hsi, hfw, hK, hkk, hrt⟩
    · subst hrn
      go_wp2_with fail
      go_ret2
      exact ⟨⟨_, ret_two rfl rfl, FaSl.nil _⟩, hwV3.out⟩
    have hnd' := Lib.hid hnd
    have hac' := Lib.hid hac
    have hsi' := Lib.hid hsi
    have hfw' := Lib.hid hfw
    have hK' := Lib.hid hK
    have hkk' := Lib.hid hkk
    have hrt' := Lib.hid hrt
    have hrow := Lib.hid hu'.out.at.2.2
    clear hnd hac hsi hfw hK hkk hrt hrest' hr'
    obtain ⟨i0, hi, hz0, hz1', hz2'⟩ := info_of Tryd.infoFa
    go_wp2_with fail
    go_loopw [10, 11] (fun ov i wr => ∃ (k : Nat) (es : List Fa) (cs : List Value) (oa : Option Addr) (oc : Nat), k ≤ L.length ∧ i = .int .i64 k ∧ ov = .slice oa es.length oc ∧ Hid (Ins si L k es) ∧ Hid (wr.ownsRow V3.heap.size 34 4 (.slice oa es.length oc) es.length cs ∧ FaCells (fun _ => False) wr cs es) ∧ Hid (Below V3.heap.size V3 wr)) (fun _ i _ => L.length - (intOf i).toNat)
    case atStart => exact ⟨0, [], [], none, 0, by omega, rfl, rfl, Ins.zero si L, ⟨⟨rfl, .inl ⟨rfl, rfl⟩⟩, fun i h => by simp at h⟩, Below.refl _ _⟩
    case round =>
      obtain ⟨k, es, cs, oa, oc, hk, rfl, rfl, hI, hown, hB⟩ := hrel
      have hwr := Lib.hid (hwV3.out.trans (hB.out.mono hwV3.out.size))
      by_cases h1 : k < L.length
      · obtain ⟨b, off, rfl, hat⟩ := hrow.out.at (by rintro rfl; simp at h1)
        obtain ⟨a4, c4, g0, g1, g2, g3, ge, gn⟩ := hat k h1
        have hsub : sub si L[k].ty = si L[k].n := (hsi'.out.some (fa_nodup hnd'.out h1)).symm
        have hf0 := r08_Full L hac'.out hsi'.out hfw'.out (by unfold lenMax; omega) 60 L[k].ty 2000 _ (fun _ => False) (some ⟨b, off, none⟩) xc V3 wr (hfw'.out _ _ (fa_nodup hnd'.out h1)) (by omega) (by omega) (by omega) hB.out hrow.out ge (fun _ h => h.elim)
        rw [hsub] at hf0
        obtain ⟨n, hn⟩ : ∃ n, L[k].n = n := ⟨_, rfl⟩
        have hn' := Lib.hid hn
        rw [hn] at hf0 g0 gn
        have hct : Hid (Calls Tryd.prog 49 #[.slice (some ⟨b, off, none⟩) L.length xc, .agg #[.string L[k].ty.name, .int .i64 L[k].ty.n, .slice a4 L[k].ty.args.length c4], .int .i64 60, .int .i64 2000] wr fun r w' => (∃ (us : Str) (un : Int) (ua : Option Addr) (um uc : Nat) (y : Int), r = .returned (.tuple #[.agg #[.string us, .int .i64 un, .slice ua um uc], .int .i64 y]) ∧ FullR (fun _ => False) w' 60 2000 (si n) (.agg #[.string us, .int .i64 un, .slice ua um uc]) y) ∧ Below wr.heap.size wr w') := hf0
        have hK0 := Keeps.of_below hB.out
        have hn64 := Lib.hid gn
        have hg0 : Hid (V3.cell? ⟨b, off + k * 4, none⟩ = some (.int .i64 n)) := g0
        replace g0 := hK0 _ _ g0
        replace g1 := hK0 _ _ g1
        replace g2 := hK0 _ _ g2
        replace g3 := hK0 _ _ g3
        have h1i : (k : Int) < (L.length : Int) := by omega
        clear hat ge hsub hf0 hK0 hn gn
        go_wp2_with fail
        refine hct.out.mono ?_
        rintro e V ⟨⟨us, un, ua, um, uc, y, rfl, hF⟩, hBV⟩
        have hF' := Lib.hid hF
        have hBV' := Lib.hid (hB.out.trans (hBV.mono hB.out.size))
        have hwV := Lib.hid (hwr.out.trans (hBV.mono hwr.out.size))
        have hownV := Lib.hid (ownsRow_heap hown.out.1 (fun g hg => hBV.block g (ownBlock_ge hown.out.1 hg).2))
        have hcsV := Lib.hid (hown.out.2.later (Y := fun _ => False) (KeepsBut.of_below hBV) (fun _ _ h => h))
        clear hF hBV g0 g1 g2 g3 hct
        rcases hF'.out with ⟨hfit, hy, hty⟩ | ⟨hnf, rfl⟩
        · have hy' := Lib.hid hy
          have hfit' : Hid (fitT (si n) = true) := (fitT_iff _).2 hfit
          have hyn : ¬ y < 0 := by have := hfit.2; omega
          have hty' := Lib.hid hty
          clear hy hfit hty hF'
          go_upto_region 13 with (fail)
          obtain ⟨V7, hV7⟩ : ∃ W, V.alloc (.cells #[.string us, .int .i64 un, .slice ua um uc] 24) = W := ⟨_, rfl⟩
          have hB7 : Below V.heap.size V V7 := by rw [← hV7]; exact (Below.refl _ _).alloc (Nat.le_refl _) _
          have hb7 : BoxT V7 V.heap.size (.string us) (.int .i64 un) (.slice ua um uc) := by rw [← hV7]; exact new_block (Below.refl _ _)
          rw [hV7]
          have hb7' := Lib.hid hb7
          have hB37 := Lib.hid (hBV'.out.trans (hB7.mono hBV'.out.size))
          have hw7 := Lib.hid (hwV.out.trans (hB7.mono hwV.out.size))
          have hown7 := Lib.hid (ownsRow_heap hownV.out (fun g hg => hB7.block g (ownBlock_ge hownV.out hg).2))
          have hcs7 := Lib.hid (hcsV.out.later (Y := fun _ => False) (KeepsBut.of_below hB7) (fun _ _ h => h))
          have hty7 := Lib.hid (TyX.below hty'.out hB7)
          have hfa7 := Lib.hid (FaSl.own hcs7.out (Below.refl _ V7) hown7.out)
          have hesl : es.length ≤ 4000 := by have := hI.out.len; omega
          clear hV7 hB7 hb7 hownV hcsV hty'
          go_wp2_with fail
          go_loopw [14] (fun i wq => ∃ j : Nat, j ≤ es.length ∧ i = .int .i64 j ∧ Hid (∀ m (hm : m < es.length), m < j → es[m].n < n) ∧ Hid (Below V7.heap.size V7 wq)) (fun i _ => es.length - (intOf i).toNat)
          case atStart => exact ⟨0, by omega, rfl, fun m hm h => by omega, Below.refl _ _⟩
          case round =>
            obtain ⟨j, hj, rfl, hlow, hBq⟩ := hrel
            obtain ⟨gb, hgb⟩ : ∃ gb : Bool, (gb = true → ∃ hj : j < es.length, es[j].n < n) ∧ (gb = false → ∀ hj : j < es.length, ¬ es[j].n < n) := by
              by_cases h : ∃ hj : j < es.length, es[j].n < n
              · exact ⟨true, fun _ => h, fun h => by cases h⟩
              · exact ⟨false, fun h => (nomatch h), fun _ hj hl => h ⟨hj, hl⟩⟩
            have hgb' := Lib.hid hgb
            clear hgb
            go_upto_region 16 with (fail)
            go_cut [68] from 52 to 70 (fun s Z => s = .bool gb ∧ Below wr.heap.size wr Z)
            case first =>
              have hl0 := Keeps.of_below (hB37.out.trans (hBq.out.mono hB37.out.size)) _ _ hg0.out
              by_cases hje : j < es.length
              · obtain ⟨b2, off2, rfl, hat⟩ := (hfa7.out.at.2.2.keeps (Keeps.of_below hBq.out)).at (by rintro rfl; simp at hje)
                obtain ⟨a5, c5, e0, _, _, _, _, _⟩ := hat j hje
                have hji : (j : Int) < (es.length : Int) := by omega
                obtain ⟨m, hm⟩ : ∃ m, es[j].n = m := ⟨_, rfl⟩
                rw [hm] at e0
                have hm' := Lib.hid hm
                clear hat hm
                cases gb
                · have hlt : decide (m < n) = false := by rw [decide_eq_false_iff_not, ← hm'.out]; exact hgb'.out.2 rfl hje
                  go_quiet (fail)
                  go_wp2_with fail
                  go_meet
                  case rel => exact ⟨rfl, below_drewN' (Below.refl _ _) _⟩
                · have hlt : decide (m < n) = true := by rw [decide_eq_true_eq, ← hm'.out]; obtain ⟨_, h⟩ := hgb'.out.1 rfl; exact h
                  go_quiet (fail)
                  go_wp2_with fail
                  go_meet
                  case rel => exact ⟨rfl, below_drewN' (Below.refl _ _) _⟩
              · have hgf : gb = false := by
                  cases gb
                  · rfl
                  · obtain ⟨h, _⟩ := hgb'.out.1 rfl; exact absurd h hje
                subst hgf
                have hji : decide ((j : Int) < (es.length : Int)) = false := by rw [decide_eq_false_iff_not]; omega
                go_quiet (fail)
                go_wp2_with fail
                go_meet
                case rel => exact ⟨rfl, below_drewN' (Below.refl _ _) _⟩
            case rest =>
            obtain ⟨rfl, hZB⟩ := hcut
            obtain ⟨Z, rfl⟩ : ∃ X, X = wc := ⟨_, rfl⟩
            have hBZ := Lib.hid (hBq.out.trans (hZB.mono hBq.out.size))
            clear hZB
            cases gb
            case true =>
              obtain ⟨hje, hjn⟩ := hgb'.out.1 rfl
              have hlow2 : Hid (∀ m (hm : m < es.length), m < j + 1 → es[m].n < n) := fun m hm h => by
                rcases Nat.lt_or_ge m j with h' | h'
                · exact hlow.out m hm h'
                · obtain rfl : m = j := by omega
                  exact hjn
              have hje2 : j + 1 ≤ es.length := hje
              clear hje hjn
              go_wp2_with fail
              go_roundw
              case rel => first | exact ⟨j + 1, hje2, by go_num, hlow2, hBZ⟩ | ((repeat apply Exists.intro); exact ⟨⟨j + 1, hje2, by go_num, hlow2, hBZ⟩, rfl⟩)
              case measure => simp [intOf]; omega
            case false =>
              have hex : Hid (∀ hj : j < es.length, ¬ es[j].n < n) := hgb'.out.2 rfl
              have hownZ := Lib.hid (ownsRow_heap hown7.out (fun g hg => hBZ.out.block g (ownBlock_ge hown7.out hg).2))
              obtain ⟨s1, sc1, hsl1, hsn1, hsc1⟩ := own_to hownZ.out hj
              obtain ⟨s2, sc2, hsl2, hsn2, hsc2⟩ := own_from hownZ.out hj
              have hcl : cs.length = es.length * 4 := hownZ.out.1
              have hone := FaCells.one hcs7.out hcl
              have hl1 : Hid ((cs.take (j * 4)).length = j * 4) := by unfold Hid; rw [List.length_take]; omega
              have hl2 : Hid ((cs.drop (j * 4)).length = (es.length - j) * 4) := by unfold Hid; rw [List.length_drop]; omega
              have ho1 : Hid (∀ u ∈ cs.take (j * 4), u.oneCell' = true) := fun u hu => hone u (List.mem_of_mem_take hu)
              have ho2 : Hid (∀ u ∈ cs.drop (j * 4), u.oneCell' = true) := fun u hu => hone u (List.mem_of_mem_drop hu)
              have hown0 := Lib.hid (own_empty Z 34 4 (Nat.le_refl _))
              have hc1 : Hid (∀ ad, s1 = some ad → ∀ i u, (cs.take (j * 4))[i]? = some u → (Z.alloc (.cells #[] 34)).cell? (ad.add i) = some u) := fun ad had i u hu => Keeps.of_below ((Below.refl _ Z).alloc (Nat.le_refl _) _) _ _ (hsc1 ad had i u hu)
              have hc2 : Hid (∀ V, Below Z.heap.size Z V → ∀ ad, s2 = some ad → ∀ i u, (cs.drop (j * 4))[i]? = some u → V.cell? (ad.add i) = some u) := fun V hV ad had i u hu => Keeps.of_below hV _ _ (hsc2 ad had i u hu)
              have hn1 := Lib.hid hsn1
              have hn2 := Lib.hid hsn2
              have hji : (j : Int) ≤ (es.length : Int) := by omega
              have hsl2' := Lib.hid hsl2
              clear hsc1 hsc2 hcl hone hsn1 hsn2 hsl2
              go_wp2_with (first | (at_builtin; go_must ((refine wpList_append_own_src rfl _ _ 32 rfl Z.heap.size 34 i0 (.agg #[.int .i64 0, .string ⟨#[]⟩, .int .i64 0, .slice none 0 0]) 4 56 Tryd.underlying32 hi hz0 hz1' hz2' rfl (by decide) (.slice (some ⟨Z.heap.size, 0, none⟩) 0 0) _ _ rfl hown0.out s1 j sc1 (cs.take (j * 4)) rfl hn1.out hl1.out hc1.out ho1.out (by unfold maxLen; omega) (by omega) (by simp) ?_); intro v2 w3 hown2 hg2 hob; have hBZ3 := Lib.hid (((Below.refl Z.heap.size Z).alloc (Nat.le_refl _) _).grown hg2 (by simp) (fun q e => (ownBlock_ge hown0.out e).1)); rw [Nat.zero_add, List.nil_append] at hown2; obtain ⟨va, vc, rfl, _⟩ := ownsRow_form hown2; have hown3 := Lib.hid hown2; clear hown2 hg2 hob)) | fail)
              have hB73 := Lib.hid (hBZ.out.trans (hBZ3.out.mono hBZ.out.size))
              have e0 := Keeps.of_below (hB37.out.trans (hB73.out.mono hB37.out.size)) _ _ hg0.out
              obtain ⟨b0, b1, b2⟩ := (hb7'.out.below hB73.out hb7'.out.lt).cells
              have hzz3 : Z.heap.size ≤ w3.heap.size := hBZ3.out.size
              go_region_law ((refine step_append_lies _ (by rfl) _ _ _ (by rfl) Z.heap.size 34 i0 (.agg #[.int .i64 0, .string ⟨#[]⟩, .int .i64 0, .slice none 0 0]) 4 56 Tryd.underlying32 hi hz0 hz1' hz2' rfl (by omega) (.slice va j vc) _ _ (by rfl) ((ownsRow_heap hown3.out (fun g hg => rfl)).alloc _) ⟨w3.heap.size, 0, none⟩ 1 1 [.int .i64 n, .string us, .int .i64 un, .slice ua um uc] (by rfl) (by rfl) (cell_four_new (by rfl) _ _ _ _ _) (by simp [Value.oneCell']) (by omega) (by unfold maxLen; omega) (by omega) (by simp; omega) (w3.heap.size + 1) (by simp) ?_; intro gg cap w4 hown4 hg4 hat4 hlt4; have hown4' := Lib.hid hown4; have hg4' := Lib.hid hg4; clear hown4 hg4 hat4 hlt4))
              all_goals
                have hBw34 := Lib.hid ((((Below.refl Z.heap.size w3).drew).alloc (by simpa using hzz3) (.cells #[.int .i64 n, .string us, .int .i64 un, .slice ua um uc] 34)).grown hg4'.out (by simp; omega) (fun q e => (ownBlock_ge hown3.out e).1))
                have hBZ4 := Lib.hid (hBZ3.out.trans hBw34.out)
                have hzz4 : Z.heap.size ≤ w4.heap.size := hBZ4.out.size
                have hsl2 := hsl2'.out
                have hln : Hid (j + 1 + (es.length - j) = (es.take j ++ [(⟨n, si n⟩ : Fa)] ++ es.drop j).length) := by
                  unfold Hid
                  rw [List.length_append, List.length_append, List.length_take, List.length_drop]
                  simp only [List.length_cons, List.length_nil]; omega
                have hln2 : Hid (j + (es.length - j + 1) = (es.take j ++ [(⟨n, si n⟩ : Fa)] ++ es.drop j).length) := by
                  unfold Hid
                  rw [← hln.out]; omega
                clear e0 b0 b1 b2 hg0
                go_wp2_with (first | (at_builtin; go_must ((refine wpList_append_own_src rfl _ _ 32 rfl Z.heap.size 34 i0 (.agg #[.int .i64 0, .string ⟨#[]⟩, .int .i64 0, .slice none 0 0]) 4 56 Tryd.underlying32 hi hz0 hz1' hz2' rfl (by decide) (.slice (some ⟨gg, 0, none⟩) (j + 1) cap) _ _ rfl hown4'.out s2 (es.length - j) sc2 (cs.drop (j * 4)) rfl hn2.out hl2.out (hc2.out _ hBZ4.out) ho2.out (by unfold maxLen; omega) (by omega) hzz4 ?_); intro v5 w5 hown5 hg5 hob5; have hBZ5 := Lib.hid (hBZ4.out.grown hg5 hzz4 (fun q e => (ownBlock_ge hown4'.out e).1)); rw [hln.out] at hown5; obtain ⟨va5, vc5, rfl, _⟩ := ownsRow_form hown5; have hown6 := Lib.hid hown5; clear hown5 hg5 hob5)) | fail)
                have hB75 := Lib.hid (hBZ.out.trans (hBZ5.out.mono hBZ.out.size))
                have hB36 := Lib.hid (hB37.out.trans (hB75.out.mono hB37.out.size))
                have hzz : Hid (V3.heap.size ≤ Z.heap.size) := Nat.le_trans hB37.out.size hBZ.out.size
                have hcs6 := Lib.hid ((FaCells.insert hcs7.out hown7.out.1 hj (e := ⟨n, si n⟩) ⟨_, _, _, rfl, hn64.out, hty7.out⟩).later (Y := fun _ => False) (KeepsBut.of_below hB75.out) (fun _ _ h => h))
                have hI2 : Hid (Ins si L (k + 1) (es.take j ++ [(⟨n, si n⟩ : Fa)] ++ es.drop j)) := by
                  have := hI.out.next h1 hnd'.out (by rw [hn'.out]; exact hfit'.out) (j := j) (fun m hm h => by rw [hn'.out]; exact hlow.out m hm h) (fun h => by rw [hn'.out]; have := hex.out h; omega) hj
                  rw [hn'.out] at this
                  exact this
                clear hsl2 hsl1
                go_roundw
                case rel => exact ⟨k + 1, (es.take j ++ [(⟨n, si n⟩ : Fa)] ++ es.drop j), _, va5, vc5, by omega, by go_num, by rw [hln2.out], hI2, ⟨own_base hown6.out hzz.out, hcs6.out⟩, hB36.out⟩
                case measure => simp [intOf]; omega
        · have hrn : r = none := by
            rw [hrt'.out]
            refine toldF_none (n := n) ?_ ?_
            · rw [hkk'.out, ← hn'.out]; exact List.mem_map.2 ⟨_, List.getElem_mem h1, rfl⟩
            · cases hff : fitT (si n) with
              | false => rfl
              | true => exact absurd ((fitT_iff _).1 hff) hnf
          subst hrn
          clear hnf hF'
          have hrt2 := hrt'
          clear hrt'
          go_upto_region 13 with (fail)
          obtain ⟨V7, hV7⟩ : ∃ W, V.alloc (.cells #[.string us, .int .i64 un, .slice ua um uc] 24) = W := ⟨_, rfl⟩
          have hB7 : Below V.heap.size V V7 := by rw [← hV7]; exact (Below.refl _ _).alloc (Nat.le_refl _) _
          rw [hV7]
          have hw7 := Lib.hid (hwV.out.trans (hB7.mono hwV.out.size))
          clear hV7 hB7
          go_wp2_with fail
          go_ret2
          exact ⟨⟨_, ret_two rfl rfl, FaSl.nil _⟩, hw7.out⟩
      · have e : k = L.length := by omega
        have hre : r = some es := by
          rw [hrt'.out]
          have h := hI.out
          rw [e] at h
          exact h.done hK'.out hkk'.out
        subst hre
        clear e
        have hfin := Lib.hid (FaSl.own hown.out.2 (Below.refl _ wr) hown.out.1)
        clear hrt'
        go_wp2_with fail
        go_ret2
        exact ⟨⟨_, ret_two rfl rfl, hfin.out⟩, hwr.out⟩
end Go.Proofs.YticjpeefhppjoaaDoor
