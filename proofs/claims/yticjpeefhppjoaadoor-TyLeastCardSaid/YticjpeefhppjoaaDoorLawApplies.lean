/- dawdlerlaw08.TyApplies answers true. -/
import Derived.Test.YticjpeefhppjoaaDoorTyAw
import Derived.Deep.RegionHeld3
namespace Go.Proofs.YticjpeefhppjoaaDoor
open Go.RowKit

theorem FaRow.fa {w : World} {a : Option Addr} {L : List Fa} (h : FaRow (fun _ => False) w a L) (hne : L ≠ []) : ∃ b off, a = some ⟨b, off, none⟩ ∧ ∀ i (hi : i < L.length), ∃ a1 c1,
    w.cell? ⟨b, off + i * 4, none⟩ = some (.int .i64 L[i].n) ∧ w.cell? ⟨b, off + i * 4 + 1, none⟩ = some (.string L[i].ty.name) ∧ w.cell? ⟨b, off + i * 4 + 2, none⟩ = some (.int .i64 L[i].ty.n) ∧ w.cell? ⟨b, off + i * 4 + 3, none⟩ = some (.slice a1 L[i].ty.args.length c1) ∧ IsTy w (.agg #[.string L[i].ty.name, .int .i64 L[i].ty.n, .slice a1 L[i].ty.args.length c1]) L[i].ty ∧ In64 L[i].n := by
  rcases h with h | ⟨b, off, ha, _, h⟩
  · exact (hne h).elim
  · refine ⟨b, off, ha, fun i hi => ?_⟩
    obtain ⟨v0, v1, v2, v3, g0, g1, g2, g3, x1, x2, x3, he, hn, hx⟩ := h i hi
    simp only [Value.agg.injEq, Array.mk.injEq, List.cons.injEq, and_true] at he
    obtain ⟨rfl, rfl, rfl, rfl⟩ := he
    obtain ⟨a1, c1, he⟩ := hx.form
    simp only [Value.agg.injEq, Array.mk.injEq, List.cons.injEq, and_true] at he
    obtain ⟨rfl, rfl, rfl⟩ := he
    exact ⟨a1, c1, g0, g1, g2, g3, hx, hn⟩

set_option maxHeartbeats 4000000 in
set_option maxRecDepth 100000 in
theorem applies_c (aL : Option Addr) (cL : Nat) (L : List Fa) (e : Ty) (v : Value) (w : World) (hLl : L.length ≤ lenMax) (hL : FaRow (fun _ => False) w aL L) (hv : IsTy w v e) (ht : Tab w) : Calls Tryd.prog 4 #[.slice aL L.length cL, v] w fun r w' => r = .returned (.bool true) ∧ Below w.heap.size w w' := by
  have hv0 := Lib.hid hv
  have ht' := Lib.hid ht
  have hLl' := Lib.hid hLl
  have hL' := Lib.hid hL
  obtain ⟨s, n, l⟩ := e
  obtain ⟨a1, c1, rfl, _, hn, _⟩ := hv.open
  obtain ⟨W1, hW1⟩ : ∃ W, w.alloc (.cells #[.string s, .int .i64 n, .slice a1 l.length c1] 24) = W := ⟨_, rfl⟩
  have hb1 : Below w.heap.size w W1 := by rw [← hW1]; exact (Below.refl _ w).alloc (Nat.le_refl _) _
  have hz1 : W1.heap.size = w.heap.size + 1 := by rw [← hW1]; simp
  have x1 : BoxT W1 w.heap.size (.string s) (.int .i64 n) (.slice a1 l.length c1) := by rw [← hW1]; exact new_block (Below.refl _ _)
  have hS : Hid (∀ V, Below W1.heap.size W1 V → (Below W1.heap.size W1 V ∧ V.cell? ⟨w.heap.size, 0, none⟩ = some (.string s) ∧ V.cell? ⟨w.heap.size, 1, none⟩ = some (.int .i64 n) ∧ V.cell? ⟨w.heap.size, 2, none⟩ = some (.slice a1 l.length c1))) := fun V hV => ⟨hV, (x1.below hV x1.lt).cells⟩
  have hI : Hid (∀ V, Below W1.heap.size W1 V → IsTy V (.agg #[.string s, .int .i64 n, .slice a1 l.length c1]) (.mk s n l) ∧ FaRow (fun _ => False) V aL L ∧ Below w.heap.size w V) := fun V hV => by
    have hwV := hb1.trans (hV.mono (by omega))
    exact ⟨TyX.below hv hwV, hL.keeps (Keeps.of_below hwV), hwV⟩
  have hW1' := Lib.hid hW1
  have htW := Lib.hid (ht.below hb1)
  clear hv ht hW1 hb1 x1 hL hLl
  go_enter Tryd.func4, Tryd.ntmps4
  go_wp2_with fail
  rw [hW1'.out]
  refine (law_awake W1 htW.out).mono ?_
  rintro r V ⟨rfl, hV⟩
  have hV' := Lib.hid hV
  by_cases h20 : 20 < L.length
  · have h20i : (20 : Int) < (L.length : Int) := by omega
    have hfin := Lib.hid (hI.out V hV).2.2
    clear hV
    go_wp2_with fail
    go_ret
    exact ⟨ret_bool rfl, hfin.out⟩
  have h20i : ¬ (20 : Int) < (L.length : Int) := by omega
  obtain ⟨_, q0, q1, q2⟩ := hS.out V hV
  have hf := Lib.hid (r08_Few _ _ V (hI.out V hV).1)
  clear hV
  cases hfw : fewT (.mk s n l)
  case false =>
    rw [hfw] at hf
    go_wp2_with fail
    refine hf.out.mono ?_
    rintro r V2 ⟨rfl, hV2⟩
    have hfin := Lib.hid ((hI.out V hV'.out).2.2.trans (hV2.mono (hI.out V hV'.out).2.2.size))
    clear q0 q1 q2
    go_wp2_with fail
    go_ret
    exact ⟨ret_bool rfl, hfin.out⟩
  rw [hfw] at hf
  clear hfw
  go_wp2_with fail
  refine hf.out.mono ?_
  rintro r V2 ⟨rfl, hV2⟩
  have h2 := Lib.hid (hV'.out.trans (hV2.mono hV'.out.size))
  clear q0 q1 q2 hf hV2
  go_wp2_with fail
  go_loopw [6] (fun i wr => ∃ k : Nat, k ≤ L.length ∧ i = .int .i64 k ∧ Hid (Below V2.heap.size V2 wr)) (fun i _ => L.length - (intOf i).toNat)
  case atStart => exact ⟨0, by omega, rfl, Below.refl _ _⟩
  case round =>
    obtain ⟨k, hk, rfl, hB⟩ := hrel
    have h5 := Lib.hid (h2.out.trans (hB.out.mono h2.out.size))
    have hI5 := Lib.hid (hI.out wr h5.out)
    by_cases h1 : k < L.length
    · obtain ⟨b, off, rfl, hc⟩ := hI5.out.2.1.fa (by rintro rfl; simp at h1)
      obtain ⟨a2, c2, g0, g1, g2, g3, ge, gn⟩ := hc k h1
      have hf := Lib.hid (r08_Few _ _ wr ge)
      clear hc ge gn
      cases hfw : fewT L[k].ty
      all_goals
        rw [hfw] at hf
        clear hfw
        go_wp2_with fail
        refine hf.out.mono ?_
        rintro r V3 ⟨rfl, hV3⟩
        have hw3 := Lib.hid (hI5.out.2.2.trans (hV3.mono hI5.out.2.2.size))
        have hB3 := Lib.hid (hB.out.trans (hV3.mono hB.out.size))
        clear hV3 g0 g1 g2 g3
      · go_wp2_with fail
        go_ret
        exact ⟨ret_bool rfl, hw3.out⟩
      · go_wp2_with fail
        go_roundw
        case rel => exact ⟨k + 1, by omega, by go_num, hB3.out⟩
        case measure => simp [intOf]; omega
    · obtain ⟨ce, hce⟩ : ∃ c, applyT L (.mk s n l) = c := ⟨_, rfl⟩
      have hce' := Lib.hid hce
      clear hce
      have hCa : Hid (∀ V, (Below W1.heap.size W1 V ∧ V.cell? ⟨w.heap.size, 0, none⟩ = some (.string s) ∧ V.cell? ⟨w.heap.size, 1, none⟩ = some (.int .i64 n) ∧ V.cell? ⟨w.heap.size, 2, none⟩ = some (.slice a1 l.length c1)) → Calls Tryd.prog 22 #[.slice aL L.length cL, .agg #[.string s, .int .i64 n, .slice a1 l.length c1]] V fun r V' => ∃ ua uc, r = .returned (.agg #[.string ce.name, .int .i64 ce.n, .slice ua ce.args.length uc]) ∧ IsTy V' (.agg #[.string ce.name, .int .i64 ce.n, .slice ua ce.args.length uc]) ce ∧ (Below W1.heap.size W1 V' ∧ V'.cell? ⟨w.heap.size, 0, none⟩ = some (.string s) ∧ V'.cell? ⟨w.heap.size, 1, none⟩ = some (.int .i64 n) ∧ V'.cell? ⟨w.heap.size, 2, none⟩ = some (.slice a1 l.length c1)) ∧ Hid (Below V.heap.size V V')) := by
        intro V hV
        have hi := hI.out V hV.1
        refine (ty_Apply aL cL L _ _ V hLl'.out hi.2.1 hi.1).mono ?_
        rintro r V' ⟨u, rfl, hu, hB⟩
        rw [hce'.out] at hu
        obtain ⟨ua, uc, rfl⟩ := hu.form
        exact ⟨ua, uc, rfl, hu, hS.out _ (hV.1.trans (hB.mono hV.1.size)), hB⟩
      have hRa : Hid (∀ V, (Below W1.heap.size W1 V ∧ V.cell? ⟨w.heap.size, 0, none⟩ = some (.string s) ∧ V.cell? ⟨w.heap.size, 1, none⟩ = some (.int .i64 n) ∧ V.cell? ⟨w.heap.size, 2, none⟩ = some (.slice a1 l.length c1)) → Calls Tryd.prog 23 #[.slice aL L.length cL, .agg #[.string s, .int .i64 n, .slice a1 l.length c1]] V fun r V' => ∃ ua uc, r = .returned (.agg #[.string ce.name, .int .i64 ce.n, .slice ua ce.args.length uc]) ∧ IsTy V' (.agg #[.string ce.name, .int .i64 ce.n, .slice ua ce.args.length uc]) ce ∧ (Below W1.heap.size W1 V' ∧ V'.cell? ⟨w.heap.size, 0, none⟩ = some (.string s) ∧ V'.cell? ⟨w.heap.size, 1, none⟩ = some (.int .i64 n) ∧ V'.cell? ⟨w.heap.size, 2, none⟩ = some (.slice a1 l.length c1)) ∧ Hid (Below V.heap.size V V')) := by
        intro V hV
        have hi := hI.out V hV.1
        refine (r08_Apply aL cL L _ _ V hLl'.out hi.2.1 hi.1).mono ?_
        rintro r V' ⟨u, rfl, hu, hB⟩
        rw [hce'.out] at hu
        obtain ⟨ua, uc, rfl⟩ := hu.form
        exact ⟨ua, uc, rfl, hu, hS.out _ (hV.1.trans (hB.mono hV.1.size)), hB⟩
      have hSm : Hid (∀ V a c a' c', (Below W1.heap.size W1 V ∧ V.cell? ⟨w.heap.size, 0, none⟩ = some (.string s) ∧ V.cell? ⟨w.heap.size, 1, none⟩ = some (.int .i64 n) ∧ V.cell? ⟨w.heap.size, 2, none⟩ = some (.slice a1 l.length c1)) → IsTy V (.agg #[.string ce.name, .int .i64 ce.n, .slice a ce.args.length c]) ce → IsTy V (.agg #[.string ce.name, .int .i64 ce.n, .slice a' ce.args.length c']) ce → Calls Tryd.prog 17 #[.agg #[.string ce.name, .int .i64 ce.n, .slice a ce.args.length c], .agg #[.string ce.name, .int .i64 ce.n, .slice a' ce.args.length c']] V fun r V' => r = .returned (.bool true) ∧ (Below W1.heap.size W1 V' ∧ V'.cell? ⟨w.heap.size, 0, none⟩ = some (.string s) ∧ V'.cell? ⟨w.heap.size, 1, none⟩ = some (.int .i64 n) ∧ V'.cell? ⟨w.heap.size, 2, none⟩ = some (.slice a1 l.length c1))) := by
        intro V a c a' c' hV hu hu'
        refine (r08_Same ce ce _ _ V hu hu').mono ?_
        rintro r V' ⟨hr, hB⟩
        rw [eqB_true rfl] at hr
        exact ⟨hr, hS.out _ (hV.1.trans (hB.mono hV.1.size))⟩
      have hst := Lib.hid (hS.out _ h5.out)
      have hdr := Lib.hid (hS.out _ h5.out.drew)
      obtain ⟨_, r0, r1, r2⟩ := hst.out
      go_upto_region 9 with (fail)
      go_region_held3 (fun V => Below W1.heap.size W1 V ∧ V.cell? ⟨w.heap.size, 0, none⟩ = some (.string s) ∧ V.cell? ⟨w.heap.size, 1, none⟩ = some (.int .i64 n) ∧ V.cell? ⟨w.heap.size, 2, none⟩ = some (.slice a1 l.length c1)) ((first | exact hdr.out | exact hst.out | assumption))
        (first
          | (go_at_call 22; (with_reducible refine (hCa.out _ (by assumption)).mono ?_); rintro e w7 ⟨ua7, uc7, rfl, hu7, hs7, hB7⟩)
          | (go_at_call 23; (with_reducible refine (hRa.out _ (by assumption)).mono ?_); rintro e w8 ⟨ua8, uc8, rfl, hu8, hs8, hB8⟩; have hu78 := TyX.below hu7 hB8.out)
          | (go_at_call 17; (with_reducible refine (hSm.out _ _ _ _ _ (by assumption) (by assumption) (by assumption)).mono ?_); rintro e w7 ⟨rfl, hs7⟩))
      all_goals
        have hfin := Lib.hid (hI.out _ hs7.1).2.2
        go_wp2_with fail
        go_ret
        exact ⟨ret_bool (by simp), hfin.out⟩
end Go.Proofs.YticjpeefhppjoaaDoor
