/- LexNumbers: a number's digits, with noughts ahead or without, are one token of it; a name, and a constructor, is one of itself. -/
import Derived.Test.YtchdfjihflmloaaDoorLawLexBack
import Derived.Test.YtchdfjihflmloaaDoorLxN
namespace Go.Proofs.YtchdfjihflmloaaDoor
open Go.RowKit

theorem name_alone {s : Str} (h : nameB s = true) : lexA (bS s) = .ok [⟨2, bS s, 0, 1, 1⟩] := lexF_alone (gd_name (by rw [← name_eq]; exact h))
theorem con_alone {s : Str} (h : conB s = true) : lexA (bS s) = .ok [⟨3, bS s, 0, 1, 1⟩] := lexF_alone (gd_con (by rw [← con_eq]; exact h))

set_option maxHeartbeats 8000000 in
set_option maxRecDepth 100000 in
theorem lexNumbers_c (n : Int) (k : Nat) (s : Str) (w : World) (hn63 : n ≤ 9223372036854775807) (hk : k ≤ 255) (hs : s.size ≤ lenMax) (hE : RngOk w) (hM : MaxOk w) :
    Calls Tryd.prog 8 #[.int .i64 n, .int .u8 (k : Int), .string s] w fun e w' => e = .returned (.bool true) ∧ Below w.heap.size w w' := by
  have hcv := fun (w : World) (s : Str) => Lib.run_convert_string_bytes (P := Tryd.prog) w 9 22 5 s Tryd.underlying9 Tryd.underlying22 Tryd.underlying5
  have hup := Lib.hid (law_awake w hE hM)
  unfold lenMax at hs
  by_cases h0 : n < 0
  · go_enter Tryd.func8, Tryd.ntmps8
    go_wp2_with fail
    refine hup.out.mono ?_
    rintro e V ⟨rfl, hB⟩
    go_wp2_with fail
    go_ret
    exact ⟨rfl, hB⟩
  by_cases h1 : 100 < s.size
  · have h1i : (100 : Int) < (s.size : Int) := by omega
    go_enter Tryd.func8, Tryd.ntmps8
    go_wp2_with fail
    refine hup.out.mono ?_
    rintro e V ⟨rfl, hB⟩
    go_wp2_with fail
    go_ret
    exact ⟨rfl, hB⟩
  have h1i : ¬ (100 : Int) < (s.size : Int) := by omega
  obtain ⟨n, rfl⟩ := Int.eq_ofNat_of_zero_le (show 0 ≤ n by omega)
  obtain ⟨z, hz⟩ : ∃ z, k % 100 = z := ⟨_, rfl⟩
  have hzi : (k : Int) % 100 = (z : Int) := by omega
  have hz100 : z < 100 := by omega
  have hE' := Lib.hid hE
  have hM' := Lib.hid hM
  have hst := Lib.hid (DgI.start (n := n) (by unfold maxI; omega))
  clear hE hM hz h0
  go_enter Tryd.func8, Tryd.ntmps8
  go_wp2_with fail
  refine hup.out.mono ?_
  rintro e V ⟨rfl, hB⟩
  have hbV := Lib.hid hB
  clear hB
  go_wp2_with fail
  go_loop [8, 9] (fun s i => ∃ j : Nat, j ≤ z ∧ i = .int .i64 j ∧ s = .string (tS (List.replicate j 48))) (fun _ i => z - (intOf i).toNat)
  case atStart => exact ⟨0, by omega, rfl, rfl⟩
  case round =>
    obtain ⟨j, hj, rfl, rfl⟩ := hrel
    by_cases hlt : j < z
    · have hji : (j : Int) < (z : Int) := by omega
      have hs1 : ¬ 9223372036854775807 < (tS (List.replicate j 48)).size + 1 := by rw [tS_size, List.length_replicate]; omega
      have hap : Hid (Value.string (tS (List.replicate j 48) ++ ⟨#[48]⟩) = Value.string (tS (List.replicate (j + 1) 48))) := by
        unfold Hid
        rw [show (⟨#[48]⟩ : Str) = tS [48] from rfl, tS_app, List.replicate_succ']
      go_wp2_with fail
      refine ⟨⟨j + 1, by omega, by go_num, hap.out⟩, ?_⟩
      simp [intOf]; omega
    · obtain rfl : j = z := by omega
      have hjj : ¬ (j : Int) < (j : Int) := by omega
      go_wp2_with fail
      go_loopw [10, 11] (fun l e W => ∃ (m : Nat) (E : Bs), l = .int .i64 m ∧ e = .string (tS E) ∧ Hid (DgI n m E) ∧ Hid (Below V.heap.size V W) ∧ m ≤ n) (fun l e _ => (intOf l).toNat + (match e with | .string s => if s.size = 0 then 1 else 0 | _ => 0))
      case atStart => exact ⟨n, [], rfl, rfl, hst.out, Below.refl _ _, Nat.le_refl _⟩
      case round =>
        obtain ⟨m, E, rfl, rfl, hD, hbW, hmn⟩ := hrel
        obtain ⟨Wr, rfl⟩ : ∃ W, W = wr := ⟨_, rfl⟩
        by_cases hgo : 0 < m ∨ E = []
        · have hst2 := Lib.hid (hD.out.step hgo)
          have hEl := hD.out.len
          have hcv9 : ∀ W : World, (convert 22 9 (.slice (some ⟨W.heap.size, 0, none⟩) 1 1)).run Tryd.prog (W.alloc (.cells #[.int .u8 (48 + (m : Int) % 10)] 5)) = .ok (.string (tS [digM m])) (W.alloc (.cells #[.int .u8 (48 + (m : Int) % 10)] 5)) := fun W => by
            have e : (48 + (m : Int) % 10) = ((digM m).toNat : Int) := by rw [digM_nat]; omega
            rw [e]
            exact conv_row _ (some ⟨W.heap.size, 0, none⟩) [digM m] 1 (marked_row W [digM m] _ _ rfl)
          have hm63 : (m : Int) ≤ 9223372036854775807 := by omega
          have hs1 : ¬ 9223372036854775807 < (tS [digM m]).size + (tS E).size := by rw [tS_size, tS_size, List.length_singleton]; omega
          have hap : Hid (Value.string (tS [digM m] ++ tS E) = Value.string (tS (digM m :: E))) := by unfold Hid; rw [tS_app]; rfl
          have hb2 : Below V.heap.size V (Wr.alloc (.cells #[.int .u8 (48 + (m : Int) % 10)] 5)) := hbW.out.alloc hbW.out.size _
          have hb2' := Lib.hid hb2
          have hne2 : ¬ (tS (digM m :: E)).size = 0 := by rw [tS_size]; simp
          have hmd : ((m : Int) / 10).toNat < m + (if (tS E).size = 0 then 1 else 0) := by
            rcases hgo with h | h
            · omega
            · subst h
              rw [if_pos (by rfl)]; omega
          have hmd' := Lib.hid hmd
          have hne2' := Lib.hid hne2
          clear hb2 hmd hne2
          by_cases hm0 : 0 < m
          · have hmi : (0 : Int) < (m : Int) := by omega
            go_wp2_with fail
            refine ⟨⟨m / 10, digM m :: E, by rw [Int.natCast_ediv]; rfl, hap.out, hst2.out, hb2'.out, by have := Nat.div_le_self m 10; omega⟩, ?_⟩
            have he : tS [digM m] ++ tS E = tS (digM m :: E) := by rw [tS_app]; rfl
            have h1 := hmd'.out
            have h2 := hne2'.out
            rw [he]
            simp only [intOf, Int.toNat_natCast]
            rw [if_neg h2]
            exact h1
          · have hm00 : m = 0 := by omega
            have hE0 : E = [] := by rcases hgo with h | h; omega; exact h
            have hmi : ¬ (0 : Int) < (m : Int) := by omega
            clear hm00
            subst hE0
            have heq0 : (tS []).toList = ([] : List UInt8) := by rw [toL]; rfl
            go_wp2_with fail
            refine ⟨⟨m / 10, [digM m], by rw [Int.natCast_ediv]; rfl, hap.out, hst2.out, hb2'.out, by have := Nat.div_le_self m 10; omega⟩, ?_⟩
            have he : tS [digM m] ++ tS [] = tS [digM m] := by rw [tS_app]; rfl
            have h1 := hmd'.out
            have h2 := hne2'.out
            rw [he]
            simp only [intOf, Int.toNat_natCast]
            rw [if_neg h2]
            exact h1
        · have hm00 : m = 0 := by omega
          have hEne : E ≠ [] := fun h => hgo (.inr h)
          subst hm00
          have hld := Lib.hid (lex_digits (k := j) hD.out hEne (by unfold maxI; omega))
          have hEl := hD.out.len
          have heq : ((tS E).toList == ([] : List UInt8)) = false := by rw [toL, bS_tS]; simpa using hEne
          have hs1 : ¬ 9223372036854775807 < (tS (List.replicate j 48)).size + (tS E).size := by rw [tS_size, tS_size, List.length_replicate]; omega
          have hTL : (List.replicate j 48 ++ E : Bs).length ≤ 120 := by rw [List.length_append, List.length_replicate]; omega
          obtain ⟨T, hT⟩ : ∃ T, (List.replicate j 48 ++ E : Bs) = T := ⟨_, rfl⟩
          have hap : tS (List.replicate j 48) ++ tS E = tS T := by rw [tS_app, hT]
          rw [hT] at hld hTL
          have hkW := Lib.hid (Keeps.of_below (hbV.out.trans (hbW.out.mono hbV.out.size)))
          have hlc := lex_conv (tS T) Wr (by rw [tS_size]; omega) (hE'.out.keeps hkW.out) (hM'.out.keeps hkW.out)
          rw [show lexA (bS (tS T)) = .ok [⟨1, T, n, 1, 1⟩] from hld.out] at hlc
          have hlc' := Lib.hid hlc
          have hEne' := Lib.hid hEne
          have hT' := Lib.hid hT
          have hgo' := Lib.hid hgo
          clear hlc hEne hT hgo
          go_wp2_with fail
          refine hlc'.out.mono ?_
          rintro e V1 ⟨⟨v, rfl, hv⟩, hB⟩
          have hbV1 := Lib.hid ((hbV.out.trans (hbW.out.mono hbV.out.size)).trans (hB.mono (by have := hbV.out.size; have := hbW.out.size; omega)))
          have hbWV := hbW.out.size
          obtain ⟨a1, c1, rfl⟩ := hv.open
          have hv' := Lib.hid hv
          have hbv0 := hbV.out.size
          have hb0 := Lib.hid (hbV1.out.alloc (show w.heap.size ≤ V1.heap.size from hbV1.out.size) (.cells #[.int .i64 0, .int .i64 0] 26))
          obtain ⟨W1, hW1⟩ : ∃ W, V1.alloc (.cells #[.int .i64 0, .int .i64 0] 26) = W := ⟨_, rfl⟩
          have hv1 := Lib.hid (hv.keeps (Keeps.of_below (show Below V1.heap.size V1 W1 by rw [← hW1]; exact (Below.refl _ _).alloc (Nat.le_refl _) _)))
          have hW1' := Lib.hid hW1
          rw [hW1] at hb0
          clear hW1 hB hv
          go_upto_region 15 with (fail)
          rw [hW1'.out]
          have hkW1 := Lib.hid (Keeps.of_below hb0.out)
          have hlc2 := Lib.hid (lex_conv s W1 (by omega) (hE'.out.keeps hkW1.out) (hM'.out.keeps hkW1.out))
          go_wp2_with fail
          refine hlc2.out.mono ?_
          rintro e V2 ⟨hR, hB⟩
          obtain ⟨a2, n2, c2, us, x2, y2, er2, rfl, hS2, hQ⟩ := LexR_slice hR
          obtain rfl : n2 = us.length := hS2.at.1
          have hbV2 := Lib.hid (hb0.out.trans (hB.mono hb0.out.size))
          obtain ⟨W2, hW2⟩ : ∃ W, V2.alloc (.cells #[.int .i64 x2, .int .i64 y2] 26) = W := ⟨_, rfl⟩
          have hb2 : Below V2.heap.size V2 W2 := by rw [← hW2]; exact (Below.refl _ _).alloc (Nat.le_refl _) _
          have hbW2 := Lib.hid (hbV2.out.trans (hb2.mono hbV2.out.size))
          have hv2 := Lib.hid ((hv1.out.keeps (Keeps.of_below hB)).keeps (Keeps.of_below hb2))
          have hu2 := Lib.hid (hS2.keeps (Keeps.of_below hb2))
          have hW2' := Lib.hid hW2
          have hQ' : Hid ((us, x2, y2, er2) = resQ (lexA (bS s))) := hQ
          clear hW2 hb2 hR hB hS2 hQ
          go_upto_region 16 with (fail)
          rw [hW2'.out]
          obtain ⟨b, off, rfl, hc⟩ := hv2.out.at.2.2.at (by simp)
          obtain ⟨g0, g1, g2, g3, g4⟩ := hc 0 (by simp)
          simp only [List.getElem_cons_zero, Nat.zero_mul, Nat.add_zero] at g0 g1 g2 g3 g4
          have hap' : tS (List.replicate j 48) ++ tS E = tS T := hap
          have h63 : ¬ (9223372036854775807 : Nat) < (n : Nat) := by omega
          clear hc
          go_wp2_with fail
          obtain ⟨bn, hbn⟩ : ∃ b, nameB s = b := ⟨_, rfl⟩
          obtain ⟨bc, hbc⟩ : ∃ b, conB s = b := ⟨_, rfl⟩
          have hnm := fun W => lex_Name s W
          have hcn := fun W => lex_Con s W
          rw [hbn] at hnm
          rw [hbc] at hcn
          have hnm' := Lib.hid hnm
          have hcn' := Lib.hid hcn
          clear hnm hcn g0 g1 g2 g3 g4
          cases bn
          · refine (hnm'.out _).mono ?_
            rintro e V3 ⟨rfl, hB⟩
            have hbV3 := Lib.hid (hbW2.out.trans (hB.mono hbW2.out.size))
            have hu3 := Lib.hid (hu2.out.keeps (Keeps.of_below hB))
            clear hB
            go_wp2_with fail
            refine (hcn'.out _).mono ?_
            rintro e V4 ⟨rfl, hB⟩
            have hbV4 := Lib.hid (hbV3.out.trans (hB.mono hbV3.out.size))
            have hu4 := Lib.hid (hu3.out.keeps (Keeps.of_below hB))
            clear hB
            cases bc
            · go_wp2_with fail
              go_ret
              exact ⟨rfl, hbV4.out⟩
            · rw [con_alone hbc] at hQ'
              obtain ⟨rfl, rfl, rfl, rfl⟩ : us = _ ∧ x2 = 0 ∧ y2 = 0 ∧ er2 = 0 := by simpa [resQ] using hQ'.out
              obtain ⟨b2, off2, rfl, hc2⟩ := hu4.out.at.2.2.at (by simp)
              obtain ⟨m0, m1, _, _, _⟩ := hc2 0 (by simp)
              simp only [List.getElem_cons_zero, Nat.zero_mul, Nat.add_zero] at m0 m1
              have m1' : V4.cell? ⟨b2, off2 + 1, none⟩ = some (.string s) := m1
              have hlen1 : ([(⟨3, bS s, 0, 1, 1⟩ : Tk)] : List Tk).length = 1 := rfl
              rw [hlen1]
              have hCn : Hid (∀ V, (Below V4.heap.size V4 V ∧ V.cell? ⟨b2, off2, none⟩ = some (.int .i64 3) ∧ V.cell? ⟨b2, off2 + 1, none⟩ = some (.string s)) → Calls Tryd.prog 20 #[.string s] V fun r V' => r = .returned (.bool true) ∧ Below V4.heap.size V4 V' ∧ V'.cell? ⟨b2, off2, none⟩ = some (.int .i64 3) ∧ V'.cell? ⟨b2, off2 + 1, none⟩ = some (.string s)) := by
                intro V hV
                refine (hcn'.out V).mono ?_
                rintro r V' ⟨hr, hB⟩
                exact ⟨hr, hV.1.trans (hB.mono hV.1.size), Keeps.of_below hB _ _ hV.2.1, Keeps.of_below hB _ _ hV.2.2⟩
              have hNm : Hid (∀ V, (Below V4.heap.size V4 V ∧ V.cell? ⟨b2, off2, none⟩ = some (.int .i64 3) ∧ V.cell? ⟨b2, off2 + 1, none⟩ = some (.string s)) → Calls Tryd.prog 19 #[.string s] V fun r V' => r = .returned (.bool false) ∧ Below V4.heap.size V4 V' ∧ V'.cell? ⟨b2, off2, none⟩ = some (.int .i64 3) ∧ V'.cell? ⟨b2, off2 + 1, none⟩ = some (.string s)) := by
                intro V hV
                refine (hnm'.out V).mono ?_
                rintro r V' ⟨hr, hB⟩
                exact ⟨hr, hV.1.trans (hB.mono hV.1.size), Keeps.of_below hB _ _ hV.2.1, Keeps.of_below hB _ _ hV.2.2⟩
              have hst3 : Hid (Below V4.heap.size V4 V4 ∧ V4.cell? ⟨b2, off2, none⟩ = some (.int .i64 3) ∧ V4.cell? ⟨b2, off2 + 1, none⟩ = some (.string s)) := ⟨Below.refl _ _, m0, m1'⟩
              have hdr : Hid (Below V4.heap.size V4 V4.drew ∧ V4.drew.cell? ⟨b2, off2, none⟩ = some (.int .i64 3) ∧ V4.drew.cell? ⟨b2, off2 + 1, none⟩ = some (.string s)) := ⟨(Below.refl _ _).drew, m0, m1'⟩
              have hbn' := Lib.hid hbn
              clear m1 hc2 hbn hbc
              go_upto_region 18 with (fail)
              go_region_held3 (fun V => Below V4.heap.size V4 V ∧ V.cell? ⟨b2, off2, none⟩ = some (.int .i64 3) ∧ V.cell? ⟨b2, off2 + 1, none⟩ = some (.string s)) ((first | exact hdr.out | exact hst3.out | assumption))
                (first
                  | (go_at_call 19; (with_reducible refine (hNm.out _ (by assumption)).mono ?_); rintro e w7 ⟨rfl, hs7⟩)
                  | (go_at_call 20; (with_reducible refine (hCn.out _ (by assumption)).mono ?_); rintro e w7 ⟨rfl, hs7⟩))
              all_goals
                have hfin := Lib.hid (hbV4.out.trans (hs7.1.mono hbV4.out.size))
                go_wp2_with fail
                go_ret
                exact ⟨ret_bool (by simp), hfin.out⟩
          · have hbcf : bc = false := by
              have := (one_kind (bS s)).2.2
              rw [← name_eq, ← con_eq, hbn, hbc] at this
              cases bc
              · rfl
              · exact absurd ⟨rfl, rfl⟩ this
            subst hbcf
            refine (hnm'.out _).mono ?_
            rintro e V3 ⟨rfl, hB⟩
            have hbV3 := Lib.hid (hbW2.out.trans (hB.mono hbW2.out.size))
            have hu3 := Lib.hid (hu2.out.keeps (Keeps.of_below hB))
            clear hB
            rw [name_alone hbn] at hQ'
            obtain ⟨rfl, rfl, rfl, rfl⟩ : us = _ ∧ x2 = 0 ∧ y2 = 0 ∧ er2 = 0 := by simpa [resQ] using hQ'.out
            obtain ⟨b2, off2, rfl, hc2⟩ := hu3.out.at.2.2.at (by simp)
            obtain ⟨m0, m1, _, _, _⟩ := hc2 0 (by simp)
            simp only [List.getElem_cons_zero, Nat.zero_mul, Nat.add_zero] at m0 m1
            have m1' : V3.cell? ⟨b2, off2 + 1, none⟩ = some (.string s) := m1
            have hlen1 : ([(⟨2, bS s, 0, 1, 1⟩ : Tk)] : List Tk).length = 1 := rfl
            rw [hlen1]
            have hCn : Hid (∀ V, (Below V3.heap.size V3 V ∧ V.cell? ⟨b2, off2, none⟩ = some (.int .i64 2) ∧ V.cell? ⟨b2, off2 + 1, none⟩ = some (.string s)) → Calls Tryd.prog 20 #[.string s] V fun r V' => r = .returned (.bool false) ∧ Below V3.heap.size V3 V' ∧ V'.cell? ⟨b2, off2, none⟩ = some (.int .i64 2) ∧ V'.cell? ⟨b2, off2 + 1, none⟩ = some (.string s)) := by
              intro V hV
              refine (hcn'.out V).mono ?_
              rintro r V' ⟨hr, hB⟩
              exact ⟨hr, hV.1.trans (hB.mono hV.1.size), Keeps.of_below hB _ _ hV.2.1, Keeps.of_below hB _ _ hV.2.2⟩
            have hNm : Hid (∀ V, (Below V3.heap.size V3 V ∧ V.cell? ⟨b2, off2, none⟩ = some (.int .i64 2) ∧ V.cell? ⟨b2, off2 + 1, none⟩ = some (.string s)) → Calls Tryd.prog 19 #[.string s] V fun r V' => r = .returned (.bool true) ∧ Below V3.heap.size V3 V' ∧ V'.cell? ⟨b2, off2, none⟩ = some (.int .i64 2) ∧ V'.cell? ⟨b2, off2 + 1, none⟩ = some (.string s)) := by
              intro V hV
              refine (hnm'.out V).mono ?_
              rintro r V' ⟨hr, hB⟩
              exact ⟨hr, hV.1.trans (hB.mono hV.1.size), Keeps.of_below hB _ _ hV.2.1, Keeps.of_below hB _ _ hV.2.2⟩
            have hst3 : Hid (Below V3.heap.size V3 V3 ∧ V3.cell? ⟨b2, off2, none⟩ = some (.int .i64 2) ∧ V3.cell? ⟨b2, off2 + 1, none⟩ = some (.string s)) := ⟨Below.refl _ _, m0, m1'⟩
            have hdr : Hid (Below V3.heap.size V3 V3.drew ∧ V3.drew.cell? ⟨b2, off2, none⟩ = some (.int .i64 2) ∧ V3.drew.cell? ⟨b2, off2 + 1, none⟩ = some (.string s)) := ⟨(Below.refl _ _).drew, m0, m1'⟩
            have hbn' := Lib.hid hbn
            clear m1 hc2 hbn hbc
            go_upto_region 18 with (fail)
            go_region_held3 (fun V => Below V3.heap.size V3 V ∧ V.cell? ⟨b2, off2, none⟩ = some (.int .i64 2) ∧ V.cell? ⟨b2, off2 + 1, none⟩ = some (.string s)) ((first | exact hdr.out | exact hst3.out | assumption))
              (first
                | (go_at_call 19; (with_reducible refine (hNm.out _ (by assumption)).mono ?_); rintro e w7 ⟨rfl, hs7⟩)
                | (go_at_call 20; (with_reducible refine (hCn.out _ (by assumption)).mono ?_); rintro e w7 ⟨rfl, hs7⟩))
            all_goals
              have hfin := Lib.hid (hbV3.out.trans (hs7.1.mono hbV3.out.size))
              go_wp2_with fail
              go_ret
              exact ⟨ret_bool (by simp), hfin.out⟩
end Go.Proofs.YtchdfjihflmloaaDoor
