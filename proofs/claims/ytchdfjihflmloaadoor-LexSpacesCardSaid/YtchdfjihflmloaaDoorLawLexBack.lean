/- LexBack: a text of tokens that Lex made has the same ones. -/
import Derived.Test.YtchdfjihflmloaaDoorLawLexTells
import Derived.Test.YtchdfjihflmloaaDoorLxG
namespace Go.Proofs.YtchdfjihflmloaaDoor
open Go.RowKit

/-- Lex at a text's bytes. -/
theorem lex_conv (s : Str) (w : World) (hs : s.size ≤ 1000000) (hE : RngOk w) (hM : MaxOk w) : Calls Tryd.prog 15 #[.slice (some ⟨w.heap.size, 0, none⟩) s.size (grownCap w s.size 0 5)] (Lib.bytesWorld w 5 s) fun r w' => LexR (lexA (bS s)) r w' ∧ Below w.heap.size w w' := by
  have hb := below_bytesWorld w 5 s
  have hk := Keeps.of_below hb
  have hr := byteRow_bytesWorld w 5 s
  rw [toL] at hr
  have hm : grownCap w s.size 0 5 ≤ maxLen := grownCap_le_maxLen _ _ _ _ (by unfold maxLen; omega)
  unfold maxLen at hm
  refine (lex_Lex _ (bS s) (grownCap w s.size 0 5) _ (by rw [bS_len]; omega) (by rw [bS_len]; exact grownCap_ge _ _ _ _) hm (fun h => by cases h) hr (hE.keeps hk) (hM.keeps hk)).mono ?_
  rintro r w' ⟨h1, h2⟩
  exact ⟨h1, hb.trans (h2.mono hb.size)⟩

set_option maxHeartbeats 4000000 in
set_option maxRecDepth 100000 in
theorem lexBack_c (a : Option Addr) (l : Bs) (cap : Nat) (w : World) (hc : l.length ≤ cap) (hc63 : cap ≤ 9223372036854775807) (ha : a = none → cap = 0) (hr : ByteRow w a l) (hE : RngOk w) (hM : MaxOk w) :
    Calls Tryd.prog 5 #[.slice a l.length cap] w fun e w' => e = .returned (.bool true) ∧ Below w.heap.size w w' := by
  have hcv := fun (w : World) (s : Str) => Lib.run_convert_string_bytes (P := Tryd.prog) w 9 22 5 s Tryd.underlying9 Tryd.underlying22 Tryd.underlying5
  have hup := Lib.hid (law_awake w hE hM)
  by_cases h5 : 5000 < l.length
  · have h5i : (5000 : Int) < (l.length : Int) := by omega
    go_enter Tryd.func5, Tryd.ntmps5
    go_wp2_with fail
    refine hup.out.mono ?_
    rintro e V ⟨rfl, hB⟩
    go_wp2_with fail
    go_ret
    exact ⟨rfl, hB⟩
  · have h5i : ¬ (5000 : Int) < (l.length : Int) := by omega
    have hl5 : l.length ≤ 5000 := by omega
    have hr' := Lib.hid hr
    have hE' := Lib.hid hE
    have hM' := Lib.hid hM
    clear hr hE hM
    go_enter Tryd.func5, Tryd.ntmps5
    go_wp2_with fail
    refine hup.out.mono ?_
    rintro e V ⟨rfl, hB⟩
    have hbV := Lib.hid hB
    have hkV := Lib.hid (Keeps.of_below hB)
    clear hB
    go_wp2_with fail
    refine (lex_Lex a l cap V (by omega) hc hc63 ha (hr'.out.keeps hkV.out) (hE'.out.keeps hkV.out) (hM'.out.keeps hkV.out)).mono ?_
    rintro e V1 ⟨hR, hB⟩
    have hbV1 := Lib.hid (hbV.out.trans (hB.mono hbV.out.size))
    clear hB
    cases hA : lexA l with
    | bad x y =>
      rw [hA] at hR
      obtain rfl : e = _ := hR
      obtain ⟨W1, hW1⟩ : ∃ W, V1.alloc (.cells #[.int .i64 x, .int .i64 y] 26) = W := ⟨_, rfl⟩
      have hb1 : Below V1.heap.size V1 W1 := by rw [← hW1]; exact (Below.refl _ _).alloc (Nat.le_refl _) _
      have hbW1 := Lib.hid (hbV1.out.trans (hb1.mono hbV1.out.size))
      have htx := Lib.hid (lex_Text _ [] W1 (TkSl.nil _) (by simp) (by simp [textL, joinL]))
      clear hA hb1
      go_upto_region 5 with (fail)
      clear hW1
      go_wp2_with fail
      refine htx.out.mono ?_
      rintro e V2 ⟨rfl, hB⟩
      have hbV2 := Lib.hid (hbW1.out.trans (hB.mono hbW1.out.size))
      have hkV2 := Lib.hid (Keeps.of_below hbV2.out)
      clear hB
      have hlc := lex_conv (tS (textL [])) V2 (by rw [tS_size]; simp [textL, joinL]) (hE'.out.keeps hkV2.out) (hM'.out.keeps hkV2.out)
      have hA0 : lexA (bS (tS (textL []))) = .ok [] := by show lexF 1 1 0 [] = _; rw [lexF_nil]
      rw [hA0] at hlc
      obtain ⟨S, hS⟩ : ∃ S, tS (textL []) = S := ⟨_, rfl⟩
      rw [hS] at hlc ⊢
      have hlc' := Lib.hid hlc
      clear hlc hA0 hS
      go_wp2_with fail
      refine hlc'.out.mono ?_
      rintro e V3 ⟨⟨v, rfl, hv⟩, hB⟩
      have hbV3 := Lib.hid (hbV2.out.trans (hB.mono hbV2.out.size))
      obtain ⟨a3, c3, rfl⟩ := hv.open
      clear hB hv
      go_wp2_with fail
      go_ret
      exact ⟨rfl, hbV3.out.alloc (by have := hbV3.out.size; omega) _⟩
    | ok ts =>
      rw [hA] at hR
      obtain ⟨v, rfl, hv⟩ := hR
      obtain ⟨a1, c1, rfl⟩ := hv.open
      have hts : ts.length ≤ 2000 := lexA_len hA
      have hbd := lexF_bd l.length l 1 1 0 ts (Nat.le_refl _) (by omega) hA
      have hch := lexF_chain l.length l 1 1 0 ts (Nat.le_refl _) hA
      obtain ⟨ms, hms, hsm, hln⟩ := lexF_back (fun t ht => lexF_gd l.length l 1 1 0 ts (Nat.le_refl _) hA t ht) hts
      have hsa := sameT_at hsm
      have htl : (textL ts).length ≤ 1000000 := by have := join_sum ts; unfold textL; have := hbd.1; omega
      obtain ⟨W1, hW1⟩ : ∃ W, V1.alloc (.cells #[.int .i64 0, .int .i64 0] 26) = W := ⟨_, rfl⟩
      have hb1 : Below V1.heap.size V1 W1 := by rw [← hW1]; exact (Below.refl _ _).alloc (Nat.le_refl _) _
      have hbW1 := Lib.hid (hbV1.out.trans (hb1.mono hbV1.out.size))
      have hv1 := Lib.hid (hv.keeps (Keeps.of_below hb1))
      have htx := Lib.hid (lex_Text _ ts W1 hv1.out (by omega) htl)
      have hbd' := Lib.hid hbd
      have hch' := Lib.hid hch
      have hms' := Lib.hid hms
      have hsa' := Lib.hid hsa
      have hln' := Lib.hid hln
      have htl' := Lib.hid htl
      have hW1' := Lib.hid hW1
      clear hW1 hA hb1 hbd hch hms hsm hsa hln hv htl
      go_upto_region 5 with (fail)
      rw [hW1'.out]
      go_wp2_with fail
      refine htx.out.mono ?_
      rintro e V2 ⟨rfl, hB⟩
      have hbV2 := Lib.hid (hbW1.out.trans (hB.mono hbW1.out.size))
      have hkV2 := Lib.hid (Keeps.of_below hbV2.out)
      have hv2 := Lib.hid (hv1.out.keeps (Keeps.of_below hB))
      clear hB
      have hlc := lex_conv (tS (textL ts)) V2 (by rw [tS_size]; exact htl'.out) (hE'.out.keeps hkV2.out) (hM'.out.keeps hkV2.out)
      have hA0 : lexA (bS (tS (textL ts))) = .ok ms := hms'.out
      rw [hA0] at hlc
      obtain ⟨S, hS⟩ : ∃ S, tS (textL ts) = S := ⟨_, rfl⟩
      rw [hS] at hlc ⊢
      have hlc' := Lib.hid hlc
      clear hlc hA0 hS
      go_wp2_with fail
      refine hlc'.out.mono ?_
      rintro e V3 ⟨⟨v, rfl, hv⟩, hB⟩
      have hbV3 := Lib.hid (hbV2.out.trans (hB.mono hbV2.out.size))
      have hv3 := Lib.hid (hv2.out.keeps (Keeps.of_below hB))
      obtain ⟨a3, c3, rfl⟩ := hv.open
      obtain ⟨W4, hW4⟩ : ∃ W, V3.alloc (.cells #[.int .i64 0, .int .i64 0] 26) = W := ⟨_, rfl⟩
      have hb4 : Below V3.heap.size V3 W4 := by rw [← hW4]; exact (Below.refl _ _).alloc (Nat.le_refl _) _
      have hbW4 := Lib.hid (hbV3.out.trans (hb4.mono hbV3.out.size))
      have hvm := Lib.hid (hv.keeps (Keeps.of_below hb4))
      have hvt := Lib.hid (hv3.out.keeps (Keeps.of_below hb4))
      have hW4' := Lib.hid hW4
      clear hW4 hB hv hb4
      rw [hsa'.out.1]
      go_upto_region 6 with (fail)
      rw [hW4'.out]
      go_wp2_with fail
      go_loopw [10] (fun i W => ∃ k : Nat, k ≤ ts.length ∧ i = .int .i64 k ∧ Hid (Below W4.heap.size W4 W)) (fun i _ => ts.length - (intOf i).toNat)
      case atStart => exact ⟨0, by omega, rfl, Below.refl _ _⟩
      case round =>
        obtain ⟨k, hk, rfl, hn⟩ := hrel
        obtain ⟨Wr, rfl⟩ : ∃ W, W = wr := ⟨_, rfl⟩
        have hb4 := hn.out
        by_cases h1 : k < ts.length
        · have hkm : k < ms.length := by rw [hsa'.out.1]; exact h1
          obtain ⟨s1, s2, s3⟩ := hsa'.out.2 k hkm h1
          have s4 := hln'.out ms[k] (List.getElem_mem hkm)
          obtain ⟨b, off, rfl, hcT⟩ := (hvt.out.keeps (Keeps.of_below hb4)).at.2.2.at (by rintro rfl; simp at h1)
          have hvm2 := hvm.out.keeps (Keeps.of_below hb4)
          rw [hsa'.out.1] at hvm2
          obtain ⟨b2, off2, rfl, hcM⟩ := (hvm.out.keeps (Keeps.of_below hb4)).at.2.2.at (by intro e; rw [e] at hkm; simp at hkm)
          obtain ⟨g0, g1, g2, g3, g4⟩ := hcT k h1
          obtain ⟨m0, m1, m2, m3, m4⟩ := hcM k hkm
          rw [s1] at m0
          rw [s2] at m1
          rw [s3] at m2
          rw [s4] at m3
          have hb5 := hbd'.out.2 ts[k] (List.getElem_mem h1)
          have hki : (k : Int) < (ts.length : Int) := by omega
          have hne0 : ((ts[k].text.length : Int) == 0) = false := beq_eq_false_iff_ne.2 (by omega)
          have hsz : (tS ts[k].text).size = ts[k].text.length := rfl
          clear s1 s2 s3 s4 hvm2 hcM m4
          go_wp2_with fail
          go_quiet (fail)
          clear m0 m1 m2 m3 g0 hne0
          by_cases h0 : k = 0
          · subst h0
            have h00 : ¬ (0 : Int) < ((0 : Nat) : Int) := by omega
            go_wp2_with fail
            go_quiet (fail)
            go_wp2_with fail
            go_roundw
            case rel => exact ⟨0 + 1, by omega, by go_num, by first | exact below_drewN' hn.out _ | exact below_drewN' (below_drewN' hn.out _) _⟩
            case measure => simp [intOf]; omega
          · obtain ⟨q, hq⟩ : ∃ q, k = q + 1 := ⟨k - 1, by omega⟩
            have hq1 : q < ts.length := by omega
            obtain ⟨q0, q1, q2, q3, q4⟩ := hcT q hq1
            have hbq := hbd'.out.2 ts[q] (List.getElem_mem hq1)
            have hke : ts[q + 1]'(by omega) = ts[k] := by congr 1; omega
            have hchq : ts[q].line < ts[k].line ∨ ts[q].line = ts[k].line ∧ ts[q].col + ts[q].text.length ≤ ts[k].col := by
              have := hch'.out.at q (by omega)
              rw [hke] at this
              exact this
            have hk0 : (0 : Int) < (k : Int) := by omega
            have hk0d : decide (0 < k) = true := decide_eq_true (by omega)
            have hqi : (q : Int) < (ts.length : Int) := by omega
            have e1 : IntKind.i64.wrap ((k : Int) - 1) = (q : Int) := by rw [IntWalk.i64_in _ (by omega)]; omega
            have e2 : wrap64 ((k : Int) - 1) = (q : Int) := by rw [(IntWalk.i64_left _).symm, e1]
            have e3 : (k : Int) - 1 = (q : Int) := by omega
            have hszq : (tS ts[q].text).size = ts[q].text.length := rfl
            have hbq1 : 1 ≤ ts[q].col := hbq.2.2.1
            have hbq2 : ts[q].col + (ts[q].text.length : Int) ≤ 5001 := by have := hbq.2.2.2.1; omega
            have hq' := Lib.hid hq
            clear hq hke hbq q0 q2 hcT
            rcases hchq with hlt | ⟨heq, hle⟩
            · have t1 : decide (ts[k].line < ts[q].line) = false := decide_eq_false (by omega)
              have t2 : (ts[q].line == ts[k].line) = false := beq_eq_false_iff_ne.2 (by omega)
              clear hlt
              go_wp2_with fail
              go_quiet (fail)
              go_wp2_with fail
              go_roundw
              case rel => exact ⟨k + 1, by omega, by go_num, by first | exact below_drewN' hn.out _ | exact below_drewN' (below_drewN' hn.out _) _⟩
              case measure => simp [intOf]; omega
            · have t1 : ¬ ts[k].line < ts[k].line := by omega
              have t3 : ¬ ts[k].col < ts[q].col + (ts[q].text.length : Int) := by omega
              rw [heq] at q3
              clear heq
              go_wp2_with fail
              go_quiet (fail)
              go_wp2_with fail
              go_roundw
              case rel => exact ⟨k + 1, by omega, by go_num, by first | exact below_drewN' hn.out _ | exact below_drewN' (below_drewN' hn.out _) _⟩
              case measure => simp [intOf]; omega
        · go_wp2_with fail
          go_ret
          exact ⟨rfl, hbW4.out.trans (hb4.mono hbW4.out.size)⟩
end Go.Proofs.YtchdfjihflmloaaDoor
