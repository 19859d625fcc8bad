/- LexSpaces: tokens, each with as many gaps behind as one likes, are the same ones. -/
import Derived.Test.YtchdfjihflmloaaDoorLawLexGaps
import Derived.Test.YtchdfjihflmloaaDoorLxS
namespace Go.Proofs.YtchdfjihflmloaaDoor
open Go.RowKit

set_option maxHeartbeats 8000000 in
set_option maxRecDepth 100000 in
theorem lexSpaces_c (a : Option Addr) (l : Bs) (cap : Nat) (a' : Option Addr) (gs : Bs) (cap' : Nat) (w : World) (hc : l.length ≤ cap) (hc63 : cap ≤ 9223372036854775807) (ha : a = none → cap = 0) (hr : ByteRow w a l)
    (hgl : gs.length ≤ lenMax) (hr' : ByteRow w a' gs) (hE : RngOk w) (hM : MaxOk w) :
    Calls Tryd.prog 9 #[.slice a l.length cap, .slice a' gs.length cap'] w fun e w' => e = .returned (.bool true) ∧ Below w.heap.size w w' := by
  have hcv := fun (w : World) (s : Str) => Lib.run_convert_string_bytes (P := Tryd.prog) w 9 22 5 s Tryd.underlying9 Tryd.underlying22 Tryd.underlying5
  have hup := Lib.hid (law_awake w hE hM)
  unfold lenMax at hgl
  by_cases h5 : 2000 < l.length
  · have h5i : (2000 : Int) < (l.length : Int) := by omega
    go_enter Tryd.func9, Tryd.ntmps9
    go_wp2_with fail
    refine hup.out.mono ?_
    rintro e V ⟨rfl, hB⟩
    go_wp2_with fail
    go_ret
    exact ⟨rfl, hB⟩
  have h5i : ¬ (2000 : Int) < (l.length : Int) := by omega
  by_cases h6 : gs = []
  · subst h6
    go_enter Tryd.func9, Tryd.ntmps9
    go_wp2_with fail
    refine hup.out.mono ?_
    rintro e V ⟨rfl, hB⟩
    go_wp2_with fail
    go_ret
    exact ⟨rfl, hB⟩
  have h6l : 0 < gs.length := List.length_pos_iff.2 h6
  have h6i : ((gs.length : Int) == 0) = false := beq_eq_false_iff_ne.2 (by omega)
  by_cases h7 : 100 < gs.length
  · have h7i : (100 : Int) < (gs.length : Int) := by omega
    clear h6
    go_enter Tryd.func9, Tryd.ntmps9
    go_wp2_with fail
    refine hup.out.mono ?_
    rintro e V ⟨rfl, hB⟩
    go_wp2_with fail
    go_ret
    exact ⟨rfl, hB⟩
  have h7i : ¬ (100 : Int) < (gs.length : Int) := by omega
  have hr1 := Lib.hid hr
  have hr2 := Lib.hid hr'
  have hE' := Lib.hid hE
  have hM' := Lib.hid hM
  clear hr hr' hE hM h6
  go_enter Tryd.func9, Tryd.ntmps9
  go_wp2_with fail
  refine hup.out.mono ?_
  rintro e V ⟨rfl, hB⟩
  have hbV := Lib.hid hB
  have hkV := Lib.hid (Keeps.of_below hB)
  clear hB
  go_wp2_with fail
  refine (lex_Lex a l cap V (by omega) hc hc63 ha (hr1.out.keeps hkV.out) (hE'.out.keeps hkV.out) (hM'.out.keeps hkV.out)).mono ?_
  rintro e V1 ⟨hR, hB⟩
  have hbV1 := Lib.hid (hbV.out.trans (hB.mono hbV.out.size))
  cases hA : lexA l with
  | bad x y =>
    rw [hA] at hR
    obtain rfl : e = _ := hR
    have hfin := Lib.hid (hbV1.out.alloc hbV1.out.size (.cells #[.int .i64 x, .int .i64 y] 26))
    clear hB hA
    go_wp2_with fail
    go_ret
    exact ⟨rfl, hfin.out⟩
  | ok ts =>
    rw [hA] at hR
    obtain ⟨v, rfl, hv⟩ := hR
    obtain ⟨a1, c1, rfl⟩ := hv.open
    have hts : ts.length ≤ 2000 := lexA_len hA
    have hbd := lexF_bd l.length l 1 1 0 ts (Nat.le_refl _) (by omega) hA
    obtain ⟨g, hg⟩ : ∃ g : Nat → UInt8, ∀ i, g i = gs[i % gs.length]'(Nat.mod_lt _ h6l) := ⟨fun i => gs[i % gs.length]'(Nat.mod_lt _ h6l), fun _ => rfl⟩
    obtain ⟨ms, hms, hsm, _⟩ := lexF_spaced (psG g 0 ts) 1 1 0 (fun p hp => by
      have : p.1 ∈ (psG g 0 ts).map (·.1) := List.mem_map_of_mem hp
      rw [psG_fst] at this
      exact lexF_gd l.length l 1 1 0 ts (Nat.le_refl _) hA _ this) (psG_ok g ts 0) (by rw [psG_len]; omega)
    rw [psG_fst] at hsm
    have hsa := Lib.hid (sameT_at hsm)
    have hms' : Hid (lexA (spG g ts) = .ok ms) := hms
    have hsz := fun k => spG_take g ts k
    have hsum := hbd.1
    have hsz' := Lib.hid hsz
    have htx : Hid (∀ i (h : i < ts.length), ts[i].text.length ≤ 2001) := fun i h => by
      have := hbd.2 ts[i] (List.getElem_mem h)
      omega
    obtain ⟨W1, hW1⟩ : ∃ W, V1.alloc (.cells #[.int .i64 0, .int .i64 0] 26) = W := ⟨_, rfl⟩
    have hb1 : Below V1.heap.size V1 W1 := by rw [← hW1]; exact (Below.refl _ _).alloc (Nat.le_refl _) _
    have hbW1 := Lib.hid (hbV1.out.trans (hb1.mono hbV1.out.size))
    have hv1 := Lib.hid (hv.keeps (Keeps.of_below hb1)).at.2.2
    have hW1' := Lib.hid hW1
    have hg' := Lib.hid hg
    clear hW1 hb1 hB hv hA hbd hms hsm hsz hg
    go_upto_region 5 with (fail)
    rw [hW1'.out]
    go_wp2_with fail
    go_loopw [9, 10] (fun v i W => ∃ (k : Nat) (va : Option Addr) (vn vc : Nat), k ≤ ts.length ∧ i = .int .i64 k ∧ v = .slice va vn vc ∧ Hid (vn = (spG g (ts.take k)).length) ∧ Hid (OwnB W1.heap.size W (.slice va vn vc) (spG g (ts.take k))) ∧ Hid (Below W1.heap.size W1 W)) (fun _ i _ => ts.length - (intOf i).toNat)
    case atStart => exact ⟨0, none, 0, 0, by omega, rfl, rfl, rfl, OwnB.nil _ _, Below.refl _ _⟩
    case round =>
      obtain ⟨k, va, vn, vc, hk, rfl, rfl, hvn, hown, hbW⟩ := hrel
      obtain ⟨Wr, rfl⟩ : ∃ W, W = wr := ⟨_, rfl⟩
      by_cases h1 : k < ts.length
      · have hki : (k : Int) < (ts.length : Int) := by omega
        obtain ⟨b, off, rfl, hcT⟩ := (hv1.out.keeps (Keeps.of_below hbW.out)).at (by rintro rfl; simp at h1)
        obtain ⟨g0, g1, g2, g3, g4⟩ := hcT k h1
        have hzW := hbW.out.size
        have hb2 := Lib.hid (below_bytesWorld Wr 5 (tS ts[k].text))
        have hown2 := Lib.hid (hown.out.below hb2.out)
        have hb2' := Lib.hid (hbW.out.trans (hb2.out.mono hzW))
        have hz2 := hb2'.out.size
        have hro := byteRow_bytesWorld Wr 5 (tS ts[k].text)
        rw [toL, bS_tS] at hro
        have hro' := Lib.hid hro
        have hlt := htx.out k h1
        have hs1 := hsz'.out k
        have hsz1 : (tS ts[k].text).size = ts[k].text.length := rfl
        clear hro hcT
        go_wp2_with (first
          | (at_builtin; refine wpList_append_bytes rfl (Operand.tmp 51) (Operand.tmp 57) rfl W1.heap.size _ _ rfl hown2.out (some ⟨Wr.heap.size, 0, none⟩) ts[k].text.length _ ts[k].text rfl rfl (fun h => by cases h) hro'.out (by omega) hz2 ?_; intro v3 w3 hown3 hg3; have hb3 := Lib.hid (hb2'.out.grown hg3 hz2 (fun q e => (ownBlock_ge hown2.out e).1)); have hz3 := hb3.out.size; have hb4 : Below w3.heap.size w3 (w3.alloc (.cells #[.int .u8 32] 5)) := (Below.refl _ _).alloc (Nat.le_refl _) _; have hb4' := Lib.hid (hb3.out.trans (hb4.mono hz3)); have hz4 := hb4'.out.size; obtain ⟨va3, vc3, rfl, _⟩ := hown3.form; have hown4 : Hid (OwnB W1.heap.size (w3.alloc (.cells #[.int .u8 32] 5)) (.slice va3 ((spG g (ts.take k)).length + ts[k].text.length) vc3) (spG g (ts.take k) ++ ts[k].text)) := (by have h := hown3.below hb4; rw [List.length_append] at h; exact h); clear hown3 hg3 hb4)
          | (at_builtin; go_must (refine wpList_append_bytes rfl (Operand.tmp 59) (Operand.tmp 60) rfl W1.heap.size _ _ rfl hown4.out (some ⟨w3.heap.size, 0, none⟩) 1 1 [32] rfl rfl (fun h => by cases h) (marked_row w3 [32] _ _ rfl) (by simp; omega) hz4 ?_); intro v5 w5 hown5 hg5; have hb5 := Lib.hid (hb4'.out.grown hg5 hz4 (fun q e => (ownBlock_ge hown4.out e).1)); obtain ⟨va5, vc5, rfl, _⟩ := hown5.form; have hown5' := Lib.hid hown5; clear hown5 hg5))
        obtain ⟨q, hq⟩ : ∃ q, k % gs.length = q := ⟨_, rfl⟩
        have hql : q < gs.length := by rw [← hq]; exact Nat.mod_lt _ h6l
        have hqi : (k : Int) % (gs.length : Int) = (q : Int) := by rw [← hq]; omega
        have hqg : (q : Int) < (gs.length : Int) := by omega
        obtain ⟨b2, off2, rfl, hcG⟩ : ∃ b off, a' = some ⟨b, off, none⟩ ∧ ∀ i (h : i < gs.length), w.cell? ⟨b, off + i, none⟩ = some (.int .u8 gs[i].toNat) := by
          rcases hr2.out with h | h
          · subst h; simp at h6l
          · exact h
        have hx0 := hcG q hql
        have hgk : Hid (g k = gs[q]) := by
          unfold Hid
          rw [hg'.out k]
          congr 1
        obtain ⟨x, hx⟩ : ∃ x, gs[q] = x := ⟨_, rfl⟩
        rw [hx] at hgk hx0
        obtain ⟨r, hrx⟩ : ∃ r, x.toNat % 4 = r := ⟨_, rfl⟩
        have hri : (x.toNat : Int) % 4 = (r : Int) := by omega
        have hr3 : r ≤ 3 := by omega
        have hx255 : x.toNat ≤ 255 := by have := x.toNat_lt; omega
        have hxx : Hid (∀ W, Below w.heap.size w W → W.cell? ⟨b2, off2 + q, none⟩ = some (.int .u8 x.toNat)) := fun W hW => Keeps.of_below hW _ _ hx0
        have hrx' := Lib.hid hrx
        obtain ⟨c, hcc⟩ : ∃ c : UInt8, (if 99 < x.toNat then 10 else 32) = c := ⟨_, rfl⟩
        have hgx : Hid (gapX (g k) = List.replicate r c) := by unfold Hid; rw [hgk.out, gapX, hrx, hcc]
        have hsucc := Lib.hid (spG_succ g ts k h1)
        obtain ⟨B, hB⟩ : ∃ B, spG g (ts.take k) ++ ts[k].text ++ [32] = B := ⟨_, rfl⟩
        have hBl : B.length ≤ 12100 := by
          rw [← hB]
          simp only [List.length_append, List.length_singleton]
          omega
        have hBn : Hid ((spG g (ts.take k)).length + (ts[k].text.length + 1) = B.length) := by
          unfold Hid
          rw [← hB]
          simp only [List.length_append, List.length_singleton]
          omega
        have hown6 : Hid (∀ n, n = B.length → OwnB W1.heap.size w5 (.slice va5 n vc5) B) := by
          rintro n rfl
          have h := hown5'.out
          rw [hB] at h
          exact h
        have hsucc2 : Hid (spG g (ts.take (k + 1)) = B ++ List.replicate r c) := by unfold Hid; rw [hsucc.out, hgx.out, hB]
        have hbw5 := Lib.hid (hbW1.out.trans (hb5.out.mono hbW1.out.size))
        clear hq hx hrx hB hcG hx0 hlt hs1 g0 g1 g2 g3 g4 hsucc hown4 hown5' hown2 hb2 hb2' hro'
        have hcc' := Lib.hid hcc
        clear hcc
        go_loopw [9, 11] (fun v i W => ∃ (j : Nat) (va : Option Addr) (vn vc : Nat), j ≤ r ∧ i = .int .i64 j ∧ v = .slice va vn vc ∧ Hid (vn = (B ++ List.replicate j c).length) ∧ Hid (OwnB W1.heap.size W (.slice va vn vc) (B ++ List.replicate j c)) ∧ Hid (Below W1.heap.size W1 W)) (fun _ i _ => r - (intOf i).toNat)
        case atStart => exact ⟨0, va5, _, vc5, by omega, rfl, rfl, by unfold Hid; rw [List.replicate_zero, List.append_nil, ← hBn.out], by unfold Hid; rw [List.replicate_zero, List.append_nil]; exact hown6.out _ hBn.out, hb5.out⟩
        case round =>
          obtain ⟨j, va, vn, vc, hj, rfl, rfl, hvn, hown, hbJ⟩ := hrel
          obtain ⟨Wj, rfl⟩ : ∃ W, W = wr := ⟨_, rfl⟩
          have hzJ := hbJ.out.size
          have hx1 := hxx.out Wj (hbW1.out.trans (hbJ.out.mono hbW1.out.size))
          by_cases hjr : j < r
          · have hji : (j : Int) < (r : Int) := by omega
            have hjl : j ≤ 3 := by omega
            by_cases h99 : 99 < x.toNat
            · obtain rfl : c = 10 := by rw [← hcc'.out, if_pos h99]
              have h99i : (99 : Int) < (x.toNat : Int) := by omega
              have hb7 : Below Wj.heap.size Wj (Wj.alloc (.cells #[.int .u8 10] 5)) := (Below.refl _ _).alloc (Nat.le_refl _) _
              have hown7 := Lib.hid (hown.out.below hb7)
              have hb7' := Lib.hid (hbJ.out.trans (hb7.mono hzJ))
              have hz7 := hb7'.out.size
              clear hb7
              go_wp2_with (at_builtin; go_must (refine wpList_append_bytes rfl (Operand.tmp 83) (Operand.tmp 84) rfl W1.heap.size _ _ rfl hown7.out (some ⟨Wj.heap.size, 0, none⟩) 1 1 [10] rfl rfl (fun h => by cases h) (marked_row Wj [10] _ _ rfl) (by simp only [List.length_append, List.length_replicate, List.length_singleton]; omega) hz7 ?_); intro v8 w8 hown8 hg8; have hb8 := Lib.hid (hb7'.out.grown hg8 hz7 (fun q e => (ownBlock_ge hown7.out e).1)); obtain ⟨va8, vc8, rfl, _⟩ := hown8.form; have hown8' := Lib.hid hown8; clear hown8 hg8)
              refine ⟨⟨j + 1, va8, _, vc8, by omega, by go_num, rfl, ?_, ?_, hb8.out⟩, by simp [intOf]; omega⟩
              · unfold Hid
                simp only [List.length_append, List.length_replicate, List.length_singleton]
                try omega
              · have h := hown8'.out
                unfold Hid
                rw [List.replicate_succ', ← List.append_assoc]
                simpa using h
            · obtain rfl : c = 32 := by rw [← hcc'.out, if_neg h99]
              have h99i : ¬ (99 : Int) < (x.toNat : Int) := by omega
              have hb7 : Below Wj.heap.size Wj (Wj.alloc (.cells #[.int .u8 32] 5)) := (Below.refl _ _).alloc (Nat.le_refl _) _
              have hown7 := Lib.hid (hown.out.below hb7)
              have hb7' := Lib.hid (hbJ.out.trans (hb7.mono hzJ))
              have hz7 := hb7'.out.size
              clear hb7
              go_wp2_with (at_builtin; go_must (refine wpList_append_bytes rfl (Operand.tmp 86) (Operand.tmp 87) rfl W1.heap.size _ _ rfl hown7.out (some ⟨Wj.heap.size, 0, none⟩) 1 1 [32] rfl rfl (fun h => by cases h) (marked_row Wj [32] _ _ rfl) (by simp only [List.length_append, List.length_replicate, List.length_singleton]; omega) hz7 ?_); intro v8 w8 hown8 hg8; have hb8 := Lib.hid (hb7'.out.grown hg8 hz7 (fun q e => (ownBlock_ge hown7.out e).1)); obtain ⟨va8, vc8, rfl, _⟩ := hown8.form; have hown8' := Lib.hid hown8; clear hown8 hg8)
              refine ⟨⟨j + 1, va8, _, vc8, by omega, by go_num, rfl, ?_, ?_, hb8.out⟩, by simp [intOf]; omega⟩
              · unfold Hid
                simp only [List.length_append, List.length_replicate, List.length_singleton]
                try omega
              · have h := hown8'.out
                unfold Hid
                rw [List.replicate_succ', ← List.append_assoc]
                simpa using h
          · obtain rfl : j = r := by omega
            have hjj : ¬ (j : Int) < (j : Int) := by omega
            go_wp2_with fail
            refine ⟨⟨k + 1, va, vn, vc, by omega, by go_num, rfl, by unfold Hid; rw [hsucc2.out]; exact hvn.out, by unfold Hid; rw [hsucc2.out]; exact hown.out, hbJ.out⟩, by simp [intOf]; omega⟩
      · obtain rfl : k = ts.length := by omega
        have hkk : ¬ (ts.length : Int) < (ts.length : Int) := by omega
        rw [List.take_length] at hvn hown
        obtain ⟨vb, vd, hve, hcl, hc63b, hab, hrb⟩ := hown.out.form
        simp only [Value.slice.injEq] at hve
        obtain ⟨rfl, rfl, rfl⟩ := hve
        have hwW := Lib.hid (hbW1.out.trans (hbW.out.mono hbW1.out.size))
        have hkW := Lib.hid (Keeps.of_below hwW.out)
        have hsl := hsz'.out ts.length
        rw [List.take_length] at hsl
        have hlc := lex_Lex va (spG g ts) vc Wr (by omega) hcl hc63b hab hrb (hE'.out.keeps hkW.out) (hM'.out.keeps hkW.out)
        rw [hms'.out] at hlc
        have hlc' := Lib.hid hlc
        clear hlc hcl hc63b hab hrb hvn hown
        go_wp2_with fail
        refine hlc'.out.mono ?_
        rintro e V2 ⟨⟨v2, rfl, hv2⟩, hB⟩
        obtain ⟨am, cm, rfl⟩ := hv2.open
        rw [hsa.out.1]
        have hbV2 := Lib.hid (hwW.out.trans (hB.mono hwW.out.size))
        obtain ⟨W3, hW3⟩ : ∃ W, V2.alloc (.cells #[.int .i64 0, .int .i64 0] 26) = W := ⟨_, rfl⟩
        have hb3' : Below V2.heap.size V2 W3 := by rw [← hW3]; exact (Below.refl _ _).alloc (Nat.le_refl _) _
        have hbW3 := Lib.hid (hbV2.out.trans (hb3'.mono hbV2.out.size))
        have hrm := Lib.hid (hv2.keeps (Keeps.of_below hb3')).at.2.2
        have hb13 : Below W1.heap.size W1 W3 := (hbW.out.trans (hB.mono hbW.out.size)).trans (hb3'.mono (by have := hbW.out.size; have := hB.size; omega))
        have hrt := Lib.hid (hv1.out.keeps (Keeps.of_below hb13))
        have hW3' := Lib.hid hW3
        clear hW3 hb3' hB hv2 hb13
        go_upto_region 20 with (fail)
        rw [hW3'.out]
        go_wp2_with fail
        go_loopw [15] (fun i W => ∃ j : Nat, j ≤ ts.length ∧ i = .int .i64 j ∧ Hid (Below W3.heap.size W3 W)) (fun i _ => ts.length - (intOf i).toNat)
        case atStart => exact ⟨0, by omega, rfl, Below.refl _ _⟩
        case round =>
          obtain ⟨j, hj, rfl, hbL⟩ := hrel
          obtain ⟨Wj, rfl⟩ : ∃ W, W = wr := ⟨_, rfl⟩
          by_cases hjl : j < ts.length
          · have hji : (j : Int) < (ts.length : Int) := by omega
            have hjm : j < ms.length := by rw [hsa.out.1]; exact hjl
            obtain ⟨s1, s2, s3⟩ := hsa.out.2 j hjm hjl
            obtain ⟨b, off, rfl, hcT⟩ := (hrt.out.keeps (Keeps.of_below hbL.out)).at (by rintro rfl; simp at hjl)
            obtain ⟨b2, off2, rfl, hcM⟩ := (hrm.out.keeps (Keeps.of_below hbL.out)).at (by intro e; rw [e] at hjm; simp at hjm)
            obtain ⟨g0, g1, g2, g3, g4⟩ := hcT j hjl
            obtain ⟨m0, m1, m2, m3, m4⟩ := hcM j hjm
            rw [s1] at m0
            rw [s2] at m1
            rw [s3] at m2
            clear s1 s2 s3 hcT hcM g3 g4 m3 m4
            go_wp2_with fail
            go_quiet (fail)
            go_wp2_with fail
            go_roundw
            case rel => exact ⟨j + 1, by omega, by go_num, below_drewN' hbL.out _⟩
            case measure => simp [intOf]; omega
          · go_wp2_with fail
            go_ret
            exact ⟨rfl, hbW3.out.trans (hbL.out.mono hbW3.out.size)⟩
end Go.Proofs.YtchdfjihflmloaaDoor
