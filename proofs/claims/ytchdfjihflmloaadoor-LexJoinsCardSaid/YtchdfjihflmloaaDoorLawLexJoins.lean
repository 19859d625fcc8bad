/- LexJoins: the tokens of two texts, one in lines behind the other, are those of both. -/
import Derived.Test.YtchdfjihflmloaaDoorLawLexGaps
import Derived.Test.YtchdfjihflmloaaDoorLxJ
namespace Go.Proofs.YtchdfjihflmloaaDoor
open Go.RowKit

theorem own_empty_b (w : World) {base : Nat} (hb : base ≤ w.heap.size) : OwnB base (w.alloc (.cells #[] 5)) (.slice (some ⟨w.heap.size, 0, none⟩) 0 0) [] := by
  refine ⟨rfl, .inr ⟨w.heap.size, 0, #[], rfl, hb, ?_, Nat.le_refl _, by simp [maxLen], by simp, by simp [bC]⟩⟩
  simp only [World.alloc]; simp

set_option maxHeartbeats 4000000 in
set_option maxRecDepth 100000 in
theorem lexJoins_c (a : Option Addr) (l : Bs) (cap : Nat) (a' : Option Addr) (l' : Bs) (cap' : Nat) (w : World) (hc : l.length ≤ cap) (hc63 : cap ≤ 9223372036854775807) (ha : a = none → cap = 0) (hr : ByteRow w a l)
    (hc' : l'.length ≤ cap') (hc63' : cap' ≤ 9223372036854775807) (ha' : a' = none → cap' = 0) (hr' : ByteRow w a' l') (hE : RngOk w) (hM : MaxOk w) :
    Calls Tryd.prog 7 #[.slice a l.length cap, .slice a' l'.length cap'] w fun e w' => e = .returned (.bool true) ∧ Below w.heap.size w w' := by
  have hup := Lib.hid (law_awake w hE hM)
  by_cases h5 : 2000 < l.length ∨ 2000 < l'.length
  · by_cases h6 : 2000 < l.length
    · have h5i : (2000 : Int) < (l.length : Int) := by omega
      clear h5
      go_enter Tryd.func7, Tryd.ntmps7
      go_wp2_with fail
      refine hup.out.mono ?_
      rintro e V ⟨rfl, hB⟩
      go_wp2_with fail
      go_ret
      exact ⟨rfl, hB⟩
    · have h5i : ¬ (2000 : Int) < (l.length : Int) := by omega
      have h6i : (2000 : Int) < (l'.length : Int) := by omega
      clear h5
      go_enter Tryd.func7, Tryd.ntmps7
      go_wp2_with fail
      refine hup.out.mono ?_
      rintro e V ⟨rfl, hB⟩
      go_wp2_with fail
      go_ret
      exact ⟨rfl, hB⟩
  · have h5i : ¬ (2000 : Int) < (l.length : Int) := by omega
    have h6i : ¬ (2000 : Int) < (l'.length : Int) := by omega
    have hl5 : l.length ≤ 2000 := by omega
    have hl6 : l'.length ≤ 2000 := by omega
    have hr1 := Lib.hid hr
    have hr2 := Lib.hid hr'
    have hE' := Lib.hid hE
    have hM' := Lib.hid hM
    clear hr hr' hE hM h5
    go_enter Tryd.func7, Tryd.ntmps7
    go_wp2_with fail
    refine hup.out.mono ?_
    rintro e V ⟨rfl, hB⟩
    have hbV := Lib.hid hB
    have hkV := Lib.hid (Keeps.of_below hB)
    clear hB
    go_wp2_with fail
    refine (lex_Lex a l cap V (by omega) hc hc63 ha (hr1.out.keeps hkV.out) (hE'.out.keeps hkV.out) (hM'.out.keeps hkV.out)).mono ?_
    rintro e V1 ⟨hR, hB⟩
    obtain ⟨a1, n1, c1, ts, x, y, er, rfl, hS1, hQ⟩ := LexR_slice hR
    obtain rfl : n1 = ts.length := hS1.at.1
    have hbV1 := Lib.hid (hbV.out.trans (hB.mono hbV.out.size))
    obtain ⟨W1, hW1⟩ : ∃ W, V1.alloc (.cells #[.int .i64 x, .int .i64 y] 26) = W := ⟨_, rfl⟩
    have hb1 : Below V1.heap.size V1 W1 := by rw [← hW1]; exact (Below.refl _ _).alloc (Nat.le_refl _) _
    have hp1 : Box2 W1 26 V1.heap.size (.int .i64 x) (.int .i64 y) := by rw [← hW1]; exact blk_new (Below.refl _ _)
    have hbW1 := Lib.hid (hbV1.out.trans (hb1.mono hbV1.out.size))
    have hS2 := Lib.hid (hS1.keeps (Keeps.of_below hb1))
    have hW1' := Lib.hid hW1
    have hp1' := Lib.hid hp1
    have hQ1 : Hid ((ts, x, y, er) = resQ (lexA l)) := hQ
    clear hW1 hb1 hp1 hR hB hS1 hQ
    go_upto_region 5 with (fail)
    rw [hW1'.out]
    have hkW1 := Lib.hid (Keeps.of_below hbW1.out)
    go_wp2_with fail
    refine (lex_Lex a' l' cap' W1 (by omega) hc' hc63' ha' (hr2.out.keeps hkW1.out) (hE'.out.keeps hkW1.out) (hM'.out.keeps hkW1.out)).mono ?_
    rintro e V2 ⟨hR, hB⟩
    obtain ⟨a2, n2, c2, ms, x2, y2, er2, rfl, hS3, hQ⟩ := LexR_slice hR
    obtain rfl : n2 = ms.length := hS3.at.1
    have hbV2 := Lib.hid (hbW1.out.trans (hB.mono hbW1.out.size))
    obtain ⟨W2, hW2⟩ : ∃ W, V2.alloc (.cells #[.int .i64 x2, .int .i64 y2] 26) = W := ⟨_, rfl⟩
    have hb2 : Below V2.heap.size V2 W2 := by rw [← hW2]; exact (Below.refl _ _).alloc (Nat.le_refl _) _
    have hbW2 := Lib.hid (hbV2.out.trans (hb2.mono hbV2.out.size))
    have hp2 := Lib.hid ((hp1'.out.below hB).below hb2)
    have hS4 := Lib.hid ((hS2.out.keeps (Keeps.of_below hB)).keeps (Keeps.of_below hb2))
    have hS5 := Lib.hid (hS3.keeps (Keeps.of_below hb2))
    have hW2' := Lib.hid hW2
    have hQ2 : Hid ((ms, x2, y2, er2) = resQ (lexA l')) := hQ
    clear hW2 hb2 hR hB hS3 hQ
    go_upto_region 6 with (fail)
    rw [hW2'.out]
    have hkW2 := Lib.hid (Keeps.of_below hbW2.out)
    have hb3 : Below W2.heap.size W2 (W2.alloc (.cells #[] 5)) := (Below.refl _ _).alloc (Nat.le_refl _) _
    have hown3 := Lib.hid (own_empty_b W2 (base := W2.heap.size) (Nat.le_refl _))
    have hb3' := Lib.hid hb3
    have hz3 : W2.heap.size ≤ (W2.alloc (.cells #[] 5)).heap.size := hb3.size
    have hro3 := Lib.hid ((hr1.out.keeps hkW2.out).keeps (Keeps.of_below hb3))
    clear hb3
    go_wp2_with (first
      | (at_builtin; refine wpList_append_bytes rfl (Operand.tmp 42) (Operand.tmp 43) rfl W2.heap.size _ _ rfl hown3.out a l.length cap l rfl rfl ha hro3.out (by simp; omega) hz3 ?_; intro v4 w4 hown hg; have hb4 := Lib.hid (hb3'.out.grown hg hz3 (fun q e => (ownBlock_ge hown3.out e).1)); have hz4 := hb4.out.size; have hb5 : Below w4.heap.size w4 (w4.alloc (.cells #[.int .u8 10] 5)) := (Below.refl _ _).alloc (Nat.le_refl _) _; have hown5 := Lib.hid (hown.below hb5); have hb5' := Lib.hid (hb4.out.trans (hb5.mono hz4)); have hz5 := hb5'.out.size; clear hown hg hb5)
      | (at_builtin; refine wpList_append_bytes rfl (Operand.tmp 44) (Operand.tmp 45) rfl W2.heap.size _ _ rfl hown5.out (some ⟨w4.heap.size, 0, none⟩) 1 1 [10] rfl rfl (fun h => by cases h) (marked_row w4 [10] _ _ rfl) (by simp; omega) hz5 ?_; intro v6 w6 hown hg; have hb6 := Lib.hid (hb5'.out.grown hg hz5 (fun q e => (ownBlock_ge hown5.out e).1)); have hz6 := hb6.out.size; have hown6 := Lib.hid hown; have hro6 := Lib.hid ((hr2.out.keeps hkW2.out).keeps (Keeps.of_below hb6.out)); clear hown hg)
      | (at_builtin; go_must (refine wpList_append_bytes rfl (Operand.tmp 46) (Operand.tmp 47) rfl W2.heap.size _ _ rfl hown6.out a' l'.length cap' l' rfl rfl ha' hro6.out (by simp; omega) hz6 ?_); intro v7 w7 hown hg; have hb7 := Lib.hid (hb6.out.grown hg hz6 (fun q e => (ownBlock_ge hown6.out e).1)); obtain ⟨va7, vc7, rfl, hcl, hc63b, hab, hr7⟩ := hown.form; have hr7' := Lib.hid hr7; clear hown hg hr7))
    have hb8 := Lib.hid (hbW2.out.trans (hb7.out.mono hbW2.out.size))
    have hk8 := Lib.hid (Keeps.of_below hb8.out)
    have hjo : ([] ++ l ++ [10] ++ l' : Bs) = l ++ 10 :: l' := by simp
    have hr8 := hr7'.out
    rw [hjo] at hr8 hcl
    have hlc := lex_Lex va7 (l ++ 10 :: l') vc7 w7 (by simp; omega) hcl hc63b hab hr8 (hE'.out.keeps hk8.out) (hM'.out.keeps hk8.out)
    rw [show (l ++ 10 :: l' : Bs).length = l.length + (l'.length + 1) by simp] at hlc
    have hlc' := Lib.hid hlc
    clear hlc hjo hr8 hcl hc63b hab
    refine hlc'.out.mono ?_
    rintro e V3 ⟨hR, hB⟩
    obtain ⟨a3, n3, c3, us, x3, y3, er3, rfl, hS6, hQ⟩ := LexR_slice hR
    obtain rfl : n3 = us.length := hS6.at.1
    have hbV3 := Lib.hid (hb8.out.trans (hB.mono hb8.out.size))
    obtain ⟨W3, hW3⟩ : ∃ W, V3.alloc (.cells #[.int .i64 x3, .int .i64 y3] 26) = W := ⟨_, rfl⟩
    have hb9 : Below V3.heap.size V3 W3 := by rw [← hW3]; exact (Below.refl _ _).alloc (Nat.le_refl _) _
    have hp9 : Box2 W3 26 V3.heap.size (.int .i64 x3) (.int .i64 y3) := by rw [← hW3]; exact blk_new (Below.refl _ _)
    have hbW3 := Lib.hid (hbV3.out.trans (hb9.mono hbV3.out.size))
    have hb23 : Below W2.heap.size W2 W3 := (hb7.out.trans (hB.mono hb7.out.size)).trans (hb9.mono (by have := hb7.out.size; have := hB.size; omega))
    have hpa := Lib.hid (hp2.out.below hb23)
    have hSa := Lib.hid (hS4.out.keeps (Keeps.of_below hb23))
    have hSb := Lib.hid (hS5.out.keeps (Keeps.of_below hb23))
    have hSc := Lib.hid (hS6.keeps (Keeps.of_below hb9))
    have hW3' := Lib.hid hW3
    have hp9' := Lib.hid hp9
    have hQ3 : Hid ((us, x3, y3, er3) = resQ (lexA (l ++ 10 :: l'))) := hQ
    clear hW3 hb9 hp9 hR hB hS6 hQ hb23
    go_upto_region 7 with (fail)
    rw [hW3'.out]
    cases hA : lexA l with
    | bad p q =>
      have hj : lexA (l ++ 10 :: l') = .bad p q := joins_bad hA
      rw [hA] at hQ1
      rw [hj] at hQ3
      obtain ⟨rfl, rfl, rfl, rfl⟩ : ts = [] ∧ x = p ∧ y = q ∧ er = 20 := by simpa [resQ] using hQ1.out
      obtain ⟨rfl, rfl, rfl, rfl⟩ : us = [] ∧ x3 = x ∧ y3 = y ∧ er3 = 20 := by simpa [resQ] using hQ3.out
      obtain ⟨⟨e0, e1⟩, _⟩ := hpa.out.cells
      obtain ⟨⟨f0, f1⟩, _⟩ := hp9'.out.cells
      clear hA hj
      go_wp2_with fail
      go_ret
      exact ⟨rfl, hbW3.out⟩
    | ok p =>
      rw [hA] at hQ1
      obtain ⟨rfl, rfl, rfl, rfl⟩ : ts = p ∧ x = 0 ∧ y = 0 ∧ er = 0 := by simpa [resQ] using hQ1.out
      have hts : ts.length ≤ 2000 := lexA_len hA
      cases hA2 : lexA l' with
      | bad p q =>
        obtain ⟨p3, q3, hj⟩ : badR (lexA (l ++ 10 :: l')) := joins_bad2 hA hA2
        rw [hA2] at hQ2
        rw [hj] at hQ3
        obtain ⟨rfl, rfl, rfl, rfl⟩ : ms = [] ∧ x2 = p ∧ y2 = q ∧ er2 = 20 := by simpa [resQ] using hQ2.out
        obtain ⟨rfl, rfl, rfl, rfl⟩ : us = [] ∧ x3 = p3 ∧ y3 = q3 ∧ er3 = 20 := by simpa [resQ] using hQ3.out
        clear hA hA2 hj
        go_wp2_with fail
        go_ret
        exact ⟨rfl, hbW3.out⟩
      | ok p =>
        rw [hA2] at hQ2
        obtain ⟨rfl, rfl, rfl, rfl⟩ : ms = p ∧ x2 = 0 ∧ y2 = 0 ∧ er2 = 0 := by simpa [resQ] using hQ2.out
        have hms : ms.length ≤ 2000 := lexA_len hA2
        by_cases hmany : 2000 < ts.length + ms.length
        · obtain ⟨p3, q3, hj⟩ : badR (lexA (l ++ 10 :: l')) := joins_many hA hA2 hmany
          rw [hj] at hQ3
          obtain ⟨rfl, rfl, rfl, rfl⟩ : us = [] ∧ x3 = p3 ∧ y3 = q3 ∧ er3 = 20 := by simpa [resQ] using hQ3.out
          have hmi : (2000 : Int) < (ts.length : Int) + (ms.length : Int) := by omega
          clear hA hA2 hj hmany
          go_wp2_with fail
          go_ret
          exact ⟨rfl, hbW3.out⟩
        · have hj : lexA (l ++ 10 :: l') = .ok (ts ++ ms.map (Tk.down ((nls l + 1 : Nat) : Int))) := joins_ok hA hA2 (by omega)
          rw [hj] at hQ3
          obtain ⟨hus, rfl, rfl, rfl⟩ : us = ts ++ ms.map (Tk.down ((nls l + 1 : Nat) : Int)) ∧ x3 = 0 ∧ y3 = 0 ∧ er3 = 0 := by simpa [resQ] using hQ3.out
          have hmi : ¬ (2000 : Int) < (ts.length : Int) + (ms.length : Int) := by omega
          have hbd := Lib.hid (lexF_bd l'.length l' 1 1 0 ms (Nat.le_refl _) (by omega) hA2).2
          have hul : us.length = ts.length + ms.length := by rw [hus]; simp
          have hus' := Lib.hid hus
          clear hA hA2 hj hmany hus
          rw [hul]
          go_wp2_with fail
          go_loop [15, 16] (fun c i => ∃ k : Nat, k ≤ l.length ∧ i = .int .i64 k ∧ c = .int .i64 ((nls (l.take k) : Int) + 1)) (fun _ i => l.length - (intOf i).toNat)
          case atStart => exact ⟨0, by omega, rfl, by simp [nls]⟩
          case round =>
            obtain ⟨k, hk, rfl, rfl⟩ := hrel
            have hnk : nls (l.take k) ≤ k := by have := nls_le (l.take k); rw [List.length_take] at this; omega
            by_cases hlt : k < l.length
            · obtain ⟨b, off, rfl, hcl⟩ : ∃ b off, a = some ⟨b, off, none⟩ ∧ ∀ i (h : i < l.length), W3.cell? ⟨b, off + i, none⟩ = some (.int .u8 l[i].toNat) := by
                rcases hr1.out.keeps (Keeps.of_below hbW3.out) with h | h
                · subst h; simp at hlt
                · exact h
              have g0 := hcl k hlt
              have hki : (k : Int) < (l.length : Int) := by omega
              have hst := Lib.hid (nls_take l k hlt)
              obtain ⟨c, hcn⟩ : ∃ c, nls (l.take k) = c := ⟨_, rfl⟩
              rw [hcn] at hst hnk ⊢
              clear hcl hcn
              by_cases h10 : l[k] = 10
              · have h10i : (l[k].toNat : Int) = 10 := by rw [h10]; rfl
                have h10' := Lib.hid h10
                clear h10
                go_wp2_with fail
                go_round
                case rel => exact ⟨k + 1, by omega, by go_num, by rw [hst.out, if_pos h10'.out]; go_num⟩
                case measure => simp [intOf]; omega
              · have h10i : ¬ (l[k].toNat : Int) = 10 := fun e => h10 (by apply UInt8.toNat.inj; show l[k].toNat = 10; omega)
                have h10' := Lib.hid h10
                clear h10
                go_wp2_with fail
                go_round
                case rel => exact ⟨k + 1, by omega, by go_num, by rw [hst.out, if_neg h10'.out]; go_num⟩
                case measure => simp [intOf]; omega
            · obtain rfl : k = l.length := by omega
              rw [List.take_length]
              have hll : ¬ (l.length : Int) < (l.length : Int) := by omega
              obtain ⟨d, hd⟩ : ∃ d, nls l = d := ⟨_, rfl⟩
              rw [hd] at hus'
              rw [hd]
              have hdl : d ≤ 2000 := by rw [← hd]; have := nls_le l; omega
              clear hd hnk
              obtain ⟨_, ⟨han, hcap⟩, hrow3⟩ := hSc.out.at
              have hust : us.take ts.length = ts := by rw [hus'.out, List.take_left]
              have hSt : TkSl W3 (.slice a3 ts.length c3) ts := by
                refine ⟨a3, c3, rfl, ⟨han, by omega⟩, ?_⟩
                have := hrow3.take ts.length
                rw [hust] at this; exact this
              have hsm := r02_Same _ _ ts ts W3 hSt hSa.out (by omega) (by omega)
              rw [decide_eq_true rfl] at hsm
              have hsm' := Lib.hid hsm
              have hrow3' := Lib.hid hrow3
              have hc3i : ts.length ≤ c3 := by omega
              have hul' := Lib.hid hul
              clear hsm hSt hust hrow3 han hcap hul
              go_wp2_with fail
              refine hsm'.out.mono ?_
              rintro e V4 ⟨rfl, hB⟩
              have hbV4 := Lib.hid hB
              have hrm := Lib.hid (hSb.out.keeps (Keeps.of_below hB)).at.2.2
              have hru := Lib.hid (hrow3'.out.keeps (Keeps.of_below hB))
              clear hB
              go_wp2_with fail
              go_loopw [17] (fun i W => ∃ j : Nat, j ≤ ms.length ∧ i = .int .i64 j ∧ Hid (Below V4.heap.size V4 W)) (fun i _ => ms.length - (intOf i).toNat)
              case atStart => exact ⟨0, by omega, rfl, Below.refl _ _⟩
              case round =>
                obtain ⟨j, hj, rfl, hbL⟩ := hrel
                obtain ⟨Wr, rfl⟩ : ∃ W, W = wr := ⟨_, rfl⟩
                by_cases hjl : j < ms.length
                · have hji : (j : Int) < (ms.length : Int) := by omega
                  have hju : ts.length + j < us.length := by rw [hul'.out]; omega
                  have hmj : us[ts.length + j] = (ms[j]).down ((d + 1 : Nat) : Int) := by
                    have h := hus'.out
                    subst h
                    rw [List.getElem_append_right (by omega)]
                    simp
                  obtain ⟨W4, hW4⟩ : ∃ W, Wr.alloc (.cells #[.int .i64 ms[j].kind, .string (tS ms[j].text), .int .i64 ms[j].num, .int .i64 (ms[j].line + ((d : Int) + 1)), .int .i64 ms[j].col] 33) = W := ⟨_, rfl⟩
                  have hb4 : Below Wr.heap.size Wr W4 := by rw [← hW4]; exact (Below.refl _ _).alloc (Nat.le_refl _) _
                  have hx4 : Box5 W4 33 Wr.heap.size (.int .i64 ms[j].kind) (.string (tS ms[j].text)) (.int .i64 ms[j].num) (.int .i64 (ms[j].line + ((d : Int) + 1))) (.int .i64 ms[j].col) := by rw [← hW4]; exact blk_new (Below.refl _ _)
                  have hk4 := Keeps.of_below (hbL.out.trans (hb4.mono hbL.out.size))
                  have hbL4 := Lib.hid (hbL.out.trans (hb4.mono hbL.out.size))
                  obtain ⟨b, off, rfl, hcT⟩ := (hrm.out.keeps (Keeps.of_below hbL.out)).at (by rintro rfl; simp at hjl)
                  obtain ⟨b2, off2, rfl, hcM⟩ := (hru.out.keeps hk4).at (by intro e; rw [e] at hju; simp at hju)
                  obtain ⟨g0, g1, g2, g3, g4⟩ := hcT j hjl
                  obtain ⟨m0, m1, m2, m3, m4⟩ := hcM (ts.length + j) hju
                  rw [hmj] at m0 m1 m2 m3 m4
                  obtain ⟨⟨x0, x1, x2, x3, x4⟩, xf⟩ := hx4.cells
                  have hbj := hbd.out ms[j] (List.getElem_mem hjl)
                  have hl1 : 1 ≤ ms[j].line := hbj.1
                  have hl2 : ms[j].line ≤ 5001 := by omega
                  have hgd := guard_tk
                  have hdc : ((d + 1 : Nat) : Int) = (d : Int) + 1 := by omega
                  have hnq : ∀ w : World, (binOp .neq 33 (.agg #[.int .i64 ms[j].kind, .string (tS ms[j].text), .int .i64 ms[j].num, .int .i64 (ms[j].line + ((d : Int) + 1)), .int .i64 ms[j].col]) (.agg #[.int .i64 ms[j].kind, .string (tS ms[j].text), .int .i64 ms[j].num, .int .i64 (ms[j].line + ((d : Int) + 1)), .int .i64 ms[j].col])).run Tryd.prog w = .ok (.bool false) w := fun w => by
                    have h := neq_tk w (ms[j].down ((d : Int) + 1)) (ms[j].down ((d : Int) + 1))
                    rw [decide_eq_true rfl] at h
                    exact h
                  rw [hdc] at m0 m1 m2 m3 m4
                  have m0' : W4.cell? ⟨b2, off2 + (ts.length + j) * 5, none⟩ = some (.int .i64 ms[j].kind) := m0
                  have m1' : W4.cell? ⟨b2, off2 + (ts.length + j) * 5 + 1, none⟩ = some (.string (tS ms[j].text)) := m1
                  have m2' : W4.cell? ⟨b2, off2 + (ts.length + j) * 5 + 2, none⟩ = some (.int .i64 ms[j].num) := m2
                  have m3' : W4.cell? ⟨b2, off2 + (ts.length + j) * 5 + 3, none⟩ = some (.int .i64 (ms[j].line + ((d : Int) + 1))) := m3
                  have m4' : W4.cell? ⟨b2, off2 + (ts.length + j) * 5 + 4, none⟩ = some (.int .i64 ms[j].col) := m4
                  have hjt : (ts.length : Int) + (j : Int) < (ts.length : Int) + (ms.length : Int) := by omega
                  have hW4' := Lib.hid hW4
                  clear m0 m1 m2 m3 m4 hcT hcM hmj hbj hW4 hb4 hk4 hx4 hdc
                  go_upto_region 24 with (fail)
                  rw [hW4'.out]
                  go_quiet (fail)
                  go_wp2_with fail
                  go_roundw
                  case rel => exact ⟨j + 1, by omega, by go_num, below_drewN' hbL4.out _⟩
                  case measure => simp [intOf]; omega
                · go_wp2_with fail
                  go_ret
                  exact ⟨rfl, (hbW3.out.trans (hbV4.out.mono hbW3.out.size)).trans (hbL.out.mono (by have := hbW3.out.size; have := hbV4.out.size; omega))⟩
end Go.Proofs.YtchdfjihflmloaaDoor
