/- LexGaps: gaps, and comments, behind a text, and lines ahead of it, do nothing but move tokens down. -/
import Derived.Test.YtchdfjihflmloaaDoorLawLexBack
import Derived.Test.YtchdfjihflmloaaDoorByB
namespace Go.Proofs.YtchdfjihflmloaaDoor
open Go.RowKit

def tailG : Bs := [10, 32, 32, 45, 45, 63, 10, 32, 32]

set_option maxHeartbeats 4000000 in
set_option maxRecDepth 100000 in
theorem lexGaps_c (a : Option Addr) (l : Bs) (cap : Nat) (n : Nat) (w : World) (hn : n ≤ 255) (hc : l.length ≤ cap) (hc63 : cap ≤ 9223372036854775807) (ha : a = none → cap = 0) (hr : ByteRow w a l) (hE : RngOk w) (hM : MaxOk w) :
    Calls Tryd.prog 6 #[.slice a l.length cap, .int .u8 (n : Int)] w fun e w' => e = .returned (.bool true) ∧ Below w.heap.size w w' := by
  have kc := fun (w : World) (C : Array Value) (n c : Nat) => Lib.run_convert_bytes_const (P := Tryd.prog) w 22 5 C n c Tryd.underlying22 Tryd.underlying5
  have hup := Lib.hid (law_awake w hE hM)
  by_cases h5 : 4000 < l.length
  · have h5i : (4000 : Int) < (l.length : Int) := by omega
    go_enter Tryd.func6, Tryd.ntmps6
    go_wp2_with fail
    refine hup.out.mono ?_
    rintro e V ⟨rfl, hB⟩
    go_wp2_with fail
    go_ret
    exact ⟨rfl, hB⟩
  · have h5i : ¬ (4000 : Int) < (l.length : Int) := by omega
    have hl5 : l.length ≤ 4000 := by omega
    have hr' := Lib.hid hr
    have hE' := Lib.hid hE
    have hM' := Lib.hid hM
    clear hr hE hM
    go_enter Tryd.func6, Tryd.ntmps6
    go_wp2_with fail
    refine hup.out.mono ?_
    rintro e V ⟨rfl, hB⟩
    have hbV := Lib.hid hB
    have hkV := Lib.hid (Keeps.of_below hB)
    clear hB
    go_wp2_with fail
    refine (lex_Lex a l cap V (by omega) hc hc63 ha (hr'.out.keeps hkV.out) (hE'.out.keeps hkV.out) (hM'.out.keeps hkV.out)).mono ?_
    rintro e V1 ⟨hR, hB⟩
    obtain ⟨a1, n1, c1, ts, x, y, er, rfl, hS1, hQ⟩ := LexR_slice hR
    obtain rfl : n1 = ts.length := hS1.at.1
    have hbV1 := Lib.hid (hbV.out.trans (hB.mono hbV.out.size))
    obtain ⟨W1, hW1⟩ : ∃ W, V1.alloc (.cells #[.int .i64 x, .int .i64 y] 26) = W := ⟨_, rfl⟩
    have hb1 : Below V1.heap.size V1 W1 := by rw [← hW1]; exact (Below.refl _ _).alloc (Nat.le_refl _) _
    have hp1 : Box2 W1 26 V1.heap.size (.int .i64 x) (.int .i64 y) := by rw [← hW1]; exact blk_new (Below.refl _ _)
    have hbW1 := Lib.hid (hbV1.out.trans (hb1.mono hbV1.out.size))
    have hS2 := Lib.hid (hS1.keeps (Keeps.of_below hb1))
    have hW1' := Lib.hid hW1
    have hp1' := Lib.hid hp1
    have hQ' : Hid ((ts, x, y, er) = resQ (lexA l)) := hQ
    clear hW1 hb1 hp1 hR hB hS1 hQ
    go_upto_region 5 with (fail)
    have hp1'' := hp1'.out
    rw [hW1'.out]
    clear hp1''
    go_wp2_with fail
    go_loopw [9, 10] (fun v i W => ∃ (k : Nat) (va : Option Addr) (vc : Nat), k ≤ n ∧ i = .int .i64 k ∧ v = .slice va k vc ∧ Hid (OwnB W1.heap.size W (.slice va k vc) (List.replicate k 10)) ∧ Hid (Below W1.heap.size W1 W)) (fun _ i _ => n - (intOf i).toNat)
    case atStart => exact ⟨0, none, 0, by omega, rfl, rfl, OwnB.nil _ _, Below.refl _ _⟩
    case round =>
      obtain ⟨k, va, vc, hk, rfl, rfl, hown, hbW⟩ := hrel
      obtain ⟨Wr, rfl⟩ : ∃ W, W = wr := ⟨_, rfl⟩
      have hzW := hbW.out.size
      by_cases h1 : k < n
      · have hki : (k : Int) < (n : Int) := by omega
        have hb2 : Below Wr.heap.size Wr (Wr.alloc (.cells #[.int .u8 10] 5)) := (Below.refl _ _).alloc (Nat.le_refl _) _
        go_wp2_with (at_builtin; go_must (refine wpList_append_bytes rfl (Operand.tmp 33) (Operand.tmp 34) rfl W1.heap.size _ _ rfl (hown.out.below hb2) (some ⟨Wr.heap.size, 0, none⟩) 1 1 [10] rfl rfl (fun h => by cases h) (marked_row Wr [10] _ _ rfl) (by simp; omega) (by simp; omega) ?_); intro v2 w3 hown2 hg2; have hb3 := Lib.hid ((hbW.out.alloc hzW _).grown hg2 (by simp; omega) (fun q e => (ownBlock_ge hown.out e).1)); obtain ⟨va2, vc2, rfl, _⟩ := hown2.form; have hown2' := Lib.hid hown2; clear hown2 hg2)
        refine ⟨⟨k + 1, va2, vc2, by omega, by go_num, by simp, ?_, hb3.out⟩, by simp [intOf]; omega⟩
        have h := hown2'.out
        unfold Hid
        rw [List.replicate_succ']
        simpa using h
      · obtain rfl : k = n := by omega
        have hki : ¬ (k : Int) < (k : Int) := by omega
        have hkW := Lib.hid (Keeps.of_below (hbW1.out.trans (hbW.out.mono hbW1.out.size)))
        have hrW := Lib.hid (hr'.out.keeps hkW.out)
        have hres := lexF_gaps l k
        go_wp2_with (first
          | (at_builtin; refine wpList_append_bytes rfl (Operand.tmp 36) (Operand.tmp 37) rfl W1.heap.size _ _ rfl hown.out a l.length cap l rfl rfl ha hrW.out (by simp; omega) hzW ?_; intro v2 w3 hown2 hg2; have hb3 := Lib.hid (hbW.out.grown hg2 hzW (fun q e => (ownBlock_ge hown.out e).1)); have hz3 := hb3.out.size; have hb4 : Below w3.heap.size w3 (w3.alloc (.cells #[.int .u8 10, .int .u8 32, .int .u8 32, .int .u8 45, .int .u8 45, .int .u8 63, .int .u8 10, .int .u8 32, .int .u8 32] 5 (9, 10))) := (Below.refl _ _).alloc (Nat.le_refl _) _; have hown2' := Lib.hid hown2; have hown4 := Lib.hid (hown2.below hb4); clear hown2 hg2 hb4)
          | (at_builtin; go_must (refine wpList_append_bytes rfl (Operand.tmp 38) (Operand.tmp 40) rfl W1.heap.size _ _ rfl hown4.out (some ⟨w3.heap.size, 0, none⟩) 9 9 tailG rfl rfl (fun h => by cases h) (marked_row w3 tailG _ _ rfl) (by simp [tailG]; omega) (by simp; omega) ?_); intro v4 w5 hown5 hg5; have hb5 := Lib.hid ((hb3.out.alloc hz3 _).grown hg5 (by simp; omega) (fun q e => (ownBlock_ge hown4.out e).1)); obtain ⟨va5, vc5, rfl, hcl, hc63b, hab, hr5⟩ := hown5.form; have hr5' := Lib.hid hr5; clear hown5 hg5 hr5))
        have hb6 := Lib.hid (hbW1.out.trans (hb5.out.mono hbW1.out.size))
        have hk6 := Lib.hid (Keeps.of_below hb6.out)
        have hlc := lex_Lex va5 (List.replicate k 10 ++ l ++ tailG) vc5 w5 (by simp [tailG]; omega) hcl hc63b hab hr5'.out (hE'.out.keeps hk6.out) (hM'.out.keeps hk6.out)
        have hA2 : lexA (List.replicate k 10 ++ l ++ tailG) = (lexA l).down k := by rw [List.append_assoc]; exact hres
        rw [hA2, show (List.replicate k 10 ++ l ++ tailG : Bs).length = k + (l.length + tailG.length) by simp] at hlc
        have hlc' := Lib.hid hlc
        clear hlc hA2 hres hcl hc63b hab
        have hki2 : (k : Int) ≤ 255 := by omega
        cases hA : lexA l with
        | bad p q =>
          rw [hA] at hlc' hQ'
          obtain ⟨rfl, rfl, rfl, rfl⟩ : ts = [] ∧ x = p ∧ y = q ∧ er = 20 := by
            have := hQ'.out
            simpa [resQ] using this
          have hxb := lexF_bad l.length l 1 1 0 x y (Nat.le_refl _) (by omega) hA
          have hxi : 1 ≤ x ∧ x ≤ 5000 := by omega
          obtain ⟨hx1, hx2⟩ := hxi
          clear hxb hA
          refine hlc'.out.mono ?_
          rintro e V2 ⟨hR2, hB⟩
          obtain rfl : e = _ := hR2
          have hbV2 := Lib.hid (hb6.out.trans (hB.mono hb6.out.size))
          have hpV2 := (hp1'.out.below hb5.out).below hB
          obtain ⟨W3, hW3⟩ : ∃ W, V2.alloc (.cells #[.int .i64 (x + k), .int .i64 y] 26) = W := ⟨_, rfl⟩
          have hb3' : Below V2.heap.size V2 W3 := by rw [← hW3]; exact (Below.refl _ _).alloc (Nat.le_refl _) _
          have hp3 : Box2 W3 26 V2.heap.size (.int .i64 (x + k)) (.int .i64 y) := by rw [← hW3]; exact blk_new (Below.refl _ _)
          have hbW3 := Lib.hid (hbV2.out.trans (hb3'.mono hbV2.out.size))
          obtain ⟨⟨e0, e1⟩, _⟩ := (hpV2.below hb3').cells
          obtain ⟨⟨f0, f1⟩, _⟩ := hp3.cells
          have hW3' := Lib.hid hW3
          have hw1 : IntKind.i64.wrap (x + (k : Int)) = x + (k : Int) := IntWalk.i64_in _ (by omega)
          clear hW3 hb3' hp3 hB hpV2
          go_upto_region 12 with (fail)
          rw [hW3'.out]
          go_wp2_with fail
          go_loop [14] (fun i => i = .int .i64 0) (fun _ => 0)
          case atStart => rfl
          case round =>
            obtain rfl := hrel
            go_wp2_with fail
            go_ret
            exact ⟨rfl, hbW3.out⟩
        | ok us =>
          rw [hA] at hlc' hQ'
          obtain ⟨rfl, rfl, rfl, rfl⟩ : ts = us ∧ x = 0 ∧ y = 0 ∧ er = 0 := by
            have := hQ'.out
            simpa [resQ] using this
          have hts : ts.length ≤ 2000 := lexA_len hA
          have hbd := Lib.hid (lexF_bd l.length l 1 1 0 ts (Nat.le_refl _) (by omega) hA).2
          clear hA
          refine hlc'.out.mono ?_
          rintro e V2 ⟨⟨v2, rfl, hv2⟩, hB⟩
          have hbV2 := Lib.hid (hb6.out.trans (hB.mono hb6.out.size))
          obtain ⟨am, cm, rfl⟩ := hv2.open
          have hlm : (ts.map (Tk.down (k : Int))).length = ts.length := List.length_map _
          obtain ⟨ms, hms⟩ : ∃ ms, ts.map (Tk.down (k : Int)) = ms := ⟨_, rfl⟩
          rw [hms] at hlm hv2
          rw [hms, hlm]
          obtain ⟨W3, hW3⟩ : ∃ W, V2.alloc (.cells #[.int .i64 0, .int .i64 0] 26) = W := ⟨_, rfl⟩
          have hb3' : Below V2.heap.size V2 W3 := by rw [← hW3]; exact (Below.refl _ _).alloc (Nat.le_refl _) _
          have hbW3 := Lib.hid (hbV2.out.trans (hb3'.mono hbV2.out.size))
          have hrm := Lib.hid (hv2.keeps (Keeps.of_below hb3')).at.2.2
          have hb13 : Below W1.heap.size W1 W3 := (hb5.out.trans (hB.mono hb5.out.size)).trans (hb3'.mono (by have := hb5.out.size; have := hB.size; omega))
          have hrt := Lib.hid (hS2.out.keeps (Keeps.of_below hb13)).at.2.2
          have hW3' := Lib.hid hW3
          have hms' := Lib.hid hms
          have hlm' := Lib.hid hlm
          clear hW3 hb3' hB hv2 hb13 hms hlm
          go_upto_region 12 with (fail)
          rw [hW3'.out]
          go_wp2_with fail
          go_loopw [14] (fun i W => ∃ j : Nat, j ≤ ts.length ∧ i = .int .i64 j ∧ Hid (Below W3.heap.size W3 W)) (fun i _ => ts.length - (intOf i).toNat)
          case atStart => exact ⟨0, by omega, rfl, Below.refl _ _⟩
          case round =>
            obtain ⟨j, hj, rfl, hbL⟩ := hrel
            obtain ⟨Wr, rfl⟩ : ∃ W, W = wr := ⟨_, rfl⟩
            by_cases hjl : j < ts.length
            · have hji : (j : Int) < (ts.length : Int) := by omega
              have hjm : j < ms.length := by rw [hlm'.out]; exact hjl
              have hmj : ms[j] = (ts[j]).down (k : Int) := by
                have h := hms'.out
                subst h
                simp
              obtain ⟨W4, hW4⟩ : ∃ W, Wr.alloc (.cells #[.int .i64 ts[j].kind, .string (tS ts[j].text), .int .i64 ts[j].num, .int .i64 (ts[j].line + (k : Int)), .int .i64 ts[j].col] 33) = W := ⟨_, rfl⟩
              have hb4 : Below Wr.heap.size Wr W4 := by rw [← hW4]; exact (Below.refl _ _).alloc (Nat.le_refl _) _
              have hx4 : Box5 W4 33 Wr.heap.size (.int .i64 ts[j].kind) (.string (tS ts[j].text)) (.int .i64 ts[j].num) (.int .i64 (ts[j].line + (k : Int))) (.int .i64 ts[j].col) := by rw [← hW4]; exact blk_new (Below.refl _ _)
              have hk4 := Keeps.of_below (hbL.out.trans (hb4.mono hbL.out.size))
              have hbL4 := Lib.hid (hbL.out.trans (hb4.mono hbL.out.size))
              obtain ⟨b, off, rfl, hcT⟩ := (hrt.out.keeps (Keeps.of_below hbL.out)).at (by rintro rfl; simp at hjl)
              obtain ⟨b2, off2, rfl, hcM⟩ := (hrm.out.keeps hk4).at (by intro e; rw [e] at hjm; simp at hjm)
              obtain ⟨g0, g1, g2, g3, g4⟩ := hcT j hjl
              obtain ⟨m0, m1, m2, m3, m4⟩ := hcM j hjm
              rw [hmj] at m0 m1 m2 m3 m4
              obtain ⟨⟨x0, x1, x2, x3, x4⟩, xf⟩ := hx4.cells
              have hbj := hbd.out ts[j] (List.getElem_mem hjl)
              have hl1 : 1 ≤ ts[j].line := hbj.1
              have hl2 : ts[j].line ≤ 5001 := by omega
              have hgd := guard_tk
              have hnq : ∀ w : World, (binOp .neq 33 (.agg #[.int .i64 ts[j].kind, .string (tS ts[j].text), .int .i64 ts[j].num, .int .i64 (ts[j].line + (k : Int)), .int .i64 ts[j].col]) (.agg #[.int .i64 ts[j].kind, .string (tS ts[j].text), .int .i64 ts[j].num, .int .i64 (ts[j].line + (k : Int)), .int .i64 ts[j].col])).run Tryd.prog w = .ok (.bool false) w := fun w => by
                have h := neq_tk w (ts[j].down (k : Int)) (ts[j].down (k : Int))
                rw [decide_eq_true rfl] at h
                exact h
              have m0' : W4.cell? ⟨b2, off2 + j * 5, none⟩ = some (.int .i64 ts[j].kind) := m0
              have m1' : W4.cell? ⟨b2, off2 + j * 5 + 1, none⟩ = some (.string (tS ts[j].text)) := m1
              have m2' : W4.cell? ⟨b2, off2 + j * 5 + 2, none⟩ = some (.int .i64 ts[j].num) := m2
              have m3' : W4.cell? ⟨b2, off2 + j * 5 + 3, none⟩ = some (.int .i64 (ts[j].line + (k : Int))) := m3
              have m4' : W4.cell? ⟨b2, off2 + j * 5 + 4, none⟩ = some (.int .i64 ts[j].col) := m4
              have hjm2 : (j : Int) < (ts.length : Int) := hji
              have hW4' := Lib.hid hW4
              clear m0 m1 m2 m3 m4 hcT hcM hmj hbj hW4 hb4 hk4 hx4
              go_upto_region 19 with (fail)
              rw [hW4'.out]
              go_quiet (fail)
              go_wp2_with fail
              go_roundw
              case rel => exact ⟨j + 1, by omega, by go_num, below_drewN' hbL4.out _⟩
              case measure => simp [intOf]; omega
            · go_wp2_with fail
              go_ret
              exact ⟨rfl, hbW3.out.trans (hbL.out.mono hbW3.out.size)⟩
end Go.Proofs.YtchdfjihflmloaaDoor
