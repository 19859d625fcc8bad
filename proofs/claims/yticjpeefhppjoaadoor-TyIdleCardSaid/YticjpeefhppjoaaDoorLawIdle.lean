/- dawdlerlaw08.TyIdle answers true. -/
import Derived.Test.YticjpeefhppjoaaDoorTyAw
import Derived.Test.YticjpeefhppjoaaDoorTyPl
import Derived.Deep.CutRange
import Derived.Deep.RegionHeld3
namespace Go.Proofs.YticjpeefhppjoaaDoor
open Go.RowKit

set_option maxHeartbeats 4000000 in
set_option maxRecDepth 100000 in
theorem law_in (v : Value) (l : List Int) (n : Int) (w : World) (h : IntSl w v l) (hl : l.length ≤ 1000000) : Calls Tryd.prog 27 #[v, .int .i64 n] w fun r w' => r = .returned (.bool (decide (n ∈ l))) ∧ Below w.heap.size w w' := by
  obtain ⟨a, c, rfl⟩ := h.form
  have h' := Lib.hid h
  clear h
  go_enter Tryd.func27, Tryd.ntmps27
  go_wp2_with fail
  go_loopw [5] (fun i wr => ∃ k : Nat, k ≤ l.length ∧ i = .int .i64 k ∧ Hid (n ∉ l.take k) ∧ Below w.heap.size w wr) (fun i _ => l.length - (intOf i).toNat)
  case atStart => exact ⟨0, by omega, rfl, (by unfold Hid; simp), Below.refl _ _⟩
  case round =>
    obtain ⟨k, hk, rfl, hn, hB⟩ := hrel
    by_cases h1 : k < l.length
    · obtain ⟨b, off, rfl, hc⟩ := (h'.out.keeps (Keeps.of_below hB)).at.2 (by rintro rfl; simp at h1)
      have g0 := hc k h1
      clear hc
      by_cases he : l[k] = n
      · have hin : Hid (decide (n ∈ l) = true) := decide_eq_true (by rw [← he]; exact List.getElem_mem h1)
        go_wp2_with fail
        go_ret
        exact ⟨ret_bool hin.out.symm, hB⟩
      · have hn2 : Hid (n ∉ l.take (k + 1)) := by
          unfold Hid
          rw [List.take_succ_eq_append_getElem h1]
          intro h
          rcases List.mem_append.1 h with h | h
          · exact hn.out h
          · exact he (List.mem_singleton.1 h).symm
        go_wp2_with fail
        go_roundw
        case rel => exact ⟨k + 1, by omega, by go_num, hn2, hB⟩
        case measure => simp [intOf]; omega
    · have e : k = l.length := by omega
      have hin : Hid (decide (n ∈ l) = false) := decide_eq_false (by have := hn.out; rw [e, List.take_length] at this; exact this)
      clear e
      go_wp2_with fail
      go_ret
      exact ⟨ret_bool hin.out.symm, hB⟩

theorem faRow1 {w : World} {b : Nat} {n : Int} {v0 v1 v2 : Value} {e : Ty} (hb : w.heap[b]? = some (.cells #[.int .i64 n, v0, v1, v2] 34 (0, 0))) (hn : In64 n) (he : IsTy w (.agg #[v0, v1, v2]) e) : FaRow (fun _ => False) w (some ⟨b, 0, none⟩) [⟨n, e⟩] := by
  refine .inr ⟨b, 0, rfl, fun h => h, fun i hi => ?_⟩
  have : i = 0 := by simp at hi; omega
  subst this
  have hq : ∀ j, w.cell? ⟨b, j, none⟩ = (#[.int .i64 n, v0, v1, v2] : Array Value)[j]? := fun j => by simp [World.cell?, hb]
  exact ⟨_, v0, v1, v2, hq 0, hq 1, hq 2, hq 3, v0, v1, v2, rfl, hn, he⟩

set_option maxHeartbeats 4000000 in
set_option maxRecDepth 100000 in
theorem idle_c (e b : Ty) (x : Int) (v u : Value) (w : World) (hv : IsTy w v e) (hu : IsTy w u b) (hx0 : 0 ≤ x) (hx9 : x ≤ 65535) (ht : Tab w) : Calls Tryd.prog 10 #[v, .int .u16 x, u] w fun r w' => r = .returned (.bool true) ∧ Below w.heap.size w w' := by
  obtain ⟨s, n, l⟩ := e
  obtain ⟨a1, c1, rfl, _⟩ := hv.open
  obtain ⟨s', n', l'⟩ := b
  obtain ⟨a2, c2, rfl, _⟩ := hu.open
  obtain ⟨W1, hW1⟩ : ∃ W, (w.alloc (.cells #[.string s, .int .i64 n, .slice a1 l.length c1] 24)).alloc (.cells #[.string s', .int .i64 n', .slice a2 l'.length c2] 24) = W := ⟨_, rfl⟩
  have hb1 : Below w.heap.size w W1 := by rw [← hW1]; exact ((Below.refl _ w).alloc (Nat.le_refl _) _).alloc (by simp) _
  have hz1 : W1.heap.size = w.heap.size + 2 := by rw [← hW1]; simp
  have x1 : BoxT W1 w.heap.size (.string s) (.int .i64 n) (.slice a1 l.length c1) := by rw [← hW1]; exact new_block ((Below.refl _ _).alloc (by simp) _)
  have x2 : BoxT W1 (w.heap.size + 1) (.string s') (.int .i64 n') (.slice a2 l'.length c2) := by rw [← hW1]; exact new_block2 (Below.refl _ _)
  have hS : Hid (∀ V, Below W1.heap.size W1 V → (V.cell? ⟨w.heap.size, 0, none⟩ = some (.string s) ∧ V.cell? ⟨w.heap.size, 1, none⟩ = some (.int .i64 n) ∧ V.cell? ⟨w.heap.size, 2, none⟩ = some (.slice a1 l.length c1)) ∧ (V.cell? ⟨w.heap.size + 1, 0, none⟩ = some (.string s') ∧ V.cell? ⟨w.heap.size + 1, 1, none⟩ = some (.int .i64 n') ∧ V.cell? ⟨w.heap.size + 1, 2, none⟩ = some (.slice a2 l'.length c2))) := fun V hV => ⟨(x1.below hV x1.lt).cells, (x2.below hV x2.lt).cells⟩
  have hI : Hid (∀ V, Below W1.heap.size W1 V → IsTy V (.agg #[.string s, .int .i64 n, .slice a1 l.length c1]) (.mk s n l) ∧ IsTy V (.agg #[.string s', .int .i64 n', .slice a2 l'.length c2]) (.mk s' n' l') ∧ Below w.heap.size w V) := fun V hV => by
    have hwV := hb1.trans (hV.mono (by omega))
    exact ⟨TyX.below hv hwV, TyX.below hu hwV, hwV⟩
  have hW1' := Lib.hid hW1
  have htW := Lib.hid (ht.below hb1)
  clear hv hu ht hW1 hb1 x1 x2
  go_enter Tryd.func10, Tryd.ntmps10
  go_wp2_with fail
  rw [hW1'.out]
  refine (law_awake W1 htW.out).mono ?_
  rintro r V ⟨rfl, hV⟩
  have hV' := Lib.hid hV
  obtain ⟨⟨q0, q1, q2⟩, _⟩ := hS.out V hV
  have hf := Lib.hid (r08_Few _ _ V (hI.out V hV).1)
  clear hV
  cases hfw : fewT (.mk s n l)
  case false =>
    rw [hfw] at hf
    go_wp2_with fail
    refine hf.out.mono ?_
    rintro r V2 ⟨rfl, hV2⟩
    have hfin := Lib.hid ((hI.out V hV'.out).2.2.trans (hV2.mono (hI.out V hV'.out).2.2.size))
    clear q0 q1 q2
    go_wp2_with fail
    go_ret
    exact ⟨ret_bool rfl, hfin.out⟩
  rw [hfw] at hf
  clear hfw
  go_wp2_with fail
  refine hf.out.mono ?_
  rintro r V2 ⟨rfl, hV2⟩
  have h2 := Lib.hid (hV'.out.trans (hV2.mono hV'.out.size))
  clear q0 q1 q2 hf hV2
  obtain ⟨_, ⟨q0, q1, q2⟩⟩ := hS.out V2 h2.out
  have hf := Lib.hid (r08_Few _ _ V2 (hI.out V2 h2.out).2.1)
  cases hfw : fewT (.mk s' n' l')
  case false =>
    rw [hfw] at hf
    go_wp2_with fail
    refine hf.out.mono ?_
    rintro r V3 ⟨rfl, hV3⟩
    have hfin := Lib.hid ((hI.out V2 h2.out).2.2.trans (hV3.mono (hI.out V2 h2.out).2.2.size))
    clear q0 q1 q2
    go_wp2_with fail
    go_ret
    exact ⟨ret_bool rfl, hfin.out⟩
  rw [hfw] at hf
  clear hfw
  go_wp2_with fail
  refine hf.out.mono ?_
  rintro r V3 ⟨rfl, hV3⟩
  have h3 := Lib.hid (h2.out.trans (hV3.mono h2.out.size))
  clear q0 q1 q2 hf hV3
  obtain ⟨⟨q0, q1, q2⟩, _⟩ := hS.out V3 h3.out
  have hf := Lib.hid (ty_Check _ _ V3 (hI.out V3 h3.out).1)
  cases hce : chkT (.mk s n l)
  case false =>
    rw [hce] at hf
    go_wp2_with fail
    refine hf.out.mono ?_
    rintro r V4 ⟨rfl, hV4⟩
    have hfin := Lib.hid ((hI.out V3 h3.out).2.2.trans (hV4.mono (hI.out V3 h3.out).2.2.size))
    clear q0 q1 q2
    go_wp2_with fail
    go_ret
    exact ⟨ret_bool rfl, hfin.out⟩
  rw [hce] at hf
  have hce' := Lib.hid hce
  clear hce
  go_wp2_with fail
  refine hf.out.mono ?_
  rintro r V4 ⟨rfl, hV4⟩
  have h4 := Lib.hid (h3.out.trans (hV4.mono h3.out.size))
  clear q0 q1 q2 hf hV4
  obtain ⟨_, ⟨q0, q1, q2⟩⟩ := hS.out V4 h4.out
  have hf := Lib.hid (ty_Check _ _ V4 (hI.out V4 h4.out).2.1)
  cases hcb : chkT (.mk s' n' l')
  case false =>
    rw [hcb] at hf
    go_wp2_with fail
    refine hf.out.mono ?_
    rintro r V5 ⟨rfl, hV5⟩
    have hfin := Lib.hid ((hI.out V4 h4.out).2.2.trans (hV5.mono (hI.out V4 h4.out).2.2.size))
    clear q0 q1 q2
    go_wp2_with fail
    go_ret
    exact ⟨ret_bool rfl, hfin.out⟩
  rw [hcb] at hf
  have hcb' := Lib.hid hcb
  clear hcb
  go_wp2_with fail
  refine hf.out.mono ?_
  rintro r V5 ⟨rfl, hV5⟩
  have h5 := Lib.hid (h4.out.trans (hV5.mono h4.out.size))
  clear q0 q1 q2 hf hV5
  obtain ⟨⟨q0, q1, q2⟩, _⟩ := hS.out V5 h5.out
  have hh := Lib.hid (ty_Holes _ _ V5 (hI.out V5 h5.out).1)
  obtain ⟨H, hH⟩ : ∃ H, holesC (.mk s n l) = H := ⟨_, rfl⟩
  have hHl : Hid (H.length ≤ 1000000) := by
    unfold Hid
    rw [← hH, holesC_once hce'.out]
    have := onceL_len (allT (.mk s n l))
    have := allT_len (.mk s n l)
    have := chk_cnt hce'.out
    omega
  rw [hH] at hh
  have hH' := Lib.hid hH
  clear hH
  go_wp2_with fail
  refine hh.out.mono ?_
  rintro r V6 ⟨⟨z, rfl, hz⟩, hV6⟩
  have h6 := Lib.hid (h5.out.trans (hV6.mono h5.out.size))
  have hin := Lib.hid (law_in z H x V6 hz hHl.out)
  clear q0 q1 q2 hh hz hV6
  go_wp2_with fail
  refine hin.out.mono ?_
  rintro r V7 ⟨rfl, hV7⟩
  have h7 := Lib.hid (h6.out.trans (hV7.mono h6.out.size))
  have hz7 := h7.out.size
  clear hin hV7
  have hin64 : In64 x := ⟨by omega, by omega⟩
  have hl7 : w.heap.size < V7.heap.size := by omega
  obtain ⟨hE, hB, hw7⟩ := hI.out V7 h7.out
  obtain ⟨⟨q0, q1, q2⟩, ⟨q3, q4, q5⟩⟩ := hS.out V7 h7.out
  have hf7 : Below V7.heap.size V7 (V7.alloc (.cells #[.int .i64 x, .string s', .int .i64 n', .slice a2 l'.length c2] 34)) := (Below.refl _ _).alloc (Nat.le_refl _) _
  have hap := Lib.hid (ty_Apply (some ⟨V7.heap.size, 0, none⟩) 1 [⟨x, .mk s' n' l'⟩] (.mk s n l) _ (V7.alloc (.cells #[.int .i64 x, .string s', .int .i64 n', .slice a2 l'.length c2] 34)) (show 1 ≤ lenMax by unfold lenMax; omega) (faRow1 (new_block (Below.refl _ _)) hin64 (TyX.below hB hf7)) (TyX.below hE hf7))
  obtain ⟨ex, hex⟩ : ∃ ex, putT [⟨x, .mk s' n' l'⟩] (.mk s n l) = ex := ⟨_, rfl⟩
  have hexa : applyT [⟨x, .mk s' n' l'⟩] (.mk s n l) = ex := by
    rw [applyT, if_pos, hex]
    simp only [hce'.out, List.all_cons, List.all_nil, goodF, hcb'.out, Bool.true_and, Bool.and_true, decide_eq_true_eq]
    exact hx0
  rw [hexa] at hap
  have hex' := Lib.hid hex
  have h7f := Lib.hid (h7.out.trans (hf7.mono (by omega)))
  have hf7' := Lib.hid hf7
  clear hex hexa hE hB hw7 hf7
  go_wp2_with fail
  refine hap.out.mono ?_
  rintro r V8 ⟨u8, rfl, hu8, hV8⟩
  obtain ⟨ua, uc, rfl⟩ := hu8.form
  have h8 := Lib.hid (h7f.out.trans (hV8.mono (by simp; omega)))
  have hu8' := Lib.hid hu8
  have hz8 := h8.out.size
  clear q0 q1 q2 q3 q4 q5 hap hu8 hV8
  go_upto_region 7 with (fail)
  obtain ⟨V9, hV9⟩ : ∃ W, V8.alloc (.cells #[.string ex.name, .int .i64 ex.n, .slice ua ex.args.length uc] 24) = W := ⟨_, rfl⟩
  have hB9 : Below V8.heap.size V8 V9 := by rw [← hV9]; exact (Below.refl _ _).alloc (Nat.le_refl _) _
  have hx9 : BoxT V9 V8.heap.size (.string ex.name) (.int .i64 ex.n) (.slice ua ex.args.length uc) := by rw [← hV9]; exact new_block (Below.refl _ _)
  rw [hV9]
  have h9 := Lib.hid (h8.out.trans (hB9.mono (by omega)))
  have hz9 := hB9.size
  have hl9 : w.heap.size < V9.heap.size := by omega
  have hu9 := Lib.hid (TyX.below hu8'.out hB9)
  have hx9' := Lib.hid hx9
  clear hV9 hB9 hx9
  obtain ⟨hE, _, hw9⟩ := hI.out V9 h9.out
  obtain ⟨⟨q0, q1, q2⟩, _⟩ := hS.out V9 h9.out
  have hf9 : Below V9.heap.size V9 (V9.alloc (.cells #[.int .i64 x, .string ⟨#[]⟩, .int .i64 x, .slice none 0 0] 34)) := (Below.refl _ _).alloc (Nat.le_refl _) _
  have hap := Lib.hid (ty_Apply (some ⟨V9.heap.size, 0, none⟩) 1 [⟨x, holeT x⟩] (.mk s n l) _ (V9.alloc (.cells #[.int .i64 x, .string ⟨#[]⟩, .int .i64 x, .slice none 0 0] 34)) (show 1 ≤ lenMax by unfold lenMax; omega) (faRow1 (new_block (Below.refl _ _)) hin64 (hole_is _ hin64)) (TyX.below hE hf9))
  have hyya : applyT [⟨x, holeT x⟩] (.mk s n l) = .mk s n l := by
    rw [applyT, if_pos, show ([⟨x, holeT x⟩] : List Fa) = [⟨x, .mk ⟨#[]⟩ x []⟩] from rfl, idle_self (chk_snd hce'.out)]
    have : chkT (holeT x) = true := by
      simp only [chkT, Bool.and_eq_true, decide_eq_true_eq]
      exact ⟨by simp [holeT, tcnt, tcnt.cntL], sndT_hole hx0 (by omega)⟩
    simp only [hce'.out, List.all_cons, List.all_nil, goodF, this, Bool.true_and, Bool.and_true, decide_eq_true_eq]
    exact hx0
  rw [hyya] at hap
  have h9f := Lib.hid (h9.out.trans (hf9.mono (by omega)))
  have hV9f := Lib.hid hf9
  clear hyya hE hw9 hf9
  go_wp2_with fail
  refine hap.out.mono ?_
  rintro r V10 ⟨u10, rfl, hu10, hV10⟩
  obtain ⟨ub, ud, rfl, _⟩ := hu10.open
  have h910 : Below V9.heap.size V9 V10 := hV9f.out.trans (hV10.mono (by simp))
  have h10 := Lib.hid (h9.out.trans (h910.mono (by omega)))
  have hz10 := h910.size
  have hx10 := Lib.hid (hx9'.out.below h910 hx9'.out.lt)
  have hu10' := Lib.hid hu10
  have hux10 := Lib.hid (TyX.below hu9.out h910)
  clear q0 q1 q2 hap hu10 hV10 h910
  go_upto_region 8 with (fail)
  obtain ⟨V11, hV11⟩ : ∃ W, V10.alloc (.cells #[.string s, .int .i64 n, .slice ub l.length ud] 24) = W := ⟨_, rfl⟩
  have hB11 : Below V10.heap.size V10 V11 := by rw [← hV11]; exact (Below.refl _ _).alloc (Nat.le_refl _) _
  have hx11 : BoxT V11 V10.heap.size (.string s) (.int .i64 n) (.slice ub l.length ud) := by rw [← hV11]; exact new_block (Below.refl _ _)
  rw [hV11]
  have h11 := Lib.hid (h10.out.trans (hB11.mono (by have := h10.out.size; omega)))
  have hx11a := Lib.hid (hx10.out.below hB11 hx10.out.lt)
  have hux11 := Lib.hid (TyX.below hux10.out hB11)
  have hu11 := Lib.hid (TyX.below hu10'.out hB11)
  have hx11' := Lib.hid hx11
  have hS3 : Hid (∀ V, Below V11.heap.size V11 V → (Below V11.heap.size V11 V ∧ (V.cell? ⟨w.heap.size, 0, none⟩ = some (.string s) ∧ V.cell? ⟨w.heap.size, 1, none⟩ = some (.int .i64 n) ∧ V.cell? ⟨w.heap.size, 2, none⟩ = some (.slice a1 l.length c1)) ∧ (V.cell? ⟨w.heap.size + 1, 0, none⟩ = some (.string s') ∧ V.cell? ⟨w.heap.size + 1, 1, none⟩ = some (.int .i64 n') ∧ V.cell? ⟨w.heap.size + 1, 2, none⟩ = some (.slice a2 l'.length c2)) ∧ (V.cell? ⟨V8.heap.size, 0, none⟩ = some (.string ex.name) ∧ V.cell? ⟨V8.heap.size, 1, none⟩ = some (.int .i64 ex.n) ∧ V.cell? ⟨V8.heap.size, 2, none⟩ = some (.slice ua ex.args.length uc)) ∧ V.cell? ⟨V10.heap.size, 0, none⟩ = some (.string s) ∧ V.cell? ⟨V10.heap.size, 1, none⟩ = some (.int .i64 n) ∧ V.cell? ⟨V10.heap.size, 2, none⟩ = some (.slice ub l.length ud))) := by
    intro V hV
    obtain ⟨c1, c2⟩ := hS.out V (h11.out.trans (hV.mono h11.out.size))
    exact ⟨hV, c1, c2, (hx11a.out.below hV hx11a.out.lt).cells, (hx11'.out.below hV hx11'.out.lt).cells⟩
  have hI3 : Hid (∀ V, Below V11.heap.size V11 V → IsTy V (.agg #[.string s, .int .i64 n, .slice a1 l.length c1]) (.mk s n l) ∧ IsTy V (.agg #[.string s', .int .i64 n', .slice a2 l'.length c2]) (.mk s' n' l') ∧ IsTy V (.agg #[.string ex.name, .int .i64 ex.n, .slice ua ex.args.length uc]) ex ∧ IsTy V (.agg #[.string s, .int .i64 n, .slice ub l.length ud]) (.mk s n l) ∧ Below w.heap.size w V) := by
    intro V hV
    obtain ⟨e1, e2, e3⟩ := hI.out V (h11.out.trans (hV.mono h11.out.size))
    exact ⟨e1, e2, TyX.below hux11.out hV, TyX.below hu11.out hV, e3⟩
  clear hV11 hB11 hx11
  go_cut [12] from 52 to 67 (fun s12 U => s12 = .bool true ∧ Below V11.heap.size V11 U)
  case first =>
    obtain ⟨_, _, ⟨q0, q1, q2⟩, _⟩ := hS3.out V11 (Below.refl _ _)
    have hh := Lib.hid (ty_Holes _ _ V11 (hI3.out V11 (Below.refl _ _)).2.1)
    obtain ⟨G, hG⟩ : ∃ G, holesC (.mk s' n' l') = G := ⟨_, rfl⟩
    have hGl : Hid (G.length ≤ 1000000) := by
      unfold Hid
      rw [← hG, holesC_once hcb'.out]
      have := onceL_len (allT (.mk s' n' l'))
      have := allT_len (.mk s' n' l')
      have := chk_cnt hcb'.out
      omega
    have hGm : x ∈ G ↔ x ∈ allT (.mk s' n' l') := by rw [← hG, holesC_once hcb'.out, onceL_mem]
    have hGm' := Lib.hid hGm
    rw [hG] at hh
    clear hG hGm
    go_wp2_with fail
    refine hh.out.mono ?_
    rintro r Va ⟨⟨z, rfl, hz⟩, hVa⟩
    have hin := Lib.hid (law_in z G x Va hz hGl.out)
    clear q0 q1 q2 hh hz
    go_wp2_with fail
    refine hin.out.mono ?_
    rintro r Vb ⟨rfl, hVb⟩
    have hb := Lib.hid (hVa.trans (hVb.mono hVa.size))
    clear hin hVa hVb
    cases hg : decide (x ∈ G)
    case true =>
      go_wp2_with fail
      go_meet
      case rel => exact ⟨rfl, hb.out⟩
    have hgn : x ∉ allT (.mk s' n' l') := fun h => by rw [decide_eq_true (hGm'.out.2 h)] at hg; cases hg
    have hgn' := Lib.hid hgn
    clear hgn
    obtain ⟨_, _, _, ⟨q0, q1, q2⟩, _⟩ := hS3.out Vb hb.out
    have hc := Lib.hid (ty_Check _ _ Vb (hI3.out Vb hb.out).2.2.1)
    cases hcx : chkT ex
    all_goals
      rw [hcx] at hc
      go_wp2_with fail
      refine hc.out.mono ?_
      rintro r Vc ⟨rfl, hVc⟩
      have hcB := Lib.hid (hb.out.trans (hVc.mono hb.out.size))
      clear q0 q1 q2 hc hVc
    · go_wp2_with fail
      go_meet
      case rel => exact ⟨rfl, hcB.out⟩
    obtain ⟨_, _, _, ⟨q0, q1, q2⟩, _⟩ := hS3.out Vc hcB.out
    have hh := Lib.hid (ty_Holes _ _ Vc (hI3.out Vc hcB.out).2.2.1)
    obtain ⟨X, hX⟩ : ∃ X, holesC ex = X := ⟨_, rfl⟩
    have hXl : Hid (X.length ≤ 1000000) := by
      unfold Hid
      rw [← hX, holesC_once hcx]
      have := onceL_len (allT ex)
      have := allT_len ex
      have := chk_cnt hcx
      omega
    have hXn : x ∉ X := by
      rw [← hX, holesC_once hcx, onceL_mem, ← hex'.out]
      exact idle_gone hgn'.out
    have hXd : Hid (decide (x ∈ X) = false) := decide_eq_false hXn
    rw [hX] at hh
    clear hX hXn hcx
    go_wp2_with fail
    refine hh.out.mono ?_
    rintro r Vd ⟨⟨z, rfl, hz⟩, hVd⟩
    have hin := law_in z X x Vd hz hXl.out
    rw [hXd.out] at hin
    have hin' := Lib.hid hin
    have hdB := Lib.hid (hcB.out.trans (hVd.mono hcB.out.size))
    clear q0 q1 q2 hh hz hin hVd
    go_wp2_with fail
    refine hin'.out.mono ?_
    rintro r Ve ⟨rfl, hVe⟩
    have heB := Lib.hid (hdB.out.trans (hVe.mono hdB.out.size))
    clear hVe
    go_wp2_with fail
    go_meet
    case rel => exact ⟨rfl, heB.out⟩
  case rest =>
  obtain ⟨rfl, hUc⟩ := hcut
  obtain ⟨U, rfl⟩ : ∃ U, U = wc := ⟨_, rfl⟩
  have hU' := Lib.hid hUc
  clear hUc
  obtain ⟨_, ⟨q0, q1, q2⟩, _, ⟨q3, q4, q5⟩, ⟨q6, q7, q8⟩⟩ := hS3.out U hU'.out
  have hsx := Lib.hid (r08_Same _ _ _ _ U (hI3.out U hU'.out).2.2.1 (hI3.out U hU'.out).1)
  cases hhx : decide (x ∈ H)
  case false =>
    have hn : x ∉ H := fun h => by rw [decide_eq_true h] at hhx; cases hhx
    have he : ex = .mk s n l := by
      rw [← hex'.out]
      exact idle_put (chk_snd hce'.out) (fun h => hn (by rw [← hH'.out, holesC_once hce'.out, onceL_mem]; exact h))
    rw [eqB_true he] at hsx
    clear hn he
    go_wp2_with fail
    refine hsx.out.mono ?_
    rintro r Ua ⟨rfl, hUa⟩
    have ha := Lib.hid (hU'.out.trans (hUa.mono hU'.out.size))
    clear q0 q1 q2 q3 q4 q5 q6 q7 q8 hsx hUa
    obtain ⟨_, ⟨q0, q1, q2⟩, _, _, ⟨q6, q7, q8⟩⟩ := hS3.out Ua ha.out
    have hsy := Lib.hid (r08_Same _ _ _ _ Ua (hI3.out Ua ha.out).2.2.2.1 (hI3.out Ua ha.out).1)
    rw [eqB_true rfl] at hsy
    go_wp2_with fail
    refine hsy.out.mono ?_
    rintro r Ub ⟨rfl, hUb⟩
    have hfin := Lib.hid ((hI3.out Ua ha.out).2.2.2.2.trans (hUb.mono (hI3.out Ua ha.out).2.2.2.2.size))
    clear q0 q1 q2 q6 q7 q8
    go_wp2_with fail
    go_ret
    exact ⟨ret_bool rfl, hfin.out⟩
  have hsy := Lib.hid (r08_Same _ _ _ _ U (hI3.out U hU'.out).2.2.2.1 (hI3.out U hU'.out).1)
  rw [eqB_true rfl] at hsy
  go_wp2_with fail
  refine hsy.out.mono ?_
  rintro r Ub ⟨rfl, hUb⟩
  have hfin := Lib.hid ((hI3.out U hU'.out).2.2.2.2.trans (hUb.mono (hI3.out U hU'.out).2.2.2.2.size))
  clear q0 q1 q2 q3 q4 q5 q6 q7 q8
  go_wp2_with fail
  go_ret
  exact ⟨ret_bool rfl, hfin.out⟩
end Go.Proofs.YticjpeefhppjoaaDoor
