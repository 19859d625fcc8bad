/- dawdlerlaw08.TyTurns answers true. -/
import Derived.Test.YticjpeefhppjoaaDoorTyAw
import Derived.Test.YticjpeefhppjoaaDoorTyTm
import Derived.Deep.RegionHeld3
namespace Go.Proofs.YticjpeefhppjoaaDoor
open Go.RowKit

set_option maxHeartbeats 4000000 in
set_option maxRecDepth 100000 in
theorem turns_c (a b c : Ty) (va vb vc : Value) (w : World) (hva : IsTy w va a) (hvb : IsTy w vb b) (hvc : IsTy w vc c) (ht : Tab w) : Calls Tryd.prog 9 #[va, vb, vc] w fun r w' => r = .returned (.bool true) ∧ Below w.heap.size w w' := by
  have h64 : Hid (∀ m ∈ allT a ++ allT b, In64 m) := fun m hm => by
    rcases List.mem_append.1 hm with h | h
    · exact all_in64 hva m h
    · exact all_in64 hvb m h
  have h64c : Hid (∀ m ∈ allT c, In64 m) := all_in64 hvc
  obtain ⟨s, n, l⟩ := a
  obtain ⟨a1, c1, rfl, _⟩ := hva.open
  obtain ⟨s', n', l'⟩ := b
  obtain ⟨a2, c2, rfl, _⟩ := hvb.open
  obtain ⟨s'', n'', l''⟩ := c
  obtain ⟨a3, c3, rfl, _⟩ := hvc.open
  obtain ⟨W1, hW1⟩ : ∃ W, ((w.alloc (.cells #[.string s, .int .i64 n, .slice a1 l.length c1] 24)).alloc (.cells #[.string s', .int .i64 n', .slice a2 l'.length c2] 24)).alloc (.cells #[.string s'', .int .i64 n'', .slice a3 l''.length c3] 24) = W := ⟨_, rfl⟩
  have hb1 : Below w.heap.size w W1 := by rw [← hW1]; exact (((Below.refl _ w).alloc (Nat.le_refl _) _).alloc (by simp) _).alloc (by simp <;> omega) _
  have hz1 : W1.heap.size = w.heap.size + 3 := by rw [← hW1]; simp
  have x1 : BoxT W1 w.heap.size (.string s) (.int .i64 n) (.slice a1 l.length c1) := by rw [← hW1]; exact new_block (((Below.refl _ _).alloc (by simp) _).alloc (by simp <;> omega) _)
  have x2 : BoxT W1 (w.heap.size + 1) (.string s') (.int .i64 n') (.slice a2 l'.length c2) := by rw [← hW1]; exact new_block2 ((Below.refl _ _).alloc (by simp <;> omega) _)
  have x3 : BoxT W1 (w.heap.size + 1 + 1) (.string s'') (.int .i64 n'') (.slice a3 l''.length c3) := by
    rw [← hW1]
    have := new_block (w := ((w.alloc (.cells #[.string s, .int .i64 n, .slice a1 l.length c1] 24)).alloc (.cells #[.string s', .int .i64 n', .slice a2 l'.length c2] 24))) (vs := #[.string s'', .int .i64 n'', .slice a3 l''.length c3]) (t := 24) (Below.refl _ _)
    simp only [World.size_alloc] at this
    exact this
  have hS : Hid (∀ V, Below W1.heap.size W1 V → (V.cell? ⟨w.heap.size, 0, none⟩ = some (.string s) ∧ V.cell? ⟨w.heap.size, 1, none⟩ = some (.int .i64 n) ∧ V.cell? ⟨w.heap.size, 2, none⟩ = some (.slice a1 l.length c1))∧ (V.cell? ⟨w.heap.size + 1, 0, none⟩ = some (.string s') ∧ V.cell? ⟨w.heap.size + 1, 1, none⟩ = some (.int .i64 n') ∧ V.cell? ⟨w.heap.size + 1, 2, none⟩ = some (.slice a2 l'.length c2))∧ (V.cell? ⟨w.heap.size + 1 + 1, 0, none⟩ = some (.string s'') ∧ V.cell? ⟨w.heap.size + 1 + 1, 1, none⟩ = some (.int .i64 n'') ∧ V.cell? ⟨w.heap.size + 1 + 1, 2, none⟩ = some (.slice a3 l''.length c3))) := fun V hV => ⟨(x1.below hV x1.lt).cells, (x2.below hV x2.lt).cells, (x3.below hV x3.lt).cells⟩
  have hI : Hid (∀ V, Below W1.heap.size W1 V → IsTy V (.agg #[.string s, .int .i64 n, .slice a1 l.length c1]) (.mk s n l) ∧ IsTy V (.agg #[.string s', .int .i64 n', .slice a2 l'.length c2]) (.mk s' n' l') ∧ IsTy V (.agg #[.string s'', .int .i64 n'', .slice a3 l''.length c3]) (.mk s'' n'' l'') ∧ Below w.heap.size w V) := fun V hV => by
    have hwV := hb1.trans (hV.mono (by omega))
    exact ⟨TyX.below hva hwV, TyX.below hvb hwV, TyX.below hvc hwV, hwV⟩
  have hW1' := Lib.hid hW1
  have htW := Lib.hid (ht.below hb1)
  clear hva hvb hvc ht hW1 hb1 x1 x2 x3
  go_enter Tryd.func9, Tryd.ntmps9
  go_wp2_with fail
  rw [hW1'.out]
  refine (law_awake W1 htW.out).mono ?_
  rintro r V ⟨rfl, hV⟩
  have h0 := Lib.hid hV
  clear hV
  obtain ⟨⟨q0, q1, q2⟩, _⟩ := hS.out V h0.out
  have hf := Lib.hid (r08_Few _ _ V (hI.out V h0.out).1)
  cases hfw : fewT (.mk s n l)
  case false =>
    rw [hfw] at hf
    go_wp2_with fail
    refine hf.out.mono ?_
    rintro r Vq ⟨rfl, hVq⟩
    have hfin := Lib.hid ((hI.out V h0.out).2.2.2.trans (hVq.mono (hI.out V h0.out).2.2.2.size))
    clear q0 q1 q2
    go_wp2_with fail
    go_ret
    exact ⟨ret_bool rfl, hfin.out⟩
  rw [hfw] at hf
  clear hfw
  go_wp2_with fail
  refine hf.out.mono ?_
  rintro r V2 ⟨rfl, hVq⟩
  have h1 := Lib.hid (h0.out.trans (hVq.mono h0.out.size))
  clear q0 q1 q2 hf hVq
  obtain ⟨_, ⟨q0, q1, q2⟩, _⟩ := hS.out V2 h1.out
  have hf := Lib.hid (r08_Few _ _ V2 (hI.out V2 h1.out).2.1)
  cases hfw : fewT (.mk s' n' l')
  case false =>
    rw [hfw] at hf
    go_wp2_with fail
    refine hf.out.mono ?_
    rintro r Vq ⟨rfl, hVq⟩
    have hfin := Lib.hid ((hI.out V2 h1.out).2.2.2.trans (hVq.mono (hI.out V2 h1.out).2.2.2.size))
    clear q0 q1 q2
    go_wp2_with fail
    go_ret
    exact ⟨ret_bool rfl, hfin.out⟩
  rw [hfw] at hf
  clear hfw
  go_wp2_with fail
  refine hf.out.mono ?_
  rintro r V3 ⟨rfl, hVq⟩
  have h2 := Lib.hid (h1.out.trans (hVq.mono h1.out.size))
  clear q0 q1 q2 hf hVq
  obtain ⟨_, _, ⟨q0, q1, q2⟩⟩ := hS.out V3 h2.out
  have hf := Lib.hid (r08_Few _ _ V3 (hI.out V3 h2.out).2.2.1)
  cases hfw : fewT (.mk s'' n'' l'')
  case false =>
    rw [hfw] at hf
    go_wp2_with fail
    refine hf.out.mono ?_
    rintro r Vq ⟨rfl, hVq⟩
    have hfin := Lib.hid ((hI.out V3 h2.out).2.2.2.trans (hVq.mono (hI.out V3 h2.out).2.2.2.size))
    clear q0 q1 q2
    go_wp2_with fail
    go_ret
    exact ⟨ret_bool rfl, hfin.out⟩
  rw [hfw] at hf
  clear hfw
  go_wp2_with fail
  refine hf.out.mono ?_
  rintro r V4 ⟨rfl, hVq⟩
  have h3 := Lib.hid (h2.out.trans (hVq.mono h2.out.size))
  clear q0 q1 q2 hf hVq
  obtain ⟨⟨q0, q1, q2⟩, ⟨q3, q4, q5⟩, ⟨q6, q7, q8⟩⟩ := hS.out V4 h3.out
  have hz4 : w.heap.size + 3 ≤ V4.heap.size := by have := h3.out.size; omega
  have l0 : w.heap.size < V4.heap.size := by omega
  have l1 : w.heap.size + 1 < V4.heap.size := by omega
  have l2 : w.heap.size + 1 + 1 < V4.heap.size := by omega
  go_upto_region 6 with (fail)
  obtain ⟨D, hD⟩ : ∃ W, (((V4.alloc (.cells #[.string s, .int .i64 n, .slice a1 l.length c1, .string s'', .int .i64 n'', .slice a3 l''.length c3] 24)).alloc (.cells #[.string ⟨#[80]⟩, .int .i64 0, .slice (some ⟨V4.heap.size, 0, none⟩) 2 2] 24)).alloc (.cells #[.string s', .int .i64 n', .slice a2 l'.length c2, .string s'', .int .i64 n'', .slice a3 l''.length c3] 24)).alloc (.cells #[.string ⟨#[80]⟩, .int .i64 0, .slice (some ⟨V4.heap.size + 1 + 1, 0, none⟩) 2 2] 24) = W := ⟨_, rfl⟩
  have hbD : Below V4.heap.size V4 D := by rw [← hD]; exact ((((Below.refl _ _).alloc (Nat.le_refl _) _).alloc (by simp) _).alloc (by simp <;> omega) _).alloc (by simp <;> omega) _
  have hzD : V4.heap.size + 4 = D.heap.size := by rw [← hD]; simp
  have y1 : D.heap[V4.heap.size]? = some (.cells #[.string s, .int .i64 n, .slice a1 l.length c1, .string s'', .int .i64 n'', .slice a3 l''.length c3] 24 (0, 0)) := by rw [← hD]; exact new_block ((((Below.refl _ _).alloc (by simp) _).alloc (by simp <;> omega) _).alloc (by simp <;> omega) _)
  have y2 : BoxT D (V4.heap.size + 1) (.string ⟨#[80]⟩) (.int .i64 0) (.slice (some ⟨V4.heap.size, 0, none⟩) 2 2) := by rw [← hD]; exact new_block2 (((Below.refl _ _).alloc (by simp <;> omega) _).alloc (by simp <;> omega) _)
  have y3 : D.heap[V4.heap.size + 1 + 1]? = some (.cells #[.string s', .int .i64 n', .slice a2 l'.length c2, .string s'', .int .i64 n'', .slice a3 l''.length c3] 24 (0, 0)) := by
    rw [← hD]
    have := new_block (w := ((V4.alloc (.cells #[.string s, .int .i64 n, .slice a1 l.length c1, .string s'', .int .i64 n'', .slice a3 l''.length c3] 24)).alloc (.cells #[.string ⟨#[80]⟩, .int .i64 0, .slice (some ⟨V4.heap.size, 0, none⟩) 2 2] 24))) (vs := #[.string s', .int .i64 n', .slice a2 l'.length c2, .string s'', .int .i64 n'', .slice a3 l''.length c3]) (t := 24) ((Below.refl _ _).alloc (by simp) (.cells #[.string ⟨#[80]⟩, .int .i64 0, .slice (some ⟨V4.heap.size + 1 + 1, 0, none⟩) 2 2] 24))
    simp only [World.size_alloc] at this
    exact this
  have y4 : BoxT D (V4.heap.size + 1 + 1 + 1) (.string ⟨#[80]⟩) (.int .i64 0) (.slice (some ⟨V4.heap.size + 1 + 1, 0, none⟩) 2 2) := by
    rw [← hD]
    have := new_block (w := (((V4.alloc (.cells #[.string s, .int .i64 n, .slice a1 l.length c1, .string s'', .int .i64 n'', .slice a3 l''.length c3] 24)).alloc (.cells #[.string ⟨#[80]⟩, .int .i64 0, .slice (some ⟨V4.heap.size, 0, none⟩) 2 2] 24)).alloc (.cells #[.string s', .int .i64 n', .slice a2 l'.length c2, .string s'', .int .i64 n'', .slice a3 l''.length c3] 24))) (vs := #[.string ⟨#[80]⟩, .int .i64 0, .slice (some ⟨V4.heap.size + 1 + 1, 0, none⟩) 2 2]) (t := 24) (Below.refl _ _)
    simp only [World.size_alloc] at this
    exact this
  rw [hD]
  have sz3 : ByteArray.size (⟨#[80]⟩ : Str) ≤ lenMax := show 1 ≤ lenMax by unfold lenMax; omega
  have hS2 : Hid (∀ V, Below D.heap.size D V → ((V.cell? ⟨w.heap.size, 0, none⟩ = some (.string s) ∧ V.cell? ⟨w.heap.size, 1, none⟩ = some (.int .i64 n) ∧ V.cell? ⟨w.heap.size, 2, none⟩ = some (.slice a1 l.length c1))∧ (V.cell? ⟨w.heap.size + 1, 0, none⟩ = some (.string s') ∧ V.cell? ⟨w.heap.size + 1, 1, none⟩ = some (.int .i64 n') ∧ V.cell? ⟨w.heap.size + 1, 2, none⟩ = some (.slice a2 l'.length c2))∧ (V.cell? ⟨w.heap.size + 1 + 1, 0, none⟩ = some (.string s'') ∧ V.cell? ⟨w.heap.size + 1 + 1, 1, none⟩ = some (.int .i64 n'') ∧ V.cell? ⟨w.heap.size + 1 + 1, 2, none⟩ = some (.slice a3 l''.length c3))) ∧ (V.cell? ⟨V4.heap.size + 1, 0, none⟩ = some (.string ⟨#[80]⟩) ∧ V.cell? ⟨V4.heap.size + 1, 1, none⟩ = some (.int .i64 0) ∧ V.cell? ⟨V4.heap.size + 1, 2, none⟩ = some (.slice (some ⟨V4.heap.size, 0, none⟩) 2 2)) ∧ (V.cell? ⟨V4.heap.size + 1 + 1 + 1, 0, none⟩ = some (.string ⟨#[80]⟩) ∧ V.cell? ⟨V4.heap.size + 1 + 1 + 1, 1, none⟩ = some (.int .i64 0) ∧ V.cell? ⟨V4.heap.size + 1 + 1 + 1, 2, none⟩ = some (.slice (some ⟨V4.heap.size + 1 + 1, 0, none⟩) 2 2))) := fun V hV => ⟨hS.out V (h3.out.trans ((hbD.trans (hV.mono (by omega))).mono h3.out.size)), (y2.below hV y2.lt).cells, (y4.below hV y4.lt).cells⟩
  have hI2 : Hid (∀ V, Below D.heap.size D V → (IsTy V (.agg #[.string s, .int .i64 n, .slice a1 l.length c1]) (.mk s n l) ∧ IsTy V (.agg #[.string s', .int .i64 n', .slice a2 l'.length c2]) (.mk s' n' l') ∧ IsTy V (.agg #[.string s'', .int .i64 n'', .slice a3 l''.length c3]) (.mk s'' n'' l'') ∧ Below w.heap.size w V) ∧ IsTy V (.agg #[.string ⟨#[80]⟩, .int .i64 0, .slice (some ⟨V4.heap.size, 0, none⟩) 2 2]) (.mk ⟨#[80]⟩ 0 [(.mk s n l), (.mk s'' n'' l'')]) ∧ IsTy V (.agg #[.string ⟨#[80]⟩, .int .i64 0, .slice (some ⟨V4.heap.size + 1 + 1, 0, none⟩) 2 2]) (.mk ⟨#[80]⟩ 0 [(.mk s' n' l'), (.mk s'' n'' l'')])) := by
    intro V hV
    obtain ⟨e1, e2, e3, e4⟩ := hI.out V (h3.out.trans ((hbD.trans (hV.mono (by omega))).mono h3.out.size))
    have z1 := (hV.block V4.heap.size (by omega)).trans y1
    have z3 := (hV.block (V4.heap.size + 1 + 1) (by omega)).trans y3
    have hq : ∀ j, V.cell? ⟨V4.heap.size, j, none⟩ = (#[.string s, .int .i64 n, .slice a1 l.length c1, .string s'', .int .i64 n'', .slice a3 l''.length c3] : Array Value)[j]? := fun j => by simp [World.cell?, z1]
    have hq3 : ∀ j, V.cell? ⟨V4.heap.size + 1 + 1, j, none⟩ = (#[.string s', .int .i64 n', .slice a2 l'.length c2, .string s'', .int .i64 n'', .slice a3 l''.length c3] : Array Value)[j]? := fun j => by simp [World.cell?, z3]
    exact ⟨⟨e1, e2, e3, e4⟩, ty2_is sz3 (row2 (hq 0) (hq 1) (hq 2) (hq 3) (hq 4) (hq 5) e1 e3), ty2_is sz3 (row2 (hq3 0) (hq3 1) (hq3 2) (hq3 3) (hq3 4) (hq3 5) e2 e3)⟩
  clear q0 q1 q2 q3 q4 q5 q6 q7 q8 y1 y2 y3 y4 hD hbD
  have hd0 := Lib.hid (Below.refl D.heap.size D)
  obtain ⟨_, ⟨q0, q1, q2⟩, _⟩ := hS2.out D hd0.out
  have hf := Lib.hid (ty_Check _ _ D (hI2.out D hd0.out).2.1)
  cases hc : chkT (.mk ⟨#[80]⟩ 0 [(.mk s n l), (.mk s'' n'' l'')])
  case false =>
    rw [hc] at hf
    go_wp2_with fail
    refine hf.out.mono ?_
    rintro r Vq ⟨rfl, hVq⟩
    have hfin := Lib.hid ((hI2.out D hd0.out).1.2.2.2.trans (hVq.mono (hI2.out D hd0.out).1.2.2.2.size))
    clear q0 q1 q2
    go_wp2_with fail
    go_ret
    exact ⟨ret_bool rfl, hfin.out⟩
  rw [hc] at hf
  have hcx := Lib.hid hc
  clear hc
  go_wp2_with fail
  refine hf.out.mono ?_
  rintro r V5 ⟨rfl, hVq⟩
  have hd1 := Lib.hid (hd0.out.trans (hVq.mono hd0.out.size))
  clear q0 q1 q2 hf hVq
  obtain ⟨_, _, ⟨q0, q1, q2⟩⟩ := hS2.out V5 hd1.out
  have hf := Lib.hid (ty_Check _ _ V5 (hI2.out V5 hd1.out).2.2)
  cases hc : chkT (.mk ⟨#[80]⟩ 0 [(.mk s' n' l'), (.mk s'' n'' l'')])
  case false =>
    rw [hc] at hf
    go_wp2_with fail
    refine hf.out.mono ?_
    rintro r Vq ⟨rfl, hVq⟩
    have hfin := Lib.hid ((hI2.out V5 hd1.out).1.2.2.2.trans (hVq.mono (hI2.out V5 hd1.out).1.2.2.2.size))
    clear q0 q1 q2
    go_wp2_with fail
    go_ret
    exact ⟨ret_bool rfl, hfin.out⟩
  rw [hc] at hf
  have hcy := Lib.hid hc
  clear hc
  go_wp2_with fail
  refine hf.out.mono ?_
  rintro r V6 ⟨rfl, hVq⟩
  have hd2 := Lib.hid (hd1.out.trans (hVq.mono hd1.out.size))
  clear q0 q1 q2 hf hVq
  have hca := chk_arg hcx.out (.mk s n l) (by simp)
  have hcc := chk_arg hcx.out (.mk s'' n'' l'') (by simp)
  have hcb := chk_arg hcy.out (.mk s' n' l') (by simp)
  obtain ⟨r1, hr1⟩ := ans_exists hca hcb h64.out
  have hp : holeS (⟨#[80]⟩ : Str) = false := by rw [holeS_size]; rfl
  obtain ⟨r2, hr2⟩ := ans_exists hcx.out hcy.out (fun m hm => by
    rw [allT_mk, allT_mk, if_neg (by rw [hp]; simp), if_neg (by rw [hp]; simp)] at hm
    simp only [List.flatMap_cons, List.flatMap_nil, List.append_nil, List.mem_append] at hm
    rcases hm with (h | h) | h | h
    · exact h64.out m (List.mem_append.2 (.inl h))
    · exact h64c.out m h
    · exact h64.out m (List.mem_append.2 (.inr h))
    · exact h64c.out m h)
  obtain ⟨r3, hr3⟩ := ans_exists hca hca (fun m hm => by
    rcases List.mem_append.1 hm with h | h <;> exact h64.out m (List.mem_append.2 (.inl h)))
  have e12 := hr1.same hr2 fun th => (sub_pair hp (.mk s n l) (.mk s' n' l') (.mk s'' n'' l'')).symm
  have e3 := hr3.self
  subst e12 e3
  have hlen := hr1.len hca hcb
  obtain ⟨f1, hu1⟩ := hr1.uni
  obtain ⟨f2, hu2⟩ := hr2.uni
  obtain ⟨f3, hu3⟩ := hr3.uni
  clear hca hcc hcb hr1 hr2 hr3 hp
  have hu1' := Lib.hid hu1
  have hu2' := Lib.hid hu2
  have hu3' := Lib.hid hu3
  clear hu1 hu2 hu3
  obtain ⟨⟨⟨q0, q1, q2⟩, ⟨q3, q4, q5⟩, _⟩, _⟩ := hS2.out V6 hd2.out
  have hu := Lib.hid (ty_Unify f1 (.mk s n l) (.mk s' n' l') _ _ V6 _ hu1'.out (hI2.out V6 hd2.out).1.1 (hI2.out V6 hd2.out).1.2.1)
  go_wp2_with fail
  refine hu.out.mono ?_
  rintro e V7 ⟨⟨v1, rfl, hv1⟩, hV7⟩
  obtain ⟨er, her⟩ : ∃ er : Int, (if r1.isSome = true then (0 : Int) else 80) = er := ⟨_, rfl⟩
  have her' := Lib.hid her
  rw [her]
  clear her
  have hd3 := Lib.hid (hd2.out.trans (hV7.mono hd2.out.size))
  have hv1' := Lib.hid hv1
  clear q0 q1 q2 q3 q4 q5 hu hv1 hV7
  obtain ⟨_, ⟨q0, q1, q2⟩, ⟨q3, q4, q5⟩⟩ := hS2.out V7 hd3.out
  have hu := Lib.hid (ty_Unify f2 (.mk ⟨#[80]⟩ 0 [(.mk s n l), (.mk s'' n'' l'')]) (.mk ⟨#[80]⟩ 0 [(.mk s' n' l'), (.mk s'' n'' l'')]) _ _ V7 _ hu2'.out (hI2.out V7 hd3.out).2.1 (hI2.out V7 hd3.out).2.2)
  go_wp2_with fail
  refine hu.out.mono ?_
  rintro e V8 ⟨⟨v2, rfl, hv2⟩, hV8⟩
  rw [her'.out]
  have hd4 := Lib.hid (hd3.out.trans (hV8.mono hd3.out.size))
  have hv2' := Lib.hid hv2
  have hv18 : FaSl V8 v1 (r1.getD []) := by obtain ⟨fa, fc, fe, f1, f2⟩ := hv1'.out; exact ⟨fa, fc, fe, f1, f2.keeps (Keeps.of_below hV8)⟩
  have hv18' := Lib.hid hv18
  clear q0 q1 q2 q3 q4 q5 hu hv2 hV8 hv18
  obtain ⟨⟨⟨q0, q1, q2⟩, _⟩, _⟩ := hS2.out V8 hd4.out
  have hu := Lib.hid (ty_Unify f3 (.mk s n l) (.mk s n l) _ _ V8 _ hu3'.out (hI2.out V8 hd4.out).1.1 (hI2.out V8 hd4.out).1.1)
  go_wp2_with fail
  refine hu.out.mono ?_
  rintro e V9 ⟨⟨v3, rfl, hv3⟩, hV9⟩
  have hd5 := Lib.hid (hd4.out.trans (hV9.mono hd4.out.size))
  obtain ⟨ga, gc, rfl, _, _⟩ := hv3
  obtain ⟨fa, fc, rfl, _, hf1⟩ := hv18'.out
  obtain ⟨fa2, fc2, rfl, _, hf2⟩ := hv2'.out
  have hfc := r08_Facts fa fa2 (r1.getD []) (r1.getD []) fc fc2 V9 (by unfold lenMax; omega) (by unfold lenMax; omega) (hf1.keeps (Keeps.of_below hV9)) (hf2.keeps (Keeps.of_below hV9))
  rw [eqB_true rfl] at hfc
  have hfc' := Lib.hid hfc
  simp only [Option.isSome_some, if_true, Option.getD_some, List.length_nil]
  clear q0 q1 q2 hu hV9 hf1 hf2 hfc hlen
  go_wp2_with fail
  refine hfc'.out.mono ?_
  rintro e V10 ⟨rfl, hV10⟩
  have hfin := Lib.hid ((hI2.out V9 hd5.out).1.2.2.2.trans (hV10.mono (hI2.out V9 hd5.out).1.2.2.2.size))
  clear hV10
  go_wp2_with fail
  go_ret
  exact ⟨ret_bool rfl, hfin.out⟩
end Go.Proofs.YticjpeefhppjoaaDoor
