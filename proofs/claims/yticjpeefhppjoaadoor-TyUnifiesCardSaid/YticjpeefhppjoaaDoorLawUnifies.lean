/- dawdlerlaw08.TyUnifies answers true. -/
import Derived.Test.YticjpeefhppjoaaDoorTyAw
import Derived.Test.YticjpeefhppjoaaDoorTyVg
namespace Go.Proofs.YticjpeefhppjoaaDoor
open Go.RowKit

/-- What unifying two types answers, both ways. -/
theorem uni_both {a b : Ty} (h64 : ∀ m ∈ allT a ++ allT b, In64 m) : ∃ f g r, UniP f a b r ∧ UniP g b a r ∧ (r.getD []).length ≤ 4000 := by
  cases hc : (chkT a && chkT b)
  · exact ⟨0, 0, none, .inl ⟨hc, rfl⟩, .inl ⟨by rw [Bool.and_comm]; exact hc, rfl⟩, by simp⟩
  · rw [Bool.and_eq_true] at hc
    obtain ⟨r, hr⟩ := ans_exists hc.1 hc.2 h64
    obtain ⟨q, hq⟩ := ans_exists hc.2 hc.1 (fun m hm => h64 m (by
      rcases List.mem_append.1 hm with h | h
      · exact List.mem_append.2 (.inr h)
      · exact List.mem_append.2 (.inl h)))
    have e := hr.same hq fun th => ⟨fun h => h.symm, fun h => h.symm⟩
    subst e
    obtain ⟨f, hf⟩ := hr.uni
    obtain ⟨g, hg⟩ := hq.uni
    exact ⟨f, g, r, hf, hg, hr.len hc.1 hc.2⟩

set_option maxHeartbeats 4000000 in
set_option maxRecDepth 100000 in
theorem unifies_c (a b : Ty) (va vb : Value) (w : World) (hva : IsTy w va a) (hvb : IsTy w vb b) (ht : Tab w) : Calls Tryd.prog 5 #[va, vb] w fun r w' => r = .returned (.bool true) ∧ Below w.heap.size w w' := by
  have h64 : ∀ m ∈ allT a ++ allT b, In64 m := fun m hm => by
    rcases List.mem_append.1 hm with h | h
    · exact all_in64 hva m h
    · exact all_in64 hvb m h
  obtain ⟨f1, f2, r, hu1, hu2, hrl⟩ := uni_both h64
  clear h64
  have hu1' := Lib.hid hu1
  have hu2' := Lib.hid hu2
  have hrl' := Lib.hid hrl
  clear hu1 hu2 hrl
  obtain ⟨s, n, l⟩ := a
  obtain ⟨a1, c1, rfl, _⟩ := hva.open
  obtain ⟨s', n', l'⟩ := b
  obtain ⟨a2, c2, rfl, _⟩ := hvb.open
  obtain ⟨W1, hW1⟩ : ∃ W, (w.alloc (.cells #[.string s, .int .i64 n, .slice a1 l.length c1] 24)).alloc (.cells #[.string s', .int .i64 n', .slice a2 l'.length c2] 24) = W := ⟨_, rfl⟩
  have hb1 : Below w.heap.size w W1 := by rw [← hW1]; exact ((Below.refl _ w).alloc (Nat.le_refl _) _).alloc (by simp) _
  have hz1 : W1.heap.size = w.heap.size + 2 := by rw [← hW1]; simp
  have x1 : BoxT W1 w.heap.size (.string s) (.int .i64 n) (.slice a1 l.length c1) := by rw [← hW1]; exact new_block ((Below.refl _ _).alloc (by simp) _)
  have x2 : BoxT W1 (w.heap.size + 1) (.string s') (.int .i64 n') (.slice a2 l'.length c2) := by rw [← hW1]; exact new_block2 (Below.refl _ _)
  have hS : Hid (∀ V, Below W1.heap.size W1 V → (V.cell? ⟨w.heap.size, 0, none⟩ = some (.string s) ∧ V.cell? ⟨w.heap.size, 1, none⟩ = some (.int .i64 n) ∧ V.cell? ⟨w.heap.size, 2, none⟩ = some (.slice a1 l.length c1)) ∧ (V.cell? ⟨w.heap.size + 1, 0, none⟩ = some (.string s') ∧ V.cell? ⟨w.heap.size + 1, 1, none⟩ = some (.int .i64 n') ∧ V.cell? ⟨w.heap.size + 1, 2, none⟩ = some (.slice a2 l'.length c2))) := fun V hV => ⟨(x1.below hV x1.lt).cells, (x2.below hV x2.lt).cells⟩
  have hI : Hid (∀ V, Below W1.heap.size W1 V → IsTy V (.agg #[.string s, .int .i64 n, .slice a1 l.length c1]) (.mk s n l) ∧ IsTy V (.agg #[.string s', .int .i64 n', .slice a2 l'.length c2]) (.mk s' n' l') ∧ Below w.heap.size w V) := fun V hV => by
    have hwV := hb1.trans (hV.mono (by omega))
    exact ⟨TyX.below hva hwV, TyX.below hvb hwV, hwV⟩
  have hW1' := Lib.hid hW1
  have htW := Lib.hid (ht.below hb1)
  clear hva hvb ht hW1 hb1 hz1 x1 x2
  go_enter Tryd.func5, Tryd.ntmps5
  go_wp2_with fail
  rw [hW1'.out]
  refine (law_awake W1 htW.out).mono ?_
  rintro z V ⟨rfl, hV⟩
  have h0 := Lib.hid hV
  clear hV
  obtain ⟨⟨q0, q1, q2⟩, _⟩ := hS.out V h0.out
  have hf := Lib.hid (r08_Few _ _ V (hI.out V h0.out).1)
  cases hfw : fewT (.mk s n l)
  case false =>
    rw [hfw] at hf
    go_wp2_with fail
    refine hf.out.mono ?_
    rintro z Vq ⟨rfl, hVq⟩
    have hfin := Lib.hid ((hI.out V h0.out).2.2.trans (hVq.mono (hI.out V h0.out).2.2.size))
    clear q0 q1 q2
    go_wp2_with fail
    go_ret
    exact ⟨ret_bool rfl, hfin.out⟩
  rw [hfw] at hf
  clear hfw
  go_wp2_with fail
  refine hf.out.mono ?_
  rintro z V2 ⟨rfl, hV2⟩
  have h1 := Lib.hid (h0.out.trans (hV2.mono h0.out.size))
  clear q0 q1 q2 hf hV2
  obtain ⟨_, q0, q1, q2⟩ := hS.out V2 h1.out
  have hf := Lib.hid (r08_Few _ _ V2 (hI.out V2 h1.out).2.1)
  cases hfw : fewT (.mk s' n' l')
  case false =>
    rw [hfw] at hf
    go_wp2_with fail
    refine hf.out.mono ?_
    rintro z Vq ⟨rfl, hVq⟩
    have hfin := Lib.hid ((hI.out V2 h1.out).2.2.trans (hVq.mono (hI.out V2 h1.out).2.2.size))
    clear q0 q1 q2
    go_wp2_with fail
    go_ret
    exact ⟨ret_bool rfl, hfin.out⟩
  rw [hfw] at hf
  clear hfw
  go_wp2_with fail
  refine hf.out.mono ?_
  rintro z V3 ⟨rfl, hV3⟩
  have h2 := Lib.hid (h1.out.trans (hV3.mono h1.out.size))
  clear q0 q1 q2 hf hV3
  obtain ⟨er, her⟩ : ∃ er : Int, (if r.isSome = true then (0 : Int) else 80) = er := ⟨_, rfl⟩
  have hct := ty_Unify f1 (.mk s n l) (.mk s' n' l') _ _ V3 r hu1'.out (hI.out V3 h2.out).1 (hI.out V3 h2.out).2.1
  rw [her] at hct
  have hct' := Lib.hid hct
  have her' := Lib.hid her
  obtain ⟨⟨q0, q1, q2⟩, q3, q4, q5⟩ := hS.out V3 h2.out
  clear hct her
  go_wp2_with fail
  refine hct'.out.mono ?_
  rintro z V4 ⟨⟨v1, rfl, hv1⟩, hV4⟩
  have h3 := Lib.hid (h2.out.trans (hV4.mono h2.out.size))
  have hv1' := Lib.hid hv1
  have hct := r08_Unify f1 (.mk s n l) (.mk s' n' l') _ _ V4 r hu1'.out (hI.out V4 h3.out).1 (hI.out V4 h3.out).2.1
  rw [her'.out] at hct
  clear hct'
  have hct' := Lib.hid hct
  clear q0 q1 q2 q3 q4 q5 hv1 hV4 hct
  obtain ⟨⟨q0, q1, q2⟩, q3, q4, q5⟩ := hS.out V4 h3.out
  go_wp2_with fail
  refine hct'.out.mono ?_
  rintro z V5 ⟨⟨v2, rfl, hv2⟩, hV5⟩
  have h4 := Lib.hid (h3.out.trans (hV5.mono h3.out.size))
  have hv1b := Lib.hid (hv1'.out.keeps (Keeps.of_below hV5))
  have hv2' := Lib.hid hv2
  have hct := ty_Unify f2 (.mk s' n' l') (.mk s n l) _ _ V5 r hu2'.out (hI.out V5 h4.out).2.1 (hI.out V5 h4.out).1
  rw [her'.out] at hct
  clear hct'
  have hct' := Lib.hid hct
  clear q0 q1 q2 q3 q4 q5 hv2 hV5 hct hv1'
  obtain ⟨⟨q0, q1, q2⟩, q3, q4, q5⟩ := hS.out V5 h4.out
  go_wp2_with fail
  refine hct'.out.mono ?_
  rintro z V6 ⟨⟨v3, rfl, hv3⟩, hV6⟩
  have h5 := Lib.hid (h4.out.trans (hV6.mono h4.out.size))
  obtain ⟨x1, y1, rfl, _, hf1⟩ := hv1b.out.keeps (Keeps.of_below hV6)
  obtain ⟨x2, y2, rfl, _, hf2⟩ := hv2'.out.keeps (Keeps.of_below hV6)
  obtain ⟨x3, y3, rfl, _, hf3⟩ := hv3
  have hlm : (r.getD []).length ≤ lenMax := by have := hrl'.out; unfold lenMax; omega
  have hfc : Hid (∀ V (x x' : Option Addr) (y y' : Nat), FaRow (fun _ => False) V x (r.getD []) → FaRow (fun _ => False) V x' (r.getD []) → Calls Tryd.prog 26 #[.slice x (r.getD []).length y, .slice x' (r.getD []).length y'] V fun z w' => z = .returned (.bool true) ∧ Below V.heap.size V w') := fun V x x' y y' h h' => by
    have := r08_Facts x x' (r.getD []) (r.getD []) y y' V hlm hlm h h'
    rw [eqB_true rfl] at this
    exact this
  have hc1 := Lib.hid (hfc.out V6 x1 x2 y1 y2 hf1 hf2)
  have hf1' := Lib.hid hf1
  have hf3' := Lib.hid hf3
  clear q0 q1 q2 q3 q4 q5 hV6 hct' hf1 hf2 hf3 hlm hv1b hv2'
  go_wp2_with fail
  refine hc1.out.mono ?_
  rintro z V7 ⟨rfl, hV7⟩
  have h6 := Lib.hid (h5.out.trans (hV7.mono h5.out.size))
  have hc2 := Lib.hid (hfc.out V7 x1 x3 y1 y3 (hf1'.out.keeps (Keeps.of_below hV7)) (hf3'.out.keeps (Keeps.of_below hV7)))
  clear hV7 hc1
  go_wp2_with fail
  refine hc2.out.mono ?_
  rintro z V8 ⟨rfl, hV8⟩
  have hfin := Lib.hid ((hI.out V7 h6.out).2.2.trans (hV8.mono (hI.out V7 h6.out).2.2.size))
  clear hV8
  go_wp2_with fail
  go_ret
  exact ⟨ret_bool rfl, hfin.out⟩
end Go.Proofs.YticjpeefhppjoaaDoor
