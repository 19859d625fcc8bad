/- The reference's One, walked. -/
import Derived.Test.YticjpeefhppjoaaDoorTyVc
import Derived.Test.YticjpeefhppjoaaDoorTyTk
import Derived.Test.YticjpeefhppjoaaDoorInw
import Derived.Deep.CutRange
import Derived.Deep.RegionHeld3
namespace Go.Proofs.YticjpeefhppjoaaDoor
open Go.RowKit

/-- A type in a box. -/
def BoxIs (V : World) (b : Nat) (t : Ty) (y : Option Addr) (c : Nat) : Prop := BoxT V b (.string t.name) (.int .i64 t.n) (.slice y t.args.length c)
theorem BoxIs.below {V W : World} {b : Nat} {t : Ty} {y : Option Addr} {c : Nat} (h : BoxIs V b t y c) (hB : Below V.heap.size V W) : BoxIs W b t y c := BoxT.below h hB (BoxT.lt h)
theorem BoxIs.cells {V : World} {b : Nat} {t : Ty} {y : Option Addr} {c : Nat} (h : BoxIs V b t y c) : V.cell? ⟨b, 0, none⟩ = some (.string t.name) ∧ V.cell? ⟨b, 1, none⟩ = some (.int .i64 t.n) ∧ V.cell? ⟨b, 2, none⟩ = some (.slice y t.args.length c) := BoxT.cells h
theorem BoxIs.new (V : World) (t : Ty) (y : Option Addr) (c : Nat) : BoxIs (V.alloc (.cells #[.string t.name, .int .i64 t.n, .slice y t.args.length c] 24)) V.heap.size t y c := new_block (Below.refl _ _)
theorem BoxIs.lt {V : World} {b : Nat} {t : Ty} {y : Option Addr} {c : Nat} (h : BoxIs V b t y c) : b < V.heap.size := BoxT.lt h

theorem swapT_sw {x y : Ty} (h : (holeS x.name || holeS y.name) = true) : swapT x y = if (!holeS x.name || (holeS y.name && decide (x.n < y.n))) = true then (y, x) else (x, y) := by
  unfold swapT
  revert h
  generalize holeS x.name = p
  generalize holeS y.name = q
  intro h
  cases p <;> cases q
  · cases h
  · simp
  · simp
  · by_cases hl : x.n < y.n <;> simp [hl]
theorem oneT_root {fuel : Nat} {L : List Fa} {a b : Ty} {out : List Fa × Bool} (h : oneT (fuel + 1) L a b = some out) : ∃ v u, rootT L (L.length + 1) a = some v ∧ rootT L (L.length + 1) b = some u ∧
    ((holeS v.name = true ∧ holeS u.name = true ∧ v.n = u.n ∧ out = (L, true)) ∨ (¬ (holeS v.name = true ∧ holeS u.name = true ∧ v.n = u.n) ∧ ∃ x y, walkT L (L.length + 1) v = some x ∧ walkT L (L.length + 1) u = some y ∧
      ((holeS (swapT x y).1.name = true ∧ ∃ S f, withinP L (swapT x y).1.n (L.length + 1) (swapT x y).2 [] = some (S, f) ∧ out = if f = true then (L, false) else (L ++ [⟨(swapT x y).1.n, (swapT x y).2⟩], true)) ∨
       (¬ holeS (swapT x y).1.name = true ∧ (((x.name.toList ≠ y.name.toList ∨ x.args.length ≠ y.args.length) ∧ out = (L, false)) ∨
        (x.name.toList = y.name.toList ∧ x.args.length = y.args.length ∧ ∃ oo, oneL (oneT fuel) L x.args y.args = some oo ∧ out = if oo.2 = true then (if holeS v.name = true ∧ holeS u.name = true then (setF oo.1 v.n u, true) else (oo.1, true)) else (oo.1, false))))))) := by
  rw [oneT] at h
  cases hv : rootT L (L.length + 1) a with
  | none => rw [hv] at h; simp at h
  | some v =>
    cases hu : rootT L (L.length + 1) b with
    | none => rw [hv, hu] at h; simp at h
    | some u =>
      rw [hv, hu] at h
      simp only at h
      refine ⟨v, u, rfl, rfl, ?_⟩
      by_cases he : holeS v.name = true ∧ holeS u.name = true ∧ v.n = u.n
      · rw [if_pos he] at h
        exact .inl ⟨he.1, he.2.1, he.2.2, (Option.some.inj h).symm⟩
      · rw [if_neg he] at h
        refine .inr ⟨he, ?_⟩
        cases hx : walkT L (L.length + 1) v with
        | none => rw [hx] at h; simp at h
        | some x =>
          cases hy : walkT L (L.length + 1) u with
          | none => rw [hx, hy] at h; simp at h
          | some y =>
            rw [hx, hy] at h
            simp only at h
            refine ⟨x, y, rfl, rfl, ?_⟩
            by_cases hs : holeS (swapT x y).1.name = true
            · rw [if_pos hs] at h
              refine .inl ⟨hs, ?_⟩
              cases hw : withinP L (swapT x y).1.n (L.length + 1) (swapT x y).2 [] with
              | none => rw [hw] at h; simp at h
              | some p =>
                rw [hw] at h
                obtain ⟨S, f⟩ := p
                refine ⟨S, f, rfl, ?_⟩
                cases f
                · exact (Option.some.inj h).symm
                · exact (Option.some.inj h).symm
            · rw [if_neg hs] at h
              refine .inr ⟨hs, ?_⟩
              by_cases hn : x.name.toList ≠ y.name.toList ∨ x.args.length ≠ y.args.length
              · rw [if_pos hn] at h
                exact .inl ⟨hn, (Option.some.inj h).symm⟩
              · rw [if_neg hn] at h
                have hn1 : x.name.toList = y.name.toList := Classical.byContradiction fun h => hn (.inl h)
                have hn2 : x.args.length = y.args.length := Classical.byContradiction fun h => hn (.inr h)
                refine .inr ⟨hn1, hn2, ?_⟩
                cases ho : oneL (oneT fuel) L x.args y.args with
                | none => rw [ho] at h; simp at h
                | some oo =>
                  rw [ho] at h
                  obtain ⟨M, f⟩ := oo
                  refine ⟨(M, f), rfl, ?_⟩
                  cases f
                  · exact (Option.some.inj h).symm
                  · simp only at h
                    by_cases hh : holeS v.name = true ∧ holeS u.name = true
                    · rw [if_pos hh] at h
                      rw [if_pos rfl, if_pos hh]; exact (Option.some.inj h).symm
                    · rw [if_neg hh] at h
                      rw [if_pos rfl, if_neg hh]; exact (Option.some.inj h).symm

set_option maxHeartbeats 8000000 in
set_option maxRecDepth 100000 in
theorem r08_One (U : List Int) (hUl : U.length ≤ 90000) (hU64 : ∀ m ∈ U, In64 m) : ∀ (fuel : Nat) (L : List Fa) (a b : Ty) (aL : Option Addr) (cL : Nat) (va vb : Value) (w : World) (out : List Fa × Bool), oneT fuel L a b = some out → InU U L → (∀ m ∈ allT a, m ∈ U) → (∀ m ∈ allT b, m ∈ U) → (aL = none → cL = 0) → FaRow (fun _ => False) w aL L → IsTy w va a → IsTy w vb b →
    Calls Tryd.prog 48 #[.slice aL L.length cL, va, vb] w fun r w' => (∃ u, r = .returned (.tuple #[u, .bool out.2]) ∧ FaSl w' u out.1) ∧ Below w.heap.size w w' := by
  intro fuel
  induction fuel with
  | zero => intro L a b aL cL va vb w out h; simp [oneT] at h
  | succ fuel ih =>
  intro L a b aL cL va vb w out h hin ha hb hnil hm hva hvb
  obtain ⟨v, u, hv, hu, hrest⟩ := oneT_root h
  have hLl : L.length ≤ 90000 := by have := hin.len; omega
  have hvU := Lib.hid (rootT_in hin _ _ _ hv ha)
  have huU := Lib.hid (rootT_in hin _ _ _ hu hb)
  obtain ⟨sa, na, la⟩ := a
  obtain ⟨sc, nc, lc⟩ := b
  have hva' := Lib.hid hva
  have hvb' := Lib.hid hvb
  obtain ⟨aa, ac, rfl, _⟩ := hva.open
  obtain ⟨ba, bc, rfl, _⟩ := hvb.open
  have hFa : Hid (∀ V, Below w.heap.size w V → FaSl V (.slice aL L.length cL) L) := fun V hV => ⟨aL, cL, rfl, hnil, hm.keeps (Keeps.of_below hV)⟩
  have hRt : Hid (∀ (e r : Ty) (x : Value) (V : World), rootT L (L.length + 1) e = some r → Below w.heap.size w V → IsTy w x e → Calls Tryd.prog 69 #[.slice aL L.length cL, x] V fun z w' => ∃ u, z = .returned u ∧ IsTy w u r ∧ Below V.heap.size V w') := fun e r x V hr hV hx => r08_root L aL cL _ e r x w V hV hr (by unfold lenMax; omega) hm hx
  have hWk : Hid (∀ (e r : Ty) (x : Value) (V : World), walkT L (L.length + 1) e = some r → Below w.heap.size w V → IsTy w x e → Calls Tryd.prog 70 #[.slice aL L.length cL, x] V fun z w' => ∃ u, z = .returned u ∧ IsTy w u r ∧ Below V.heap.size V w') := fun e r x V hr hV hx => r08_Walk L aL cL _ e r x w V hV hr (by unfold lenMax; omega) hm hx
  have hWi : Hid (∀ (n : Int) (e : Ty) (x : Value) (V : World), (∀ m ∈ allT e, m ∈ U) → Below w.heap.size w V → IsTy V x e → Calls Tryd.prog 71 #[.slice aL L.length cL, .int .i64 n, x, .slice none 0 0] V fun r V' => (∃ v' S found, r = .returned (.tuple #[v', .bool found]) ∧ IntSl V' v' S ∧ WiR L n U (allT e) [] S found) ∧ Below V.heap.size V V') := fun n e x V hU hV hx => r08_within L aL cL U hUl hin n (unseen L []) e x V (.slice none 0 0) [] (Nat.le_refl _) (hm.keeps (Keeps.of_below hV)) hx (.inl ⟨rfl, rfl⟩) List.nodup_nil (by simp) hU
  have hH : Hid (∀ (s : Str) (n : Int) (a : Option Addr) (m c : Nat) (V : World), Calls Tryd.prog 52 #[.agg #[.string s, .int .i64 n, .slice a m c]] V fun r V' => r = .returned (.bool (holeS s)) ∧ Below V.heap.size V V') := fun s n a m c V => r08_hole s n a m c V
  have hin' := Lib.hid hin
  have hnil' := Lib.hid hnil
  have hm' := Lib.hid hm
  have ih' := Lib.hid ih
  have hv' := Lib.hid hv
  have hu' := Lib.hid hu
  have hrest' := Lib.hid hrest
  have hUl' := Lib.hid hUl
  have hU64' := Lib.hid hU64
  obtain ⟨W1, hW1⟩ : ∃ W, (w.alloc (.cells #[.string sa, .int .i64 na, .slice aa la.length ac] 24)).alloc (.cells #[.string sc, .int .i64 nc, .slice ba lc.length bc] 24) = W := ⟨_, rfl⟩
  have hz1 : w.heap.size + 2 ≤ W1.heap.size := by rw [← hW1]; simp
  have hb1 : Below w.heap.size w W1 := by rw [← hW1]; exact ((Below.refl _ w).alloc (Nat.le_refl _) _).alloc (by simp) _
  have hba : BoxT W1 w.heap.size (.string sa) (.int .i64 na) (.slice aa la.length ac) := by rw [← hW1]; exact new_block ((Below.refl _ _).alloc (by simp) _)
  have hbb : BoxT W1 (w.heap.size + 1) (.string sc) (.int .i64 nc) (.slice ba lc.length bc) := by rw [← hW1]; exact new_block2 (Below.refl _ _)
  have hW1' := Lib.hid hW1
  have hb1' := Lib.hid hb1
  have hbb' := Lib.hid hbb
  have hct := Lib.hid (hRt.out _ v _ W1 hv hb1 hva)
  obtain ⟨q0, q1, q2⟩ := hba.cells
  clear hW1 hb1 hba hbb hm h ih hin hv hu hva hvb hrest hnil hUl hU64 ha hb
  go_enter Tryd.func48, Tryd.ntmps48
  go_wp2_with fail
  rw [hW1'.out]
  go_wp2_with fail
  refine hct.out.mono ?_
  rintro e V1 ⟨r1, rfl, hr1, hB1⟩
  obtain ⟨y8, c8, rfl⟩ := hr1.form
  have hwV1 := Lib.hid (hb1'.out.trans (hB1.mono (by omega)))
  have hz2 : w.heap.size + 2 ≤ V1.heap.size := Nat.le_trans hz1 hB1.size
  have hlt1 : w.heap.size + 1 < V1.heap.size := by omega
  have hr8 := Lib.hid hr1
  clear q0 q1 q2 hct
  obtain ⟨q0, q1, q2⟩ := (hbb'.out.below hB1 (by omega)).cells
  clear hr1 hB1
  go_wp2_with fail
  obtain ⟨W2, hW2⟩ : ∃ W, V1.alloc (.cells #[.string v.name, .int .i64 v.n, .slice y8 v.args.length c8] 24) = W := ⟨_, rfl⟩
  rw [hW2]
  have hwW2 : Below w.heap.size w W2 := by rw [← hW2]; exact hwV1.out.alloc (by omega) _
  have hB2 : Below V1.heap.size V1 W2 := by rw [← hW2]; exact (Below.refl _ _).alloc (Nat.le_refl _) _
  have hx8 := Lib.hid (show BoxIs W2 V1.heap.size v y8 c8 by rw [← hW2]; exact BoxIs.new V1 v y8 c8)
  have hct := Lib.hid (hRt.out _ u _ W2 hu'.out hwW2 hvb'.out)
  have hwW2' := Lib.hid hwW2
  have hz3 : V1.heap.size + 1 ≤ W2.heap.size := by rw [← hW2]; simp
  clear hwW2 hB2 q0 q1 q2 hW2
  refine hct.out.mono ?_
  rintro e V2 ⟨r2, rfl, hr2, hB3⟩
  obtain ⟨y9, c9, rfl⟩ := hr2.form
  have hwV2 := Lib.hid (hwW2'.out.trans (hB3.mono (by omega)))
  have hz4 : V1.heap.size + 1 ≤ V2.heap.size := Nat.le_trans hz3 hB3.size
  have hx8b := Lib.hid (hx8.out.below hB3)
  have hr9 := Lib.hid hr2
  clear hr2 hB3 hct hx8
  go_upto_region 3 with (fail)
  obtain ⟨W3, hW3⟩ : ∃ W, V2.alloc (.cells #[.string u.name, .int .i64 u.n, .slice y9 u.args.length c9] 24) = W := ⟨_, rfl⟩
  rw [hW3]
  have hB4 : Below V2.heap.size V2 W3 := by rw [← hW3]; exact (Below.refl _ _).alloc (Nat.le_refl _) _
  have hwW3 := Lib.hid (hwV2.out.trans (hB4.mono (by omega)))
  have hx8 := Lib.hid (hx8b.out.below hB4)
  have hx9 := Lib.hid (show BoxIs W3 V2.heap.size u y9 c9 by rw [← hW3]; exact BoxIs.new V2 u y9 c9)
  have hz5 : V2.heap.size + 1 ≤ W3.heap.size := by rw [← hW3]; simp
  clear hW3 hB4 hx8b
  go_cut [35] from 23 to 35 (fun s X => s = .bool (holeS v.name && holeS u.name && (v.n == u.n)) ∧ Below W3.heap.size W3 X)
  case first =>
    have hca := Lib.hid (fun V => hH.out v.name v.n y8 v.args.length c8 V)
    have hcb := Lib.hid (fun V => hH.out u.name u.n y9 u.args.length c9 V)
    obtain ⟨q0, q1, q2⟩ := hx8.out.cells
    cases h1 : holeS v.name
    · rw [h1] at hca
      have h1' := Lib.hid h1
      clear h1
      go_wp2_with fail
      refine (hca.out _).mono ?_
      rintro e X ⟨rfl, hX⟩
      go_wp2_with fail
      go_meet
      case rel => exact ⟨by rw [h1'.out]; simp, hX⟩
    · rw [h1] at hca
      have h1' := Lib.hid h1
      clear h1
      go_wp2_with fail
      refine (hca.out _).mono ?_
      rintro e X ⟨rfl, hX⟩
      have hX' := Lib.hid hX
      obtain ⟨q3, q4, q5⟩ := (hx9.out.below hX).cells
      clear hX
      cases h2 : holeS u.name
      · rw [h2] at hcb
        have h2' := Lib.hid h2
        clear h2
        go_wp2_with fail
        refine (hcb.out _).mono ?_
        rintro e Y ⟨rfl, hY⟩
        have hY' := Lib.hid (hX'.out.trans (hY.mono hX'.out.size))
        clear hY
        go_wp2_with fail
        go_meet
        case rel => exact ⟨by rw [h1'.out, h2'.out]; simp, hY'.out⟩
      · rw [h2] at hcb
        have h2' := Lib.hid h2
        clear h2
        go_wp2_with fail
        refine (hcb.out _).mono ?_
        rintro e Y ⟨rfl, hY⟩
        have hY' := Lib.hid (hX'.out.trans (hY.mono hX'.out.size))
        clear hY q0 q1 q2 q3 q4 q5
        obtain ⟨q0, q1, q2⟩ := (hx8.out.below hY'.out).cells
        obtain ⟨q3, q4, q5⟩ := (hx9.out.below hY'.out).cells
        go_wp2_with fail
        go_meet
        case rel => exact ⟨by rw [h1'.out, h2'.out]; simp, hY'.out⟩
  case rest =>
  obtain ⟨rfl, hXB⟩ := hcut
  obtain ⟨X, rfl⟩ : ∃ X, X = wc := ⟨_, rfl⟩
  have hwX := Lib.hid (hwW3.out.trans (hXB.mono (by omega)))
  have hzX : V2.heap.size + 1 ≤ X.heap.size := Nat.le_trans hz5 hXB.size
  have hx8b := Lib.hid (hx8.out.below hXB)
  have hx9b := Lib.hid (hx9.out.below hXB)
  clear hXB hx8 hx9
  rcases hrest'.out with ⟨e1, e2, e3, hout⟩ | ⟨hneq, x, y, hx, hy, hrest⟩
  · have hout' := Lib.hid hout
    have hb : (holeS v.name && holeS u.name && (v.n == u.n)) = true := by rw [e1, e2, e3]; simp
    rw [hb]
    clear e1 e2 e3 hout hb
    go_wp2_with fail
    go_ret2
    exact ⟨⟨_, ret_vb rfl (by rw [hout'.out]), by rw [hout'.out]; exact hFa.out _ hwX.out⟩, hwX.out⟩
  have hb : (holeS v.name && holeS u.name && (v.n == u.n)) = false := by
    cases h1 : holeS v.name
    · rfl
    · cases h2 : holeS u.name
      · rfl
      · simp only [Bool.true_and, beq_eq_false_iff_ne]
        exact fun e => hneq ⟨h1, h2, e⟩
  rw [hb]
  have hrest2 := Lib.hid hrest
  have hx' := Lib.hid hx
  have hy' := Lib.hid hy
  have hct := Lib.hid (hWk.out v x _ X hx hwX.out hr8.out)
  obtain ⟨q0, q1, q2⟩ := hx8b.out.cells
  clear hneq hb hrest hx hy
  go_wp2_with fail
  refine hct.out.mono ?_
  rintro e V3 ⟨r3, rfl, hr3, hB3⟩
  obtain ⟨y10, c10, rfl⟩ := hr3.form
  have hwV3 := Lib.hid (hwX.out.trans (hB3.mono (by omega)))
  have hz6 : V2.heap.size + 1 ≤ V3.heap.size := Nat.le_trans hzX hB3.size
  have hx8 := Lib.hid (hx8b.out.below hB3)
  have hx9 := Lib.hid (hx9b.out.below hB3)
  have hr10 := Lib.hid hr3
  clear q0 q1 q2
  obtain ⟨q0, q1, q2⟩ := hx9.out.cells
  have hlt2 : V2.heap.size < V3.heap.size := by omega
  clear hr3 hB3 hct hx8b hx9b
  go_wp2_with fail
  obtain ⟨W4, hW4⟩ : ∃ W, V3.alloc (.cells #[.string x.name, .int .i64 x.n, .slice y10 x.args.length c10] 24) = W := ⟨_, rfl⟩
  rw [hW4]
  have hB4 : Below V3.heap.size V3 W4 := by rw [← hW4]; exact (Below.refl _ _).alloc (Nat.le_refl _) _
  have hwW4 := Lib.hid (hwV3.out.trans (hB4.mono (by omega)))
  have hx8b := Lib.hid (hx8.out.below hB4)
  have hx9b := Lib.hid (hx9.out.below hB4)
  have hx10 := Lib.hid (show BoxIs W4 V3.heap.size x y10 c10 by rw [← hW4]; exact BoxIs.new V3 x y10 c10)
  have hz7 : V3.heap.size + 1 ≤ W4.heap.size := by rw [← hW4]; simp
  have hct := Lib.hid (hWk.out u y _ W4 hy'.out hwW4.out hr9.out)
  clear hW4 hB4 hx8 hx9 q0 q1 q2
  refine hct.out.mono ?_
  rintro e V4 ⟨r4, rfl, hr4, hB4⟩
  obtain ⟨y11, c11, rfl⟩ := hr4.form
  have hwV4 := Lib.hid (hwW4.out.trans (hB4.mono (by omega)))
  have hz8 : V3.heap.size + 1 ≤ V4.heap.size := Nat.le_trans hz7 hB4.size
  have hx8 := Lib.hid (hx8b.out.below hB4)
  have hx9 := Lib.hid (hx9b.out.below hB4)
  have hx10b := Lib.hid (hx10.out.below hB4)
  have hr11 := Lib.hid hr4
  clear hr4 hB4 hct hx8b hx9b hx10
  go_upto_region 7 with (fail)
  obtain ⟨W5, hW5⟩ : ∃ W, V4.alloc (.cells #[.string y.name, .int .i64 y.n, .slice y11 y.args.length c11] 24) = W := ⟨_, rfl⟩
  rw [hW5]
  have hB5 : Below V4.heap.size V4 W5 := by rw [← hW5]; exact (Below.refl _ _).alloc (Nat.le_refl _) _
  have hwW5 := Lib.hid (hwV4.out.trans (hB5.mono (by omega)))
  have hx8b := Lib.hid (hx8.out.below hB5)
  have hx9b := Lib.hid (hx9.out.below hB5)
  have hx10 := Lib.hid (hx10b.out.below hB5)
  have hx11 := Lib.hid (show BoxIs W5 V4.heap.size y y11 c11 by rw [← hW5]; exact BoxIs.new V4 y y11 c11)
  have hz9 : V4.heap.size + 1 ≤ W5.heap.size := by rw [← hW5]; simp
  clear hW5 hB5 hx8 hx9 hx10b hv' hu' hRt hrest' hwV1 hwV2 hwV3 hwV4 hwW2' hwW3 hwW4 hwX hva' hvb' hW1' hb1' hbb' hWk
  go_cut [48] from 43 to 48 (fun s X => s = .bool (holeS x.name || holeS y.name) ∧ Below W5.heap.size W5 X)
  case first =>
    have hca := Lib.hid (fun V => hH.out x.name x.n y10 x.args.length c10 V)
    have hcb := Lib.hid (fun V => hH.out y.name y.n y11 y.args.length c11 V)
    obtain ⟨q0, q1, q2⟩ := hx10.out.cells
    cases h1 : holeS x.name
    · rw [h1] at hca
      have h1' := Lib.hid h1
      clear h1
      go_wp2_with fail
      refine (hca.out _).mono ?_
      rintro e X ⟨rfl, hX⟩
      have hX' := Lib.hid hX
      obtain ⟨q3, q4, q5⟩ := (hx11.out.below hX).cells
      clear hX
      cases h2 : holeS y.name
      all_goals
        rw [h2] at hcb
        have h2' := Lib.hid h2
        clear h2
        go_wp2_with fail
        refine (hcb.out _).mono ?_
        rintro e Y ⟨rfl, hY⟩
        have hY' := Lib.hid (hX'.out.trans (hY.mono hX'.out.size))
        clear hY
        go_wp2_with fail
        go_meet
        case rel => exact ⟨by rw [h1'.out, h2'.out]; simp, hY'.out⟩
    · rw [h1] at hca
      have h1' := Lib.hid h1
      clear h1
      go_wp2_with fail
      refine (hca.out _).mono ?_
      rintro e X ⟨rfl, hX⟩
      go_wp2_with fail
      go_meet
      case rel => exact ⟨by rw [h1'.out]; simp, hX⟩
  case rest =>
  obtain ⟨rfl, hXB⟩ := hcut
  obtain ⟨X, rfl⟩ : ∃ X, X = wc := ⟨_, rfl⟩
  have hwX := Lib.hid (hwW5.out.trans (hXB.mono (by omega)))
  have hzX : V4.heap.size + 1 ≤ X.heap.size := Nat.le_trans hz9 hXB.size
  have hx8 := Lib.hid (hx8b.out.below hXB)
  have hx9 := Lib.hid (hx9b.out.below hXB)
  have hx10b := Lib.hid (hx10.out.below hXB)
  have hx11b := Lib.hid (hx11.out.below hXB)
  clear hXB hx8b hx9b hx10 hx11
  rcases hrest2.out with ⟨hs, S, f, hwi, hout⟩ | ⟨hns, hrest3⟩
  · have hor : (holeS x.name || holeS y.name) = true := by
      cases h1 : holeS x.name
      · cases h2 : holeS y.name
        · unfold swapT at hs; rw [if_neg (by rw [h2]; simp)] at hs; rw [h1] at hs; cases hs
        · rfl
      · rfl
    rw [hor]
    have hs' := Lib.hid hs
    have hwi' := Lib.hid hwi
    have hout' := Lib.hid hout
    obtain ⟨sw, hsw⟩ : ∃ b : Bool, (!holeS x.name || (holeS y.name && decide (x.n < y.n))) = b := ⟨_, rfl⟩
    have hsw' := Lib.hid hsw
    have hor' := Lib.hid hor
    clear hs hwi hout hor hsw
    go_upto_region 8 with (fail)
    go_cut [62] from 49 to 62 (fun s Y => s = .bool sw ∧ Below X.heap.size X Y)
    case first =>
      have hca := Lib.hid (fun V => hH.out x.name x.n y10 x.args.length c10 V)
      have hcb := Lib.hid (fun V => hH.out y.name y.n y11 y.args.length c11 V)
      obtain ⟨q0, q1, q2⟩ := hx10b.out.cells
      cases h1 : holeS x.name
      · rw [h1] at hca
        have h1' := Lib.hid h1
        clear h1
        go_wp2_with fail
        refine (hca.out _).mono ?_
        rintro e Y ⟨rfl, hY⟩
        go_wp2_with fail
        go_meet
        case rel => exact ⟨by rw [← hsw'.out, h1'.out]; simp, hY⟩
      · rw [h1] at hca
        have h1' := Lib.hid h1
        clear h1
        go_wp2_with fail
        refine (hca.out _).mono ?_
        rintro e Y ⟨rfl, hY⟩
        have hX' := Lib.hid hY
        obtain ⟨q3, q4, q5⟩ := (hx11b.out.below hY).cells
        clear hY
        cases h2 : holeS y.name
        · rw [h2] at hcb
          have h2' := Lib.hid h2
          clear h2
          go_wp2_with fail
          refine (hcb.out _).mono ?_
          rintro e Y ⟨rfl, hY⟩
          have hY' := Lib.hid (hX'.out.trans (hY.mono hX'.out.size))
          clear hY
          go_wp2_with fail
          go_meet
          case rel => exact ⟨by rw [← hsw'.out, h1'.out, h2'.out]; simp, hY'.out⟩
        · rw [h2] at hcb
          have h2' := Lib.hid h2
          clear h2
          go_wp2_with fail
          refine (hcb.out _).mono ?_
          rintro e Y ⟨rfl, hY⟩
          have hY' := Lib.hid (hX'.out.trans (hY.mono hX'.out.size))
          clear hY q0 q1 q2 q3 q4 q5
          obtain ⟨q0, q1, q2⟩ := (hx10b.out.below hY'.out).cells
          obtain ⟨q3, q4, q5⟩ := (hx11b.out.below hY'.out).cells
          go_wp2_with fail
          go_meet
          case rel => exact ⟨by rw [← hsw'.out, h1'.out, h2'.out]; simp, hY'.out⟩
    case rest =>
    obtain ⟨rfl, hYB⟩ := hcut
    obtain ⟨Y, rfl⟩ : ∃ X, X = wc := ⟨_, rfl⟩
    have hwY := Lib.hid (hwX.out.trans (hYB.mono (by omega)))
    have hzY : V4.heap.size + 1 ≤ Y.heap.size := Nat.le_trans hzX hYB.size
    have hx10 := Lib.hid (hx10b.out.below hYB)
    have hx11 := Lib.hid (hx11b.out.below hYB)
    obtain ⟨p, q, hpq⟩ : ∃ p q, swapT x y = (p, q) := ⟨_, _, rfl⟩
    have hsp : Hid ((p, q) = if sw = true then (y, x) else (x, y)) := by
      unfold Hid
      rw [← hpq, ← hsw'.out]
      exact swapT_sw hor'.out
    have hs2 := hs'.out
    have hwi2 := hwi'.out
    have hout2 := hout'.out
    rw [hpq] at hs2 hwi2 hout2
    simp only at hs2 hwi2 hout2
    have hs3 := Lib.hid hs2
    have hwi3 := Lib.hid hwi2
    have hout3 := Lib.hid hout2
    clear hYB hx10b hx11b hs' hwi' hout' hor' hsw' hs2 hwi2 hout2 hpq
    obtain ⟨q0, q1, q2⟩ := hx10.out.cells
    obtain ⟨q3, q4, q5⟩ := hx11.out.cells
    have rf0 := frozen_of hx10.out 0
    have rf1 := frozen_of hx10.out 1
    have rf2 := frozen_of hx10.out 2
    have rf3 := frozen_of hx11.out 0
    have rf4 := frozen_of hx11.out 1
    have rf5 := frozen_of hx11.out 2
    go_upto_if 62 with (fail)
    go_cut [] from 63 to 64 (fun Z => ∃ (yp yq : Option Addr) (cp cq : Nat), BoxIs Z V3.heap.size p yp cp ∧ BoxIs Z V4.heap.size q yq cq ∧ IsTy w (.agg #[.string p.name, .int .i64 p.n, .slice yp p.args.length cp]) p ∧ IsTy w (.agg #[.string q.name, .int .i64 q.n, .slice yq q.args.length cq]) q ∧ Below w.heap.size w Z)
    case first =>
      cases sw
      · have hpe : p = x ∧ q = y := by have := hsp.out; simpa using this
        obtain ⟨rfl, rfl⟩ := hpe
        go_wp2_with fail
        go_meet
        case rel => exact ⟨y10, y11, c10, c11, hx10.out, hx11.out, hr10.out, hr11.out, hwY.out⟩
      · have hpe : p = y ∧ q = x := by have := hsp.out; simpa using this
        obtain ⟨rfl, rfl⟩ := hpe
        have hne : V3.heap.size ≠ V4.heap.size := by omega
        go_wp2_with fail
        go_meet
        case rel =>
          have hU1 := BoxT.set hx10.out (.string p.name) (.int .i64 p.n) (.slice y11 p.args.length c11)
          have hU2 := BoxT.set ((hU1.2.2.2 V4.heap.size (fun e => hne e.symm)).trans hx11.out) (.string q.name) (.int .i64 q.n) (.slice y10 q.args.length c10)
          exact ⟨y11, y10, c11, c10, (hU2.2.2.2 _ hne).trans hU1.1, hU2.1, hr11.out, hr10.out, hwY.out.trans ((hU1.2.1.mono (by omega)).trans (hU2.2.1.mono (by omega)))⟩
    case rest =>
    obtain ⟨yp, yq, cp, cq, hxp, hxq, hrp, hrq, hwZ⟩ := hcut
    obtain ⟨Z, rfl⟩ : ∃ X, X = wc := ⟨_, rfl⟩
    have hqU : ∀ m ∈ allT q, m ∈ U := by
      have h1 := walkT_in hin'.out _ _ _ hx'.out hvU.out
      have h2 := walkT_in hin'.out _ _ _ hy'.out huU.out
      have := hsp.out
      cases sw
      · obtain ⟨rfl, rfl⟩ : p = x ∧ q = y := by simpa using this
        exact h2
      · obtain ⟨rfl, rfl⟩ : p = y ∧ q = x := by simpa using this
        exact h1
    have hct := Lib.hid (hWi.out p.n q _ Z hqU hwZ (hrq.below hwZ))
    have hwZ' := Lib.hid hwZ
    have hxp' := Lib.hid hxp
    have hxq' := Lib.hid hxq
    have hrp' := Lib.hid hrp
    have hrq' := Lib.hid hrq
    clear q0 q1 q2 q3 q4 q5 rf0 rf1 rf2 rf3 rf4 rf5
    obtain ⟨q0, q1, q2⟩ := hxp.cells
    obtain ⟨q3, q4, q5⟩ := hxq.cells
    clear hxp hxq hrp hrq hwZ hqU hx10 hx11 hr10 hr11 hwY hsp
    go_wp2_with fail
    refine hct.out.mono ?_
    rintro e V5 ⟨⟨v', S', found, rfl, hS', hW'⟩, hB5⟩
    obtain ⟨rfl⟩ : found = f := by
      have h1 := hW'.iff
      have h2 := hwi3.out
      cases f
      · have h3 := within_not h2
        cases found
        · rfl
        · obtain ⟨m, hm, hr⟩ := h1.1 rfl
          exact absurd hr (h3 m hm)
      · exact h1.2 (within_true _ _ _ _ h2)
    have hwV5 := Lib.hid (hwZ'.out.trans (hB5.mono (hwZ'.out.size)))
    have hxp := Lib.hid (hxp'.out.below hB5)
    have hxq := Lib.hid (hxq'.out.below hB5)
    clear hS' hW' hB5 hct hxp' hxq' hwi3 q0 q1 q2 q3 q4 q5
    cases f
    case true =>
      have ho : Hid (out = (L, false)) := by unfold Hid; have := hout3.out; simpa using this
      go_wp2_with fail
      go_ret2
      exact ⟨⟨_, ret_vb rfl (by rw [ho.out]), by rw [ho.out]; exact hFa.out _ hwV5.out⟩, hwV5.out⟩
    case false =>
      have ho : Hid (out = (L ++ [⟨p.n, q⟩], true)) := by unfold Hid; have := hout3.out; simpa using this
      go_upto_region 13 with (fail)
      have hrow := hm'.out
      obtain ⟨cs, hcl, hcs, hnews, hone⟩ := hrow.cells
      have hclH := Lib.hid hcl
      have hnewsH : Hid (∀ V, Below w.heap.size w V → ∀ ad, aL = some ad → ∀ j u, cs[j]? = some u → V.cell? (ad.add j) = some u) := fun V hV ad had j u hj => Keeps.of_below hV _ _ (hnews ad had j u hj)
      have honeH := Lib.hid hone
      have hnilH : Hid (aL = none → L.length = 0 ∧ cL = 0) := fun h => ⟨by
        rcases hrow with h' | ⟨b, off, h', _⟩
        · rw [h']; rfl
        · rw [h] at h'; exact absurd h' (by simp), hnil'.out h⟩
      have hpn : In64 p.n := by
        obtain ⟨ps, pn, pl⟩ := p
        obtain ⟨_, _, _, _, h, _⟩ := hrp'.out.open
        exact h
      have hcsnocH : Hid (FaCells (fun _ => False) w (cs ++ [.int .i64 p.n, .string q.name, .int .i64 q.n, .slice yq q.args.length cq]) (L ++ [⟨p.n, q⟩])) := FaCells.snoc hcs hcl ⟨_, _, _, rfl, hpn, hrq'.out⟩
      obtain ⟨i0, hi, hz0, hz1', hz2'⟩ := info_of Tryd.infoFa
      clear hrow hcl hcs hnews hone hpn
      refine wp_region_inv (fun f a Vr => ∃ x75 x76 x77 x78 x79 x80 x81 x82 x83 x6 x7, a = ⟨#[Value.slice aL L.length cL, Value.agg #[Value.string sa, Value.int IntKind.i64 na, Value.slice aa la.length ac], Value.agg #[Value.string sc, Value.int IntKind.i64 nc, Value.slice ba lc.length bc], undef, Value.pointer (some { block := w.heap.size, off := 0 }), Value.pointer (some { block := w.heap.size + 1, off := 0 }), x6, x7, Value.pointer (some { block := V1.heap.size, off := 0 }), Value.pointer (some { block := V2.heap.size, off := 0 }), Value.pointer (some { block := V3.heap.size, off := 0 }), Value.pointer (some { block := V4.heap.size, off := 0 }), v', Value.bool false, undef, undef, undef, Value.slice aL L.length cL, Value.agg #[Value.string sa, Value.int IntKind.i64 na, Value.slice aa la.length ac], Value.agg #[Value.string v.name, Value.int IntKind.i64 v.n, Value.slice y8 v.args.length c8], Value.slice aL L.length cL, Value.agg #[Value.string sc, Value.int IntKind.i64 nc, Value.slice ba lc.length bc], Value.agg #[Value.string u.name, Value.int IntKind.i64 u.n, Value.slice y9 u.args.length c9], u23, u24, u25, u26, u27, u28, u29, u30, u31, u32, u33, u34, Value.bool false, undef, Value.slice aL L.length cL, Value.agg #[Value.string v.name, Value.int IntKind.i64 v.n, Value.slice y8 v.args.length c8], Value.agg #[Value.string x.name, Value.int IntKind.i64 x.n, Value.slice y10 x.args.length c10], Value.slice aL L.length cL, Value.agg #[Value.string u.name, Value.int IntKind.i64 u.n, Value.slice y9 u.args.length c9], Value.agg #[Value.string y.name, Value.int IntKind.i64 y.n, Value.slice y11 y.args.length c11], u43, u44, u45, u46, u47, Value.bool true, u49, u50, u51, u52, u53, u54, u55, u56, u57, u58, u59, u60, u61, Value.bool sw, u63, u64, Value.tuple #[v', Value.bool false], Value.slice aL L.length cL, Value.pointer (some { block := V3.heap.size, off := 1 }), Value.int IntKind.i64 p.n, Value.agg #[Value.string q.name, Value.int IntKind.i64 q.n, Value.slice yq q.args.length cq], Value.tuple #[v', Value.bool false], v', Value.bool false, Value.bool false, undef, x75, x76, x77, x78, x79, x80, x81, x82, x83, undef, undef, undef, undef, undef, undef, undef, undef, undef, undef, undef, undef, undef, undef, undef, undef, undef, undef, undef, undef, undef, undef, undef, undef, undef, undef, undef, undef, undef, undef, undef, undef, undef, undef, undef, undef, undef, undef, undef, undef, undef, undef, undef, undef, undef, undef, undef, undef, undef, undef, undef, undef, undef], []⟩ ∧ Below V5.heap.size V5 Vr ∧ (f 0 = true → ∃ B, x75 = .slice (some ⟨B, 0, none⟩) 0 0 ∧ B < Vr.heap.size ∧ (f 2 = false → Vr.ownsRow V5.heap.size 34 4 (.slice (some ⟨B, 0, none⟩) 0 0) 0 []) ∧ (f 7 = true → x82.ownBlock ≠ some B)) ∧ (f 1 = true → x76 = .slice aL L.length cL) ∧ (f 2 = true → ∃ va vc, x77 = .slice va L.length vc ∧ (f 8 = false → Vr.ownsRow V5.heap.size 34 4 (.slice va L.length vc) L.length cs) ∧ (f 7 = true → ∀ g, (Value.slice va L.length vc).ownBlock = some g → x82.ownBlock ≠ some g)) ∧ (f 3 = true → x78 = .pointer (some ⟨V3.heap.size, 1, none⟩)) ∧ (f 4 = true → x79 = .int .i64 p.n) ∧ (f 5 = true → x80 = .agg #[.string q.name, .int .i64 q.n, .slice yq q.args.length cq]) ∧ (f 6 = true → x81 = .agg #[.int .i64 p.n, .string q.name, .int .i64 q.n, .slice yq q.args.length cq]) ∧ (f 7 = true → ∃ B, x82 = .slice (some ⟨B, 0, none⟩) 1 1 ∧ B < Vr.heap.size ∧ (f 8 = false → ∀ j u, ([.int .i64 p.n, .string q.name, .int .i64 q.n, .slice yq q.args.length cq] : List Value)[j]? = some u → Vr.cell? ((⟨B, 0, none⟩ : Addr).add j) = some u)) ∧ (f 8 = true → ∃ va vc, x83 = .slice va (L.length + 1) vc ∧ Vr.ownsRow V5.heap.size 34 4 (.slice va (L.length + 1) vc) (L.length + 1) (cs ++ [.int .i64 p.n, .string q.name, .int .i64 q.n, .slice yq q.args.length cq])) ∧ (f 9 = true → x6 = x83) ∧ (f 10 = true → x7 = .bool true)) (by kernel_rfl) (by kernel_rfl) (rs := [0, 1, 2, 3, 4, 5, 6, 7, 8, 9, 10]) (by kernel_rfl) ?start ?steps ?done
      case start => exact ⟨_, _, _, _, _, _, _, _, _, _, _, rfl, (Below.refl _ V5).drew, (fun h => Bool.noConfusion h), (fun h => Bool.noConfusion h), (fun h => Bool.noConfusion h), (fun h => Bool.noConfusion h), (fun h => Bool.noConfusion h), (fun h => Bool.noConfusion h), (fun h => Bool.noConfusion h), (fun h => Bool.noConfusion h), (fun h => Bool.noConfusion h), (fun h => Bool.noConfusion h), (fun h => Bool.noConfusion h)⟩
      case steps =>
        refine KeepsI.cons (ds := []) rfl (by kernel_rfl) ?s0 (KeepsI.cons (ds := []) rfl (by kernel_rfl) ?s1 (KeepsI.cons (ds := [0, 1]) rfl (by kernel_rfl) ?s2 (KeepsI.cons (ds := []) rfl (by kernel_rfl) ?s3 (KeepsI.cons (ds := [3]) rfl (by kernel_rfl) ?s4 (KeepsI.cons (ds := []) rfl (by kernel_rfl) ?s5 (KeepsI.cons (ds := [4, 5]) rfl (by kernel_rfl) ?s6 (KeepsI.cons (ds := [6]) rfl (by kernel_rfl) ?s7 (KeepsI.cons (ds := [2, 7]) rfl (by kernel_rfl) ?s8 (KeepsI.cons (ds := [8]) rfl (by kernel_rfl) ?s9 (KeepsI.cons (ds := []) rfl (by kernel_rfl) ?s10 KeepsI.nil))))))))))
        all_goals (intro f a Vr hf hd hcl hI K' hK; obtain ⟨x75, x76, x77, x78, x79, x80, x81, x82, x83, x6, x7, rfl, hVr, h0, h1, h2, h3, h4, h5, h6, h7, h8, h9, h10⟩ := hI)
        case s0 =>
          have n2 : f 2 = false := by cases h : f 2 with | false => rfl | true => exact absurd (hcl 2 0 (by kernel_rfl) h) (by rw [hf]; simp)
          have hown := Lib.hid (own_empty Vr 34 4 hVr.size)
          go_simp
          exact hK _ _ ⟨_, _, _, _, _, _, _, _, _, _, _, rfl, hVr.alloc hVr.size _, fun _ => ⟨_, rfl, by simp, fun _ => hown.out, fun h7' => by
            obtain ⟨B, rfl, hB, _⟩ := h7 h7'
            simp [Value.ownBlock]; omega⟩, h1, fun h => absurd (show f 2 = true from h) (by rw [n2]; simp), h3, h4, h5, h6, fun h => by
            obtain ⟨B, e, hB, hc⟩ := h7 h
            exact ⟨B, e, by simp; omega, fun h8' j u hj => Keeps.of_below ((Below.refl _ Vr).alloc (Nat.le_refl _) _) _ _ (hc h8' j u hj)⟩, fun h => absurd (hcl 2 0 (by kernel_rfl) (hcl 8 2 (by kernel_rfl) h)) (by rw [hf]; simp), h9, h10⟩
        case s1 =>
          go_simp
          exact hK _ _ ⟨_, _, _, _, _, _, _, _, _, _, _, rfl, hVr, h0, fun _ => rfl, h2, h3, h4, h5, h6, h7, h8, h9, h10⟩
        case s2 =>
          obtain ⟨B, e0, hBl, hown0, hne⟩ := h0 (hd 0 (by simp))
          have e1 := h1 (hd 1 (by simp))
          subst e0 e1
          have n8 : f 8 = false := by cases h : f 8 with | false => rfl | true => exact absurd (hcl 8 2 (by kernel_rfl) h) (by rw [hf]; simp)
          obtain ⟨v2, w3, hrun, hown2, hg2, hob⟩ := run_append_own_src (P := Tryd.prog) Vr V5.heap.size 32 32 34 i0 (.agg #[.int .i64 0, .string ⟨#[]⟩, .int .i64 0, .slice none 0 0]) 4 56 Tryd.underlying32 hi hz0 hz1' hz2' rfl (by decide) (.slice (some ⟨B, 0, none⟩) 0 0) 0 [] (hown0 hf) aL L.length cL cs hnilH.out hclH.out (hnewsH.out Vr (hwV5.out.trans (hVr.mono hwV5.out.size))) honeH.out (by unfold maxLen; omega) (by omega) hVr.size
          rw [Nat.zero_add, List.nil_append] at hown2
          obtain ⟨va, vc, rfl, _⟩ := ownsRow_form hown2
          have hown2' := Lib.hid hown2
          have hg2' := Lib.hid hg2
          have hob' := Lib.hid hob
          clear hown2 hg2 hob
          refine wanted_run (by rfl) ?_
          refine wp_append_run (.tmp 75) (.tmp 76) 32 _ _ _ _ _ rfl rfl rfl hrun ?_
          exact hK _ _ ⟨_, _, _, _, _, _, _, _, _, _, _, rfl, hVr.grown hg2'.out hVr.size (fun q e => (ownBlock_ge (hown0 hf) e).1), fun _ => ⟨B, rfl, Nat.lt_of_lt_of_le hBl hg2'.out.size, fun h => Bool.noConfusion h, fun h => hne h⟩, fun _ => rfl, fun _ => ⟨va, vc, rfl, fun _ => hown2'.out, fun h7' g hg => by
            obtain ⟨B2, rfl, hB2, _⟩ := h7 h7'
            rcases hob'.out with h | h
            · rw [h] at hg
              rw [← hg]; exact fun e => hne h7' e
            · rw [h] at hg
              simp [Value.ownBlock] at hg ⊢; omega⟩, h3, h4, h5, h6, fun h => by
            obtain ⟨B2, e, hB2, hc⟩ := h7 h
            refine ⟨B2, e, Nat.lt_of_lt_of_le hB2 hg2'.out.size, fun h8' j u hj => ?_⟩
            have := hc h8' j u hj
            rw [addr_add] at this ⊢
            rw [World.cell?_of_block (hg2'.out.block B2 hB2 (fun e' => hne h (by subst e; simpa [Value.ownBlock] using e')))]
            exact this, fun h => absurd (show f 8 = true from h) (by rw [n8]; simp), h9, h10⟩
        case s3 =>
          go_simp
          exact hK _ _ ⟨_, _, _, _, _, _, _, _, _, _, _, rfl, hVr, h0, h1, h2, fun _ => rfl, h4, h5, h6, h7, h8, h9, h10⟩
        case s4 =>
          have e3 := h3 (hd 3 (by simp))
          subst e3
          obtain ⟨q0, q1, q2⟩ := (hxp.out.below hVr).cells
          go_simp
          exact hK _ _ ⟨_, _, _, _, _, _, _, _, _, _, _, rfl, hVr, h0, h1, h2, fun _ => rfl, fun _ => rfl, h5, h6, h7, h8, h9, h10⟩
        case s5 =>
          obtain ⟨q3, q4, q5⟩ := (hxq.out.below hVr).cells
          go_simp
          exact hK _ _ ⟨_, _, _, _, _, _, _, _, _, _, _, rfl, hVr, h0, h1, h2, h3, h4, fun _ => rfl, h6, h7, h8, h9, h10⟩
        case s6 =>
          have e4 := h4 (hd 4 (by simp))
          have e5 := h5 (hd 5 (by simp))
          subst e4 e5
          go_simp
          exact hK _ _ ⟨_, _, _, _, _, _, _, _, _, _, _, rfl, hVr, h0, h1, h2, h3, fun _ => rfl, fun _ => rfl, fun _ => rfl, h7, h8, h9, h10⟩
        case s7 =>
          have e6 := h6 (hd 6 (by simp))
          subst e6
          have n8 : f 8 = false := by cases h : f 8 with | false => rfl | true => exact absurd (hcl 8 7 (by kernel_rfl) h) (by rw [hf]; simp)
          have hnew := Lib.hid (cell_four_new (w := Vr) rfl (.int .i64 p.n) (.string q.name) (.int .i64 q.n) (.slice yq q.args.length cq) 34)
          go_simp
          exact hK _ _ ⟨_, _, _, _, _, _, _, _, _, _, _, rfl, hVr.alloc hVr.size _, fun h => by
            obtain ⟨B, e, hB, ho, _⟩ := h0 h
            exact ⟨B, e, by simp; omega, fun h => (ho h).alloc _, fun _ => by simp [Value.ownBlock]; omega⟩, h1, fun h => by
            obtain ⟨va, vc, e, ho, _⟩ := h2 h
            refine ⟨va, vc, e, fun h => (ho h).alloc _, fun _ g hg => ?_⟩
            have := (ownBlock_ge (ho n8) hg).2
            simp [Value.ownBlock]; omega, h3, h4, h5, fun _ => rfl, fun _ => ⟨_, rfl, by simp, fun _ => hnew.out⟩, fun h => absurd (show f 8 = true from h) (by rw [n8]; simp), h9, h10⟩
        case s8 =>
          obtain ⟨va, vc, e2, hown0, hne⟩ := h2 (hd 2 (by simp))
          obtain ⟨B, e7, hBl, hnw⟩ := h7 (hd 7 (by simp))
          subst e2 e7
          have n9 : f 9 = false := by cases h : f 9 with | false => rfl | true => exact absurd (hcl 9 8 (by kernel_rfl) h) (by rw [hf]; simp)
          obtain ⟨v2, w3, hrun, hown2, hg2, _, hob⟩ := run_append_own_at (P := Tryd.prog) Vr V5.heap.size 32 32 34 i0 (.agg #[.int .i64 0, .string ⟨#[]⟩, .int .i64 0, .slice none 0 0]) 4 56 Tryd.underlying32 hi hz0 hz1' hz2' rfl (by decide) (.slice va L.length vc) L.length cs (hown0 hf) ⟨B, 0, none⟩ 1 1 [.int .i64 p.n, .string q.name, .int .i64 q.n, .slice yq q.args.length cq] rfl (hnw hf) (by simp [Value.oneCell']) (by unfold maxLen; omega) (by omega) hVr.size
          obtain ⟨va2, vc2, rfl, _⟩ := ownsRow_form hown2
          have hown2' := Lib.hid hown2
          have hg2' := Lib.hid hg2
          clear hown2 hg2 hob
          refine wanted_run (by rfl) ?_
          refine wp_append_run (.tmp 77) (.tmp 82) 32 _ _ _ _ _ rfl rfl rfl hrun ?_
          exact hK _ _ ⟨_, _, _, _, _, _, _, _, _, _, _, rfl, hVr.grown hg2'.out hVr.size (fun q e => (ownBlock_ge (hown0 hf) e).1), fun h => by
            obtain ⟨B0, e, hB, ho, hn⟩ := h0 h
            exact ⟨B0, e, Nat.lt_of_lt_of_le hB hg2'.out.size, fun h => absurd (show f 2 = false from h) (by rw [hd 2 (by simp)]; simp), hn⟩, h1, fun _ => ⟨va, vc, rfl, fun h => Bool.noConfusion h, hne⟩, h3, h4, h5, h6, fun _ => ⟨B, rfl, Nat.lt_of_lt_of_le hBl hg2'.out.size, fun h => Bool.noConfusion h⟩, fun _ => ⟨va2, vc2, rfl, hown2'.out⟩, fun h => absurd (show f 9 = true from h) (by rw [n9]; simp), h10⟩
        case s9 =>
          go_simp
          exact hK _ _ ⟨_, _, _, _, _, _, _, _, _, _, _, rfl, hVr, h0, h1, h2, h3, h4, h5, h6, h7, h8, fun _ => rfl, h10⟩
        case s10 =>
          go_simp
          exact hK _ _ ⟨_, _, _, _, _, _, _, _, _, _, _, rfl, hVr, h0, h1, h2, h3, h4, h5, h6, h7, h8, h9, fun _ => rfl⟩
      case done =>
        intro f a Vr hf hI
        obtain ⟨x75, x76, x77, x78, x79, x80, x81, x82, x83, x6, x7, rfl, hVr, h0, h1, h2, h3, h4, h5, h6, h7, h8, h9, h10⟩ := hI
        obtain ⟨va, vc, e8, hown⟩ := h8 (hf 8 (by simp))
        have e9 := h9 (hf 9 (by simp))
        have e10 := h10 (hf 10 (by simp))
        subst e8
        subst e9 e10
        have hfin := Lib.hid (FaSl.own (L := L ++ [⟨p.n, q⟩]) (hcsnocH.out) (hwV5.out.trans (hVr.mono hwV5.out.size)) (by rw [List.length_append]; exact hown))
        have hwf := Lib.hid (hwV5.out.trans (hVr.mono hwV5.out.size))
        clear h0 h1 h2 h3 h4 h5 h6 h7 h8 h9 h10 hown
        go_wp2_with fail
        go_ret2
        exact ⟨⟨_, ret_vb rfl (by rw [ho.out]), by rw [ho.out]; exact hfin.out⟩, hwf.out⟩
  · have hxyn : holeS x.name = false ∧ holeS y.name = false := by
      unfold swapT at hns
      cases h1 : holeS x.name <;> cases h2 : holeS y.name <;> rw [h1, h2] at hns
      · exact ⟨rfl, rfl⟩
      · simp [h2] at hns
      · simp [h1] at hns
      · by_cases hl : x.n < y.n
        · simp [hl, h2] at hns
        · simp [hl, h1] at hns
    have hor : (holeS x.name || holeS y.name) = false := by rw [hxyn.1, hxyn.2]; rfl
    have hxyn' := Lib.hid hxyn
    clear hxyn
    rw [hor]
    have hrest4 := Lib.hid hrest3
    clear hor hns hrest3
    go_upto_region 14 with (fail)
    go_cut [97] from 84 to 97 (fun s Y => s = .bool (!(x.name.toList == y.name.toList && x.args.length == y.args.length)) ∧ Below X.heap.size X Y)
    case first =>
      obtain ⟨q0, q1, q2⟩ := hx10b.out.cells
      obtain ⟨q3, q4, q5⟩ := hx11b.out.cells
      cases hnb : (x.name.toList == y.name.toList)
      · have hnb' := Lib.hid hnb
        go_wp2_with fail
        go_meet
        case rel => exact ⟨by rw [hnb'.out]; rfl, Below.refl _ _⟩
      · have hnb' := Lib.hid hnb
        cases hlb : (x.args.length == y.args.length)
        · have hlb' := Lib.hid hlb
          have hlc : ((x.args.length : Int) != (y.args.length : Int)) = true := by
            rw [beq_eq_false_iff_ne] at hlb; rw [bne_iff_ne]; omega
          clear hlb
          go_wp2_with fail
          go_meet
          case rel => exact ⟨by rw [hnb'.out, hlb'.out]; rfl, Below.refl _ _⟩
        · have hlb' := Lib.hid hlb
          have hlc : ((x.args.length : Int) != (y.args.length : Int)) = false := by
            rw [beq_iff_eq] at hlb; rw [bne_eq_false_iff_eq]; omega
          clear hlb
          go_wp2_with fail
          go_meet
          case rel => exact ⟨by rw [hnb'.out, hlb'.out]; rfl, Below.refl _ _⟩
    case rest =>
    obtain ⟨rfl, hYB⟩ := hcut
    obtain ⟨Y, rfl⟩ : ∃ X, X = wc := ⟨_, rfl⟩
    have hwY := Lib.hid (hwX.out.trans (hYB.mono (by omega)))
    have hzY : V4.heap.size + 1 ≤ Y.heap.size := Nat.le_trans hzX hYB.size
    have hx8b := Lib.hid (hx8.out.below hYB)
    have hx9b := Lib.hid (hx9.out.below hYB)
    have hx10 := Lib.hid (hx10b.out.below hYB)
    have hx11 := Lib.hid (hx11b.out.below hYB)
    clear hYB hx8 hx9 hx10b hx11b
    rcases hrest4.out with ⟨hne, hout⟩ | ⟨hn, hl, oo, hoo, hout⟩
    · have hb : (x.name.toList == y.name.toList && x.args.length == y.args.length) = false := by
        rcases hne with h | h
        · rw [show (x.name.toList == y.name.toList) = false from by rw [beq_eq_false_iff_ne]; exact h]; rfl
        · rw [show (x.args.length == y.args.length) = false from by rw [beq_eq_false_iff_ne]; exact h, Bool.and_false]
      rw [hb]
      have ho : Hid (out = (L, false)) := hout
      clear hne hout hb
      go_wp2_with fail
      go_ret2
      exact ⟨⟨_, ret_vb rfl (by rw [ho.out]), by rw [ho.out]; exact hFa.out _ hwY.out⟩, hwY.out⟩
    · have hb : (x.name.toList == y.name.toList && x.args.length == y.args.length) = true := by rw [hn, hl]; simp
      rw [hb]
      have hl' := Lib.hid hl
      have hoo' := Lib.hid hoo
      have hout' := Lib.hid hout
      have hxU : Hid (∀ e ∈ x.args, ∀ m ∈ allT e, m ∈ U) := args_in (walkT_in hin'.out _ _ _ hx'.out hvU.out) hxyn'.out.1
      have hyU : Hid (∀ e ∈ y.args, ∀ m ∈ allT e, m ∈ U) := args_in (walkT_in hin'.out _ _ _ hy'.out huU.out) hxyn'.out.2
      have hxl : x.args.length ≤ 140737488355328 := by
        have h := hr10.out
        obtain ⟨s, n, l⟩ := x
        obtain ⟨_, _, _, _, _, _, h, _⟩ := h.open
        unfold lenMax at h; exact h
      clear hn hl hoo hout hb
      go_wp2_with fail
      go_loopw [0, 14] (fun sl i wr => ∃ (k : Nat) (M : List Fa) (xa : Option Addr) (xc : Nat), k ≤ x.args.length ∧ i = .int .i64 k ∧ sl = .slice xa M.length xc ∧ Hid (oneL (oneT fuel) M (x.args.drop k) (y.args.drop k) = some oo) ∧ Hid (InU U M) ∧ Hid (FaSl wr (.slice xa M.length xc) M) ∧ Hid (Below Y.heap.size Y wr)) (fun _ i _ => x.args.length - (intOf i).toNat)
      case atStart => exact ⟨0, L, aL, cL, by omega, rfl, rfl, hoo', hin', hFa.out _ hwY.out, Below.refl _ _⟩
      case round =>
        obtain ⟨k, M, xa, xc, hk, rfl, rfl, hMo, hMU, hMF, hB⟩ := hrel
        have hwW := Lib.hid (hwY.out.trans (hB.out.mono hwY.out.size))
        have hx10w := Lib.hid (hx10.out.below hB.out)
        have hx11w := Lib.hid (hx11.out.below hB.out)
        by_cases h1 : k < x.args.length
        · have h2 : k < y.args.length := by have := hl'.out; omega
          have hMo2 := hMo.out
          rw [List.drop_eq_getElem_cons h1, List.drop_eq_getElem_cons h2] at hMo2
          obtain ⟨o1, ho1⟩ := oneL_some hMo2
          have hMo2' := Lib.hid hMo2
          have ho1' := Lib.hid ho1
          obtain ⟨bx, ofx, rfl, hax⟩ := (IsTy.row hr10.out).arg (by intro e; rw [e] at h1; simp at h1)
          obtain ⟨by', ofy, rfl, hay⟩ := (IsTy.row hr11.out).arg (by intro e; rw [e] at h2; simp at h2)
          obtain ⟨ax, cx, gx0, gx1, gx2, hxa⟩ := hax k h1
          obtain ⟨ay, cy, gy0, gy1, gy2, hya⟩ := hay k h2
          have hin1 := Lib.hid (one_in fuel _ _ _ _ ho1 hMU.out (hxU.out _ (List.getElem_mem h1)) (hyU.out _ (List.getElem_mem h2)))
          have hS : Hid (∀ V, Below wr.heap.size wr V → (Below wr.heap.size wr V ∧ (V.cell? ⟨V3.heap.size, 0, none⟩ = some (.string x.name) ∧ V.cell? ⟨V3.heap.size, 1, none⟩ = some (.int .i64 x.n) ∧ V.cell? ⟨V3.heap.size, 2, none⟩ = some (.slice (some ⟨bx, ofx, none⟩) x.args.length c10)) ∧ (V.cell? ⟨V4.heap.size, 0, none⟩ = some (.string y.name) ∧ V.cell? ⟨V4.heap.size, 1, none⟩ = some (.int .i64 y.n) ∧ V.cell? ⟨V4.heap.size, 2, none⟩ = some (.slice (some ⟨by', ofy, none⟩) y.args.length c11)) ∧ V.cell? ⟨bx, ofx + k * 3, none⟩ = some (.string x.args[k].name) ∧ V.cell? ⟨bx, ofx + k * 3 + 1, none⟩ = some (.int .i64 x.args[k].n) ∧ V.cell? ⟨bx, ofx + k * 3 + 2, none⟩ = some (.slice ax x.args[k].args.length cx) ∧ V.cell? ⟨by', ofy + k * 3, none⟩ = some (.string y.args[k].name) ∧ V.cell? ⟨by', ofy + k * 3 + 1, none⟩ = some (.int .i64 y.args[k].n) ∧ V.cell? ⟨by', ofy + k * 3 + 2, none⟩ = some (.slice ay y.args[k].args.length cy))) := fun V hV => by
            have hwV := hwW.out.trans (hV.mono hwW.out.size)
            exact ⟨hV, (hx10w.out.below hV).cells, (hx11w.out.below hV).cells, Keeps.of_below hwV _ _ gx0, Keeps.of_below hwV _ _ gx1, Keeps.of_below hwV _ _ gx2, Keeps.of_below hwV _ _ gy0, Keeps.of_below hwV _ _ gy1, Keeps.of_below hwV _ _ gy2⟩
          have hcl : Hid (∀ V, (Below wr.heap.size wr V ∧ (V.cell? ⟨V3.heap.size, 0, none⟩ = some (.string x.name) ∧ V.cell? ⟨V3.heap.size, 1, none⟩ = some (.int .i64 x.n) ∧ V.cell? ⟨V3.heap.size, 2, none⟩ = some (.slice (some ⟨bx, ofx, none⟩) x.args.length c10)) ∧ (V.cell? ⟨V4.heap.size, 0, none⟩ = some (.string y.name) ∧ V.cell? ⟨V4.heap.size, 1, none⟩ = some (.int .i64 y.n) ∧ V.cell? ⟨V4.heap.size, 2, none⟩ = some (.slice (some ⟨by', ofy, none⟩) y.args.length c11)) ∧ V.cell? ⟨bx, ofx + k * 3, none⟩ = some (.string x.args[k].name) ∧ V.cell? ⟨bx, ofx + k * 3 + 1, none⟩ = some (.int .i64 x.args[k].n) ∧ V.cell? ⟨bx, ofx + k * 3 + 2, none⟩ = some (.slice ax x.args[k].args.length cx) ∧ V.cell? ⟨by', ofy + k * 3, none⟩ = some (.string y.args[k].name) ∧ V.cell? ⟨by', ofy + k * 3 + 1, none⟩ = some (.int .i64 y.args[k].n) ∧ V.cell? ⟨by', ofy + k * 3 + 2, none⟩ = some (.slice ay y.args[k].args.length cy)) → Calls Tryd.prog 48 #[.slice xa M.length xc, .agg #[.string x.args[k].name, .int .i64 x.args[k].n, .slice ax x.args[k].args.length cx], .agg #[.string y.args[k].name, .int .i64 y.args[k].n, .slice ay y.args[k].args.length cy]] V fun r V' => ∃ za zc, r = .returned (.tuple #[.slice za o1.1.length zc, .bool o1.2]) ∧ Hid (FaSl V' (.slice za o1.1.length zc) o1.1) ∧ (Below wr.heap.size wr V' ∧ (V'.cell? ⟨V3.heap.size, 0, none⟩ = some (.string x.name) ∧ V'.cell? ⟨V3.heap.size, 1, none⟩ = some (.int .i64 x.n) ∧ V'.cell? ⟨V3.heap.size, 2, none⟩ = some (.slice (some ⟨bx, ofx, none⟩) x.args.length c10)) ∧ (V'.cell? ⟨V4.heap.size, 0, none⟩ = some (.string y.name) ∧ V'.cell? ⟨V4.heap.size, 1, none⟩ = some (.int .i64 y.n) ∧ V'.cell? ⟨V4.heap.size, 2, none⟩ = some (.slice (some ⟨by', ofy, none⟩) y.args.length c11)) ∧ V'.cell? ⟨bx, ofx + k * 3, none⟩ = some (.string x.args[k].name) ∧ V'.cell? ⟨bx, ofx + k * 3 + 1, none⟩ = some (.int .i64 x.args[k].n) ∧ V'.cell? ⟨bx, ofx + k * 3 + 2, none⟩ = some (.slice ax x.args[k].args.length cx) ∧ V'.cell? ⟨by', ofy + k * 3, none⟩ = some (.string y.args[k].name) ∧ V'.cell? ⟨by', ofy + k * 3 + 1, none⟩ = some (.int .i64 y.args[k].n) ∧ V'.cell? ⟨by', ofy + k * 3 + 2, none⟩ = some (.slice ay y.args[k].args.length cy))) := fun V hV => by
            have hwV := hwW.out.trans (hV.1.mono hwW.out.size)
            have hM2 := hMF.out.keeps (Keeps.of_below hV.1)
            refine (ih'.out M _ _ xa xc _ _ V o1 ho1 hMU.out (hxU.out _ (List.getElem_mem h1)) (hyU.out _ (List.getElem_mem h2)) hM2.at.2.1 hM2.at.2.2 (hxa.below hwV) (hya.below hwV)).mono ?_
            rintro r V' ⟨⟨z, rfl, hz⟩, hBV⟩
            obtain ⟨za, zc, rfl, _⟩ := hz.open
            exact ⟨za, zc, rfl, hz, hS.out _ (hV.1.trans (hBV.mono hV.1.size))⟩
          have hst := Lib.hid (hS.out _ (Below.refl _ wr))
          have hdr := Lib.hid (hS.out _ (Below.refl _ wr).drew)
          have h1i : (k : Int) < (x.args.length : Int) := by omega
          have h2i : (k : Int) < (y.args.length : Int) := by omega
          obtain ⟨q0, q1, q2⟩ := hx10w.out.cells
          clear hax hay gx0 gx1 gx2 gy0 gy1 gy2 hMo2 ho1
          go_upto_region 19 with (fail)
          go_cut [15, 16] from 106 to 120 (fun s15 s16 Z => ∃ za zc, s15 = .slice za o1.1.length zc ∧ s16 = .bool o1.2 ∧ Hid (FaSl Z (.slice za o1.1.length zc) o1.1) ∧ Hid (Below wr.heap.size wr Z))
          case first =>
            first | (go_region_held3 (fun V => (Below wr.heap.size wr V ∧ (V.cell? ⟨V3.heap.size, 0, none⟩ = some (.string x.name) ∧ V.cell? ⟨V3.heap.size, 1, none⟩ = some (.int .i64 x.n) ∧ V.cell? ⟨V3.heap.size, 2, none⟩ = some (.slice (some ⟨bx, ofx, none⟩) x.args.length c10)) ∧ (V.cell? ⟨V4.heap.size, 0, none⟩ = some (.string y.name) ∧ V.cell? ⟨V4.heap.size, 1, none⟩ = some (.int .i64 y.n) ∧ V.cell? ⟨V4.heap.size, 2, none⟩ = some (.slice (some ⟨by', ofy, none⟩) y.args.length c11)) ∧ V.cell? ⟨bx, ofx + k * 3, none⟩ = some (.string x.args[k].name) ∧ V.cell? ⟨bx, ofx + k * 3 + 1, none⟩ = some (.int .i64 x.args[k].n) ∧ V.cell? ⟨bx, ofx + k * 3 + 2, none⟩ = some (.slice ax x.args[k].args.length cx) ∧ V.cell? ⟨by', ofy + k * 3, none⟩ = some (.string y.args[k].name) ∧ V.cell? ⟨by', ofy + k * 3 + 1, none⟩ = some (.int .i64 y.args[k].n) ∧ V.cell? ⟨by', ofy + k * 3 + 2, none⟩ = some (.slice ay y.args[k].args.length cy))) ((first | exact hdr.out | exact hst.out | assumption))
              ((go_at_call 48; (with_reducible refine (hcl.out _ (by assumption)).mono ?_); rintro e w7 ⟨za, zc, rfl, hz7, hs7⟩))) | fail
            all_goals
              go_wp2_with fail
              go_meet
              case rel => exact ⟨za, zc, rfl, rfl, hz7, hs7.1⟩
          case rest =>
          obtain ⟨za, zc, rfl, rfl, hzF, hzB⟩ := hcut
          obtain ⟨Z, rfl⟩ : ∃ X, X = wc := ⟨_, rfl⟩
          have hBZ := Lib.hid (hB.out.trans (hzB.out.mono hB.out.size))
          have hwZ := Lib.hid (hwW.out.trans (hzB.out.mono hwW.out.size))
          clear hst hdr hS hcl q0 q1 q2
          obtain ⟨M', ob⟩ := o1
          cases ob
          · have hoe := oneL_false hMo2'.out ho1'.out
            have ho : Hid (out = (M', false)) := by unfold Hid; rw [hout'.out, hoe]; simp
            clear hoe
            go_wp2_with fail
            go_ret2
            exact ⟨⟨_, ret_vb rfl (by rw [ho.out]), by rw [ho.out]; exact hzF.out⟩, hwZ.out⟩
          · have hon := Lib.hid (oneL_true hMo2'.out ho1'.out)
            go_wp2_with fail
            go_roundw
            case rel => exact ⟨k + 1, M', za, zc, by omega, by go_num, rfl, hon, hin1, hzF, hBZ⟩
            case measure => simp [intOf]; omega
        · have hoe : oo = (M, true) := by
            have h := hMo.out
            rw [show k = x.args.length by omega, List.drop_length] at h
            simp only [oneL, Option.some.injEq] at h
            exact h.symm
          have ho : Hid (out = if holeS v.name = true ∧ holeS u.name = true then (setF M v.n u, true) else (M, true)) := by unfold Hid; rw [hout'.out, hoe]; simp
          clear hoe
          have hx8w := Lib.hid (hx8b.out.below hB.out)
          have hx9w := Lib.hid (hx9b.out.below hB.out)
          obtain ⟨q0, q1, q2⟩ := hx10w.out.cells
          go_upto_region 23 with (fail)
          go_cut [130] from 125 to 130 (fun s Z => s = .bool (holeS v.name && holeS u.name) ∧ Below wr.heap.size wr Z)
          case first =>
            have hca := Lib.hid (fun V => hH.out v.name v.n y8 v.args.length c8 V)
            have hcb := Lib.hid (fun V => hH.out u.name u.n y9 u.args.length c9 V)
            clear q0 q1 q2
            obtain ⟨q0, q1, q2⟩ := hx8w.out.cells
            cases h1 : holeS v.name
            · rw [h1] at hca
              have h1' := Lib.hid h1
              clear h1
              go_wp2_with fail
              refine (hca.out _).mono ?_
              rintro e X ⟨rfl, hX⟩
              go_wp2_with fail
              go_meet
              case rel => exact ⟨by rw [h1'.out]; rfl, hX⟩
            · rw [h1] at hca
              have h1' := Lib.hid h1
              clear h1
              go_wp2_with fail
              refine (hca.out _).mono ?_
              rintro e X ⟨rfl, hX⟩
              have hX' := Lib.hid hX
              obtain ⟨q3, q4, q5⟩ := (hx9w.out.below hX).cells
              clear hX
              cases h2 : holeS u.name
              all_goals
                rw [h2] at hcb
                have h2' := Lib.hid h2
                clear h2
                go_wp2_with fail
                refine (hcb.out _).mono ?_
                rintro e Y ⟨rfl, hY⟩
                have hY' := Lib.hid (hX'.out.trans (hY.mono hX'.out.size))
                clear hY
                go_wp2_with fail
                go_meet
                case rel => exact ⟨by rw [h1'.out, h2'.out]; rfl, hY'.out⟩
          case rest =>
          obtain ⟨rfl, hzB⟩ := hcut
          obtain ⟨Z, rfl⟩ : ∃ X, X = wc := ⟨_, rfl⟩
          have hwZ := Lib.hid (hwW.out.trans (hzB.mono hwW.out.size))
          have hMZ := Lib.hid (hMF.out.keeps (Keeps.of_below hzB))
          have hx8z := Lib.hid (hx8w.out.below hzB)
          have hx9z := Lib.hid (hx9w.out.below hzB)
          clear hzB q0 q1 q2
          cases hvu : (holeS v.name && holeS u.name)
          · have ho2 : Hid (out = (M, true)) := by
              unfold Hid; rw [ho.out, if_neg]
              intro h; rw [h.1, h.2] at hvu; cases hvu
            clear hvu
            go_wp2_with fail
            go_ret2
            exact ⟨⟨_, ret_vb rfl (by rw [ho2.out]), by rw [ho2.out]; exact hMZ.out⟩, hwZ.out⟩
          · have ho2 : Hid (out = (setF M v.n u, true)) := by
              unfold Hid; rw [ho.out, if_pos]
              rw [Bool.and_eq_true] at hvu; exact hvu
            have hv64 : In64 v.n := by
              have h := hr8.out
              obtain ⟨s, n, l⟩ := v
              obtain ⟨_, _, _, _, h, _⟩ := h.open
              exact h
            have hsm := Lib.hid (r08_same M v.n u xa xc _ Z (by have := hMU.out.len; have := hUl'.out; omega) hv64 hMZ.out.at.2.1 hMZ.out.at.2.2 (hr9.out.below hwZ.out))
            obtain ⟨q0, q1, q2⟩ := hx8z.out.cells
            obtain ⟨q3, q4, q5⟩ := hx9z.out.cells
            clear hvu hv64
            go_wp2_with fail
            refine hsm.out.mono ?_
            rintro e Z2 ⟨⟨z, rfl, hz⟩, hB2⟩
            have hz' := Lib.hid hz
            have hwZ2 := Lib.hid (hwZ.out.trans (hB2.mono hwZ.out.size))
            clear hz hB2
            go_wp2_with fail
            go_ret2
            exact ⟨⟨_, ret_vb rfl (by rw [ho2.out]), by rw [ho2.out]; exact hz'.out⟩, hwZ2.out⟩
