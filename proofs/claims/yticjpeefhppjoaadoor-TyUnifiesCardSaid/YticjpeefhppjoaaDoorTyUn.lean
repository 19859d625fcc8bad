/- The facts that make two types one: the model, and the program's. -/
import Derived.Test.YticjpeefhppjoaaDoorTyFu
import Derived.Test.YticjpeefhppjoaaDoorTyF
namespace Go.Proofs.YticjpeefhppjoaaDoor
open Go.RowKit

def holeT (n : Int) : Ty := .mk ⟨#[]⟩ n []
/-- The facts of holes, each with all facts in it; some none: one is too great. -/
def outA (L : List Fa) : List Int → List Fa → Option (Option (List Fa))
  | [], acc => some (some acc)
  | n :: r, acc => match fullP L 60 (holeT n) 2000 with
    | none => none
    | some (t, y) => if y < 0 then some none else outA L r (acc ++ [⟨n, t⟩])
/-- What unifying two types answers: facts, or none. -/
def UniP (fuel : Nat) (a b : Ty) (r : Option (List Fa)) : Prop :=
  ((chkT a && chkT b) = false ∧ r = none) ∨ ((chkT a && chkT b) = true ∧ ((∃ L, oneT fuel [] a b = some (L, false) ∧ L.length ≤ 1000000) ∧ r = none ∨
    ∃ L K, oneT fuel [] a b = some (L, true) ∧ L.length ≤ 1000000 ∧ K.Pairwise (· < ·) ∧ (∀ n ∈ K, In64 n) ∧ (∀ n, In64 n → (n ∈ K ↔ (fa? L n).isSome = true)) ∧ outA L K [] = some r))

theorem rising_unique : ∀ (l m : List Int), l.Pairwise (· < ·) → m.Pairwise (· < ·) → (∀ x, x ∈ l ↔ x ∈ m) → l = m
  | [], [], _, _, _ => rfl
  | [], b :: m, _, _, h => by have := (h b).2 (by simp); simp at this
  | a :: l, [], _, _, h => by have := (h a).1 (by simp); simp at this
  | a :: l, b :: m, hl, hm, h => by
    obtain ⟨hl1, hl2⟩ := List.pairwise_cons.1 hl
    obtain ⟨hm1, hm2⟩ := List.pairwise_cons.1 hm
    have hab : a = b := by
      rcases List.mem_cons.1 ((h a).1 (by simp)) with e | e
      · exact e
      · rcases List.mem_cons.1 ((h b).2 (by simp)) with e2 | e2
        · exact e2.symm
        · have := hl1 b e2; have := hm1 a e; omega
    subst hab
    rw [rising_unique l m hl2 hm2 fun x => ?_]
    constructor
    · intro hx
      rcases List.mem_cons.1 ((h x).1 (by simp [hx])) with e | e
      · subst e; have := hl1 x hx; omega
      · exact e
    · intro hx
      rcases List.mem_cons.1 ((h x).2 (by simp [hx])) with e | e
      · subst e; have := hm1 x hx; omega
      · exact e

/-- A value is a slice of facts. -/
def FaSl (w : World) (v : Value) (L : List Fa) : Prop := ∃ a c, v = .slice a L.length c ∧ (a = none → c = 0) ∧ FaRow (fun _ => False) w a L
theorem FaSl.nil (w : World) : FaSl w (.slice none 0 0) [] := ⟨none, 0, rfl, fun _ => rfl, .inl rfl⟩
/-- The parts of full that are soundly great. -/
theorem hole_is (w : World) {n : Int} (h : In64 n) : IsTy w (.agg #[.string ⟨#[]⟩, .int .i64 n, .slice none 0 0]) (holeT n) := TyX.shut (l := []) (fun _ => rfl) h (Nat.zero_le _) (Nat.zero_le _) (.inl rfl)

theorem ret_two {x y u v : Value} (h1 : x = u) (h2 : y = v) : Ending.returned (.tuple #[x, y]) = .returned (.tuple #[u, v]) := by rw [h1, h2]

set_option maxHeartbeats 4000000 in
set_option maxRecDepth 100000 in
theorem ty_Unify (fuel : Nat) (a b : Ty) (va vb : Value) (w : World) (r : Option (List Fa)) (hr : UniP fuel a b r) (hva : IsTy w va a) (hvb : IsTy w vb b) :
    Calls Tryd.prog 24 #[va, vb] w fun z w' => (∃ v, z = .returned (.tuple #[v, .int .i64 (if r.isSome then 0 else 80)]) ∧ FaSl w' v (r.getD [])) ∧ Below w.heap.size w w' := by
  obtain ⟨sa, na, la⟩ := a
  obtain ⟨sc, nc, lc⟩ := b
  have hva' := Lib.hid hva
  have hvb' := Lib.hid hvb
  obtain ⟨aa, ac, rfl, _, han, _⟩ := hva.open
  obtain ⟨ba, bc, rfl, _, hbn, _⟩ := hvb.open
  have hr' := Lib.hid hr
  obtain ⟨W1, hW1⟩ : ∃ W, (((w.alloc (.cells #[.string sa, .int .i64 na, .slice aa la.length ac] 24)).alloc (.cells #[.string sc, .int .i64 nc, .slice ba lc.length bc] 24)).alloc (.map #[] 0)).alloc (.cells #[.map (some (w.heap.size + 1 + 1))] 66) = W := ⟨_, rfl⟩
  have hz1 : W1.heap.size = w.heap.size + 4 := by rw [← hW1]; simp
  have hb1 : Below w.heap.size w W1 := by rw [← hW1]; exact ((((Below.refl _ w).alloc (Nat.le_refl _) _).alloc (by simp) _).alloc (by simp <;> omega) _).alloc (by simp <;> omega) _
  have hba : BoxT W1 w.heap.size (.string sa) (.int .i64 na) (.slice aa la.length ac) := by rw [← hW1]; exact new_block ((((Below.refl _ _).alloc (by simp) _).alloc (by simp <;> omega) _).alloc (by simp <;> omega) _)
  have hbb : BoxT W1 (w.heap.size + 1) (.string sc) (.int .i64 nc) (.slice ba lc.length bc) := by rw [← hW1]; exact new_block2 (((Below.refl _ _).alloc (by simp <;> omega) _).alloc (by simp <;> omega) _)
  have hmap : MapOf Tryd.prog W1 3 (w.heap.size + 2) 0 (fun _ => none) := by
    rw [← hW1]
    have := MapOf.made Tryd.prog ((w.alloc (.cells #[.string sa, .int .i64 na, .slice aa la.length ac] 24)).alloc (.cells #[.string sc, .int .i64 nc, .slice ba lc.length bc] 24)) 3
    simp only [World.size_alloc] at this
    exact this.below ((Below.refl _ _).alloc (Nat.le_refl _) _) (by simp)
  have hmk1 : MkIs W1 (w.heap.size + 3) (w.heap.size + 2) := by
    rw [← hW1]
    have := new_block (w := ((w.alloc (.cells #[.string sa, .int .i64 na, .slice aa la.length ac] 24)).alloc (.cells #[.string sc, .int .i64 nc, .slice ba lc.length bc] 24)).alloc (.map #[] 0)) (vs := #[.map (some (w.heap.size + 2))]) (t := 66) (Below.refl _ _)
    simp only [World.size_alloc] at this
    exact this
  have hmp1 : MpIs w W1 (w.heap.size + 2) [] := ⟨_, hmap, fun n _ => .inl ⟨rfl, rfl⟩⟩
  have hcells : ∀ V, Below W1.heap.size W1 V → V.cell? ⟨w.heap.size, 0, none⟩ = some (.string sa) ∧ V.cell? ⟨w.heap.size, 1, none⟩ = some (.int .i64 na) ∧ V.cell? ⟨w.heap.size, 2, none⟩ = some (.slice aa la.length ac) ∧ V.cell? ⟨w.heap.size + 1, 0, none⟩ = some (.string sc) ∧ V.cell? ⟨w.heap.size + 1, 1, none⟩ = some (.int .i64 nc) ∧ V.cell? ⟨w.heap.size + 1, 2, none⟩ = some (.slice ba lc.length bc) := by
    intro V hV
    obtain ⟨q0, q1, q2⟩ := (hba.below hV hba.lt).cells
    obtain ⟨q3, q4, q5⟩ := (hbb.below hV hbb.lt).cells
    exact ⟨q0, q1, q2, q3, q4, q5⟩
  have hW1' := Lib.hid hW1
  have hb1' := Lib.hid hb1
  have hmk' := Lib.hid hmk1
  have hmp' := Lib.hid hmp1
  have hcells' := Lib.hid hcells
  have hCh : Hid (∀ V, Below w.heap.size w V → Calls Tryd.prog 15 #[.agg #[.string sa, .int .i64 na, .slice aa la.length ac]] V fun r V' => r = .returned (.bool (chkT (.mk sa na la))) ∧ Below V.heap.size V V') := fun V hV => ty_Check _ _ V (TyX.below hva hV)
  have hCg : Hid (∀ V, Below w.heap.size w V → Calls Tryd.prog 15 #[.agg #[.string sc, .int .i64 nc, .slice ba lc.length bc]] V fun r V' => r = .returned (.bool (chkT (.mk sc nc lc))) ∧ Below V.heap.size V V') := fun V hV => ty_Check _ _ V (TyX.below hvb hV)
  obtain ⟨q0, q1, q2, q3, q4, q5⟩ := hcells _ (Below.refl _ _)
  have hmm := @run_makeMap Tryd.prog
  clear hva hvb hr hW1 hb1 hba hbb hmap hmk1 hmp1 hcells q0 q1 q2 q3 q4 q5
  go_enter Tryd.func24, Tryd.ntmps24
  go_upto_region 2 with (fail)
  rw [hW1'.out]
  obtain ⟨q0, q1, q2, q3, q4, q5⟩ := hcells'.out _ (Below.refl _ _)
  clear hmm
  go_wp2_with fail
  refine (hCh.out _ hb1'.out).mono ?_
  rintro e V ⟨rfl, hV⟩
  clear q0 q1 q2 q3 q4 q5
  obtain ⟨q0, q1, q2, q3, q4, q5⟩ := hcells'.out _ hV
  have hwV := Lib.hid (hb1'.out.trans (hV.mono (by omega)))
  cases hca : chkT (.mk sa na la)
  case false =>
    have hrn : r = none := by
      rcases hr'.out with ⟨_, h⟩ | ⟨h, _⟩
      · exact h
      · rw [hca] at h; simp at h
    subst hrn
    clear hca
    go_wp2_with fail
    go_ret2
    exact ⟨⟨_, ret_two rfl rfl, FaSl.nil _⟩, hwV.out⟩
  go_wp2_with fail
  refine (hCg.out _ hwV.out).mono ?_
  rintro e V2 ⟨rfl, hV2⟩
  clear q0 q1 q2 q3 q4 q5
  have hVV2 := hV.trans (hV2.mono hV.size)
  obtain ⟨q0, q1, q2, q3, q4, q5⟩ := hcells'.out _ hVV2
  have hwV2 := Lib.hid (hb1'.out.trans (hVV2.mono (by omega)))
  cases hcb : chkT (.mk sc nc lc)
  case false =>
    have hrn : r = none := by
      rcases hr'.out with ⟨_, h⟩ | ⟨h, _⟩
      · exact h
      · rw [hca, hcb] at h; simp at h
    subst hrn
    clear hca hcb
    go_wp2_with fail
    go_ret2
    exact ⟨⟨_, ret_two rfl rfl, FaSl.nil _⟩, hwV2.out⟩
  obtain ⟨L, ob, h1, hLl, hof, hot⟩ : ∃ L ob, oneT fuel [] (.mk sa na la) (.mk sc nc lc) = some (L, ob) ∧ L.length ≤ 1000000 ∧ (ob = false → r = none) ∧ (ob = true → ∃ K, K.Pairwise (· < ·) ∧ (∀ n ∈ K, In64 n) ∧ (∀ n, In64 n → (n ∈ K ↔ (fa? L n).isSome = true)) ∧ outA L K [] = some r) := by
    rcases hr'.out with ⟨h, _⟩ | ⟨_, ⟨⟨L, h1, h2⟩, h3⟩ | ⟨L, K, h1, h2, h3⟩⟩
    · rw [hca, hcb] at h; simp at h
    · exact ⟨L, false, h1, h2, fun _ => h3, fun h => by cases h⟩
    · exact ⟨L, true, h1, h2, fun h => (by cases h), fun _ => ⟨K, h3⟩⟩
  have hcL0 : CntL [] := fun x e h => by simp [fa?] at h
  have hcL := Lib.hid ((oneT_ok fuel _ _ _ _ h1).1 hcL0 (by have := chk_cnt hca; omega) (by have := chk_cnt hcb; omega))
  have hone := Lib.hid (ty_one w (w.heap.size + 1 + 1 + 1) (w.heap.size + 1 + 1) (by omega) fuel [] _ _ _ _ V2 (L, ob) h1 hLl hcL0 (by have := chk_cnt hca; omega) (by have := chk_cnt hcb; omega) (hmk'.out.below hVV2 hmk'.out.lt) (hmp'.out.below hVV2 hmp'.out.lt) hva'.out hvb'.out (KeepsBut.of_below hwV2.out))
  have hmkV := Lib.hid (hmk'.out.below hVV2 hmk'.out.lt)
  have hzV2 := hVV2.size
  clear hca hcb h1 hcL0 hV hV2 hVV2
  go_wp2_with fail
  refine hone.out.mono ?_
  rintro e V3 ⟨rfl, hmp3, hB3⟩
  have hwV3 := Lib.hid (hwV2.out.trans (hB3.below (by omega) (by omega)))
  have hmk3 : MkIs V3 (w.heap.size + 1 + 1 + 1) (w.heap.size + 1 + 1) := (hB3.block _ (by omega) (by omega)).trans hmkV.out
  have hmk3' := Lib.hid hmk3
  have hmp3' := Lib.hid hmp3
  have hk0 := hmk3.cell
  have hzV3 := hB3.size
  clear q0 q1 q2 q3 q4 q5 hmp3 hB3 hmk3
  cases ob
  case false =>
    have hrn := hof rfl
    subst hrn
    go_wp2_with fail
    go_ret2
    exact ⟨⟨_, ret_two rfl rfl, FaSl.nil _⟩, hwV3.out⟩
  obtain ⟨K, hKp, hK64, hKm, hKo⟩ := hot rfl
  have hKp' := Lib.hid hKp
  have hK64' := Lib.hid hK64
  have hKm' := Lib.hid hKm
  have hKo' := Lib.hid hKo
  clear hKp hK64 hKm hKo hof hot
  go_wp2_with fail
  refine (keys_call _ _).mono ?_
  rintro e V4 ⟨rfl, hV4⟩
  have hB4 : Below V3.heap.size V3 V4 := by rw [hV4]; exact (Below.refl _ _).alloc (Nat.le_refl _) _
  have hc4 : V4.cell? ⟨V3.heap.size, 0, none⟩ = some (.map (some (w.heap.size + 1 + 1))) := by rw [hV4, World.cell?_alloc_at _ _ _ _ rfl]; rfl
  have hz4 : V3.heap.size < V4.heap.size := by rw [hV4]; simp
  have hmp4 := hmp3'.out.below hB4 hmp3'.out.lt
  have hmp4' := Lib.hid hmp4
  obtain ⟨f, hM4, hF4⟩ := hmp4
  have hsc := Lib.hid (sorted_call _ _ _ f V4 hz4 hc4 hM4 hLl)
  have hF4' := Lib.hid hF4
  have hmk4 := Lib.hid (hmk3'.out.below hB4 hmk3'.out.lt)
  have hwV4 := Lib.hid (hwV3.out.trans (hB4.mono (by omega)))
  clear hV4 hB4 hM4 hF4
  go_wp2_with fail
  refine hsc.out.mono ?_
  rintro e V5 ⟨vv, ss, rfl, hsl, hpw, hmem, h64, hsn, hB5⟩
  obtain ⟨aK, cK, rfl⟩ := hsl.form
  have hKs : ss = K := rising_unique _ _ hpw hKp'.out fun x => by
    constructor
    · intro hx
      have h6 := h64 x hx
      refine (hKm'.out x h6).2 ?_
      have h7 := (hmem x).1 hx
      rcases hF4'.out x h6 with ⟨_, h8⟩ | ⟨e, v, h8, _⟩
      · rw [h8] at h7; cases h7
      · rw [h8]; rfl
    · intro hx
      have h6 := hK64'.out x hx
      refine (hmem x).2 ?_
      have h7 := (hKm'.out x h6).1 hx
      rcases hF4'.out x h6 with ⟨h8, _⟩ | ⟨e, v, _, h8, _⟩
      · rw [h8] at h7; cases h7
      · rw [h8]; rfl
  subst hKs
  have hsl' := Lib.hid hsl
  have hzV5 := hB5.size
  have hmk5 := Lib.hid (hmk4.out.below hB5 hmk4.out.lt)
  have hmp5 := Lib.hid (hmp4'.out.below hB5 hmp4'.out.lt)
  have hwV5 := Lib.hid (hwV4.out.trans (hB5.mono (by omega)))
  have hKl : ss.length ≤ 1000000 := Nat.le_trans hsn hLl
  have h64' := Lib.hid h64
  obtain ⟨i0, hi, hz0, hz1', hz2'⟩ := info_of Tryd.infoFa
  clear hsl hpw hmem hB5 hk0 h64 hc4
  go_wp2_with fail
  go_loopw [7, 37] (fun fv i wr => ∃ (k : Nat) (cs : List Value) (es : List Fa) (fa : Option Addr) (fc : Nat), k ≤ ss.length ∧ i = .int .i64 k ∧ fv = .slice fa k fc ∧ Hid (outA L (ss.drop k) es = some r) ∧ Hid (es.length = k) ∧ Hid (wr.ownsRow V5.heap.size 34 4 fv k cs ∧ FaCells (fun c => fv.ownBlock = some c) wr cs es) ∧ Hid (Below V5.heap.size V5 wr)) (fun _ i _ => ss.length - (intOf i).toNat)
  case atStart => exact ⟨0, [], [], _, _, by omega, rfl, rfl, hKo'.out, rfl, ⟨⟨rfl, .inl ⟨rfl, rfl⟩⟩, fun i h => by simp at h⟩, Below.refl _ _⟩
  case round =>
    obtain ⟨k, cs, es, fa, fc, hk, rfl, rfl, hoA, hel, hown, hBr⟩ := hrel
    have hzr := hBr.out.size
    have hwr := Lib.hid (hwV5.out.trans (hBr.out.mono (by omega)))
    by_cases h1 : k < ss.length
    · obtain ⟨b, off, rfl, hc⟩ := (hsl'.out.keeps (Keeps.of_below hBr.out)).at.2 (by rintro rfl; simp at h1)
      have g0 := hc k h1
      have hin := h64'.out _ (List.getElem_mem h1)
      have hin' := Lib.hid hin
      obtain ⟨n, hn⟩ : ∃ n, ss[k] = n := ⟨_, rfl⟩
      rw [hn] at g0 hin hin'
      have hn' := Lib.hid hn
      have hoA2 := hoA.out
      rw [List.drop_eq_getElem_cons h1, hn] at hoA2
      obtain ⟨pp, hpp, hneg, hpos⟩ : ∃ pp, fullP L 60 (holeT n) 2000 = some pp ∧ (pp.2 < 0 → r = none) ∧ (¬ pp.2 < 0 → outA L (ss.drop (k + 1)) (es ++ [⟨n, pp.1⟩]) = some r) := by
        simp only [outA] at hoA2
        cases h : fullP L 60 (holeT n) 2000 with
        | none => rw [h] at hoA2; cases hoA2
        | some p =>
          rw [h] at hoA2
          obtain ⟨t, y⟩ := p
          simp only at hoA2
          refine ⟨_, rfl, fun h2 => ?_, fun h2 => ?_⟩
          · rw [if_pos h2] at hoA2; exact (Option.some.inj hoA2).symm
          · rw [if_neg h2] at hoA2; exact hoA2
      have hpos' := Lib.hid hpos
      have hwa : Below wr.heap.size wr (wr.alloc (.cells #[.int .i64 2000] 3)) := (Below.refl _ _).alloc (Nat.le_refl _) _
      have hlf : LfIs (wr.alloc (.cells #[.int .i64 2000] 3)) wr.heap.size 2000 := new_block (Below.refl _ _)
      have hbw := Lib.hid (hBr.out.trans (hwa.mono (by omega)))
      have hwwa := Lib.hid (hwr.out.trans (hwa.mono (by omega)))
      have hfu := Lib.hid (ty_full w (w.heap.size + 1 + 1 + 1) (w.heap.size + 1 + 1) wr.heap.size L (by omega) (by omega) (by omega) hcL.out 60 (holeT n) 60 2000 _ (wr.alloc (.cells #[.int .i64 2000] 3)) (fun c => (Value.slice fa k fc).ownBlock = some c) pp hpp rfl (by omega) (by omega) (by omega) (by simp [holeT, tcnt, tcnt.cntL]) (hmk5.out.below hbw.out hmk5.out.lt) (hmp5.out.below hbw.out hmp5.out.lt) (hole_is w hin) (KeepsBut.of_below hwwa.out) hlf (fun b hb => by have := (ownBlock_ge hown.out.1 hb).2; rw [World.size_alloc]; omega))
      have hwa' := Lib.hid hwa
      clear hc hin hn hoA2 hpp hpos hwa hlf
      go_wp2_with fail
      refine hfu.out.mono ?_
      rintro e V6 ⟨u, rfl, hu, hl6, hB6⟩
      obtain ⟨ua, uc, rfl⟩ := hu.form
      have hrw6 : Below wr.heap.size wr V6 := hwa'.out.trans (hB6.below (by simp) (Nat.le_refl _))
      obtain ⟨p0, p1⟩ := hl6.cell
      have hz6 : wr.heap.size < V6.heap.size := hl6.lt
      have hu' := Lib.hid hu
      have hrw6' := Lib.hid hrw6
      have hww6 := Lib.hid (hwr.out.trans (hrw6.mono (by omega)))
      clear hu hl6 hB6 hrw6 g0
      by_cases hy : pp.2 < 0
      · have hrn := hneg hy
        subst hrn
        go_wp2_with fail
        go_ret2
        exact ⟨⟨_, ret_two rfl rfl, FaSl.nil _⟩, hww6.out.alloc (by omega) _⟩
      · clear hneg
        have hy' := Lib.hid hy
        go_upto_region 12 with (fail)
        obtain ⟨V7, hV7⟩ : ∃ W, V6.alloc (.cells #[.string pp.1.name, .int .i64 pp.1.n, .slice ua pp.1.args.length uc] 24) = W := ⟨_, rfl⟩
        have hB7 : Below V6.heap.size V6 V7 := by rw [← hV7]; exact (Below.refl _ _).alloc (Nat.le_refl _) _
        have hb7 : BoxT V7 V6.heap.size (.string pp.1.name) (.int .i64 pp.1.n) (.slice ua pp.1.args.length uc) := by rw [← hV7]; exact new_block (Below.refl _ _)
        have hz7 := hB7.size
        rw [hV7]
        have hr7 := hrw6'.out.trans (hB7.mono (by omega))
        have hown7 : V7.ownsRow V5.heap.size 34 4 (.slice fa k fc) k cs := ownsRow_heap hown.out.1 (fun g hg => hr7.block g (ownBlock_ge hown.out.1 hg).2)
        have hcs7 : FaCells (fun c => (Value.slice fa k fc).ownBlock = some c) V7 cs es := hown.out.2.later (KeepsBut.of_below hr7) (fun _ _ h => h)
        have hu7 : TyX (fun c => (Value.slice fa k fc).ownBlock = some c) V7 (.agg #[.string pp.1.name, .int .i64 pp.1.n, .slice ua pp.1.args.length uc]) pp.1 := TyX.below hu'.out hB7
        obtain ⟨V8, hV8⟩ : ∃ W, V7.alloc (.cells #[.int .i64 n, .string pp.1.name, .int .i64 pp.1.n, .slice ua pp.1.args.length uc] 34) = W := ⟨_, rfl⟩
        have hB8 : Below V7.heap.size V7 V8 := by rw [← hV8]; exact (Below.refl _ _).alloc (Nat.le_refl _) _
        have hz8 : V8.heap.size = V7.heap.size + 1 := by rw [← hV8]; simp
        have hown8 := Lib.hid (ownsRow_heap hown7 (fun g hg => hB8.block g (ownBlock_ge hown7 hg).2))
        have hcs8 := Lib.hid (hcs7.later (KeepsBut.of_below hB8) (fun _ _ h => h))
        have hu8 := Lib.hid (TyX.below hu7 hB8)
        have hnews := Lib.hid (cell_four_new (w := V7) rfl (.int .i64 n) (.string pp.1.name) (.int .i64 pp.1.n) (.slice ua pp.1.args.length uc) 34)
        rw [hV8] at hnews
        have hBr8 := Lib.hid (hBr.out.trans ((hr7.trans (hB8.mono (by omega))).mono (by omega)))
        have hk63 : k + 1 ≤ maxLen := by unfold maxLen; omega
        have hk56 : (k + 1) * 56 ≤ 140737488355328 := by omega
        have hbs8 : V5.heap.size ≤ V8.heap.size := hBr8.out.size
        have hone1 : ∀ u ∈ ([.int .i64 n, .string pp.1.name, .int .i64 pp.1.n, .slice ua pp.1.args.length uc] : List Value), u.oneCell' = true := by simp [Value.oneCell']
        have hV8' := Lib.hid hV8
        obtain ⟨b0, b1, b2⟩ := hb7.cells
        clear hV7 hB7 hb7 hr7 hown7 hcs7 hu7 hB8 p0 p1 hV8 hy
        go_wp2_with (at_builtin; go_must (rw [hV8'.out]; refine wpList_append_own_at _ rfl _ _ 32 rfl V5.heap.size 34 i0 (.agg #[.int .i64 0, .string ⟨#[]⟩, .int .i64 0, .slice none 0 0]) 4 56 Tryd.underlying32 hi hz0 hz1' hz2' rfl (by decide) _ _ _ rfl hown8.out ⟨V7.heap.size, 0, none⟩ 1 1 [.int .i64 n, .string pp.1.name, .int .i64 pp.1.n, .slice ua pp.1.args.length uc] rfl rfl hnews.out hone1 hk63 hk56 hbs8 ?_); intro v2 w3 hown2 hg2 _ hat; have hat' := Lib.hid hat; have hg2' := Lib.hid hg2; have hown2' := Lib.hid hown2; clear hat hg2 hown2)
        obtain ⟨fa2, fc2, he2, _⟩ := ownsRow_form hown2'.out
        subst he2
        go_roundw
        case rel =>
          refine ⟨k + 1, _, es ++ [⟨n, pp.1⟩], fa2, fc2, by omega, by go_num, rfl, Lib.hid (hpos'.out hy'.out), by unfold Hid; rw [List.length_append, hel.out]; rfl, ⟨hown2'.out, ?_⟩, (hBr8.out.grown hg2'.out hbs8 (fun q e => (ownBlock_ge hown8.out e).1))⟩
          have hs := FaCells.snoc (u0 := .int .i64 n) (e := ⟨n, pp.1⟩) hcs8.out (by rw [hel.out]; exact hown8.out.1) ⟨_, _, _, rfl, hin'.out, hu8.out⟩
          refine hs.later ⟨hg2'.out.size, fun a v hx hv => ?_⟩ fun b hb hy => ?_
          · rw [World.cell?_of_block (hg2'.out.block a.block (cell_block hv) (fun e => hx e.symm))]; exact hv
          · rcases hat'.out with h | h
            · rw [h] at hy; exact hy
            · rw [h] at hy; simp at hy; omega
        case measure => simp [intOf]; omega
    · have e : k = ss.length := by omega
      have hrs : r = some es := by
        have h := hoA.out
        rw [e, List.drop_length] at h
        exact (Option.some.inj h).symm
      have hrow := hown.out.2
      have hown1 := hown.out.1
      have hel' := hel.out
      obtain ⟨fa2, fc2, he2, hfc, hrow2⟩ := hrow.row (X := fun _ => False) (es := es) (by rw [hel']; exact hown1) (fun _ h => h.elim) (fun _ h => h.elim)
      have hfin : Hid (FaSl wr (.slice fa k fc) es) := by rw [he2]; exact ⟨fa2, fc2, rfl, hfc, hrow2⟩
      subst hrs
      clear e hrow hrow2 hown1 hel' he2
      go_wp2_with fail
      go_ret2
      exact ⟨⟨_, ret_two rfl rfl, hfin.out⟩, hwr.out⟩
end Go.Proofs.YticjpeefhppjoaaDoor
