/- A type with facts in its places, by the program. -/
import Derived.Test.YticjpeefhppjoaaDoorTyD
import Derived.Test.YticjpeefhppjoaaDoorTyJ
import Derived.Stop.RegionWithIn
namespace Go.Proofs.YticjpeefhppjoaaDoor
open Go.RowKit Go.Shelf
attribute [local go_sem] Oper.semAt_some

theorem with_id : ∀ e : Ty, withT (fun _ => none) e = e := by
  refine Ty.ind fun s n l ih => ?_
  rw [withT, withL_map, if_neg (by simp), List.map_congr_left (g := id) (fun x hx => ih x hx), List.map_id]

theorem callsIn_round {l n : Nat} {P : Program} {f : FuncId} {args : Array Value} {w : World} {R : Ending → World → Prop} (h : Calls P f args w R) : CallsIn (Fence.wide.inRound l) n P f args w R :=
  show CallsIn Fence.wide n P f args w R from callsIn_wide.2 h

/-- A fact's value in a row. -/
def rowV (w : World) (a : Option Addr) (i : Nat) : Value := match a with
  | some ad => .agg #[(w.cell? ⟨ad.block, ad.off + i * 4, none⟩).getD undef, (w.cell? ⟨ad.block, ad.off + i * 4 + 1, none⟩).getD undef, (w.cell? ⟨ad.block, ad.off + i * 4 + 2, none⟩).getD undef, (w.cell? ⟨ad.block, ad.off + i * 4 + 3, none⟩).getD undef]
  | none => undef
theorem FaRow.vals {w : World} {a : Option Addr} {L : List Fa} (h : FaRow (fun _ => False) w a L) : ∀ i (hi : i < L.length), ∃ b off a1 c1, a = some ⟨b, off, none⟩ ∧ rowV w a i = .agg #[.int .i64 L[i].n, .string L[i].ty.name, .int .i64 L[i].ty.n, .slice a1 L[i].ty.args.length c1] ∧
    w.cell? ⟨b, off + i * 4, none⟩ = some (.int .i64 L[i].n) ∧ w.cell? ⟨b, off + i * 4 + 1, none⟩ = some (.string L[i].ty.name) ∧ w.cell? ⟨b, off + i * 4 + 2, none⟩ = some (.int .i64 L[i].ty.n) ∧ w.cell? ⟨b, off + i * 4 + 3, none⟩ = some (.slice a1 L[i].ty.args.length c1) ∧
    IsTy w (.agg #[.string L[i].ty.name, .int .i64 L[i].ty.n, .slice a1 L[i].ty.args.length c1]) L[i].ty ∧ In64 L[i].n := by
  intro i hi
  obtain ⟨b, off, rfl, hat⟩ := h.at (by rintro rfl; simp at hi)
  obtain ⟨a1, c1, g0, g1, g2, g3, ge, gn⟩ := hat i hi
  exact ⟨b, off, a1, c1, rfl, by simp [rowV, g0, g1, g2, g3], g0, g1, g2, g3, ge, gn⟩

/-- Facts by their places, the last one first. -/
def pick (L : List Fa) (pre : List (Ix L)) : List Fa := (pre.map fun j => L[j.1]'j.2).reverse
theorem pick_snoc (L : List Fa) (pre : List (Ix L)) (x : Ix L) : pick L (pre ++ [x]) = L[x.1]'x.2 :: pick L pre := by simp [pick]
theorem pick_all (L : List Fa) (ys : List (Ix L)) (h : ys.map (·.1) = revIx L.length) : pick L ys = L := by
  have h1 : ys.reverse.map (·.1) = List.range L.length := by rw [List.map_reverse, h, revIx, List.reverse_reverse]
  rw [pick, ← List.map_reverse]
  refine List.ext_getElem ?_ ?_
  · have := congrArg List.length h1
    simpa using this
  · intro i hi hj
    have h2 : (ys.reverse.map (·.1))[i]? = (List.range L.length)[i]? := by rw [h1]
    have hi' : i < ys.reverse.length := by simpa using hi
    rw [List.getElem?_map, List.getElem?_eq_getElem hi', List.getElem?_eq_getElem (by simpa using hj)] at h2
    simp only [Option.map_some, Option.some.injEq, List.getElem_range] at h2
    rw [List.getElem_map]
    simp only [h2]

/-- What Apply has at the round's start: the map of what was seen. -/
def ApI (X : Nat → Prop) (mb mc : Nat) (L : List Fa) (pre : List (Ix L)) (W : World) : Prop :=
  ∃ f : Lit → Option Value, W.heap[mc]? = some (.cells #[.map (some mb)] 57 (0, 0)) ∧ MapOf Tryd.prog W 3 mb pre.length f ∧ ∀ n, In64 n → (fa? (pick L pre) n = none ∧ f (keyN n) = none) ∨ ∃ e v, fa? (pick L pre) n = some e ∧ f (keyN n) = some v ∧ TyX X W v e
theorem ApI.own {X : Nat → Prop} {mb mc S0 : Nat} {L : List Fa} (h2 : mb < S0) (h3 : mc < S0) : OwnFrom S0 (ApI X mb mc L) := by
  rintro pre A B row ⟨f, c3, c4, c5⟩ hg hr
  have hk : ∀ i o, A.heap[i]? = some o → i < S0 → B.heap[i]? = some o := by
    intro i o hi ho
    refine (hg.block i (Array.getElem?_eq_some_iff.1 hi).1 ?_).trans hi
    intro e
    have := (hr i e.symm).1
    omega
  have hK : Keeps A B := fun a v hv => cell_kept hv hg (fun r e => (hr r e).2)
  refine ⟨f, hk _ _ c3 h3, ?_, fun n hn => ?_⟩
  · obtain ⟨D, ⟨es, clock, b1, b2, b3, b4⟩, b5⟩ := c4
    exact ⟨D, ⟨es, clock, hk _ _ b1 h2, b2, b3, b4⟩, b5⟩
  · rcases c5 n hn with h | ⟨e, v, q1, q2, q3⟩
    · exact .inl h
    · exact .inr ⟨e, v, q1, q2, TyX.keeps hK _ _ q3⟩

theorem keeps_put {V W5 : World} {mb : Nat} (hg : V.grownBy W5 (some mb)) (hm : ∃ o : Obj, V.heap[mb]? = some o ∧ o.isCells = false) : Keeps V W5 :=
  fun a v hv => cell_kept hv hg (fun r e => by cases e; exact hm)
theorem MapOf.obj {P : Program} {w : World} {k : TypeId} {b n : Nat} {f : Lit → Option Value} (h : MapOf P w k b n f) : ∃ o : Obj, w.heap[b]? = some o ∧ o.isCells = false := by
  obtain ⟨_, ⟨es, clock, b1, _⟩, _⟩ := h
  exact ⟨_, b1, rfl⟩

set_option maxHeartbeats 1000000 in
set_option maxRecDepth 100000 in
theorem ty_Apply_not (aL : Option Addr) (cL : Nat) (L : List Fa) (e : Ty) (v : Value) (w : World) (hLl : L.length ≤ lenMax) (hL : FaRow (fun _ => False) w aL L) (hv : IsTy w v e) (hbad : (chkT e && L.all goodF) = false) : Calls Tryd.prog 22 #[.slice aL L.length cL, v] w fun r w' => ∃ u, r = .returned u ∧ IsTy w' u (applyT L e) ∧ Below w.heap.size w w' := by
  obtain ⟨s, n, l⟩ := e
  obtain ⟨a1, c1, rfl, _, hn, hs, hl, _⟩ := hv.open
  have hT : Hid (applyT L (.mk s n l) = zeroT) := by unfold Hid applyT; rw [if_neg (by rw [hbad]; simp)]
  obtain ⟨W1, hW1⟩ : ∃ W, ((((w.alloc (.cells #[.string s, .int .i64 n, .slice a1 l.length c1] 24)).alloc (.cells #[.string ⟨#[]⟩, .int .i64 0, .slice none 0 0] 24)).alloc (.map #[] 0)).alloc (.cells #[.map (some (w.heap.size + 1 + 1))] 57)) = W := ⟨_, rfl⟩
  have hz1 : W1.heap.size = w.heap.size + 4 := by rw [← hW1]; simp
  have hb1 : Below w.heap.size w W1 := by rw [← hW1]; exact ((((Below.refl _ w).alloc (Nat.le_refl _) _).alloc (by simp) _).alloc (by simp <;> omega) _).alloc (by simp <;> omega) _
  have hcells' : Hid (∀ V, Below (w.heap.size + 1) W1 V → V.cell? ⟨w.heap.size, 0, none⟩ = some (.string s) ∧ V.cell? ⟨w.heap.size, 1, none⟩ = some (.int .i64 n) ∧ V.cell? ⟨w.heap.size, 2, none⟩ = some (.slice a1 l.length c1)) := by
    intro V hV
    have g1 : Below (w.heap.size + 1) (w.alloc (.cells #[.string s, .int .i64 n, .slice a1 l.length c1] 24)) W1 := by rw [← hW1]; exact (((Below.refl _ _).alloc (by simp) _).alloc (by simp) _).alloc (by simp <;> omega) _
    exact box3 (g1.trans hV)
  have hres' : Hid (∀ U, Below (w.heap.size + 2) W1 U → U.heap[w.heap.size + 1]? = some (.cells #[.string ⟨#[]⟩, .int .i64 0, .slice none 0 0] 24 (0, 0))) := by
    intro U hU
    refine new_block2 (w := w) (o := .cells #[.string s, .int .i64 n, .slice a1 l.length c1] 24) ?_
    refine Below.trans ?_ hU
    rw [← hW1]; exact ((Below.refl _ _).alloc (by simp) _).alloc (by simp) _
  have hW1' := Lib.hid hW1
  have hb1' := Lib.hid hb1
  obtain ⟨k0, k1, k2⟩ := hcells'.out W1 (Below.refl _ _)
  have hc := Lib.hid (ty_Check (.mk s n l) _ W1 (hv.below hb1))
  have hmm := @run_makeMap Tryd.prog
  have hct := Lib.hid (fun V (hV : Below w.heap.size w V) => contains_Fact aL L cL 40 #[] (fun f => !goodF f) V hLl (hL.keeps (Keeps.of_below hV)) (fun e _ v W _ hx => by simpa using ty_bad e v W hx) (enters_of Tryd.func40 (by kernel_rfl) rfl))
  have hLl' : L.length ≤ 140737488355328 := by unfold lenMax at hLl; omega
  cases hq : chkT (.mk s n l)
  · rw [hq] at hc
    clear hq hv hbad hW1 hL hct
    go_enter Tryd.func22, Tryd.ntmps22
    go_wp2_with fail
    rw [hW1'.out]
    refine hc.out.mono ?_
    rintro e V ⟨rfl, hBV⟩
    have hbr : Below (w.heap.size + 2) W1 V := hBV.mono (by omega)
    have hwV := hb1'.out.trans (hBV.mono (by omega))
    have hrr := Lib.hid (hres'.out V hbr)
    obtain ⟨r0, r1, r2⟩ := cells_of hrr.out
    have rf0 := frozen_of hrr.out 0
    have rf1 := frozen_of hrr.out 1
    have rf2 := frozen_of hrr.out 2
    go_wp2_with fail
    have hU := set_box3 hrr.out (.string ⟨#[]⟩) (.int .i64 0) (.slice none 0 0)
    change bodyPost _ _ _ _ _ (World.box3 V (w.heap.size + 1) (.string ⟨#[]⟩) (.int .i64 0) (.slice none 0 0))
    generalize World.box3 V (w.heap.size + 1) (.string ⟨#[]⟩) (.int .i64 0) (.slice none 0 0) = U at hU ⊢
    obtain ⟨⟨u0, u1, u2⟩, hBU, -, hUk⟩ := hU
    clear r0 r1 r2
    refine bodyPost_ret (results_ty rfl _ _ rfl u0 u1 u2) rfl ?_
    exact ⟨_, rfl, by rw [hT.out]; exact zeroT_is _, hwV.trans (hBU.mono (by omega))⟩
  · have hany : L.any (fun f => !goodF f) = true := by
      rw [hq, Bool.true_and] at hbad
      rw [List.any_eq_not_all_not]
      simp only [Bool.not_not]
      rw [show (L.all fun x => goodF x) = L.all goodF from rfl, hbad]; rfl
    rw [hany] at hct
    rw [hq] at hc
    clear hq hv hbad hW1 hL hany
    go_enter Tryd.func22, Tryd.ntmps22
    go_wp2_with fail
    rw [hW1'.out]
    refine hc.out.mono ?_
    rintro e V0 ⟨rfl, hBV0⟩
    have hwV0 := Lib.hid (hb1'.out.trans (hBV0.mono (by omega)))
    go_wp2_with fail
    refine (hct.out _ hwV0.out).mono ?_
    rintro e V ⟨rfl, hBV⟩
    have hz0 := hBV0.size
    have hbr : Below (w.heap.size + 2) W1 V := (hBV0.mono (by omega)).trans (hBV.mono (by omega))
    have hwV := hb1'.out.trans (hbr.mono (by omega))
    have hrr := Lib.hid (hres'.out V hbr)
    obtain ⟨r0, r1, r2⟩ := cells_of hrr.out
    have rf0 := frozen_of hrr.out 0
    have rf1 := frozen_of hrr.out 1
    have rf2 := frozen_of hrr.out 2
    go_wp2_with fail
    have hU := set_box3 hrr.out (.string ⟨#[]⟩) (.int .i64 0) (.slice none 0 0)
    change bodyPost _ _ _ _ _ (World.box3 V (w.heap.size + 1) (.string ⟨#[]⟩) (.int .i64 0) (.slice none 0 0))
    generalize World.box3 V (w.heap.size + 1) (.string ⟨#[]⟩) (.int .i64 0) (.slice none 0 0) = U at hU ⊢
    obtain ⟨⟨u0, u1, u2⟩, hBU, -, hUk⟩ := hU
    clear r0 r1 r2
    refine bodyPost_ret (results_ty rfl _ _ rfl u0 u1 u2) rfl ?_
    exact ⟨_, rfl, by rw [hT.out]; exact zeroT_is _, hwV.trans (hBU.mono (by omega))⟩

set_option maxHeartbeats 4000000 in
set_option maxRecDepth 100000 in
theorem ty_Apply_is (aL : Option Addr) (cL : Nat) (L : List Fa) (e : Ty) (v : Value) (w : World) (hLl : L.length ≤ lenMax) (hL : FaRow (fun _ => False) w aL L) (hv : IsTy w v e) (hgood : (chkT e && L.all goodF) = true) : Calls Tryd.prog 22 #[.slice aL L.length cL, v] w fun r w' => ∃ u, r = .returned u ∧ IsTy w' u (applyT L e) ∧ Below w.heap.size w w' := by
  have hv0 := Lib.hid hv
  have hL0 := Lib.hid hL
  obtain ⟨s, n, l⟩ := e
  obtain ⟨a1, c1, rfl, _, hn, hs, hl, _⟩ := hv.open
  have hq : chkT (.mk s n l) = true := by simp only [Bool.and_eq_true] at hgood; exact hgood.1
  have hgd : ∀ f ∈ L, goodF f = true := by simp only [Bool.and_eq_true, List.all_eq_true] at hgood; exact hgood.2
  have hsnd : sndT (.mk s n l) 60 = true := by simp only [chkT, Bool.and_eq_true] at hq; exact hq.2
  have hcnt := Lib.hid (chk_cnt hq)
  have hT : Hid (applyT L (.mk s n l) = withT (fun n => fa? L n) (.mk s n l)) := by
    unfold Hid applyT
    rw [if_pos hgood]
    exact (with_put (fun _ _ => rfl) _ 60 hv hsnd).symm
  obtain ⟨W1, hW1⟩ : ∃ W, ((((w.alloc (.cells #[.string s, .int .i64 n, .slice a1 l.length c1] 24)).alloc (.cells #[.string ⟨#[]⟩, .int .i64 0, .slice none 0 0] 24)).alloc (.map #[] 0)).alloc (.cells #[.map (some (w.heap.size + 1 + 1))] 57)) = W := ⟨_, rfl⟩
  have hz1 : W1.heap.size = w.heap.size + 4 := by rw [← hW1]; simp
  have hb1 : Below w.heap.size w W1 := by rw [← hW1]; exact ((((Below.refl _ w).alloc (Nat.le_refl _) _).alloc (by simp) _).alloc (by simp <;> omega) _).alloc (by simp <;> omega) _
  have hcells' : Hid (∀ V, Below (w.heap.size + 1) W1 V → V.cell? ⟨w.heap.size, 0, none⟩ = some (.string s) ∧ V.cell? ⟨w.heap.size, 1, none⟩ = some (.int .i64 n) ∧ V.cell? ⟨w.heap.size, 2, none⟩ = some (.slice a1 l.length c1)) := by
    intro V hV
    have g1 : Below (w.heap.size + 1) (w.alloc (.cells #[.string s, .int .i64 n, .slice a1 l.length c1] 24)) W1 := by rw [← hW1]; exact (((Below.refl _ _).alloc (by simp) _).alloc (by simp) _).alloc (by simp <;> omega) _
    exact box3 (g1.trans hV)
  have hres' : Hid (∀ U, Below (w.heap.size + 2) W1 U → U.heap[w.heap.size + 1]? = some (.cells #[.string ⟨#[]⟩, .int .i64 0, .slice none 0 0] 24 (0, 0))) := by
    intro U hU
    refine new_block2 (w := w) (o := .cells #[.string s, .int .i64 n, .slice a1 l.length c1] 24) ?_
    refine Below.trans ?_ hU
    rw [← hW1]; exact ((Below.refl _ _).alloc (by simp) _).alloc (by simp) _
  have hmap1 : Hid (MapOf Tryd.prog W1 3 (w.heap.size + 2) 0 (fun _ => none)) := by
    unfold Hid
    rw [← hW1]
    have h := MapOf.made Tryd.prog ((w.alloc (.cells #[.string s, .int .i64 n, .slice a1 l.length c1] 24)).alloc (.cells #[.string ⟨#[]⟩, .int .i64 0, .slice none 0 0] 24)) 3
    simp only [World.size_alloc] at h
    refine h.below (B := w.heap.size + 3) ?_ (by omega)
    exact (Below.refl _ _).alloc (by simp) _
  have hmc1 : Hid (∀ U, Below (w.heap.size + 4) W1 U → U.heap[w.heap.size + 3]? = some (.cells #[.map (some (w.heap.size + 2))] 57 (0, 0))) := by
    intro U hU
    rw [← hW1] at hU
    have h := new_block2 (w := (w.alloc (.cells #[.string s, .int .i64 n, .slice a1 l.length c1] 24)).alloc (.cells #[.string ⟨#[]⟩, .int .i64 0, .slice none 0 0] 24)) (o := .map #[] 0) (t := 57) (vs := #[.map (some (w.heap.size + 1 + 1))]) (U := U) (by simpa using hU)
    simpa using h
  have hW1' := Lib.hid hW1
  have hb1' := Lib.hid hb1
  obtain ⟨k0, k1, k2⟩ := hcells'.out W1 (Below.refl _ _)
  have hc := Lib.hid (ty_Check (.mk s n l) _ W1 (hv.below hb1))
  rw [hq] at hc
  have hmm := @run_makeMap Tryd.prog
  have hct := Lib.hid (fun V (hV : Below w.heap.size w V) => contains_Fact aL L cL 40 #[] (fun f => !goodF f) V hLl (hL.keeps (Keeps.of_below hV)) (fun e _ v W _ hx => by simpa using ty_bad e v W hx) (enters_of Tryd.func40 (by kernel_rfl) rfl))
  have hany : L.any (fun f => !goodF f) = false := by
    rw [List.any_eq_not_all_not]
    simp only [Bool.not_not]
    rw [List.all_eq_true.2 hgd]; rfl
  rw [hany] at hct
  have hLl' : L.length ≤ 140737488355328 := by unfold lenMax at hLl; omega
  have hgd' := Lib.hid hgd
  have hvals := Lib.hid hL.vals
  have hdd : ∀ k : Nat, (Fence.wide.depth.isSome = true → 1 ≤ k) := fun k h => by cases h
  clear hq hv hgood hW1 hL hany hgd hsnd
  refine (callsIn_wide (n := 6)).1 ?_
  refine callsIn_of_wp_marks Tryd.func22 rfl trivial ?_
  simp only [Tryd.ntmps22, List.size_toArray, List.length_cons, List.length_nil, Nat.reduceAdd, Nat.reduceSub, Array.replicate_succ, Array.replicate_zero, List.push_toArray, List.append_toArray, List.nil_append, List.cons_append]
  gi_wp2_with fail
  rw [hW1'.out]
  refine ⟨trivial, callsIn_wide.2 (hc.out.mono ?_)⟩
  rintro e V0 ⟨rfl, hBV0⟩
  have hwV0 := Lib.hid (hb1'.out.trans (hBV0.mono (by omega)))
  gi_wp2_with fail
  refine ⟨trivial, callsIn_wide.2 ((hct.out _ hwV0.out).mono ?_)⟩
  rintro e V ⟨rfl, hBV⟩
  have hz0 := hBV0.size
  have hbr : Below (w.heap.size + 4) W1 V := (hBV0.mono (by omega)).trans (hBV.mono (by omega))
  have hwV := hb1'.out.trans (hbr.mono (by omega))
  have hvz := hbr.size
  gi_wp2_with fail
  refine ⟨trivial, callsIn_wide.2 ((backward_Fact _ _ ⟨_, _, _, rfl⟩).mono ?_)⟩
  rintro r V2 ⟨rfl, hV2⟩
  have hb2 : Below V.heap.size V V2 := by rw [hV2]; exact (Below.refl _ V).alloc (Nat.le_refl _) _
  have hz2 : V2.heap.size = V.heap.size + 1 := by rw [hV2]; simp
  have hwV2 : Below w.heap.size w V2 := hwV.trans (hb2.mono (by omega))
  have hbr2 : Below (w.heap.size + 4) W1 V2 := hbr.trans (hb2.mono (by omega))
  have hbx : V2.cell? ⟨V.heap.size, 0, none⟩ = some (.slice aL L.length cL) := by rw [hV2, World.cell?_alloc_at _ _ _ _ rfl]; rfl
  clear hV2 k0 k1 k2
  have h0 : ApI (fun c => c = w.heap.size + 1) (w.heap.size + 2) (w.heap.size + 3) L [] V2 ∧ Below (w.heap.size + 2) W1 V2 := ⟨⟨fun _ => none, hmc1.out _ hbr2, hmap1.out.below hbr2 (by omega), fun n _ => .inl ⟨rfl, rfl⟩⟩, hbr2.mono (by omega)⟩
  gi_wp2_with fail
  refine wpIn_rangeFunc_ownH (F := Fence.wide) rfl (by omega) (gf := 61) (lb := #[.pointer (some ⟨V.heap.size, 0, none⟩)]) rfl trivial (enters_of Tryd.func61 (by kernel_rfl) rfl)
    (back_stops _ L hLl (rowV w aL) aL cL V2 V.heap.size (KeepsBut (fun _ => False)) (fun A => KeepsBut.refl _ _) (fun h k => h.trans k) (fun W U hW hU => ⟨hU.2 _ _ (fun h => h) (Keeps.of_below hW _ _ hbx), fun hne => by
      have hKK : ∀ a v, w.cell? a = some v → U.cell? a = some v := fun a v h => hU.2 _ _ (fun h => h) (Keeps.of_below hW _ _ (Keeps.of_below hwV2 _ _ h))
      obtain ⟨b, off, _, _, ha, _⟩ := hvals.out 0 (List.length_pos_iff.2 hne)
      refine ⟨b, off, ha, fun i hi => ?_⟩
      obtain ⟨b', off', a1, c1, ha', hr, g0, g1, g2, g3, _⟩ := hvals.out i hi
      rw [ha] at ha'
      simp only [Option.some.injEq, Addr.mk.injEq, and_true] at ha'
      obtain ⟨rfl, rfl⟩ := ha'
      exact ⟨_, _, _, _, hr, hKK _ _ g0, hKK _ _ g1, hKK _ _ g2, hKK _ _ g3⟩⟩))
    (fun h k => h.trans k) (fun W l o o' hl h ho _ => ⟨by simp [World.putObj], fun a v _ hv => cell_kept hv (grownBy_putObj' W l o') (fun r e => by cases e; exact ⟨o, h, ho⟩)⟩) (Below.refl _ _) (fun _ => rfl)
    (fun pre W => ApI (fun c => c = w.heap.size + 1) (w.heap.size + 2) (w.heap.size + 3) L pre W ∧ Below (w.heap.size + 2) W1 W)
    (fun _ _ _ => False)
    (OwnFrom.and (ApI.own (by omega) (by omega)) (ownFrom_below (by omega) (by omega)))
    (fun c => fun _ _ _ _ h _ _ => h)
    h0
    (fun x a' W => ∃ (B : Nat) (u1 u2 u6 u7 u9 u10 u11 u12 u13 u14 u15 u16 u17 u18 u19 u20 u21 u22 u23 u24 u25 u26 u27 u28 u29 u30 u31 : Value) (a2 : Option Addr) (c2 : Nat), a' = { tmps := #[.slice aL L.length cL, u1, u2, .pointer (some ⟨w.heap.size, 0, none⟩), .pointer (some ⟨w.heap.size + 1, 0, none⟩), .pointer (some ⟨w.heap.size + 3, 0, none⟩), u6, u7, .pointer (some ⟨B, 0, none⟩), u9, u10, u11, u12, u13, u14, u15, u16, u17, u18, u19, u20, u21, u22, u23, u24, u25, u26, u27, u28, u29, u30, u31], defers := [] } ∧
      W.cell? ⟨B, 0, none⟩ = some (.int .i64 (L[x.1]'x.2).n) ∧ W.cell? ⟨B, 1, none⟩ = some (.string (L[x.1]'x.2).ty.name) ∧ W.cell? ⟨B, 2, none⟩ = some (.int .i64 (L[x.1]'x.2).ty.n) ∧ W.cell? ⟨B, 3, none⟩ = some (.slice a2 (L[x.1]'x.2).ty.args.length c2) ∧
      IsTy w (.agg #[.string (L[x.1]'x.2).ty.name, .int .i64 (L[x.1]'x.2).ty.n, .slice a2 (L[x.1]'x.2).ty.args.length c2]) (L[x.1]'x.2).ty ∧ In64 (L[x.1]'x.2).n)
    (fun x a' _ A B row hs hg hr => by
      obtain ⟨Bf, u1, u2, u6, u7, u9, u10, u11, u12, u13, u14, u15, u16, u17, u18, u19, u20, u21, u22, u23, u24, u25, u26, u27, u28, u29, u30, u31, a2, c2, e0, g0, g1, g2, g3, h4⟩ := hs
      have hK : Keeps A B := fun a v hv => cell_kept hv hg (fun r e => (hr r e).2)
      exact ⟨Bf, u1, u2, u6, u7, u9, u10, u11, u12, u13, u14, u15, u16, u17, u18, u19, u20, u21, u22, u23, u24, u25, u26, u27, u28, u29, u30, u31, a2, c2, e0, hK _ _ g0, hK _ _ g1, hK _ _ g2, hK _ _ g3, h4⟩)
    ?assign ?body ?done ?stop
  case assign =>
    rintro l' pre x W K hI hK
    obtain ⟨b', off', a2, c2, ha', hr, g0, g1, g2, g3, ge, gn⟩ := hvals.out x.1 x.2
    simp only [hr]
    have hfin := Lib.hid (fun a' (ha : ∃ (u1 u2 u6 u7 u9 u10 u11 u12 u13 u14 u15 u16 u17 u18 u19 u20 u21 u22 u23 u24 u25 u26 u27 u28 u29 u30 u31 : Value), a' = ({ tmps := #[.slice aL L.length cL, u1, u2, .pointer (some ⟨w.heap.size, 0, none⟩), .pointer (some ⟨w.heap.size + 1, 0, none⟩), .pointer (some ⟨w.heap.size + 3, 0, none⟩), u6, u7, .pointer (some ⟨W.heap.size, 0, none⟩), u9, u10, u11, u12, u13, u14, u15, u16, u17, u18, u19, u20, u21, u22, u23, u24, u25, u26, u27, u28, u29, u30, u31], defers := [] } : Act)) => by
      obtain ⟨u1, u2, u6, u7, u9, u10, u11, u12, u13, u14, u15, u16, u17, u18, u19, u20, u21, u22, u23, u24, u25, u26, u27, u28, u29, u30, u31, ha⟩ := ha
      have hb4 := box4 (w := W) (v0 := .int .i64 (L[x.1]'x.2).n) (v1 := .string (L[x.1]'x.2).ty.name) (v2 := .int .i64 (L[x.1]'x.2).ty.n) (v3 := .slice a2 (L[x.1]'x.2).ty.args.length c2) (t := 34) (Below.refl _ _)
      have hbl : Below W.heap.size W (W.alloc (.cells #[.int .i64 (L[x.1]'x.2).n, .string (L[x.1]'x.2).ty.name, .int .i64 (L[x.1]'x.2).ty.n, .slice a2 (L[x.1]'x.2).ty.args.length c2] 34)) := (Below.refl _ _).alloc (Nat.le_refl _) _
      exact hK a' _ ((KeepsOthers.alloc W _).from _) (KeepsBut.of_below hbl) ((OwnFrom.and (ApI.own (S0 := V2.heap.size) (by omega) (by omega)) (ownFrom_below (by omega) (by omega))).alloc _ hI) ⟨W.heap.size, u1, u2, u6, u7, u9, u10, u11, u12, u13, u14, u15, u16, u17, u18, u19, u20, u21, u22, u23, u24, u25, u26, u27, u28, u29, u30, u31, a2, c2, ha, hb4.1, hb4.2.1, hb4.2.2.1, hb4.2.2.2, ge, gn⟩)
    clear hK ge gn g0 g1 g2 g3 ha' hr
    gi_wp2
    exact hfin.out _ ⟨_, _, _, _, _, _, _, _, _, _, _, _, _, _, _, _, _, _, _, _, _, _, _, _, _, _, _, rfl⟩
  case body =>
    rintro l' pre x a' W hl' hr' ⟨⟨f, c3, c4, c5⟩, hBR⟩ ⟨B, u1, u2, u6, u7, u9, u10, u11, u12, u13, u14, u15, u16, u17, u18, u19, u20, u21, u22, u23, u24, u25, u26, u27, u28, u29, u30, u31, a2, c2, rfl, g0, g1, g2, g3, ge, gn⟩ hpl
    have hBW := hb1'.out.trans (hBR.mono (by omega))
    have K : Maps.Keyed Tryd.prog 3 := Maps.int_keyed Tryd.underlying3
    have hxg := hgd'.out _ (List.getElem_mem x.2)
    have hck : chkT (L[x.1]'x.2).ty = true := by simp only [goodF, Bool.and_eq_true] at hxg; exact hxg.1
    have hpk := Lib.hid (pick_snoc L pre x)
    obtain ⟨fx, hfx⟩ : ∃ fx, L[x.1]'x.2 = fx := ⟨_, rfl⟩
    rw [hfx] at g0 g1 g2 g3 ge gn hck hpk
    have hkey := Lib.hid (keyN_of gn)
    have hmcc : W.cell? ⟨w.heap.size + 3, 0, none⟩ = some (.map (some (w.heap.size + 2))) := by simp [World.cell?, c3]
    have hSW : V2.heap.size ≤ W.heap.size := by
      obtain ⟨r, hr⟩ := hr'
      have := (Array.getElem?_eq_some_iff.1 hr).1
      omega
    have hW' : Below W.heap.size W W.drew := (Below.refl _ _).drew
    have hput := Lib.hid (ty_with fx.ty _ (fun c => c = w.heap.size + 1) (.map none) (fun _ => none) W.drew (TyX.later (KeepsBut.of_below (hBW.trans (hW'.mono (by omega)))) (fun b hb h => by omega) ge) (.inl ⟨rfl, fun _ => rfl⟩) (fun b h => by show b < W.heap.size; omega) (by have := chk_cnt hck; omega))
    rw [with_id] at hput
    have hpn : pre.length < 140737488355328 := by omega
    have hM := Lib.hid c4
    have hc3 := Lib.hid c3
    have hc5 := Lib.hid c5
    have hfn := Lib.hid (show In64 fx.n from gn)
    have hg0 := Lib.hid g0
    have hkk : Hid (∀ V3, Below W.heap.size W.drew V3 → V3.cell? ⟨w.heap.size + 3, 0, none⟩ = some (.map (some (w.heap.size + 2))) ∧ V3.cell? ⟨B, 0, none⟩ = some (.int .i64 fx.n) ∧ V3.cell? ⟨B, 1, none⟩ = some (.string fx.ty.name) ∧ V3.cell? ⟨B, 2, none⟩ = some (.int .i64 fx.ty.n) ∧ V3.cell? ⟨B, 3, none⟩ = some (.slice a2 fx.ty.args.length c2)) := by
      intro V3 hb
      have hb' : Below W.heap.size W V3 := hW'.trans hb
      have hK : Keeps W V3 := Keeps.of_below hb'
      exact ⟨hK _ _ hmcc, hK _ _ g0, hK _ _ g1, hK _ _ g2, hK _ _ g3⟩
    have hend : Hid (∀ V3 W5 u, TyX (fun c => c = w.heap.size + 1) V3 u fx.ty → Below W.drew.heap.size W.drew V3 → MapOf Tryd.prog W5 3 (w.heap.size + 2) (pre.length + 1) (updF f (keyN fx.n) u) → V3.grownBy W5 (some (w.heap.size + 2)) →
        KeepsFrom V2.heap.size W W5 ∧ KeepsBut (fun _ => False) W W5 ∧ ApI (fun c => c = w.heap.size + 1) (w.heap.size + 2) (w.heap.size + 3) L (pre ++ [x]) W5 ∧ Below (w.heap.size + 2) W1 W5) := by
      intro V3 W5 u hu hB3 hM5 hg5
      have hb3 : Below W.heap.size W V3 := hW'.trans hB3
      have hk3 := keeps_put hg5 (hM.out.below hb3 hM.out.lt).obj
      have hk : Keeps W W5 := fun a v h => hk3 _ _ (Keeps.of_below hb3 _ _ h)
      refine ⟨KeepsFrom.trans ⟨hb3.size, fun k o _ h _ => (hb3.block k (Array.getElem?_eq_some_iff.1 h).1).trans h⟩ (KeepsFrom.of_grownBy hg5 (fun j e => by cases e; omega)), ⟨Nat.le_trans hb3.size hg5.size, fun a v _ h => hk a v h⟩, ⟨_, ?_, by rw [List.length_append]; exact hM5, ?_⟩, (hBR.trans (hb3.mono (by omega))).grown hg5 (by have := hb3.size; omega) (fun k e => by cases e; omega)⟩
      · have h1 := (hb3.block _ (Array.getElem?_eq_some_iff.1 hc3.out).1).trans hc3.out
        exact (hg5.block _ (Array.getElem?_eq_some_iff.1 h1).1 (fun e => by simp only [Option.some.injEq] at e; omega)).trans h1
      · intro n hn
        rw [hpk.out]
        by_cases e : fx.n = n
        · refine .inr ⟨fx.ty, u, by simp [fa?, e], by rw [e, updF_same], TyX.keeps hk3 _ _ hu⟩
        · have h1 : fa? (fx :: pick L pre) n = fa? (pick L pre) n := by simp [fa?, e]
          rw [h1, updF_other (fun h => e (keyN_inj h).symm)]
          rcases hc5.out n hn with h | ⟨e1, v1, q1, q2, q3⟩
          · exact .inl h
          · exact .inr ⟨e1, v1, q1, q2, TyX.keeps hk _ _ q3⟩
    clear c3 c4 c5 hck hxg ge gn hfx
    gi_wp2_with fail
    gi_region_with (refine ⟨trivial, callsIn_round (hput.out.mono ?_)⟩; rintro e V3 ⟨u, rfl, hu, hB3⟩; obtain ⟨ua, uc, rfl⟩ := hu.form; obtain ⟨q0, q1, q2, q3, q4⟩ := hkk.out V3 hB3; obtain ⟨W5, hrun, hM5, hg5⟩ := (hM.out.below (hW'.trans hB3) hM.out.lt).update K Tryd.underlying57 (by unfold maxLen; omega) hkey.out (val := .agg #[.string fx.ty.name, .int .i64 fx.ty.n, .slice ua fx.ty.args.length uc]))
    all_goals
      gi_wp2_with fail
      exact hend.out V3 W5 _ hu hB3 hM5 hg5
  case done =>
    rintro D xs W hD hys ⟨⟨f, c3, c4, c5⟩, hBR⟩ hKD
    rw [pick_all L xs hys] at c5
    have hBW := hb1'.out.trans (hBR.mono (by omega))
    have hzr := hBR.size
    have hmcc : W.cell? ⟨w.heap.size + 3, 0, none⟩ = some (.map (some (w.heap.size + 2))) := by simp [World.cell?, c3]
    have hput := Lib.hid (ty_with (.mk s n l) _ (fun c => c = w.heap.size + 1) (.map (some (w.heap.size + 2))) (fun n => fa? L n) W (TyX.later (KeepsBut.of_below hBW) (fun b hb h => by omega) hv0.out)
      (.inr ⟨_, _, f, rfl, c4, fun n hn => c5 n hn⟩) (fun b h => by omega) (by have := hcnt.out; omega))
    obtain ⟨k0, k1, k2⟩ := hcells'.out _ (hBR.mono (by omega))
    have hDW : D < W.heap.size := (Array.getElem?_eq_some_iff.1 hKD).1
    clear c3 c4 c5
    gi_wp2_with fail
    refine ⟨trivial, callsIn_wide.2 (hput.out.mono ?_)⟩
    rintro e V3 ⟨u, rfl, hu, hB3⟩
    obtain ⟨ua, uc, rfl⟩ := hu.form
    have hu' := Lib.hid hu
    have hbr3 : Below (w.heap.size + 2) W1 V3 := hBR.trans (hB3.mono (by omega))
    have hwV3 := Lib.hid (hb1'.out.trans (hbr3.mono (by omega)))
    have hrr := Lib.hid (hres'.out V3 hbr3)
    obtain ⟨r0, r1, r2⟩ := cells_of hrr.out
    have rf0 := frozen_of hrr.out 0
    have rf1 := frozen_of hrr.out 1
    have rf2 := frozen_of hrr.out 2
    have hD3 := Lib.hid ((hB3.block _ hDW).trans hKD)
    clear hu
    generalize (withT (fun n => fa? L n) (.mk s n l)).name = us at hu' ⊢
    generalize (withT (fun n => fa? L n) (.mk s n l)).n = un at hu' ⊢
    generalize (withT (fun n => fa? L n) (.mk s n l)).args.length = um at hu' ⊢
    gi_wp2_with fail
    have hU := set_box3 hrr.out (.string us) (.int .i64 un) (.slice ua um uc)
    change bodyPostM _ _ _ _ _ _ _ (World.box3 V3 (w.heap.size + 1) (.string us) (.int .i64 un) (.slice ua um uc))
    have hDU : (World.box3 V3 (w.heap.size + 1) (.string us) (.int .i64 un) (.slice ua um uc)).heap[D]? = some (.deferred (some [])) := by
      unfold World.box3
      rw [Below.heap_setCell _ _ _ _ (by simp; omega), Below.heap_setCell _ _ _ _ (by simp; omega), Below.heap_setCell _ _ _ _ (by simp; omega)]
      exact hD3.out
    generalize World.box3 V3 (w.heap.size + 1) (.string us) (.int .i64 un) (.slice ua um uc) = U at hU hDU ⊢
    obtain ⟨⟨u0, u1, u2⟩, hBU, -, hUk⟩ := hU
    have hg := grownBy_putObj' U D (.deferred none)
    have hkp : Keeps U (U.putObj D (.deferred none)) := fun a v hv => cell_kept hv hg (fun r e => by cases e; exact ⟨_, hDU, rfl⟩)
    refine ⟨by simp, .inl ⟨_, _, rfl, run_takeDeferred hDU, ?_⟩⟩
    refine ⟨.agg #[.string us, .int .i64 un, .slice ua um uc], results_ty rfl _ _ rfl (hkp _ _ u0) (hkp _ _ u1) (hkp _ _ u2), _, rfl, ?_, ?_⟩
    · rw [hT.out]
      exact TyX.keeps hkp _ _ (ty_kept (X := fun _ => False) (hu'.out.less fun b hb => hb.elim (fun h => h.elim) id) hUk)
    · exact (hwV3.out.trans (hBU.mono (by omega))).grown hg (by have := hwV3.out.size; have := hBU.size; omega) (fun k e => by cases e; omega)
  case stop =>
    rintro D c pre W hD hpre hF hKD
    exact hF.elim
theorem ty_Apply (aL : Option Addr) (cL : Nat) (L : List Fa) (e : Ty) (v : Value) (w : World) (hLl : L.length ≤ lenMax) (hL : FaRow (fun _ => False) w aL L) (hv : IsTy w v e) : Calls Tryd.prog 22 #[.slice aL L.length cL, v] w fun r w' => ∃ u, r = .returned u ∧ IsTy w' u (applyT L e) ∧ Below w.heap.size w w' := by
  cases h : (chkT e && L.all goodF)
  · exact ty_Apply_not aL cL L e v w hLl hL hv h
  · exact ty_Apply_is aL cL L e v w hLl hL hv h
end Go.Proofs.YticjpeefhppjoaaDoor
