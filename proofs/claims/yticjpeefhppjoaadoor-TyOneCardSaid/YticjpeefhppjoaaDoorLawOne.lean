/- dawdlerlaw08.TyOne answers true. -/
import Derived.Test.YticjpeefhppjoaaDoorTyAw
import Derived.Test.YticjpeefhppjoaaDoorTyTn
import Derived.Test.YticjpeefhppjoaaDoorLawApplies
import Derived.Test.YticjpeefhppjoaaDoorInw
import Derived.Deep.CutRange
import Derived.Deep.RegionHeld3
import Derived.Deep.QuietTactic
import Derived.BigQuiet
namespace Go.Proofs.YticjpeefhppjoaaDoor
open Go.RowKit

theorem mem_holesC {e : Ty} (h : chkT e = true) (m : Int) : m ∈ holesC e ↔ m ∈ allT e := by rw [holesC_once h, onceL_mem]
theorem holesC_sub {e : Ty} {m : Int} (h : m ∈ holesC e) : m ∈ allT e := by
  cases hc : chkT e with
  | true => exact (mem_holesC hc m).1 h
  | false => rw [holesC, hc] at h; simp at h
theorem holesC_len (e : Ty) : (holesC e).length ≤ 2000 := by
  cases hc : chkT e with
  | true =>
    rw [holesC_once hc]
    have := onceL_len (allT e)
    have := allT_len e
    have := chk_cnt hc
    omega
  | false => rw [holesC, hc]; simp
theorem uni_facts {a b : Ty} (h64 : ∀ m ∈ allT a ++ allT b, In64 m) : ∃ fuel r, UniP fuel a b r ∧ (r.getD []).length ≤ 4000 ∧ ∀ F, r = some F → applyT F b = applyT F a ∧ (∀ f ∈ F, chkT f.ty = true ∧ (∀ m ∈ holesC (applyT F a), ¬ m = f.n) ∧ (f.n ∈ holesC a ∨ f.n ∈ holesC b)) ∧ F.Pairwise (fun f g => f.n < g.n) := by
  cases hc : (chkT a && chkT b)
  · exact ⟨0, none, .inl ⟨hc, rfl⟩, by simp, fun F h => by cases h⟩
  · rw [Bool.and_eq_true] at hc
    obtain ⟨r, hr⟩ := ans_exists hc.1 hc.2 h64
    obtain ⟨fuel, hu⟩ := hr.uni
    refine ⟨fuel, r, hu, hr.len hc.1 hc.2, fun F hF => ?_⟩
    subst hF
    obtain ⟨h1, h2, h3⟩ := hr.one hc.1 hc.2
    refine ⟨h1.symm, fun f hf => ⟨(h2 f hf).1, fun m hm => ?_, ?_⟩, h3⟩
    · rintro rfl
      exact (h2 f hf).2.1 (holesC_sub hm)
    · rw [mem_holesC hc.1, mem_holesC hc.2]; exact (h2 f hf).2.2
theorem take_mem {l : List Int} {k : Nat} (h : k < l.length) (m : Int) : decide (m ∈ l.take (k + 1)) = (decide (m ∈ l.take k) || decide (l[k] = m)) := by
  rw [List.take_succ_eq_append_getElem h, Bool.eq_iff_iff]
  simp only [decide_eq_true_eq, Bool.or_eq_true, List.mem_append, List.mem_singleton]
  exact ⟨fun q => q.imp id Eq.symm, fun q => q.imp id Eq.symm⟩

set_option maxHeartbeats 8000000 in
set_option maxRecDepth 100000 in
theorem one_c (a b : Ty) (va vb : Value) (w : World) (hva : IsTy w va a) (hvb : IsTy w vb b) (ht : Tab w) : Calls Tryd.prog 6 #[va, vb] w fun r w' => r = .returned (.bool true) ∧ Below w.heap.size w w' := by
  have h64 : Hid (∀ m ∈ allT a ++ allT b, In64 m) := fun m hm => by
    rcases List.mem_append.1 hm with h | h
    · exact all_in64 hva m h
    · exact all_in64 hvb m h
  obtain ⟨s, n, l⟩ := a
  obtain ⟨a1, c1, rfl, _⟩ := hva.open
  obtain ⟨s', n', l'⟩ := b
  obtain ⟨a2, c2, rfl, _⟩ := hvb.open
  obtain ⟨W1, hW1⟩ : ∃ W, (w.alloc (.cells #[.string s, .int .i64 n, .slice a1 l.length c1] 24)).alloc (.cells #[.string s', .int .i64 n', .slice a2 l'.length c2] 24) = W := ⟨_, rfl⟩
  have hb1 : Below w.heap.size w W1 := by rw [← hW1]; exact ((Below.refl _ w).alloc (Nat.le_refl _) _).alloc (by simp) _
  have hz1 : W1.heap.size = w.heap.size + 2 := by rw [← hW1]; simp
  have x1 : BoxT W1 w.heap.size (.string s) (.int .i64 n) (.slice a1 l.length c1) := by rw [← hW1]; exact new_block ((Below.refl _ _).alloc (by simp) _)
  have x2 : BoxT W1 (w.heap.size + 1) (.string s') (.int .i64 n') (.slice a2 l'.length c2) := by rw [← hW1]; exact new_block2 (Below.refl _ _)
  have hS : Hid (∀ V, Below W1.heap.size W1 V → ((V.cell? ⟨w.heap.size, 0, none⟩ = some (.string s) ∧ V.cell? ⟨w.heap.size, 1, none⟩ = some (.int .i64 n) ∧ V.cell? ⟨w.heap.size, 2, none⟩ = some (.slice a1 l.length c1)) ∧ V.cell? ⟨w.heap.size + 1, 0, none⟩ = some (.string s') ∧ V.cell? ⟨w.heap.size + 1, 1, none⟩ = some (.int .i64 n') ∧ V.cell? ⟨w.heap.size + 1, 2, none⟩ = some (.slice a2 l'.length c2))) := fun V hV => by
    obtain ⟨p0, p1, p2⟩ := (x1.below hV x1.lt).cells
    obtain ⟨p3, p4, p5⟩ := (x2.below hV x2.lt).cells
    exact ⟨⟨p0, p1, p2⟩, p3, p4, p5⟩
  have hI : Hid (∀ V, Below W1.heap.size W1 V → (IsTy V (.agg #[.string s, .int .i64 n, .slice a1 l.length c1]) (.mk s n l) ∧ IsTy V (.agg #[.string s', .int .i64 n', .slice a2 l'.length c2]) (.mk s' n' l') ∧ Below w.heap.size w V)) := fun V hV => by
    have hwV := hb1.trans (hV.mono (by omega))
    exact ⟨TyX.below hva hwV, TyX.below hvb hwV, hwV⟩
  have hW1' := Lib.hid hW1
  have htW := Lib.hid (ht.below hb1)
  have hz1' := Lib.hid hz1
  clear hva hvb ht hW1 hb1 x1 x2 hz1
  go_enter Tryd.func6, Tryd.ntmps6
  go_wp2_with fail
  rw [hW1'.out]
  refine (law_awake W1 htW.out).mono ?_
  rintro r V ⟨rfl, hV⟩
  have h0 := Lib.hid hV
  clear hV
  obtain ⟨⟨q0, q1, q2⟩, _⟩ := hS.out V h0.out
  have hf := Lib.hid (r08_Few _ _ V (hI.out V h0.out).1)
  cases hfw : fewT (.mk s n l)
  case false =>
    rw [hfw] at hf
    go_wp2_with fail
    refine hf.out.mono ?_
    rintro r Vq ⟨rfl, hVq⟩
    have hfin := Lib.hid ((hI.out V h0.out).2.2.trans (hVq.mono (hI.out V h0.out).2.2.size))
    clear q0 q1 q2
    go_wp2_with fail
    go_ret
    exact ⟨ret_bool rfl, hfin.out⟩
  rw [hfw] at hf
  clear hfw
  go_wp2_with fail
  refine hf.out.mono ?_
  rintro r V2 ⟨rfl, hVq⟩
  have h1 := Lib.hid (h0.out.trans (hVq.mono h0.out.size))
  clear q0 q1 q2 hf hVq
  obtain ⟨_, q0, q1, q2⟩ := hS.out V2 h1.out
  have hf := Lib.hid (r08_Few _ _ V2 (hI.out V2 h1.out).2.1)
  cases hfw : fewT (.mk s' n' l')
  case false =>
    rw [hfw] at hf
    go_wp2_with fail
    refine hf.out.mono ?_
    rintro r Vq ⟨rfl, hVq⟩
    have hfin := Lib.hid ((hI.out V2 h1.out).2.2.trans (hVq.mono (hI.out V2 h1.out).2.2.size))
    clear q0 q1 q2
    go_wp2_with fail
    go_ret
    exact ⟨ret_bool rfl, hfin.out⟩
  rw [hfw] at hf
  clear hfw
  go_wp2_with fail
  refine hf.out.mono ?_
  rintro r V3 ⟨rfl, hVq⟩
  have h2 := Lib.hid (h1.out.trans (hVq.mono h1.out.size))
  clear q0 q1 q2 hf hVq
  obtain ⟨f1, r1, hu1, hlen, hfacts⟩ := uni_facts h64.out
  have hu := Lib.hid (ty_Unify f1 _ _ _ _ V3 _ hu1 (hI.out V3 h2.out).1 (hI.out V3 h2.out).2.1)
  obtain ⟨⟨q0, q1, q2⟩, q3, q4, q5⟩ := hS.out V3 h2.out
  have hlen' := Lib.hid hlen
  have hfacts' := Lib.hid hfacts
  clear hu1 hlen hfacts
  cases r1 with
  | none =>
    go_wp2_with fail
    refine hu.out.mono ?_
    rintro e V6 ⟨⟨v1, rfl, hv1⟩, hV6⟩
    have hfin := Lib.hid ((hI.out V3 h2.out).2.2.trans (hV6.mono (hI.out V3 h2.out).2.2.size))
    obtain ⟨ga, gc, rfl, _, hgr⟩ := hv1
    simp only [Option.isSome_none, Bool.false_eq_true, if_false, Option.getD_none, List.length_nil]
    clear q0 q1 q2 q3 q4 q5 hu hV6 hgr
    go_wp2_with fail
    go_ret
    exact ⟨ret_bool rfl, hfin.out⟩
  | some F =>
    obtain ⟨hapb, hff, hpw⟩ := hfacts'.out F rfl
    have hFl : Hid (F.length ≤ 4000) := hlen'.out
    obtain ⟨ap, hap⟩ : ∃ t, applyT F (.mk s n l) = t := ⟨_, rfl⟩
    have hapb' : Hid (applyT F (.mk s' n' l') = ap) := by unfold Hid; rw [hapb, hap]
    rw [hap] at hff
    have hap' := Lib.hid hap
    have hff' := Lib.hid hff
    have hpw' := Lib.hid hpw
    clear hap hapb hff hpw hlen' hfacts'
    go_wp2_with fail
    refine hu.out.mono ?_
    rintro e V6 ⟨⟨v1, rfl, hv1⟩, hV6⟩
    simp only [Option.isSome_some, if_true]
    have h6 := Lib.hid (h2.out.trans (hV6.mono h2.out.size))
    obtain ⟨ga, gc, rfl, _, hgr⟩ := hv1
    have hgr' : Hid (FaRow (fun _ => False) V6 ga F) := hgr
    simp only [Option.getD_some]
    clear q0 q1 q2 q3 q4 q5 hu hV6 hgr
    have hFlm : Hid (F.length ≤ lenMax) := by unfold Hid; have := hFl.out; unfold lenMax; omega
    have hc7 := Lib.hid (ty_Apply ga gc F _ _ V6 hFlm.out hgr'.out (hI.out V6 h6.out).1)
    rw [hap'.out] at hc7
    obtain ⟨⟨q0, q1, q2⟩, _⟩ := hS.out V6 h6.out
    go_wp2_with fail
    refine hc7.out.mono ?_
    rintro r V7 ⟨u7, rfl, hu7, hV7⟩
    obtain ⟨xa, xc, rfl⟩ := hu7.form
    have h7 := Lib.hid (h6.out.trans (hV7.mono h6.out.size))
    have hg7 := Lib.hid (hgr'.out.keeps (Keeps.of_below hV7))
    have hu7' := Lib.hid hu7
    clear q0 q1 q2 hc7 hu7 hV7
    go_upto_region 8 with (fail)
    obtain ⟨V8, hV8⟩ : ∃ W, V7.alloc (.cells #[.string ap.name, .int .i64 ap.n, .slice xa ap.args.length xc] 24) = W := ⟨_, rfl⟩
    have hB8 : Below V7.heap.size V7 V8 := by rw [← hV8]; exact (Below.refl _ _).alloc (Nat.le_refl _) _
    have hx8 : BoxT V8 V7.heap.size (.string ap.name) (.int .i64 ap.n) (.slice xa ap.args.length xc) := by rw [← hV8]; exact new_block (Below.refl _ _)
    rw [hV8]
    have h8 := Lib.hid (h7.out.trans (hB8.mono h7.out.size))
    have hg8 := Lib.hid (hg7.out.keeps (Keeps.of_below hB8))
    have hu8 := Lib.hid (TyX.below hu7'.out hB8)
    have hx8' := Lib.hid hx8
    have hc9 := Lib.hid (ty_Apply ga gc F _ _ V8 hFlm.out hg8.out (hI.out V8 h8.out).2.1)
    rw [hapb'.out] at hc9
    obtain ⟨_, q0, q1, q2⟩ := hS.out V8 h8.out
    clear hV8 hB8 hx8
    go_wp2_with fail
    refine hc9.out.mono ?_
    rintro r V9 ⟨u9, rfl, hu9, hV9⟩
    obtain ⟨ya, yc, rfl⟩ := hu9.form
    have h9 := Lib.hid (h8.out.trans (hV9.mono h8.out.size))
    have hg9 := Lib.hid (hg8.out.keeps (Keeps.of_below hV9))
    have hu8b := Lib.hid (TyX.below hu8.out hV9)
    have hx9 := Lib.hid (hx8'.out.below hV9 hx8'.out.lt)
    have hu9' := Lib.hid hu9
    clear q0 q1 q2 hc9 hu9 hV9
    go_upto_region 9 with (fail)
    obtain ⟨D, hD⟩ : ∃ W, V9.alloc (.cells #[.string ap.name, .int .i64 ap.n, .slice ya ap.args.length yc] 24) = W := ⟨_, rfl⟩
    have hBD : Below V9.heap.size V9 D := by rw [← hD]; exact (Below.refl _ _).alloc (Nat.le_refl _) _
    have hyD : BoxT D V9.heap.size (.string ap.name) (.int .i64 ap.n) (.slice ya ap.args.length yc) := by rw [← hD]; exact new_block (Below.refl _ _)
    rw [hD]
    have hD0 := Lib.hid (h9.out.trans (hBD.mono h9.out.size))
    have hS2 : Hid (∀ V, Below D.heap.size D V → (((V.cell? ⟨w.heap.size, 0, none⟩ = some (.string s) ∧ V.cell? ⟨w.heap.size, 1, none⟩ = some (.int .i64 n) ∧ V.cell? ⟨w.heap.size, 2, none⟩ = some (.slice a1 l.length c1)) ∧ V.cell? ⟨w.heap.size + 1, 0, none⟩ = some (.string s') ∧ V.cell? ⟨w.heap.size + 1, 1, none⟩ = some (.int .i64 n') ∧ V.cell? ⟨w.heap.size + 1, 2, none⟩ = some (.slice a2 l'.length c2)) ∧ (V.cell? ⟨V7.heap.size, 0, none⟩ = some (.string ap.name) ∧ V.cell? ⟨V7.heap.size, 1, none⟩ = some (.int .i64 ap.n) ∧ V.cell? ⟨V7.heap.size, 2, none⟩ = some (.slice xa ap.args.length xc)) ∧ V.cell? ⟨V9.heap.size, 0, none⟩ = some (.string ap.name) ∧ V.cell? ⟨V9.heap.size, 1, none⟩ = some (.int .i64 ap.n) ∧ V.cell? ⟨V9.heap.size, 2, none⟩ = some (.slice ya ap.args.length yc))) := fun V hV => ⟨hS.out V (hD0.out.trans (hV.mono hD0.out.size)), ((hx9.out.below hBD hx9.out.lt).below hV (hx9.out.below hBD hx9.out.lt).lt).cells, (hyD.below hV hyD.lt).cells⟩
    have hI2 : Hid (∀ V, Below D.heap.size D V → (IsTy V (.agg #[.string s, .int .i64 n, .slice a1 l.length c1]) (.mk s n l) ∧ IsTy V (.agg #[.string s', .int .i64 n', .slice a2 l'.length c2]) (.mk s' n' l') ∧ Below w.heap.size w V) ∧ IsTy V (.agg #[.string ap.name, .int .i64 ap.n, .slice xa ap.args.length xc]) ap ∧ IsTy V (.agg #[.string ap.name, .int .i64 ap.n, .slice ya ap.args.length yc]) ap ∧ FaRow (fun _ => False) V ga F) := fun V hV => ⟨hI.out V (hD0.out.trans (hV.mono hD0.out.size)), TyX.below (TyX.below hu8b.out hBD) hV, TyX.below (TyX.below hu9'.out hBD) hV, (hg9.out.keeps (Keeps.of_below hBD)).keeps (Keeps.of_below hV)⟩
    clear hD hBD hyD hx9 hu8b hu9' hg9 hg8 hg7 hu8 hx8' hu7' hgr'
    obtain ⟨_, ⟨q0, q1, q2⟩, _⟩ := hS2.out D (Below.refl _ _)
    obtain ⟨G, hG⟩ : ∃ G, holesC ap = G := ⟨_, rfl⟩
    obtain ⟨P, hP⟩ : ∃ P, holesC (.mk s n l) = P := ⟨_, rfl⟩
    obtain ⟨Q, hQ⟩ : ∃ Q, holesC (.mk s' n' l') = Q := ⟨_, rfl⟩
    have lG : G.length ≤ 2000 := by rw [← hG]; exact holesC_len _
    have lP : P.length ≤ 2000 := by rw [← hP]; exact holesC_len _
    have lQ : Q.length ≤ 2000 := by rw [← hQ]; exact holesC_len _
    have hff2 : Hid (∀ f ∈ F, chkT f.ty = true ∧ (∀ m ∈ G, ¬ m = f.n) ∧ (f.n ∈ P ∨ f.n ∈ Q)) := by unfold Hid; rw [← hG, ← hP, ← hQ]; exact hff'.out
    have hh := Lib.hid (ty_Holes _ _ D (hI2.out D (Below.refl _ _)).2.1)
    rw [hG] at hh
    clear hff'
    go_wp2_with fail
    refine hh.out.mono ?_
    rintro r V11 ⟨⟨z, rfl, hz⟩, hV11⟩
    obtain ⟨za, zc, rfl⟩ := hz.form
    have hz' := Lib.hid hz
    have h11 := Lib.hid hV11
    clear q0 q1 q2 hh hz hV11
    obtain ⟨⟨⟨q0, q1, q2⟩, _⟩, _⟩ := hS2.out V11 h11.out
    have hh := Lib.hid (ty_Holes _ _ V11 (hI2.out V11 h11.out).1.1)
    rw [hP] at hh
    go_wp2_with fail
    refine hh.out.mono ?_
    rintro r V12 ⟨⟨p, rfl, hp⟩, hV12⟩
    obtain ⟨pa, pc, rfl⟩ := hp.form
    have hz12 := Lib.hid (hz'.out.keeps (Keeps.of_below hV12))
    have hp' := Lib.hid hp
    have h12 := Lib.hid (h11.out.trans (hV12.mono h11.out.size))
    clear q0 q1 q2 hh hp hV12 hz'
    obtain ⟨⟨_, q0, q1, q2⟩, _⟩ := hS2.out V12 h12.out
    have hh := Lib.hid (ty_Holes _ _ V12 (hI2.out V12 h12.out).1.2.1)
    rw [hQ] at hh
    go_wp2_with fail
    refine hh.out.mono ?_
    rintro r V13 ⟨⟨q, rfl, hq⟩, hV13⟩
    obtain ⟨qa, qc, rfl⟩ := hq.form
    have hz13 := Lib.hid (hz12.out.keeps (Keeps.of_below hV13))
    have hp13 := Lib.hid (hp'.out.keeps (Keeps.of_below hV13))
    have hq13 := Lib.hid hq
    have h13 := Lib.hid (h12.out.trans (hV13.mono h12.out.size))
    clear q0 q1 q2 hh hq hV13 hz12 hp'
    have hG' := Lib.hid hG
    have hP' := Lib.hid hP
    have hQ' := Lib.hid hQ
    clear hG hP hQ
    go_wp2_with fail
    go_loopw [13] (fun i wr => ∃ k : Nat, k ≤ F.length ∧ i = .int .i64 k ∧ Hid (Below V13.heap.size V13 wr)) (fun i _ => F.length - (intOf i).toNat)
    case atStart => exact ⟨0, by omega, rfl, Below.refl _ _⟩
    case round =>
      obtain ⟨k, hk, rfl, hB⟩ := hrel
      obtain ⟨Wk, rfl⟩ : ∃ W, W = wr := ⟨_, rfl⟩
      have hFl4 : F.length ≤ 4000 := hFl.out
      have hr13 := Lib.hid (h13.out.trans (hB.out.mono h13.out.size))
      by_cases h1 : k < F.length
      · obtain ⟨b, off, rfl, hc⟩ := (hI2.out Wk hr13.out).2.2.2.fa (by rintro rfl; simp at h1)
        obtain ⟨a4, c4, g0, g1, g2, g3, ge, gn⟩ := hc k h1
        obtain ⟨fc1, fc2, fc3⟩ := hff2.out _ (List.getElem_mem h1)
        have hrow : Hid (∀ V, Below Wk.heap.size Wk V → Below Wk.heap.size Wk V ∧ V.cell? ⟨b, off + k * 4, none⟩ = some (.int .i64 F[k].n) ∧ V.cell? ⟨b, off + k * 4 + 1, none⟩ = some (.string F[k].ty.name) ∧ V.cell? ⟨b, off + k * 4 + 2, none⟩ = some (.int .i64 F[k].ty.n) ∧ V.cell? ⟨b, off + k * 4 + 3, none⟩ = some (.slice a4 F[k].ty.args.length c4)) := fun V hV => ⟨hV, Keeps.of_below hV _ _ g0, Keeps.of_below hV _ _ g1, Keeps.of_below hV _ _ g2, Keeps.of_below hV _ _ g3⟩
        have ge' := Lib.hid ge
        have hCk : Hid (∀ V, (Below Wk.heap.size Wk V ∧ V.cell? ⟨b, off + k * 4, none⟩ = some (.int .i64 F[k].n) ∧ V.cell? ⟨b, off + k * 4 + 1, none⟩ = some (.string F[k].ty.name) ∧ V.cell? ⟨b, off + k * 4 + 2, none⟩ = some (.int .i64 F[k].ty.n) ∧ V.cell? ⟨b, off + k * 4 + 3, none⟩ = some (.slice a4 F[k].ty.args.length c4)) → Calls Tryd.prog 15 #[.agg #[.string F[k].ty.name, .int .i64 F[k].ty.n, .slice a4 F[k].ty.args.length c4]] V fun r V' => r = .returned (.bool true) ∧ (Below Wk.heap.size Wk V' ∧ V'.cell? ⟨b, off + k * 4, none⟩ = some (.int .i64 F[k].n) ∧ V'.cell? ⟨b, off + k * 4 + 1, none⟩ = some (.string F[k].ty.name) ∧ V'.cell? ⟨b, off + k * 4 + 2, none⟩ = some (.int .i64 F[k].ty.n) ∧ V'.cell? ⟨b, off + k * 4 + 3, none⟩ = some (.slice a4 F[k].ty.args.length c4))) := by
          intro V hV
          have hh := ty_Check _ _ V (TyX.below ge'.out hV.1)
          rw [fc1] at hh
          refine hh.mono ?_
          rintro r V' ⟨hr, hB⟩
          exact ⟨hr, hrow.out _ (hV.1.trans (hB.mono hV.1.size))⟩
        have fc2' := Lib.hid fc2
        have fc3' := Lib.hid fc3
        have hst := Lib.hid (hrow.out _ (Below.refl _ Wk))
        have hdr := Lib.hid (hrow.out _ (Below.refl _ Wk).drew)
        have hci := Lib.hid hc
        have h1i : (k : Int) < (F.length : Int) := by omega
        clear hc ge gn fc1 fc2 fc3 g0 g1 g2 g3
        go_upto_region 15 with (fail)
        go_cut [84] from 60 to 84 (fun s84 U => s84 = .bool false ∧ Below Wk.heap.size Wk U)
        case first =>
          have hki' := Lib.hid h1i
          clear h1i
          rcases Nat.eq_zero_or_pos k with hk0 | hk0
          · have hgd : Hid (decide ((0 : Int) < (k : Int)) = false) := by unfold Hid; subst hk0; rfl
            have hgn : Hid (decide (0 < k) = false) := by unfold Hid; subst hk0; rfl
            clear hk0
            refine wp_region_inv (fun f a Vr => ∃ x : Nat → Value, a = ⟨#[.agg #[.string s, .int .i64 n, .slice a1 l.length c1], .agg #[.string s', .int .i64 n', .slice a2 l'.length c2], .pointer (some ⟨w.heap.size, 0, none⟩), .pointer (some ⟨w.heap.size + 1, 0, none⟩), u4, .bool true, .slice (some ⟨b, off, none⟩) F.length gc, .int .i64 0, .pointer (some ⟨V7.heap.size, 0, none⟩), .pointer (some ⟨V9.heap.size, 0, none⟩), .slice za G.length zc, .slice pa P.length pc, .slice qa Q.length qc, .int .i64 (k : Int), u14, u15, u16, u17, .bool true, .agg #[.string s, .int .i64 n, .slice a1 l.length c1], .bool true, .bool false, .bool false, .agg #[.string s', .int .i64 n', .slice a2 l'.length c2], .bool true, .bool false, .bool false, undef, .tuple #[.slice (some ⟨b, off, none⟩) F.length gc, .int .i64 0], .agg #[.string s, .int .i64 n, .slice a1 l.length c1], .agg #[.string s', .int .i64 n', .slice a2 l'.length c2], .tuple #[.slice (some ⟨b, off, none⟩) F.length gc, .int .i64 0], .slice (some ⟨b, off, none⟩) F.length gc, .int .i64 0, .int .i64 0, .bool false, undef, undef, undef, undef, undef, undef, .slice (some ⟨b, off, none⟩) F.length gc, .agg #[.string s, .int .i64 n, .slice a1 l.length c1], .agg #[.string ap.name, .int .i64 ap.n, .slice xa ap.args.length xc], .slice (some ⟨b, off, none⟩) F.length gc, .agg #[.string s', .int .i64 n', .slice a2 l'.length c2], .agg #[.string ap.name, .int .i64 ap.n, .slice ya ap.args.length yc], .agg #[.string ap.name, .int .i64 ap.n, .slice xa ap.args.length xc], .slice za G.length zc, .agg #[.string s, .int .i64 n, .slice a1 l.length c1], .slice pa P.length pc, .agg #[.string s', .int .i64 n', .slice a2 l'.length c2], .slice qa Q.length qc, .int .i64 (k : Int), .slice (some ⟨b, off, none⟩) F.length gc, .int .i64 (F.length : Int), .bool true, u58, u59, x 0, x 1, x 2, x 3, x 4, x 5, x 6, x 7, x 8, x 9, x 10, x 11, x 12, x 13, x 14, x 15, x 16, x 17, x 18, x 19, x 20, x 21, x 22, x 23, x 24, u85, u86, u87, u88, u89, u90, u91, u92, u93, u94, u95, u96, u97, u98, u99, u100, u101, u102, u103, u104, u105, u106, u107, u108, u109, u110, u111, u112, u113, u114, u115, u116, u117, u118, u119, u120, u121, u122, u123, u124, u125, u126, u127, u128, u129, u130, u131, u132, u133, u134, u135, u136, u137, u138, u139, u140, undef, undef, undef, undef, undef, undef], []⟩ ∧ Below Wk.heap.size Wk Vr ∧ Vals [.int .i64 (k : Int), .bool false, .bool false, undef, undef, undef, undef, undef, undef, undef, undef, undef, undef, undef, undef, .bool false, .bool false, .slice (some ⟨b, off, none⟩) F.length gc, .int .i64 (k : Int), .pointer (some ⟨b, off + k * 4, none⟩), .pointer (some ⟨b, off + k * 4 + 1, none⟩), .agg #[.string F[k].ty.name, .int .i64 F[k].ty.n, .slice a4 F[k].ty.args.length c4], .bool true, .bool false, .bool false] f x) (by kernel_rfl) (by kernel_rfl) (rs := [0, 1, 2, 3, 4, 5, 6, 7, 8, 9, 10, 11, 12, 13, 14, 15, 16, 17, 18, 19, 20, 21, 22, 23, 24]) (by kernel_rfl) ?start ?steps ?done
            case start => exact ⟨fun i => ([u60, u61, u62, u63, u64, u65, u66, u67, u68, u69, u70, u71, u72, u73, u74, u75, u76, u77, u78, u79, u80, u81, u82, u83, u84] : List Value).getD i undef, rfl, (Below.refl _ Wk).drew, Vals.nil _ _⟩
            case steps =>
              refine KeepsI.cons (ds := []) rfl (by kernel_rfl) ?s0 (KeepsI.cons (ds := [0]) rfl (by kernel_rfl) ?s1 (KeepsI.cons (ds := [1]) rfl (by kernel_rfl) ?s2 (KeepsI.cons (ds := [2]) rfl (by kernel_rfl) ?s3 (KeepsI.cons (ds := [2]) rfl (by kernel_rfl) ?s4 (KeepsI.cons (ds := [2]) rfl (by kernel_rfl) ?s5 (KeepsI.cons (ds := [2]) rfl (by kernel_rfl) ?s6 (KeepsI.cons (ds := [2]) rfl (by kernel_rfl) ?s7 (KeepsI.cons (ds := [2]) rfl (by kernel_rfl) ?s8 (KeepsI.cons (ds := [2]) rfl (by kernel_rfl) ?s9 (KeepsI.cons (ds := [2]) rfl (by kernel_rfl) ?s10 (KeepsI.cons (ds := [2]) rfl (by kernel_rfl) ?s11 (KeepsI.cons (ds := [2]) rfl (by kernel_rfl) ?s12 (KeepsI.cons (ds := [2]) rfl (by kernel_rfl) ?s13 (KeepsI.cons (ds := [2]) rfl (by kernel_rfl) ?s14 (KeepsI.cons (ds := [2]) rfl (by kernel_rfl) ?s15 (KeepsI.cons (ds := [15]) rfl (by kernel_rfl) ?s16 (KeepsI.cons (ds := [16]) rfl (by kernel_rfl) ?s17 (KeepsI.cons (ds := [16]) rfl (by kernel_rfl) ?s18 (KeepsI.cons (ds := [17, 18, 16]) rfl (by kernel_rfl) ?s19 (KeepsI.cons (ds := [19, 16]) rfl (by kernel_rfl) ?s20 (KeepsI.cons (ds := [20, 16]) rfl (by kernel_rfl) ?s21 (KeepsI.cons (ds := [21, 16]) rfl (by kernel_rfl) ?s22 (KeepsI.cons (ds := [22, 16]) rfl (by kernel_rfl) ?s23 (KeepsI.cons (ds := [16, 23]) rfl (by kernel_rfl) ?s24 KeepsI.nil))))))))))))))))))))))))
              all_goals (intro f a Vr hf hd hcl hI K' hK; obtain ⟨x, rfl, hVr, hx⟩ := hI)
              case s0 =>
                go_simp
                exact hK _ _ ⟨(upd x 0 (.int .i64 (k : Int))), rfl, hVr, (hx.set 0 rfl)⟩
              case s1 =>
                have e0 := hx.get 0 rfl (hd 0 (by simp))
                rw [e0]
                go_simp
                have hg := hgd.out
                have hg3 := hgn.out
                first | rw [hg] | rw [hg3] | skip
                exact hK _ _ ⟨(upd (upd x 0 (.int .i64 (k : Int))) 1 (.bool false)), rfl, hVr, ((hx.put 0 rfl).set 1 rfl)⟩
              case s2 =>
                have e1 := hx.get 1 rfl (hd 1 (by simp))
                rw [e1]
                go_simp
                exact hK _ _ ⟨(upd (upd x 1 (.bool false)) 2 (.bool false)), rfl, hVr, ((hx.put 1 rfl).set 2 rfl)⟩
              case s3 =>
                have e2 := hx.get 2 rfl (hd 2 (by simp))
                rw [e2]
                go_simp
                exact hK _ _ ⟨(upd (upd x 2 (.bool false)) 3 (undef)), rfl, hVr, ((hx.put 2 rfl).set 3 rfl)⟩
              case s4 =>
                have e2 := hx.get 2 rfl (hd 2 (by simp))
                rw [e2]
                go_simp
                exact hK _ _ ⟨(upd (upd x 2 (.bool false)) 4 (undef)), rfl, hVr, ((hx.put 2 rfl).set 4 rfl)⟩
              case s5 =>
                have e2 := hx.get 2 rfl (hd 2 (by simp))
                rw [e2]
                go_simp
                exact hK _ _ ⟨(upd (upd x 2 (.bool false)) 5 (undef)), rfl, hVr, ((hx.put 2 rfl).set 5 rfl)⟩
              case s6 =>
                have e2 := hx.get 2 rfl (hd 2 (by simp))
                rw [e2]
                go_simp
                exact hK _ _ ⟨(upd (upd x 2 (.bool false)) 6 (undef)), rfl, hVr, ((hx.put 2 rfl).set 6 rfl)⟩
              case s7 =>
                have e2 := hx.get 2 rfl (hd 2 (by simp))
                rw [e2]
                go_simp
                exact hK _ _ ⟨(upd (upd x 2 (.bool false)) 7 (undef)), rfl, hVr, ((hx.put 2 rfl).set 7 rfl)⟩
              case s8 =>
                have e2 := hx.get 2 rfl (hd 2 (by simp))
                rw [e2]
                go_simp
                exact hK _ _ ⟨(upd (upd x 2 (.bool false)) 8 (undef)), rfl, hVr, ((hx.put 2 rfl).set 8 rfl)⟩
              case s9 =>
                have e2 := hx.get 2 rfl (hd 2 (by simp))
                rw [e2]
                go_simp
                exact hK _ _ ⟨(upd (upd x 2 (.bool false)) 9 (undef)), rfl, hVr, ((hx.put 2 rfl).set 9 rfl)⟩
              case s10 =>
                have e2 := hx.get 2 rfl (hd 2 (by simp))
                rw [e2]
                go_simp
                exact hK _ _ ⟨(upd (upd x 2 (.bool false)) 10 (undef)), rfl, hVr, ((hx.put 2 rfl).set 10 rfl)⟩
              case s11 =>
                have e2 := hx.get 2 rfl (hd 2 (by simp))
                rw [e2]
                go_simp
                exact hK _ _ ⟨(upd (upd x 2 (.bool false)) 11 (undef)), rfl, hVr, ((hx.put 2 rfl).set 11 rfl)⟩
              case s12 =>
                have e2 := hx.get 2 rfl (hd 2 (by simp))
                rw [e2]
                go_simp
                exact hK _ _ ⟨(upd (upd x 2 (.bool false)) 12 (undef)), rfl, hVr, ((hx.put 2 rfl).set 12 rfl)⟩
              case s13 =>
                have e2 := hx.get 2 rfl (hd 2 (by simp))
                rw [e2]
                go_simp
                exact hK _ _ ⟨(upd (upd x 2 (.bool false)) 13 (undef)), rfl, hVr, ((hx.put 2 rfl).set 13 rfl)⟩
              case s14 =>
                have e2 := hx.get 2 rfl (hd 2 (by simp))
                rw [e2]
                go_simp
                exact hK _ _ ⟨(upd (upd x 2 (.bool false)) 14 (undef)), rfl, hVr, ((hx.put 2 rfl).set 14 rfl)⟩
              case s15 =>
                have e2 := hx.get 2 rfl (hd 2 (by simp))
                rw [e2]
                go_simp
                exact hK _ _ ⟨(upd (upd x 2 (.bool false)) 15 (.bool false)), rfl, hVr, ((hx.put 2 rfl).set 15 rfl)⟩
              case s16 =>
                have e15 := hx.get 15 rfl (hd 15 (by simp))
                rw [e15]
                go_simp
                exact hK _ _ ⟨(upd (upd x 15 (.bool false)) 16 (.bool false)), rfl, hVr, ((hx.put 15 rfl).set 16 rfl)⟩
              case s17 =>
                have e16 := hx.get 16 rfl (hd 16 (by simp))
                rw [e16]
                go_simp
                exact hK _ _ ⟨(upd (upd x 16 (.bool false)) 17 (.slice (some ⟨b, off, none⟩) F.length gc)), rfl, hVr, ((hx.put 16 rfl).set 17 rfl)⟩
              case s18 =>
                have e16 := hx.get 16 rfl (hd 16 (by simp))
                rw [e16]
                go_simp
                exact hK _ _ ⟨(upd (upd x 16 (.bool false)) 18 (.int .i64 (k : Int))), rfl, hVr, ((hx.put 16 rfl).set 18 rfl)⟩
              case s19 =>
                have e17 := hx.get 17 rfl (hd 17 (by simp))
                have e18 := hx.get 18 rfl (hd 18 (by simp))
                have e16 := hx.get 16 rfl (hd 16 (by simp))
                rw [e17, e18, e16]
                have hki := hki'.out
                go_simp
                exact hK _ _ ⟨(upd (upd (upd (upd x 17 (.slice (some ⟨b, off, none⟩) F.length gc)) 18 (.int .i64 (k : Int))) 16 (.bool false)) 19 (.pointer (some ⟨b, off + k * 4, none⟩))), rfl, hVr, ((((hx.put 17 rfl).put 18 rfl).put 16 rfl).set 19 rfl)⟩
              case s20 =>
                have e19 := hx.get 19 rfl (hd 19 (by simp))
                have e16 := hx.get 16 rfl (hd 16 (by simp))
                rw [e19, e16]
                go_simp
                exact hK _ _ ⟨(upd (upd (upd x 19 (.pointer (some ⟨b, off + k * 4, none⟩))) 16 (.bool false)) 20 (.pointer (some ⟨b, off + k * 4 + 1, none⟩))), rfl, hVr, (((hx.put 19 rfl).put 16 rfl).set 20 rfl)⟩
              case s21 =>
                have e20 := hx.get 20 rfl (hd 20 (by simp))
                have e16 := hx.get 16 rfl (hd 16 (by simp))
                rw [e20, e16]
                obtain ⟨_, r0, r1, r2, r3⟩ := hrow.out Vr hVr
                go_simp
                exact hK _ _ ⟨(upd (upd (upd x 20 (.pointer (some ⟨b, off + k * 4 + 1, none⟩))) 16 (.bool false)) 21 (.agg #[.string F[k].ty.name, .int .i64 F[k].ty.n, .slice a4 F[k].ty.args.length c4])), rfl, hVr, (((hx.put 20 rfl).put 16 rfl).set 21 rfl)⟩
              case s22 =>
                have e21 := hx.get 21 rfl (hd 21 (by simp))
                have e16 := hx.get 16 rfl (hd 16 (by simp))
                rw [e21, e16]
                have hct := Lib.hid (hCk.out Vr (hrow.out Vr hVr))
                go_simp
                refine hct.out.mono ?_
                rintro e Vn ⟨rfl, hsn⟩
                go_simp
                exact hK _ _ ⟨(upd (upd (upd x 21 (.agg #[.string F[k].ty.name, .int .i64 F[k].ty.n, .slice a4 F[k].ty.args.length c4])) 16 (.bool false)) 22 (.bool true)), rfl, hsn.1, (((hx.put 21 rfl).put 16 rfl).set 22 rfl)⟩
              case s23 =>
                have e22 := hx.get 22 rfl (hd 22 (by simp))
                have e16 := hx.get 16 rfl (hd 16 (by simp))
                rw [e22, e16]
                go_simp
                exact hK _ _ ⟨(upd (upd (upd x 22 (.bool true)) 16 (.bool false)) 23 (.bool false)), rfl, hVr, (((hx.put 22 rfl).put 16 rfl).set 23 rfl)⟩
              case s24 =>
                have e16 := hx.get 16 rfl (hd 16 (by simp))
                have e23 := hx.get 23 rfl (hd 23 (by simp))
                rw [e16, e23]
                go_simp
                exact hK _ _ ⟨(upd (upd (upd x 16 (.bool false)) 23 (.bool false)) 24 (.bool false)), rfl, hVr, (((hx.put 16 rfl).put 23 rfl).set 24 rfl)⟩
            case done =>
              intro f a Vr hf hI
              obtain ⟨x, rfl, hVr, hx⟩ := hI
              have e := hx.get 24 rfl (hf 24 (by simp))
              rw [e]
              clear hx e
              go_wp2_with fail
              go_meet
              case rel => exact ⟨rfl, hVr⟩
          · have hgd : Hid (decide ((0 : Int) < (k : Int)) = true) := by unfold Hid; rw [decide_eq_true_eq]; omega
            have hgn : Hid (decide (0 < k) = true) := by unfold Hid; rw [decide_eq_true_eq]; omega
            obtain ⟨j, hj⟩ : ∃ j, k = j + 1 := ⟨k - 1, by omega⟩
            have hj1 : j < F.length := by omega
            obtain ⟨nj, hnj⟩ : ∃ x, F[j].n = x := ⟨_, rfl⟩
            obtain ⟨nk, hnk0⟩ : ∃ x, F[k].n = x := ⟨_, rfl⟩
            have hnk := Lib.hid hnk0
            have hge : Hid (decide (nk ≤ nj) = false) := by
              unfold Hid
              rw [decide_eq_false_iff_not, ← hnj, ← hnk0]
              have := List.pairwise_iff_getElem.1 hpw'.out j k hj1 h1 (by omega)
              omega
            have hw5 : Hid (IntKind.i64.wrap ((k : Int) - 1) = (j : Int)) := by
              unfold Hid
              rw [IntWalk.i64_in _ (by omega)]
              omega
            have hw6 : Hid ((k : Int) - 1 = (j : Int)) := by unfold Hid; omega
            have hji' : Hid ((j : Int) < (F.length : Int)) := by unfold Hid; omega
            have hrj : Hid (∀ V, Below Wk.heap.size Wk V → V.cell? ⟨b, off + j * 4, none⟩ = some (.int .i64 nj)) := fun V hV => by
              obtain ⟨_, _, y0, _⟩ := hci.out j hj1
              rw [hnj] at y0
              exact Keeps.of_below hV _ _ y0
            clear hk0 hj hj1 hnj hnk0
            refine wp_region_inv (fun f a Vr => ∃ x : Nat → Value, a = ⟨#[.agg #[.string s, .int .i64 n, .slice a1 l.length c1], .agg #[.string s', .int .i64 n', .slice a2 l'.length c2], .pointer (some ⟨w.heap.size, 0, none⟩), .pointer (some ⟨w.heap.size + 1, 0, none⟩), u4, .bool true, .slice (some ⟨b, off, none⟩) F.length gc, .int .i64 0, .pointer (some ⟨V7.heap.size, 0, none⟩), .pointer (some ⟨V9.heap.size, 0, none⟩), .slice za G.length zc, .slice pa P.length pc, .slice qa Q.length qc, .int .i64 (k : Int), u14, u15, u16, u17, .bool true, .agg #[.string s, .int .i64 n, .slice a1 l.length c1], .bool true, .bool false, .bool false, .agg #[.string s', .int .i64 n', .slice a2 l'.length c2], .bool true, .bool false, .bool false, undef, .tuple #[.slice (some ⟨b, off, none⟩) F.length gc, .int .i64 0], .agg #[.string s, .int .i64 n, .slice a1 l.length c1], .agg #[.string s', .int .i64 n', .slice a2 l'.length c2], .tuple #[.slice (some ⟨b, off, none⟩) F.length gc, .int .i64 0], .slice (some ⟨b, off, none⟩) F.length gc, .int .i64 0, .int .i64 0, .bool false, undef, undef, undef, undef, undef, undef, .slice (some ⟨b, off, none⟩) F.length gc, .agg #[.string s, .int .i64 n, .slice a1 l.length c1], .agg #[.string ap.name, .int .i64 ap.n, .slice xa ap.args.length xc], .slice (some ⟨b, off, none⟩) F.length gc, .agg #[.string s', .int .i64 n', .slice a2 l'.length c2], .agg #[.string ap.name, .int .i64 ap.n, .slice ya ap.args.length yc], .agg #[.string ap.name, .int .i64 ap.n, .slice xa ap.args.length xc], .slice za G.length zc, .agg #[.string s, .int .i64 n, .slice a1 l.length c1], .slice pa P.length pc, .agg #[.string s', .int .i64 n', .slice a2 l'.length c2], .slice qa Q.length qc, .int .i64 (k : Int), .slice (some ⟨b, off, none⟩) F.length gc, .int .i64 (F.length : Int), .bool true, u58, u59, x 0, x 1, x 2, x 3, x 4, x 5, x 6, x 7, x 8, x 9, x 10, x 11, x 12, x 13, x 14, x 15, x 16, x 17, x 18, x 19, x 20, x 21, x 22, x 23, x 24, u85, u86, u87, u88, u89, u90, u91, u92, u93, u94, u95, u96, u97, u98, u99, u100, u101, u102, u103, u104, u105, u106, u107, u108, u109, u110, u111, u112, u113, u114, u115, u116, u117, u118, u119, u120, u121, u122, u123, u124, u125, u126, u127, u128, u129, u130, u131, u132, u133, u134, u135, u136, u137, u138, u139, u140, undef, undef, undef, undef, undef, undef], []⟩ ∧ Below Wk.heap.size Wk Vr ∧ Vals [.int .i64 (k : Int), .bool true, .bool true, .slice (some ⟨b, off, none⟩) F.length gc, .int .i64 (k : Int), .int .i64 (j : Int), .pointer (some ⟨b, off + j * 4, none⟩), .pointer (some ⟨b, off + j * 4, none⟩), .int .i64 nj, .slice (some ⟨b, off, none⟩) F.length gc, .int .i64 (k : Int), .pointer (some ⟨b, off + k * 4, none⟩), .pointer (some ⟨b, off + k * 4, none⟩), .int .i64 nk, .bool false, .bool false, .bool false, .slice (some ⟨b, off, none⟩) F.length gc, .int .i64 (k : Int), .pointer (some ⟨b, off + k * 4, none⟩), .pointer (some ⟨b, off + k * 4 + 1, none⟩), .agg #[.string F[k].ty.name, .int .i64 F[k].ty.n, .slice a4 F[k].ty.args.length c4], .bool true, .bool false, .bool false] f x) (by kernel_rfl) (by kernel_rfl) (rs := [0, 1, 2, 3, 4, 5, 6, 7, 8, 9, 10, 11, 12, 13, 14, 15, 16, 17, 18, 19, 20, 21, 22, 23, 24]) (by kernel_rfl) ?start ?steps ?done
            case start => exact ⟨fun i => ([u60, u61, u62, u63, u64, u65, u66, u67, u68, u69, u70, u71, u72, u73, u74, u75, u76, u77, u78, u79, u80, u81, u82, u83, u84] : List Value).getD i undef, rfl, (Below.refl _ Wk).drew, Vals.nil _ _⟩
            case steps =>
              refine KeepsI.cons (ds := []) rfl (by kernel_rfl) ?s0 (KeepsI.cons (ds := [0]) rfl (by kernel_rfl) ?s1 (KeepsI.cons (ds := [1]) rfl (by kernel_rfl) ?s2 (KeepsI.cons (ds := [2]) rfl (by kernel_rfl) ?s3 (KeepsI.cons (ds := [2]) rfl (by kernel_rfl) ?s4 (KeepsI.cons (ds := [4, 2]) rfl (by kernel_rfl) ?s5 (KeepsI.cons (ds := [3, 5, 2]) rfl (by kernel_rfl) ?s6 (KeepsI.cons (ds := [6, 2]) rfl (by kernel_rfl) ?s7 (KeepsI.cons (ds := [7, 2]) rfl (by kernel_rfl) ?s8 (KeepsI.cons (ds := [2]) rfl (by kernel_rfl) ?s9 (KeepsI.cons (ds := [2]) rfl (by kernel_rfl) ?s10 (KeepsI.cons (ds := [9, 10, 2]) rfl (by kernel_rfl) ?s11 (KeepsI.cons (ds := [11, 2]) rfl (by kernel_rfl) ?s12 (KeepsI.cons (ds := [12, 2]) rfl (by kernel_rfl) ?s13 (KeepsI.cons (ds := [8, 13, 2]) rfl (by kernel_rfl) ?s14 (KeepsI.cons (ds := [2, 14]) rfl (by kernel_rfl) ?s15 (KeepsI.cons (ds := [15]) rfl (by kernel_rfl) ?s16 (KeepsI.cons (ds := [16]) rfl (by kernel_rfl) ?s17 (KeepsI.cons (ds := [16]) rfl (by kernel_rfl) ?s18 (KeepsI.cons (ds := [17, 18, 16]) rfl (by kernel_rfl) ?s19 (KeepsI.cons (ds := [19, 16]) rfl (by kernel_rfl) ?s20 (KeepsI.cons (ds := [20, 16]) rfl (by kernel_rfl) ?s21 (KeepsI.cons (ds := [21, 16]) rfl (by kernel_rfl) ?s22 (KeepsI.cons (ds := [22, 16]) rfl (by kernel_rfl) ?s23 (KeepsI.cons (ds := [16, 23]) rfl (by kernel_rfl) ?s24 KeepsI.nil))))))))))))))))))))))))
              all_goals (intro f a Vr hf hd hcl hI K' hK; obtain ⟨x, rfl, hVr, hx⟩ := hI)
              case s0 =>
                go_simp
                exact hK _ _ ⟨(upd x 0 (.int .i64 (k : Int))), rfl, hVr, (hx.set 0 rfl)⟩
              case s1 =>
                have e0 := hx.get 0 rfl (hd 0 (by simp))
                rw [e0]
                go_simp
                have hg := hgd.out
                have hg3 := hgn.out
                first | rw [hg] | rw [hg3] | skip
                exact hK _ _ ⟨(upd (upd x 0 (.int .i64 (k : Int))) 1 (.bool true)), rfl, hVr, ((hx.put 0 rfl).set 1 rfl)⟩
              case s2 =>
                have e1 := hx.get 1 rfl (hd 1 (by simp))
                rw [e1]
                go_simp
                exact hK _ _ ⟨(upd (upd x 1 (.bool true)) 2 (.bool true)), rfl, hVr, ((hx.put 1 rfl).set 2 rfl)⟩
              case s3 =>
                have e2 := hx.get 2 rfl (hd 2 (by simp))
                rw [e2]
                go_simp
                exact hK _ _ ⟨(upd (upd x 2 (.bool true)) 3 (.slice (some ⟨b, off, none⟩) F.length gc)), rfl, hVr, ((hx.put 2 rfl).set 3 rfl)⟩
              case s4 =>
                have e2 := hx.get 2 rfl (hd 2 (by simp))
                rw [e2]
                go_simp
                exact hK _ _ ⟨(upd (upd x 2 (.bool true)) 4 (.int .i64 (k : Int))), rfl, hVr, ((hx.put 2 rfl).set 4 rfl)⟩
              case s5 =>
                have e4 := hx.get 4 rfl (hd 4 (by simp))
                have e2 := hx.get 2 rfl (hd 2 (by simp))
                rw [e4, e2]
                go_simp
                first | rw [hw5.out] | rw [hw6.out] | skip
                exact hK _ _ ⟨(upd (upd (upd x 4 (.int .i64 (k : Int))) 2 (.bool true)) 5 (.int .i64 (j : Int))), rfl, hVr, (((hx.put 4 rfl).put 2 rfl).set 5 rfl)⟩
              case s6 =>
                have e3 := hx.get 3 rfl (hd 3 (by simp))
                have e5 := hx.get 5 rfl (hd 5 (by simp))
                have e2 := hx.get 2 rfl (hd 2 (by simp))
                rw [e3, e5, e2]
                have hji := hji'.out
                go_simp
                exact hK _ _ ⟨(upd (upd (upd (upd x 3 (.slice (some ⟨b, off, none⟩) F.length gc)) 5 (.int .i64 (j : Int))) 2 (.bool true)) 6 (.pointer (some ⟨b, off + j * 4, none⟩))), rfl, hVr, ((((hx.put 3 rfl).put 5 rfl).put 2 rfl).set 6 rfl)⟩
              case s7 =>
                have e6 := hx.get 6 rfl (hd 6 (by simp))
                have e2 := hx.get 2 rfl (hd 2 (by simp))
                rw [e6, e2]
                go_simp
                exact hK _ _ ⟨(upd (upd (upd x 6 (.pointer (some ⟨b, off + j * 4, none⟩))) 2 (.bool true)) 7 (.pointer (some ⟨b, off + j * 4, none⟩))), rfl, hVr, (((hx.put 6 rfl).put 2 rfl).set 7 rfl)⟩
              case s8 =>
                have e7 := hx.get 7 rfl (hd 7 (by simp))
                have e2 := hx.get 2 rfl (hd 2 (by simp))
                rw [e7, e2]
                have rj := hrj.out Vr hVr
                go_simp
                exact hK _ _ ⟨(upd (upd (upd x 7 (.pointer (some ⟨b, off + j * 4, none⟩))) 2 (.bool true)) 8 (.int .i64 nj)), rfl, hVr, (((hx.put 7 rfl).put 2 rfl).set 8 rfl)⟩
              case s9 =>
                have e2 := hx.get 2 rfl (hd 2 (by simp))
                rw [e2]
                go_simp
                exact hK _ _ ⟨(upd (upd x 2 (.bool true)) 9 (.slice (some ⟨b, off, none⟩) F.length gc)), rfl, hVr, ((hx.put 2 rfl).set 9 rfl)⟩
              case s10 =>
                have e2 := hx.get 2 rfl (hd 2 (by simp))
                rw [e2]
                go_simp
                exact hK _ _ ⟨(upd (upd x 2 (.bool true)) 10 (.int .i64 (k : Int))), rfl, hVr, ((hx.put 2 rfl).set 10 rfl)⟩
              case s11 =>
                have e9 := hx.get 9 rfl (hd 9 (by simp))
                have e10 := hx.get 10 rfl (hd 10 (by simp))
                have e2 := hx.get 2 rfl (hd 2 (by simp))
                rw [e9, e10, e2]
                have hki := hki'.out
                go_simp
                exact hK _ _ ⟨(upd (upd (upd (upd x 9 (.slice (some ⟨b, off, none⟩) F.length gc)) 10 (.int .i64 (k : Int))) 2 (.bool true)) 11 (.pointer (some ⟨b, off + k * 4, none⟩))), rfl, hVr, ((((hx.put 9 rfl).put 10 rfl).put 2 rfl).set 11 rfl)⟩
              case s12 =>
                have e11 := hx.get 11 rfl (hd 11 (by simp))
                have e2 := hx.get 2 rfl (hd 2 (by simp))
                rw [e11, e2]
                go_simp
                exact hK _ _ ⟨(upd (upd (upd x 11 (.pointer (some ⟨b, off + k * 4, none⟩))) 2 (.bool true)) 12 (.pointer (some ⟨b, off + k * 4, none⟩))), rfl, hVr, (((hx.put 11 rfl).put 2 rfl).set 12 rfl)⟩
              case s13 =>
                have e12 := hx.get 12 rfl (hd 12 (by simp))
                have e2 := hx.get 2 rfl (hd 2 (by simp))
                rw [e12, e2]
                obtain ⟨_, r0, r1, r2, r3⟩ := hrow.out Vr hVr
                rw [hnk.out] at r0
                go_simp
                exact hK _ _ ⟨(upd (upd (upd x 12 (.pointer (some ⟨b, off + k * 4, none⟩))) 2 (.bool true)) 13 (.int .i64 nk)), rfl, hVr, (((hx.put 12 rfl).put 2 rfl).set 13 rfl)⟩
              case s14 =>
                have e8 := hx.get 8 rfl (hd 8 (by simp))
                have e13 := hx.get 13 rfl (hd 13 (by simp))
                have e2 := hx.get 2 rfl (hd 2 (by simp))
                rw [e8, e13, e2]
                go_simp
                have hg := hge.out
                try rw [hg]
                exact hK _ _ ⟨(upd (upd (upd (upd x 8 (.int .i64 nj)) 13 (.int .i64 nk)) 2 (.bool true)) 14 (.bool false)), rfl, hVr, ((((hx.put 8 rfl).put 13 rfl).put 2 rfl).set 14 rfl)⟩
              case s15 =>
                have e2 := hx.get 2 rfl (hd 2 (by simp))
                have e14 := hx.get 14 rfl (hd 14 (by simp))
                rw [e2, e14]
                go_simp
                exact hK _ _ ⟨(upd (upd (upd x 2 (.bool true)) 14 (.bool false)) 15 (.bool false)), rfl, hVr, (((hx.put 2 rfl).put 14 rfl).set 15 rfl)⟩
              case s16 =>
                have e15 := hx.get 15 rfl (hd 15 (by simp))
                rw [e15]
                go_simp
                exact hK _ _ ⟨(upd (upd x 15 (.bool false)) 16 (.bool false)), rfl, hVr, ((hx.put 15 rfl).set 16 rfl)⟩
              case s17 =>
                have e16 := hx.get 16 rfl (hd 16 (by simp))
                rw [e16]
                go_simp
                exact hK _ _ ⟨(upd (upd x 16 (.bool false)) 17 (.slice (some ⟨b, off, none⟩) F.length gc)), rfl, hVr, ((hx.put 16 rfl).set 17 rfl)⟩
              case s18 =>
                have e16 := hx.get 16 rfl (hd 16 (by simp))
                rw [e16]
                go_simp
                exact hK _ _ ⟨(upd (upd x 16 (.bool false)) 18 (.int .i64 (k : Int))), rfl, hVr, ((hx.put 16 rfl).set 18 rfl)⟩
              case s19 =>
                have e17 := hx.get 17 rfl (hd 17 (by simp))
                have e18 := hx.get 18 rfl (hd 18 (by simp))
                have e16 := hx.get 16 rfl (hd 16 (by simp))
                rw [e17, e18, e16]
                have hki := hki'.out
                go_simp
                exact hK _ _ ⟨(upd (upd (upd (upd x 17 (.slice (some ⟨b, off, none⟩) F.length gc)) 18 (.int .i64 (k : Int))) 16 (.bool false)) 19 (.pointer (some ⟨b, off + k * 4, none⟩))), rfl, hVr, ((((hx.put 17 rfl).put 18 rfl).put 16 rfl).set 19 rfl)⟩
              case s20 =>
                have e19 := hx.get 19 rfl (hd 19 (by simp))
                have e16 := hx.get 16 rfl (hd 16 (by simp))
                rw [e19, e16]
                go_simp
                exact hK _ _ ⟨(upd (upd (upd x 19 (.pointer (some ⟨b, off + k * 4, none⟩))) 16 (.bool false)) 20 (.pointer (some ⟨b, off + k * 4 + 1, none⟩))), rfl, hVr, (((hx.put 19 rfl).put 16 rfl).set 20 rfl)⟩
              case s21 =>
                have e20 := hx.get 20 rfl (hd 20 (by simp))
                have e16 := hx.get 16 rfl (hd 16 (by simp))
                rw [e20, e16]
                obtain ⟨_, r0, r1, r2, r3⟩ := hrow.out Vr hVr
                go_simp
                exact hK _ _ ⟨(upd (upd (upd x 20 (.pointer (some ⟨b, off + k * 4 + 1, none⟩))) 16 (.bool false)) 21 (.agg #[.string F[k].ty.name, .int .i64 F[k].ty.n, .slice a4 F[k].ty.args.length c4])), rfl, hVr, (((hx.put 20 rfl).put 16 rfl).set 21 rfl)⟩
              case s22 =>
                have e21 := hx.get 21 rfl (hd 21 (by simp))
                have e16 := hx.get 16 rfl (hd 16 (by simp))
                rw [e21, e16]
                have hct := Lib.hid (hCk.out Vr (hrow.out Vr hVr))
                go_simp
                refine hct.out.mono ?_
                rintro e Vn ⟨rfl, hsn⟩
                go_simp
                exact hK _ _ ⟨(upd (upd (upd x 21 (.agg #[.string F[k].ty.name, .int .i64 F[k].ty.n, .slice a4 F[k].ty.args.length c4])) 16 (.bool false)) 22 (.bool true)), rfl, hsn.1, (((hx.put 21 rfl).put 16 rfl).set 22 rfl)⟩
              case s23 =>
                have e22 := hx.get 22 rfl (hd 22 (by simp))
                have e16 := hx.get 16 rfl (hd 16 (by simp))
                rw [e22, e16]
                go_simp
                exact hK _ _ ⟨(upd (upd (upd x 22 (.bool true)) 16 (.bool false)) 23 (.bool false)), rfl, hVr, (((hx.put 22 rfl).put 16 rfl).set 23 rfl)⟩
              case s24 =>
                have e16 := hx.get 16 rfl (hd 16 (by simp))
                have e23 := hx.get 23 rfl (hd 23 (by simp))
                rw [e16, e23]
                go_simp
                exact hK _ _ ⟨(upd (upd (upd x 16 (.bool false)) 23 (.bool false)) 24 (.bool false)), rfl, hVr, (((hx.put 16 rfl).put 23 rfl).set 24 rfl)⟩
            case done =>
              intro f a Vr hf hI
              obtain ⟨x, rfl, hVr, hx⟩ := hI
              have e := hx.get 24 rfl (hf 24 (by simp))
              rw [e]
              clear hx e
              go_wp2_with fail
              go_meet
              case rel => exact ⟨rfl, hVr⟩
        case rest =>
        obtain ⟨rfl, hUc⟩ := hcut
        obtain ⟨U, rfl⟩ : ∃ U, U = wc := ⟨_, rfl⟩
        have hU := Lib.hid (hB.out.trans (hUc.mono hB.out.size))
        have hU' := Lib.hid hUc
        have hzU := Lib.hid (hz13.out.keeps (Keeps.of_below hU.out))
        have hpU := Lib.hid (hp13.out.keeps (Keeps.of_below hU.out))
        have hqU := Lib.hid (hq13.out.keeps (Keeps.of_below hU.out))
        have hg0 : Hid (∀ V, Below U.heap.size U V → V.cell? ⟨b, off + k * 4, none⟩ = some (.int .i64 F[k].n)) := fun V hV => (hrow.out V (hU'.out.trans (hV.mono hU'.out.size))).2.1
        clear hUc hst hdr hCk hB hci
        obtain ⟨m, hm⟩ : ∃ m, F[k].n = m := ⟨_, rfl⟩
        rw [hm] at hg0 fc2' fc3'
        have hm' := Lib.hid hm
        clear hm
        go_wp2_with fail
        go_loopw [14] (fun i wq => ∃ j : Nat, j ≤ G.length ∧ i = .int .i64 j ∧ Hid (Below U.heap.size U wq)) (fun i _ => G.length - (intOf i).toNat)
        case atStart => exact ⟨0, by omega, rfl, Below.refl _ _⟩
        case round =>
          obtain ⟨j, hj, rfl, hBq⟩ := hrel
          obtain ⟨Wj, rfl⟩ : ∃ W, W = wr := ⟨_, rfl⟩
          by_cases hj1 : j < G.length
          · obtain ⟨bz, oz, rfl, hcz⟩ := (hzU.out.keeps (Keeps.of_below hBq.out)).at.2 (by rintro rfl; simp at hj1)
            have gj := hcz j hj1
            have gk := hg0.out Wj hBq.out
            have hne : (G[j] == m) = false := by rw [beq_eq_false_iff_ne]; exact fc2'.out _ (List.getElem_mem hj1)
            have hji : (j : Int) < (G.length : Int) := by omega
            clear hcz
            go_upto_region 20 with (fail)
            go_quiet (fail)
            go_wp2_with fail
            go_roundw
            case rel => exact ⟨j + 1, by omega, by go_num, below_drewN' hBq.out _⟩
            case measure => simp [intOf]; omega
          · have hji : ¬ (j : Int) < (G.length : Int) := by omega
            go_wp2_with fail
            go_loopw [15, 16] (fun fd i wq => ∃ j : Nat, j ≤ P.length ∧ i = .int .i64 j ∧ fd = .bool (decide (m ∈ P.take j)) ∧ Hid (Below U.heap.size U wq)) (fun _ i _ => P.length - (intOf i).toNat)
            case atStart => exact ⟨0, by omega, rfl, by simp, hBq⟩
            case round =>
              obtain ⟨i3, hi3, rfl, rfl, hB3⟩ := hrel
              obtain ⟨W3, rfl⟩ : ∃ W, W = wr := ⟨_, rfl⟩
              by_cases h3 : i3 < P.length
              · obtain ⟨bp, op, rfl, hcp⟩ := (hpU.out.keeps (Keeps.of_below hB3.out)).at.2 (by rintro rfl; simp at h3)
                have gj := hcp i3 h3
                have gk := hg0.out W3 hB3.out
                have htm := Lib.hid (take_mem h3 m)
                have h3i : (i3 : Int) < (P.length : Int) := by omega
                clear hcp
                obtain ⟨fb, hfb⟩ : ∃ fb, decide (m ∈ P.take i3) = fb := ⟨_, rfl⟩
                rw [hfb] at htm ⊢
                clear hfb
                cases fb
                · obtain ⟨eb, heb⟩ : ∃ eb, (P[i3] == m) = eb := ⟨_, rfl⟩
                  have htm2 : Hid (decide (m ∈ P.take (i3 + 1)) = eb) := by
                    have := htm.out
                    rw [Bool.false_or] at this
                    unfold Hid
                    rw [this, ← heb]
                    rfl
                  cases eb
                  all_goals
                    go_upto_region 26 with (fail)
                    go_quiet (fail)
                    go_wp2_with fail
                    go_roundw
                    case rel => exact ⟨i3 + 1, by omega, by go_num, by rw [htm2.out], below_drewN' hB3.out _⟩
                    case measure => simp [intOf]; omega
                · have htm2 : Hid (decide (m ∈ P.take (i3 + 1)) = true) := by
                    have := htm.out
                    rw [Bool.true_or] at this
                    exact this
                  go_upto_region 26 with (fail)
                  go_quiet (fail)
                  go_wp2_with fail
                  go_roundw
                  case rel => exact ⟨i3 + 1, by omega, by go_num, by rw [htm2.out], below_drewN' hB3.out _⟩
                  case measure => simp [intOf]; omega
              · have h3i : ¬ (i3 : Int) < (P.length : Int) := by omega
                obtain ⟨fp, hfp⟩ : ∃ fp, decide (m ∈ P.take i3) = fp := ⟨_, rfl⟩
                have hfp2 : Hid (decide (m ∈ P) = fp) := by unfold Hid; rw [← hfp, List.take_of_length_le (by omega)]
                rw [hfp]
                clear hfp
                go_wp2_with fail
                go_loopw [15, 17] (fun fd i wq => ∃ j : Nat, j ≤ Q.length ∧ i = .int .i64 j ∧ fd = .bool (fp || decide (m ∈ Q.take j)) ∧ Hid (Below U.heap.size U wq)) (fun _ i _ => Q.length - (intOf i).toNat)
                case atStart => exact ⟨0, by omega, rfl, by simp, hB3⟩
                case round =>
                  obtain ⟨i4, hi4, rfl, rfl, hB4⟩ := hrel
                  by_cases h4 : i4 < Q.length
                  · obtain ⟨bq, oq, rfl, hcq⟩ := (hqU.out.keeps (Keeps.of_below hB4.out)).at.2 (by rintro rfl; simp at h4)
                    have gj := hcq i4 h4
                    have gk := hg0.out wr hB4.out
                    have htm := Lib.hid (take_mem h4 m)
                    have h4i : (i4 : Int) < (Q.length : Int) := by omega
                    clear hcq
                    obtain ⟨fb, hfb⟩ : ∃ fb, (fp || decide (m ∈ Q.take i4)) = fb := ⟨_, rfl⟩
                    have htq : Hid ((fp || decide (m ∈ Q.take (i4 + 1))) = (fb || decide (Q[i4] = m))) := by unfold Hid; rw [htm.out, ← hfb, Bool.or_assoc]
                    rw [hfb]
                    clear hfb htm
                    cases fb
                    · obtain ⟨eb, heb⟩ : ∃ eb, (Q[i4] == m) = eb := ⟨_, rfl⟩
                      have htm2 : Hid ((fp || decide (m ∈ Q.take (i4 + 1))) = eb) := by
                        have := htq.out
                        rw [Bool.false_or] at this
                        unfold Hid
                        rw [this, ← heb]
                        rfl
                      cases eb
                      all_goals
                        go_upto_region 30 with (fail)
                        go_quiet (fail)
                        go_wp2_with fail
                        go_roundw
                        case rel => exact ⟨i4 + 1, by omega, by go_num, by rw [htm2.out], below_drewN' hB4.out _⟩
                        case measure => simp [intOf]; omega
                    · have htm2 : Hid ((fp || decide (m ∈ Q.take (i4 + 1))) = true) := by
                        have := htq.out
                        rw [Bool.true_or] at this
                        exact this
                      go_upto_region 30 with (fail)
                      go_quiet (fail)
                      go_wp2_with fail
                      go_roundw
                      case rel => exact ⟨i4 + 1, by omega, by go_num, by rw [htm2.out], below_drewN' hB4.out _⟩
                      case measure => simp [intOf]; omega
                  · have h4i : ¬ (i4 : Int) < (Q.length : Int) := by omega
                    have hall : (fp || decide (m ∈ Q.take i4)) = true := by
                      rw [List.take_of_length_le (by omega), ← hfp2.out, Bool.or_eq_true, decide_eq_true_eq, decide_eq_true_eq]
                      exact fc3'.out
                    rw [hall]
                    clear hall
                    have hfin := Lib.hid (hU.out.trans (hB4.out.mono hU.out.size))
                    go_wp2_with fail
                    go_roundw
                    case rel => exact ⟨k + 1, by omega, by go_num, hfin.out⟩
                    case measure => simp [intOf]; omega
      · have h1i : ¬ (k : Int) < (F.length : Int) := by omega
        obtain ⟨_, ⟨q0, q1, q2⟩, q3, q4, q5⟩ := hS2.out Wk hr13.out
        have hsm := Lib.hid (r08_Same ap ap _ _ Wk (hI2.out Wk hr13.out).2.1 (hI2.out Wk hr13.out).2.2.1)
        rw [eqB_true rfl] at hsm
        have hwk := Lib.hid (hI2.out Wk hr13.out).1.2.2
        go_wp2_with fail
        refine hsm.out.mono ?_
        rintro e Ve ⟨rfl, hVe⟩
        have hfin := Lib.hid (hwk.out.trans (hVe.mono hwk.out.size))
        clear q0 q1 q2 q3 q4 q5 hVe hsm
        go_wp2_with fail
        go_ret
        exact ⟨ret_bool rfl, hfin.out⟩
end Go.Proofs.YticjpeefhppjoaaDoor
