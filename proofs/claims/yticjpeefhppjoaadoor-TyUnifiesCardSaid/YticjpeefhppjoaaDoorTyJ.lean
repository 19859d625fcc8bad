/- A type whose holes are numbered by their first place, by the program. -/
import Derived.Test.YticjpeefhppjoaaDoorTyG
import Derived.Test.YticjpeefhppjoaaDoorTyN
namespace Go.Proofs.YticjpeefhppjoaaDoor
open Go.RowKit

theorem addI_nodup {l : List Int} (h : l.Nodup) (n : Int) : (addI l n).Nodup := by
  unfold addI
  split
  · exact h
  · rename_i hn
    rw [List.nodup_append]
    exact ⟨h, by simp, fun a ha b hb => by simp at hb; subst hb; exact fun e => hn (e ▸ ha)⟩
theorem onceL_nodup (l : List Int) : (onceL l).Nodup := by
  have : ∀ (l a : List Int), a.Nodup → (l.foldl addI a).Nodup := by
    intro l
    induction l with
    | nil => intro a h; exact h
    | cons x r ih => intro a h; exact ih _ (addI_nodup h x)
  exact this l [] (by simp)
/-- What a hole is, by a list of them without doubles. -/
theorem canonF_at {H : List Int} (hH : H.Nodup) {k : Nat} (hk : k < H.length) (n : Int) : fa? (canonF (H.take (k + 1))) n = if n = H[k] then some (.mk ⟨#[]⟩ k []) else fa? (canonF (H.take k)) n := by
  rw [canonF_take H k hk]
  have happ : ∀ (A : List Fa) (f : Fa), fa? (A ++ [f]) n = match fa? A n with | some x => some x | none => if f.n = n then some f.ty else none := by
    intro A f
    induction A with
    | nil => simp [fa?]
    | cons a r ih =>
      simp only [List.cons_append, fa?]
      by_cases h : a.n = n
      · rw [if_pos h, if_pos h]
      · rw [if_neg h, if_neg h, ih]
  rw [happ]
  by_cases e : n = H[k]
  · rw [if_pos e]
    have hno : fa? (canonF (H.take k)) n = none := by
      refine fa_none fun j hj h => ?_
      have hj' : j < k := by rw [canonF_len, List.length_take] at hj; omega
      have h2 : (canonF (H.take k))[j].n = H[j] := by simp [canonF]
      rw [h2, e] at h
      exact (List.pairwise_iff_getElem.1 hH j k (by omega) hk hj') h
    rw [hno]
    simp only
    rw [if_pos e.symm]
  · rw [if_neg e]
    cases fa? (canonF (H.take k)) n with
    | some x => rfl
    | none => simp only; rw [if_neg (fun h => e h.symm)]
/-- On a type that may be, places say what facts say. -/
theorem with_put {F : Int → Option Ty} {L : List Fa} (hF : ∀ n, In64 n → F n = fa? L n) : ∀ (e : Ty) (d : Int) {X : Nat → Prop} {w : World} {v : Value}, TyX X w v e → sndT e d = true → withT F e = putT L e := by
  refine Ty.ind fun s n args ih d X w v hv h => ?_
  obtain ⟨a, c, _, _, hn, _, _, hr⟩ := hv.open
  simp only [sndT, sndT_all, Bool.and_eq_true, List.all_eq_true] at h
  obtain ⟨⟨_, hh⟩, ha⟩ := h
  have hargs : ∀ e ∈ args, withT F e = putT L e := by
    intro e he
    obtain ⟨j, hj, rfl⟩ := List.getElem_of_mem he
    obtain ⟨b, off, _, hat⟩ := hr.arg (by rintro rfl; simp at hj)
    obtain ⟨_, _, _, _, _, ge⟩ := hat j hj
    exact ih _ he _ ge (ha _ he)
  rw [withT, putT, withL_map, putL_map, List.map_congr_left hargs, hF n hn]
  unfold headT at hh
  simp only [Bool.and_eq_true] at hh
  cases hs : holeS s
  · have h0 : ¬ s.size = 0 := by rw [holeS_size] at hs; simpa using hs
    rw [if_neg h0] at hh
    rw [if_neg (by simp), if_neg (by simp)]
    have : n = 0 := by simpa using hh.2
    rw [this]
  · have h0 : s.size = 0 := by rw [holeS_size] at hs; simpa using hs
    rw [if_pos h0] at hh
    have hl : args = [] := by
      have := hh.2
      simp only [Bool.and_eq_true, decide_eq_true_eq] at this
      exact List.length_eq_zero_iff.1 this.2
    subst hl
    have hs' := str_nil hs
    subst hs'
    cases fa? L n with
    | some x => simp
    | none => simp

set_option maxHeartbeats 4000000 in
set_option maxRecDepth 100000 in
theorem ty_Canon (e : Ty) (v : Value) (w : World) (hv : IsTy w v e) : Calls Tryd.prog 18 #[v] w fun r w' => ∃ u, r = .returned u ∧ IsTy w' u (canonT e) ∧ Below w.heap.size w w' := by
  obtain ⟨s, n, l⟩ := e
  obtain ⟨a1, c1, rfl, _, hn, hs, hl, _⟩ := hv.open
  have h64 := Lib.hid (holes_in64 (.mk s n l) [] hv (by simp))
  obtain ⟨W1, hW1⟩ : ∃ W, ((w.alloc (.cells #[.string s, .int .i64 n, .slice a1 l.length c1] 24)).alloc (.cells #[.string ⟨#[]⟩, .int .i64 0, .slice none 0 0] 24)) = W := ⟨_, rfl⟩
  have hz1 : W1.heap.size = w.heap.size + 2 := by rw [← hW1]; simp
  have hb1 : Below w.heap.size w W1 := by rw [← hW1]; exact ((Below.refl _ w).alloc (Nat.le_refl _) _).alloc (by simp) _
  have hcells' : Hid (∀ V, Below (w.heap.size + 1) W1 V → V.cell? ⟨w.heap.size, 0, none⟩ = some (.string s) ∧ V.cell? ⟨w.heap.size, 1, none⟩ = some (.int .i64 n) ∧ V.cell? ⟨w.heap.size, 2, none⟩ = some (.slice a1 l.length c1)) := by
    intro V hV
    have g1 : Below (w.heap.size + 1) (w.alloc (.cells #[.string s, .int .i64 n, .slice a1 l.length c1] 24)) W1 := by rw [← hW1]; exact (Below.refl _ _).alloc (by simp) _
    exact box3 (g1.trans hV)
  have hres' : Hid (∀ U, Below (w.heap.size + 2) W1 U → U.heap[w.heap.size + 1]? = some (.cells #[.string ⟨#[]⟩, .int .i64 0, .slice none 0 0] 24 (0, 0))) := by
    intro U hU
    rw [← hW1] at hU
    exact new_block2 hU
  have hW1' := Lib.hid hW1
  have hb1' := Lib.hid hb1
  have hv0 := Lib.hid hv
  obtain ⟨k0, k1, k2⟩ := hcells'.out W1 (Below.refl _ _)
  clear hW1
  have hc := Lib.hid (ty_Check (.mk s n l) _ W1 (hv0.out.below hb1'.out))
  cases hq : chkT (.mk s n l)
  · have hT : Hid (canonT (.mk s n l) = zeroT) := by unfold Hid canonT; rw [if_neg (by rw [hq]; simp)]
    rw [hq] at hc
    clear hq hv
    go_enter Tryd.func18, Tryd.ntmps18
    go_wp2_with fail
    rw [hW1'.out]
    refine hc.out.mono ?_
    rintro e V ⟨rfl, hBV⟩
    have hbr : Below (w.heap.size + 2) W1 V := hBV.mono (by omega)
    have hwV := hb1'.out.trans (hBV.mono (by omega))
    have hrr := Lib.hid (hres'.out V hbr)
    obtain ⟨r0, r1, r2⟩ := cells_of hrr.out
    have rf0 := frozen_of hrr.out 0
    have rf1 := frozen_of hrr.out 1
    have rf2 := frozen_of hrr.out 2
    go_wp2_with fail
    have hU := set_box3 hrr.out (.string ⟨#[]⟩) (.int .i64 0) (.slice none 0 0)
    change bodyPost _ _ _ _ _ (World.box3 V (w.heap.size + 1) (.string ⟨#[]⟩) (.int .i64 0) (.slice none 0 0))
    generalize World.box3 V (w.heap.size + 1) (.string ⟨#[]⟩) (.int .i64 0) (.slice none 0 0) = U at hU ⊢
    obtain ⟨⟨u0, u1, u2⟩, hBU, -, hUk⟩ := hU
    clear r0 r1 r2
    refine bodyPost_ret (results_ty rfl _ _ rfl u0 u1 u2) rfl ?_
    exact ⟨_, rfl, by rw [hT.out]; exact zeroT_is _, hwV.trans (hBU.mono (by omega))⟩
  · have hT : Hid (canonT (.mk s n l) = putT (canonF (holesT (.mk s n l) [])) (.mk s n l)) := by unfold Hid canonT; rw [if_pos hq]
    have hcnt := Lib.hid (chk_cnt hq)
    have hlen : Hid ((holesT (.mk s n l) []).length ≤ 2000) := by
      have := holesT_len (.mk s n l) []
      have := hcnt.out
      unfold Hid; simp at *; omega
    have hnd : Hid ((holesT (.mk s n l) []).Nodup) := by unfold Hid; rw [holes_fold]; exact onceL_nodup _
    have hh := Lib.hid (fun V (hV : Below w.heap.size w V) => ty_Holes (.mk s n l) _ V (hv0.out.below hV))
    have hhc : holesC (.mk s n l) = holesT (.mk s n l) [] := by unfold holesC; rw [if_pos hq]
    rw [hhc] at hh
    have hsnd : sndT (.mk s n l) 60 = true := by simp only [chkT, Bool.and_eq_true] at hq; exact hq.2
    have hwp : Hid (∀ H, withT (fun n => fa? (canonF H) n) (.mk s n l) = putT (canonF H) (.mk s n l)) := fun H => with_put (fun _ _ => rfl) _ 60 hv0.out hsnd
    obtain ⟨H, hH⟩ : ∃ H, holesT (.mk s n l) [] = H := ⟨_, rfl⟩
    rw [hH] at hh hlen h64 hT hnd
    have hlen' := hlen.out
    rw [hq] at hc
    have hmm := @run_makeMap Tryd.prog
    have K : Maps.Keyed Tryd.prog 3 := Maps.int_keyed Tryd.underlying3
    clear hq hv hH hlen hhc hsnd
    go_enter Tryd.func18, Tryd.ntmps18
    go_wp2_with fail
    rw [hW1'.out]
    refine hc.out.mono ?_
    rintro e V ⟨rfl, hBV⟩
    have hbV : Below (w.heap.size + 2) W1 V := hBV.mono (by omega)
    have hwV := Lib.hid (hb1'.out.trans (hbV.mono (by omega)))
    have hvl : w.heap.size + 2 ≤ V.heap.size := by have := hbV.size; omega
    have hvl1 : w.heap.size < V.heap.size := by omega
    clear k0 k1 k2
    obtain ⟨k0, k1, k2⟩ := hcells'.out _ (hbV.mono (by omega))
    have hbm : Below V.heap.size V (V.alloc (.map #[] 0)) := (Below.refl _ V).alloc (Nat.le_refl _) _
    have hbm' := Lib.hid hbm
    have hwm := Lib.hid (hwV.out.trans (hbm.mono (by omega)))
    go_wp2_with fail
    refine (hh.out _ hwm.out).mono ?_
    rintro e V2 ⟨⟨z, rfl, hz⟩, hB2⟩
    obtain ⟨za, zc, rfl⟩ := hz.form
    have hB2V : Below V.heap.size V V2 := hbm'.out.trans (hB2.mono (by simp))
    have hbV2 : Below (w.heap.size + 2) W1 V2 := hbV.trans (hB2V.mono (by omega))
    have hz' := Lib.hid hz
    have hm0 : Hid (MapOf Tryd.prog V2 3 V.heap.size 0 (fun _ => none)) := (MapOf.made Tryd.prog V 3).below (B := V.heap.size + 1) (hB2.mono (by simp)) (by omega)
    have hzV2 : V.heap.size + 1 ≤ V2.heap.size := by have := hB2.size; simpa using this
    clear hz hB2 k0 k1 k2 hmm hbm
    go_wp2_with fail
    go_loopw [4, 5, 14] (fun _ _ i wr => ∃ (k : Nat) (f : Lit → Option Value), k ≤ H.length ∧ i = .int .i64 k ∧ Hid (MapOf Tryd.prog wr 3 V.heap.size k f) ∧ Hid (∀ n, In64 n → (fa? (canonF (H.take k)) n = none ∧ f (keyN n) = none) ∨ ∃ j : Nat, fa? (canonF (H.take k)) n = some (.mk ⟨#[]⟩ j []) ∧ j < 2000 ∧ f (keyN n) = some (.agg #[.string ⟨#[]⟩, .int .i64 j, .slice none 0 0])) ∧ Below V.heap.size V2 wr ∧ Keeps V2 wr) (fun _ _ i _ => H.length - (intOf i).toNat)
    case atStart => exact ⟨0, _, by omega, rfl, hm0, fun n _ => .inl ⟨rfl, rfl⟩, Below.refl _ _, Keeps.of_below (Below.refl _ _)⟩
    case round =>
      obtain ⟨k, f, hk, rfl, hM, hF, hBr, hKr⟩ := hrel
      have hzr := hBr.size
      by_cases h1 : k < H.length
      · obtain ⟨b, off, rfl, hc⟩ := hz'.out.at.2 (by rintro rfl; simp at h1)
        have g0 := hKr _ _ (hc k h1)
        have hin := Lib.hid (h64.out _ (List.getElem_mem h1))
        have hkey := Lib.hid (keyN_of hin.out)
        have hstep := Lib.hid (fun n => canonF_at hnd.out h1 n)
        have hKr' := Lib.hid hKr
        clear hc hKr
        go_wp2_with (at_mapUpdate; refine wpList_put _ rfl _ _ _ 57 rfl 3 24 K Tryd.underlying57 V.heap.size k f rfl hM.out (by unfold maxLen; omega) (.int .i64 H[k]) (.agg #[.string ⟨#[]⟩, .int .i64 k, .slice none 0 0]) (keyN H[k]) rfl rfl hkey.out ?_; intro w5 hM5 hg5)
        go_roundw
        case rel =>
          refine ⟨k + 1, _, by omega, by go_num, hM5, ?_, hBr.grown hg5 (by omega) (fun q e => by cases e; exact Nat.le_refl _), fun a x hx => ?_⟩
          · intro n hn
            by_cases e : n = H[k]
            · refine .inr ⟨k, ?_, by omega, ?_⟩
              · rw [hstep.out, if_pos e]
              · rw [e, updF_same]
            · rcases hF.out n hn with ⟨h2, h3⟩ | ⟨j, h2, h3, h4⟩
              · refine .inl ⟨by rw [hstep.out, if_neg e]; exact h2, ?_⟩
                rw [updF_other (fun h' => e (keyN_inj h'))]; exact h3
              · refine .inr ⟨j, by rw [hstep.out, if_neg e]; exact h2, h3, ?_⟩
                rw [updF_other (fun h' => e (keyN_inj h'))]; exact h4
          · have h2 := hKr'.out a x hx
            refine (World.cell?_of_block (hg5.block a.block (cell_block h2) (fun e => ?_))).trans h2
            have e' : a.block = V.heap.size := by simpa using e
            obtain ⟨_, ⟨es, clock, b1, _⟩, _⟩ := hM.out
            rw [← e'] at b1
            simp [World.cell?, b1] at h2
        case measure => simp [intOf]; omega
      · have e : k = H.length := by omega
        have hbr : Below (w.heap.size + 2) W1 wr := hbV2.trans (hBr.mono (by omega))
        have hwr := Lib.hid (hb1'.out.trans (hbr.mono (by omega)))
        obtain ⟨k0, k1, k2⟩ := hcells'.out _ (hbr.mono (by omega))
        have hput := Lib.hid (ty_with (.mk s n l) _ (fun c => c = w.heap.size + 1) (.map (some V.heap.size)) (fun n => fa? (canonF H) n) wr (TyX.later (KeepsBut.of_below hwr.out) (fun b hb h => by omega) hv0.out)
          (.inr ⟨V.heap.size, k, f, rfl, hM.out, fun n hn => by
            rcases hF.out n hn with ⟨h2, h3⟩ | ⟨j, h2, h3, h4⟩
            · rw [e, List.take_length] at h2; exact .inl ⟨h2, h3⟩
            · rw [e, List.take_length] at h2
              exact .inr ⟨_, _, h2, h4, TyX.shut (l := []) (fun _ => rfl) ⟨by omega, by omega⟩ (show (0 : Nat) ≤ lenMax from Nat.zero_le _) (Nat.zero_le _) (.inl rfl)⟩⟩)
          (fun b h => by have := hbr.size; omega) (by have := hcnt.out; omega))
        clear hF hM e hKr
        go_wp2_with fail
        with_reducible refine hput.out.mono ?_
        rintro e V3 ⟨u, rfl, hu, hB3⟩
        obtain ⟨ua, uc, rfl⟩ := hu.form
        have hu' := Lib.hid hu
        have hbr3 : Below (w.heap.size + 2) W1 V3 := hbr.trans (hB3.mono (by have := hbr.size; omega))
        have hwV3 := Lib.hid (hb1'.out.trans (hbr3.mono (by omega)))
        have hrr := Lib.hid (hres'.out V3 hbr3)
        obtain ⟨r0, r1, r2⟩ := cells_of hrr.out
        have rf0 := frozen_of hrr.out 0
        have rf1 := frozen_of hrr.out 1
        have rf2 := frozen_of hrr.out 2
        clear hu
        generalize (withT (fun n => fa? (canonF H) n) (.mk s n l)).name = us at hu' ⊢
        generalize (withT (fun n => fa? (canonF H) n) (.mk s n l)).n = un at hu' ⊢
        generalize (withT (fun n => fa? (canonF H) n) (.mk s n l)).args.length = um at hu' ⊢
        go_wp2_with fail
        have hU := set_box3 hrr.out (.string us) (.int .i64 un) (.slice ua um uc)
        change bodyPost _ _ _ _ _ (World.box3 V3 (w.heap.size + 1) (.string us) (.int .i64 un) (.slice ua um uc))
        generalize World.box3 V3 (w.heap.size + 1) (.string us) (.int .i64 un) (.slice ua um uc) = U at hU ⊢
        obtain ⟨⟨u0, u1, u2⟩, hBU, -, hUk⟩ := hU
        clear r0 r1 r2
        refine bodyPost_ret (results_ty rfl _ _ rfl u0 u1 u2) rfl ?_
        refine ⟨_, rfl, ?_, hwV3.out.trans (hBU.mono (by omega))⟩
        rw [hT.out, ← hwp.out]
        exact ty_kept (X := fun _ => False) (hu'.out.less fun b hb => hb.elim (fun h => h.elim) id) hUk
end Go.Proofs.YticjpeefhppjoaaDoor
