/- A type with facts in places, by the reference, walked. -/
import Derived.Test.YticjpeefhppjoaaDoorTyP
import Derived.Test.YticjpeefhppjoaaDoorTyW
namespace Go.Proofs.YticjpeefhppjoaaDoor
open Go.RowKit

set_option maxHeartbeats 4000000 in
set_option maxRecDepth 100000 in
theorem r08_put (L : List Fa) : ∀ (e : Ty) (v : Value) (X : Nat → Prop) (aL : Option Addr) (cL : Nat) (w : World), TyX X w v e → FaRow X w aL L → L.length ≤ lenMax → (∀ b, X b → b < w.heap.size) → tcnt e ≤ 100000 →
    Calls Tryd.prog 37 #[.slice aL L.length cL, v] w fun r w' => ∃ u, r = .returned u ∧ TyX X w' u (putT L e) ∧ Below w.heap.size w w' := by
  refine Ty.ind fun s n l ih v X aL cL w hv hm hLl hX hcnt => ?_
  have hlc : l.length ≤ 100000 := by have := tcntL_len l; simp only [tcnt] at hcnt; omega
  have hcn : Hid (∀ e ∈ l, tcnt e ≤ 100000) := fun e he => by have := tcntL_mem he; simp only [tcnt] at hcnt; omega
  clear hcnt
  obtain ⟨a1, c1, rfl, hc, hn, hs, hl, hr⟩ := hv.open
  have hs' := Lib.hid hs
  have hl' := Lib.hid hl
  have hLl' := Lib.hid hLl
  unfold lenMax at hl hs hLl
  obtain ⟨W1, hW1⟩ : ∃ W, ((w.alloc (.cells #[.string s, .int .i64 n, .slice a1 l.length c1] 24)).alloc (.cells #[.string ⟨#[]⟩, .int .i64 0, .slice none 0 0] 24)) = W := ⟨_, rfl⟩
  have hz1 : W1.heap.size = w.heap.size + 2 := by rw [← hW1]; simp
  have hb1 : Below w.heap.size w W1 := by rw [← hW1]; exact ((Below.refl _ w).alloc (Nat.le_refl _) _).alloc (by simp) _
  have hcells : ∀ V, Below (w.heap.size + 1) W1 V → V.cell? ⟨w.heap.size, 0, none⟩ = some (.string s) ∧ V.cell? ⟨w.heap.size, 1, none⟩ = some (.int .i64 n) ∧ V.cell? ⟨w.heap.size, 2, none⟩ = some (.slice a1 l.length c1) := by
    intro V hV
    have g1 : Below (w.heap.size + 1) (w.alloc (.cells #[.string s, .int .i64 n, .slice a1 l.length c1] 24)) W1 := by rw [← hW1]; exact (Below.refl _ _).alloc (by simp) _
    exact box3 (g1.trans hV)
  obtain ⟨k0, k1, k2⟩ := hcells W1 (Below.refl _ _)
  have hH : Hid (∀ V : World, Calls Tryd.prog 52 #[.agg #[.string s, .int .i64 n, .slice a1 l.length c1]] V fun r V' => r = .returned (.bool (holeS s)) ∧ Below V.heap.size V V') := fun V => r08_hole s n a1 l.length c1 V
  have hm' := Lib.hid hm
  have hr' := Lib.hid hr
  have ih' := Lib.hid ih
  have hX' := Lib.hid hX
  have hW1' := Lib.hid hW1
  have hb1' := Lib.hid hb1
  have hcells' := Lib.hid hcells
  have hres' : Hid (∀ U, Below (w.heap.size + 2) W1 U → U.heap[w.heap.size + 1]? = some (.cells #[.string ⟨#[]⟩, .int .i64 0, .slice none 0 0] 24 (0, 0))) := by
    intro U hU
    rw [← hW1'.out] at hU
    exact new_block2 hU
  clear hv hm hr ih hX hW1 hb1 hcells
  go_enter Tryd.func37, Tryd.ntmps37
  go_wp2_with fail
  rw [hW1'.out]
  refine (hH.out _).mono ?_
  rintro r V ⟨rfl, hBV⟩
  have hbV : Below W1.heap.size W1 V := hBV
  obtain ⟨k0, k1, k2⟩ := hcells'.out _ (hbV.mono (by omega))
  have hrV := Lib.hid (hres'.out V (hbV.mono (by omega)))
  obtain ⟨r0, r1, r2⟩ := cells_of hrV.out
  have rf0 := frozen_of hrV.out 0
  have rf1 := frozen_of hrV.out 1
  have rf2 := frozen_of hrV.out 2
  have hwV := Lib.hid (hb1'.out.trans (hbV.mono (by omega)))
  have hzV : W1.heap.size ≤ V.heap.size := hbV.size
  have hvl : w.heap.size < V.heap.size := by omega
  cases hhs : holeS s
  · have hcont : Hid (putT L (.mk s n l) = .mk s 0 (l.map (putT L))) := by
      unfold Hid
      rw [putT, if_neg (by rw [hhs]; simp), putL_map]
    have hhs' := Lib.hid hhs
    have x0 : True := trivial
    have x1 : True := trivial
    have x2 : True := trivial
    go_wp2_with fail
    go_loopw [7] (fun i wr => ∃ (k : Nat) (vv : Value) (es : List Ty), k ≤ l.length ∧ i = .int .i64 k ∧ Hid (es = (l.take k).map (putT L)) ∧ Hid (OutIs (fun b => X b ∨ b = w.heap.size + 1) wr V.heap.size s 0 vv k es) ∧ Below V.heap.size V wr) (fun i _ => l.length - (intOf i).toNat)
    case atStart => exact ⟨0, _, [], by omega, rfl, rfl, OutIs.new rfl, (Below.refl _ _).alloc (Nat.le_refl _) _⟩
    case round =>
      clear k0 k1 k2 x0 x1 x2 r0 r1 r2 rf0 rf1 rf2
      obtain ⟨k, vv, es, hk, rfl, hes, hO, hBr⟩ := hrel
      obtain ⟨va, vc, rfl, hvn⟩ := hO.out.form
      have hlt := hO.out.lt
      have hwr := hwV.out.trans (hBr.mono (by omega))
      have hbr : Below (w.heap.size + 1) W1 wr := (hbV.mono (by omega)).trans (hBr.mono (by omega))
      obtain ⟨k0, k1, k2⟩ := hcells'.out _ hbr
      have hwl : w.heap.size < wr.heap.size := by have := hBr.size; omega
      by_cases h1 : k < l.length
      · obtain ⟨b, off, rfl, harg⟩ := hr'.out.arg (by rintro rfl; simp at h1)
        obtain ⟨a2, c2, g0, g1, g2, ge⟩ := harg k h1
        have hK : Keeps w wr := Keeps.of_below hwr
        replace g0 := hK _ _ g0
        replace g1 := hK _ _ g1
        replace g2 := hK _ _ g2
        obtain ⟨hc0, hc1, hc2, hcf⟩ := hO.out.cells
        obtain ⟨hblk, cs, hesl, hown, hcs⟩ := hO.out
        have hown' := Lib.hid hown
        have hcs' := Lib.hid hcs
        have hesl' := Lib.hid hesl
        have hout : Hid (∀ b, b < w.heap.size → ((X b ∨ b = w.heap.size + 1) ∨ b = V.heap.size ∨ (Value.slice va k vc).ownBlock = some b) → X b) := by
          rintro b hb ((h | h) | h | h)
          · exact h
          · omega
          · omega
          · have := (hO.out.own h).1; omega
        have hXw : Hid (∀ W : World, wr.heap.size ≤ W.heap.size → ∀ b, ((X b ∨ b = w.heap.size + 1) ∨ b = V.heap.size ∨ (Value.slice va k vc).ownBlock = some b) → b < W.heap.size) := by
          rintro W hW b ((h | h) | h | h)
          · have := hX'.out b h; have := hwr.size; omega
          · omega
          · omega
          · have := (hO.out.own h).2; omega
        have hb1 : Hid (Below wr.heap.size wr wr) := Below.refl _ _
        have hki : (k : Int) < (l.length : Int) := by omega
        have hcall : Hid (∀ W, Below wr.heap.size wr W → Calls Tryd.prog 37 #[.slice aL L.length cL, .agg #[.string l[k].name, .int .i64 l[k].n, .slice a2 l[k].args.length c2]] W fun r w' => ∃ us un ua um uc, r = .returned (.agg #[.string us, .int .i64 un, .slice ua um uc]) ∧ TyX (fun b => (X b ∨ b = w.heap.size + 1) ∨ b = V.heap.size ∨ (Value.slice va k vc).ownBlock = some b) w' (.agg #[.string us, .int .i64 un, .slice ua um uc]) (putT L l[k]) ∧ Below W.heap.size W w') := by
          intro W hW
          have hwW := hwr.trans (hW.mono (by have := hwr.size; omega))
          refine (ih'.out _ (List.getElem_mem h1) _ _ aL cL W (TyX.later (KeepsBut.of_below hwW) hout.out ge) (FaRow.later (KeepsBut.of_below hwW) hout.out hm'.out) hLl'.out (hXw.out W hW.size) (hcn.out _ (List.getElem_mem h1))).mono ?_
          rintro r w' ⟨u, rfl, hu, hB⟩
          obtain ⟨a, c, rfl⟩ := hu.form
          exact ⟨_, _, _, _, _, rfl, hu, hB⟩
        have ta := Tryd.isAgg24
        obtain ⟨i0, hi, hz0, hz1', hz2'⟩ := info_of Tryd.infoTy
        clear harg ge hown hcs hesl hblk hK
        go_wp2_with fail
        go_region_law (first | (refine step_append_lies _ (by rfl) _ _ _ (by rfl) (V.heap.size + 1) 24 i0 (.agg #[.string ⟨#[]⟩, .int .i64 0, .slice none 0 0]) 3 48 Tryd.underlying22 hi hz0 hz1' hz2' rfl (by omega) (.slice va k vc) _ _ (by rfl) ((ownsRow_heap hown'.out (fun g hg => hbw1.block g (ownBlock_ge hown'.out hg).2)).alloc _) ⟨w1.heap.size, 0, none⟩ 1 1 [.string us, .int .i64 un, .slice ua um uc] (by rfl) (by rfl) (cell_three_new _ _ _ _ _) (by simp [Value.oneCell']) (by omega) (by unfold maxLen; omega) (by omega) (by simp; have := hbw1.size; omega) (w1.heap.size + 1) (by simp) ?_; intro gg cap w2 hown2 hg2 hat hlt2; have hba := hbw1.alloc hbw1.size (.cells #[.string us, .int .i64 un, .slice ua um uc] 24); obtain ⟨hc2', hf2'⟩ := hO.out.mid hba hg2; have hst := Lib.hid (hO.out.step hba (TyX.below hu'.out ((Below.refl _ _).alloc (Nat.le_refl _) _)) hg2 hesl'.out hown'.out hcs'.out hown2 (hat.imp (fun e => e.symm) (fun e g hg => by simp [Value.ownBlock] at hg; simp; omega))); clear hown2 hg2 hat hlt2) | (go_simp; go_at_call 37; refine (hcall.out _ hb1.out.drew).mono ?_; rintro e w1 ⟨us, un, ua, um, uc, rfl, hu, hB1⟩; have hbw1 := hb1.out.drew.trans (hB1.mono hb1.out.drew.size); have j0 := Keeps.of_below hbw1 _ _ hc2; have hzw1 : V.heap.size < w1.heap.size := cell_block j0; have hu' := Lib.hid hu; clear hB1 hu))
        all_goals
          go_wp2_with fail
          go_roundw
          case rel => exact ⟨k + 1, _, es ++ [putT L l[k]], by omega, by go_num, by unfold Hid; rw [hes.out, List.take_succ_eq_append_getElem h1, List.map_append, List.map_cons, List.map_nil], hst.out.1, hBr.trans hst.out.2.1⟩
          case measure => simp [intOf]; omega
      · have e : k = l.length := by omega
        obtain ⟨hc0, hc1, hc2, hcf⟩ := hO.out.cells
        have hdone := Lib.hid (hO.out.done (fun b hb => by
          rcases hb with hb | hb
          · have := hX'.out b hb; omega
          · omega) hs'.out (by have := hl'.out; unfold lenMax at this ⊢; omega) ⟨by omega, by omega⟩)
        have hes2 : Hid (es = l.map (putT L)) := by unfold Hid; rw [hes.out, e, List.take_length]
        have hrr := Lib.hid (hres'.out wr ((hbV.mono (by omega)).trans (hBr.mono (by omega))))
        obtain ⟨r0, r1, r2⟩ := cells_of hrr.out
        have rf0 := frozen_of hrr.out 0
        have rf1 := frozen_of hrr.out 1
        have rf2 := frozen_of hrr.out 2
        clear e
        go_wp2_with fail
        have hU := set_box3 hrr.out (.string s) (.int .i64 0) (.slice va k vc)
        change bodyPost _ _ _ _ _ (World.box3 wr (w.heap.size + 1) (.string s) (.int .i64 0) (.slice va k vc))
        generalize World.box3 wr (w.heap.size + 1) (.string s) (.int .i64 0) (.slice va k vc) = U at hU ⊢
        obtain ⟨⟨u0, u1, u2⟩, hBU, -, hUk⟩ := hU
        clear r0 r1 r2 hc0 hc1 hc2
        refine bodyPost_ret (results_ty rfl _ _ rfl u0 u1 u2) rfl ?_
        refine ⟨_, rfl, ?_, hwr.trans (hBU.mono (by omega))⟩
        rw [hcont.out, ← hes2.out]
        exact TyX.later (hUk.wider fun c hc => .inr hc) (fun c _ hc => .inl hc) hdone.out
  · have hfact := Lib.hid (r08_fact X L aL cL n V hLl'.out (FaRow.keeps (Keeps.of_below hwV.out) hm'.out))
    have hhs' := Lib.hid hhs
    clear hhs
    go_wp2_with fail
    refine hfact.out.mono ?_
    rintro r V2 ⟨⟨i, rfl, hi⟩, hB2⟩
    have hbV2 : Below W1.heap.size W1 V2 := hbV.trans (hB2.mono hbV.size)
    clear k0 k1 k2 r0 r1 r2 rf0 rf1 rf2 hrV
    obtain ⟨k0, k1, k2⟩ := hcells'.out _ (hbV2.mono (by omega))
    have hrV := Lib.hid (hres'.out V2 (hbV2.mono (by omega)))
    obtain ⟨r0, r1, r2⟩ := cells_of hrV.out
    have rf0 := frozen_of hrV.out 0
    have rf1 := frozen_of hrV.out 1
    have rf2 := frozen_of hrV.out 2
    have hwV2 := Lib.hid (hb1'.out.trans (hbV2.mono (by omega)))
    rcases hi with ⟨rfl, hf⟩ | ⟨j, hj, rfl, hf⟩
    · have hput : Hid (putT L (.mk s n l) = .mk ⟨#[]⟩ n []) := by unfold Hid; rw [putT, if_pos hhs'.out, hf]; rfl
      clear hf
      go_wp2_with fail
      have hU := set_box3 hrV.out (.string ⟨#[]⟩) (.int .i64 n) (.slice none 0 0)
      change bodyPost _ _ _ _ _ (World.box3 V2 (w.heap.size + 1) (.string ⟨#[]⟩) (.int .i64 n) (.slice none 0 0))
      generalize World.box3 V2 (w.heap.size + 1) (.string ⟨#[]⟩) (.int .i64 n) (.slice none 0 0) = U at hU ⊢
      obtain ⟨⟨u0, u1, u2⟩, hBU, -, -⟩ := hU
      clear r0 r1 r2
      refine bodyPost_ret (results_ty rfl _ _ rfl u0 u1 u2) rfl ?_
      refine ⟨_, rfl, ?_, hwV2.out.trans (hBU.mono (by omega))⟩
      rw [hput.out]
      exact TyX.shut (l := []) (fun _ => rfl) hn (show (0 : Nat) ≤ lenMax from Nat.zero_le _) (Nat.zero_le _) (.inl rfl)
    · obtain ⟨b, off, rfl, hat⟩ := hm'.out.at (by rintro rfl; simp at hj)
      obtain ⟨a2, c2, g0, g1, g2, g3, ge, _⟩ := hat j hj
      have hK : Keeps w V2 := Keeps.of_below hwV2.out
      replace g0 := hK _ _ g0
      replace g1 := hK _ _ g1
      replace g2 := hK _ _ g2
      replace g3 := hK _ _ g3
      have hji : (j : Int) < (L.length : Int) := by omega
      have hput : Hid (putT L (.mk s n l) = L[j].ty) := by unfold Hid; rw [putT, if_pos hhs'.out, hf]; rfl
      have hge := Lib.hid ge
      clear hf hat ge hK
      go_wp2_with fail
      have hU := set_box3 hrV.out (.string L[j].ty.name) (.int .i64 L[j].ty.n) (.slice a2 L[j].ty.args.length c2)
      change bodyPost _ _ _ _ _ (World.box3 V2 (w.heap.size + 1) (.string L[j].ty.name) (.int .i64 L[j].ty.n) (.slice a2 L[j].ty.args.length c2))
      generalize World.box3 V2 (w.heap.size + 1) (.string L[j].ty.name) (.int .i64 L[j].ty.n) (.slice a2 L[j].ty.args.length c2) = U at hU ⊢
      obtain ⟨⟨u0, u1, u2⟩, hBU, -, -⟩ := hU
      clear r0 r1 r2
      have hwU := hwV2.out.trans (hBU.mono (by omega))
      have hge2 := TyX.below hge.out hwU
      refine bodyPost_ret (results_ty rfl _ _ rfl u0 u1 u2) rfl ?_
      refine ⟨_, rfl, ?_, hwU⟩
      rw [hput.out]
      exact hge2
end Go.Proofs.YticjpeefhppjoaaDoor
