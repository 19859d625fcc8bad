/- A type with what holes are in their places, walked. -/
import Derived.Test.YticjpeefhppjoaaDoorTyM
namespace Go.Proofs.YticjpeefhppjoaaDoor
open Go.RowKit

theorem box33 {w V : World} {x0 x1 x2 y0 y1 y2 : Value} {t u : TypeId} (h : Below (w.heap.size + 2) ((w.alloc (.cells #[x0, x1, x2] t)).alloc (.cells #[y0, y1, y2] u)) V) : V.cell? ⟨w.heap.size, 0, none⟩ = some x0 ∧ V.cell? ⟨w.heap.size, 1, none⟩ = some x1 ∧ V.cell? ⟨w.heap.size, 2, none⟩ = some x2 ∧ V.cell? ⟨w.heap.size + 1, 0, none⟩ = some y0 ∧ V.cell? ⟨w.heap.size + 1, 1, none⟩ = some y1 ∧ V.cell? ⟨w.heap.size + 1, 2, none⟩ = some y2 := by
  have g1 : Below (w.heap.size + 1) (w.alloc (.cells #[x0, x1, x2] t)) ((w.alloc (.cells #[x0, x1, x2] t)).alloc (.cells #[y0, y1, y2] u)) := (Below.refl _ _).alloc (by simp) _
  have hA := g1.trans (h.mono (by omega))
  have hB : Below ((w.alloc (.cells #[x0, x1, x2] t)).heap.size + 1) ((w.alloc (.cells #[x0, x1, x2] t)).alloc (.cells #[y0, y1, y2] u)) V := h.mono (by simp)
  have z1 : (w.alloc (.cells #[x0, x1, x2] t)).heap.size = w.heap.size + 1 := by simp
  obtain ⟨q0, q1, q2⟩ := box3 hA
  obtain ⟨q3, q4, q5⟩ := box3 hB
  rw [z1] at q3 q4 q5
  exact ⟨q0, q1, q2, q3, q4, q5⟩
theorem new_block {w U : World} {t : TypeId} {vs : Array Value} (h : Below (w.heap.size + 1) (w.alloc (.cells vs t)) U) : U.heap[w.heap.size]? = some (.cells vs t (0, 0)) := by
  rw [h.block _ (by omega)]; simp only [World.alloc]; simp
theorem new_block2 {w U : World} {o : Obj} {t : TypeId} {vs : Array Value} (h : Below (w.heap.size + 2) ((w.alloc o).alloc (.cells vs t)) U) : U.heap[w.heap.size + 1]? = some (.cells vs t (0, 0)) := by
  have z1 : (w.alloc o).heap.size = w.heap.size + 1 := by simp
  have := new_block (w := w.alloc o) (U := U) (vs := vs) (t := t) (by rw [z1]; exact h)
  rwa [z1] at this
theorem cells_of {U : World} {b : Nat} {x y z : Value} {t : TypeId} (h : U.heap[b]? = some (.cells #[x, y, z] t (0, 0))) : U.cell? ⟨b, 0, none⟩ = some x ∧ U.cell? ⟨b, 1, none⟩ = some y ∧ U.cell? ⟨b, 2, none⟩ = some z := by
  simp [World.cell?, h]
theorem frozen_of {U : World} {b : Nat} {vs : Array Value} {t : TypeId} (h : U.heap[b]? = some (.cells vs t (0, 0))) (o : Nat) : U.frozen? ⟨b, o, none⟩ = false := by
  simp [World.frozen?, h]
/-- A struct's box, written anew. -/
def World.box3 (w : World) (b : Nat) (x y z : Value) : World := ((w.setCell ⟨b, 0, none⟩ x).setCell ⟨b, 1, none⟩ y).setCell ⟨b, 2, none⟩ z
theorem set_box3 {V : World} {b : Nat} {x0 x1 x2 : Value} {t : TypeId} (h : V.heap[b]? = some (.cells #[x0, x1, x2] t (0, 0))) (x y z : Value) :
    ((World.box3 V b x y z).cell? ⟨b, 0, none⟩ = some x ∧ (World.box3 V b x y z).cell? ⟨b, 1, none⟩ = some y ∧ (World.box3 V b x y z).cell? ⟨b, 2, none⟩ = some z) ∧ Below b V (World.box3 V b x y z) ∧ (World.box3 V b x y z).heap.size = V.heap.size ∧ KeepsBut (fun c => c = b) V (World.box3 V b x y z) := by
  have h2 : (World.box3 V b x y z).heap[b]? = some (.cells #[x, y, z] t (0, 0)) := by
    simp [World.box3, World.setCell, Array.getElem?_modify, h]
  refine ⟨⟨?_, ?_, ?_⟩, ?_, ?_, ⟨by simp [World.box3, World.setCell], fun a v hx hv => ?_⟩⟩
  · simp [World.cell?, h2]
  · simp [World.cell?, h2]
  · simp [World.cell?, h2]
  · exact (((Below.refl b V).setCell (Nat.le_refl _) _).setCell (Nat.le_refl _) _).setCell (Nat.le_refl _) _
  · simp [World.box3, World.setCell]
  · rw [World.cell?_of_block (show (World.box3 V b x y z).heap[a.block]? = V.heap[a.block]? from ?_)]
    · exact hv
    · unfold World.box3
      rw [Below.heap_setCell _ _ _ _ (fun e => hx e), Below.heap_setCell _ _ _ _ (fun e => hx e), Below.heap_setCell _ _ _ _ (fun e => hx e)]
theorem Below.keepsBut {b : Nat} {V U : World} (h : Below b V U) : KeepsBut (fun c => b ≤ c) V U := ⟨h.size, fun a v hx hv => by
  rw [World.cell?_of_block (h.block a.block (by omega))]; exact hv⟩

set_option maxHeartbeats 4000000 in
set_option maxRecDepth 100000 in
theorem ty_with : ∀ (e : Ty) (v : Value) (X : Nat → Prop) (mv : Value) (F : Int → Option Ty) (w : World), TyX X w v e → MapX X w mv F → (∀ b, X b → b < w.heap.size) → tcnt e ≤ 100000 →
    Calls Tryd.prog 36 #[mv, v] w fun r w' => ∃ u, r = .returned u ∧ TyX X w' u (withT F e) ∧ Below w.heap.size w w' := by
  refine Ty.ind fun s n l ih v X mv F w hv hm hX hcnt => ?_
  have hlc : l.length ≤ 100000 := by have := tcntL_len l; simp only [tcnt] at hcnt; omega
  have hcn : Hid (∀ e ∈ l, tcnt e ≤ 100000) := fun e he => by have := tcntL_mem he; simp only [tcnt] at hcnt; omega
  clear hcnt
  obtain ⟨a1, c1, rfl, hc, hn, hs, hl, hr⟩ := hv.open
  have hs' := Lib.hid hs
  have hl' := Lib.hid hl
  unfold lenMax at hl hs
  obtain ⟨W1, hW1⟩ : ∃ W, ((w.alloc (.cells #[.string s, .int .i64 n, .slice a1 l.length c1] 24)).alloc (.cells #[.string ⟨#[]⟩, .int .i64 0, .slice none 0 0] 24)) = W := ⟨_, rfl⟩
  have hz1 : W1.heap.size = w.heap.size + 2 := by rw [← hW1]; simp
  have hb1 : Below w.heap.size w W1 := by rw [← hW1]; exact ((Below.refl _ w).alloc (Nat.le_refl _) _).alloc (by simp) _
  have hcells : ∀ V, Below (w.heap.size + 1) W1 V → V.cell? ⟨w.heap.size, 0, none⟩ = some (.string s) ∧ V.cell? ⟨w.heap.size, 1, none⟩ = some (.int .i64 n) ∧ V.cell? ⟨w.heap.size, 2, none⟩ = some (.slice a1 l.length c1) := by
    intro V hV
    have g1 : Below (w.heap.size + 1) (w.alloc (.cells #[.string s, .int .i64 n, .slice a1 l.length c1] 24)) W1 := by rw [← hW1]; exact (Below.refl _ _).alloc (by simp) _
    exact box3 (g1.trans hV)
  have hlk := hm.look hb1 (n := n) hn
  obtain ⟨k0, k1, k2⟩ := hcells W1 (Below.refl _ _)
  have hH : Hid (∀ V : World, Calls Tryd.prog 54 #[.agg #[.string s, .int .i64 n, .slice a1 l.length c1]] V fun r V' => r = .returned (.bool (holeS s)) ∧ Below V.heap.size V V') := fun V => ty_hole s n a1 l.length c1 V
  have hm' := Lib.hid hm
  have hr' := Lib.hid hr
  have ih' := Lib.hid ih
  have hX' := Lib.hid hX
  have hW1' := Lib.hid hW1
  have hb1' := Lib.hid hb1
  have hcells' := Lib.hid hcells
  clear hv hm hr ih hX hW1 hb1 hcells
  have hlk2 : ∃ (fb : Bool) (ys : Str) (yn : Int) (ya : Option Addr) (ym yc : Nat), (Instr.lookup 57 mv (.int .i64 n) true).run Tryd.prog W1 = .ok (.tuple #[.agg #[.string ys, .int .i64 yn, .slice ya ym yc], .bool fb]) W1 ∧ Hid ((fb = false ∧ F n = none) ∨ (fb = true ∧ ∃ e, F n = some e ∧ TyX X w (.agg #[.string ys, .int .i64 yn, .slice ya ym yc]) e)) := by
    rcases hlk with ⟨hF, hlk⟩ | ⟨e, x, hF, hx, hlk⟩
    · exact ⟨false, _, _, _, _, _, hlk, .inl ⟨rfl, hF⟩⟩
    · obtain ⟨a, c, rfl⟩ := hx.form
      exact ⟨true, _, _, _, _, _, hlk, .inr ⟨rfl, e, hF, hx⟩⟩
  obtain ⟨fb, ys, yn, ya, ym, yc, hlk2, hfb⟩ := hlk2
  clear hlk
  rw [← hW1'.out] at hlk2
  go_enter Tryd.func36, Tryd.ntmps36
  go_wp2_with fail
  rw [hW1'.out] at hlk2 ⊢
  obtain ⟨W2, hW2⟩ : ∃ W, W1.alloc (.cells #[.string ys, .int .i64 yn, .slice ya ym yc] 24) = W := ⟨_, rfl⟩
  rw [hW2]
  refine (hH.out _).mono ?_
  rintro r V ⟨rfl, hBV⟩
  have hb2 : Below W1.heap.size W1 W2 := by rw [← hW2]; exact (Below.refl _ _).alloc (Nat.le_refl _) _
  have hz2 : W2.heap.size = w.heap.size + 3 := by rw [← hW2]; simp; omega
  have hbV : Below W1.heap.size W1 V := hb2.trans (hBV.mono (by omega))
  obtain ⟨k0, k1, k2⟩ := hcells'.out _ (hbV.mono (by omega))
  have hx3 : V.cell? ⟨w.heap.size + 1 + 1, 0, none⟩ = some (.string ys) ∧ V.cell? ⟨w.heap.size + 1 + 1, 1, none⟩ = some (.int .i64 yn) ∧ V.cell? ⟨w.heap.size + 1 + 1, 2, none⟩ = some (.slice ya ym yc) := by
    have := box3 (w := W1) (wr := V) (v0 := .string ys) (v1 := .int .i64 yn) (v2 := .slice ya ym yc) (t := 24) (by rw [hW2]; exact hBV.mono (by omega))
    rw [hz1] at this
    exact this
  obtain ⟨x0, x1, x2⟩ := hx3
  have hres : ∀ U, Below (w.heap.size + 2) W1 U → U.heap[w.heap.size + 1]? = some (.cells #[.string ⟨#[]⟩, .int .i64 0, .slice none 0 0] 24 (0, 0)) := by
    intro U hU
    rw [← hW1'.out] at hU
    exact new_block2 hU
  have hres' := Lib.hid hres
  clear hres
  have hrV := Lib.hid (hres'.out V (hbV.mono (by omega)))
  obtain ⟨r0, r1, r2⟩ := cells_of hrV.out
  have rf0 := frozen_of hrV.out 0
  have rf1 := frozen_of hrV.out 1
  have rf2 := frozen_of hrV.out 2
  have hwV := Lib.hid (hb1'.out.trans (hbV.mono (by omega)))
  have hzV : W1.heap.size ≤ V.heap.size := hbV.size
  by_cases hq : holeS s = true ∧ fb = true
  · obtain ⟨hhs, rfl⟩ := hq
    have hhs' := Lib.hid hhs
    clear hhs
    go_wp2_with fail
    have hU := set_box3 hrV.out (.string ys) (.int .i64 yn) (.slice ya ym yc)
    change bodyPost _ _ _ _ _ (World.box3 V (w.heap.size + 1) (.string ys) (.int .i64 yn) (.slice ya ym yc))
    generalize World.box3 V (w.heap.size + 1) (.string ys) (.int .i64 yn) (.slice ya ym yc) = U at hU ⊢
    obtain ⟨⟨u0, u1, u2⟩, hBU, -, -⟩ := hU
    clear r0 r1 r2
    have hwU := hwV.out.trans (hBU.mono (by omega))
    obtain ⟨e, hF, hx⟩ : ∃ e, F n = some e ∧ TyX X w (.agg #[.string ys, .int .i64 yn, .slice ya ym yc]) e := by
      rcases hfb.out with ⟨h, _⟩ | ⟨_, h⟩
      · cases h
      · exact h
    have hx' := Lib.hid (TyX.below hx hwU)
    have hw : Hid (withT F (.mk s n l) = e) := by unfold Hid; rw [withT, if_pos ⟨hhs'.out, by rw [hF]; rfl⟩, hF]; rfl
    clear hx
    refine bodyPost_ret (results_ty rfl _ _ rfl u0 u1 u2) rfl ?_
    refine ⟨_, rfl, ?_, hwU⟩
    rw [hw.out]
    exact hx'.out
  · have hq2 : holeS s = false ∨ (holeS s = true ∧ fb = false) := by
      cases h : holeS s
      · exact .inl rfl
      · refine .inr ⟨rfl, ?_⟩
        cases fb
        · rfl
        · exact (hq ⟨h, rfl⟩).elim
    have hcont : Hid (withT F (.mk s n l) = .mk s n (l.map (withT F))) := by
      unfold Hid
      rw [withT, if_neg, withL_map]
      rintro ⟨h1, h2⟩
      rcases hfb.out with ⟨_, h⟩ | ⟨h, _⟩
      · rw [h] at h2; simp at h2
      · exact hq ⟨h1, h⟩
    have hzV' : w.heap.size + 3 ≤ V.heap.size := by have := hBV.size; omega
    have hvl : w.heap.size < V.heap.size := by omega
    clear hq hfb
    rcases hq2 with hhs | ⟨hhs, rfl⟩
    all_goals
      have hhs' := Lib.hid hhs
      go_wp2_with fail
      go_loopw [31] (fun i wr => ∃ (k : Nat) (vv : Value) (es : List Ty), k ≤ l.length ∧ i = .int .i64 k ∧ Hid (es = (l.take k).map (withT F)) ∧ Hid (OutIs (fun b => X b ∨ b = w.heap.size + 1) wr V.heap.size s n vv k es) ∧ Below V.heap.size V wr) (fun i _ => l.length - (intOf i).toNat)
      case atStart => exact ⟨0, _, [], by omega, rfl, rfl, OutIs.new rfl, (Below.refl _ _).alloc (Nat.le_refl _) _⟩
      case round =>
        clear k0 k1 k2 x0 x1 x2 r0 r1 r2 rf0 rf1 rf2
        obtain ⟨k, vv, es, hk, rfl, hes, hO, hBr⟩ := hrel
        obtain ⟨va, vc, rfl, hvn⟩ := hO.out.form
        have hlt := hO.out.lt
        have hwr := hwV.out.trans (hBr.mono (by omega))
        by_cases h1 : k < l.length
        · obtain ⟨b, off, rfl, harg⟩ := hr'.out.arg (by rintro rfl; simp at h1)
          obtain ⟨a2, c2, g0, g1, g2, ge⟩ := harg k h1
          have hK : Keeps w wr := Keeps.of_below hwr
          replace g0 := hK _ _ g0
          replace g1 := hK _ _ g1
          replace g2 := hK _ _ g2
          obtain ⟨hc0, hc1, hc2, hcf⟩ := hO.out.cells
          obtain ⟨hblk, cs, hesl, hown, hcs⟩ := hO.out
          have hown' := Lib.hid hown
          have hcs' := Lib.hid hcs
          have hesl' := Lib.hid hesl
          have hout : Hid (∀ b, b < w.heap.size → ((X b ∨ b = w.heap.size + 1) ∨ b = V.heap.size ∨ (Value.slice va k vc).ownBlock = some b) → X b) := by
            rintro b hb ((h | h) | h | h)
            · exact h
            · omega
            · omega
            · have := (hO.out.own h).1; omega
          have hXw : Hid (∀ W : World, wr.heap.size ≤ W.heap.size → ∀ b, ((X b ∨ b = w.heap.size + 1) ∨ b = V.heap.size ∨ (Value.slice va k vc).ownBlock = some b) → b < W.heap.size) := by
            rintro W hW b ((h | h) | h | h)
            · have := hX'.out b h; have := hwr.size; omega
            · omega
            · omega
            · have := (hO.out.own h).2; omega
          have hb1 : Hid (Below wr.heap.size wr (wr.alloc (.cells #[.string l[k].name, .int .i64 l[k].n, .slice a2 l[k].args.length c2] 24))) := (Below.refl _ _).alloc (Nat.le_refl _) _
          have hcall : Hid (∀ W, Below wr.heap.size wr W → Calls Tryd.prog 36 #[mv, .agg #[.string l[k].name, .int .i64 l[k].n, .slice a2 l[k].args.length c2]] W fun r w' => ∃ us un ua um uc, r = .returned (.agg #[.string us, .int .i64 un, .slice ua um uc]) ∧ TyX (fun b => (X b ∨ b = w.heap.size + 1) ∨ b = V.heap.size ∨ (Value.slice va k vc).ownBlock = some b) w' (.agg #[.string us, .int .i64 un, .slice ua um uc]) (withT F l[k]) ∧ Below W.heap.size W w') := by
            intro W hW
            have hwW := hwr.trans (hW.mono (by have := hwr.size; omega))
            refine (ih'.out _ (List.getElem_mem h1) _ _ mv F W (TyX.later (KeepsBut.of_below hwW) hout.out ge) (hm'.out.later hwW hout.out) (hXw.out W hW.size) (hcn.out _ (List.getElem_mem h1))).mono ?_
            rintro r w' ⟨u, rfl, hu, hB⟩
            obtain ⟨a, c, rfl⟩ := hu.form
            exact ⟨_, _, _, _, _, rfl, hu, hB⟩
          have ta := Tryd.isAgg24
          obtain ⟨q0, q1, q2⟩ := box3 (w := wr) (v0 := .string l[k].name) (v1 := .int .i64 l[k].n) (v2 := .slice a2 l[k].args.length c2) (t := 24) (Below.refl _ _)
          obtain ⟨i0, hi, hz0, hz1', hz2'⟩ := info_of Tryd.infoTy
          clear harg ge hown hcs hesl hblk hK
          go_wp2_with fail
          go_region_law (first | (refine step_append_lies _ (by rfl) _ _ _ (by rfl) (V.heap.size + 1) 24 i0 (.agg #[.string ⟨#[]⟩, .int .i64 0, .slice none 0 0]) 3 48 Tryd.underlying22 hi hz0 hz1' hz2' rfl (by omega) (.slice va k vc) _ _ (by rfl) ((ownsRow_heap hown'.out (fun g hg => hbw1.block g (ownBlock_ge hown'.out hg).2)).alloc _) ⟨w1.heap.size, 0, none⟩ 1 1 [.string us, .int .i64 un, .slice ua um uc] (by rfl) (by rfl) (cell_three_new _ _ _ _ _) (by simp [Value.oneCell']) (by omega) (by unfold maxLen; omega) (by omega) (by simp; have := hbw1.size; omega) (w1.heap.size + 1) (by simp) ?_; intro gg cap w2 hown2 hg2 hat hlt2; have hba := hbw1.alloc hbw1.size (.cells #[.string us, .int .i64 un, .slice ua um uc] 24); obtain ⟨hc2', hf2'⟩ := hO.out.mid hba hg2; have hst := Lib.hid (hO.out.step hba (TyX.below hu'.out ((Below.refl _ _).alloc (Nat.le_refl _) _)) hg2 hesl'.out hown'.out hcs'.out hown2 (hat.imp (fun e => e.symm) (fun e g hg => by simp [Value.ownBlock] at hg; simp; omega))); clear hown2 hg2 hat hlt2) | (go_simp; go_at_call 36; refine (hcall.out _ hb1.out.drew).mono ?_; rintro e w1 ⟨us, un, ua, um, uc, rfl, hu, hB1⟩; have hbw1 := hb1.out.drew.trans (hB1.mono (by simp [World.drew])); have j0 := Keeps.of_below hbw1 _ _ hc2; have hzw1 : V.heap.size < w1.heap.size := cell_block j0; have hu' := Lib.hid hu; clear hB1 hu))
          all_goals
            go_wp2_with fail
            go_roundw
            case rel => exact ⟨k + 1, _, es ++ [withT F l[k]], by omega, by go_num, by unfold Hid; rw [hes.out, List.take_succ_eq_append_getElem h1, List.map_append, List.map_cons, List.map_nil], hst.out.1, hBr.trans hst.out.2.1⟩
            case measure => simp [intOf]; omega
        · have e : k = l.length := by omega
          obtain ⟨hc0, hc1, hc2, hcf⟩ := hO.out.cells
          have hdone := Lib.hid (hO.out.done (fun b hb => by
            rcases hb with hb | hb
            · have := hX'.out b hb; omega
            · omega) hs'.out (by have := hl'.out; unfold lenMax at this ⊢; omega) hn)
          have hes2 : Hid (es = l.map (withT F)) := by unfold Hid; rw [hes.out, e, List.take_length]
          have hrr := Lib.hid (hres'.out wr ((hbV.mono (by omega)).trans (hBr.mono (by omega))))
          obtain ⟨r0, r1, r2⟩ := cells_of hrr.out
          have rf0 := frozen_of hrr.out 0
          have rf1 := frozen_of hrr.out 1
          have rf2 := frozen_of hrr.out 2
          clear e
          go_wp2_with fail
          have hU := set_box3 hrr.out (.string s) (.int .i64 n) (.slice va k vc)
          change bodyPost _ _ _ _ _ (World.box3 wr (w.heap.size + 1) (.string s) (.int .i64 n) (.slice va k vc))
          generalize World.box3 wr (w.heap.size + 1) (.string s) (.int .i64 n) (.slice va k vc) = U at hU ⊢
          obtain ⟨⟨u0, u1, u2⟩, hBU, -, hUk⟩ := hU
          clear r0 r1 r2 hc0 hc1 hc2
          refine bodyPost_ret (results_ty rfl _ _ rfl u0 u1 u2) rfl ?_
          refine ⟨_, rfl, ?_, hwr.trans (hBU.mono (by omega))⟩
          rw [hcont.out, ← hes2.out]
          exact TyX.later (hUk.wider fun c hc => .inr hc) (fun c _ hc => .inl hc) hdone.out
end Go.Proofs.YticjpeefhppjoaaDoor
