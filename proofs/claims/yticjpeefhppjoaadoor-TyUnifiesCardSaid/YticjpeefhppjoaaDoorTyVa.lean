/- The reference's root and its Walk, walked. -/
import Derived.Test.YticjpeefhppjoaaDoorTyU
import Derived.Test.YticjpeefhppjoaaDoorTyP
namespace Go.Proofs.YticjpeefhppjoaaDoor
open Go.RowKit

set_option maxHeartbeats 4000000 in
set_option maxRecDepth 100000 in
theorem r08_root (L : List Fa) (aL : Option Addr) (cL : Nat) (fuel : Nat) (e r : Ty) (v : Value) (w₀ w : World) (h0 : Below w₀.heap.size w₀ w) (hr : rootT L fuel e = some r) (hLl : L.length ≤ lenMax) (hm : FaRow (fun _ => False) w₀ aL L) (hv : IsTy w₀ v e) :
    Calls Tryd.prog 69 #[.slice aL L.length cL, v] w fun z w' => ∃ u, z = .returned u ∧ IsTy w₀ u r ∧ Below w.heap.size w w' := by
  obtain ⟨s, n, l⟩ := e
  have hv0 := Lib.hid hv
  obtain ⟨a1, c1, rfl, _, hn, _⟩ := hv.open
  have hm' := Lib.hid hm
  have hr' := Lib.hid hr
  have hLl' := Lib.hid hLl
  clear hv hm hr hLl
  have hH : Hid (∀ (s : Str) (n : Int) (a : Option Addr) (m c : Nat) (V : World), Calls Tryd.prog 52 #[.agg #[.string s, .int .i64 n, .slice a m c]] V fun r V' => r = .returned (.bool (holeS s)) ∧ Below V.heap.size V V') := fun s n a m c V => r08_hole s n a m c V
  have hF : Hid (∀ (n : Int) (V : World), Below w.heap.size w V → Calls Tryd.prog 55 #[.slice aL L.length cL, .int .i64 n] V fun r V' => (∃ i, r = .returned (.int .i64 i) ∧ FactR L n i) ∧ Below V.heap.size V V') := fun n V hV => r08_fact _ L aL cL n V hLl'.out (hm'.out.keeps (Keeps.of_below (h0.trans (hV.mono h0.size))))
  go_enter Tryd.func69, Tryd.ntmps69
  go_wp2_with fail
  go_loopg [5] fuel (fun k _ wr => ∃ (s : Str) (n : Int) (l : List Ty) (a : Option Addr) (c : Nat), BoxT wr w.heap.size (.string s) (.int .i64 n) (.slice a l.length c) ∧ Hid (IsTy w₀ (.agg #[.string s, .int .i64 n, .slice a l.length c]) (.mk s n l)) ∧ Hid (rootT L k (.mk s n l) = some r) ∧ BoxT wr (w.heap.size + 1) (.string ⟨#[]⟩) (.int .i64 0) (.slice none 0 0) ∧ Below w.heap.size w wr)
  case atStart =>
    refine ⟨s, n, l, a1, c1, ?_, hv0, hr', ?_, ((Below.refl _ w).alloc (Nat.le_refl _) _).alloc (by simp) _⟩
    · exact new_block ((Below.refl _ _).alloc (by simp) _)
    · exact new_block2 (Below.refl _ _)
  case round =>
    clear hv0 hr' hn
    obtain ⟨s, n, l, a, c, hb, hv, hr, hres, hB⟩ := hrel
    have hzr := hB.size
    have hz1 : w.heap.size < wr.heap.size := (Array.getElem?_eq_some_iff.1 hb).1
    have hz2 : w.heap.size + 1 < wr.heap.size := (Array.getElem?_eq_some_iff.1 hres).1
    obtain ⟨b0, b1, b2⟩ := hb.cells
    have hb' := Lib.hid hb
    have hres' := Lib.hid hres
    have hcall := Lib.hid (hH.out s n a l.length c wr)
    have hend : Hid (∀ V, Below wr.heap.size wr V → r = .mk s n l → BoxT V (w.heap.size + 1) (.string ⟨#[]⟩) (.int .i64 0) (.slice none 0 0) ∧ Below w.heap.size w V ∧ V.cell? ⟨w.heap.size, 0, none⟩ = some (.string s) ∧ V.cell? ⟨w.heap.size, 1, none⟩ = some (.int .i64 n) ∧ V.cell? ⟨w.heap.size, 2, none⟩ = some (.slice a l.length c)) := by
      intro V hV _
      obtain ⟨q0, q1, q2⟩ := (hb.below hV hz1).cells
      exact ⟨hres.below hV hz2, hB.trans (hV.mono hzr), q0, q1, q2⟩
    obtain ⟨k, rfl⟩ : ∃ k, gk = k + 1 := by
      cases gk with
      | zero => have := hr.out; simp [rootT] at this
      | succ k => exact ⟨k, rfl⟩
    clear hb hres
    cases hq : holeS s
    case false =>
      have hrr : Hid (r = .mk s n l) := by have := hr.out; simp only [rootT, hq, Bool.false_eq_true, if_false, Option.some.injEq] at this; exact this.symm
      rw [hq] at hcall
      clear hq hr
      go_wp2_with fail
      refine hcall.out.mono ?_
      rintro e V ⟨rfl, hBV⟩
      obtain ⟨hres, hwX, b0, b1, b2⟩ := hend.out V hBV hrr.out
      have hrs := Lib.hid hres
      obtain ⟨r0, r1, r2⟩ := hres.cells
      have rf0 := frozen_of hres 0
      have rf1 := frozen_of hres 1
      have rf2 := frozen_of hres 2
      clear hres
      go_wp2_with fail
      have hU := hrs.out.set (.string s) (.int .i64 n) (.slice a l.length c)
      change bodyPost _ _ _ _ _ (World.box3 V (w.heap.size + 1) (.string s) (.int .i64 n) (.slice a l.length c))
      generalize World.box3 V (w.heap.size + 1) (.string s) (.int .i64 n) (.slice a l.length c) = U at hU ⊢
      obtain ⟨hUb, hBU, -, -⟩ := hU
      clear r0 r1 r2
      obtain ⟨u0, u1, u2⟩ := hUb.cells
      refine bodyPost_ret (results_ty rfl _ _ rfl u0 u1 u2) rfl ?_
      exact ⟨_, rfl, by rw [hrr.out]; exact hv.out, hwX.trans (hBU.mono (by omega))⟩
    case true =>
      rw [hq] at hcall
      have hq' := Lib.hid hq
      clear hq
      go_wp2_with fail
      refine hcall.out.mono ?_
      rintro e V ⟨rfl, hBV⟩
      have hwV := Lib.hid (hB.trans (hBV.mono hzr))
      have hBV' := Lib.hid hBV
      obtain ⟨b0, b1, b2⟩ := (hb'.out.below hBV hz1).cells
      have hfc := Lib.hid (hF.out n V hwV.out)
      clear hBV
      go_wp2_with fail
      refine hfc.out.mono ?_
      rintro e V2 ⟨⟨i, rfl, hi⟩, hB2⟩
      have hbr2 := hBV'.out.trans (hB2.mono hBV'.out.size)
      have hbr2' := Lib.hid hbr2
      clear hB2
      rcases hi with ⟨rfl, hf⟩ | ⟨j, hj, rfl, hf⟩
      · have hrr : Hid (r = .mk s n l) := by
          have h1 := hr.out
          simp only [rootT, hq'.out, if_true, hf, Option.some.injEq] at h1; exact h1.symm
        obtain ⟨hres, hwX, b0, b1, b2⟩ := hend.out V2 hbr2 hrr.out
        have hrs := Lib.hid hres
        obtain ⟨r0, r1, r2⟩ := hres.cells
        have rf0 := frozen_of hres 0
        have rf1 := frozen_of hres 1
        have rf2 := frozen_of hres 2
        clear hres hf hbr2
        go_wp2_with fail
        have hU := hrs.out.set (.string s) (.int .i64 n) (.slice a l.length c)
        change bodyPost _ _ _ _ _ (World.box3 V2 (w.heap.size + 1) (.string s) (.int .i64 n) (.slice a l.length c))
        generalize World.box3 V2 (w.heap.size + 1) (.string s) (.int .i64 n) (.slice a l.length c) = U at hU ⊢
        obtain ⟨hUb, hBU, -, -⟩ := hU
        clear r0 r1 r2
        obtain ⟨u0, u1, u2⟩ := hUb.cells
        refine bodyPost_ret (results_ty rfl _ _ rfl u0 u1 u2) rfl ?_
        exact ⟨_, rfl, by rw [hrr.out]; exact hv.out, hwX.trans (hBU.mono (by omega))⟩
      · have hLl := hLl'.out
        unfold lenMax at hLl
        obtain ⟨b, off, rfl, hat⟩ := hm'.out.at (by rintro rfl; simp at hj)
        obtain ⟨a2, c2, g0, g1, g2, g3, ge, _⟩ := hat j hj
        obtain ⟨yt, hyt⟩ : ∃ t, L[j].ty = t := ⟨_, rfl⟩
        rw [hyt] at g1 g2 g3 ge hf
        obtain ⟨ys, yn, el⟩ := yt
        simp only [Ty.name, Ty.n, Ty.args] at g1 g2 g3 ge
        have hK2 : Keeps w₀ V2 := Keeps.of_below (h0.trans ((hB.trans (hbr2.mono hzr)).mono h0.size))
        replace g0 := hK2 _ _ g0
        replace g1 := hK2 _ _ g1
        replace g2 := hK2 _ _ g2
        replace g3 := hK2 _ _ g3
        have ge' := Lib.hid ge
        have hji : (j : Int) < (L.length : Int) := by omega
        have hj0 : decide ((j : Int) < 0) = false := by rw [decide_eq_false_iff_not]; omega
        have hhx := Lib.hid (hH.out ys yn a2 el.length c2 V2)
        have hg3' : Hid (∀ V, Below V2.heap.size V2 V → V.cell? ⟨b, off + j * 4 + 1, none⟩ = some (.string ys) ∧ V.cell? ⟨b, off + j * 4 + 2, none⟩ = some (.int .i64 yn) ∧ V.cell? ⟨b, off + j * 4 + 3, none⟩ = some (.slice a2 el.length c2)) := fun V hV => ⟨Keeps.of_below hV _ _ g1, Keeps.of_below hV _ _ g2, Keeps.of_below hV _ _ g3⟩
        clear hat hyt ge hK2
        cases hy : holeS ys
        · have hrr : Hid (r = .mk s n l) := by
            have h1 := hr.out
            simp only [rootT, hq'.out, if_true, hf, Ty.name, hy, Bool.false_eq_true, if_false, Option.some.injEq] at h1; exact h1.symm
          rw [hy] at hhx
          clear hf hy hbr2
          go_wp2_with fail
          refine hhx.out.mono ?_
          rintro e V7 ⟨rfl, hB7⟩
          have hbr7 : Below wr.heap.size wr V7 := hbr2'.out.trans (hB7.mono hbr2'.out.size)
          obtain ⟨hres, hwX, b0, b1, b2⟩ := hend.out V7 hbr7 hrr.out
          have hrs := Lib.hid hres
          obtain ⟨r0, r1, r2⟩ := hres.cells
          have rf0 := frozen_of hres 0
          have rf1 := frozen_of hres 1
          have rf2 := frozen_of hres 2
          clear hres
          go_wp2_with fail
          have hU := hrs.out.set (.string s) (.int .i64 n) (.slice a l.length c)
          change bodyPost _ _ _ _ _ (World.box3 V7 (w.heap.size + 1) (.string s) (.int .i64 n) (.slice a l.length c))
          generalize World.box3 V7 (w.heap.size + 1) (.string s) (.int .i64 n) (.slice a l.length c) = U at hU ⊢
          obtain ⟨hUb, hBU, -, -⟩ := hU
          clear r0 r1 r2
          obtain ⟨u0, u1, u2⟩ := hUb.cells
          refine bodyPost_ret (results_ty rfl _ _ rfl u0 u1 u2) rfl ?_
          exact ⟨_, rfl, by rw [hrr.out]; exact hv.out, hwX.trans (hBU.mono (by omega))⟩
        · have hrr : Hid (rootT L k (.mk ys yn el) = some r) := by
            have h1 := hr.out
            simp only [rootT, hq'.out, if_true, hf, Ty.name, hy] at h1; exact h1
          rw [hy] at hhx
          clear hf hy hbr2
          go_wp2_with fail
          refine hhx.out.mono ?_
          rintro e V7 ⟨rfl, hB7⟩
          have hbr7 : Below wr.heap.size wr V7 := hbr2'.out.trans (hB7.mono hbr2'.out.size)
          obtain ⟨g1, g2, g3⟩ := hg3'.out V7 hB7
          have hb7 := Lib.hid (hb'.out.below hbr7 hz1)
          obtain ⟨b0, b1, b2⟩ := hb7.out.cells
          have rf0 := frozen_of hb7.out 0
          have rf1 := frozen_of hb7.out 1
          have rf2 := frozen_of hb7.out 2
          have hres7 := Lib.hid (hres'.out.below hbr7 hz2)
          have hw7 := Lib.hid (hB.trans (hbr7.mono hzr))
          go_wp2_with fail
          go_roundg k
          case measure => omega
          case rel =>
            have hU := hb7.out.set (.string ys) (.int .i64 yn) (.slice a2 el.length c2)
            exact ⟨ys, yn, el, a2, c2, hU.1, ge', hrr, (hU.2.2.2 _ (by omega)).trans hres7.out, hw7.out.trans hU.2.1⟩

set_option maxHeartbeats 4000000 in
set_option maxRecDepth 100000 in
theorem r08_Walk (L : List Fa) (aL : Option Addr) (cL : Nat) (fuel : Nat) (e r : Ty) (v : Value) (w₀ w : World) (h0 : Below w₀.heap.size w₀ w) (hr : walkT L fuel e = some r) (hLl : L.length ≤ lenMax) (hm : FaRow (fun _ => False) w₀ aL L) (hv : IsTy w₀ v e) :
    Calls Tryd.prog 70 #[.slice aL L.length cL, v] w fun z w' => ∃ u, z = .returned u ∧ IsTy w₀ u r ∧ Below w.heap.size w w' := by
  obtain ⟨s, n, l⟩ := e
  have hv0 := Lib.hid hv
  obtain ⟨a1, c1, rfl, _, hn, _⟩ := hv.open
  have hm' := Lib.hid hm
  have hr' := Lib.hid hr
  have hLl' := Lib.hid hLl
  clear hv hm hr hLl
  have hH : Hid (∀ (s : Str) (n : Int) (a : Option Addr) (m c : Nat) (V : World), Calls Tryd.prog 52 #[.agg #[.string s, .int .i64 n, .slice a m c]] V fun r V' => r = .returned (.bool (holeS s)) ∧ Below V.heap.size V V') := fun s n a m c V => r08_hole s n a m c V
  have hF : Hid (∀ (n : Int) (V : World), Below w.heap.size w V → Calls Tryd.prog 55 #[.slice aL L.length cL, .int .i64 n] V fun r V' => (∃ i, r = .returned (.int .i64 i) ∧ FactR L n i) ∧ Below V.heap.size V V') := fun n V hV => r08_fact _ L aL cL n V hLl'.out (hm'.out.keeps (Keeps.of_below (h0.trans (hV.mono h0.size))))
  go_enter Tryd.func70, Tryd.ntmps70
  go_wp2_with fail
  go_loopg [5] fuel (fun k _ wr => ∃ (s : Str) (n : Int) (l : List Ty) (a : Option Addr) (c : Nat), BoxT wr w.heap.size (.string s) (.int .i64 n) (.slice a l.length c) ∧ Hid (IsTy w₀ (.agg #[.string s, .int .i64 n, .slice a l.length c]) (.mk s n l)) ∧ Hid (walkT L k (.mk s n l) = some r) ∧ BoxT wr (w.heap.size + 1) (.string ⟨#[]⟩) (.int .i64 0) (.slice none 0 0) ∧ Below w.heap.size w wr)
  case atStart =>
    refine ⟨s, n, l, a1, c1, ?_, hv0, hr', ?_, ((Below.refl _ w).alloc (Nat.le_refl _) _).alloc (by simp) _⟩
    · exact new_block ((Below.refl _ _).alloc (by simp) _)
    · exact new_block2 (Below.refl _ _)
  case round =>
    clear hv0 hr' hn
    obtain ⟨s, n, l, a, c, hb, hv, hr, hres, hB⟩ := hrel
    have hzr := hB.size
    have hz1 : w.heap.size < wr.heap.size := (Array.getElem?_eq_some_iff.1 hb).1
    have hz2 : w.heap.size + 1 < wr.heap.size := (Array.getElem?_eq_some_iff.1 hres).1
    obtain ⟨b0, b1, b2⟩ := hb.cells
    have hb' := Lib.hid hb
    have hres' := Lib.hid hres
    have hcall := Lib.hid (hH.out s n a l.length c wr)
    have hend : Hid (∀ V, Below wr.heap.size wr V → r = .mk s n l → BoxT V (w.heap.size + 1) (.string ⟨#[]⟩) (.int .i64 0) (.slice none 0 0) ∧ Below w.heap.size w V ∧ V.cell? ⟨w.heap.size, 0, none⟩ = some (.string s) ∧ V.cell? ⟨w.heap.size, 1, none⟩ = some (.int .i64 n) ∧ V.cell? ⟨w.heap.size, 2, none⟩ = some (.slice a l.length c)) := by
      intro V hV _
      obtain ⟨q0, q1, q2⟩ := (hb.below hV hz1).cells
      exact ⟨hres.below hV hz2, hB.trans (hV.mono hzr), q0, q1, q2⟩
    obtain ⟨k, rfl⟩ : ∃ k, gk = k + 1 := by
      cases gk with
      | zero => have := hr.out; simp [walkT] at this
      | succ k => exact ⟨k, rfl⟩
    clear hb hres
    cases hq : holeS s
    case false =>
      have hrr : Hid (r = .mk s n l) := by have := hr.out; simp only [walkT, hq, Bool.false_eq_true, if_false, Option.some.injEq] at this; exact this.symm
      rw [hq] at hcall
      clear hq hr
      go_wp2_with fail
      refine hcall.out.mono ?_
      rintro e V ⟨rfl, hBV⟩
      obtain ⟨hres, hwX, b0, b1, b2⟩ := hend.out V hBV hrr.out
      have hrs := Lib.hid hres
      obtain ⟨r0, r1, r2⟩ := hres.cells
      have rf0 := frozen_of hres 0
      have rf1 := frozen_of hres 1
      have rf2 := frozen_of hres 2
      clear hres
      go_wp2_with fail
      have hU := hrs.out.set (.string s) (.int .i64 n) (.slice a l.length c)
      change bodyPost _ _ _ _ _ (World.box3 V (w.heap.size + 1) (.string s) (.int .i64 n) (.slice a l.length c))
      generalize World.box3 V (w.heap.size + 1) (.string s) (.int .i64 n) (.slice a l.length c) = U at hU ⊢
      obtain ⟨hUb, hBU, -, -⟩ := hU
      clear r0 r1 r2
      obtain ⟨u0, u1, u2⟩ := hUb.cells
      refine bodyPost_ret (results_ty rfl _ _ rfl u0 u1 u2) rfl ?_
      exact ⟨_, rfl, by rw [hrr.out]; exact hv.out, hwX.trans (hBU.mono (by omega))⟩
    case true =>
      rw [hq] at hcall
      have hq' := Lib.hid hq
      clear hq
      go_wp2_with fail
      refine hcall.out.mono ?_
      rintro e V ⟨rfl, hBV⟩
      have hwV := Lib.hid (hB.trans (hBV.mono hzr))
      have hBV' := Lib.hid hBV
      obtain ⟨b0, b1, b2⟩ := (hb'.out.below hBV hz1).cells
      have hfc := Lib.hid (hF.out n V hwV.out)
      clear hBV
      go_wp2_with fail
      refine hfc.out.mono ?_
      rintro e V2 ⟨⟨i, rfl, hi⟩, hB2⟩
      have hbr2 := hBV'.out.trans (hB2.mono hBV'.out.size)
      have hbr2' := Lib.hid hbr2
      clear hB2
      rcases hi with ⟨rfl, hf⟩ | ⟨j, hj, rfl, hf⟩
      · have hrr : Hid (r = .mk s n l) := by
          have h1 := hr.out
          simp only [walkT, hq'.out, if_true, hf, Option.some.injEq] at h1; exact h1.symm
        obtain ⟨hres, hwX, b0, b1, b2⟩ := hend.out V2 hbr2 hrr.out
        have hrs := Lib.hid hres
        obtain ⟨r0, r1, r2⟩ := hres.cells
        have rf0 := frozen_of hres 0
        have rf1 := frozen_of hres 1
        have rf2 := frozen_of hres 2
        clear hres hf hbr2
        go_wp2_with fail
        have hU := hrs.out.set (.string s) (.int .i64 n) (.slice a l.length c)
        change bodyPost _ _ _ _ _ (World.box3 V2 (w.heap.size + 1) (.string s) (.int .i64 n) (.slice a l.length c))
        generalize World.box3 V2 (w.heap.size + 1) (.string s) (.int .i64 n) (.slice a l.length c) = U at hU ⊢
        obtain ⟨hUb, hBU, -, -⟩ := hU
        clear r0 r1 r2
        obtain ⟨u0, u1, u2⟩ := hUb.cells
        refine bodyPost_ret (results_ty rfl _ _ rfl u0 u1 u2) rfl ?_
        exact ⟨_, rfl, by rw [hrr.out]; exact hv.out, hwX.trans (hBU.mono (by omega))⟩
      · have hLl := hLl'.out
        unfold lenMax at hLl
        obtain ⟨b, off, rfl, hat⟩ := hm'.out.at (by rintro rfl; simp at hj)
        obtain ⟨a2, c2, g0, g1, g2, g3, ge, _⟩ := hat j hj
        obtain ⟨yt, hyt⟩ : ∃ t, L[j].ty = t := ⟨_, rfl⟩
        rw [hyt] at g1 g2 g3 ge hf
        obtain ⟨ys, yn, el⟩ := yt
        simp only [Ty.name, Ty.n, Ty.args] at g1 g2 g3 ge
        have hK2 : Keeps w₀ V2 := Keeps.of_below (h0.trans ((hB.trans (hbr2.mono hzr)).mono h0.size))
        replace g0 := hK2 _ _ g0
        replace g1 := hK2 _ _ g1
        replace g2 := hK2 _ _ g2
        replace g3 := hK2 _ _ g3
        have ge' := Lib.hid ge
        have hji : (j : Int) < (L.length : Int) := by omega
        have hj0 : decide ((j : Int) < 0) = false := by rw [decide_eq_false_iff_not]; omega
        have hrr : Hid (walkT L k (.mk ys yn el) = some r) := by
          have h1 := hr.out
          simp only [walkT, hq'.out, if_true, hf] at h1; exact h1
        have hb7 := Lib.hid (hb'.out.below hbr2 hz1)
        obtain ⟨b0, b1, b2⟩ := hb7.out.cells
        have rf0 := frozen_of hb7.out 0
        have rf1 := frozen_of hb7.out 1
        have rf2 := frozen_of hb7.out 2
        have hres7 := Lib.hid (hres'.out.below hbr2 hz2)
        have hw7 := Lib.hid (hB.trans (hbr2.mono hzr))
        clear hat hyt ge hK2 hf hbr2
        go_wp2_with fail
        go_roundg k
        case measure => omega
        case rel =>
          have hU := hb7.out.set (.string ys) (.int .i64 yn) (.slice a2 el.length c2)
          exact ⟨ys, yn, el, a2, c2, hU.1, ge', hrr, (hU.2.2.2 _ (by omega)).trans hres7.out, hw7.out.trans hU.2.1⟩
end Go.Proofs.YticjpeefhppjoaaDoor
