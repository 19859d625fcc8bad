/- The layout's behind, walked. -/
import Derived.Test.YtchdfjihflmloaaGreatDoorLayR
import Derived.Deep.CutRange
import Derived.BigQuiet
namespace Go.Proofs.YtchdfjihflmloaaGreatDoor
open Go.RowKit

theorem wpList_append_run {P : Program} {w w' : World} {ops : Array Oper} {rest : List Oper} {o : Oper} {a : Act} {Q : Exit → Act → World → Prop} (hgd : o.guard = none) (s x : Operand) (t : TypeId) (v v' : Value) (sa : Option Addr) (m c : Nat)
    (ho : o.op = .call { callee := .builtin .append, args := #[s, x], argTypes := #[t, t] }) (hs : a.eval s = v) (hx : a.eval x = .slice sa m c)
    (hr : (Builtin.append_ #[t, t] o.type #[v, .slice sa m c]).run P w = .ok v' w') (h : wpList P ops Q rest (a.put o.dst v') w') : wpList P ops Q (o :: rest) a w := by
  refine wpList_plain hgd fun K hK => ?_
  exact wp_append_run s x t v v' sa m c ho hs hx hr (hK _ _ h)
set_option maxRecDepth 100000 in
/-- One block more, appended: what the append gives, and what the store makes of it. -/
theorem push_run {base mb : Nat} {o : Value} {ts : List Tk} {st : List Int} {sa : Option Addr} {n sc : Nat} (W V : World) (h : MkS base W mb o ts (.slice sa n sc) st) (hb : Below W.heap.size W V) (hbz : base ≤ W.heap.size) (hl : st.length ≤ 1000000) (c : Int) :
    ∃ va vc w3, (Builtin.append_ #[37, 37] 37 #[.slice sa n sc, .slice (some ⟨V.heap.size, 0, none⟩) 1 1]).run Tryz.prog (V.alloc (.cells #[.int .i64 c] 3)) = .ok (.slice va (st.length + 1) vc) w3 ∧ w3.cell? ⟨mb, 1, none⟩ = some (.slice sa n sc) ∧ w3.frozen? ⟨mb, 1, none⟩ = false ∧
      MkR base mb W o (.slice sa n sc) (w3.setCell ⟨mb, 1, none⟩ (.slice va (st.length + 1) vc)) o ts (.slice va (st.length + 1) vc) (c :: st) := by
  obtain ⟨W2, hW2⟩ : ∃ X, V.alloc (.cells #[.int .i64 c] 3) = X := ⟨_, rfl⟩
  have hb2 : Below W.heap.size W W2 := by rw [← hW2]; exact hb.alloc hb.size _
  obtain ⟨i0, hi, hz0, hz1', hz2'⟩ := info_of Tryz.infoInt
  have hown := (h.below hb2).opn
  have hnews : ∀ ad, some (⟨V.heap.size, 0, none⟩ : Addr) = some ad → ∀ j v, [Value.int .i64 c][j]? = some v → W2.cell? (ad.add j) = some v := by
    intro ad had
    cases had
    rw [← hW2]
    exact Go.cell_one_new _ _ _
  obtain ⟨v', w3, hrun, hr, hg, hx⟩ := run_append_own_src (P := Tryz.prog) W2 base 37 37 3 i0 (.int .i64 0) 1 8 Tryz.underlying37 hi hz0 hz1' hz2' rfl (by decide) _ _ _ hown (some ⟨V.heap.size, 0, none⟩) 1 1 [.int .i64 c] (fun e => (nomatch e)) rfl hnews (by intro u hu; simp at hu; subst hu; rfl) (by unfold maxLen; omega) (by omega) (by have := hb2.size; omega)
  obtain ⟨va, vc, rfl, _⟩ := tk_own_form hr
  have hmr := h.push hb2 hg (hx.imp id id) hr
  have hbx : w3.heap[mb]? = W2.heap[mb]? := hg.block mb (by have := h.lt; have := hb2.size; omega) fun e => by have := (ownBlock_ge h.opn e.symm).1; have := h.low; omega
  have hcx := (show Box2 w3 39 mb o (.slice sa n sc) from hbx.trans (h.box.below hb2)).cells
  exact ⟨va, vc, w3, by rw [hW2]; exact hrun, hcx.1.2, hcx.2 1, hmr⟩

set_option maxRecDepth 100000 in
/-- One token more, appended: what the append gives, and what the store makes of it. -/
theorem tok_run {base mb : Nat} {s : Value} {ts : List Tk} {st : List Int} {oa : Option Addr} {n oc : Nat} (W V : World) (h : MkS base W mb (.slice oa n oc) ts s st) (hb : Below W.heap.size W V) (hbz : base ≤ W.heap.size) (hl : ts.length ≤ 1000000) (t : Tk) :
    ∃ va vc w3, (Builtin.append_ #[22, 22] 22 #[.slice oa n oc, .slice (some ⟨V.heap.size, 0, none⟩) 1 1]).run Tryz.prog (V.alloc (.cells #[.int .i64 t.kind, .string (tS t.text), .int .i64 t.num, .int .i64 t.line, .int .i64 t.col] 34)) = .ok (.slice va (ts.length + 1) vc) w3 ∧ w3.cell? ⟨mb, 0, none⟩ = some (.slice oa n oc) ∧ w3.frozen? ⟨mb, 0, none⟩ = false ∧
      MkR base mb W (.slice oa n oc) s (w3.setCell ⟨mb, 0, none⟩ (.slice va (ts.length + 1) vc)) (.slice va (ts.length + 1) vc) (ts ++ [t]) s st := by
  obtain ⟨W2, hW2⟩ : ∃ X, V.alloc (.cells #[.int .i64 t.kind, .string (tS t.text), .int .i64 t.num, .int .i64 t.line, .int .i64 t.col] 34) = X := ⟨_, rfl⟩
  have hb2 : Below W.heap.size W W2 := by rw [← hW2]; exact hb.alloc hb.size _
  obtain ⟨i0, hi, hz0, hz1', hz2'⟩ := info_of Tryz.infoTk
  have hown := (h.below hb2).out
  have hnews : ∀ ad, some (⟨V.heap.size, 0, none⟩ : Addr) = some ad → ∀ j v, (tkC t)[j]? = some v → W2.cell? (ad.add j) = some v := by
    intro ad had j v hj
    cases had
    rw [← hW2]
    exact cell_five_new (w := V) rfl t 34 j v hj
  obtain ⟨v', w3, hrun, hr, hg, hx⟩ := run_append_own_src (P := Tryz.prog) W2 base 22 22 34 i0 (.agg #[.int .i64 0, .string ⟨#[]⟩, .int .i64 0, .int .i64 0, .int .i64 0]) 5 48 Tryz.underlying22 hi hz0 hz1' hz2' rfl (by decide) _ _ _ hown (some ⟨V.heap.size, 0, none⟩) 1 1 (tkC t) (fun e => (nomatch e)) rfl hnews (by intro u hu; simp [tkC] at hu; rcases hu with rfl | rfl | rfl | rfl | rfl <;> rfl) (by unfold maxLen; omega) (by omega) (by have := hb2.size; omega)
  obtain ⟨va, vc, rfl, _⟩ := tk_own_form hr
  have hmr := h.put hb2 hg (hx.imp id id) hr
  have hbx : w3.heap[mb]? = W2.heap[mb]? := hg.block mb (by have := h.lt; have := hb2.size; omega) fun e => by have := (ownBlock_ge h.out e.symm).1; have := h.low; omega
  have hcx := (show Box2 w3 39 mb (.slice oa n oc) s from hbx.trans (h.box.below hb2)).cells
  exact ⟨va, vc, w3, by rw [hW2]; exact hrun, hcx.1.1, hcx.2 0, hmr⟩

theorem block_of {t : Tk} {s : Str} (h : tS (sgnT t) = s) : blockT t = (decide (s = ⟨#[111, 102]⟩) || decide (s = ⟨#[100, 111]⟩) || decide (s = ⟨#[100, 111, 115]⟩)) := by
  have h1 := keyT_sign t [111, 102] (by decide)
  have h2 := keyT_sign t [100, 111] (by decide)
  have h3 := keyT_sign t [100, 111, 115] (by decide)
  rw [h] at h1 h2 h3
  have e1 : tS [111, 102] = ⟨#[111, 102]⟩ := rfl
  have e2 : tS [100, 111] = ⟨#[100, 111]⟩ := rfl
  have e3 : tS [100, 111, 115] = ⟨#[100, 111, 115]⟩ := rfl
  rw [e1] at h1
  rw [e2] at h2
  rw [e3] at h3
  rw [← h1, ← h2, ← h3]
  unfold blockT keyT blockW
  rw [Bool.eq_iff_iff]
  simp
  constructor
  · rintro ⟨a, b | b | b⟩ <;> simp [a, b]
  · rintro ((h | h) | h) <;> simp [h.1, h.2]

set_option maxHeartbeats 4000000 in
set_option maxRecDepth 100000 in
theorem lay_behind {base mb : Nat} {o s : Value} {ts : List Tk} {st : List Int} (t : Tk) (a : Option Addr) (rest : List Tk) (cap : Nat) (W W0 : World) (h : MkS base W mb o ts s st) (hbz : base ≤ W.heap.size) (hl : ts.length + st.length ≤ 1000000 - 2) (hrl : rest.length ≤ 1000000)
    (hrow : TkRow W0 a rest) (hW0 : Below W0.heap.size W0 W) (hmb : W0.heap.size ≤ mb) :
    Calls Tryz.prog 17 #[.pointer (some ⟨mb, 0, none⟩), tkV t, .slice a rest.length cap] W fun e W' => e = .returned (.bool (behS t rest.head? st).2.2) ∧ ∃ o' s', MkR base mb W o s W' o' (ts ++ (behS t rest.head? st).1) s' (behS t rest.head? st).2.1 := by
  obtain ⟨W1, hW1⟩ : ∃ V, W.alloc (.cells #[.int .i64 t.kind, .string (tS t.text), .int .i64 t.num, .int .i64 t.line, .int .i64 t.col] 34) = V := ⟨_, rfl⟩
  have hb1 : Below W.heap.size W W1 := by rw [← hW1]; exact (Below.refl _ _).alloc (Nat.le_refl _) _
  have hx1 : Box5 W1 34 W.heap.size (.int .i64 t.kind) (.string (tS t.text)) (.int .i64 t.num) (.int .i64 t.line) (.int .i64 t.col) := by rw [← hW1]; exact blk_new (Below.refl _ _)
  have hz1 : W1.heap.size = W.heap.size + 1 := by rw [← hW1]; simp
  obtain ⟨⟨d0, d1, d2, d3, d4⟩, _⟩ := hx1.cells
  have hW1' := Lib.hid hW1
  have hb1' := Lib.hid hb1
  have hx1' := Lib.hid hx1
  have hz1' := Lib.hid hz1
  have h1' := Lib.hid (h.below hb1)
  have h' := Lib.hid h
  have hsg := Lib.hid (lay_sign t W1)
  have k1 := keyT_sign t pOpen (by decide)
  have k2 := keyT_sign t bOpen (by decide)
  obtain ⟨sg, hsge⟩ : ∃ sg, tS (sgnT t) = sg := ⟨_, rfl⟩
  have k3 := block_of hsge
  rw [hsge] at hsg k1 k2
  have hW01 : Hid (Below W0.heap.size W0 W1) := hW0.trans (hb1'.out.mono hW0.size)
  have hlow := Lib.hid (fun (X : World) (o' s' : Value) (ts' : List Tk) (st' : List Int) (hX : MkR base mb W1 o s X o' ts' s' st') => hW01.out.trans (hX.keep.low h1'.out hmb hW01.out.size))
  have hst1 : Hid (st.length ≤ 1000000 ∧ ts.length ≤ 1000000 ∧ ts.length + 1 ≤ 1000000) := by unfold Hid; omega
  have hpa := Lib.hid (fun (X : World) (ts' : List Tk) (o' s' : Value) (st' : List Int) (hX : MkR base mb W1 o s X o' ts' s' st') (h1 : ts'.length ≤ 1000000) (q : Bs) (u : Tk) => lay_put q u X hX.st (by have := hX.keep.size; have := hz1'.out; omega) h1)
  unfold tkV at hpa
  have hp1 : tS pOpen = ⟨#[40]⟩ := rfl
  have hp2 : tS bOpen = ⟨#[123]⟩ := rfl
  rw [hp1] at k1
  rw [hp2] at k2
  clear hW1 hb1 hx1 hz1 h hsge hp1 hp2
  unfold tkV at hsg ⊢
  by_cases hA : sg = ⟨#[40]⟩
  · subst hA
    rw [decide_eq_true rfl] at k1
    have hbe : Hid (behS t rest.head? st = ([], -1 :: st, false)) := by unfold Hid behS; rw [if_pos k1]
    clear k1 k2 k3
    go_enter Tryz.func17, Tryz.ntmps17
    go_upto_region 1 with (fail)
    rw [hW1'.out]
    go_wp2_with fail
    refine hsg.out.mono ?_
    rintro e V ⟨rfl, hB⟩
    have hR1 : Hid (MkR base mb W1 o s V o ts s st) := (MkR.refl h1'.out).below hB
    have hxV := Lib.hid (hx1'.out.below hB)
    clear hB
    obtain ⟨oa, oc, sa, sc, hoe, rfl, _, _⟩ := hR1.out.st.forms
    clear hoe
    obtain ⟨⟨c0, c1⟩, cf⟩ := hR1.out.st.box.cells
    obtain ⟨va, vc, w3, hrun, hb0, hf0, hRp⟩ := push_run V V hR1.out.st (Below.refl _ _) (by have := hR1.out.keep.size; have := hz1'.out; omega) hst1.out.1 (-1)
    have hrun' := Lib.hid hrun
    have hRp' := Lib.hid (hR1.out.trans hRp)
    clear hrun hRp
    go_wp2_with (at_builtin; go_must (refine wpList_append_run rfl (Operand.tmp 15) (Operand.tmp 16) _ _ _ _ _ _ rfl rfl rfl hrun'.out ?_))
    go_ret
    exact ⟨by rw [hbe.out]; rfl, _, _, by rw [hbe.out]; simpa using hRp'.out.ahead hb1'.out⟩
  · by_cases hBr : sg = ⟨#[123]⟩
    · subst hBr
      rw [decide_eq_true rfl] at k2
      rw [decide_eq_false hA] at k1
      have hbe : Hid (behS t rest.head? st = ([], 0 :: st, false)) := by unfold Hid behS; rw [if_neg (by rw [k1]; simp), if_pos k2]
      clear k1 k2 k3 hA
      go_enter Tryz.func17, Tryz.ntmps17
      go_upto_region 1 with (fail)
      rw [hW1'.out]
      go_wp2_with fail
      refine hsg.out.mono ?_
      rintro e V ⟨rfl, hB⟩
      have hR1 : Hid (MkR base mb W1 o s V o ts s st) := (MkR.refl h1'.out).below hB
      have hxV := Lib.hid (hx1'.out.below hB)
      clear hB
      obtain ⟨oa, oc, sa, sc, hoe, rfl, _, _⟩ := hR1.out.st.forms
      clear hoe
      obtain ⟨⟨c0, c1⟩, cf⟩ := hR1.out.st.box.cells
      obtain ⟨va, vc, w3, hrun, hb0, hf0, hRp⟩ := push_run V V hR1.out.st (Below.refl _ _) (by have := hR1.out.keep.size; have := hz1'.out; omega) hst1.out.1 (0)
      have hrun' := Lib.hid hrun
      have hRp' := Lib.hid (hR1.out.trans hRp)
      clear hrun hRp
      go_wp2_with (at_builtin; go_must (refine wpList_append_run rfl (Operand.tmp 26) (Operand.tmp 27) _ _ _ _ _ _ rfl rfl rfl hrun'.out ?_))
      go_ret
      exact ⟨by rw [hbe.out]; rfl, _, _, by rw [hbe.out]; simpa using hRp'.out.ahead hb1'.out⟩
    · by_cases hC : sg = ⟨#[111, 102]⟩ ∨ sg = ⟨#[100, 111]⟩ ∨ sg = ⟨#[100, 111, 115]⟩
      · have k1' : Hid (keyT t pOpen = false) := by unfold Hid; rw [k1, decide_eq_false hA]
        have k2' : Hid (keyT t bOpen = false) := by unfold Hid; rw [k2, decide_eq_false hBr]
        have k3' : Hid (blockT t = true) := by unfold Hid; rw [k3]; simpa [or_assoc] using hC
        clear k1 k2 k3
        have hA' := str_ne (l := [40]) hA
        have hB' := str_ne (l := [123]) hBr
        clear hA hBr
        go_enter Tryz.func17, Tryz.ntmps17
        go_upto_region 1 with (fail)
        rw [hW1'.out]
        go_wp2_with fail
        refine hsg.out.mono ?_
        rintro e V ⟨rfl, hB⟩
        have hR1 : Hid (MkR base mb W1 o s V o ts s st) := (MkR.refl h1'.out).below hB
        have hxV := Lib.hid (hx1'.out.below hB)
        clear hB
        go_upto_if 20 with (fail)
        refine wp_cond_false rfl ?_
        go_step
        go_cut [31, 32, 33, 34] from 31 to 35 (fun a31 _ _ _ X => a31 = .bool true ∧ X = V)
        case first =>
          rcases hC with rfl | rfl | rfl
          all_goals
            go_wp2_with fail
            go_meet
            case rel => exact ⟨rfl, rfl⟩
        case rest =>
        obtain ⟨rfl, rfl⟩ := hcut
        clear hC
        cases rest with
        | nil =>
          have hbe : Hid (behS t ([] : List Tk).head? st = ([mkT bOpen t, mkT bShut t], st, false)) := by
            unfold Hid behS
            rw [if_neg (by rw [k1'.out]; simp), if_neg (by rw [k2'.out]; simp), if_pos k3'.out]
            rfl
          rw [List.length_nil]
          go_wp2_with fail
          go_quiet (fail)
          have hx0 := Lib.hid (hR1.out.below (below_drewN' (Below.refl _ wc) nq))
          obtain ⟨⟨d0, d1, d2, d3, d4⟩, _⟩ := (show Box5 _ 34 W.heap.size _ _ _ _ _ from MkR.box h'.out (by have := hz1'.out; omega) hx1'.out hx0.out).cells
          have hp1 := Lib.hid (hpa.out _ _ _ _ _ hx0.out hst1.out.2.1 bOpen t)
          go_wp2_with fail
          refine hp1.out.mono ?_
          rintro e V2 ⟨rfl, va, vc, hR3⟩
          have hR3' := Lib.hid (hx0.out.trans hR3)
          clear hR3 d0 d1 d2 d3 d4
          obtain ⟨⟨d0, d1, d2, d3, d4⟩, _⟩ := (show Box5 _ 34 W.heap.size _ _ _ _ _ from MkR.box h'.out (by have := hz1'.out; omega) hx1'.out hR3'.out).cells
          have hp2 := Lib.hid (hpa.out _ _ _ _ _ hR3'.out (by have := hst1.out.2.2; simpa using this) bShut t)
          go_wp2_with fail
          refine hp2.out.mono ?_
          rintro e V3 ⟨rfl, va2, vc2, hR4⟩
          have hR4' := Lib.hid (hR3'.out.trans hR4)
          clear hR4 d0 d1 d2 d3 d4
          go_wp2_with fail
          go_ret
          exact ⟨by rw [hbe.out]; rfl, _, _, by rw [hbe.out]; simpa using hR4'.out.ahead hb1'.out⟩
        | cons u r =>
          obtain ⟨b, off, rfl, hc⟩ := hrow.at (by simp)
          obtain ⟨g0, g1, g2, g3, g4⟩ := hc 0 (by simp)
          simp only [Nat.zero_mul, Nat.add_zero, List.getElem_cons_zero] at g0 g1 g2 g3 g4
          have hgs := Lib.hid (fun (X : World) (o' s' : Value) (ts' : List Tk) (st' : List Int) (hX : MkR base mb W1 o s X o' ts' s' st') => (⟨Keeps.of_below (hlow.out X o' s' ts' st' hX) _ _ g0, Keeps.of_below (hlow.out X o' s' ts' st' hX) _ _ g1, Keeps.of_below (hlow.out X o' s' ts' st' hX) _ _ g2, Keeps.of_below (hlow.out X o' s' ts' st' hX) _ _ g3, Keeps.of_below (hlow.out X o' s' ts' st' hX) _ _ g4⟩ : X.cell? ⟨b, off, none⟩ = some (.int .i64 u.kind) ∧ X.cell? ⟨b, off + 1, none⟩ = some (.string (tS u.text)) ∧ X.cell? ⟨b, off + 2, none⟩ = some (.int .i64 u.num) ∧ X.cell? ⟨b, off + 3, none⟩ = some (.int .i64 u.line) ∧ X.cell? ⟨b, off + 4, none⟩ = some (.int .i64 u.col)))
          clear hc g0 g1 g2 g3 g4
          obtain ⟨g0, g1, g2, g3, g4⟩ := hgs.out _ _ _ _ _ hR1.out
          have hsu := Lib.hid (lay_sign u wc)
          have ku := keyT_sign u bOpen (by decide)
          obtain ⟨su, hsue⟩ : ∃ su, tS (sgnT u) = su := ⟨_, rfl⟩
          rw [hsue] at hsu ku
          have hp2 : tS bOpen = ⟨#[123]⟩ := rfl
          rw [hp2] at ku
          unfold tkV at hsu
          clear hsue hp2
          rw [List.length_cons]
          by_cases hU : su = ⟨#[123]⟩
          · subst hU
            rw [decide_eq_true rfl] at ku
            have hbe : Hid (behS t (u :: r).head? st = ([], st, false)) := by
              unfold Hid behS
              rw [if_neg (by rw [k1'.out]; simp), if_neg (by rw [k2'.out]; simp), if_pos k3'.out]
              simp only [List.head?_cons]
              rw [if_pos ku]
            clear ku
            go_wp2_with fail
            refine hsu.out.mono ?_
            rintro e V2 ⟨rfl, hB⟩
            have hR2 := Lib.hid (hR1.out.below hB)
            clear hB
            go_wp2_with fail
            go_ret
            exact ⟨by rw [hbe.out]; rfl, _, _, by rw [hbe.out]; simpa using hR2.out.ahead hb1'.out⟩
          · rw [decide_eq_false hU] at ku
            have hU' := str_ne (l := [123]) hU
            clear hU
            by_cases hcl : colS st < u.col
            · have hbe : Hid (behS t (u :: r).head? st = ([mkT bOpen u], u.col :: st, true)) := by
                unfold Hid behS
                rw [if_neg (by rw [k1'.out]; simp), if_neg (by rw [k2'.out]; simp), if_pos k3'.out]
                simp only [List.head?_cons]
                rw [if_neg (by rw [ku]; simp), if_pos hcl]
              have hd : decide (colS st < u.col) = true := decide_eq_true hcl
              have hg : decide ((0 : Int) < (r.length : Int) + 1) = true := by rw [decide_eq_true_eq]; omega
              clear ku hcl
              go_wp2_with fail
              refine hsu.out.mono ?_
              rintro e V2 ⟨rfl, hB⟩
              have hR2 := Lib.hid (hR1.out.below hB)
              have hcol := Lib.hid (fun n => lay_column (V2.drewN n) (hR2.out.st.below (below_drewN' (Below.refl _ _) n)) hst1.out.1)
              clear hB g0 g1 g2 g3 g4
              obtain ⟨g0, g1, g2, g3, g4⟩ := hgs.out _ _ _ _ _ hR2.out
              go_wp2_with fail
              go_quiet (first | (go_at_call 34; refine Calls.quiet_of_same (hcol.out _)))
              have hx0 := Lib.hid (hR2.out.below (below_drewN' (Below.refl _ V2) nq))
              have hp1 := Lib.hid (hpa.out _ _ _ _ _ hx0.out hst1.out.2.1 bOpen u)
              go_wp2_with fail
              refine hp1.out.mono ?_
              rintro e V3 ⟨rfl, va, vc, hR3⟩
              have hR3' := Lib.hid (hx0.out.trans hR3)
              clear hR3 g0 g1 g2 g3 g4
              obtain ⟨g0, g1, g2, g3, g4⟩ := hgs.out _ _ _ _ _ hR3'.out
              obtain ⟨oa, oc, sa, sc, hoe, rfl, _, _⟩ := hR3'.out.st.forms
              clear hoe
              go_upto_region 14 with (fail)
              have hR3q := hR3'
              obtain ⟨o3, ho3⟩ : ∃ x, (Value.slice va (ts.length + 1) vc) = x := ⟨_, rfl⟩
              obtain ⟨ts3, hts3⟩ : ∃ x, ts ++ [mkT bOpen u] = x := ⟨_, rfl⟩
              have hR3q : Hid (MkR base mb W1 o (.slice sa st.length sc) V3 o3 ts3 (.slice sa st.length sc) st) := by rw [← ho3, ← hts3]; exact hR3'.out
              have hbe : Hid (behS t (u :: r).head? st = ([mkT bOpen u], u.col :: st, true)) := hbe
              have hts3' := Lib.hid hts3
              clear ho3 hts3 hR3'
              obtain ⟨W2, hW2⟩ : ∃ X, V3.drew.alloc (.cells #[.int .i64 u.col] 3) = X := ⟨_, rfl⟩
              have hap0 := push_run V3 V3.drew hR3q.out.st (Below.refl _ _).drew (by have := hR3q.out.keep.size; have := hz1'.out; omega) hst1.out.1 u.col
              rw [hW2] at hap0
              have hap := Lib.hid hap0
              have hb2 : Below V3.heap.size V3 W2 := by rw [← hW2]; exact ((Below.refl _ V3).drew).alloc (Nat.le_refl _) _
              have hst : Hid (∀ X, (X = V3.drew ∨ X = W2) → X.cell? ⟨mb, 1, none⟩ = some (.slice sa st.length sc) ∧ X.cell? ⟨b, off + 4, none⟩ = some (.int .i64 u.col) ∧ X.frozen? ⟨mb, 1, none⟩ = false) := by
                intro X hX
                have hb : Below V3.heap.size V3 X := by
                  rcases hX with rfl | rfl
                  · exact (Below.refl _ _).drew
                  · exact hb2
                obtain ⟨⟨_, c1⟩, cf⟩ := (hR3q.out.st.box.below hb).cells
                exact ⟨c1, Keeps.of_below hb _ _ g4, cf 1⟩
              have hW2q : Hid (V3.drew.alloc (.cells #[.int .i64 u.col] 3) = W2) := hW2
              clear hap0 hb2 hW2 g0 g1 g2 g3 g4 d0 d1 d2 d3 d4
              refine wp_region_inv (fun f a Vr => ∃ x : Nat → Value, a = ⟨#[.pointer (some ⟨mb, 0, none⟩), .agg #[.int .i64 t.kind, .string (tS t.text), .int .i64 t.num, .int .i64 t.line, .int .i64 t.col], .slice (some ⟨b, off, none⟩) (r.length + 1) cap, undef, .pointer (some ⟨W.heap.size, 0, none⟩), undef, .bool false, .agg #[.int .i64 t.kind, .string (tS t.text), .int .i64 t.num, .int .i64 t.line, .int .i64 t.col], .string sg, .bool false, .bool false, undef, undef, undef, undef, undef, undef, undef, undef, undef, .bool false, .bool false, undef, undef, undef, undef, undef, undef, undef, undef, undef, .bool true, u32, u33, u34, u35, undef, undef, undef, undef, undef, .bool false, .slice (some ⟨b, off, none⟩) (r.length + 1) cap, .int .i64 (↑r.length + 1), .bool true, .bool true, .slice (some ⟨b, off, none⟩) (r.length + 1) cap, .pointer (some ⟨b, off, none⟩), .agg #[.int .i64 u.kind, .string (tS u.text), .int .i64 u.num, .int .i64 u.line, .int .i64 u.col], .string su, .bool false, .bool false, .bool true, .slice (some ⟨b, off, none⟩) (r.length + 1) cap, .int .i64 (↑r.length + 1), .bool true, .bool true, .slice (some ⟨b, off, none⟩) (r.length + 1) cap, .pointer (some ⟨b, off, none⟩), .pointer (some ⟨b, off + 4, none⟩), .int .i64 u.col, .pointer (some ⟨mb, 0, none⟩), .int .i64 (colS st), .bool true, .bool true, .pointer (some ⟨mb, 0, none⟩), .slice (some ⟨b, off, none⟩) (r.length + 1) cap, .pointer (some ⟨b, off, none⟩), .agg #[.int .i64 u.kind, .string (tS u.text), .int .i64 u.num, .int .i64 u.line, .int .i64 u.col], .tuple #[], x 0, x 1, x 2, x 3, x 4, x 5, x 6, x 7, x 8, x 9, x 10, x 11, x 12], []⟩ ∧ (f 9 = false → Vr = V3.drew) ∧ (f 9 = true → f 10 = false → Vr = W2) ∧ (f 10 = true → f 13 = false → ∃ va vc, (x 10) = .slice va (st.length + 1) vc ∧ Vr.cell? ⟨mb, 1, none⟩ = some (.slice sa st.length sc) ∧ Vr.frozen? ⟨mb, 1, none⟩ = false ∧ MkR base mb V3 o3 (.slice sa st.length sc) (Vr.setCell ⟨mb, 1, none⟩ (.slice va (st.length + 1) vc)) o3 ts3 (.slice va (st.length + 1) vc) (u.col :: st)) ∧ (f 13 = true → ∃ va vc, MkR base mb V3 o3 (.slice sa st.length sc) Vr o3 ts3 (.slice va (st.length + 1) vc) (u.col :: st)) ∧ VO [some (.pointer (some ⟨mb, 0, none⟩)), some (.pointer (some ⟨mb, 0, none⟩)), some (.pointer (some ⟨mb, 0, none⟩)), some (.pointer (some ⟨mb, 1, none⟩)), some (.slice sa st.length sc), some (.slice (some ⟨b, off, none⟩) (r.length + 1) cap), some (.pointer (some ⟨b, off, none⟩)), some (.pointer (some ⟨b, off + 4, none⟩)), some (.int .i64 u.col), some (.slice (some ⟨V3.heap.size, 0, none⟩) 1 1), none, some (.pointer (some ⟨mb, 0, none⟩)), some (.pointer (some ⟨mb, 1, none⟩)), none] f x) (by kernel_rfl) (by kernel_rfl) (rs := [0, 1, 2, 3, 4, 5, 6, 7, 8, 9, 10, 11, 12, 13]) (by kernel_rfl) ?start ?steps ?last
              case start => exact ⟨fun _ => undef, rfl, fun _ => rfl, by simp, by simp, by simp, VO.nil _ _⟩
              case steps =>
                refine (KeepsI.cons (ds := []) rfl (by kernel_rfl) ?s0 (KeepsI.cons (ds := []) rfl (by kernel_rfl) ?s1 (KeepsI.cons (ds := [1]) rfl (by kernel_rfl) ?s2 (KeepsI.cons (ds := [2]) rfl (by kernel_rfl) ?s3 (KeepsI.cons (ds := [3]) rfl (by kernel_rfl) ?s4 (KeepsI.cons (ds := []) rfl (by kernel_rfl) ?s5 (KeepsI.cons (ds := [5]) rfl (by kernel_rfl) ?s6 (KeepsI.cons (ds := [6]) rfl (by kernel_rfl) ?s7 (KeepsI.cons (ds := [7]) rfl (by kernel_rfl) ?s8 (KeepsI.cons (ds := [8]) rfl (by kernel_rfl) ?s9 (KeepsI.cons (ds := [4, 9]) rfl (by kernel_rfl) ?s10 (KeepsI.cons (ds := [0]) rfl (by kernel_rfl) ?s11 (KeepsI.cons (ds := [11]) rfl (by kernel_rfl) ?s12 (KeepsI.cons (ds := [12, 10]) rfl (by kernel_rfl) ?s13 KeepsI.nil))))))))))))))
                all_goals (intro f a Vr hf hd hcl hI K' hK; obtain ⟨x, rfl, c0, c1, c2, c3, hx⟩ := hI)
                case s0 =>
                  go_simp
                  exact hK _ _ ⟨(upd x 0 (.pointer (some ⟨mb, 0, none⟩))), rfl, c0, c1, c2, c3, (hx.set 0 rfl)⟩
                case s1 =>
                  go_simp
                  exact hK _ _ ⟨(upd x 1 (.pointer (some ⟨mb, 0, none⟩))), rfl, c0, c1, c2, c3, (hx.set 1 rfl)⟩
                case s2 =>
                  have e1 := hx.get 1 rfl (hd 1 (by simp))
                  rw [e1]
                  clear e1
                  go_simp
                  exact hK _ _ ⟨(upd (upd x 1 (.pointer (some ⟨mb, 0, none⟩))) 2 (.pointer (some ⟨mb, 0, none⟩))), rfl, c0, c1, c2, c3, ((hx.put 1 rfl).set 2 rfl)⟩
                case s3 =>
                  have e2 := hx.get 2 rfl (hd 2 (by simp))
                  rw [e2]
                  clear e2
                  go_simp
                  exact hK _ _ ⟨(upd (upd x 2 (.pointer (some ⟨mb, 0, none⟩))) 3 (.pointer (some ⟨mb, 1, none⟩))), rfl, c0, c1, c2, c3, ((hx.put 2 rfl).set 3 rfl)⟩
                case s4 =>
                  have e3 := hx.get 3 rfl (hd 3 (by simp))
                  rw [e3]
                  clear e3
                  have n10 : f 10 = false := by cases h : f 10; rfl; exact absurd (hcl 10 4 (by kernel_rfl) (h)) (by rw [hf]; simp)
                  have n13 : f 13 = false := by cases h : f 13; rfl; exact absurd (hcl 10 4 (by kernel_rfl) (hcl 13 10 (by kernel_rfl) (h))) (by rw [hf]; simp)
                  have hv : Vr = V3.drew ∨ Vr = W2 := by cases h : f 9; exact .inl (c0 h); exact .inr (c1 h n10)
                  obtain ⟨k1, k4, kf⟩ := hst.out Vr hv
                  clear hv
                  clear n10 n13
                  go_simp
                  exact hK _ _ ⟨(upd (upd x 3 (.pointer (some ⟨mb, 1, none⟩))) 4 (.slice sa st.length sc)), rfl, c0, c1, c2, c3, ((hx.put 3 rfl).set 4 rfl)⟩
                case s5 =>
                  go_simp
                  exact hK _ _ ⟨(upd x 5 (.slice (some ⟨b, off, none⟩) (r.length + 1) cap)), rfl, c0, c1, c2, c3, (hx.set 5 rfl)⟩
                case s6 =>
                  have e5 := hx.get 5 rfl (hd 5 (by simp))
                  rw [e5]
                  clear e5
                  go_simp
                  exact hK _ _ ⟨(upd (upd x 5 (.slice (some ⟨b, off, none⟩) (r.length + 1) cap)) 6 (.pointer (some ⟨b, off, none⟩))), rfl, c0, c1, c2, c3, ((hx.put 5 rfl).set 6 rfl)⟩
                case s7 =>
                  have e6 := hx.get 6 rfl (hd 6 (by simp))
                  rw [e6]
                  clear e6
                  go_simp
                  exact hK _ _ ⟨(upd (upd x 6 (.pointer (some ⟨b, off, none⟩))) 7 (.pointer (some ⟨b, off + 4, none⟩))), rfl, c0, c1, c2, c3, ((hx.put 6 rfl).set 7 rfl)⟩
                case s8 =>
                  have e7 := hx.get 7 rfl (hd 7 (by simp))
                  rw [e7]
                  clear e7
                  have n9 : f 9 = false := by cases h : f 9; rfl; exact absurd (hcl 9 8 (by kernel_rfl) (h)) (by rw [hf]; simp)
                  have n10 : f 10 = false := by cases h : f 10; rfl; exact absurd (hcl 9 8 (by kernel_rfl) (hcl 10 9 (by kernel_rfl) (h))) (by rw [hf]; simp)
                  have n13 : f 13 = false := by cases h : f 13; rfl; exact absurd (hcl 9 8 (by kernel_rfl) (hcl 10 9 (by kernel_rfl) (hcl 13 10 (by kernel_rfl) (h)))) (by rw [hf]; simp)
                  have hv : Vr = V3.drew ∨ Vr = W2 := by cases h : f 9; exact .inl (c0 h); exact .inr (c1 h n10)
                  obtain ⟨k1, k4, kf⟩ := hst.out Vr hv
                  clear hv
                  clear n9 n10 n13
                  go_simp
                  exact hK _ _ ⟨(upd (upd x 7 (.pointer (some ⟨b, off + 4, none⟩))) 8 (.int .i64 u.col)), rfl, c0, c1, c2, c3, ((hx.put 7 rfl).set 8 rfl)⟩
                case s9 =>
                  have e8 := hx.get 8 rfl (hd 8 (by simp))
                  rw [e8]
                  clear e8
                  have n10 : f 10 = false := by cases h : f 10; rfl; exact absurd (hcl 10 9 (by kernel_rfl) (h)) (by rw [hf]; simp)
                  have n13 : f 13 = false := by cases h : f 13; rfl; exact absurd (hcl 10 9 (by kernel_rfl) (hcl 13 10 (by kernel_rfl) (h))) (by rw [hf]; simp)
                  have e := c0 hf
                  subst e
                  have hW2 := hW2q.out
                  go_simp
                  exact hK _ _ ⟨upd (upd x 8 (.int .i64 u.col)) 9 (.slice (some ⟨V3.heap.size, 0, none⟩) 1 1), rfl, fun h => (nomatch h), fun _ _ => rfl, fun h => absurd h (by simp [n10]), fun h => absurd h (by simp [n13]), (hx.put 8 rfl).set 9 rfl⟩
                case s10 =>
                  have e4 := hx.get 4 rfl (hd 4 (by simp))
                  have e9 := hx.get 9 rfl (hd 9 (by simp))
                  rw [e4, e9]
                  clear e4 e9
                  have n13 : f 13 = false := by cases h : f 13; rfl; exact absurd (hcl 13 10 (by kernel_rfl) (h)) (by rw [hf]; simp)
                  have y9 : f 9 = true := hd 9 (by simp)
                  have e := c1 y9 hf
                  subst e
                  obtain ⟨va, vc, w3, hrun, hb0, hf0, hR⟩ := hap.out
                  refine wanted_run (by rfl) ?_
                  refine wp_append_run (.tmp 74) (.tmp 79) 37 _ _ _ _ _ rfl rfl rfl hrun ?_
                  exact hK _ _ ⟨upd (upd (upd x 4 (.slice sa st.length sc)) 9 (.slice (some ⟨V3.heap.size, 0, none⟩) 1 1)) 10 (.slice va (st.length + 1) vc), rfl, fun h => absurd h (by simp [y9]), fun _ h => (nomatch h), fun _ _ => ⟨va, vc, rfl, hb0, hf0, hR⟩, fun h => absurd h (by simp [n13]), VO.free ((hx.put 4 rfl).put 9 rfl) 10 rfl _⟩
                case s11 =>
                  have e0 := hx.get 0 rfl (hd 0 (by simp))
                  rw [e0]
                  clear e0
                  go_simp
                  exact hK _ _ ⟨(upd (upd x 0 (.pointer (some ⟨mb, 0, none⟩))) 11 (.pointer (some ⟨mb, 0, none⟩))), rfl, c0, c1, c2, c3, ((hx.put 0 rfl).set 11 rfl)⟩
                case s12 =>
                  have e11 := hx.get 11 rfl (hd 11 (by simp))
                  rw [e11]
                  clear e11
                  go_simp
                  exact hK _ _ ⟨(upd (upd x 11 (.pointer (some ⟨mb, 0, none⟩))) 12 (.pointer (some ⟨mb, 1, none⟩))), rfl, c0, c1, c2, c3, ((hx.put 11 rfl).set 12 rfl)⟩
                case s13 =>
                  have e12 := hx.get 12 rfl (hd 12 (by simp))
                  rw [e12]
                  clear e12
                  have y9 : f 9 = true := hcl 10 9 (by kernel_rfl) (hd 10 (by simp))
                  have y10 : f 10 = true := hd 10 (by simp)
                  obtain ⟨va, vc, hx10, hb0, hf0, hR⟩ := c2 y10 hf
                  rw [hx10]
                  go_simp
                  exact hK _ _ ⟨upd (upd x 12 (.pointer (some ⟨mb, 1, none⟩))) 10 (.slice va (st.length + 1) vc), rfl, fun h => absurd h (by simp [y9]), fun _ h => absurd h (by simp [y10]), fun _ h => (nomatch h), fun _ => ⟨va, vc, hR⟩, VO.done (VO.keep (hx.put 12 rfl) 10 rfl _) 13 rfl⟩
              case last =>
                rintro f a Vr hf ⟨x, rfl, c0, c1, c2, c3, hx⟩
                obtain ⟨va, vc, hR⟩ := c3 (hf 13 (by simp))
                have hR5 := Lib.hid (hR3q.out.trans hR)
                clear c0 c1 c2 c3 hx hR
                go_wp2_with fail
                go_ret
                exact ⟨by rw [hbe.out]; rfl, _, _, by rw [hbe.out, hts3'.out]; exact hR5.out.ahead hb1'.out⟩
            · have hbe : Hid (behS t (u :: r).head? st = ([mkT bOpen t, mkT bShut t], st, false)) := by
                unfold Hid behS
                rw [if_neg (by rw [k1'.out]; simp), if_neg (by rw [k2'.out]; simp), if_pos k3'.out]
                simp only [List.head?_cons]
                rw [if_neg (by rw [ku]; simp), if_neg hcl]
              have hd : decide (colS st < u.col) = false := decide_eq_false hcl
              have hg : decide ((0 : Int) < (r.length : Int) + 1) = true := by rw [decide_eq_true_eq]; omega
              clear ku hcl
              go_wp2_with fail
              refine hsu.out.mono ?_
              rintro e V2 ⟨rfl, hB⟩
              have hR2 := Lib.hid (hR1.out.below hB)
              have hcol := Lib.hid (fun n => lay_column (V2.drewN n) (hR2.out.st.below (below_drewN' (Below.refl _ _) n)) hst1.out.1)
              clear hB g0 g1 g2 g3 g4
              obtain ⟨g0, g1, g2, g3, g4⟩ := hgs.out _ _ _ _ _ hR2.out
              go_wp2_with fail
              go_quiet (first | (go_at_call 34; refine Calls.quiet_of_same (hcol.out _)))
              have hx0 := Lib.hid (hR2.out.below (below_drewN' (Below.refl _ V2) nq))
              obtain ⟨⟨d0, d1, d2, d3, d4⟩, _⟩ := (show Box5 _ 34 W.heap.size _ _ _ _ _ from MkR.box h'.out (by have := hz1'.out; omega) hx1'.out hx0.out).cells
              have hp1 := Lib.hid (hpa.out _ _ _ _ _ hx0.out hst1.out.2.1 bOpen t)
              go_wp2_with fail
              refine hp1.out.mono ?_
              rintro e V2 ⟨rfl, va, vc, hR3⟩
              have hR3' := Lib.hid (hx0.out.trans hR3)
              clear hR3 d0 d1 d2 d3 d4
              obtain ⟨⟨d0, d1, d2, d3, d4⟩, _⟩ := (show Box5 _ 34 W.heap.size _ _ _ _ _ from MkR.box h'.out (by have := hz1'.out; omega) hx1'.out hR3'.out).cells
              have hp2 := Lib.hid (hpa.out _ _ _ _ _ hR3'.out (by have := hst1.out.2.2; simpa using this) bShut t)
              go_wp2_with fail
              refine hp2.out.mono ?_
              rintro e V3 ⟨rfl, va2, vc2, hR4⟩
              have hR4' := Lib.hid (hR3'.out.trans hR4)
              clear hR4 d0 d1 d2 d3 d4
              go_wp2_with fail
              go_ret
              exact ⟨by rw [hbe.out]; rfl, _, _, by rw [hbe.out]; simpa using hR4'.out.ahead hb1'.out⟩
      · have hbe : Hid (behS t rest.head? st = ([], st, false)) := by
          unfold Hid behS
          rw [if_neg (by rw [k1, decide_eq_false hA]; simp), if_neg (by rw [k2, decide_eq_false hBr]; simp), if_neg (by rw [k3]; simpa [or_assoc] using hC)]
        have hA' := str_ne (l := [40]) hA
        have hB' := str_ne (l := [123]) hBr
        have hC1 := str_ne (l := [111, 102]) fun e => hC (.inl e)
        have hC2 := str_ne (l := [100, 111]) fun e => hC (.inr (.inl e))
        have hC3 := str_ne (l := [100, 111, 115]) fun e => hC (.inr (.inr e))
        clear hA hBr hC k1 k2 k3
        go_enter Tryz.func17, Tryz.ntmps17
        go_upto_region 1 with (fail)
        rw [hW1'.out]
        go_wp2_with fail
        refine hsg.out.mono ?_
        rintro e V ⟨rfl, hB⟩
        have hR1 : Hid (MkR base mb W1 o s V o ts s st) := (MkR.refl h1'.out).below hB
        clear hB
        go_wp2_with fail
        go_ret
        exact ⟨by rw [hbe.out]; rfl, _, _, by rw [hbe.out]; simpa using hR1.out.ahead hb1'.out⟩
end Go.Proofs.YtchdfjihflmloaaGreatDoor
