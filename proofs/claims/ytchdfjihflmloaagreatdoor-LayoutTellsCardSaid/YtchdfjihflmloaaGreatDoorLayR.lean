/- The layout's shutWhile, and fits, walked. -/
import Derived.Test.YtchdfjihflmloaaGreatDoorLayQ
namespace Go.Proofs.YtchdfjihflmloaaGreatDoor
open Go.RowKit

/-- The box of a token that lay below, behind calls of the maker's. -/
theorem MkK.box {mb base b : Nat} {o s : Value} {W W' : World} {ts : List Tk} {st : List Int} {ob : Obj} (h : MkK mb o s W W') (hS : MkS base W mb o ts s st) (hx : W.heap[b]? = some ob) (h1 : b ≠ mb) (h2 : o.ownBlock ≠ some b) (h3 : s.ownBlock ≠ some b) : W'.heap[b]? = some ob :=
  (h.block b (blk_lt hx) h1 h2 h3).trans hx
/-- A token's box, made behind what the maker holds. -/
theorem MkR.box {mb base : Nat} {o s o' s' : Value} {W W1 V : World} {ts ts' : List Tk} {st st' : List Int} {ob : Obj} (hS : MkS base W mb o ts s st) (hz : W.heap.size < W1.heap.size) (hx : W1.heap[W.heap.size]? = some ob) (h : MkR base mb W1 o s V o' ts' s' st') : V.heap[W.heap.size]? = some ob :=
  (h.keep.block _ (blk_lt hx) (by have := hS.lt; omega) (fun e => by have := (ownBlock_ge hS.out e).2; omega) (fun e => by have := (ownBlock_ge hS.opn e).2; omega)).trans hx

theorem shutW_stop {p : Int → Bool} {c : Int} {r : List Int} (h : ¬ (0 < c ∧ p c = true)) : shutW p (c :: r) = (0, c :: r) := by rw [shutW, if_neg h]
theorem shutW_go {p : Int → Bool} {c : Int} {r : List Int} (h : 0 < c ∧ p c = true) : shutW p (c :: r) = ((shutW p r).1 + 1, (shutW p r).2) := by rw [shutW, if_pos h]
theorem shutW_len (p : Int → Bool) : ∀ st : List Int, (shutW p st).1 + (shutW p st).2.length = st.length
  | [] => rfl
  | c :: r => by
    by_cases h : 0 < c ∧ p c = true
    · rw [shutW_go h]; have := shutW_len p r; simp; omega
    · rw [shutW_stop h]; simp

set_option maxHeartbeats 4000000 in
set_option maxRecDepth 100000 in
theorem lay_shutWhile {base mb : Nat} {o s : Value} {ts : List Tk} {st : List Int} (p : Int → Bool) (t : Tk) (g : Nat) (lb : Array Value) (W : World) (h : MkS base W mb o ts s st) (hbz : base ≤ W.heap.size) (hl : ts.length + st.length ≤ 1000000)
    (his : ∀ (V : World), MkK mb o s W V → ∀ c : Int, Calls Tryz.prog g (#[.int .i64 c] ++ lb) V fun e V' => e = .returned (.bool (p c)) ∧ V' = V)
    (henter : ∀ args w, (callFunc g args).run Tryz.prog w = .ok (.enter g args) w) :
    Calls Tryz.prog 13 #[.pointer (some ⟨mb, 0, none⟩), tkV t, .func (.func g) #[] lb] W fun e W' => e = .returned (.tuple #[]) ∧ ∃ o' s', MkR base mb W o s W' o' (ts ++ List.replicate (shutW p st).1 (mkT bShut t)) s' (shutW p st).2 := by
  obtain ⟨W1, hW1⟩ : ∃ V, W.alloc (.cells #[.int .i64 t.kind, .string (tS t.text), .int .i64 t.num, .int .i64 t.line, .int .i64 t.col] 34) = V := ⟨_, rfl⟩
  have hb1 : Below W.heap.size W W1 := by rw [← hW1]; exact (Below.refl _ _).alloc (Nat.le_refl _) _
  have hx1 : Box5 W1 34 W.heap.size (.int .i64 t.kind) (.string (tS t.text)) (.int .i64 t.num) (.int .i64 t.line) (.int .i64 t.col) := by rw [← hW1]; exact blk_new (Below.refl _ _)
  have hz1 : W1.heap.size = W.heap.size + 1 := by rw [← hW1]; simp
  have hW1' := Lib.hid hW1
  have hb1' := Lib.hid hb1
  have hx1' := Lib.hid hx1
  have hz1' := Lib.hid hz1
  have h1' := Lib.hid (h.below hb1)
  have h' := Lib.hid h
  have his' := Lib.hid his
  clear hW1 hb1 hx1 hz1 h his
  unfold tkV
  go_enter Tryz.func13, Tryz.ntmps13
  go_wp2
  go_step3
  go_wp2
  go_step3
  go_wp2
  rw [hW1'.out]
  go_loopg [6] st.length (fun k _ wr => ∃ (o1 s1 : Value) (ts1 : List Tk) (st1 : List Int), k = st1.length ∧ Hid (MkR base mb W1 o s wr o1 ts1 s1 st1) ∧ Hid (ts1 ++ List.replicate (shutW p st1).1 (mkT bShut t) = ts ++ List.replicate (shutW p st).1 (mkT bShut t)) ∧ Hid ((shutW p st1).2 = (shutW p st).2) ∧ Hid (ts1.length + st1.length = ts.length + st.length))
  case atStart => exact ⟨o, s, ts, st, rfl, MkR.refl h1'.out, rfl, rfl, rfl⟩
  case round =>
    obtain ⟨o1, s1, ts1, st1, rfl, hR, hA, hS, hN⟩ := hrel
    have hbR := hR.out.st.forms
    obtain ⟨oa, oc, sa, sc, rfl, rfl, _, _⟩ := hbR
    obtain ⟨⟨c0, c1⟩, cf⟩ := hR.out.st.box.cells
    have hxr := Lib.hid (hR.out.box h'.out (by have := hz1'.out; omega) hx1'.out)
    obtain ⟨⟨d0, d1, d2, d3, d4⟩, _⟩ := (show Box5 wr 34 W.heap.size (.int .i64 t.kind) (.string (tS t.text)) (.int .i64 t.num) (.int .i64 t.line) (.int .i64 t.col) from hxr.out).cells
    have hkr : Hid (MkK mb o s W wr) := (MkK.of_below hb1'.out).trans (Nx.refl _ _) (Nx.refl _ _) hR.out.keep
    cases st1 with
    | nil =>
      rw [List.length_nil] at c1
      have hfin : Hid (∃ o' s', MkR base mb W o s wr o' (ts ++ List.replicate (shutW p st).1 (mkT bShut t)) s' (shutW p st).2) := by
        unfold Hid
        rw [← hS.out, ← hA.out]
        simp only [shutW, List.replicate_zero, List.append_nil]
        exact ⟨_, _, hR.out.ahead hb1'.out⟩
      clear c0 d0 d1 d2 d3 d4
      go_wp2_with fail
      dsimp only [Exit.noGoto]
      go_end0
      exact ⟨rfl, hfin.out⟩
    | cons c r =>
      have hlr : Hid ((c :: r).length ≤ 1000000) := by have := hN.out; unfold Hid; omega
      rw [List.length_cons] at c1
      have hlast : Hid (Calls Tryz.prog 15 #[.pointer (some ⟨mb, 0, none⟩)] wr fun e W' => e = .returned (.int .i64 c) ∧ ∃ n, W' = wr.drewN n) := lay_last wr hR.out.st hlr.out
      by_cases hc : 0 < c
      · have hc1 : ¬ c ≤ 0 := by omega
        have hic := Lib.hid (fun n => his'.out (wr.drewN n) (hkr.out.trans (Nx.refl _ _) (Nx.refl _ _) (MkK.of_below (below_drewN' (Below.refl _ _) n))) c)
        have hcp := Lib.hid hc
        clear hc
        cases hp : p c
        · rw [hp] at hic
          have hpf := Lib.hid hp
          clear hp
          go_wp2_with fail
          refine hlast.out.mono ?_
          rintro e V ⟨rfl, n, rfl⟩
          have hie := hic.out n
          go_wp2_with (refine hie.mono ?_; rintro e V ⟨rfl, rfl⟩)
          have hfin : Hid (∃ o' s', MkR base mb W o s (wr.drewN n) o' (ts ++ List.replicate (shutW p st).1 (mkT bShut t)) s' (shutW p st).2) := by
            unfold Hid
            rw [← hS.out, ← hA.out, shutW_stop (fun h => by rw [hpf.out] at h; cases h.2)]
            simp only [List.replicate_zero, List.append_nil]
            exact ⟨_, _, (hR.out.below (below_drewN' (Below.refl _ _) n)).ahead hb1'.out⟩
          dsimp only [Exit.noGoto]
          go_end0
          exact ⟨rfl, hfin.out⟩
        · rw [hp] at hic
          have hpf := Lib.hid hp
          clear hp
          have hr1 : Hid (ts1.length ≤ 1000000 ∧ r.length ≤ 1000000) := by have := hN.out; rw [List.length_cons] at this; unfold Hid; omega
          have hput := Lib.hid (fun n => lay_put bShut t (wr.drewN n) (hR.out.below (below_drewN' (Below.refl _ _) n)).st (by have := hb1'.out.size; have := hR.out.keep.size; simp; omega) hr1.out.1)
          unfold tkV at hput
          go_wp2_with fail
          refine hlast.out.mono ?_
          rintro e V ⟨rfl, n, rfl⟩
          have hie := hic.out n
          have hpu := Lib.hid (hput.out n)
          have hdn : ∀ i, (wr.drewN n).cell? i = wr.cell? i := fun i => rfl
          go_wp2_with (refine hie.mono ?_; rintro e V ⟨rfl, rfl⟩)
          refine hpu.out.mono ?_
          rintro e V ⟨rfl, va, vc, hR2⟩
          have hR3 := Lib.hid ((hR.out.below (below_drewN' (Below.refl _ _) n)).trans hR2)
          have hshut := Lib.hid (lay_shut V hR2.st hr1.out.2)
          clear hR2
          go_wp2_with fail
          refine hshut.out.mono ?_
          rintro e V2 ⟨rfl, sa2, sc2, hR4⟩
          have hR5 := Lib.hid (hR3.out.trans hR4)
          clear hR4
          go_wp2_with fail
          go_roundg r.length
          case measure => simp
          case rel => exact ⟨_, _, _, r, rfl, hR5, by unfold Hid; rw [← hA.out, shutW_go ⟨hcp.out, hpf.out⟩, List.append_assoc, List.singleton_append, ← List.replicate_succ], by unfold Hid; rw [← hS.out, shutW_go ⟨hcp.out, hpf.out⟩], by have := hN.out; unfold Hid; simp at this ⊢; omega⟩
      · have hc1 : c ≤ 0 := by omega
        have hcp := Lib.hid hc
        clear hc
        go_wp2_with fail
        refine hlast.out.mono ?_
        rintro e V ⟨rfl, n, rfl⟩
        go_wp2_with fail
        have hfin : Hid (∃ o' s', MkR base mb W o s (wr.drewN n) o' (ts ++ List.replicate (shutW p st).1 (mkT bShut t)) s' (shutW p st).2) := by
          unfold Hid
          rw [← hS.out, ← hA.out, shutW_stop (fun h => by have h1 := h.1; have h2 := hcp.out; omega)]
          simp only [List.replicate_zero, List.append_nil]
          exact ⟨_, _, (hR.out.below (below_drewN' (Below.refl _ _) n)).ahead hb1'.out⟩
        dsimp only [Exit.noGoto]
        go_end0
        exact ⟨rfl, hfin.out⟩

theorem str_ne {s : Str} {l : Bs} (h : ¬ s = tS l) : (s.toList == l) = false := by
  rw [beq_eq_false_iff_ne]
  intro e
  exact h ((tS_bS s).symm.trans (by rw [← toL, e]))
def fitA (x : Int) (o : List Tk) : List Int → Option (List Tk × List Int)
  | [] => none
  | c :: r => if c = x then some (o, r) else none
theorem fit_round {t : Tk} {st : List Int} (h : keyT t pShut = true) : fitS t st = fitA (-1) (List.replicate (shutW (fun _ => true) st).1 (mkT bShut t)) (shutW (fun _ => true) st).2 := by
  unfold fitS
  rw [if_pos h]
  generalize (shutW (fun _ => true) st).2 = q
  cases q <;> rfl
theorem fit_brace {t : Tk} {st : List Int} (h1 : keyT t pShut = false) (h2 : keyT t bShut = true) : fitS t st = fitA 0 [] st := by
  unfold fitS
  rw [if_neg (by rw [h1]; simp), if_pos h2]
  cases st <;> rfl
set_option maxHeartbeats 4000000 in
set_option maxRecDepth 100000 in
theorem lay_fits {base mb : Nat} {o s : Value} {ts : List Tk} {st : List Int} (t : Tk) (W : World) (h : MkS base W mb o ts s st) (hbz : base ≤ W.heap.size) (hl : ts.length + st.length ≤ 1000000) :
    Calls Tryz.prog 16 #[.pointer (some ⟨mb, 0, none⟩), tkV t] W fun e W' => e = .returned (.bool (fitS t st).isSome) ∧ ∃ o' s' ts' st', MkR base mb W o s W' o' ts' s' st' ∧ ∀ o2 s2, fitS t st = some (o2, s2) → ts' = ts ++ o2 ∧ st' = s2 := by
  obtain ⟨W1, hW1⟩ : ∃ V, W.alloc (.cells #[.int .i64 t.kind, .string (tS t.text), .int .i64 t.num, .int .i64 t.line, .int .i64 t.col] 34) = V := ⟨_, rfl⟩
  have hb1 : Below W.heap.size W W1 := by rw [← hW1]; exact (Below.refl _ _).alloc (Nat.le_refl _) _
  have hx1 : Box5 W1 34 W.heap.size (.int .i64 t.kind) (.string (tS t.text)) (.int .i64 t.num) (.int .i64 t.line) (.int .i64 t.col) := by rw [← hW1]; exact blk_new (Below.refl _ _)
  have hz1 : W1.heap.size = W.heap.size + 1 := by rw [← hW1]; simp
  obtain ⟨⟨d0, d1, d2, d3, d4⟩, _⟩ := hx1.cells
  have hW1' := Lib.hid hW1
  have hb1' := Lib.hid hb1
  have hx1' := Lib.hid hx1
  have hz1' := Lib.hid hz1
  have h1' := Lib.hid (h.below hb1)
  have h' := Lib.hid h
  have hsg := Lib.hid (lay_sign t W1)
  have k1 := keyT_sign t pShut (by decide)
  have k2 := keyT_sign t bShut (by decide)
  obtain ⟨sg, hsge⟩ : ∃ sg, tS (sgnT t) = sg := ⟨_, rfl⟩
  rw [hsge] at hsg k1 k2
  have hp1 : tS pShut = ⟨#[41]⟩ := rfl
  have hp2 : tS bShut = ⟨#[125]⟩ := rfl
  rw [hp1] at k1
  rw [hp2] at k2
  clear hW1 hb1 hx1 hz1 h hsge hp1 hp2
  unfold tkV at hsg ⊢
  by_cases hA : sg = ⟨#[41]⟩
  · subst hA
    rw [decide_eq_true rfl] at k1
    have k1' := Lib.hid k1
    clear k1 k2
    go_enter Tryz.func16, Tryz.ntmps16
    go_upto_region 2 with (fail)
    rw [hW1'.out]
    go_wp2_with fail
    refine hsg.out.mono ?_
    rintro e V ⟨rfl, hB⟩
    have hbV := Lib.hid hB
    obtain ⟨⟨d0, d1, d2, d3, d4⟩, _⟩ := (hx1'.out.below hB).cells
    have hR1 : Hid (MkR base mb W o s V o ts s st) := (MkR.refl h1'.out).below hB |>.ahead hb1'.out
    have hxV := Lib.hid (hx1'.out.below hB)
    have hsw := Lib.hid (lay_shutWhile (fun _ => true) t 18 #[] V hR1.out.st (by have := hR1.out.keep.size; omega) hl (fun V' _ c => lay_all V' c) (enters_of Tryz.func18 (by kernel_rfl) rfl))
    unfold tkV at hsw
    clear hB
    go_wp2_with fail
    refine hsw.out.mono ?_
    rintro e V2 ⟨rfl, o2, s2, hR⟩
    have hR2 := Lib.hid (hR1.out.trans hR)
    have hl2 : Hid ((shutW (fun _ => true) st).2.length ≤ 1000000) := by have := shutW_len (fun _ => true) st; unfold Hid; omega
    have hlast := lay_last V2 hR.st hl2.out
    clear hR
    obtain ⟨n1, hn1⟩ : ∃ n, (shutW (fun _ => true) st).1 = n := ⟨_, rfl⟩
    obtain ⟨q, hq⟩ : ∃ n, (shutW (fun _ => true) st).2 = n := ⟨_, rfl⟩
    have hfit : Hid (fitS t st = fitA (-1) (List.replicate n1 (mkT bShut t)) q) := by
      unfold Hid
      rw [fit_round k1'.out, hq, hn1]
    rw [hn1, hq] at hR2
    rw [hq] at hlast hl2
    clear hn1 hq
    cases q with
    | nil =>
      have hlast : Hid (Calls Tryz.prog 15 #[.pointer (some ⟨mb, 0, none⟩)] V2 fun e W' => e = .returned (.int .i64 (-2)) ∧ ∃ n, W' = V2.drewN n) := hlast
      go_wp2_with fail
      refine hlast.out.mono ?_
      rintro e V3 ⟨rfl, n, rfl⟩
      go_wp2_with fail
      go_ret
      exact ⟨by rw [hfit.out]; rfl, _, _, _, _, hR2.out.below (below_drewN' (Below.refl _ _) n), fun o2 s2 h => by rw [hfit.out] at h; simp [fitA] at h⟩
    | cons c r =>
      have hlast : Hid (Calls Tryz.prog 15 #[.pointer (some ⟨mb, 0, none⟩)] V2 fun e W' => e = .returned (.int .i64 c) ∧ ∃ n, W' = V2.drewN n) := hlast
      by_cases hc : c = -1
      · subst hc
        have hr1 : Hid (r.length ≤ 1000000) := by have := hl2.out; rw [List.length_cons] at this; unfold Hid; omega
        go_wp2_with fail
        refine hlast.out.mono ?_
        rintro e V3 ⟨rfl, n, rfl⟩
        have hR3 := Lib.hid (hR2.out.below (below_drewN' (Below.refl _ _) n))
        have hshut := Lib.hid (lay_shut (V2.drewN n) hR3.out.st hr1.out)
        go_wp2_with fail
        refine hshut.out.mono ?_
        rintro e V4 ⟨rfl, sa2, sc2, hR4⟩
        go_wp2_with fail
        go_ret
        exact ⟨by rw [hfit.out]; rfl, _, _, _, _, hR3.out.trans hR4, fun o2 s2 h => by rw [hfit.out] at h; simp [fitA] at h; obtain ⟨rfl, rfl⟩ := h; exact ⟨rfl, rfl⟩⟩
      · have hc' := Lib.hid hc
        have hcb : (c == -1) = false := by simpa using hc
        go_wp2_with fail
        refine hlast.out.mono ?_
        rintro e V3 ⟨rfl, n, rfl⟩
        go_wp2_with fail
        go_ret
        exact ⟨by rw [hfit.out, fitA, if_neg hc'.out]; rfl, _, _, _, _, hR2.out.below (below_drewN' (Below.refl _ _) n), fun o2 s2 h => by rw [hfit.out, fitA, if_neg hc'.out] at h; cases h⟩
  · by_cases hBr : sg = ⟨#[125]⟩
    · subst hBr
      rw [decide_eq_true rfl] at k2
      rw [decide_eq_false hA] at k1
      have k1' := Lib.hid k1
      have k2' := Lib.hid k2
      clear k1 k2 hA
      have hfit : Hid (fitS t st = fitA 0 [] st) := fit_brace k1'.out k2'.out
      have hl2 : Hid (st.length ≤ 1000000) := by unfold Hid; omega
      go_enter Tryz.func16, Tryz.ntmps16
      go_upto_region 2 with (fail)
      rw [hW1'.out]
      go_wp2_with fail
      refine hsg.out.mono ?_
      rintro e V ⟨rfl, hB⟩
      have hR2 : Hid (MkR base mb W o s V o ts s st) := (MkR.refl h1'.out).below hB |>.ahead hb1'.out
      have hlast := lay_last V hR2.out.st hl2.out
      clear hB
      cases st with
      | nil =>
        have hlast : Hid (Calls Tryz.prog 15 #[.pointer (some ⟨mb, 0, none⟩)] V fun e W' => e = .returned (.int .i64 (-2)) ∧ ∃ n, W' = V.drewN n) := hlast
        go_wp2_with fail
        refine hlast.out.mono ?_
        rintro e V3 ⟨rfl, n, rfl⟩
        go_wp2_with fail
        go_ret
        exact ⟨by rw [hfit.out]; rfl, _, _, _, _, hR2.out.below (below_drewN' (Below.refl _ _) n), fun o2 s2 h => by rw [hfit.out] at h; simp [fitA] at h⟩
      | cons c r =>
        have hlast : Hid (Calls Tryz.prog 15 #[.pointer (some ⟨mb, 0, none⟩)] V fun e W' => e = .returned (.int .i64 c) ∧ ∃ n, W' = V.drewN n) := hlast
        by_cases hc : c = 0
        · subst hc
          have hr1 : Hid (r.length ≤ 1000000) := by have := hl2.out; rw [List.length_cons] at this; unfold Hid; omega
          go_wp2_with fail
          refine hlast.out.mono ?_
          rintro e V3 ⟨rfl, n, rfl⟩
          have hR3 := Lib.hid (hR2.out.below (below_drewN' (Below.refl _ _) n))
          have hshut := Lib.hid (lay_shut (V.drewN n) hR3.out.st hr1.out)
          go_wp2_with fail
          refine hshut.out.mono ?_
          rintro e V4 ⟨rfl, sa2, sc2, hR4⟩
          go_wp2_with fail
          go_ret
          exact ⟨by rw [hfit.out]; rfl, _, _, _, _, hR3.out.trans hR4, fun o2 s2 h => by rw [hfit.out] at h; simp [fitA] at h; obtain ⟨rfl, rfl⟩ := h; exact ⟨by simp, rfl⟩⟩
        · have hc' := Lib.hid hc
          have hcb : (c == 0) = false := by simpa using hc
          go_wp2_with fail
          refine hlast.out.mono ?_
          rintro e V3 ⟨rfl, n, rfl⟩
          go_wp2_with fail
          go_ret
          exact ⟨by rw [hfit.out, fitA, if_neg hc'.out]; rfl, _, _, _, _, hR2.out.below (below_drewN' (Below.refl _ _) n), fun o2 s2 h => by rw [hfit.out, fitA, if_neg hc'.out] at h; cases h⟩
    · rw [decide_eq_false hA] at k1
      rw [decide_eq_false hBr] at k2
      have hfit : Hid (fitS t st = some ([], st)) := by
        unfold Hid fitS
        rw [if_neg (by rw [k1]; simp), if_neg (by rw [k2]; simp)]
      clear k1 k2
      have hA' := str_ne (l := [41]) hA
      have hB' := str_ne (l := [125]) hBr
      clear hA hBr
      go_enter Tryz.func16, Tryz.ntmps16
      go_upto_region 2 with (fail)
      rw [hW1'.out]
      go_wp2_with fail
      refine hsg.out.mono ?_
      rintro e V ⟨rfl, hB⟩
      have hR2 : Hid (MkR base mb W o s V o ts s st) := (MkR.refl h1'.out).below hB |>.ahead hb1'.out
      clear hB
      go_wp2_with fail
      go_ret
      exact ⟨by rw [hfit.out]; rfl, _, _, _, _, hR2.out, fun o2 s2 h => by rw [hfit.out] at h; simp [fitA] at h; obtain ⟨rfl, rfl⟩ := h; exact ⟨by simp, rfl⟩⟩
end Go.Proofs.YtchdfjihflmloaaGreatDoor
