/- The reference's layout: its state as a value; its small functions, walked. -/
import Derived.Test.YtchdfjihflmloaaGreatDoorLayB
import Derived.Test.YtchdfjihflmloaaGreatDoorLayK
namespace Go.Proofs.YtchdfjihflmloaaGreatDoor
open Go.RowKit

/-- A row of columns, the last one first. -/
def ISl (W : World) (a : Option Addr) (c : Nat) (st : List Int) : Prop :=
  ((a = none → c = 0) ∧ st.length ≤ c) ∧ (st = [] ∨ ∃ b off, a = some ⟨b, off, none⟩ ∧ ∀ i (h : i < st.length), W.cell? ⟨b, off + (st.length - 1 - i), none⟩ = some (.int .i64 st[i]))
theorem ISl.keeps {w W : World} {a : Option Addr} {c : Nat} {st : List Int} (h : ISl w a c st) (hk : Keeps w W) : ISl W a c st := by
  refine ⟨h.1, ?_⟩
  rcases h.2 with h | ⟨b, off, e, hc⟩
  · exact .inl h
  · exact .inr ⟨b, off, e, fun i hi => hk _ _ (hc i hi)⟩
theorem ISl.nil (w : World) : ISl w none 0 [] := ⟨⟨fun _ => rfl, Nat.le_refl _⟩, .inl rfl⟩
theorem ISl.top {w : World} {a : Option Addr} {c : Nat} {x : Int} {r : List Int} (h : ISl w a c (x :: r)) : ∃ b off, a = some ⟨b, off, none⟩ ∧ w.cell? ⟨b, off + r.length, none⟩ = some (.int .i64 x) := by
  rcases h.2 with h | ⟨b, off, e, hc⟩
  · cases h
  · refine ⟨b, off, e, ?_⟩
    have := hc 0 (by simp)
    simpa using this
theorem ISl.pop {w : World} {a : Option Addr} {c : Nat} {x : Int} {r : List Int} (h : ISl w a c (x :: r)) : ISl w a c r := by
  refine ⟨⟨h.1.1, by have := h.1.2; simp at this; omega⟩, ?_⟩
  rcases h.2 with h | ⟨b, off, e, hc⟩
  · cases h
  · refine .inr ⟨b, off, e, fun i hi => ?_⟩
    have := hc (i + 1) (by simp; omega)
    simp only [List.length_cons, List.getElem_cons_succ] at this
    rw [show r.length + 1 - 1 - (i + 1) = r.length - 1 - i by omega] at this
    exact this
theorem ISl.cells {w : World} {a : Option Addr} {c : Nat} {st : List Int} (h : ISl w a c st) : ∀ ad, a = some ad → ∀ j u, (iC st)[j]? = some u → w.cell? (ad.add j) = some u := by
  intro ad had j u hj
  rcases h.2 with h | ⟨b, off, e, hc⟩
  · subst h; simp [iC] at hj
  · rw [e] at had
    cases had
    obtain ⟨hj', rfl⟩ := List.getElem?_eq_some_iff.1 hj
    rw [iC_len] at hj'
    rw [addr_plus]
    have := hc (st.length - 1 - j) (by omega)
    rw [show st.length - 1 - (st.length - 1 - j) = j by omega] at this
    rw [this]
    unfold iC
    simp
theorem ISl.own {w : World} {base : Nat} {a : Option Addr} {n c : Nat} {st : List Int} (h : w.ownsRow base 3 1 (.slice a n c) n (iC st)) : n = st.length ∧ ISl w a c st := by
  obtain ⟨hl, h⟩ := h
  rw [iC_len, Nat.mul_one] at hl
  subst hl
  refine ⟨rfl, ?_⟩
  rcases h with ⟨hv, h0⟩ | ⟨g, cap, cur, hv, hb, hh, hnc, hcm, hsz, htk⟩
  · simp only [Value.slice.injEq] at hv
    obtain ⟨rfl, h1, rfl⟩ := hv
    have : st = [] := List.length_eq_zero_iff.1 h1
    exact ⟨⟨fun _ => rfl, by omega⟩, .inl this⟩
  · simp only [Value.slice.injEq, true_and] at hv
    obtain ⟨rfl, rfl⟩ := hv
    refine ⟨⟨fun e => (nomatch e), hnc⟩, .inr ⟨g, 0, rfl, fun i hi => ?_⟩⟩
    have h1 : (iC st)[st.length - 1 - i]? = some (.int .i64 st[i]) := by
      unfold iC
      rw [List.getElem?_map, List.getElem?_reverse (by omega), show st.length - 1 - (st.length - 1 - i) = i by omega, List.getElem?_eq_getElem hi]
      rfl
    rw [← htk, List.getElem?_take] at h1
    split at h1
    · simp [World.cell?, hh]
      simpa using h1
    · cases h1
/-- An empty row, made. -/
theorem own_empty (w : World) {base : Nat} (hb : base ≤ w.heap.size) (e : TypeId) (size : Nat) : (w.alloc (.cells #[] e)).ownsRow base e size (.slice (some ⟨w.heap.size, 0, none⟩) 0 0) 0 [] :=
  ⟨by simp, .inr ⟨w.heap.size, 0, #[], rfl, hb, by simp only [World.alloc]; simp, Nat.le_refl _, by decide, by simp, by simp⟩⟩
/-- The reference's state. -/
def StV (W : World) (v : Value) (ts : List Tk) (st : List Int) : Prop :=
  ∃ a c b d, v = .agg #[.slice a ts.length c, .slice b st.length d] ∧ TkSl W (.slice a ts.length c) ts ∧ ISl W b d st
theorem StV.keeps {w W : World} {v : Value} {ts : List Tk} {st : List Int} (h : StV w v ts st) (hk : Keeps w W) : StV W v ts st := by
  obtain ⟨a, c, b, d, h1, h2, h3⟩ := h
  exact ⟨a, c, b, d, h1, h2.keeps hk, h3.keeps hk⟩

theorem r03_key (t : Tk) (s : Str) (W : World) : Calls Tryz.prog 19 #[tkV t, .string s] W fun e W' => e = .returned (.bool (keyT t (bS s))) ∧ Below W.heap.size W W' := by
  obtain ⟨W1, hW1⟩ : ∃ V, W.alloc (.cells #[.int .i64 t.kind, .string (tS t.text), .int .i64 t.num, .int .i64 t.line, .int .i64 t.col] 34) = V := ⟨_, rfl⟩
  have hb1 : Below W.heap.size W W1 := by rw [← hW1]; exact (Below.refl _ _).alloc (Nat.le_refl _) _
  have hx1 : Box5 W1 34 W.heap.size (.int .i64 t.kind) (.string (tS t.text)) (.int .i64 t.num) (.int .i64 t.line) (.int .i64 t.col) := by rw [← hW1]; exact blk_new (Below.refl _ _)
  obtain ⟨⟨d0, d1, _, _, _⟩, _⟩ := hx1.cells
  have hW1' := Lib.hid hW1
  have hb1' := Lib.hid hb1
  clear hW1 hb1 hx1
  unfold tkV
  obtain ⟨s', rfl⟩ : ∃ s', s = tS s' := ⟨bS s, (tS_bS s).symm⟩
  rw [bS_tS]
  have hse : ((tS t.text).toList == (tS s').toList) = decide (t.text = s') := by rw [toL, toL, bS_tS, bS_tS]; by_cases h : t.text = s' <;> simp [h]
  by_cases h4 : t.kind = 4
  · have k4 : (t.kind == 4) = true := by simpa using h4
    have hr : Hid (keyT t s' = decide (t.text = s')) := by unfold Hid keyT; simp [h4]
    obtain ⟨bb, hbb⟩ : ∃ x, decide (t.text = s') = x := ⟨_, rfl⟩
    rw [hbb] at hse hr
    clear h4 hbb
    go_enter Tryz.func19, Tryz.ntmps19
    go_upto_region 1 with (fail)
    rw [hW1'.out]
    go_wp2_with fail
    go_ret
    exact ⟨by rw [hr.out]; rfl, hb1'.out⟩
  · have k4 : (t.kind == 4) = false := by simpa using h4
    have hr : Hid (keyT t s' = false) := by unfold Hid keyT; simp [h4]
    clear h4 hse
    go_enter Tryz.func19, Tryz.ntmps19
    go_upto_region 1 with (fail)
    rw [hW1'.out]
    go_wp2_with fail
    go_ret
    exact ⟨by rw [hr.out]; rfl, hb1'.out⟩

theorem r03_last {v : Value} {ts : List Tk} {st : List Int} (W : World) (h : StV W v ts st) (hl : st.length ≤ 1000000) :
    Calls Tryz.prog 25 #[v] W fun e W' => e = .returned (.int .i64 (lastS st)) ∧ Below W.heap.size W W' := by
  obtain ⟨a, c, b, d, rfl, h2, h3⟩ := h
  obtain ⟨W1, hW1⟩ : ∃ V, W.alloc (.cells #[.slice a ts.length c, .slice b st.length d] 49) = V := ⟨_, rfl⟩
  have hb1 : Below W.heap.size W W1 := by rw [← hW1]; exact (Below.refl _ _).alloc (Nat.le_refl _) _
  have hx1 : Box2 W1 49 W.heap.size (.slice a ts.length c) (.slice b st.length d) := by rw [← hW1]; exact blk_new (Below.refl _ _)
  obtain ⟨⟨_, d1⟩, _⟩ := hx1.cells
  have hI := h3.keeps (Keeps.of_below hb1)
  have hW1' := Lib.hid hW1
  have hb1' := Lib.hid hb1
  clear hW1 hb1 hx1 h2 h3
  cases st with
  | nil =>
    rw [List.length_nil] at d1 hW1' ⊢
    clear hI
    go_enter Tryz.func25, Tryz.ntmps25
    go_upto_region 1 with (fail)
    rw [hW1'.out]
    go_wp2_with fail
    go_ret
    exact ⟨rfl, hb1'.out⟩
  | cons x r =>
    obtain ⟨b, off, rfl, hc⟩ := hI.top
    rw [List.length_cons] at d1 hl hW1' ⊢
    have hw : IntKind.i64.wrap (r.length : Int) = (r.length : Int) := IntWalk.i64_in _ (by omega)
    clear hI
    go_enter Tryz.func25, Tryz.ntmps25
    go_upto_region 1 with (fail)
    rw [hW1'.out]
    go_wp2_with fail
    go_ret
    exact ⟨rfl, hb1'.out⟩

set_option maxHeartbeats 1000000 in
theorem r03_column {v : Value} {ts : List Tk} {st : List Int} (W : World) (h : StV W v ts st) (hl : st.length ≤ 1000000) :
    Calls Tryz.prog 35 #[v] W fun e W' => e = .returned (.int .i64 (colS st)) ∧ Below W.heap.size W W' := by
  obtain ⟨a, c, b, d, rfl, h2, h3⟩ := h
  obtain ⟨W1, hW1⟩ : ∃ V, W.alloc (.cells #[.slice a ts.length c, .slice b st.length d] 49) = V := ⟨_, rfl⟩
  have hb1 : Below W.heap.size W W1 := by rw [← hW1]; exact (Below.refl _ _).alloc (Nat.le_refl _) _
  have hx1 : Box2 W1 49 W.heap.size (.slice a ts.length c) (.slice b st.length d) := by rw [← hW1]; exact blk_new (Below.refl _ _)
  obtain ⟨⟨_, d1⟩, _⟩ := hx1.cells
  have hI := Lib.hid (h3.keeps (Keeps.of_below hb1))
  have hW1' := Lib.hid hW1
  have hb1' := Lib.hid hb1
  have hw0 : IntKind.i64.wrap ((st.length : Int) - 1) = (st.length : Int) - 1 := IntWalk.i64_in _ (by omega)
  clear hW1 hb1 hx1 h2 h3
  go_enter Tryz.func35, Tryz.ntmps35
  go_upto_region 1 with (fail)
  rw [hW1'.out]
  go_wp2_with fail
  go_loop [3] (fun n => ∃ (k : Nat) (i : Int), k ≤ st.length ∧ n = .int .i64 i ∧ i = (k : Int) - 1 ∧ Hid (colS (st.drop (st.length - k)) = colS st)) (fun n => (intOf n + 1).toNat)
  case atStart => exact ⟨st.length, _, Nat.le_refl _, rfl, rfl, by unfold Hid; simp⟩
  case round =>
    obtain ⟨k, i, hk, rfl, hi, hcs⟩ := hrel
    clear hw0
    cases k with
    | zero =>
      obtain rfl : i = -1 := by omega
      have hcs2 : Hid (colS st = 0) := by have := hcs.out; rw [Nat.sub_zero, List.drop_length] at this; exact this.symm
      clear hi
      go_wp2_with fail
      go_ret
      exact ⟨by rw [hcs2.out]; rfl, hb1'.out⟩
    | succ k =>
      obtain rfl : i = (k : Int) := by omega
      clear hi
      obtain ⟨g, off, rfl, hc⟩ : ∃ b' off, b = some ⟨b', off, none⟩ ∧ ∀ i (h : i < st.length), W1.cell? ⟨b', off + (st.length - 1 - i), none⟩ = some (.int .i64 st[i]) := by
        rcases hI.out.2 with h | h
        · subst h; simp at hk
        · exact h
      have hck := hc (st.length - 1 - k) (by omega)
      rw [show st.length - 1 - (st.length - 1 - k) = k by omega] at hck
      have hdr : Hid (colS st = if 0 < st[st.length - 1 - k]'(by omega) then st[st.length - 1 - k]'(by omega) else colS (st.drop (st.length - k))) := by
        unfold Hid
        rw [← hcs.out, List.drop_eq_getElem_cons (by omega), colS]
        simp only [show st.length - (k + 1) = st.length - 1 - k by omega]
        rw [show st.length - 1 - k + 1 = st.length - k by omega]
      generalize st[st.length - 1 - k]'(by omega) = c at hck hdr
      have hlt : k < st.length := by omega
      have hki : (k : Int) < (st.length : Int) := by omega
      have hw : IntKind.i64.wrap ((k : Int) - 1) = (k : Int) - 1 := IntWalk.i64_in _ (by omega)
      clear hc hcs
      by_cases h0 : 0 < c
      · have hr : Hid (colS st = c) := by have := hdr.out; rw [if_pos h0] at this; exact this
        go_wp2_with fail
        go_ret
        exact ⟨by rw [hr.out]; rfl, hb1'.out⟩
      · have hr : Hid (colS (st.drop (st.length - k)) = colS st) := by have := hdr.out; rw [if_neg h0] at this; exact this.symm
        go_wp2_with fail
        go_round
        case rel => exact ⟨k, _, by omega, rfl, rfl, hr⟩
        case measure => simp [intOf] <;> omega
end Go.Proofs.YtchdfjihflmloaaGreatDoor

namespace Go.Proofs.YtchdfjihflmloaaGreatDoor
open Go.RowKit

theorem results_st {fn : Func} {t : Tmp} (h : fn.results = #[.cell t 49]) (tmps : Array Value) (w : World) {b : Nat} {x y : Value} (ha : tmps.getD t undef = .pointer (some ⟨b, 0, none⟩))
    (hc : w.cell? ⟨b, 0, none⟩ = some x ∧ w.cell? ⟨b, 1, none⟩ = some y) : (results fn tmps).run Tryz.prog w = .ok (.agg #[x, y]) w := by
  obtain ⟨h0, h1⟩ := hc
  have e2 := Tryz.isAgg49
  have e3 := Tryz.sizeOf49
  have ha' : tmps[t]?.getD undef = .pointer (some ⟨b, 0, none⟩) := by simpa using ha
  simp [results, h, ha', asAddr, loadVar, e2, loadCells, loadCellsFrom, Result.andThen, h0, h1, Addr.add, load, Sem.run]
theorem results_stb {fn : Func} {t u : Tmp} (h : fn.results = #[.cell t 49, .tmp u]) (tmps : Array Value) (w : World) {b : Nat} {x y z : Value} (ha : tmps.getD t undef = .pointer (some ⟨b, 0, none⟩)) (hu : tmps.getD u undef = z)
    (hc : w.cell? ⟨b, 0, none⟩ = some x ∧ w.cell? ⟨b, 1, none⟩ = some y) : (results fn tmps).run Tryz.prog w = .ok (.tuple #[.agg #[x, y], z]) w := by
  obtain ⟨h0, h1⟩ := hc
  have e2 := Tryz.isAgg49
  have e3 := Tryz.sizeOf49
  have ha' : tmps[t]?.getD undef = .pointer (some ⟨b, 0, none⟩) := by simpa using ha
  have hu' : tmps[u]?.getD undef = z := by simpa using hu
  simp [results, h, ha', hu', asAddr, loadVar, e2, loadCells, loadCellsFrom, Result.andThen, h0, h1, Addr.add, load, Sem.run]

set_option maxHeartbeats 1000000 in
set_option maxRecDepth 100000 in
theorem r03_shut {v : Value} {ts : List Tk} {c : Int} {st : List Int} (W : World) (h : StV W v ts (c :: st)) (hl : st.length ≤ 1000000) :
    Calls Tryz.prog 26 #[v] W fun e W' => ∃ u, e = .returned u ∧ StV W' u ts st ∧ Below W.heap.size W W' := by
  obtain ⟨a, ca, b, d, rfl, h2, h3⟩ := h
  rw [List.length_cons]
  obtain ⟨W1, hW1⟩ : ∃ V, W.alloc (.cells #[.slice a ts.length ca, .slice b (st.length + 1) d] 49) = V := ⟨_, rfl⟩
  have hb1 : Below W.heap.size W W1 := by rw [← hW1]; exact (Below.refl _ _).alloc (Nat.le_refl _) _
  have hx1 : Box2 W1 49 W.heap.size (.slice a ts.length ca) (.slice b (st.length + 1) d) := by rw [← hW1]; exact blk_new (Below.refl _ _)
  have hz1 : W1.heap.size = W.heap.size + 1 := by rw [← hW1]; simp
  obtain ⟨W2, hW2⟩ : ∃ V, W1.alloc (.cells #[.slice none 0 0, .slice none 0 0] 49) = V := ⟨_, rfl⟩
  have hb2 : Below W1.heap.size W1 W2 := by rw [← hW2]; exact (Below.refl _ _).alloc (Nat.le_refl _) _
  have hx2 : Box2 W2 49 (W.heap.size + 1) (.slice none 0 0) (.slice none 0 0) := by rw [← hz1, ← hW2]; exact blk_new (Below.refl _ _)
  have hz2 : W2.heap.size = W.heap.size + 2 := by rw [← hW2]; simp; omega
  have hbW : Hid (Below W.heap.size W W2) := hb1.trans (hb2.mono (by omega))
  have hxa := Lib.hid (hx1.below hb2)
  have hxb := Lib.hid hx2
  have h2' := Lib.hid h2
  have h3' := Lib.hid h3
  have hrd : st.length + 1 ≤ d := by have := h3.1.2; simpa using this
  have hrd2 : st.length ≤ d := by omega
  have hW1' := Lib.hid hW1
  have hW2' := Lib.hid hW2
  obtain ⟨⟨c0, c1⟩, cf⟩ := hxa.out.cells
  have hw : IntKind.i64.wrap (st.length : Int) = (st.length : Int) := IntWalk.i64_in _ (by omega)
  clear hW1 hb1 hx1 hz1 hW2 hb2 hx2 hz2 h2 h3
  go_enter Tryz.func26, Tryz.ntmps26
  go_upto_region 1 with (fail)
  rw [hW1'.out, hW2'.out]
  go_upto_region 2 with (fail)
  obtain ⟨Y, hY⟩ : ∃ Y, W2.setCell ⟨W.heap.size, 1, none⟩ (.slice b st.length d) = Y := ⟨_, rfl⟩
  have hya : Box2 Y 49 W.heap.size (.slice a ts.length ca) (.slice b st.length d) := by rw [← hY]; exact hxa.out.second _
  have hyb : Box2 Y 49 (W.heap.size + 1) (.slice none 0 0) (.slice none 0 0) := by rw [← hY]; exact (heap_set _ _ _ _ _ (by omega)).trans hxb.out
  have hbY : Hid (Below W.heap.size W Y) := by rw [← hY]; exact hbW.out.trans ((Below.refl _ _).setCell (p := ⟨W.heap.size, 1, none⟩) (Nat.le_refl _) _)
  rw [hY]
  clear hY c0 c1 cf
  obtain ⟨⟨c0, c1⟩, cf⟩ := hya.cells
  obtain ⟨⟨e0, e1⟩, ef⟩ := hyb.cells
  have hpe := Lib.hid (place_end hyb (.slice a ts.length ca) (.slice b st.length d))
  clear hya hyb
  go_wp2_with fail
  have hfin := hbY.out.trans (hpe.out.2.below.mono (by omega))
  refine bodyPost_ret (results_st rfl _ _ rfl hpe.out.1.cells.1) rfl ⟨_, rfl, ⟨a, ca, b, d, rfl, h2'.out.keeps (Keeps.of_below hfin), h3'.out.pop.keeps (Keeps.of_below hfin)⟩, hfin⟩

set_option maxHeartbeats 2000000 in
set_option maxRecDepth 100000 in
theorem r03_open {v : Value} {ts : List Tk} {st : List Int} (n : Int) (W : World) (h : StV W v ts st) (hl : st.length ≤ 1000000) :
    Calls Tryz.prog 20 #[v, .int .i64 n] W fun e W' => ∃ u, e = .returned u ∧ StV W' u ts (n :: st) ∧ Below W.heap.size W W' := by
  obtain ⟨a, ca, b, d, rfl, h2, h3⟩ := h
  obtain ⟨W1, hW1⟩ : ∃ V, W.alloc (.cells #[.slice a ts.length ca, .slice b st.length d] 49) = V := ⟨_, rfl⟩
  have hb1 : Below W.heap.size W W1 := by rw [← hW1]; exact (Below.refl _ _).alloc (Nat.le_refl _) _
  have hx1 : Box2 W1 49 W.heap.size (.slice a ts.length ca) (.slice b st.length d) := by rw [← hW1]; exact blk_new (Below.refl _ _)
  have hz1 : W1.heap.size = W.heap.size + 1 := by rw [← hW1]; simp
  obtain ⟨W2, hW2⟩ : ∃ V, W1.alloc (.cells #[.slice none 0 0, .slice none 0 0] 49) = V := ⟨_, rfl⟩
  have hb2 : Below W1.heap.size W1 W2 := by rw [← hW2]; exact (Below.refl _ _).alloc (Nat.le_refl _) _
  have hx2 : Box2 W2 49 (W.heap.size + 1) (.slice none 0 0) (.slice none 0 0) := by rw [← hz1, ← hW2]; exact blk_new (Below.refl _ _)
  have hz2 : W2.heap.size = W.heap.size + 2 := by rw [← hW2]; simp; omega
  have hbW : Hid (Below W.heap.size W W2) := hb1.trans (hb2.mono (by omega))
  have hxa := Lib.hid (hx1.below hb2)
  have hxb := Lib.hid hx2
  have h2' := Lib.hid h2
  have h3' := Lib.hid h3
  have hW1' := Lib.hid hW1
  have hW2' := Lib.hid hW2
  have hz2' := Lib.hid hz2
  -- the empty row, and what is appended
  have hb3 : Below W2.heap.size W2 (W2.alloc (.cells #[] 3)) := (Below.refl _ _).alloc (Nat.le_refl _) _
  have hown0 := own_empty W2 (Nat.le_refl _) 3 1
  have hI := h3.keeps (Keeps.of_below (hbW.out.trans (hb3.mono (by omega))))
  obtain ⟨i0, hi, hz0, hz1', hz2q⟩ := info_of Tryz.infoInt
  obtain ⟨v3, w3, hrun3, hr3, hg3, hx3⟩ := run_append_own_src (P := Tryz.prog) (W2.alloc (.cells #[] 3)) W2.heap.size 37 37 3 i0 (.int .i64 0) 1 8 Tryz.underlying37 hi hz0 hz1' hz2q rfl (by decide) _ _ _ hown0 b st.length d (iC st) (fun e => ⟨by have h := h3.1.1 e; have := h3.1.2; omega, h3.1.1 e⟩) (by rw [iC_len, Nat.mul_one]) hI.cells (by intro u hu; simp [iC] at hu; obtain ⟨x, _, rfl⟩ := hu; rfl) (by unfold maxLen; omega) (by omega) hb3.size
  rw [Nat.zero_add, List.nil_append] at hr3
  obtain ⟨va, vc, rfl, _⟩ := tk_own_form hr3
  have hB3 : Below W2.heap.size W2 w3 := hb3.grown hg3 hb3.size (fun q e => by simp [Value.ownBlock] at e; omega)
  have hb4 : Below w3.heap.size w3 (w3.alloc (.cells #[.int .i64 n] 3)) := (Below.refl _ _).alloc (Nat.le_refl _) _
  have hown4 := ownsRow_heap hr3 (w' := w3.alloc (.cells #[.int .i64 n] 3)) fun g hg => hb4.block g (ownBlock_ge hr3 hg).2
  have hnews : ∀ ad, some (⟨w3.heap.size, 0, none⟩ : Addr) = some ad → ∀ j u, [Value.int .i64 n][j]? = some u → (w3.alloc (.cells #[.int .i64 n] 3)).cell? (ad.add j) = some u := by
    intro ad had
    cases had
    exact Go.cell_one_new _ _ _
  obtain ⟨v5, w5, hrun5, hr5, hg5, hx5⟩ := run_append_own_src (P := Tryz.prog) (w3.alloc (.cells #[.int .i64 n] 3)) W2.heap.size 37 37 3 i0 (.int .i64 0) 1 8 Tryz.underlying37 hi hz0 hz1' hz2q rfl (by decide) _ _ _ hown4 (some ⟨w3.heap.size, 0, none⟩) 1 1 [.int .i64 n] (fun e => (nomatch e)) rfl hnews (by intro u hu; simp at hu; subst hu; rfl) (by unfold maxLen; omega) (by omega) (Nat.le_trans hB3.size hb4.size)
  obtain ⟨va5, vc5, rfl, _⟩ := tk_own_form hr5
  have hB5 : Hid (Below W2.heap.size W2 w5) := (hB3.trans (hb4.mono hB3.size)).grown hg5 (Nat.le_trans hB3.size hb4.size) (fun q e => (ownBlock_ge hown4 e).1)
  have hr5' : Hid (w5.ownsRow W2.heap.size 3 1 (.slice va5 (st.length + 1) vc5) (st.length + 1) (iC (n :: st))) := by unfold Hid; rw [iC_cons]; exact hr5
  have hrun3' := Lib.hid hrun3
  have hrun5' := Lib.hid hrun5
  have hI3 := Lib.hid hI
  obtain ⟨⟨c0, c1⟩, cf⟩ := (hxa.out.below hb3).cells
  have hyb := Lib.hid (hxb.out.below hB5.out)
  have hya := Lib.hid (hxa.out.below hB5.out)
  obtain ⟨⟨k0, k1⟩, kf⟩ := hya.out.cells
  have hst1 : Hid (∀ x : Value, Box2 (w5.setCell ⟨W.heap.size, 1, none⟩ x) 49 W.heap.size (.slice a ts.length ca) x ∧ Box2 (w5.setCell ⟨W.heap.size, 1, none⟩ x) 49 (W.heap.size + 1) (.slice none 0 0) (.slice none 0 0) ∧ OneSet W.heap.size w5 (w5.setCell ⟨W.heap.size, 1, none⟩ x)) := fun x =>
    ⟨hya.out.second x, (heap_set _ _ _ _ _ (by omega)).trans hyb.out, OneSet.cell _ _ _ _⟩
  clear hW1 hb1 hx1 hz1 hW2 hb2 hx2 hz2 h2 h3 hb3 hown0 hI hrun3 hr3 hg3 hx3 hB3 hb4 hown4 hnews hrun5 hr5 hg5 hx5
  go_enter Tryz.func20, Tryz.ntmps20
  go_upto_region 1 with (fail)
  rw [hW1'.out, hW2'.out]
  go_upto_region 2 with (first
    | (at_builtin; refine wpList_append_run rfl (Operand.tmp 5) (Operand.tmp 7) _ _ _ _ _ _ rfl rfl rfl hrun3'.out ?_)
    | (at_builtin; refine wpList_append_run rfl (Operand.tmp 8) (Operand.tmp 10) _ _ _ _ _ _ rfl rfl rfl hrun5'.out ?_))
  obtain ⟨Y, hY⟩ : ∃ Y, w5.setCell ⟨W.heap.size, 1, none⟩ (.slice va5 (st.length + 1) vc5) = Y := ⟨_, rfl⟩
  have hs := hst1.out (.slice va5 (st.length + 1) vc5)
  rw [hY] at hs
  rw [hY]
  obtain ⟨hya2, hyb2, ho⟩ := hs
  have hbY : Hid (Below W.heap.size W Y) := hbW.out.trans ((hB5.out.mono (by have := hz2'.out; omega)).trans (ho.below))
  have hoY : Hid (∀ g, g ≠ W.heap.size → Y.heap[g]? = w5.heap[g]?) := ho.other
  clear hY c0 c1 cf k0 k1 kf
  obtain ⟨⟨c0, c1⟩, cf⟩ := hya2.cells
  obtain ⟨⟨e0, e1⟩, ef⟩ := hyb2.cells
  have hpe := Lib.hid (place_end hyb2 (.slice a ts.length ca) (.slice va5 (st.length + 1) vc5))
  clear hya2 hyb2 ho
  go_wp2_with fail
  have hfin := hbY.out.trans (hpe.out.2.below.mono (by omega))
  have hIf := (ISl.own (ownsRow_heap hr5'.out (w' := (Y.setCell ⟨W.heap.size + 1, 0, none⟩ (.slice a ts.length ca)).setCell ⟨W.heap.size + 1, 1, none⟩ (.slice va5 (st.length + 1) vc5)) fun g hg => by
    have h1 := (ownBlock_ge hr5'.out hg).1
    have h2 := hz2'.out
    exact (hpe.out.2.other g (by omega)).trans (hoY.out g (by omega)))).2
  refine bodyPost_ret (results_st rfl _ _ rfl hpe.out.1.cells.1) rfl ⟨_, rfl, ⟨a, ca, va5, vc5, rfl, h2'.out.keeps (Keeps.of_below hfin), hIf⟩, hfin⟩
end Go.Proofs.YtchdfjihflmloaaGreatDoor

namespace Go.Proofs.YtchdfjihflmloaaGreatDoor
open Go.RowKit

/-- What a region has done that copies a row and appends a token: the empty row, the copy, the token's own row, the whole. -/
def CpC (B0 : Nat) (Wb : World) (ts : List Tk) (nt : Tk) (p0 p3 p10 p11 p13 : Bool) (x0 x3 x10 x11 : Value) (V : World) : Prop :=
  (p13 = false → Below B0 Wb V ∧ B0 ≤ V.heap.size) ∧
  (p0 = true → p3 = false → p13 = false → V.ownsRow B0 34 5 x0 0 []) ∧
  (p3 = true → p11 = false → p13 = false → V.ownsRow B0 34 5 x3 ts.length (tkCs ts)) ∧
  (p10 = true → p11 = false → p13 = false → ∃ g, x10 = .slice (some ⟨g, 0, none⟩) 1 1 ∧ B0 ≤ g ∧ V.heap[g]? = some (.cells (tkC nt).toArray 34 (0, 0)) ∧ (p0 = true → p3 = false → x0.ownBlock ≠ some g) ∧ (p3 = true → x3.ownBlock ≠ some g)) ∧
  (p11 = true → p13 = false → ∃ va vc, x11 = .slice va (ts.length + 1) vc ∧ V.ownsRow B0 34 5 x11 (ts.length + 1) (tkCs (ts ++ [nt])))
theorem CpC.start (Wb : World) (ts : List Tk) (nt : Tk) (x0 x3 x10 x11 : Value) : CpC Wb.heap.size Wb ts nt false false false false false x0 x3 x10 x11 Wb.drew :=
  ⟨fun _ => ⟨(Below.refl _ _).drew, Nat.le_refl _⟩, fun h => (nomatch h), fun h => (nomatch h), fun h => (nomatch h), fun h => (nomatch h)⟩
theorem tk_alloc_block (V : World) (l : List Value) : (V.alloc (.cells l.toArray 34)).heap[V.heap.size]? = some (.cells l.toArray 34 (0, 0)) := by simp only [World.alloc]; simp
theorem CpC.s0 {B0 : Nat} {Wb V : World} {ts : List Tk} {nt : Tk} {p10 : Bool} {x0 x3 x10 x11 : Value} (h : CpC B0 Wb ts nt false false p10 false false x0 x3 x10 x11 V) : CpC B0 Wb ts nt true false p10 false false (.slice (some ⟨V.heap.size, 0, none⟩) 0 0) x3 x10 x11 (V.alloc (.cells #[] 34)) := by
  obtain ⟨hb, hB⟩ := h.1 rfl
  have hz : V.heap.size ≤ (V.alloc (.cells #[] 34)).heap.size := by simp
  refine ⟨fun _ => ⟨hb.alloc hB _, Nat.le_trans hB hz⟩, fun _ _ _ => own_empty V hB _ 5, fun h => (nomatch h), fun hp _ _ => ?_, fun h => (nomatch h)⟩
  obtain ⟨g, e, hg, hh, _, _⟩ := h.2.2.2.1 hp rfl rfl
  refine ⟨g, e, hg, (Below.heap_alloc V _ g (blk_lt hh)).trans hh, fun _ _ hx => ?_, fun h => (nomatch h)⟩
  simp only [Value.ownBlock, Option.some.injEq] at hx
  have := blk_lt hh
  omega
theorem CpC.s10 {B0 : Nat} {Wb V : World} {ts : List Tk} {nt : Tk} {p0 p3 : Bool} {x0 x3 x10 x11 : Value} (h : CpC B0 Wb ts nt p0 p3 false false false x0 x3 x10 x11 V) : CpC B0 Wb ts nt p0 p3 true false false x0 x3 (.slice (some ⟨V.heap.size, 0, none⟩) 1 1) x11 (V.alloc (.cells (tkC nt).toArray 34)) := by
  obtain ⟨hb, hB⟩ := h.1 rfl
  have hz : V.heap.size ≤ (V.alloc (.cells (tkC nt).toArray 34)).heap.size := by simp
  have hk : ∀ {n : Nat} {xs : List Value} {v : Value}, V.ownsRow B0 34 5 v n xs → (V.alloc (.cells (tkC nt).toArray 34)).ownsRow B0 34 5 v n xs := fun hr => ownsRow_heap hr fun g hg => Below.heap_alloc V _ g (ownBlock_ge hr hg).2
  refine ⟨fun _ => ⟨hb.alloc hB _, Nat.le_trans hB hz⟩, fun a b c => hk (h.2.1 a b c), fun a b c => hk (h.2.2.1 a b c), fun _ _ _ => ⟨V.heap.size, rfl, hB, tk_alloc_block V _, fun a b hx => ?_, fun a hx => ?_⟩, fun h => (nomatch h)⟩
  · have := (ownBlock_ge (h.2.1 a b rfl) hx).2; omega
  · have := (ownBlock_ge (h.2.2.1 a rfl rfl) hx).2; omega
set_option maxRecDepth 100000 in
theorem CpC.s3 {B0 : Nat} {Wb V : World} {ts : List Tk} {nt : Tk} {p10 : Bool} {x0 x3 x10 x11 : Value} {sa : Option Addr} {ca : Nat} (h : CpC B0 Wb ts nt true false p10 false false x0 x3 x10 x11 V) (hT : B0 = Wb.heap.size ∧ TkSl Wb (.slice sa ts.length ca) ts) (hl : ts.length ≤ 1000000) :
    ∃ va vc V', (Builtin.append_ #[22, 22] 22 #[x0, .slice sa ts.length ca]).run Tryz.prog V = .ok (.slice va ts.length vc) V' ∧ CpC B0 Wb ts nt true true p10 false false x0 (.slice va ts.length vc) x10 x11 V' := by
  obtain ⟨hb, hB⟩ := h.1 rfl
  have hown := h.2.1 rfl rfl rfl
  obtain ⟨hB0, hTs⟩ := hT
  obtain ⟨i0, hi, hz0, hz1', hz2'⟩ := info_of Tryz.infoTk
  obtain ⟨_, ⟨hn, hc⟩, hr⟩ := hTs.at
  have hr' := hr.keeps (Keeps.of_below (by rw [← hB0]; exact hb))
  obtain ⟨v', w3, hrun, hr3, hg, hx⟩ := run_append_own_src (P := Tryz.prog) V B0 22 22 34 i0 (.agg #[.int .i64 0, .string ⟨#[]⟩, .int .i64 0, .int .i64 0, .int .i64 0]) 5 48 Tryz.underlying22 hi hz0 hz1' hz2' rfl (by decide) _ _ _ hown sa ts.length ca (tkCs ts) (fun e => ⟨by have := hn e; omega, hn e⟩) (tkCs_len ts) hr'.cells (tkCs_one ts) (by unfold maxLen; omega) (by omega) hB
  rw [Nat.zero_add, List.nil_append] at hr3
  obtain ⟨va, vc, rfl, _⟩ := tk_own_form hr3
  refine ⟨va, vc, w3, hrun, fun _ => ⟨hb.grown hg hB (fun q e => (ownBlock_ge hown e).1), Nat.le_trans hB hg.size⟩, fun _ h => (nomatch h), fun _ _ _ => hr3, fun hp _ _ => ?_, fun h => (nomatch h)⟩
  obtain ⟨g, e, hg', hh, hne, _⟩ := h.2.2.2.1 hp rfl rfl
  refine ⟨g, e, hg', (hg.block g (blk_lt hh) (fun e => hne rfl rfl e.symm)).trans hh, fun _ h => (nomatch h), fun _ hx' => ?_⟩
  rcases hx with hx | hx
  · rw [hx] at hx'; exact hne rfl rfl hx'
  · rw [hx] at hx'
    simp only [Option.some.injEq] at hx'
    have := blk_lt hh
    omega
set_option maxRecDepth 100000 in
theorem CpC.s11 {B0 : Nat} {Wb V : World} {ts : List Tk} {nt : Tk} {x0 x3 x10 x11 : Value} (h : CpC B0 Wb ts nt true true true false false x0 x3 x10 x11 V) (hl : ts.length ≤ 1000000) :
    ∃ va vc V' g, x10 = .slice (some ⟨g, 0, none⟩) 1 1 ∧ (Builtin.append_ #[22, 22] 22 #[x3, .slice (some ⟨g, 0, none⟩) 1 1]).run Tryz.prog V = .ok (.slice va (ts.length + 1) vc) V' ∧ CpC B0 Wb ts nt true true true true false x0 x3 x10 (.slice va (ts.length + 1) vc) V' := by
  obtain ⟨hb, hB⟩ := h.1 rfl
  have hown := h.2.2.1 rfl rfl rfl
  obtain ⟨g, e, hg', hh, _, hne⟩ := h.2.2.2.1 rfl rfl rfl
  obtain ⟨i0, hi, hz0, hz1', hz2'⟩ := info_of Tryz.infoTk
  have hnews : ∀ ad, some (⟨g, 0, none⟩ : Addr) = some ad → ∀ j u, (tkC nt)[j]? = some u → V.cell? (ad.add j) = some u := by
    intro ad had j u hj
    cases had
    rw [addr_plus, Nat.zero_add]
    unfold World.cell?
    rw [hh]
    simpa using hj
  obtain ⟨v', w3, hrun, hr3, hg, hx⟩ := run_append_own_src (P := Tryz.prog) V B0 22 22 34 i0 (.agg #[.int .i64 0, .string ⟨#[]⟩, .int .i64 0, .int .i64 0, .int .i64 0]) 5 48 Tryz.underlying22 hi hz0 hz1' hz2' rfl (by decide) _ _ _ hown (some ⟨g, 0, none⟩) 1 1 (tkC nt) (fun e => (nomatch e)) rfl hnews (by intro u hu; simp [tkC] at hu; rcases hu with rfl | rfl | rfl | rfl | rfl <;> rfl) (by unfold maxLen; omega) (by omega) hB
  obtain ⟨va, vc, rfl, _⟩ := tk_own_form hr3
  refine ⟨va, vc, w3, g, e, hrun, fun _ => ⟨hb.grown hg hB (fun q e => (ownBlock_ge hown e).1), Nat.le_trans hB hg.size⟩, fun _ h => (nomatch h), fun _ h => (nomatch h), fun _ h => (nomatch h), fun _ _ => ⟨va, vc, rfl, ?_⟩⟩
  rw [tkCs_append, show tkCs [nt] = tkC nt by simp [tkCs]]
  exact hr3

set_option maxHeartbeats 4000000 in
set_option maxRecDepth 100000 in
theorem r03_put {v : Value} {ts : List Tk} {st : List Int} (u : Bs) (t : Tk) (W : World) (h : StV W v ts st) (hl : ts.length ≤ 1000000) :
    Calls Tryz.prog 21 #[v, .string (tS u), tkV t] W fun e W' => ∃ z, e = .returned z ∧ StV W' z (ts ++ [mkT u t]) st ∧ Below W.heap.size W W' := by
  obtain ⟨oa, ca, b, d, rfl, h2, h3⟩ := h
  obtain ⟨W1, hW1⟩ : ∃ V, W.alloc (.cells #[.slice oa ts.length ca, .slice b st.length d] 49) = V := ⟨_, rfl⟩
  have hb1 : Below W.heap.size W W1 := by rw [← hW1]; exact (Below.refl _ _).alloc (Nat.le_refl _) _
  have hx1 : Box2 W1 49 W.heap.size (.slice oa ts.length ca) (.slice b st.length d) := by rw [← hW1]; exact blk_new (Below.refl _ _)
  have hz1 : W1.heap.size = W.heap.size + 1 := by rw [← hW1]; simp
  obtain ⟨W2, hW2⟩ : ∃ V, W1.alloc (.cells #[.int .i64 t.kind, .string (tS t.text), .int .i64 t.num, .int .i64 t.line, .int .i64 t.col] 34) = V := ⟨_, rfl⟩
  have hb2 : Below W1.heap.size W1 W2 := by rw [← hW2]; exact (Below.refl _ _).alloc (Nat.le_refl _) _
  have hx2 : Box5 W2 34 (W.heap.size + 1) (.int .i64 t.kind) (.string (tS t.text)) (.int .i64 t.num) (.int .i64 t.line) (.int .i64 t.col) := by rw [← hz1, ← hW2]; exact blk_new (Below.refl _ _)
  have hz2 : W2.heap.size = W.heap.size + 2 := by rw [← hW2]; simp; omega
  obtain ⟨Wb, hWb⟩ : ∃ V, W2.alloc (.cells #[.slice none 0 0, .slice none 0 0] 49) = V := ⟨_, rfl⟩
  have hb3 : Below W2.heap.size W2 Wb := by rw [← hWb]; exact (Below.refl _ _).alloc (Nat.le_refl _) _
  have hx3 : Box2 Wb 49 (W.heap.size + 2) (.slice none 0 0) (.slice none 0 0) := by rw [← hz2, ← hWb]; exact blk_new (Below.refl _ _)
  have hz3 : Wb.heap.size = W.heap.size + 3 := by rw [← hWb]; simp; omega
  have hbW : Hid (Below W.heap.size W Wb) := (hb1.trans (hb2.mono (by omega))).trans (hb3.mono (by omega))
  have hxa := Lib.hid ((hx1.below hb2).below hb3)
  have hxt := Lib.hid (hx2.below hb3)
  have hxb := Lib.hid hx3
  have h3' := Lib.hid h3
  have hW1' := Lib.hid hW1
  have hW2' := Lib.hid hW2
  have hWb' := Lib.hid hWb
  have hz3' := Lib.hid hz3
  obtain ⟨nt, hnt⟩ : ∃ nt, mkT u t = nt := ⟨_, rfl⟩
  have hntc : Hid (tkC nt = [.int .i64 4, .string (tS u), .int .i64 0, .int .i64 t.line, .int .i64 t.col]) := by unfold Hid; rw [← hnt]; rfl
  have hcp : Hid ((Wb.heap.size = Wb.heap.size ∧ TkSl Wb (.slice oa ts.length ca) ts) ∧ ts.length ≤ 1000000) := ⟨⟨rfl, h2.keeps (Keeps.of_below hbW.out)⟩, hl⟩
  have hst : Hid (∀ X, Below Wb.heap.size Wb X → X.cell? ⟨W.heap.size, 0, none⟩ = some (.slice oa ts.length ca) ∧ X.cell? ⟨W.heap.size + 1, 3, none⟩ = some (.int .i64 t.line) ∧ X.cell? ⟨W.heap.size + 1, 4, none⟩ = some (.int .i64 t.col) ∧ X.frozen? ⟨W.heap.size, 0, none⟩ = false) := fun X hX =>
    ⟨(hxa.out.below hX).cells.1.1, (hxt.out.below hX).cells.1.2.2.2.1, (hxt.out.below hX).cells.1.2.2.2.2, (hxa.out.below hX).cells.2 0⟩
  rw [hnt]
  have hnt' := Lib.hid hnt
  clear hW1 hb1 hx1 hz1 hW2 hb2 hx2 hz2 hWb hb3 hx3 hz3 h2 h3 hnt
  unfold tkV
  go_enter Tryz.func21, Tryz.ntmps21
  go_upto_region 1 with (fail)
  rw [hW1'.out, hW2'.out, hWb'.out]
  refine wp_region_inv (fun f a Vr => ∃ x : Nat → Value, a = ⟨#[.agg #[.slice oa ts.length ca, .slice b st.length d], .string (tS u), .agg #[.int .i64 t.kind, .string (tS t.text), .int .i64 t.num, .int .i64 t.line, .int .i64 t.col], .pointer (some ⟨W.heap.size, 0, none⟩), undef, .pointer (some ⟨W.heap.size + 1, 0, none⟩), .pointer (some ⟨W.heap.size + 2, 0, none⟩), x 0, x 1, x 2, x 3, x 4, x 5, x 6, x 7, x 8, x 9, x 10, x 11, x 12, undef], []⟩ ∧ (CpC Wb.heap.size Wb ts nt (f 0) (f 3) (f 10) (f 11) (f 13) (x 0) (x 3) (x 10) (x 11) Vr) ∧ (f 13 = true → ∃ va vc V0, Vr = V0.setCell ⟨W.heap.size, 0, none⟩ (.slice va (ts.length + 1) vc) ∧ Below Wb.heap.size Wb V0 ∧ V0.ownsRow Wb.heap.size 34 5 (.slice va (ts.length + 1) vc) (ts.length + 1) (tkCs (ts ++ [nt]))) ∧ VO [none, some (.pointer (some ⟨W.heap.size, 0, none⟩)), some (.slice oa ts.length ca), none, some (.string (tS u)), some (.pointer (some ⟨W.heap.size + 1, 3, none⟩)), some (.int .i64 t.line), some (.pointer (some ⟨W.heap.size + 1, 4, none⟩)), some (.int .i64 t.col), some (.agg #[.int .i64 4, .string (tS u), .int .i64 0, .int .i64 t.line, .int .i64 t.col]), none, none, some (.pointer (some ⟨W.heap.size, 0, none⟩)), none] f x) (by kernel_rfl) (by kernel_rfl) (rs := [0, 1, 2, 3, 4, 5, 6, 7, 8, 9, 10, 11, 12, 13]) (by kernel_rfl) ?start ?steps ?last
  case start => exact ⟨fun _ => undef, rfl, CpC.start _ _ _ _ _ _ _, by simp, VO.nil _ _⟩
  case steps =>
    refine (KeepsI.cons (ds := []) rfl (by kernel_rfl) ?s0 (KeepsI.cons (ds := []) rfl (by kernel_rfl) ?s1 (KeepsI.cons (ds := [1]) rfl (by kernel_rfl) ?s2 (KeepsI.cons (ds := [0, 2]) rfl (by kernel_rfl) ?s3 (KeepsI.cons (ds := []) rfl (by kernel_rfl) ?s4 (KeepsI.cons (ds := []) rfl (by kernel_rfl) ?s5 (KeepsI.cons (ds := [5]) rfl (by kernel_rfl) ?s6 (KeepsI.cons (ds := []) rfl (by kernel_rfl) ?s7 (KeepsI.cons (ds := [7]) rfl (by kernel_rfl) ?s8 (KeepsI.cons (ds := [4, 6, 8]) rfl (by kernel_rfl) ?s9 (KeepsI.cons (ds := [9]) rfl (by kernel_rfl) ?s10 (KeepsI.cons (ds := [3, 10]) rfl (by kernel_rfl) ?s11 (KeepsI.cons (ds := []) rfl (by kernel_rfl) ?s12 (KeepsI.cons (ds := [12, 11]) rfl (by kernel_rfl) ?s13 KeepsI.nil))))))))))))))
    all_goals (intro f a Vr hf hd hcl hI K' hK; obtain ⟨x, rfl, c0, c1, hx⟩ := hI)
    case s0 =>
      have n3 : f 3 = false := by cases h : f 3; rfl; exact absurd (hcl 3 0 (by kernel_rfl) (h)) (by rw [hf]; simp)
      have n11 : f 11 = false := by cases h : f 11; rfl; exact absurd (hcl 3 0 (by kernel_rfl) (hcl 11 3 (by kernel_rfl) (h))) (by rw [hf]; simp)
      have n13 : f 13 = false := by cases h : f 13; rfl; exact absurd (hcl 3 0 (by kernel_rfl) (hcl 11 3 (by kernel_rfl) (hcl 13 11 (by kernel_rfl) (h)))) (by rw [hf]; simp)
      have q := c0
      rw [hf, n3, n11, n13] at q
      have hs := q.s0
      clear q
      go_simp
      exact hK _ _ ⟨upd x 0 (.slice (some ⟨Vr.heap.size, 0, none⟩) 0 0), rfl, by show CpC _ _ _ _ true (f 3) (f 10) (f 11) (f 13) _ _ _ _ _; rw [n3, n11, n13]; exact hs, fun h => absurd (n13.symm.trans h) (by decide), VO.free hx 0 rfl _⟩
    case s1 =>
      go_simp
      exact hK _ _ ⟨(upd x 1 (.pointer (some ⟨W.heap.size, 0, none⟩))), rfl, c0, c1, (hx.set 1 rfl)⟩
    case s2 =>
      have e1 := hx.get 1 rfl (hd 1 (by simp))
      rw [e1]
      clear e1
      have n3 : f 3 = false := by cases h : f 3; rfl; exact absurd (hcl 3 2 (by kernel_rfl) (h)) (by rw [hf]; simp)
      have n11 : f 11 = false := by cases h : f 11; rfl; exact absurd (hcl 3 2 (by kernel_rfl) (hcl 11 3 (by kernel_rfl) (h))) (by rw [hf]; simp)
      have n13 : f 13 = false := by cases h : f 13; rfl; exact absurd (hcl 3 2 (by kernel_rfl) (hcl 11 3 (by kernel_rfl) (hcl 13 11 (by kernel_rfl) (h)))) (by rw [hf]; simp)
      have hb := (c0.1 n13).1
      obtain ⟨k0, d3, d4, kf⟩ := hst.out Vr hb
      clear hb
      clear n3 n11 n13
      go_simp
      exact hK _ _ ⟨(upd (upd x 1 (.pointer (some ⟨W.heap.size, 0, none⟩))) 2 (.slice oa ts.length ca)), rfl, c0, c1, ((hx.put 1 rfl).set 2 rfl)⟩
    case s3 =>
      have e2 := hx.get 2 rfl (hd 2 (by simp))
      rw [e2]
      clear e2
      have n11 : f 11 = false := by cases h : f 11; rfl; exact absurd (hcl 11 3 (by kernel_rfl) (h)) (by rw [hf]; simp)
      have n13 : f 13 = false := by cases h : f 13; rfl; exact absurd (hcl 11 3 (by kernel_rfl) (hcl 13 11 (by kernel_rfl) (h))) (by rw [hf]; simp)
      have y0 : f 0 = true := hd 0 (by simp)
      have q := c0
      rw [hf, y0, n11, n13] at q
      obtain ⟨va, vc, V1, hrun, hs⟩ := q.s3 hcp.out.1 hcp.out.2
      clear q
      refine wanted_run (by rfl) ?_
      refine wp_append_run (.tmp 7) (.tmp 9) 22 _ _ _ _ _ rfl rfl rfl hrun ?_
      exact hK _ _ ⟨upd (upd x 2 (.slice oa ts.length ca)) 3 (.slice va ts.length vc), rfl, by show CpC _ _ _ _ (f 0) true (f 10) (f 11) (f 13) _ _ _ _ _; rw [y0, n11, n13]; exact hs, fun h => absurd (n13.symm.trans h) (by decide), VO.free (hx.put 2 rfl) 3 rfl _⟩
    case s4 =>
      go_simp
      exact hK _ _ ⟨(upd x 4 (.string (tS u))), rfl, c0, c1, (hx.set 4 rfl)⟩
    case s5 =>
      go_simp
      exact hK _ _ ⟨(upd x 5 (.pointer (some ⟨W.heap.size + 1, 3, none⟩))), rfl, c0, c1, (hx.set 5 rfl)⟩
    case s6 =>
      have e5 := hx.get 5 rfl (hd 5 (by simp))
      rw [e5]
      clear e5
      have n10 : f 10 = false := by cases h : f 10; rfl; exact absurd (hcl 9 6 (by kernel_rfl) (hcl 10 9 (by kernel_rfl) (h))) (by rw [hf]; simp)
      have n11 : f 11 = false := by cases h : f 11; rfl; exact absurd (hcl 9 6 (by kernel_rfl) (hcl 10 9 (by kernel_rfl) (hcl 11 10 (by kernel_rfl) (h)))) (by rw [hf]; simp)
      have n13 : f 13 = false := by cases h : f 13; rfl; exact absurd (hcl 9 6 (by kernel_rfl) (hcl 10 9 (by kernel_rfl) (hcl 11 10 (by kernel_rfl) (hcl 13 11 (by kernel_rfl) (h))))) (by rw [hf]; simp)
      have hb := (c0.1 n13).1
      obtain ⟨k0, d3, d4, kf⟩ := hst.out Vr hb
      clear hb
      clear n10 n11 n13
      go_simp
      exact hK _ _ ⟨(upd (upd x 5 (.pointer (some ⟨W.heap.size + 1, 3, none⟩))) 6 (.int .i64 t.line)), rfl, c0, c1, ((hx.put 5 rfl).set 6 rfl)⟩
    case s7 =>
      go_simp
      exact hK _ _ ⟨(upd x 7 (.pointer (some ⟨W.heap.size + 1, 4, none⟩))), rfl, c0, c1, (hx.set 7 rfl)⟩
    case s8 =>
      have e7 := hx.get 7 rfl (hd 7 (by simp))
      rw [e7]
      clear e7
      have n10 : f 10 = false := by cases h : f 10; rfl; exact absurd (hcl 9 8 (by kernel_rfl) (hcl 10 9 (by kernel_rfl) (h))) (by rw [hf]; simp)
      have n11 : f 11 = false := by cases h : f 11; rfl; exact absurd (hcl 9 8 (by kernel_rfl) (hcl 10 9 (by kernel_rfl) (hcl 11 10 (by kernel_rfl) (h)))) (by rw [hf]; simp)
      have n13 : f 13 = false := by cases h : f 13; rfl; exact absurd (hcl 9 8 (by kernel_rfl) (hcl 10 9 (by kernel_rfl) (hcl 11 10 (by kernel_rfl) (hcl 13 11 (by kernel_rfl) (h))))) (by rw [hf]; simp)
      have hb := (c0.1 n13).1
      obtain ⟨k0, d3, d4, kf⟩ := hst.out Vr hb
      clear hb
      clear n10 n11 n13
      go_simp
      exact hK _ _ ⟨(upd (upd x 7 (.pointer (some ⟨W.heap.size + 1, 4, none⟩))) 8 (.int .i64 t.col)), rfl, c0, c1, ((hx.put 7 rfl).set 8 rfl)⟩
    case s9 =>
      have e4 := hx.get 4 rfl (hd 4 (by simp))
      have e6 := hx.get 6 rfl (hd 6 (by simp))
      have e8 := hx.get 8 rfl (hd 8 (by simp))
      rw [e4, e6, e8]
      clear e4 e6 e8
      go_simp
      exact hK _ _ ⟨(upd (upd (upd (upd x 4 (.string (tS u))) 6 (.int .i64 t.line)) 8 (.int .i64 t.col)) 9 (.agg #[.int .i64 4, .string (tS u), .int .i64 0, .int .i64 t.line, .int .i64 t.col])), rfl, c0, c1, ((((hx.put 4 rfl).put 6 rfl).put 8 rfl).set 9 rfl)⟩
    case s10 =>
      have e9 := hx.get 9 rfl (hd 9 (by simp))
      rw [e9]
      clear e9
      have n11 : f 11 = false := by cases h : f 11; rfl; exact absurd (hcl 11 10 (by kernel_rfl) (h)) (by rw [hf]; simp)
      have n13 : f 13 = false := by cases h : f 13; rfl; exact absurd (hcl 11 10 (by kernel_rfl) (hcl 13 11 (by kernel_rfl) (h))) (by rw [hf]; simp)
      have q := c0
      rw [hf, n11, n13] at q
      have hs := q.s10; rw [hntc.out] at hs
      clear q
      go_simp
      exact hK _ _ ⟨upd (upd x 9 (.agg #[.int .i64 4, .string (tS u), .int .i64 0, .int .i64 t.line, .int .i64 t.col])) 10 (.slice (some ⟨Vr.heap.size, 0, none⟩) 1 1), rfl, by show CpC _ _ _ _ (f 0) (f 3) true (f 11) (f 13) _ _ _ _ _; rw [n11, n13]; exact hs, fun h => absurd (n13.symm.trans h) (by decide), VO.free (hx.put 9 rfl) 10 rfl _⟩
    case s11 =>
      have n13 : f 13 = false := by cases h : f 13; rfl; exact absurd (hcl 13 11 (by kernel_rfl) (h)) (by rw [hf]; simp)
      have y0 : f 0 = true := hcl 3 0 (by kernel_rfl) (hd 3 (by simp))
      have y3 : f 3 = true := hd 3 (by simp)
      have y10 : f 10 = true := hd 10 (by simp)
      have q := c0
      rw [hf, y0, y3, y10, n13] at q
      obtain ⟨va, vc, V1, g, eg, hrun, hs⟩ := q.s11 hcp.out.2
      clear q
      rw [eg]
      refine wanted_run (by rfl) ?_
      refine wp_append_run (.tmp 10) (.tmp 17) 22 _ _ _ _ _ rfl rfl rfl hrun ?_
      exact hK _ _ ⟨upd (upd x 10 (.slice (some ⟨g, 0, none⟩) 1 1)) 11 (.slice va (ts.length + 1) vc), rfl, by show CpC _ _ _ _ (f 0) (f 3) (f 10) true (f 13) _ _ _ _ _; rw [y0, y3, y10, n13]; rw [eg] at hs; exact hs, fun h => absurd (n13.symm.trans h) (by decide), VO.free (VO.keep hx 10 rfl _) 11 rfl _⟩
    case s12 =>
      go_simp
      exact hK _ _ ⟨(upd x 12 (.pointer (some ⟨W.heap.size, 0, none⟩))), rfl, c0, c1, (hx.set 12 rfl)⟩
    case s13 =>
      have e12 := hx.get 12 rfl (hd 12 (by simp))
      rw [e12]
      clear e12
      have y0 : f 0 = true := hcl 3 0 (by kernel_rfl) (hcl 11 3 (by kernel_rfl) (hd 11 (by simp)))
      have y3 : f 3 = true := hcl 11 3 (by kernel_rfl) (hd 11 (by simp))
      have y10 : f 10 = true := hcl 11 10 (by kernel_rfl) (hd 11 (by simp))
      have y11 : f 11 = true := hd 11 (by simp)
      have q := c0
      rw [hf, y11] at q
      obtain ⟨hb, _⟩ := q.1 rfl
      obtain ⟨va, vc, e11, hown⟩ := q.2.2.2.2 rfl rfl
      obtain ⟨k0, d3, d4, kf⟩ := hst.out Vr hb
      clear q
      rw [e11] at hown
      rw [e11]
      have hb := Lib.hid hb
      have hown := Lib.hid hown
      go_simp
      exact hK _ _ ⟨upd (upd x 12 (.pointer (some ⟨W.heap.size, 0, none⟩))) 11 (.slice va (ts.length + 1) vc), rfl, ⟨fun h => (nomatch h), fun _ _ h => (nomatch h), fun _ _ h => (nomatch h), fun _ _ h => (nomatch h), fun _ h => (nomatch h)⟩, fun _ => ⟨va, vc, Vr, rfl, hb.out, hown.out⟩, VO.done (VO.keep (hx.put 12 rfl) 11 rfl _) 13 rfl⟩
  case last =>
    rintro f a Vr hf ⟨x, rfl, c0, c1, hx⟩
    obtain ⟨va, vc, V0, e, hb, hown⟩ := c1 (hf 13 (by simp))
    clear c0 c1 hx hst
    have hya : Box2 Vr 49 W.heap.size (.slice va (ts.length + 1) vc) (.slice b st.length d) := by rw [e]; exact (hxa.out.below hb).first _
    have hyb : Box2 Vr 49 (W.heap.size + 2) (.slice none 0 0) (.slice none 0 0) := by rw [e]; exact (heap_set _ _ _ _ _ (by omega)).trans (hxb.out.below hb)
    have hbY : Hid (Below W.heap.size W Vr) := by rw [e]; exact (hbW.out.trans (hb.mono (by have := hz3'.out; omega))).trans ((Below.refl _ _).setCell (p := ⟨W.heap.size, 0, none⟩) (Nat.le_refl _) _)
    have hoY : Hid (∀ g, g ≠ W.heap.size → Vr.heap[g]? = V0.heap[g]?) := by rw [e]; exact fun g hg => heap_set _ _ _ _ _ hg
    have hown := Lib.hid hown
    clear e hb
    obtain ⟨Y, rfl⟩ : ∃ Y, Y = Vr := ⟨_, rfl⟩
    obtain ⟨⟨k0, k1⟩, kf⟩ := hya.cells
    obtain ⟨⟨e0, e1⟩, ef⟩ := hyb.cells
    have hpe := Lib.hid (place_end hyb (.slice va (ts.length + 1) vc) (.slice b st.length d))
    clear hya hyb
    go_wp2_with fail
    have hfin := hbY.out.trans (hpe.out.2.below.mono (by omega))
    have hown2 := ownsRow_heap hown.out (w' := (Y.setCell ⟨W.heap.size + 2, 0, none⟩ (.slice va (ts.length + 1) vc)).setCell ⟨W.heap.size + 2, 1, none⟩ (.slice b st.length d)) fun g hg => by
      have h1 := (ownBlock_ge hown.out hg).1
      have h2 := hz3'.out
      exact (hpe.out.2.other g (by omega)).trans (hoY.out g (by omega))
    have hlen : (ts ++ [nt]).length = ts.length + 1 := by simp
    refine bodyPost_ret (results_st rfl _ _ rfl hpe.out.1.cells.1) rfl ⟨_, rfl, ⟨va, vc, b, d, by rw [hlen], by rw [hlen]; exact TkSl.own (by rw [hlen]; exact hown2), h3'.out.keeps (Keeps.of_below hfin)⟩, hfin⟩
end Go.Proofs.YtchdfjihflmloaaGreatDoor

namespace Go.Proofs.YtchdfjihflmloaaGreatDoor
open Go.RowKit

/-- Rows stay where one block changes that holds slices alone. -/
theorem StV.aside {V V' : World} {v : Value} {ts : List Tk} {st : List Int} {sb : Nat} (h : StV V v ts st) (hk : ∀ k, k ≠ sb → V'.heap[k]? = V.heap[k]?) (hs : ∀ i x, V.cell? ⟨sb, i, none⟩ = some x → ∃ a n c, x = .slice a n c) : StV V' v ts st := by
  have key : ∀ b i x, (∀ a n c, x ≠ Value.slice a n c) → V.cell? ⟨b, i, none⟩ = some x → V'.cell? ⟨b, i, none⟩ = some x := by
    intro b i x hx hc
    by_cases hb : b = sb
    · subst hb
      obtain ⟨a, n, c, rfl⟩ := hs i x hc
      exact absurd rfl (hx a n c)
    · rw [World.cell?_of_block (hk b hb)]; exact hc
  obtain ⟨a, c, b, d, h1, h2, h3⟩ := h
  obtain ⟨_, hc, hr⟩ := h2.at
  refine ⟨a, c, b, d, h1, ⟨a, c, rfl, hc, ?_⟩, h3.1, ?_⟩
  · rcases hr with h | ⟨b', off, e, hr⟩
    · exact .inl h
    · refine .inr ⟨b', off, e, fun i hi => ?_⟩
      obtain ⟨q0, q1, q2, q3, q4⟩ := hr i hi
      exact ⟨key _ _ _ (fun _ _ _ e => (nomatch e)) q0, key _ _ _ (fun _ _ _ e => (nomatch e)) q1, key _ _ _ (fun _ _ _ e => (nomatch e)) q2, key _ _ _ (fun _ _ _ e => (nomatch e)) q3, key _ _ _ (fun _ _ _ e => (nomatch e)) q4⟩
  · rcases h3.2 with h | ⟨b', off, e, hr⟩
    · exact .inl h
    · exact .inr ⟨b', off, e, fun i hi => key _ _ _ (fun _ _ _ e => (nomatch e)) (hr i hi)⟩
theorem box_slices {V : World} {t : TypeId} {sb n0 c0 n1 c1 : Nat} {a0 a1 : Option Addr} (h : Box2 V t sb (.slice a0 n0 c0) (.slice a1 n1 c1)) : ∀ i x, V.cell? ⟨sb, i, none⟩ = some x → ∃ a n c, x = .slice a n c := by
  intro i x hx
  unfold Box2 at h
  unfold World.cell? at hx
  rw [h] at hx
  simp only at hx
  match i, hx with
  | 0, hx => simp at hx; exact ⟨_, _, _, hx.symm⟩
  | 1, hx => simp at hx; exact ⟨_, _, _, hx.symm⟩
  | i + 2, hx => simp at hx
theorem StV.agg {W : World} {v : Value} {ts : List Tk} {st : List Int} (h : StV W v ts st) : ∃ a n c b m d, v = .agg #[.slice a n c, .slice b m d] := by
  obtain ⟨a, c, b, d, h1, _⟩ := h
  exact ⟨_, _, _, _, _, _, h1⟩
/-- A function of the reference's: its state in a box, a token in a box, its result's place. -/
structure NlI (W : World) (t : Tk) (V : World) (x0 x1 : Value) (ts : List Tk) (st : List Int) : Prop where
  low : Below W.heap.size W V
  box : Box2 V 49 W.heap.size x0 x1
  tok : Box5 V 34 (W.heap.size + 1) (.int .i64 t.kind) (.string (tS t.text)) (.int .i64 t.num) (.int .i64 t.line) (.int .i64 t.col)
  res : Box2 V 49 (W.heap.size + 2) (.slice none 0 0) (.slice none 0 0)
  stv : StV V (.agg #[x0, x1]) ts st
theorem NlI.lt {W V : World} {t : Tk} {x0 x1 : Value} {ts : List Tk} {st : List Int} (h : NlI W t V x0 x1 ts st) : W.heap.size + 2 < V.heap.size := blk_lt h.res
theorem NlI.below {W V V' : World} {t : Tk} {x0 x1 : Value} {ts : List Tk} {st : List Int} (h : NlI W t V x0 x1 ts st) (hb : Below V.heap.size V V') : NlI W t V' x0 x1 ts st :=
  ⟨h.low.trans (hb.mono (by have := h.lt; omega)), h.box.below hb, h.tok.below hb, h.res.below hb, h.stv.keeps (Keeps.of_below hb)⟩
/-- A new state, stored. -/
theorem NlI.set {W V : World} {t : Tk} {x0 x1 y0 y1 : Value} {ts ts' : List Tk} {st st' : List Int} (h : NlI W t V x0 x1 ts st) (hs : StV V (.agg #[y0, y1]) ts' st') : NlI W t ((V.setCell ⟨W.heap.size, 0, none⟩ y0).setCell ⟨W.heap.size, 1, none⟩ y1) y0 y1 ts' st' := by
  obtain ⟨a, n, c, b, m, d, e⟩ := h.stv.agg
  simp only [Value.agg.injEq, Array.mk.injEq, List.cons.injEq, and_true] at e
  obtain ⟨rfl, rfl⟩ := e
  obtain ⟨h1, h2⟩ := place_end h.box y0 y1
  exact ⟨h.low.trans h2.below, h1, (h2.other _ (by omega)).trans h.tok, (h2.other _ (by omega)).trans h.res, hs.aside h2.other (box_slices h.box)⟩
/-- The state, handed back. -/
theorem NlI.ends {W V : World} {t : Tk} {x0 x1 : Value} {ts : List Tk} {st : List Int} (h : NlI W t V x0 x1 ts st) : Box2 ((V.setCell ⟨W.heap.size + 2, 0, none⟩ x0).setCell ⟨W.heap.size + 2, 1, none⟩ x1) 49 (W.heap.size + 2) x0 x1 ∧ StV ((V.setCell ⟨W.heap.size + 2, 0, none⟩ x0).setCell ⟨W.heap.size + 2, 1, none⟩ x1) (.agg #[x0, x1]) ts st ∧ Below W.heap.size W ((V.setCell ⟨W.heap.size + 2, 0, none⟩ x0).setCell ⟨W.heap.size + 2, 1, none⟩ x1) := by
  obtain ⟨h1, h2⟩ := place_end h.res x0 x1
  exact ⟨h1, h.stv.aside h2.other (box_slices h.res), h.low.trans (h2.below.mono (by omega))⟩
/-- Any state, handed back. -/
theorem NlI.ends' {W V : World} {t : Tk} {x0 x1 y0 y1 : Value} {ts ts' : List Tk} {st st' : List Int} (h : NlI W t V x0 x1 ts st) (hs : StV V (.agg #[y0, y1]) ts' st') : Box2 ((V.setCell ⟨W.heap.size + 2, 0, none⟩ y0).setCell ⟨W.heap.size + 2, 1, none⟩ y1) 49 (W.heap.size + 2) y0 y1 ∧ StV ((V.setCell ⟨W.heap.size + 2, 0, none⟩ y0).setCell ⟨W.heap.size + 2, 1, none⟩ y1) (.agg #[y0, y1]) ts' st' ∧ Below W.heap.size W ((V.setCell ⟨W.heap.size + 2, 0, none⟩ y0).setCell ⟨W.heap.size + 2, 1, none⟩ y1) := by
  obtain ⟨h1, h2⟩ := place_end h.res y0 y1
  exact ⟨h1, hs.aside h2.other (box_slices h.res), h.low.trans (h2.below.mono (by omega))⟩
theorem NlI.cells {W V : World} {t : Tk} {x0 x1 : Value} {ts : List Tk} {st : List Int} (h : NlI W t V x0 x1 ts st) : (V.cell? ⟨W.heap.size, 0, none⟩ = some x0 ∧ V.cell? ⟨W.heap.size, 1, none⟩ = some x1 ∧ ∀ i, V.frozen? ⟨W.heap.size, i, none⟩ = false) ∧
    (V.cell? ⟨W.heap.size + 1, 0, none⟩ = some (.int .i64 t.kind) ∧ V.cell? ⟨W.heap.size + 1, 1, none⟩ = some (.string (tS t.text)) ∧ V.cell? ⟨W.heap.size + 1, 2, none⟩ = some (.int .i64 t.num) ∧ V.cell? ⟨W.heap.size + 1, 3, none⟩ = some (.int .i64 t.line) ∧ V.cell? ⟨W.heap.size + 1, 4, none⟩ = some (.int .i64 t.col)) ∧
    V.cell? ⟨W.heap.size + 2, 0, none⟩ = some (.slice none 0 0) ∧ V.cell? ⟨W.heap.size + 2, 1, none⟩ = some (.slice none 0 0) ∧ ∀ i, V.frozen? ⟨W.heap.size + 2, i, none⟩ = false := by
  obtain ⟨⟨a0, a1⟩, af⟩ := h.box.cells
  obtain ⟨b, _⟩ := h.tok.cells
  obtain ⟨⟨c0, c1⟩, cf⟩ := h.res.cells
  exact ⟨⟨a0, a1, af⟩, b, c0, c1, cf⟩
/-- The boxes, made. -/
theorem NlI.new {W : World} {t : Tk} {x0 x1 : Value} {ts : List Tk} {st : List Int} (h : StV W (.agg #[x0, x1]) ts st) : NlI W t (((W.alloc (.cells #[x0, x1] 49)).alloc (.cells #[.int .i64 t.kind, .string (tS t.text), .int .i64 t.num, .int .i64 t.line, .int .i64 t.col] 34)).alloc (.cells #[.slice none 0 0, .slice none 0 0] 49)) x0 x1 ts st := by
  obtain ⟨W1, hW1⟩ : ∃ V, W.alloc (.cells #[x0, x1] 49) = V := ⟨_, rfl⟩
  have hb1 : Below W.heap.size W W1 := by rw [← hW1]; exact (Below.refl _ _).alloc (Nat.le_refl _) _
  have hx1 : Box2 W1 49 W.heap.size x0 x1 := by rw [← hW1]; exact blk_new (Below.refl _ _)
  have hz1 : W1.heap.size = W.heap.size + 1 := by rw [← hW1]; simp
  rw [hW1]
  obtain ⟨W2, hW2⟩ : ∃ V, W1.alloc (.cells #[.int .i64 t.kind, .string (tS t.text), .int .i64 t.num, .int .i64 t.line, .int .i64 t.col] 34) = V := ⟨_, rfl⟩
  have hb2 : Below W1.heap.size W1 W2 := by rw [← hW2]; exact (Below.refl _ _).alloc (Nat.le_refl _) _
  have hx2 : Box5 W2 34 (W.heap.size + 1) (.int .i64 t.kind) (.string (tS t.text)) (.int .i64 t.num) (.int .i64 t.line) (.int .i64 t.col) := by rw [← hz1, ← hW2]; exact blk_new (Below.refl _ _)
  have hz2 : W2.heap.size = W.heap.size + 2 := by rw [← hW2]; simp; omega
  rw [hW2]
  obtain ⟨Wb, hWb⟩ : ∃ V, W2.alloc (.cells #[.slice none 0 0, .slice none 0 0] 49) = V := ⟨_, rfl⟩
  have hb3 : Below W2.heap.size W2 Wb := by rw [← hWb]; exact (Below.refl _ _).alloc (Nat.le_refl _) _
  have hx3 : Box2 Wb 49 (W.heap.size + 2) (.slice none 0 0) (.slice none 0 0) := by rw [← hz2, ← hWb]; exact blk_new (Below.refl _ _)
  rw [hWb]
  have hbW : Below W.heap.size W Wb := (hb1.trans (hb2.mono (by omega))).trans (hb3.mono (by omega))
  exact ⟨hbW, (hx1.below hb2).below hb3, hx2.below hb3, hx3, h.keeps (Keeps.of_below hbW)⟩
end Go.Proofs.YtchdfjihflmloaaGreatDoor

namespace Go.Proofs.YtchdfjihflmloaaGreatDoor
open Go.RowKit

/-- A function of the reference's: its state in a box, a token in a box, its result's place. -/
structure NlB (W : World) (t : Tk) (V : World) (x0 x1 : Value) (ts : List Tk) (st : List Int) : Prop where
  low : Below W.heap.size W V
  box : Box2 V 49 W.heap.size x0 x1
  tok : Box5 V 34 (W.heap.size + 2) (.int .i64 t.kind) (.string (tS t.text)) (.int .i64 t.num) (.int .i64 t.line) (.int .i64 t.col)
  res : Box2 V 49 (W.heap.size + 1) (.slice none 0 0) (.slice none 0 0)
  stv : StV V (.agg #[x0, x1]) ts st
theorem NlB.lt {W V : World} {t : Tk} {x0 x1 : Value} {ts : List Tk} {st : List Int} (h : NlB W t V x0 x1 ts st) : W.heap.size + 2 < V.heap.size := blk_lt h.tok
theorem NlB.below {W V V' : World} {t : Tk} {x0 x1 : Value} {ts : List Tk} {st : List Int} (h : NlB W t V x0 x1 ts st) (hb : Below V.heap.size V V') : NlB W t V' x0 x1 ts st :=
  ⟨h.low.trans (hb.mono (by have := h.lt; omega)), h.box.below hb, h.tok.below hb, h.res.below hb, h.stv.keeps (Keeps.of_below hb)⟩
/-- A new state, stored. -/
theorem NlB.set {W V : World} {t : Tk} {x0 x1 y0 y1 : Value} {ts ts' : List Tk} {st st' : List Int} (h : NlB W t V x0 x1 ts st) (hs : StV V (.agg #[y0, y1]) ts' st') : NlB W t ((V.setCell ⟨W.heap.size, 0, none⟩ y0).setCell ⟨W.heap.size, 1, none⟩ y1) y0 y1 ts' st' := by
  obtain ⟨a, n, c, b, m, d, e⟩ := h.stv.agg
  simp only [Value.agg.injEq, Array.mk.injEq, List.cons.injEq, and_true] at e
  obtain ⟨rfl, rfl⟩ := e
  obtain ⟨h1, h2⟩ := place_end h.box y0 y1
  exact ⟨h.low.trans h2.below, h1, (h2.other _ (by omega)).trans h.tok, (h2.other _ (by omega)).trans h.res, hs.aside h2.other (box_slices h.box)⟩
/-- The state, handed back. -/
theorem NlB.ends {W V : World} {t : Tk} {x0 x1 : Value} {ts : List Tk} {st : List Int} (h : NlB W t V x0 x1 ts st) : Box2 ((V.setCell ⟨W.heap.size + 1, 0, none⟩ x0).setCell ⟨W.heap.size + 1, 1, none⟩ x1) 49 (W.heap.size + 1) x0 x1 ∧ StV ((V.setCell ⟨W.heap.size + 1, 0, none⟩ x0).setCell ⟨W.heap.size + 1, 1, none⟩ x1) (.agg #[x0, x1]) ts st ∧ Below W.heap.size W ((V.setCell ⟨W.heap.size + 1, 0, none⟩ x0).setCell ⟨W.heap.size + 1, 1, none⟩ x1) := by
  obtain ⟨h1, h2⟩ := place_end h.res x0 x1
  exact ⟨h1, h.stv.aside h2.other (box_slices h.res), h.low.trans (h2.below.mono (by omega))⟩
/-- Any state, handed back. -/
theorem NlB.ends' {W V : World} {t : Tk} {x0 x1 y0 y1 : Value} {ts ts' : List Tk} {st st' : List Int} (h : NlB W t V x0 x1 ts st) (hs : StV V (.agg #[y0, y1]) ts' st') : Box2 ((V.setCell ⟨W.heap.size + 1, 0, none⟩ y0).setCell ⟨W.heap.size + 1, 1, none⟩ y1) 49 (W.heap.size + 1) y0 y1 ∧ StV ((V.setCell ⟨W.heap.size + 1, 0, none⟩ y0).setCell ⟨W.heap.size + 1, 1, none⟩ y1) (.agg #[y0, y1]) ts' st' ∧ Below W.heap.size W ((V.setCell ⟨W.heap.size + 1, 0, none⟩ y0).setCell ⟨W.heap.size + 1, 1, none⟩ y1) := by
  obtain ⟨h1, h2⟩ := place_end h.res y0 y1
  exact ⟨h1, hs.aside h2.other (box_slices h.res), h.low.trans (h2.below.mono (by omega))⟩
theorem NlB.cells {W V : World} {t : Tk} {x0 x1 : Value} {ts : List Tk} {st : List Int} (h : NlB W t V x0 x1 ts st) : (V.cell? ⟨W.heap.size, 0, none⟩ = some x0 ∧ V.cell? ⟨W.heap.size, 1, none⟩ = some x1 ∧ ∀ i, V.frozen? ⟨W.heap.size, i, none⟩ = false) ∧
    (V.cell? ⟨W.heap.size + 2, 0, none⟩ = some (.int .i64 t.kind) ∧ V.cell? ⟨W.heap.size + 2, 1, none⟩ = some (.string (tS t.text)) ∧ V.cell? ⟨W.heap.size + 2, 2, none⟩ = some (.int .i64 t.num) ∧ V.cell? ⟨W.heap.size + 2, 3, none⟩ = some (.int .i64 t.line) ∧ V.cell? ⟨W.heap.size + 2, 4, none⟩ = some (.int .i64 t.col)) ∧
    V.cell? ⟨W.heap.size + 1, 0, none⟩ = some (.slice none 0 0) ∧ V.cell? ⟨W.heap.size + 1, 1, none⟩ = some (.slice none 0 0) ∧ ∀ i, V.frozen? ⟨W.heap.size + 1, i, none⟩ = false := by
  obtain ⟨⟨a0, a1⟩, af⟩ := h.box.cells
  obtain ⟨b, _⟩ := h.tok.cells
  obtain ⟨⟨c0, c1⟩, cf⟩ := h.res.cells
  exact ⟨⟨a0, a1, af⟩, b, c0, c1, cf⟩
/-- The boxes, made. -/
theorem NlB.new {W : World} {t : Tk} {x0 x1 : Value} {ts : List Tk} {st : List Int} (h : StV W (.agg #[x0, x1]) ts st) : NlB W t (((W.alloc (.cells #[x0, x1] 49)).alloc (.cells #[.slice none 0 0, .slice none 0 0] 49)).alloc (.cells #[.int .i64 t.kind, .string (tS t.text), .int .i64 t.num, .int .i64 t.line, .int .i64 t.col] 34)) x0 x1 ts st := by
  obtain ⟨W1, hW1⟩ : ∃ V, W.alloc (.cells #[x0, x1] 49) = V := ⟨_, rfl⟩
  have hb1 : Below W.heap.size W W1 := by rw [← hW1]; exact (Below.refl _ _).alloc (Nat.le_refl _) _
  have hx1 : Box2 W1 49 W.heap.size x0 x1 := by rw [← hW1]; exact blk_new (Below.refl _ _)
  have hz1 : W1.heap.size = W.heap.size + 1 := by rw [← hW1]; simp
  rw [hW1]
  obtain ⟨W2, hW2⟩ : ∃ V, W1.alloc (.cells #[.slice none 0 0, .slice none 0 0] 49) = V := ⟨_, rfl⟩
  have hb2 : Below W1.heap.size W1 W2 := by rw [← hW2]; exact (Below.refl _ _).alloc (Nat.le_refl _) _
  have hx2 : Box2 W2 49 (W.heap.size + 1) (.slice none 0 0) (.slice none 0 0) := by rw [← hz1, ← hW2]; exact blk_new (Below.refl _ _)
  have hz2 : W2.heap.size = W.heap.size + 2 := by rw [← hW2]; simp; omega
  rw [hW2]
  obtain ⟨Wb, hWb⟩ : ∃ V, W2.alloc (.cells #[.int .i64 t.kind, .string (tS t.text), .int .i64 t.num, .int .i64 t.line, .int .i64 t.col] 34) = V := ⟨_, rfl⟩
  have hb3 : Below W2.heap.size W2 Wb := by rw [← hWb]; exact (Below.refl _ _).alloc (Nat.le_refl _) _
  have hx3 : Box5 Wb 34 (W.heap.size + 2) (.int .i64 t.kind) (.string (tS t.text)) (.int .i64 t.num) (.int .i64 t.line) (.int .i64 t.col) := by rw [← hz2, ← hWb]; exact blk_new (Below.refl _ _)
  rw [hWb]
  have hbW : Below W.heap.size W Wb := (hb1.trans (hb2.mono (by omega))).trans (hb3.mono (by omega))
  exact ⟨hbW, (hx1.below hb2).below hb3, hx3, hx2.below hb3, h.keeps (Keeps.of_below hbW)⟩
end Go.Proofs.YtchdfjihflmloaaGreatDoor
