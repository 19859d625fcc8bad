/- The layout's small functions, walked: sign, last, column, all. -/
import Derived.Test.YtchdfjihflmloaaGreatDoorLayP
import Derived.Deep.QuietTactic
import Derived.Deep.LoopGhost
namespace Go.Proofs.YtchdfjihflmloaaGreatDoor
open Go.RowKit

/-- A token's text, if it is a key word, or a sign. -/
def sgnT (t : Tk) : Bs := if t.kind = 4 then t.text else []
theorem keyT_sign (t : Tk) (s : Bs) (hs : s ≠ []) : keyT t s = decide (tS (sgnT t) = tS s) := by
  have hinj : ∀ a b : Bs, tS a = tS b → a = b := fun a b h => by
    have := congrArg bS h
    rwa [bS_tS, bS_tS] at this
  unfold keyT sgnT
  split
  · rename_i h
    simp only [h, decide_true, Bool.true_and]
    by_cases h2 : t.text = s
    · simp [h2]
    · rw [decide_eq_false h2, decide_eq_false fun e => h2 (hinj _ _ e)]
  · rename_i h
    simp only [h, decide_false, Bool.false_and]
    exact (decide_eq_false fun e => hs (hinj _ _ e).symm).symm
theorem lay_sign (t : Tk) (W : World) : Calls Tryz.prog 11 #[tkV t] W fun e W' => e = .returned (.string (tS (sgnT t))) ∧ Below W.heap.size W W' := by
  obtain ⟨W1, hW1⟩ : ∃ V, W.alloc (.cells #[.int .i64 t.kind, .string (tS t.text), .int .i64 t.num, .int .i64 t.line, .int .i64 t.col] 34) = V := ⟨_, rfl⟩
  have hb1 : Below W.heap.size W W1 := by rw [← hW1]; exact (Below.refl _ _).alloc (Nat.le_refl _) _
  have hx1 : Box5 W1 34 W.heap.size (.int .i64 t.kind) (.string (tS t.text)) (.int .i64 t.num) (.int .i64 t.line) (.int .i64 t.col) := by rw [← hW1]; exact blk_new (Below.refl _ _)
  obtain ⟨⟨d0, d1, _, _, _⟩, _⟩ := hx1.cells
  have hb1' := Lib.hid hb1
  clear hb1 hx1
  unfold tkV
  by_cases hk : t.kind = 4
  · rw [hk] at hW1 d0
    have hW1' := Lib.hid hW1
    clear hW1
    have hs : Hid (tS (sgnT t) = tS t.text) := by unfold Hid sgnT; rw [if_pos hk]
    go_enter Tryz.func11, Tryz.ntmps11
    go_upto_region 1 with (fail)
    rw [hW1'.out]
    go_wp2_with fail
    go_ret
    exact ⟨by rw [hs.out]; rfl, hb1'.out⟩
  · have hW1' := Lib.hid hW1
    clear hW1
    have hs : Hid (tS (sgnT t) = ⟨#[]⟩) := by unfold Hid sgnT; rw [if_neg hk]; rfl
    go_enter Tryz.func11, Tryz.ntmps11
    go_upto_region 1 with (fail)
    rw [hW1'.out]
    go_wp2_with fail
    go_ret
    exact ⟨by rw [hs.out]; rfl, hb1'.out⟩

def lastS : List Int → Int
  | [] => -2
  | c :: _ => c
theorem lay_last {base mb : Nat} {o s : Value} {ts : List Tk} {st : List Int} (W : World) (h : MkS base W mb o ts s st) (hl : st.length ≤ 1000000) :
    Calls Tryz.prog 15 #[.pointer (some ⟨mb, 0, none⟩)] W fun e W' => e = .returned (.int .i64 (lastS st)) ∧ ∃ n, W' = W.drewN n := by
  obtain ⟨oa, oc, sa, sc, rfl, rfl, _, _⟩ := h.forms
  obtain ⟨⟨_, c1⟩, cf⟩ := h.box.cells
  cases st with
  | nil =>
    rw [List.length_nil] at c1
    clear h
    go_enter Tryz.func15, Tryz.ntmps15
    go_wp2_with fail
    go_ret
    exact ⟨rfl, 0, rfl⟩
  | cons c r =>
    obtain ⟨g, rfl, hc⟩ := h.at (by simp)
    have hc0 := hc 0 (by simp)
    simp only [List.length_cons, Nat.add_sub_cancel, Nat.sub_zero, List.getElem_cons_zero] at hc0
    rw [List.length_cons] at c1 hl
    have hw : IntKind.i64.wrap (r.length : Int) = (r.length : Int) := IntWalk.i64_in _ (by omega)
    clear h hc
    go_enter Tryz.func15, Tryz.ntmps15
    go_wp2_with fail
    go_quiet (fail)
    go_wp2_with fail
    go_ret
    exact ⟨rfl, _, rfl⟩

set_option maxHeartbeats 1000000 in
theorem lay_column {base mb : Nat} {o s : Value} {ts : List Tk} {st : List Int} (W : World) (h : MkS base W mb o ts s st) (hl : st.length ≤ 1000000) :
    Calls Tryz.prog 34 #[.pointer (some ⟨mb, 0, none⟩)] W fun e W' => e = .returned (.int .i64 (colS st)) ∧ W' = W := by
  obtain ⟨oa, oc, sa, sc, rfl, rfl, _, _⟩ := h.forms
  obtain ⟨⟨_, c1⟩, cf⟩ := h.box.cells
  have hw0 : IntKind.i64.wrap ((st.length : Int) - 1) = (st.length : Int) - 1 := IntWalk.i64_in _ (by omega)
  have h' := Lib.hid h
  clear h
  go_enter Tryz.func34, Tryz.ntmps34
  go_wp2_with fail
  go_loop [3] (fun n => ∃ (k : Nat) (i : Int), k ≤ st.length ∧ n = .int .i64 i ∧ i = (k : Int) - 1 ∧ Hid (colS (st.drop (st.length - k)) = colS st)) (fun n => (intOf n + 1).toNat)
  case atStart => exact ⟨st.length, _, Nat.le_refl _, rfl, rfl, by unfold Hid; simp⟩
  case round =>
    obtain ⟨k, i, hk, rfl, hi, hcs⟩ := hrel
    clear hw0
    cases k with
    | zero =>
      obtain rfl : i = -1 := by omega
      have hcs2 : Hid (colS st = 0) := by have := hcs.out; rw [Nat.sub_zero, List.drop_length] at this; exact this.symm
      clear hi
      go_wp2_with fail
      go_ret
      exact ⟨by rw [hcs2.out]; rfl, rfl⟩
    | succ k =>
      obtain rfl : i = (k : Int) := by omega
      clear hi
      obtain ⟨g, rfl, hc⟩ := h'.out.at (by rintro rfl; simp at hk)
      have hck := hc (st.length - 1 - k) (by omega)
      rw [show st.length - 1 - (st.length - 1 - k) = k by omega] at hck
      have hdr : Hid (colS st = if 0 < st[st.length - 1 - k]'(by omega) then st[st.length - 1 - k]'(by omega) else colS (st.drop (st.length - k))) := by
        unfold Hid
        rw [← hcs.out, List.drop_eq_getElem_cons (by omega), colS]
        simp only [show st.length - (k + 1) = st.length - 1 - k by omega]
        rw [show st.length - 1 - k + 1 = st.length - k by omega]
      generalize st[st.length - 1 - k]'(by omega) = c at hck hdr
      have hlt : k < st.length := by omega
      have hki : (k : Int) < (st.length : Int) := by omega
      have hw : IntKind.i64.wrap ((k : Int) - 1) = (k : Int) - 1 := IntWalk.i64_in _ (by omega)
      clear hc hcs
      by_cases h0 : 0 < c
      · have hr : Hid (colS st = c) := by have := hdr.out; rw [if_pos h0] at this; exact this
        go_wp2_with fail
        go_ret
        exact ⟨by rw [hr.out]; rfl, rfl⟩
      · have hr : Hid (colS (st.drop (st.length - k)) = colS st) := by have := hdr.out; rw [if_neg h0] at this; exact this.symm
        go_wp2_with fail
        go_round
        case rel => exact ⟨k, _, by omega, rfl, rfl, hr⟩
        case measure => simp [intOf] <;> omega

theorem lay_all (W : World) (c : Int) : Calls Tryz.prog 18 #[.int .i64 c] W fun e W' => e = .returned (.bool true) ∧ W' = W := by
  go_enter Tryz.func18, Tryz.ntmps18
  go_wp2_with fail
  go_ret
  exact ⟨rfl, rfl⟩
theorem lay_further (W : World) (c : Int) (b : Nat) (x0 x1 x2 x3 : Value) (x4 : Int) (h : Box5 W 34 b x0 x1 x2 x3 (.int .i64 x4)) : Calls Tryz.prog 14 #[.int .i64 c, .pointer (some ⟨b, 0, none⟩)] W fun e W' => e = .returned (.bool (decide (x4 < c))) ∧ W' = W := by
  obtain ⟨⟨_, _, _, _, d4⟩, _⟩ := h.cells
  clear h
  go_enter Tryz.func14, Tryz.ntmps14
  go_wp2_with fail
  go_ret
  exact ⟨rfl, rfl⟩
end Go.Proofs.YtchdfjihflmloaaGreatDoor
