/- The layout's refusal, walked; lengths, and what is left of a row. -/
import Derived.Test.YtchdfjihflmloaaGreatDoorLayB
import Derived.Test.YtchdfjihflmloaaGreatDoorLexV
namespace Go.Proofs.YtchdfjihflmloaaGreatDoor
open Go.RowKit

theorem ahead_len (p : Option Tk) (f : Bool) (t : Tk) (st : List Int) : (aheadS p f t st).1.length + (aheadS p f t st).2.length ≤ st.length + 2 := by
  unfold aheadS
  cases p with
  | none => simp only; split <;> simp <;> omega
  | some q =>
    simp only
    split
    · unfold lineS
      have := shutW_len (fun c => decide (t.col < c)) st
      simp only [List.length_append, List.length_replicate]
      split <;> simp <;> omega
    · simp
theorem fit_len {t : Tk} {st : List Int} {o2 : List Tk} {s2 : List Int} (h : fitS t st = some (o2, s2)) : o2.length + s2.length ≤ st.length := by
  unfold fitS at h
  split at h
  · have hl := shutW_len (fun _ => true) st
    split at h
    · cases h
    · rename_i c r hq
      rw [hq] at hl
      split at h
      · simp at h; obtain ⟨rfl, rfl⟩ := h; simp at hl ⊢; omega
      · cases h
  · split at h
    · cases st with
      | nil => cases h
      | cons c r =>
        simp only at h
        split at h
        · simp at h; obtain ⟨rfl, rfl⟩ := h; simp
        · cases h
    · simp at h; obtain ⟨rfl, rfl⟩ := h; simp
theorem beh_len (t : Tk) (n : Option Tk) (st : List Int) : (behS t n st).1.length + (behS t n st).2.1.length ≤ st.length + 2 := by
  unfold behS
  split
  · simp
  · split
    · simp
    · split
      · cases n with
        | none => simp; omega
        | some u =>
          simp only
          split
          · simp
          · split
            · simp; omega
            · simp; omega
      · simp
theorem TkRow.drop {w : World} {a : Option Addr} {l : List Tk} (h : TkRow w a l) (k : Nat) : TkRow w (a.map fun x => x.add (k * 5)) (l.drop k) := by
  rcases h with h | ⟨b, off, rfl, h⟩
  · subst h; exact .inl (by simp)
  · refine .inr ⟨b, off + k * 5, by simp [addr_plus], fun i hi => ?_⟩
    rw [List.length_drop] at hi
    have := h (k + i) (by omega)
    simp only [List.getElem_drop]
    rw [show off + k * 5 + i * 5 = off + (k + i) * 5 by omega]
    exact this

/-- What the layout answers. -/
def LayR (R : Res) (e : Ending) (W : World) : Prop :=
  match R with
  | .ok m => ∃ v, e = .returned (.tuple #[v, .agg #[.int .i64 0, .int .i64 0], .int .i64 0]) ∧ TkSl W v m
  | .bad x y => e = .returned (.tuple #[.slice none 0 0, .agg #[.int .i64 x, .int .i64 y], .int .i64 30])

set_option maxHeartbeats 4000000 in
set_option maxRecDepth 100000 in
theorem lay_failed (t : Tk) (W : World) : Calls Tryz.prog 10 #[tkV t] W fun e W' => e = .returned (.tuple #[.slice none 0 0, .agg #[.int .i64 t.line, .int .i64 t.col], .int .i64 30]) ∧ Below W.heap.size W W' := by
  obtain ⟨W1, hW1⟩ : ∃ V, W.alloc (.cells #[.int .i64 t.kind, .string (tS t.text), .int .i64 t.num, .int .i64 t.line, .int .i64 t.col] 34) = V := ⟨_, rfl⟩
  have hb1 : Below W.heap.size W W1 := by rw [← hW1]; exact (Below.refl _ _).alloc (Nat.le_refl _) _
  have hx1 : Box5 W1 34 W.heap.size (.int .i64 t.kind) (.string (tS t.text)) (.int .i64 t.num) (.int .i64 t.line) (.int .i64 t.col) := by rw [← hW1]; exact blk_new (Below.refl _ _)
  have hz1 : W1.heap.size = W.heap.size + 1 := by rw [← hW1]; simp
  obtain ⟨W2, hW2⟩ : ∃ V, W1.alloc (.cells #[.int .i64 0, .int .i64 0] 25) = V := ⟨_, rfl⟩
  have hb2 : Below W1.heap.size W1 W2 := by rw [← hW2]; exact (Below.refl _ _).alloc (Nat.le_refl _) _
  have hx2 : Box2 W2 25 W1.heap.size (.int .i64 0) (.int .i64 0) := by rw [← hW2]; exact blk_new (Below.refl _ _)
  rw [hz1] at hx2
  have hst : Hid (∀ V, V = W2.drew → V.cell? ⟨W.heap.size, 3, none⟩ = some (.int .i64 t.line) ∧ V.cell? ⟨W.heap.size, 4, none⟩ = some (.int .i64 t.col) ∧ V.cell? ⟨W.heap.size + 1, 0, none⟩ = some (.int .i64 0) ∧ V.cell? ⟨W.heap.size + 1, 1, none⟩ = some (.int .i64 0) ∧ ∀ i, V.frozen? ⟨W.heap.size + 1, i, none⟩ = false) := by
    rintro V rfl
    obtain ⟨⟨_, _, _, d3, d4⟩, _⟩ := (hx1.below hb2).cells
    obtain ⟨⟨e0, e1⟩, ef⟩ := hx2.cells
    exact ⟨d3, d4, e0, e1, ef⟩
  have hfin : Hid (Box2 ((W2.drew.setCell ⟨W.heap.size + 1, 0, none⟩ (.int .i64 t.line)).setCell ⟨W.heap.size + 1, 1, none⟩ (.int .i64 t.col)) 25 (W.heap.size + 1) (.int .i64 t.line) (.int .i64 t.col) ∧ Below W.heap.size W ((W2.drew.setCell ⟨W.heap.size + 1, 0, none⟩ (.int .i64 t.line)).setCell ⟨W.heap.size + 1, 1, none⟩ (.int .i64 t.col))) := by
    have hq := (show Box2 W2.drew 25 (W.heap.size + 1) (.int .i64 0) (.int .i64 0) from hx2).set (.int .i64 t.line) (.int .i64 t.col)
    unfold World.set2 at hq
    exact ⟨hq.1, (hb1.trans ((hb2.trans (Below.refl _ _).drew).mono (by omega))).trans (hq.2.below.mono (by omega))⟩
  have hW1' := Lib.hid hW1
  have hW2' := Lib.hid hW2
  clear hW1 hb1 hx1 hz1 hW2 hb2 hx2
  unfold tkV
  go_enter Tryz.func10, Tryz.ntmps10
  go_upto_region 1 with (fail)
  rw [hW1'.out, hW2'.out]
  refine wp_region_inv (fun f a Vr => ∃ x : Nat → Value, a = ⟨#[.agg #[.int .i64 t.kind, .string (tS t.text), .int .i64 t.num, .int .i64 t.line, .int .i64 t.col], .pointer (some ⟨W.heap.size, 0, none⟩), x 5, .pointer (some ⟨W.heap.size + 1, 0, none⟩), x 7, x 0, x 1, x 2, x 3, x 4], []⟩ ∧ (f 6 = false → Vr = W2.drew) ∧ (f 6 = true → Vr = (W2.drew.setCell ⟨W.heap.size + 1, 0, none⟩ (.int .i64 t.line)).setCell ⟨W.heap.size + 1, 1, none⟩ (.int .i64 t.col)) ∧ VO [some (.pointer (some ⟨W.heap.size, 3, none⟩)), some (.int .i64 t.line), some (.pointer (some ⟨W.heap.size, 4, none⟩)), some (.int .i64 t.col), some (.agg #[.int .i64 t.line, .int .i64 t.col]), some (.slice none 0 0), none, some (.int .i64 30)] f x) (by kernel_rfl) (by kernel_rfl) (rs := [0, 1, 2, 3, 4, 5, 6, 7]) (by kernel_rfl) ?start ?steps ?last
  case start => exact ⟨fun i => ([undef, undef, undef, undef, undef, .slice none 0 0, undef, .int .i64 0] : List Value).getD i undef, rfl, fun _ => rfl, by simp, VO.nil _ _⟩
  case steps =>
    refine (KeepsI.cons (ds := []) rfl (by kernel_rfl) ?s0 (KeepsI.cons (ds := [0]) rfl (by kernel_rfl) ?s1 (KeepsI.cons (ds := []) rfl (by kernel_rfl) ?s2 (KeepsI.cons (ds := [2]) rfl (by kernel_rfl) ?s3 (KeepsI.cons (ds := [1, 3]) rfl (by kernel_rfl) ?s4 (KeepsI.cons (ds := []) rfl (by kernel_rfl) ?s5 (KeepsI.cons (ds := [4]) rfl (by kernel_rfl) ?s6 (KeepsI.cons (ds := []) rfl (by kernel_rfl) ?s7 KeepsI.nil))))))))
    all_goals (intro f a Vr hf hd hcl hI K' hK; obtain ⟨x, rfl, c0, c1, hx⟩ := hI)
    case s0 =>
      go_simp
      exact hK _ _ ⟨(upd x 0 (.pointer (some ⟨W.heap.size, 3, none⟩))), rfl, c0, c1, (hx.set 0 rfl)⟩
    case s1 =>
      have e0 := hx.get 0 rfl (hd 0 (by simp))
      rw [e0]
      clear e0
      have n6 : f 6 = false := by cases h : f 6; rfl; exact absurd (hcl 4 1 (by kernel_rfl) (hcl 6 4 (by kernel_rfl) (h))) (by rw [hf]; simp)
      have hv := c0 n6
      obtain ⟨d3, d4, e0, e1, ef⟩ := hst.out Vr hv
      clear hv
      clear n6
      go_simp
      exact hK _ _ ⟨(upd (upd x 0 (.pointer (some ⟨W.heap.size, 3, none⟩))) 1 (.int .i64 t.line)), rfl, c0, c1, ((hx.put 0 rfl).set 1 rfl)⟩
    case s2 =>
      go_simp
      exact hK _ _ ⟨(upd x 2 (.pointer (some ⟨W.heap.size, 4, none⟩))), rfl, c0, c1, (hx.set 2 rfl)⟩
    case s3 =>
      have e2 := hx.get 2 rfl (hd 2 (by simp))
      rw [e2]
      clear e2
      have n6 : f 6 = false := by cases h : f 6; rfl; exact absurd (hcl 4 3 (by kernel_rfl) (hcl 6 4 (by kernel_rfl) (h))) (by rw [hf]; simp)
      have hv := c0 n6
      obtain ⟨d3, d4, e0, e1, ef⟩ := hst.out Vr hv
      clear hv
      clear n6
      go_simp
      exact hK _ _ ⟨(upd (upd x 2 (.pointer (some ⟨W.heap.size, 4, none⟩))) 3 (.int .i64 t.col)), rfl, c0, c1, ((hx.put 2 rfl).set 3 rfl)⟩
    case s4 =>
      have e1 := hx.get 1 rfl (hd 1 (by simp))
      have e3 := hx.get 3 rfl (hd 3 (by simp))
      rw [e1, e3]
      clear e1 e3
      go_simp
      exact hK _ _ ⟨(upd (upd (upd x 1 (.int .i64 t.line)) 3 (.int .i64 t.col)) 4 (.agg #[.int .i64 t.line, .int .i64 t.col])), rfl, c0, c1, (((hx.put 1 rfl).put 3 rfl).set 4 rfl)⟩
    case s5 =>
      go_simp
      exact hK _ _ ⟨(upd x 5 (.slice none 0 0)), rfl, c0, c1, (hx.set 5 rfl)⟩
    case s6 =>
      have e4 := hx.get 4 rfl (hd 4 (by simp))
      rw [e4]
      clear e4
      have hv := Lib.hid (c0 hf)
      obtain ⟨d3, d4, e0, e1, ef⟩ := hst.out Vr hv.out
      clear c0
      go_simp
      exact hK _ _ ⟨(upd x 4 (.agg #[.int .i64 t.line, .int .i64 t.col])), rfl, fun h => (nomatch h), fun _ => by rw [hv.out], VO.done (hx.put 4 rfl) 6 rfl⟩
    case s7 =>
      go_simp
      exact hK _ _ ⟨(upd x 7 (.int .i64 30)), rfl, c0, c1, (hx.set 7 rfl)⟩
  case last =>
    rintro f a Vr hf ⟨x, rfl, c0, c1, hx⟩
    have e := c1 (hf 6 (by simp))
    have e5 := hx.get 5 rfl (hf 5 (by simp))
    have e7 := hx.get 7 rfl (hf 7 (by simp))
    rw [e5, e7]
    clear c0 c1 hx e5 e7
    subst e
    go_wp2_with fail
    refine bodyPost_ret (results_lex rfl _ _ rfl rfl rfl hfin.out.1.cells.1) rfl ⟨rfl, hfin.out.2⟩

/-- A result's place, stored anew. -/
theorem place_end {W : World} {b : Nat} {t : TypeId} {x0 x1 : Value} (h : Box2 W t b x0 x1) (y0 y1 : Value) : Box2 ((W.setCell ⟨b, 0, none⟩ y0).setCell ⟨b, 1, none⟩ y1) t b y0 y1 ∧ OneSet b W ((W.setCell ⟨b, 0, none⟩ y0).setCell ⟨b, 1, none⟩ y1) := by
  have := h.set y0 y1
  unfold World.set2 at this
  exact this
end Go.Proofs.YtchdfjihflmloaaGreatDoor
