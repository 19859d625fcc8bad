/- Two types made one, walked. -/
import Derived.Test.YticjpeefhppjoaaDoorTyR
import Derived.Deep.CutRange
namespace Go.Proofs.YticjpeefhppjoaaDoor
open Go.RowKit

set_option maxHeartbeats 4000000 in
set_option maxRecDepth 100000 in
theorem ty_one (w₀ : World) (mk mb : Nat) (hne : mk ≠ mb) : ∀ (fuel : Nat) (L : List Fa) (a b : Ty) (va vb : Value) (w : World) (out : List Fa × Bool), oneT fuel L a b = some out → out.1.length ≤ 1000000 → CntL L → tcnt a ≤ 100000 → tcnt b ≤ 100000 → MkIs w mk mb → MpIs w₀ w mb L → IsTy w₀ va a → IsTy w₀ vb b → KeepsBut (fun _ => False) w₀ w →
    Calls Tryd.prog 43 #[.pointer (some ⟨mk, 0, none⟩), va, vb] w fun z w' => z = .returned (.bool out.2) ∧ MpIs w₀ w' mb out.1 ∧ BelowB w.heap.size mb w w' := by
  intro fuel
  induction fuel with
  | zero => intro L a b va vb w out h; simp [oneT] at h
  | succ fuel ih =>
  intro L a b va vb w out h hol hcl hca hcb hk hm hva hvb h0
  have hLl := (oneT_ok _ _ _ _ _ h).2.1
  obtain ⟨v, hv⟩ : ∃ v, rootT L (L.length + 1) a = some v := by
    simp only [oneT] at h
    cases h1 : rootT L (L.length + 1) a with
    | none => rw [h1] at h; simp at h
    | some v => exact ⟨v, rfl⟩
  obtain ⟨z, hz⟩ : ∃ z, rootT L (L.length + 1) b = some z := by
    simp only [oneT, hv] at h
    cases h1 : rootT L (L.length + 1) b with
    | none => rw [h1] at h; simp at h
    | some v => exact ⟨v, rfl⟩
  obtain ⟨x, hx⟩ := root_walk hv
  obtain ⟨y, hy⟩ := root_walk hz
  have hcv := rootT_cnt hcl _ _ _ hv hca
  have hcz := rootT_cnt hcl _ _ _ hz hcb
  have hcx := walkT_cnt hcl _ _ _ hx hcv
  have hcy := walkT_cnt hcl _ _ _ hy hcz
  obtain ⟨sa, na, la⟩ := a
  obtain ⟨sc, nc, lc⟩ := b
  have hva' := Lib.hid hva
  have hvb' := Lib.hid hvb
  obtain ⟨aa, ac, rfl, _, han, _⟩ := hva.open
  obtain ⟨ba, bc, rfl, _, hbn, _⟩ := hvb.open
  have hk' := Lib.hid hk
  have hm' := Lib.hid hm
  have hmk := hk.lt
  have hmb := hm.lt
  have h' := Lib.hid h
  have h0' := Lib.hid h0
  have ih' := Lib.hid ih
  have hv' := Lib.hid hv
  have hz' := Lib.hid hz
  have hcl' := Lib.hid hcl
  have hx' := Lib.hid hx
  have hy' := Lib.hid hy
  obtain ⟨W1, hW1⟩ : ∃ W, (w.alloc (.cells #[.string sa, .int .i64 na, .slice aa la.length ac] 24)).alloc (.cells #[.string sc, .int .i64 nc, .slice ba lc.length bc] 24) = W := ⟨_, rfl⟩
  have hz1 : W1.heap.size = w.heap.size + 2 := by rw [← hW1]; simp
  have hb1 : Below w.heap.size w W1 := by rw [← hW1]; exact ((Below.refl _ w).alloc (Nat.le_refl _) _).alloc (by simp) _
  have hba : BoxT W1 w.heap.size (.string sa) (.int .i64 na) (.slice aa la.length ac) := by rw [← hW1]; exact new_block ((Below.refl _ _).alloc (by simp) _)
  have hbb : BoxT W1 (w.heap.size + 1) (.string sc) (.int .i64 nc) (.slice ba lc.length bc) := by rw [← hW1]; exact new_block2 (Below.refl _ _)
  have hW1' := Lib.hid hW1
  have hb1' := Lib.hid hb1
  have hba' := Lib.hid hba
  have hbb' := Lib.hid hbb
  obtain ⟨q0, q1, q2⟩ := hba.cells
  obtain ⟨q3, q4, q5⟩ := hbb.cells
  clear hW1 hb1 hba hbb hk hm h h0 ih hv hz hva hvb hcl hx hy
  go_enter Tryd.func43, Tryd.ntmps43
  go_upto_region 1 with (fail)
  rw [hW1'.out]
  clear q0 q1 q2 q3 q4 q5
  go_cut [7, 8] from 7 to 15 (fun x7 x8 U => ∃ (B7 B8 : Nat) (y7 y8 : Option Addr) (c7 c8 : Nat), x7 = .pointer (some ⟨B7, 0, none⟩) ∧ x8 = .pointer (some ⟨B8, 0, none⟩) ∧ B7 ≠ B8 ∧ w.heap.size + 2 ≤ B7 ∧ w.heap.size + 2 ≤ B8 ∧ Below (w.heap.size + 2) W1 U ∧ BoxT U B7 (.string v.name) (.int .i64 v.n) (.slice y7 v.args.length c7) ∧ BoxT U B8 (.string z.name) (.int .i64 z.n) (.slice y8 z.args.length c8) ∧ IsTy w₀ (.agg #[.string v.name, .int .i64 v.n, .slice y7 v.args.length c7]) v ∧ IsTy w₀ (.agg #[.string z.name, .int .i64 z.n, .slice y8 z.args.length c8]) z)
  case first =>
    refine wp_region_inv (fun f a V => ∃ x7 x8 x10 x11 x12 x13 x14 x15, a = ⟨#[.pointer (some ⟨mk, 0, none⟩), .agg #[.string sa, .int .i64 na, .slice aa la.length ac], .agg #[.string sc, .int .i64 nc, .slice ba lc.length bc], undef, .pointer (some ⟨w.heap.size, 0, none⟩), .pointer (some ⟨w.heap.size + 1, 0, none⟩), .bool false, x7, x8, undef, x10, x11, x12, x13, x14, x15, undef, undef, undef, undef, undef, undef, undef, undef, undef, undef, undef, undef, undef, undef, undef, undef, undef, undef, undef, undef, undef, undef, undef, undef, undef, undef, undef, undef, undef, undef, undef, undef, undef, undef, undef, undef, undef, undef, undef, undef, undef, undef, undef, undef, undef, undef, undef, undef, undef, undef, undef, undef, undef, undef, undef, undef, undef, undef, undef, undef, undef, undef, undef, undef, undef, undef, undef, undef, undef, undef, undef, undef, undef, undef, undef, undef, undef, undef, undef, undef, undef, undef, undef, undef, undef, undef, undef, undef, undef, undef, undef, undef, undef, undef, undef, undef, undef, undef, undef], []⟩ ∧ Below (w.heap.size + 2) W1 V ∧ (f 0 = true → x10 = .pointer (some ⟨mk, 0, none⟩)) ∧ (f 1 = true → x11 = .agg #[.string sa, .int .i64 na, .slice aa la.length ac]) ∧ (f 2 = true → AggT w₀ x12 v) ∧ (f 3 = true → x13 = .pointer (some ⟨mk, 0, none⟩)) ∧ (f 4 = true → x14 = .agg #[.string sc, .int .i64 nc, .slice ba lc.length bc]) ∧ (f 5 = true → AggT w₀ x15 z) ∧ (f 6 = true → NewB V (w.heap.size + 2) x7 (f 8 = true) x12) ∧ (f 7 = true → NewB V (w.heap.size + 2) x8 (f 9 = true) x15) ∧ (f 6 = true → f 7 = true → x7 ≠ x8) ∧ (f 8 = true → f 6 = true ∧ f 2 = true) ∧ (f 9 = true → f 7 = true ∧ f 5 = true)) (by kernel_rfl) (by kernel_rfl) (rs := [0, 1, 2, 3, 4, 5, 6, 7, 8, 9]) (by kernel_rfl) ?start ?steps ?done
    case start =>
      exact ⟨_, _, _, _, _, _, _, _, rfl, (Below.refl _ W1).drew, by simp, by simp, by simp, by simp, by simp, by simp, by simp, by simp, by simp, by simp, by simp⟩
    case steps =>
      refine KeepsI.cons (ds := []) rfl (by kernel_rfl) ?s0 (KeepsI.cons (ds := []) rfl (by kernel_rfl) ?s1 (KeepsI.cons (ds := [0, 1]) rfl (by kernel_rfl) ?s2 (KeepsI.cons (ds := []) rfl (by kernel_rfl) ?s3 (KeepsI.cons (ds := []) rfl (by kernel_rfl) ?s4 (KeepsI.cons (ds := [3, 4]) rfl (by kernel_rfl) ?s5 (KeepsI.cons (ds := []) rfl (by kernel_rfl) ?s6 (KeepsI.cons (ds := []) rfl (by kernel_rfl) ?s7 (KeepsI.cons (ds := [6, 2]) rfl (by kernel_rfl) ?s8 (KeepsI.cons (ds := [7, 5]) rfl (by kernel_rfl) ?s9 KeepsI.nil)))))))))
      all_goals (intro f a V hf hd hcl hI K' hK; obtain ⟨x7, x8, x10, x11, x12, x13, x14, x15, rfl, hB, h0, h1, h2, h3, h4, h5, h6, h7, h67, h8, h9⟩ := hI)
      case s0 =>
        go_simp
        exact hK _ _ ⟨_, _, _, _, _, _, _, _, rfl, hB, fun _ => rfl, h1, h2, h3, h4, h5, h6, h7, h67, h8, h9⟩
      case s1 =>
        obtain ⟨q0, q1, q2⟩ := (hba'.out.below hB (by omega)).cells
        go_simp
        exact hK _ _ ⟨_, _, _, _, _, _, _, _, rfl, hB, h0, fun _ => rfl, h2, h3, h4, h5, h6, h7, h67, h8, h9⟩
      case s2 =>
        have e0 := h0 (hd 0 (by simp))
        have e1 := h1 (hd 1 (by simp))
        subst e0 e1
        have n8 : ¬ f 8 = true := fun h => by rw [(h8 h).2] at hf; cases hf
        have hct := Lib.hid (ty_root w₀ mk mb L _ _ v _ V hv'.out (hk'.out.below (hb1'.out.trans (hB.mono (by omega))) hmk) (hm'.out.below (hb1'.out.trans (hB.mono (by omega))) hmb) hva'.out)
        go_simp
        refine hct.out.mono ?_
        rintro e V' ⟨u, rfl, hu, hB'⟩
        obtain ⟨y, c, rfl⟩ := hu.form
        go_simp
        exact hK _ _ ⟨_, _, _, _, _, _, _, _, rfl, hB.trans (hB'.mono (by have := hB.size; omega)), h0, h1, fun _ => ⟨_, _, rfl, hu⟩, h3, h4, h5, fun h => by
          obtain ⟨B, rfl, hb, x0, x1, x2, hx, _⟩ := h6 h
          exact ⟨B, rfl, hb, x0, x1, x2, hx.below hB' hx.lt, fun h => absurd h n8⟩, fun h => (h7 h).below hB' (fun h => h), h67, fun h => absurd h n8, h9⟩
      case s3 =>
        go_simp
        exact hK _ _ ⟨_, _, _, _, _, _, _, _, rfl, hB, h0, h1, h2, fun _ => rfl, h4, h5, h6, h7, h67, h8, h9⟩
      case s4 =>
        obtain ⟨q0, q1, q2⟩ := (hbb'.out.below hB (by omega)).cells
        go_simp
        exact hK _ _ ⟨_, _, _, _, _, _, _, _, rfl, hB, h0, h1, h2, h3, fun _ => rfl, h5, h6, h7, h67, h8, h9⟩
      case s5 =>
        have e0 := h3 (hd 3 (by simp))
        have e1 := h4 (hd 4 (by simp))
        subst e0 e1
        have n9 : ¬ f 9 = true := fun h => by rw [(h9 h).2] at hf; cases hf
        have hct := Lib.hid (ty_root w₀ mk mb L _ _ z _ V hz'.out (hk'.out.below (hb1'.out.trans (hB.mono (by omega))) hmk) (hm'.out.below (hb1'.out.trans (hB.mono (by omega))) hmb) hvb'.out)
        go_simp
        refine hct.out.mono ?_
        rintro e V' ⟨u, rfl, hu, hB'⟩
        obtain ⟨y, c, rfl⟩ := hu.form
        go_simp
        exact hK _ _ ⟨_, _, _, _, _, _, _, _, rfl, hB.trans (hB'.mono (by have := hB.size; omega)), h0, h1, h2, h3, h4, fun _ => ⟨_, _, rfl, hu⟩, fun h => (h6 h).below hB' (fun h => h), fun h => by
          obtain ⟨B, rfl, hb, x0, x1, x2, hx, _⟩ := h7 h
          exact ⟨B, rfl, hb, x0, x1, x2, hx.below hB' hx.lt, fun h => absurd h n9⟩, h67, h8, fun h => absurd h n9⟩
      case s6 =>
        have n8 : ¬ f 8 = true := fun h => by rw [(h8 h).1] at hf; cases hf
        go_simp
        refine hK _ _ ⟨_, _, _, _, _, _, _, _, rfl, hB.alloc (by have := hB.size; omega) _, h0, h1, h2, h3, h4, h5, fun _ => ⟨_, rfl, by have := hB.size; omega, _, _, _, new_block (Below.refl _ _), fun h => absurd h n8⟩, fun h => (h7 h).below ((Below.refl _ V).alloc (Nat.le_refl _) _) (fun h => h), fun _ h e => (h7 h).ne e.symm, fun h => absurd h n8, h9⟩
      case s7 =>
        have n9 : ¬ f 9 = true := fun h => by rw [(h9 h).1] at hf; cases hf
        go_simp
        refine hK _ _ ⟨_, _, _, _, _, _, _, _, rfl, hB.alloc (by have := hB.size; omega) _, h0, h1, h2, h3, h4, h5, fun h => (h6 h).below ((Below.refl _ V).alloc (Nat.le_refl _) _) (fun h => h), fun _ => ⟨_, rfl, by have := hB.size; omega, _, _, _, new_block (Below.refl _ _), fun h => absurd h n9⟩, fun h _ e => (h6 h).ne e, h8, fun h => absurd h n9⟩
      case s8 =>
        obtain ⟨B, e6, hb, x0, x1, x2, hx, _⟩ := h6 (hd 6 (by simp))
        obtain ⟨y, c, e2, hy⟩ := h2 (hd 2 (by simp))
        have hne := fun h => h67 (hd 6 (by simp)) h
        subst e6 e2
        obtain ⟨r0, r1, r2⟩ := hx.cells
        have hs := hx.set (.string v.name) (.int .i64 v.n) (.slice y v.args.length c)
        have f0 : V.frozen? ⟨B, 0, none⟩ = false := by unfold BoxT at hx; simp [World.frozen?, hx]
        have f1 : V.frozen? ⟨B, 1, none⟩ = false := by unfold BoxT at hx; simp [World.frozen?, hx]
        have f2 : V.frozen? ⟨B, 2, none⟩ = false := by unfold BoxT at hx; simp [World.frozen?, hx]
        go_simp
        refine hK _ (World.box3 V B _ _ _) ⟨_, _, _, _, _, _, _, _, rfl, hB.trans (hs.2.1.mono hb), h0, h1, fun _ => ⟨_, _, rfl, hy⟩, h3, h4, h5, fun _ => ⟨B, rfl, hb, _, _, _, hs.1, fun _ => rfl⟩, fun h => (h7 h).set (fun e => hne h e.symm) hx _ _ _, h67, fun _ => ⟨hd 6 (by simp), hd 2 (by simp)⟩, h9⟩
      case s9 =>
        obtain ⟨B, e7, hb, x0, x1, x2, hx, _⟩ := h7 (hd 7 (by simp))
        obtain ⟨y, c, e5, hy⟩ := h5 (hd 5 (by simp))
        have hne := fun h => h67 h (hd 7 (by simp))
        subst e7 e5
        obtain ⟨r0, r1, r2⟩ := hx.cells
        have hs := hx.set (.string z.name) (.int .i64 z.n) (.slice y z.args.length c)
        have f0 : V.frozen? ⟨B, 0, none⟩ = false := by unfold BoxT at hx; simp [World.frozen?, hx]
        have f1 : V.frozen? ⟨B, 1, none⟩ = false := by unfold BoxT at hx; simp [World.frozen?, hx]
        have f2 : V.frozen? ⟨B, 2, none⟩ = false := by unfold BoxT at hx; simp [World.frozen?, hx]
        go_simp
        refine hK _ (World.box3 V B _ _ _) ⟨_, _, _, _, _, _, _, _, rfl, hB.trans (hs.2.1.mono hb), h0, h1, h2, h3, h4, fun _ => ⟨_, _, rfl, hy⟩, fun h => (h6 h).set (fun e => hne h e) hx _ _ _, fun _ => ⟨B, rfl, hb, _, _, _, hs.1, fun _ => rfl⟩, h67, h8, fun _ => ⟨hd 7 (by simp), hd 5 (by simp)⟩⟩
    case done =>
      intro f a V hf hI
      obtain ⟨x7, x8, x10, x11, x12, x13, x14, x15, rfl, hB, h0, h1, h2, h3, h4, h5, h6, h7, h67, h8, h9⟩ := hI
      obtain ⟨B7, rfl, hb7, u0, u1, u2, hx7, e7⟩ := h6 (hf 6 (by simp))
      obtain ⟨B8, rfl, hb8, t0, t1, t2, hx8, e8⟩ := h7 (hf 7 (by simp))
      have e7 := e7 (hf 8 (by simp))
      have e8 := e8 (hf 9 (by simp))
      obtain ⟨y7, c7, rfl, hy7⟩ := h2 (hf 2 (by simp))
      obtain ⟨y8, c8, rfl, hy8⟩ := h5 (hf 5 (by simp))
      simp only [Value.agg.injEq, Array.mk.injEq, List.cons.injEq, and_true] at e7 e8
      obtain ⟨rfl, rfl, rfl⟩ := e7
      obtain ⟨rfl, rfl, rfl⟩ := e8
      have hne := h67 (hf 6 (by simp)) (hf 7 (by simp))
      go_wp2_with fail
      go_meet
      case rel => exact ⟨B7, B8, y7, y8, c7, c8, rfl, rfl, fun e => hne (by rw [e]), hb7, hb8, hB, hx7, hx8, hy7, hy8⟩
  case rest =>
  obtain ⟨B7, B8, y7, y8, c7, c8, rfl, rfl, hne8, hb7, hb8, hB, hx7, hx8, hy7, hy8⟩ := hcut
  have hwU := hb1'.out.trans (hB.mono (by omega))
  have hzU := hB.size
  have h4 : ∃ x0 x1 x2, BoxT wc w.heap.size x0 x1 x2 := ⟨_, _, _, hba'.out.below hB (by omega)⟩
  have h5 : ∃ x0 x1 x2, BoxT wc (w.heap.size + 1) x0 x1 x2 := ⟨_, _, _, hbb'.out.below hB (by omega)⟩
  have hwU' := Lib.hid hwU
  have hy7' := Lib.hid hy7
  have hy8' := Lib.hid hy8
  have hx7' := Lib.hid hx7
  have hx8' := Lib.hid hx8
  have h4' := Lib.hid h4
  have h5' := Lib.hid h5
  have hU1 : Hid (Below (w.heap.size + 2) W1 wc) := hB
  clear hx7 hx8 hy7 hy8 h4 h5 hwU hB
  go_upto_region 2 with (fail)
  go_cut [] from 16 to 21 (fun U => ∃ (y4 y5 : Option Addr) (c4 c5 : Nat), Below w.heap.size w U ∧ w.heap.size + 2 ≤ U.heap.size ∧ BoxT U B7 (.string v.name) (.int .i64 v.n) (.slice y7 v.args.length c7) ∧ BoxT U B8 (.string z.name) (.int .i64 z.n) (.slice y8 z.args.length c8) ∧ BoxT U w.heap.size (.string x.name) (.int .i64 x.n) (.slice y4 x.args.length c4) ∧ BoxT U (w.heap.size + 1) (.string y.name) (.int .i64 y.n) (.slice y5 y.args.length c5) ∧ IsTy w₀ (.agg #[.string x.name, .int .i64 x.n, .slice y4 x.args.length c4]) x ∧ IsTy w₀ (.agg #[.string y.name, .int .i64 y.n, .slice y5 y.args.length c5]) y)
  case first =>
    refine wp_region_inv (fun f a V => ∃ x16 x17 x18 x19 x20 x21, a = ⟨#[.pointer (some ⟨mk, 0, none⟩), .agg #[.string sa, .int .i64 na, .slice aa la.length ac], .agg #[.string sc, .int .i64 nc, .slice ba lc.length bc], undef, .pointer (some ⟨w.heap.size, 0, none⟩), .pointer (some ⟨w.heap.size + 1, 0, none⟩), .bool false, .pointer (some ⟨B7, 0, none⟩), .pointer (some ⟨B8, 0, none⟩), u9, u10, u11, u12, u13, u14, u15, x16, x17, x18, x19, x20, x21, undef, undef, undef, undef, undef, undef, undef, undef, undef, undef, undef, undef, undef, undef, undef, undef, undef, undef, undef, undef, undef, undef, undef, undef, undef, undef, undef, undef, undef, undef, undef, undef, undef, undef, undef, undef, undef, undef, undef, undef, undef, undef, undef, undef, undef, undef, undef, undef, undef, undef, undef, undef, undef, undef, undef, undef, undef, undef, undef, undef, undef, undef, undef, undef, undef, undef, undef, undef, undef, undef, undef, undef, undef, undef, undef, undef, undef, undef, undef, undef, undef, undef, undef, undef, undef, undef, undef, undef, undef, undef, undef, undef, undef], []⟩ ∧ Below w.heap.size w V ∧ w.heap.size + 2 ≤ V.heap.size ∧ BoxT V B7 (.string v.name) (.int .i64 v.n) (.slice y7 v.args.length c7) ∧ BoxT V B8 (.string z.name) (.int .i64 z.n) (.slice y8 z.args.length c8) ∧ (f 0 = true → x16 = .pointer (some ⟨mk, 0, none⟩)) ∧ (f 1 = true → x17 = .agg #[.string v.name, .int .i64 v.n, .slice y7 v.args.length c7]) ∧ (f 2 = true → AggT w₀ x18 x) ∧ (f 3 = true → x19 = .pointer (some ⟨mk, 0, none⟩)) ∧ (f 4 = true → x20 = .agg #[.string z.name, .int .i64 z.n, .slice y8 z.args.length c8]) ∧ (f 5 = true → AggT w₀ x21 y) ∧ NewB V w.heap.size (.pointer (some ⟨w.heap.size, 0, none⟩)) (f 6 = true) x18 ∧ NewB V w.heap.size (.pointer (some ⟨w.heap.size + 1, 0, none⟩)) (f 7 = true) x21 ∧ (f 6 = true → f 2 = true) ∧ (f 7 = true → f 5 = true)) (by kernel_rfl) (by kernel_rfl) (rs := [0, 1, 2, 3, 4, 5, 6, 7]) (by kernel_rfl) ?start ?steps ?done
    case start =>
      obtain ⟨x0, x1, x2, hx4⟩ := h4'.out
      obtain ⟨t0, t1, t2, hx5⟩ := h5'.out
      have hdr := (Below.refl wc.heap.size wc).drew
      exact ⟨_, _, _, _, _, _, rfl, hwU'.out.trans (hdr.mono (by omega)), by have := hdr.size; omega, hx7'.out.below hdr hx7'.out.lt, hx8'.out.below hdr hx8'.out.lt, by simp, by simp, by simp, by simp, by simp, by simp, ⟨_, rfl, by omega, _, _, _, hx4.below hdr hx4.lt, by simp⟩, ⟨_, rfl, by omega, _, _, _, hx5.below hdr hx5.lt, by simp⟩, by simp, by simp⟩
    case steps =>
      refine KeepsI.cons (ds := []) rfl (by kernel_rfl) ?s0 (KeepsI.cons (ds := []) rfl (by kernel_rfl) ?s1 (KeepsI.cons (ds := [0, 1]) rfl (by kernel_rfl) ?s2 (KeepsI.cons (ds := []) rfl (by kernel_rfl) ?s3 (KeepsI.cons (ds := []) rfl (by kernel_rfl) ?s4 (KeepsI.cons (ds := [3, 4]) rfl (by kernel_rfl) ?s5 (KeepsI.cons (ds := [2]) rfl (by kernel_rfl) ?s6 (KeepsI.cons (ds := [5]) rfl (by kernel_rfl) ?s7 KeepsI.nil)))))))
      all_goals (intro f a V hf hd hcl hI K' hK; obtain ⟨x16, x17, x18, x19, x20, x21, rfl, hB, hzV, hb7, hb8, h0, h1, h2, h3, h4, h5, h6, h7, h8, h9⟩ := hI)
      case s0 =>
        go_simp
        exact hK _ _ ⟨_, _, _, _, _, _, rfl, hB, hzV, hb7, hb8, fun _ => rfl, h1, h2, h3, h4, h5, h6, h7, h8, h9⟩
      case s1 =>
        obtain ⟨q0, q1, q2⟩ := hb7.cells
        go_simp
        exact hK _ _ ⟨_, _, _, _, _, _, rfl, hB, hzV, hb7, hb8, h0, fun _ => rfl, h2, h3, h4, h5, h6, h7, h8, h9⟩
      case s2 =>
        have e0 := h0 (hd 0 (by simp))
        have e1 := h1 (hd 1 (by simp))
        subst e0 e1
        have n6 : ¬ f 6 = true := fun h => by rw [h8 h] at hf; cases hf
        have hct := Lib.hid (ty_walk w₀ mk mb L _ v x _ V hx'.out (hk'.out.below hB hmk) (hm'.out.below hB hmb) hy7'.out)
        go_simp
        refine hct.out.mono ?_
        rintro e V' ⟨u, rfl, hu, hB'⟩
        obtain ⟨y, c, rfl⟩ := hu.form
        go_simp
        have := hB'.size
        exact hK _ _ ⟨_, _, _, _, _, _, rfl, hB.trans (hB'.mono (by omega)), by omega, hb7.below hB' hb7.lt, hb8.below hB' hb8.lt, h0, h1, fun _ => ⟨_, _, rfl, hu⟩, h3, h4, h5, by
          obtain ⟨B, e, hb, x0, x1, x2, hx, _⟩ := h6
          exact ⟨B, e, hb, x0, x1, x2, hx.below hB' hx.lt, fun h => absurd h n6⟩, h7.below hB' (fun h => h), fun h => absurd h n6, h9⟩
      case s3 =>
        go_simp
        exact hK _ _ ⟨_, _, _, _, _, _, rfl, hB, hzV, hb7, hb8, h0, h1, h2, fun _ => rfl, h4, h5, h6, h7, h8, h9⟩
      case s4 =>
        obtain ⟨q0, q1, q2⟩ := hb8.cells
        go_simp
        exact hK _ _ ⟨_, _, _, _, _, _, rfl, hB, hzV, hb7, hb8, h0, h1, h2, h3, fun _ => rfl, h5, h6, h7, h8, h9⟩
      case s5 =>
        have e0 := h3 (hd 3 (by simp))
        have e1 := h4 (hd 4 (by simp))
        subst e0 e1
        have n7 : ¬ f 7 = true := fun h => by rw [h9 h] at hf; cases hf
        have hct := Lib.hid (ty_walk w₀ mk mb L _ z y _ V hy'.out (hk'.out.below hB hmk) (hm'.out.below hB hmb) hy8'.out)
        go_simp
        refine hct.out.mono ?_
        rintro e V' ⟨u, rfl, hu, hB'⟩
        obtain ⟨y, c, rfl⟩ := hu.form
        go_simp
        have := hB'.size
        exact hK _ _ ⟨_, _, _, _, _, _, rfl, hB.trans (hB'.mono (by omega)), by omega, hb7.below hB' hb7.lt, hb8.below hB' hb8.lt, h0, h1, h2, h3, h4, fun _ => ⟨_, _, rfl, hu⟩, h6.below hB' (fun h => h), by
          obtain ⟨B, e, hb, x0, x1, x2, hx, _⟩ := h7
          exact ⟨B, e, hb, x0, x1, x2, hx.below hB' hx.lt, fun h => absurd h n7⟩, h8, fun h => absurd h n7⟩
      case s6 =>
        obtain ⟨B, e6, hb, x0, x1, x2, hx, _⟩ := h6
        obtain ⟨y, c, e2, hy⟩ := h2 (hd 2 (by simp))
        simp at e6
        subst e6 e2
        obtain ⟨r0, r1, r2⟩ := hx.cells
        have hs := hx.set (.string x.name) (.int .i64 x.n) (.slice y x.args.length c)
        have f0 : V.frozen? ⟨w.heap.size, 0, none⟩ = false := by unfold BoxT at hx; simp [World.frozen?, hx]
        have f1 : V.frozen? ⟨w.heap.size, 1, none⟩ = false := by unfold BoxT at hx; simp [World.frozen?, hx]
        have f2 : V.frozen? ⟨w.heap.size, 2, none⟩ = false := by unfold BoxT at hx; simp [World.frozen?, hx]
        go_simp
        refine hK _ (World.box3 V w.heap.size _ _ _) ⟨_, _, _, _, _, _, rfl, hB.trans hs.2.1, by rw [hs.2.2.1]; exact hzV, ?_, ?_, h0, h1, fun _ => ⟨_, _, rfl, hy⟩, h3, h4, h5, ⟨_, rfl, by omega, _, _, _, hs.1, fun _ => rfl⟩, h7.set (by simp) hx _ _ _, fun _ => hd 2 (by simp), h9⟩
        · unfold BoxT; rw [hs.2.2.2 _ (by omega)]; exact hb7
        · unfold BoxT; rw [hs.2.2.2 _ (by omega)]; exact hb8
      case s7 =>
        obtain ⟨B, e7, hb, x0, x1, x2, hx, _⟩ := h7
        obtain ⟨yy, c, e5, hy⟩ := h5 (hd 5 (by simp))
        simp at e7
        subst e7 e5
        obtain ⟨r0, r1, r2⟩ := hx.cells
        have hs := hx.set (.string y.name) (.int .i64 y.n) (.slice yy y.args.length c)
        have f0 : V.frozen? ⟨w.heap.size + 1, 0, none⟩ = false := by unfold BoxT at hx; simp [World.frozen?, hx]
        have f1 : V.frozen? ⟨w.heap.size + 1, 1, none⟩ = false := by unfold BoxT at hx; simp [World.frozen?, hx]
        have f2 : V.frozen? ⟨w.heap.size + 1, 2, none⟩ = false := by unfold BoxT at hx; simp [World.frozen?, hx]
        go_simp
        refine hK _ (World.box3 V (w.heap.size + 1) _ _ _) ⟨_, _, _, _, _, _, rfl, hB.trans (hs.2.1.mono (by omega)), by rw [hs.2.2.1]; exact hzV, ?_, ?_, h0, h1, h2, h3, h4, fun _ => ⟨_, _, rfl, hy⟩, h6.set (by simp) hx _ _ _, ⟨_, rfl, by omega, _, _, _, hs.1, fun _ => rfl⟩, h8, fun _ => hd 5 (by simp)⟩
        · unfold BoxT; rw [hs.2.2.2 _ (by omega)]; exact hb7
        · unfold BoxT; rw [hs.2.2.2 _ (by omega)]; exact hb8
    case done =>
      intro f a V hf hI
      obtain ⟨x16, x17, x18, x19, x20, x21, rfl, hB, hzV, hb7, hb8, h0, h1, h2, h3, h4, h5, h6, h7, h8, h9⟩ := hI
      obtain ⟨B4, e4, hb4, u0, u1, u2, hx4, e6⟩ := h6
      obtain ⟨B5, e5, hb5, t0, t1, t2, hx5, e7⟩ := h7
      simp at e4 e5
      subst e4 e5
      have e6 := e6 (hf 6 (by simp))
      have e7 := e7 (hf 7 (by simp))
      obtain ⟨y4, c4, rfl, hy4⟩ := h2 (hf 2 (by simp))
      obtain ⟨y5, c5, rfl, hy5⟩ := h5 (hf 5 (by simp))
      simp only [Value.agg.injEq, Array.mk.injEq, List.cons.injEq, and_true] at e6 e7
      obtain ⟨rfl, rfl, rfl⟩ := e6
      obtain ⟨rfl, rfl, rfl⟩ := e7
      go_wp2_with fail
      go_meet
      case rel => exact ⟨y4, y5, c4, c5, hB, hzV, hb7, hb8, hx4, hx5, hy4, hy5⟩
  case rest =>
  clear hwU' hx7' hx8' h4' h5' hU1
  obtain ⟨y4, y5, c4, c5, hB, hzV, hb7', hb8', hx4, hx5, hy4, hy5⟩ := hcut
  obtain ⟨U0, rfl⟩ : ∃ U0, U0 = wc := ⟨_, rfl⟩
  have hC := h'.out
  simp only [oneT, hv'.out, hz'.out, hx'.out, hy'.out] at hC
  have hC' := Lib.hid hC
  have hwU := Lib.hid hB
  have hkU := Lib.hid (hk'.out.below hB hmk)
  have hmU := Lib.hid (hm'.out.below hB hmb)
  have hc78 : Hid (∀ V, Below U0.heap.size U0 V → V.cell? ⟨B7, 0, none⟩ = some (.string v.name) ∧ V.cell? ⟨B7, 1, none⟩ = some (.int .i64 v.n) ∧ V.cell? ⟨B7, 2, none⟩ = some (.slice y7 v.args.length c7) ∧ V.cell? ⟨B8, 0, none⟩ = some (.string z.name) ∧ V.cell? ⟨B8, 1, none⟩ = some (.int .i64 z.n) ∧ V.cell? ⟨B8, 2, none⟩ = some (.slice y8 z.args.length c8)) := by
    intro V hV
    obtain ⟨q0, q1, q2⟩ := (hb7'.below hV hb7'.lt).cells
    obtain ⟨q3, q4, q5⟩ := (hb8'.below hV hb8'.lt).cells
    exact ⟨q0, q1, q2, q3, q4, q5⟩
  have hb7 := Lib.hid hb7'
  have hb8 := Lib.hid hb8'
  have hx4' := Lib.hid hx4
  have hx5' := Lib.hid hx5
  have hy4' := Lib.hid hy4
  have hy5' := Lib.hid hy5
  have hHo : Hid (∀ (s : Str) (n : Int) (a : Option Addr) (m c : Nat) (V : World), Calls Tryd.prog 54 #[.agg #[.string s, .int .i64 n, .slice a m c]] V fun r V' => r = .returned (.bool (holeS s)) ∧ Below V.heap.size V V') := fun s n a m c V => ty_hole s n a m c V
  have hret : Hid (∀ V, Below w.heap.size w V → ∀ bb, out = (L, bb) → MpIs w₀ V mb out.1 ∧ BelowB w.heap.size mb w V) := by
    intro V hV bb ho
    rw [ho]
    exact ⟨hm'.out.below hV hmb, .of_below hV⟩
  clear hC hB hx4 hx5 hy4 hy5 hb7' hb8'
  go_upto_region 3 with (fail)
  go_cut [22] from 22 to 35 (fun s22 U => ∃ cc : Bool, s22 = .bool cc ∧ (cc = true ↔ holeS v.name = true ∧ holeS z.name = true ∧ v.n = z.n) ∧ Below U0.heap.size U0 U)
  case first =>
    obtain ⟨q0, q1, q2, q3, q4, q5⟩ := hc78.out _ (Below.refl _ _)
    go_wp2_with fail
    refine (hHo.out _ _ _ _ _ _).mono ?_
    rintro e V ⟨rfl, hV⟩
    clear q0 q1 q2 q3 q4 q5
    obtain ⟨q0, q1, q2, q3, q4, q5⟩ := hc78.out _ hV
    cases hvn : holeS v.name
    · go_wp2_with fail
      go_meet
      case rel => exact ⟨false, rfl, by simp [hvn], hV⟩
    · go_wp2_with fail
      refine (hHo.out _ _ _ _ _ _).mono ?_
      rintro e V2 ⟨rfl, hV2⟩
      clear q0 q1 q2 q3 q4 q5
      have hV3 := hV.trans (hV2.mono hV.size)
      obtain ⟨q0, q1, q2, q3, q4, q5⟩ := hc78.out _ hV3
      cases hzn : holeS z.name
      · go_wp2_with fail
        go_meet
        case rel => exact ⟨false, rfl, by simp [hzn], hV3⟩
      · go_wp2_with fail
        go_meet
        case rel => exact ⟨_, rfl, by simp [hvn, hzn], hV3⟩
  case rest =>
  obtain ⟨cc, rfl, hcc, hU1⟩ := hcut
  obtain ⟨U1, rfl⟩ : ∃ U1, U1 = wc := ⟨_, rfl⟩
  cases cc
  case true =>
    have hout : out = (L, true) := by
      have h := hC'.out
      rw [if_pos (hcc.1 rfl)] at h
      exact (Option.some.inj h).symm
    have hfin := Lib.hid (hret.out _ (hwU.out.trans (hU1.mono (by omega))) _ hout)
    clear hcc hU1
    go_wp2_with fail
    go_ret
    exact ⟨ret_bool (by rw [hout]), hfin.out⟩
  have hz0U := hwU.out.size
  have hzU1 := hU1.size
  have hwU1 := Lib.hid (hwU.out.trans (hU1.mono (by omega)))
  have hc78' : Hid (∀ V, Below U1.heap.size U1 V → V.cell? ⟨B7, 0, none⟩ = some (.string v.name) ∧ V.cell? ⟨B7, 1, none⟩ = some (.int .i64 v.n) ∧ V.cell? ⟨B7, 2, none⟩ = some (.slice y7 v.args.length c7) ∧ V.cell? ⟨B8, 0, none⟩ = some (.string z.name) ∧ V.cell? ⟨B8, 1, none⟩ = some (.int .i64 z.n) ∧ V.cell? ⟨B8, 2, none⟩ = some (.slice y8 z.args.length c8)) := fun V hV => hc78.out V (hU1.trans (hV.mono (by omega)))
  have hx4 := hx4'.out.below hU1 hx4'.out.lt
  have hx5 := hx5'.out.below hU1 hx5'.out.lt
  have hb7' := Lib.hid (hb7.out.below hU1 hb7.out.lt)
  have hb8' := Lib.hid (hb8.out.below hU1 hb8.out.lt)
  clear hc78 hx4' hx5' hb7 hb8
  have hx4' := Lib.hid hx4
  have hx5' := Lib.hid hx5
  have hc45 : Hid (∀ V, Below U1.heap.size U1 V → V.cell? ⟨w.heap.size, 0, none⟩ = some (.string x.name) ∧ V.cell? ⟨w.heap.size, 1, none⟩ = some (.int .i64 x.n) ∧ V.cell? ⟨w.heap.size, 2, none⟩ = some (.slice y4 x.args.length c4) ∧ V.cell? ⟨w.heap.size + 1, 0, none⟩ = some (.string y.name) ∧ V.cell? ⟨w.heap.size + 1, 1, none⟩ = some (.int .i64 y.n) ∧ V.cell? ⟨w.heap.size + 1, 2, none⟩ = some (.slice y5 y.args.length c5)) := by
    intro V hV
    obtain ⟨q0, q1, q2⟩ := (hx4.below hV hx4.lt).cells
    obtain ⟨q3, q4, q5⟩ := (hx5.below hV hx5.lt).cells
    exact ⟨q0, q1, q2, q3, q4, q5⟩
  have hcc' := Lib.hid hcc
  clear hx4 hx5 hcc hU1
  go_upto_region 5 with (fail)
  go_cut [36] from 36 to 50 (fun s U => ∃ cc : Bool, s = .bool cc ∧ (cc = true ↔ holeS y.name = true ∧ (holeS x.name = false ∨ x.n < y.n)) ∧ Below U1.heap.size U1 U)
  case first =>
    obtain ⟨q0, q1, q2, q3, q4, q5⟩ := hc45.out _ (Below.refl _ _)
    go_wp2_with fail
    refine (hHo.out _ _ _ _ _ _).mono ?_
    rintro e V ⟨rfl, hV⟩
    clear q0 q1 q2 q3 q4 q5
    obtain ⟨q0, q1, q2, q3, q4, q5⟩ := hc45.out _ hV
    cases hyn : holeS y.name
    · go_wp2_with fail
      go_meet
      case rel => exact ⟨false, rfl, by simp [hyn], hV⟩
    · go_wp2_with fail
      refine (hHo.out _ _ _ _ _ _).mono ?_
      rintro e V2 ⟨rfl, hV2⟩
      clear q0 q1 q2 q3 q4 q5
      have hV3 := hV.trans (hV2.mono hV.size)
      obtain ⟨q0, q1, q2, q3, q4, q5⟩ := hc45.out _ hV3
      cases hxn : holeS x.name
      · go_wp2_with fail
        go_meet
        case rel => exact ⟨_, rfl, by simp [hyn, hxn], hV3⟩
      · go_wp2_with fail
        go_meet
        case rel => exact ⟨_, rfl, by simp [hyn, hxn], hV3⟩
  case rest =>
  obtain ⟨cc, rfl, hc2, hU2⟩ := hcut
  obtain ⟨U2, rfl⟩ : ∃ U2, U2 = wc := ⟨_, rfl⟩
  have hzU2 := hU2.size
  have hwU2 := Lib.hid (hwU1.out.trans (hU2.mono (by omega)))
  cases cc
  case true =>
    have hsw : swapT x y = (y, x) := by unfold swapT; rw [if_pos (hc2.1 rfl)]
    have hyh : holeS y.name = true := (hc2.1 rfl).1
    have hsw' := Lib.hid hsw
    clear hc2 hsw
    go_upto_region 6 with (fail)
    obtain ⟨q0, q1, q2, q3, q4, q5⟩ := hc45.out _ hU2
    have hx4 := hx4'.out.below hU2 hx4'.out.lt
    have hx5 := hx5'.out.below hU2 hx5'.out.lt
    have hs1 := hx4.set (.string y.name) (.int .i64 y.n) (.slice y5 y.args.length c5)
    have hx5s : BoxT (World.box3 U2 w.heap.size (.string y.name) (.int .i64 y.n) (.slice y5 y.args.length c5)) (w.heap.size + 1) (.string y.name) (.int .i64 y.n) (.slice y5 y.args.length c5) := by unfold BoxT; rw [hs1.2.2.2 _ (by omega)]; exact hx5
    have hs2 := hx5s.set (.string x.name) (.int .i64 x.n) (.slice y4 x.args.length c4)
    have f0 : U2.frozen? ⟨w.heap.size, 0, none⟩ = false := by unfold BoxT at hx4; simp [World.frozen?, hx4]
    have f1 : U2.frozen? ⟨w.heap.size, 1, none⟩ = false := by unfold BoxT at hx4; simp [World.frozen?, hx4]
    have f2 : U2.frozen? ⟨w.heap.size, 2, none⟩ = false := by unfold BoxT at hx4; simp [World.frozen?, hx4]
    have f3 : U2.frozen? ⟨w.heap.size + 1, 0, none⟩ = false := by unfold BoxT at hx5; simp [World.frozen?, hx5]
    have f4 : U2.frozen? ⟨w.heap.size + 1, 1, none⟩ = false := by unfold BoxT at hx5; simp [World.frozen?, hx5]
    have f5 : U2.frozen? ⟨w.heap.size + 1, 2, none⟩ = false := by unfold BoxT at hx5; simp [World.frozen?, hx5]
    have hfin : Hid (Below w.heap.size w (World.box3 (World.box3 U2 w.heap.size (.string y.name) (.int .i64 y.n) (.slice y5 y.args.length c5)) (w.heap.size + 1) (.string x.name) (.int .i64 x.n) (.slice y4 x.args.length c4)) ∧ w.heap.size + 2 ≤ (World.box3 (World.box3 U2 w.heap.size (.string y.name) (.int .i64 y.n) (.slice y5 y.args.length c5)) (w.heap.size + 1) (.string x.name) (.int .i64 x.n) (.slice y4 x.args.length c4)).heap.size ∧ BoxT (World.box3 (World.box3 U2 w.heap.size (.string y.name) (.int .i64 y.n) (.slice y5 y.args.length c5)) (w.heap.size + 1) (.string x.name) (.int .i64 x.n) (.slice y4 x.args.length c4)) (w.heap.size) (.string y.name) (.int .i64 y.n) (.slice y5 y.args.length c5) ∧ BoxT (World.box3 (World.box3 U2 w.heap.size (.string y.name) (.int .i64 y.n) (.slice y5 y.args.length c5)) (w.heap.size + 1) (.string x.name) (.int .i64 x.n) (.slice y4 x.args.length c4)) (w.heap.size + 1) (.string x.name) (.int .i64 x.n) (.slice y4 x.args.length c4)) := by
      refine ⟨(hwU2.out.trans hs1.2.1).trans (hs2.2.1.mono (by omega)), by rw [hs2.2.2.1, hs1.2.2.1]; omega, ?_, hs2.1⟩
      unfold BoxT
      rw [hs2.2.2.2 _ (by omega)]
      exact hs1.1
    clear hx4 hx5 hs1 hx5s hs2
    obtain ⟨U3, hU3⟩ : ∃ U3, ((((((U2.setCell ⟨w.heap.size, 0, none⟩ (.string y.name)).setCell ⟨w.heap.size, 1, none⟩ (.int .i64 y.n)).setCell ⟨w.heap.size, 2, none⟩ (.slice y5 y.args.length c5)).setCell ⟨w.heap.size + 1, 0, none⟩ (.string x.name)).setCell ⟨w.heap.size + 1, 1, none⟩ (.int .i64 x.n)).setCell ⟨w.heap.size + 1, 2, none⟩ (.slice y4 x.args.length c4)) = U3 := ⟨_, rfl⟩
    have hU3' := Lib.hid hU3
    clear hU3
    go_upto_region 7 with (fail)
    rw [hU3'.out]
    have hfin2 := hfin.out
    rw [show World.box3 (World.box3 U2 w.heap.size (.string y.name) (.int .i64 y.n) (.slice y5 y.args.length c5)) (w.heap.size + 1) (.string x.name) (.int .i64 x.n) (.slice y4 x.args.length c4) = U3 from hU3'.out] at hfin2
    obtain ⟨hwU3, hzU3, hx4, hx5⟩ := hfin2
    clear q0 q1 q2 q3 q4 q5 f0 f1 f2 f3 f4 f5 hU3' hfin
    have hPh := hyh
    have hPf0 := walkT_none _ _ _ hy'.out hyh
    have hcP : Hid (∀ V, Below U3.heap.size U3 V → V.cell? ⟨w.heap.size, 0, none⟩ = some (.string y.name) ∧ V.cell? ⟨w.heap.size, 1, none⟩ = some (.int .i64 y.n) ∧ V.cell? ⟨w.heap.size, 2, none⟩ = some (.slice y5 y.args.length c5) ∧ V.cell? ⟨w.heap.size + 1, 0, none⟩ = some (.string x.name) ∧ V.cell? ⟨w.heap.size + 1, 1, none⟩ = some (.int .i64 x.n) ∧ V.cell? ⟨w.heap.size + 1, 2, none⟩ = some (.slice y4 x.args.length c4)) := by
      intro V hV
      obtain ⟨q0, q1, q2⟩ := (hx4.below hV hx4.lt).cells
      obtain ⟨q3, q4, q5⟩ := (hx5.below hV hx5.lt).cells
      exact ⟨q0, q1, q2, q3, q4, q5⟩
    have hx4b := Lib.hid hx4
    have hx5b := Lib.hid hx5
    have hwAll := Lib.hid hwU3
    have hPn : In64 y.n := by obtain ⟨s, n, l⟩ := y; exact In64.of_hole hy5'.out
    have hPf : Hid (fa? L y.n = none) := hPf0
    have hmm := @run_makeMap Tryd.prog
    obtain ⟨q0, q1, q2, q3, q4, q5⟩ := hcP.out _ (Below.refl _ _)
    clear hx4 hx5 hwU3
    go_wp2_with fail
    refine (hHo.out _ _ _ _ _ _).mono ?_
    rintro e V ⟨rfl, hV⟩
    rw [hPh]
    clear q0 q1 q2 q3 q4 q5
    obtain ⟨q0, q1, q2, q3, q4, q5⟩ := hcP.out _ hV
    have hzV := hV.size
    have hwm : Below w.heap.size w (V.alloc (.map #[] 0)) := (hwAll.out.trans (hV.mono (by omega))).alloc (by omega) _
    have hwi := Lib.hid (ty_within w₀ mk mb L (by omega) y.n (L.length + 1) x _ (V.alloc (.map #[] 0)) V.heap.size [] (by simp) (hk'.out.below hwm hmk) (hm'.out.below hwm hmb) hy4'.out (h0'.out.trans (KeepsBut.of_below hwm)) (SnIs.made L V) (by omega) (by omega) (by omega) hcl'.out)
    have hwm' := Lib.hid hwm
    clear hwm
    go_wp2_with fail
    refine hwi.out.mono ?_
    rintro e V2 ⟨⟨sS, bb⟩, hwp, rfl, _, hBB⟩
    have hBV : Below V.heap.size V V2 := (((Below.refl _ V).alloc (Nat.le_refl _) _)).trans (hBB.below (by simp) (Nat.le_refl _))
    have hwV2 : Below w.heap.size w V2 := hwm'.out.trans (hBB.below (by simp; omega) (by omega))
    have hzV2 := hBV.size
    have hcV2 := Lib.hid (hV.trans (hBV.mono hV.size))
    have hwV2' := Lib.hid hwV2
    clear q0 q1 q2 q3 q4 q5 hV hBB hBV hwV2 hwi hwm' hmm
    cases bb
    case true =>
      have hout : out = (L, false) := by
        have h := hC'.out
        rw [if_neg (fun h => by simpa using hcc'.out.2 h), hsw'.out, if_pos hPh, hwp] at h
        exact (Option.some.inj h).symm
      have hfin := Lib.hid (hret.out _ hwV2'.out _ hout)
      clear hwp
      go_wp2_with fail
      go_ret
      exact ⟨ret_bool (by rw [hout]), hfin.out⟩
    have hout : out = (L ++ [⟨y.n, x⟩], true) := by
      have h := hC'.out
      rw [if_neg (fun h => by simpa using hcc'.out.2 h), hsw'.out, if_pos hPh, hwp] at h
      exact (Option.some.inj h).symm
    have hkd : Hid (MkIs V2.drew mk mb) := hk'.out.below (hwV2'.out.trans ((Below.refl _ V2).drew.mono (by omega))) hmk
    have hdrw : Below U3.heap.size U3 V2.drew := hcV2.out.trans ((Below.refl _ V2).drew.mono hcV2.out.size)
    have hcdr := Lib.hid (And.intro (hx4b.out.below hdrw hx4b.out.lt).cells (hx5b.out.below hdrw hx5b.out.lt).cells)
    clear hdrw
    have hput := Lib.hid (MpIs.put (hm'.out.below (hwV2'.out.trans ((Below.refl _ V2).drew.mono (by omega))) hmb) hPn hy4'.out (by omega) (M := L ++ [⟨y.n, x⟩]) (fa_snoc_if x hPf.out))
    clear hwp
    go_upto_region 10 with (fail)
    go_cut [] from 61 to 67 (fun U => MpIs w₀ U mb (L ++ [⟨y.n, x⟩]) ∧ BelowB V2.heap.size mb V2 U)
    case first =>
      refine wp_region_inv (fun f a Vr => ∃ x61 x62 x63 x64 x65 x66 x67, a = ⟨#[.pointer (some ⟨mk, 0, none⟩), .agg #[.string sa, .int .i64 na, .slice aa la.length ac], .agg #[.string sc, .int .i64 nc, .slice ba lc.length bc], undef, .pointer (some ⟨w.heap.size, 0, none⟩), .pointer (some ⟨w.heap.size + 1, 0, none⟩), .bool false, .pointer (some ⟨B7, 0, none⟩), .pointer (some ⟨B8, 0, none⟩), u9, u10, u11, u12, u13, u14, u15, u16, u17, u18, u19, u20, u21, .bool false, u23, u24, u25, u26, u27, u28, u29, u30, u31, u32, u33, u34, u35, .bool true, u37, u38, u39, u40, u41, u42, u43, u44, u45, u46, u47, u48, u49, u50, .agg #[.string y.name, .int .i64 y.n, .slice y5 y.args.length c5], .agg #[.string x.name, .int .i64 x.n, .slice y4 x.args.length c4], .agg #[.string y.name, .int .i64 y.n, .slice y5 y.args.length c5], .bool true, .pointer (some ⟨mk, 0, none⟩), .pointer (some ⟨w.heap.size, 1, none⟩), .int .i64 y.n, .agg #[.string x.name, .int .i64 x.n, .slice y4 x.args.length c4], .map (some V.heap.size), .bool false, x61, x62, x63, x64, x65, x66, x67, undef, undef, undef, undef, undef, undef, undef, undef, undef, undef, undef, undef, undef, undef, undef, undef, undef, undef, undef, undef, undef, undef, undef, undef, undef, undef, undef, undef, undef, undef, undef, undef, undef, undef, undef, undef, undef, undef, undef, undef, undef, undef, undef, undef, undef, undef, undef], []⟩ ∧ (f 7 = false → Vr = V2.drew) ∧ (f 0 = true → x61 = .pointer (some ⟨mk, 0, none⟩)) ∧ (f 1 = true → x62 = .pointer (some ⟨mk, 0, none⟩)) ∧ (f 2 = true → x63 = .pointer (some ⟨mk, 0, none⟩)) ∧ (f 3 = true → x64 = .map (some mb)) ∧ (f 4 = true → x65 = .pointer (some ⟨w.heap.size, 1, none⟩)) ∧ (f 5 = true → x66 = .int .i64 y.n) ∧ (f 6 = true → x67 = .agg #[.string x.name, .int .i64 x.n, .slice y4 x.args.length c4]) ∧ (f 7 = true → MpIs w₀ Vr mb (L ++ [⟨y.n, x⟩]) ∧ BelowB V2.heap.size mb V2 Vr)) (by kernel_rfl) (by kernel_rfl) (rs := [0, 1, 2, 3, 4, 5, 6, 7]) (by kernel_rfl) ?start ?steps ?done
      case start => exact ⟨_, _, _, _, _, _, _, rfl, fun _ => rfl, by simp, by simp, by simp, by simp, by simp, by simp, by simp, by simp⟩
      case steps =>
        refine KeepsI.cons (ds := []) rfl (by kernel_rfl) ?s0 (KeepsI.cons (ds := [0]) rfl (by kernel_rfl) ?s1 (KeepsI.cons (ds := [1]) rfl (by kernel_rfl) ?s2 (KeepsI.cons (ds := [2]) rfl (by kernel_rfl) ?s3 (KeepsI.cons (ds := []) rfl (by kernel_rfl) ?s4 (KeepsI.cons (ds := [4]) rfl (by kernel_rfl) ?s5 (KeepsI.cons (ds := []) rfl (by kernel_rfl) ?s6 (KeepsI.cons (ds := [3, 5, 6]) rfl (by kernel_rfl) ?s7 KeepsI.nil)))))))
        all_goals (intro f a Vr hf hd hcl hI K' hK; obtain ⟨x61, x62, x63, x64, x65, x66, x67, rfl, hV, h0, h1, h2, h3, h4, h5, h6, h7⟩ := hI)
        case s0 =>
          go_simp
          exact hK _ _ ⟨_, _, _, _, _, _, _, rfl, hV, fun _ => rfl, h1, h2, h3, h4, h5, h6, h7⟩
        case s1 =>
          have e0 := h0 (hd 0 (by simp))
          subst e0
          go_simp
          exact hK _ _ ⟨_, _, _, _, _, _, _, rfl, hV, h0, fun _ => rfl, h2, h3, h4, h5, h6, h7⟩
        case s2 =>
          have e0 := h1 (hd 1 (by simp))
          subst e0
          go_simp
          exact hK _ _ ⟨_, _, _, _, _, _, _, rfl, hV, h0, h1, fun _ => rfl, h3, h4, h5, h6, h7⟩
        case s3 =>
          have e0 := h2 (hd 2 (by simp))
          subst e0
          cases h7f : f 7
          · have e := hV h7f
            subst e
            have q0 := hkd.out.cell
            go_simp
            exact hK _ _ ⟨_, _, _, _, _, _, _, rfl, hV, h0, h1, h2, fun _ => rfl, h4, h5, h6, h7⟩
          · exact absurd (hcl 7 3 (by kernel_rfl) h7f) (by rw [hf]; simp)
        case s4 =>
          go_simp
          exact hK _ _ ⟨_, _, _, _, _, _, _, rfl, hV, h0, h1, h2, h3, fun _ => rfl, h5, h6, h7⟩
        case s5 =>
          have e0 := h4 (hd 4 (by simp))
          subst e0
          cases h7f : f 7
          · have e := hV h7f
            subst e
            obtain ⟨q0, q1, q2⟩ := (hcdr.out.1)
            go_simp
            exact hK _ _ ⟨_, _, _, _, _, _, _, rfl, hV, h0, h1, h2, h3, h4, fun _ => rfl, h6, h7⟩
          · exact absurd (hcl 7 5 (by kernel_rfl) h7f) (by rw [hf]; simp)
        case s6 =>
          cases h7f : f 7
          · have e := hV h7f
            subst e
            obtain ⟨q0, q1, q2⟩ := (hcdr.out.2)
            go_simp
            exact hK _ _ ⟨_, _, _, _, _, _, _, rfl, hV, h0, h1, h2, h3, h4, h5, fun _ => rfl, h7⟩
          · exact absurd (hcl 7 6 (by kernel_rfl) h7f) (by rw [hf]; simp)
        case s7 =>
          have e3 := h3 (hd 3 (by simp))
          have e5 := h5 (hd 5 (by simp))
          have e6 := h6 (hd 6 (by simp))
          have e := hV hf
          subst e3 e5 e6 e
          obtain ⟨V', hrun, hM', hg'⟩ := hput.out
          go_simp
          exact hK _ _ ⟨_, _, _, _, _, _, _, rfl, by simp, h0, h1, h2, fun _ => rfl, h4, fun _ => rfl, fun _ => rfl, fun _ => ⟨hM', BelowB.trans (BelowB.of_below ((Below.refl _ _).drew)) (BelowB.of_grown hg' (Nat.le_refl _))⟩⟩
      case done =>
        intro f a Vr hf hI
        obtain ⟨x61, x62, x63, x64, x65, x66, x67, rfl, hV, h0, h1, h2, h3, h4, h5, h6, h7⟩ := hI
        obtain ⟨hM', hB'⟩ := h7 (hf 7 (by simp))
        go_wp2_with fail
        go_meet
        case rel => exact ⟨hM', hB'⟩
    case rest =>
    obtain ⟨hM', hB'⟩ := hcut
    have hfin : Hid (MpIs w₀ wc mb out.1 ∧ BelowB w.heap.size mb w wc) := by
      rw [hout]
      exact ⟨hM', (BelowB.of_below hwV2'.out).trans (hB'.mono (by omega))⟩
    clear hM' hB'
    go_wp2_with fail
    go_ret
    exact ⟨ret_bool (by rw [hout]), hfin.out⟩
  case false =>
    have hx4 := hx4'.out.below hU2 hx4'.out.lt
    have hx5 := hx5'.out.below hU2 hx5'.out.lt
    have hwU3 := hwU2.out
    have hzU3 : w.heap.size + 2 ≤ U2.heap.size := by omega
    have hc2' := Lib.hid hc2
    have hU2' := Lib.hid hU2
    clear hc2 hU2
    cases hxn : holeS x.name
    case true =>
      have hPh := hxn
      have hPf0 := walkT_none _ _ _ hx'.out hxn
      have hsw' : Hid (swapT x y = (x, y)) := by unfold Hid swapT; rw [if_neg (fun h => by simpa using hc2'.out.2 h)]
      have hcP : Hid (∀ V, Below U2.heap.size U2 V → V.cell? ⟨w.heap.size, 0, none⟩ = some (.string x.name) ∧ V.cell? ⟨w.heap.size, 1, none⟩ = some (.int .i64 x.n) ∧ V.cell? ⟨w.heap.size, 2, none⟩ = some (.slice y4 x.args.length c4) ∧ V.cell? ⟨w.heap.size + 1, 0, none⟩ = some (.string y.name) ∧ V.cell? ⟨w.heap.size + 1, 1, none⟩ = some (.int .i64 y.n) ∧ V.cell? ⟨w.heap.size + 1, 2, none⟩ = some (.slice y5 y.args.length c5)) := by
        intro V hV
        obtain ⟨q0, q1, q2⟩ := (hx4.below hV hx4.lt).cells
        obtain ⟨q3, q4, q5⟩ := (hx5.below hV hx5.lt).cells
        exact ⟨q0, q1, q2, q3, q4, q5⟩
      have hx4b := Lib.hid hx4
      have hx5b := Lib.hid hx5
      have hwAll := Lib.hid hwU3
      have hPn : In64 x.n := by obtain ⟨s, n, l⟩ := x; exact In64.of_hole hy4'.out
      have hPf : Hid (fa? L x.n = none) := hPf0
      have hmm := @run_makeMap Tryd.prog
      obtain ⟨q0, q1, q2, q3, q4, q5⟩ := hcP.out _ (Below.refl _ _)
      clear hx4 hx5 hwU3
      go_wp2_with fail
      refine (hHo.out _ _ _ _ _ _).mono ?_
      rintro e V ⟨rfl, hV⟩
      rw [hPh]
      clear q0 q1 q2 q3 q4 q5
      obtain ⟨q0, q1, q2, q3, q4, q5⟩ := hcP.out _ hV
      have hzV := hV.size
      have hwm : Below w.heap.size w (V.alloc (.map #[] 0)) := (hwAll.out.trans (hV.mono (by omega))).alloc (by omega) _
      have hwi := Lib.hid (ty_within w₀ mk mb L (by omega) x.n (L.length + 1) y _ (V.alloc (.map #[] 0)) V.heap.size [] (by simp) (hk'.out.below hwm hmk) (hm'.out.below hwm hmb) hy5'.out (h0'.out.trans (KeepsBut.of_below hwm)) (SnIs.made L V) (by omega) (by omega) (by omega) hcl'.out)
      have hwm' := Lib.hid hwm
      clear hwm
      go_wp2_with fail
      refine hwi.out.mono ?_
      rintro e V2 ⟨⟨sS, bb⟩, hwp, rfl, _, hBB⟩
      have hBV : Below V.heap.size V V2 := (((Below.refl _ V).alloc (Nat.le_refl _) _)).trans (hBB.below (by simp) (Nat.le_refl _))
      have hwV2 : Below w.heap.size w V2 := hwm'.out.trans (hBB.below (by simp; omega) (by omega))
      have hzV2 := hBV.size
      have hcV2 := Lib.hid (hV.trans (hBV.mono hV.size))
      have hwV2' := Lib.hid hwV2
      clear q0 q1 q2 q3 q4 q5 hV hBB hBV hwV2 hwi hwm' hmm
      cases bb
      case true =>
        have hout : out = (L, false) := by
          have h := hC'.out
          rw [if_neg (fun h => by simpa using hcc'.out.2 h), hsw'.out, if_pos hPh, hwp] at h
          exact (Option.some.inj h).symm
        have hfin := Lib.hid (hret.out _ hwV2'.out _ hout)
        clear hwp
        go_wp2_with fail
        go_ret
        exact ⟨ret_bool (by rw [hout]), hfin.out⟩
      have hout : out = (L ++ [⟨x.n, y⟩], true) := by
        have h := hC'.out
        rw [if_neg (fun h => by simpa using hcc'.out.2 h), hsw'.out, if_pos hPh, hwp] at h
        exact (Option.some.inj h).symm
      have hkd : Hid (MkIs V2.drew mk mb) := hk'.out.below (hwV2'.out.trans ((Below.refl _ V2).drew.mono (by omega))) hmk
      have hdrw : Below U2.heap.size U2 V2.drew := hcV2.out.trans ((Below.refl _ V2).drew.mono hcV2.out.size)
      have hcdr := Lib.hid (And.intro (hx4b.out.below hdrw hx4b.out.lt).cells (hx5b.out.below hdrw hx5b.out.lt).cells)
      clear hdrw
      have hput := Lib.hid (MpIs.put (hm'.out.below (hwV2'.out.trans ((Below.refl _ V2).drew.mono (by omega))) hmb) hPn hy5'.out (by omega) (M := L ++ [⟨x.n, y⟩]) (fa_snoc_if y hPf.out))
      clear hwp
      go_upto_region 10 with (fail)
      go_cut [] from 61 to 67 (fun U => MpIs w₀ U mb (L ++ [⟨x.n, y⟩]) ∧ BelowB V2.heap.size mb V2 U)
      case first =>
        refine wp_region_inv (fun f a Vr => ∃ x61 x62 x63 x64 x65 x66 x67, a = ⟨#[.pointer (some ⟨mk, 0, none⟩), .agg #[.string sa, .int .i64 na, .slice aa la.length ac], .agg #[.string sc, .int .i64 nc, .slice ba lc.length bc], undef, .pointer (some ⟨w.heap.size, 0, none⟩), .pointer (some ⟨w.heap.size + 1, 0, none⟩), .bool false, .pointer (some ⟨B7, 0, none⟩), .pointer (some ⟨B8, 0, none⟩), u9, u10, u11, u12, u13, u14, u15, u16, u17, u18, u19, u20, u21, .bool false, u23, u24, u25, u26, u27, u28, u29, u30, u31, u32, u33, u34, u35, .bool false, u37, u38, u39, u40, u41, u42, u43, u44, u45, u46, u47, u48, u49, u50, undef, undef, .agg #[.string x.name, .int .i64 x.n, .slice y4 x.args.length c4], .bool true, .pointer (some ⟨mk, 0, none⟩), .pointer (some ⟨w.heap.size, 1, none⟩), .int .i64 x.n, .agg #[.string y.name, .int .i64 y.n, .slice y5 y.args.length c5], .map (some V.heap.size), .bool false, x61, x62, x63, x64, x65, x66, x67, undef, undef, undef, undef, undef, undef, undef, undef, undef, undef, undef, undef, undef, undef, undef, undef, undef, undef, undef, undef, undef, undef, undef, undef, undef, undef, undef, undef, undef, undef, undef, undef, undef, undef, undef, undef, undef, undef, undef, undef, undef, undef, undef, undef, undef, undef, undef], []⟩ ∧ (f 7 = false → Vr = V2.drew) ∧ (f 0 = true → x61 = .pointer (some ⟨mk, 0, none⟩)) ∧ (f 1 = true → x62 = .pointer (some ⟨mk, 0, none⟩)) ∧ (f 2 = true → x63 = .pointer (some ⟨mk, 0, none⟩)) ∧ (f 3 = true → x64 = .map (some mb)) ∧ (f 4 = true → x65 = .pointer (some ⟨w.heap.size, 1, none⟩)) ∧ (f 5 = true → x66 = .int .i64 x.n) ∧ (f 6 = true → x67 = .agg #[.string y.name, .int .i64 y.n, .slice y5 y.args.length c5]) ∧ (f 7 = true → MpIs w₀ Vr mb (L ++ [⟨x.n, y⟩]) ∧ BelowB V2.heap.size mb V2 Vr)) (by kernel_rfl) (by kernel_rfl) (rs := [0, 1, 2, 3, 4, 5, 6, 7]) (by kernel_rfl) ?start ?steps ?done
        case start => exact ⟨_, _, _, _, _, _, _, rfl, fun _ => rfl, by simp, by simp, by simp, by simp, by simp, by simp, by simp, by simp⟩
        case steps =>
          refine KeepsI.cons (ds := []) rfl (by kernel_rfl) ?s0 (KeepsI.cons (ds := [0]) rfl (by kernel_rfl) ?s1 (KeepsI.cons (ds := [1]) rfl (by kernel_rfl) ?s2 (KeepsI.cons (ds := [2]) rfl (by kernel_rfl) ?s3 (KeepsI.cons (ds := []) rfl (by kernel_rfl) ?s4 (KeepsI.cons (ds := [4]) rfl (by kernel_rfl) ?s5 (KeepsI.cons (ds := []) rfl (by kernel_rfl) ?s6 (KeepsI.cons (ds := [3, 5, 6]) rfl (by kernel_rfl) ?s7 KeepsI.nil)))))))
          all_goals (intro f a Vr hf hd hcl hI K' hK; obtain ⟨x61, x62, x63, x64, x65, x66, x67, rfl, hV, h0, h1, h2, h3, h4, h5, h6, h7⟩ := hI)
          case s0 =>
            go_simp
            exact hK _ _ ⟨_, _, _, _, _, _, _, rfl, hV, fun _ => rfl, h1, h2, h3, h4, h5, h6, h7⟩
          case s1 =>
            have e0 := h0 (hd 0 (by simp))
            subst e0
            go_simp
            exact hK _ _ ⟨_, _, _, _, _, _, _, rfl, hV, h0, fun _ => rfl, h2, h3, h4, h5, h6, h7⟩
          case s2 =>
            have e0 := h1 (hd 1 (by simp))
            subst e0
            go_simp
            exact hK _ _ ⟨_, _, _, _, _, _, _, rfl, hV, h0, h1, fun _ => rfl, h3, h4, h5, h6, h7⟩
          case s3 =>
            have e0 := h2 (hd 2 (by simp))
            subst e0
            cases h7f : f 7
            · have e := hV h7f
              subst e
              have q0 := hkd.out.cell
              go_simp
              exact hK _ _ ⟨_, _, _, _, _, _, _, rfl, hV, h0, h1, h2, fun _ => rfl, h4, h5, h6, h7⟩
            · exact absurd (hcl 7 3 (by kernel_rfl) h7f) (by rw [hf]; simp)
          case s4 =>
            go_simp
            exact hK _ _ ⟨_, _, _, _, _, _, _, rfl, hV, h0, h1, h2, h3, fun _ => rfl, h5, h6, h7⟩
          case s5 =>
            have e0 := h4 (hd 4 (by simp))
            subst e0
            cases h7f : f 7
            · have e := hV h7f
              subst e
              obtain ⟨q0, q1, q2⟩ := (hcdr.out.1)
              go_simp
              exact hK _ _ ⟨_, _, _, _, _, _, _, rfl, hV, h0, h1, h2, h3, h4, fun _ => rfl, h6, h7⟩
            · exact absurd (hcl 7 5 (by kernel_rfl) h7f) (by rw [hf]; simp)
          case s6 =>
            cases h7f : f 7
            · have e := hV h7f
              subst e
              obtain ⟨q0, q1, q2⟩ := (hcdr.out.2)
              go_simp
              exact hK _ _ ⟨_, _, _, _, _, _, _, rfl, hV, h0, h1, h2, h3, h4, h5, fun _ => rfl, h7⟩
            · exact absurd (hcl 7 6 (by kernel_rfl) h7f) (by rw [hf]; simp)
          case s7 =>
            have e3 := h3 (hd 3 (by simp))
            have e5 := h5 (hd 5 (by simp))
            have e6 := h6 (hd 6 (by simp))
            have e := hV hf
            subst e3 e5 e6 e
            obtain ⟨V', hrun, hM', hg'⟩ := hput.out
            go_simp
            exact hK _ _ ⟨_, _, _, _, _, _, _, rfl, by simp, h0, h1, h2, fun _ => rfl, h4, fun _ => rfl, fun _ => rfl, fun _ => ⟨hM', BelowB.trans (BelowB.of_below ((Below.refl _ _).drew)) (BelowB.of_grown hg' (Nat.le_refl _))⟩⟩
        case done =>
          intro f a Vr hf hI
          obtain ⟨x61, x62, x63, x64, x65, x66, x67, rfl, hV, h0, h1, h2, h3, h4, h5, h6, h7⟩ := hI
          obtain ⟨hM', hB'⟩ := h7 (hf 7 (by simp))
          go_wp2_with fail
          go_meet
          case rel => exact ⟨hM', hB'⟩
      case rest =>
      obtain ⟨hM', hB'⟩ := hcut
      have hfin : Hid (MpIs w₀ wc mb out.1 ∧ BelowB w.heap.size mb w wc) := by
        rw [hout]
        exact ⟨hM', (BelowB.of_below hwV2'.out).trans (hB'.mono (by omega))⟩
      clear hM' hB'
      go_wp2_with fail
      go_ret
      exact ⟨ret_bool (by rw [hout]), hfin.out⟩
    case false =>
      have hyn : holeS y.name = false := by
        cases h : holeS y.name with
        | false => rfl
        | true => exact absurd (hc2'.out.2 ⟨h, .inl hxn⟩) (by simp)
      have hC3 := hC'.out
      rw [if_neg (fun h => by simpa using hcc'.out.2 h), if_neg (by rw [show swapT x y = (x, y) from by unfold swapT; rw [if_neg (fun h => by simpa using hc2'.out.2 h)]]; rw [hxn]; simp)] at hC3
      have hC3' := Lib.hid hC3
      have hx4b := Lib.hid hx4
      have hx5b := Lib.hid hx5
      have hcP : Hid (∀ V, Below U2.heap.size U2 V → V.cell? ⟨w.heap.size, 0, none⟩ = some (.string x.name) ∧ V.cell? ⟨w.heap.size, 1, none⟩ = some (.int .i64 x.n) ∧ V.cell? ⟨w.heap.size, 2, none⟩ = some (.slice y4 x.args.length c4) ∧ V.cell? ⟨w.heap.size + 1, 0, none⟩ = some (.string y.name) ∧ V.cell? ⟨w.heap.size + 1, 1, none⟩ = some (.int .i64 y.n) ∧ V.cell? ⟨w.heap.size + 1, 2, none⟩ = some (.slice y5 y.args.length c5)) := by
        intro V hV
        obtain ⟨q0, q1, q2⟩ := (hx4.below hV hx4.lt).cells
        obtain ⟨q3, q4, q5⟩ := (hx5.below hV hx5.lt).cells
        exact ⟨q0, q1, q2, q3, q4, q5⟩
      clear hC3 hx4 hx5 hyn
      obtain ⟨q0, q1, q2, q3, q4, q5⟩ := hcP.out _ (Below.refl _ _)
      go_wp2_with fail
      refine (hHo.out _ _ _ _ _ _).mono ?_
      rintro e V ⟨rfl, hV⟩
      rw [hxn]
      clear q0 q1 q2 q3 q4 q5
      obtain ⟨q0, q1, q2, q3, q4, q5⟩ := hcP.out _ hV
      have hzV := hV.size
      have hV' := Lib.hid hV
      have hwV := Lib.hid (hwU2.out.trans (hV.mono (by omega)))
      clear hV hwU3
      cases hnb : (x.name.toList == y.name.toList)
      case false =>
        have hout : out = (L, false) := by
          have h := hC3'.out
          rw [if_pos (.inl (by simpa using hnb))] at h
          exact (Option.some.inj h).symm
        have hfin := Lib.hid (hret.out _ hwV.out _ hout)
        go_wp2_with fail
        go_ret
        exact ⟨ret_bool (by rw [hout]), hfin.out⟩
      by_cases hln : x.args.length = y.args.length
      case neg =>
        have hout : out = (L, false) := by
          have h := hC3'.out
          rw [if_pos (.inr hln)] at h
          exact (Option.some.inj h).symm
        have hfin := Lib.hid (hret.out _ hwV.out _ hout)
        have hln2 : ¬ ((x.args.length : Int) = (y.args.length : Int)) := by omega
        go_wp2_with fail
        go_ret
        exact ⟨ret_bool (by rw [hout]), hfin.out⟩
      have hln' := Lib.hid hln
      obtain ⟨oo, hoo, hof, hot⟩ : ∃ oo : List Fa × Bool, oneL (oneT fuel) L x.args y.args = some oo ∧ (oo.2 = false → out = (oo.1, false)) ∧ (oo.2 = true → out = if holeS v.name = true ∧ holeS z.name = true then (setF oo.1 v.n z, true) else (oo.1, true)) := by
        have h := hC3'.out
        rw [if_neg (fun h0 => h0.elim (fun h => h (by simpa using hnb)) (fun h => h hln))] at h
        cases h1 : oneL (oneT fuel) L x.args y.args with
        | none => rw [h1] at h; cases h
        | some p =>
          rw [h1] at h
          obtain ⟨M, b⟩ := p
          cases b
          · exact ⟨_, rfl, fun _ => (Option.some.inj h).symm, fun h => by cases h⟩
          · refine ⟨_, rfl, fun h => (by cases h), fun _ => ?_⟩
            simp only at h
            by_cases h4 : holeS v.name = true ∧ holeS z.name = true
            · rw [if_pos h4] at h ⊢; exact (Option.some.inj h).symm
            · rw [if_neg h4] at h ⊢; exact (Option.some.inj h).symm
      have hol' : oo.1.length ≤ 1000000 := by
        cases hb : oo.2 with
        | false => rw [hof hb] at hol; exact hol
        | true =>
          rw [hot hb] at hol
          split at hol
          · rw [setF_len] at hol; exact hol
          · exact hol
      have hkeep := Lib.hid (oneL_ok (oneT_ok fuel) _ _ _ _ hoo)
      have hoo' := Lib.hid hoo
      have hof' := Lib.hid hof
      have hot' := Lib.hid hot
      have hln3 : (x.args.length : Int) = (y.args.length : Int) := by rw [hln]
      clear hoo hof hot hln
      go_wp2_with fail
      clear q0 q1 q2 q3 q4 q5
      go_loopw [85] (fun i wr => ∃ (k : Nat) (M : List Fa), k ≤ x.args.length ∧ i = .int .i64 k ∧ Hid (oneL (oneT fuel) M (x.args.drop k) (y.args.drop k) = some oo) ∧ Hid (CntL M) ∧ Hid (MpIs w₀ wr mb M) ∧ Hid (BelowB V.heap.size mb V wr)) (fun i _ => x.args.length - (intOf i).toNat)
      case atStart => exact ⟨0, L, by omega, rfl, hoo'.out, hcl'.out, hm'.out.below hwV.out hmb, BelowB.refl _ _ _⟩
      case round =>
        obtain ⟨k, M, hk, rfl, hMo, hMc, hMm, hMB⟩ := hrel
        have hzW := hMB.out.size
        have hwW : BelowB w.heap.size mb w wr := (BelowB.of_below hwV.out).trans (hMB.out.mono (by omega))
        have hkW : MkIs wr mk mb := (hwW.block mk hmk hne).trans hk'.out
        have hVW : ∀ i, i < V.heap.size → i ≠ mb → wr.heap[i]? = V.heap[i]? := hMB.out.block
        have hx4W : BoxT wr (w.heap.size) (.string x.name) (.int .i64 x.n) (.slice y4 x.args.length c4) := (hVW _ (by omega) (by omega)).trans (hx4b.out.below hV'.out hx4b.out.lt)
        have hx5W : BoxT wr (w.heap.size + 1) (.string y.name) (.int .i64 y.n) (.slice y5 y.args.length c5) := (hVW _ (by omega) (by omega)).trans (hx5b.out.below hV'.out hx5b.out.lt)
        have hx4W' := Lib.hid hx4W
        have hx5W' := Lib.hid hx5W
        have hkW' := Lib.hid hkW
        have hwW' := Lib.hid hwW
        have hMl : M.length ≤ oo.1.length := (oneL_ok (oneT_ok fuel) _ _ _ _ hMo.out).2.1
        clear hVW hx4W hx5W hkW hwW
        have hxl : x.args.length ≤ 100000 := by have := tcntL_len x.args; have := args_cnt x; omega
        by_cases h1 : k < x.args.length
        · have h2 : k < y.args.length := by have := hln'.out; omega
          have hMo2 := hMo.out
          rw [List.drop_eq_getElem_cons h1, List.drop_eq_getElem_cons h2] at hMo2
          obtain ⟨o1, ho1⟩ := oneL_some hMo2
          have hMo2' := Lib.hid hMo2
          have ho1' := Lib.hid ho1
          have ho1l : o1.1.length ≤ oo.1.length := by
            obtain ⟨M', b⟩ := o1
            cases b
            · rw [oneL_false hMo2 ho1]; exact Nat.le_refl _
            · exact (oneL_ok (oneT_ok fuel) _ _ _ _ (oneL_true hMo2 ho1)).2.1
          have hcxa : tcnt x.args[k] ≤ 100000 := by have := tcntL_mem (List.getElem_mem h1); have := args_cnt x; omega
          have hcya : tcnt y.args[k] ≤ 100000 := by have := tcntL_mem (List.getElem_mem h2); have := args_cnt y; omega
          have ho1c := Lib.hid ((oneT_ok fuel _ _ _ _ ho1).1 hMc.out hcxa hcya)
          obtain ⟨bx, ofx, rfl, hax⟩ := (IsTy.row hy4'.out).arg (by intro e; rw [e] at h1; simp at h1)
          obtain ⟨by', ofy, rfl, hay⟩ := (IsTy.row hy5'.out).arg (by intro e; rw [e] at h2; simp at h2)
          obtain ⟨ax, cx, gx0, gx1, gx2, hxa⟩ := hax k h1
          obtain ⟨ay, cy, gy0, gy1, gy2, hya⟩ := hay k h2
          have hKW : KeepsBut (fun _ => False) w₀ wr := h0'.out.trans ⟨hwW'.out.size, fun a v _ hv => hwW'.out.keeps hm'.out.obj a v hv⟩
          have hKd : KeepsBut (fun _ => False) w₀ wr.drew := hKW.trans (KeepsBut.of_below (Below.refl _ wr).drew)
          have gx : Hid (wr.drew.cell? ⟨bx, ofx + k * 3, none⟩ = some (.string x.args[k].name) ∧ wr.drew.cell? ⟨bx, ofx + k * 3 + 1, none⟩ = some (.int .i64 x.args[k].n) ∧ wr.drew.cell? ⟨bx, ofx + k * 3 + 2, none⟩ = some (.slice ax x.args[k].args.length cx)) := ⟨hKd.2 _ _ (fun h => h) gx0, hKd.2 _ _ (fun h => h) gx1, hKd.2 _ _ (fun h => h) gx2⟩
          have gy : Hid (wr.drew.cell? ⟨by', ofy + k * 3, none⟩ = some (.string y.args[k].name) ∧ wr.drew.cell? ⟨by', ofy + k * 3 + 1, none⟩ = some (.int .i64 y.args[k].n) ∧ wr.drew.cell? ⟨by', ofy + k * 3 + 2, none⟩ = some (.slice ay y.args[k].args.length cy)) := ⟨hKd.2 _ _ (fun h => h) gy0, hKd.2 _ _ (fun h => h) gy1, hKd.2 _ _ (fun h => h) gy2⟩
          have hdr := (Below.refl wr.heap.size wr).drew
          have hp4 := Lib.hid (hx4W'.out.below hdr hx4W'.out.lt).cells
          have hp5 := Lib.hid (hx5W'.out.below hdr hx5W'.out.lt).cells
          have hct := Lib.hid (ih'.out M x.args[k] y.args[k] _ _ wr.drew o1 ho1 (by omega) hMc.out hcxa hcya (hkW'.out.below hdr hkW'.out.lt) (hMm.out.below hdr hMm.out.lt) hxa hya hKd)
          have h1i : (k : Int) < (x.args.length : Int) := by omega
          clear hax hay gx0 gx1 gx2 gy0 gy1 gy2 hxa hya hKW hKd hdr hMo2 ho1
          go_upto_region 17 with (fail)
          go_cut [100] from 88 to 100 (fun s U => s = .bool (!o1.2) ∧ MpIs w₀ U mb o1.1 ∧ BelowB wr.heap.size mb wr U)
          case first =>
            refine wp_region_inv (fun f a Vr => ∃ x88 x89 x90 x91 x92 x93 x94 x95 x96 x97 x98 x99 x100, a = ⟨#[.pointer (some ⟨mk, 0, none⟩), .agg #[.string sa, .int .i64 na, .slice aa la.length ac], .agg #[.string sc, .int .i64 nc, .slice ba lc.length bc], undef, .pointer (some ⟨w.heap.size, 0, none⟩), .pointer (some ⟨w.heap.size + 1, 0, none⟩), u6, .pointer (some ⟨B7, 0, none⟩), .pointer (some ⟨B8, 0, none⟩), .int .i64 k, u10, u11, u12, u13, u14, u15, u16, u17, u18, u19, u20, u21, .bool false, u23, u24, u25, u26, u27, u28, u29, u30, u31, u32, u33, u34, u35, .bool false, u37, u38, u39, u40, u41, u42, u43, u44, u45, u46, u47, u48, u49, u50, undef, undef, .agg #[.string x.name, .int .i64 x.n, .slice (some ⟨bx, ofx, none⟩) x.args.length c4], .bool false, undef, undef, undef, undef, undef, undef, undef, undef, undef, undef, undef, undef, undef, .pointer (some ⟨w.heap.size, 0, none⟩), .string x.name, .pointer (some ⟨w.heap.size + 1, 0, none⟩), .string y.name, .bool false, .bool false, .pointer (some ⟨w.heap.size, 2, none⟩), .slice (some ⟨bx, ofx, none⟩) x.args.length c4, .int .i64 (y.args.length : Int), .pointer (some ⟨w.heap.size + 1, 2, none⟩), .slice (some ⟨by', ofy, none⟩) y.args.length c5, .int .i64 (y.args.length : Int), .bool false, .bool false, .pointer (some ⟨w.heap.size, 2, none⟩), .slice (some ⟨bx, ofx, none⟩) x.args.length c4, .int .i64 (y.args.length : Int), .int .i64 k, .bool true, .int .i64 k, x88, x89, x90, x91, x92, x93, x94, x95, x96, x97, x98, x99, x100, u101, undef, undef, undef, undef, undef, undef, undef, undef, undef, undef, undef, undef, undef], []⟩ ∧ (f 11 = false → Vr = wr.drew) ∧ (f 0 = true → x88 = .pointer (some ⟨mk, 0, none⟩)) ∧ (f 1 = true → x89 = .pointer (some ⟨w.heap.size, 2, none⟩)) ∧ (f 2 = true → x90 = .slice (some ⟨bx, ofx, none⟩) x.args.length c4) ∧ (f 3 = true → x91 = .int .i64 k) ∧ (f 4 = true → x92 = .pointer (some ⟨bx, ofx + k * 3, none⟩)) ∧ (f 5 = true → x93 = .agg #[.string x.args[k].name, .int .i64 x.args[k].n, .slice ax x.args[k].args.length cx]) ∧ (f 6 = true → x94 = .pointer (some ⟨w.heap.size + 1, 2, none⟩)) ∧ (f 7 = true → x95 = .slice (some ⟨by', ofy, none⟩) y.args.length c5) ∧ (f 8 = true → x96 = .int .i64 k) ∧ (f 9 = true → x97 = .pointer (some ⟨by', ofy + k * 3, none⟩)) ∧ (f 10 = true → x98 = .agg #[.string y.args[k].name, .int .i64 y.args[k].n, .slice ay y.args[k].args.length cy]) ∧ (f 11 = true → x99 = .bool o1.2) ∧ (f 12 = true → x100 = .bool (!o1.2)) ∧ (f 11 = true → MpIs w₀ Vr mb o1.1 ∧ BelowB wr.heap.size mb wr Vr)) (by kernel_rfl) (by kernel_rfl) (rs := [0, 1, 2, 3, 4, 5, 6, 7, 8, 9, 10, 11, 12]) (by kernel_rfl) ?start ?steps ?done
            case start => exact ⟨_, _, _, _, _, _, _, _, _, _, _, _, _, rfl, fun _ => rfl, by simp, by simp, by simp, by simp, by simp, by simp, by simp, by simp, by simp, by simp, by simp, by simp, by simp, by simp⟩
            case steps =>
              refine KeepsI.cons (ds := []) rfl (by kernel_rfl) ?s0 (KeepsI.cons (ds := []) rfl (by kernel_rfl) ?s1 (KeepsI.cons (ds := [1]) rfl (by kernel_rfl) ?s2 (KeepsI.cons (ds := []) rfl (by kernel_rfl) ?s3 (KeepsI.cons (ds := [2, 3]) rfl (by kernel_rfl) ?s4 (KeepsI.cons (ds := [4]) rfl (by kernel_rfl) ?s5 (KeepsI.cons (ds := []) rfl (by kernel_rfl) ?s6 (KeepsI.cons (ds := [6]) rfl (by kernel_rfl) ?s7 (KeepsI.cons (ds := []) rfl (by kernel_rfl) ?s8 (KeepsI.cons (ds := [7, 8]) rfl (by kernel_rfl) ?s9 (KeepsI.cons (ds := [9]) rfl (by kernel_rfl) ?s10 (KeepsI.cons (ds := [0, 5, 10]) rfl (by kernel_rfl) ?s11 (KeepsI.cons (ds := [11]) rfl (by kernel_rfl) ?s12 KeepsI.nil))))))))))))
              all_goals (intro f a Vr hf hd hcl hI K' hK; obtain ⟨x88, x89, x90, x91, x92, x93, x94, x95, x96, x97, x98, x99, x100, rfl, hVr, h0, hh1, hh2, h3, h4, h5, h6, h7, h8, h9, h10, h11, h12, hM'⟩ := hI)
              case s0 =>
                go_simp
                exact hK _ _ ⟨_, _, _, _, _, _, _, _, _, _, _, _, _, rfl, hVr, fun _ => rfl, hh1, hh2, h3, h4, h5, h6, h7, h8, h9, h10, h11, h12, hM'⟩
              case s1 =>
                go_simp
                exact hK _ _ ⟨_, _, _, _, _, _, _, _, _, _, _, _, _, rfl, hVr, h0, fun _ => rfl, hh2, h3, h4, h5, h6, h7, h8, h9, h10, h11, h12, hM'⟩
              case s2 =>
                have e1 := hh1 (hd 1 (by simp))
                subst e1
                cases h7f : f 11
                · have e := hVr h7f
                  subst e
                  obtain ⟨q0, q1, q2⟩ := hp4.out
                  go_simp
                  exact hK _ _ ⟨_, _, _, _, _, _, _, _, _, _, _, _, _, rfl, hVr, h0, hh1, fun _ => rfl, h3, h4, h5, h6, h7, h8, h9, h10, h11, h12, hM'⟩
                · exact absurd (hcl 4 2 (by kernel_rfl) (hcl 5 4 (by kernel_rfl) (hcl 11 5 (by kernel_rfl) h7f))) (by rw [hf]; simp)
              case s3 =>
                go_simp
                exact hK _ _ ⟨_, _, _, _, _, _, _, _, _, _, _, _, _, rfl, hVr, h0, hh1, hh2, fun _ => rfl, h4, h5, h6, h7, h8, h9, h10, h11, h12, hM'⟩
              case s4 =>
                have e2 := hh2 (hd 2 (by simp))
                have e3 := h3 (hd 3 (by simp))
                subst e2 e3
                go_simp
                exact hK _ _ ⟨_, _, _, _, _, _, _, _, _, _, _, _, _, rfl, hVr, h0, hh1, hh2, h3, fun _ => rfl, h5, h6, h7, h8, h9, h10, h11, h12, hM'⟩
              case s5 =>
                have e4 := h4 (hd 4 (by simp))
                subst e4
                cases h7f : f 11
                · have e := hVr h7f
                  subst e
                  obtain ⟨q0, q1, q2⟩ := gx.out
                  go_simp
                  exact hK _ _ ⟨_, _, _, _, _, _, _, _, _, _, _, _, _, rfl, hVr, h0, hh1, hh2, h3, h4, fun _ => rfl, h6, h7, h8, h9, h10, h11, h12, hM'⟩
                · exact absurd (hcl 11 5 (by kernel_rfl) h7f) (by rw [hf]; simp)
              case s6 =>
                go_simp
                exact hK _ _ ⟨_, _, _, _, _, _, _, _, _, _, _, _, _, rfl, hVr, h0, hh1, hh2, h3, h4, h5, fun _ => rfl, h7, h8, h9, h10, h11, h12, hM'⟩
              case s7 =>
                have e6 := h6 (hd 6 (by simp))
                subst e6
                cases h7f : f 11
                · have e := hVr h7f
                  subst e
                  obtain ⟨q0, q1, q2⟩ := hp5.out
                  go_simp
                  exact hK _ _ ⟨_, _, _, _, _, _, _, _, _, _, _, _, _, rfl, hVr, h0, hh1, hh2, h3, h4, h5, h6, fun _ => rfl, h8, h9, h10, h11, h12, hM'⟩
                · exact absurd (hcl 9 7 (by kernel_rfl) (hcl 10 9 (by kernel_rfl) (hcl 11 10 (by kernel_rfl) h7f))) (by rw [hf]; simp)
              case s8 =>
                go_simp
                exact hK _ _ ⟨_, _, _, _, _, _, _, _, _, _, _, _, _, rfl, hVr, h0, hh1, hh2, h3, h4, h5, h6, h7, fun _ => rfl, h9, h10, h11, h12, hM'⟩
              case s9 =>
                have e7 := h7 (hd 7 (by simp))
                have e8 := h8 (hd 8 (by simp))
                subst e7 e8
                go_simp
                exact hK _ _ ⟨_, _, _, _, _, _, _, _, _, _, _, _, _, rfl, hVr, h0, hh1, hh2, h3, h4, h5, h6, h7, h8, fun _ => rfl, h10, h11, h12, hM'⟩
              case s10 =>
                have e9 := h9 (hd 9 (by simp))
                subst e9
                cases h7f : f 11
                · have e := hVr h7f
                  subst e
                  obtain ⟨q0, q1, q2⟩ := gy.out
                  go_simp
                  exact hK _ _ ⟨_, _, _, _, _, _, _, _, _, _, _, _, _, rfl, hVr, h0, hh1, hh2, h3, h4, h5, h6, h7, h8, h9, fun _ => rfl, h11, h12, hM'⟩
                · exact absurd (hcl 11 10 (by kernel_rfl) h7f) (by rw [hf]; simp)
              case s11 =>
                have e0 := h0 (hd 0 (by simp))
                have e5 := h5 (hd 5 (by simp))
                have e10 := h10 (hd 10 (by simp))
                have e := hVr hf
                subst e0 e5 e10 e
                go_simp
                refine hct.out.mono ?_
                rintro e Vn ⟨rfl, hMn, hBn⟩
                go_simp
                exact hK _ _ ⟨_, _, _, _, _, _, _, _, _, _, _, _, _, rfl, by simp, fun _ => rfl, hh1, hh2, h3, h4, fun _ => rfl, h6, h7, h8, h9, fun _ => rfl, fun _ => rfl, h12, fun _ => ⟨hMn, BelowB.trans (BelowB.of_below ((Below.refl _ _).drew)) hBn⟩⟩
              case s12 =>
                have e11 := h11 (hd 11 (by simp))
                subst e11
                go_simp
                exact hK _ _ ⟨_, _, _, _, _, _, _, _, _, _, _, _, _, rfl, hVr, h0, hh1, hh2, h3, h4, h5, h6, h7, h8, h9, h10, h11, fun _ => rfl, hM'⟩
            case done =>
              intro f a Vr hf hI
              obtain ⟨x88, x89, x90, x91, x92, x93, x94, x95, x96, x97, x98, x99, x100, rfl, hVr, h0, hh1, hh2, h3, h4, h5, h6, h7, h8, h9, h10, h11, h12, hM'⟩ := hI
              have e := h12 (hf 12 (by simp))
              subst e
              obtain ⟨hMn, hBn⟩ := hM' (hf 11 (by simp))
              go_wp2_with fail
              go_meet
              case rel => exact ⟨rfl, hMn, hBn⟩
          case rest =>
          obtain ⟨rfl, hMm', hMB'⟩ := hcut
          have hMmh := Lib.hid hMm'
          have hB2 := Lib.hid (hMB.out.trans (hMB'.mono hMB.out.size))
          clear hMm' hMB'
          obtain ⟨M', b⟩ := o1
          cases b
          · have hoe := oneL_false hMo2'.out ho1'.out
            have hout : out = (M', false) := by
              have := hof'.out (by rw [hoe])
              rw [this, hoe]
            have hfin : Hid (MpIs w₀ wc mb out.1 ∧ BelowB w.heap.size mb w wc) := by
              rw [hout]
              exact ⟨hMmh.out, (BelowB.of_below hwV.out).trans (hB2.out.mono (by omega))⟩
            have hout' := Lib.hid hout
            clear hoe hout
            go_wp2_with fail
            go_ret
            exact ⟨ret_bool (by rw [hout'.out]), hfin.out⟩
          · have hon := Lib.hid (oneL_true hMo2'.out ho1'.out)
            go_wp2_with fail
            go_roundw
            case rel => exact ⟨k + 1, M', by omega, by go_num, hon.out, ho1c.out, hMmh.out, hB2.out⟩
            case measure => simp [intOf]; omega
        · have e : k = x.args.length := by omega
          have hoe : oo = (M, true) := by
            have h := hMo.out
            rw [e, List.drop_length] at h
            simp only [oneL] at h
            exact (Option.some.inj h).symm
          have h1i : ¬ ((k : Int) < (x.args.length : Int)) := by omega
          have hb7W := (hMB.out.block B7 (by have := (hb7'.out).lt; omega) (by omega)).trans ((hb7'.out.below hU2'.out hb7'.out.lt).below hV'.out (by have := hb7'.out.lt; omega))
          have hb8W := (hMB.out.block B8 (by have := (hb8'.out).lt; omega) (by omega)).trans ((hb8'.out.below hU2'.out hb8'.out.lt).below hV'.out (by have := hb8'.out.lt; omega))
          have hb7x : Hid (BoxT wr (B7) (.string v.name) (.int .i64 v.n) (.slice y7 v.args.length c7)) := hb7W
          have hb8x : Hid (BoxT wr (B8) (.string z.name) (.int .i64 z.n) (.slice y8 z.args.length c8)) := hb8W
          have hcW : Hid (∀ V, Below wr.heap.size wr V → V.cell? ⟨B7, 0, none⟩ = some (.string v.name) ∧ V.cell? ⟨B7, 1, none⟩ = some (.int .i64 v.n) ∧ V.cell? ⟨B7, 2, none⟩ = some (.slice y7 v.args.length c7) ∧ V.cell? ⟨B8, 0, none⟩ = some (.string z.name) ∧ V.cell? ⟨B8, 1, none⟩ = some (.int .i64 z.n) ∧ V.cell? ⟨B8, 2, none⟩ = some (.slice y8 z.args.length c8)) := by
            intro V hV
            obtain ⟨q0, q1, q2⟩ := (hb7x.out.below hV hb7x.out.lt).cells
            obtain ⟨q3, q4, q5⟩ := (hb8x.out.below hV hb8x.out.lt).cells
            exact ⟨q0, q1, q2, q3, q4, q5⟩
          have hot2 : Hid (out = if holeS v.name = true ∧ holeS z.name = true then (setF M v.n z, true) else (M, true)) := by
            have h := hot'.out (by rw [hoe])
            rw [hoe] at h
            exact h
          have hMf : Hid ((fa? L v.n).isSome = true → (fa? M v.n).isSome = true) := by
            have h := hkeep.out.2.2 v.n
            rw [hoe] at h
            exact h
          have hMol : M.length ≤ 1000000 := by omega
          have hkeepB : Hid (∀ W, Below wr.heap.size wr W → out = (M, true) → MpIs w₀ W mb out.1 ∧ BelowB w.heap.size mb w W) := by
            intro W hW ho
            rw [ho]
            exact ⟨hMm.out.below hW hMm.out.lt, (hwW'.out).trans ((BelowB.of_below hW).mono hwW'.out.size)⟩
          obtain ⟨q0, q1, q2, q3, q4, q5⟩ := hcW.out _ (Below.refl _ _)
          clear e hb7W hb8W hoe
          go_wp2_with fail
          refine (hHo.out _ _ _ _ _ _).mono ?_
          rintro e W2 ⟨rfl, hW2⟩
          clear q0 q1 q2 q3 q4 q5
          obtain ⟨q0, q1, q2, q3, q4, q5⟩ := hcW.out _ hW2
          cases hvn : holeS v.name
          case false =>
            have hout : out = (M, true) := by rw [hot2.out, if_neg (by rw [hvn]; simp)]
            have hfin := Lib.hid (hkeepB.out _ hW2 hout)
            have hout' := Lib.hid hout
            clear hout
            go_wp2_with fail
            go_ret
            exact ⟨ret_bool (by rw [hout'.out]), hfin.out⟩
          go_wp2_with fail
          refine (hHo.out _ _ _ _ _ _).mono ?_
          rintro e W3 ⟨rfl, hW3'⟩
          have hW3 := hW2.trans (hW3'.mono hW2.size)
          clear q0 q1 q2 q3 q4 q5 hW2 hW3'
          obtain ⟨q0, q1, q2, q3, q4, q5⟩ := hcW.out _ hW3
          cases hzn : holeS z.name
          case false =>
            have hout : out = (M, true) := by rw [hot2.out, if_neg (by rw [hzn]; simp)]
            have hfin := Lib.hid (hkeepB.out _ hW3 hout)
            have hout' := Lib.hid hout
            clear hout
            go_wp2_with fail
            go_ret
            exact ⟨ret_bool (by rw [hout'.out]), hfin.out⟩
          have hout : out = (setF M v.n z, true) := by rw [hot2.out, if_pos ⟨hvn, hzn⟩]
          have hout' := Lib.hid hout
          have hMs : (fa? M v.n).isSome = true := hMf.out (walkT_some hx'.out hvn hxn)
          have hdw := hW3.trans ((Below.refl _ W3).drew.mono hW3.size)
          have hkd : Hid (MkIs W3.drew mk mb) := hkW'.out.below hdw hkW'.out.lt
          have hPn : In64 v.n := by obtain ⟨s, n, l⟩ := v; exact In64.of_hole hy7'.out
          have hput := Lib.hid (MpIs.put (hMm.out.below hdw hMm.out.lt) hPn hy8'.out hMol (M := setF M v.n z) (fa_set z hMs))
          have hcdr := Lib.hid (And.intro (hb7x.out.below hdw hb7x.out.lt).cells (hb8x.out.below hdw hb8x.out.lt).cells)
          have hW3' := Lib.hid hW3
          clear q0 q1 q2 q3 q4 q5 hdw hout hW3
          go_upto_region 21 with (fail)
          go_cut [] from 108 to 114 (fun U => MpIs w₀ U mb (setF M v.n z) ∧ BelowB W3.heap.size mb W3 U)
          case first =>
            refine wp_region_inv (fun f a Vr => ∃ x108 x109 x110 x111 x112 x113 x114, a = ⟨#[.pointer (some ⟨mk, 0, none⟩), .agg #[.string sa, .int .i64 na, .slice aa la.length ac], .agg #[.string sc, .int .i64 nc, .slice ba lc.length bc], undef, .pointer (some ⟨w.heap.size, 0, none⟩), .pointer (some ⟨w.heap.size + 1, 0, none⟩), u6, .pointer (some ⟨B7, 0, none⟩), .pointer (some ⟨B8, 0, none⟩), u9, u10, u11, u12, u13, u14, u15, u16, u17, u18, u19, u20, u21, .bool false, u23, u24, u25, u26, u27, u28, u29, u30, u31, u32, u33, u34, u35, .bool false, u37, u38, u39, u40, u41, u42, u43, u44, u45, u46, u47, u48, u49, u50, undef, undef, .agg #[.string x.name, .int .i64 x.n, .slice y4 x.args.length c4], .bool false, undef, undef, undef, undef, undef, undef, undef, undef, undef, undef, undef, undef, undef, .pointer (some ⟨w.heap.size, 0, none⟩), .string x.name, .pointer (some ⟨w.heap.size + 1, 0, none⟩), .string y.name, .bool false, .bool false, .pointer (some ⟨w.heap.size, 2, none⟩), .slice y4 x.args.length c4, .int .i64 (y.args.length : Int), .pointer (some ⟨w.heap.size + 1, 2, none⟩), .slice y5 y.args.length c5, .int .i64 (y.args.length : Int), .bool false, .bool false, .pointer (some ⟨w.heap.size, 2, none⟩), .slice y4 x.args.length c4, .int .i64 (y.args.length : Int), .int .i64 k, .bool false, u87, u88, u89, u90, u91, u92, u93, u94, u95, u96, u97, u98, u99, u100, u101, .agg #[.string v.name, .int .i64 v.n, .slice y7 v.args.length c7], .bool true, .bool true, .agg #[.string z.name, .int .i64 z.n, .slice y8 z.args.length c8], .bool true, .bool true, x108, x109, x110, x111, x112, x113, x114], []⟩ ∧ (f 7 = false → Vr = W3.drew) ∧ (f 0 = true → x108 = .pointer (some ⟨mk, 0, none⟩)) ∧ (f 1 = true → x109 = .pointer (some ⟨mk, 0, none⟩)) ∧ (f 2 = true → x110 = .pointer (some ⟨mk, 0, none⟩)) ∧ (f 3 = true → x111 = .map (some mb)) ∧ (f 4 = true → x112 = .pointer (some ⟨B7, 1, none⟩)) ∧ (f 5 = true → x113 = .int .i64 v.n) ∧ (f 6 = true → x114 = .agg #[.string z.name, .int .i64 z.n, .slice y8 z.args.length c8]) ∧ (f 7 = true → MpIs w₀ Vr mb (setF M v.n z) ∧ BelowB W3.heap.size mb W3 Vr)) (by kernel_rfl) (by kernel_rfl) (rs := [0, 1, 2, 3, 4, 5, 6, 7]) (by kernel_rfl) ?start ?steps ?done
            case start => exact ⟨_, _, _, _, _, _, _, rfl, fun _ => rfl, by simp, by simp, by simp, by simp, by simp, by simp, by simp, by simp⟩
            case steps =>
              refine KeepsI.cons (ds := []) rfl (by kernel_rfl) ?s0 (KeepsI.cons (ds := [0]) rfl (by kernel_rfl) ?s1 (KeepsI.cons (ds := [1]) rfl (by kernel_rfl) ?s2 (KeepsI.cons (ds := [2]) rfl (by kernel_rfl) ?s3 (KeepsI.cons (ds := []) rfl (by kernel_rfl) ?s4 (KeepsI.cons (ds := [4]) rfl (by kernel_rfl) ?s5 (KeepsI.cons (ds := []) rfl (by kernel_rfl) ?s6 (KeepsI.cons (ds := [3, 5, 6]) rfl (by kernel_rfl) ?s7 KeepsI.nil)))))))
              all_goals (intro f a Vr hf hd hcl hI K' hK; obtain ⟨x108, x109, x110, x111, x112, x113, x114, rfl, hV, h0, h1, h2, h3, h4, h5, h6, h7⟩ := hI)
              case s0 =>
                go_simp
                exact hK _ _ ⟨_, _, _, _, _, _, _, rfl, hV, fun _ => rfl, h1, h2, h3, h4, h5, h6, h7⟩
              case s1 =>
                have e0 := h0 (hd 0 (by simp))
                subst e0
                go_simp
                exact hK _ _ ⟨_, _, _, _, _, _, _, rfl, hV, h0, fun _ => rfl, h2, h3, h4, h5, h6, h7⟩
              case s2 =>
                have e0 := h1 (hd 1 (by simp))
                subst e0
                go_simp
                exact hK _ _ ⟨_, _, _, _, _, _, _, rfl, hV, h0, h1, fun _ => rfl, h3, h4, h5, h6, h7⟩
              case s3 =>
                have e0 := h2 (hd 2 (by simp))
                subst e0
                cases h7f : f 7
                · have e := hV h7f
                  subst e
                  have q0 := hkd.out.cell
                  go_simp
                  exact hK _ _ ⟨_, _, _, _, _, _, _, rfl, hV, h0, h1, h2, fun _ => rfl, h4, h5, h6, h7⟩
                · exact absurd (hcl 7 3 (by kernel_rfl) h7f) (by rw [hf]; simp)
              case s4 =>
                go_simp
                exact hK _ _ ⟨_, _, _, _, _, _, _, rfl, hV, h0, h1, h2, h3, fun _ => rfl, h5, h6, h7⟩
              case s5 =>
                have e0 := h4 (hd 4 (by simp))
                subst e0
                cases h7f : f 7
                · have e := hV h7f
                  subst e
                  obtain ⟨q0, q1, q2⟩ := (hcdr.out.1)
                  go_simp
                  exact hK _ _ ⟨_, _, _, _, _, _, _, rfl, hV, h0, h1, h2, h3, h4, fun _ => rfl, h6, h7⟩
                · exact absurd (hcl 7 5 (by kernel_rfl) h7f) (by rw [hf]; simp)
              case s6 =>
                cases h7f : f 7
                · have e := hV h7f
                  subst e
                  obtain ⟨q0, q1, q2⟩ := (hcdr.out.2)
                  go_simp
                  exact hK _ _ ⟨_, _, _, _, _, _, _, rfl, hV, h0, h1, h2, h3, h4, h5, fun _ => rfl, h7⟩
                · exact absurd (hcl 7 6 (by kernel_rfl) h7f) (by rw [hf]; simp)
              case s7 =>
                have e3 := h3 (hd 3 (by simp))
                have e5 := h5 (hd 5 (by simp))
                have e6 := h6 (hd 6 (by simp))
                have e := hV hf
                subst e3 e5 e6 e
                obtain ⟨V', hrun, hM', hg'⟩ := hput.out
                go_simp
                exact hK _ _ ⟨_, _, _, _, _, _, _, rfl, by simp, h0, h1, h2, fun _ => rfl, h4, fun _ => rfl, fun _ => rfl, fun _ => ⟨hM', BelowB.trans (BelowB.of_below ((Below.refl _ _).drew)) (BelowB.of_grown hg' (Nat.le_refl _))⟩⟩
            case done =>
              intro f a Vr hf hI
              obtain ⟨x108, x109, x110, x111, x112, x113, x114, rfl, hV, h0, h1, h2, h3, h4, h5, h6, h7⟩ := hI
              obtain ⟨hM', hB'⟩ := h7 (hf 7 (by simp))
              go_wp2_with fail
              go_meet
              case rel => exact ⟨hM', hB'⟩
          case rest =>
          obtain ⟨hM', hB'⟩ := hcut
          have hfin : Hid (MpIs w₀ wc mb out.1 ∧ BelowB w.heap.size mb w wc) := by
            rw [hout'.out]
            exact ⟨hM', (hwW'.out.trans ((BelowB.of_below hW3'.out).mono hwW'.out.size)).trans (hB'.mono (by have := hwW'.out.size; have := hW3'.out.size; omega))⟩
          clear hM' hB'
          go_wp2_with fail
          go_ret
          exact ⟨ret_bool (by rw [hout'.out]), hfin.out⟩
end Go.Proofs.YticjpeefhppjoaaDoor
