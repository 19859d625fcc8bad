/- The maker's put and shut, walked. -/
import Derived.Test.YtchdfjihflmloaaGreatDoorLayM
namespace Go.Proofs.YtchdfjihflmloaaGreatDoor
open Go.RowKit

set_option maxHeartbeats 4000000 in
set_option maxRecDepth 100000 in
theorem lay_put {base mb : Nat} {o s : Value} {ts : List Tk} {st : List Int} (u : Bs) (t : Tk) (W : World) (h : MkS base W mb o ts s st) (hbz : base ≤ W.heap.size) (hl : ts.length ≤ 1000000) :
    Calls Tryz.prog 12 #[.pointer (some ⟨mb, 0, none⟩), .string (tS u), tkV t] W fun e W' => e = .returned (.tuple #[]) ∧ ∃ va vc, MkR base mb W o s W' (.slice va (ts.length + 1) vc) (ts ++ [mkT u t]) s st := by
  obtain ⟨oa, oc, sa, sc, rfl, hse, _, _⟩ := h.forms
  clear hse
  obtain ⟨W1, hW1⟩ : ∃ V, W.alloc (.cells #[.int .i64 t.kind, .string (tS t.text), .int .i64 t.num, .int .i64 t.line, .int .i64 t.col] 34) = V := ⟨_, rfl⟩
  have hb1 : Below W.heap.size W W1 := by rw [← hW1]; exact (Below.refl _ _).alloc (Nat.le_refl _) _
  have hx1 : Box5 W1 34 W.heap.size (.int .i64 t.kind) (.string (tS t.text)) (.int .i64 t.num) (.int .i64 t.line) (.int .i64 t.col) := by rw [← hW1]; exact blk_new (Below.refl _ _)
  have hz1 : W1.heap.size = W.heap.size + 1 := by rw [← hW1]; simp
  obtain ⟨W2, hW2⟩ : ∃ V, W1.drew.alloc (.cells #[.int .i64 4, .string (tS u), .int .i64 0, .int .i64 t.line, .int .i64 t.col] 34) = V := ⟨_, rfl⟩
  have hb2 : Below W1.heap.size W1 W2 := by rw [← hW2]; exact ((Below.refl _ W1).drew).alloc (Nat.le_refl _) _
  have hb12 : Below W.heap.size W W2 := hb1.trans (hb2.mono (by omega))
  have hst : Hid (∀ V, (V = W1.drew ∨ V = W2) → V.cell? ⟨mb, 0, none⟩ = some (.slice oa ts.length oc) ∧ V.cell? ⟨W.heap.size, 0, none⟩ = some (.int .i64 t.kind) ∧ V.cell? ⟨W.heap.size, 3, none⟩ = some (.int .i64 t.line) ∧ V.cell? ⟨W.heap.size, 4, none⟩ = some (.int .i64 t.col) ∧ V.frozen? ⟨mb, 0, none⟩ = false) := by
    intro V hV
    have hb : Below W1.heap.size W1 V := by
      rcases hV with rfl | rfl
      · exact (Below.refl _ _).drew
      · exact hb2
    obtain ⟨⟨c0, _⟩, cf⟩ := (h.box.below (hb1.trans (hb.mono (by omega)))).cells
    obtain ⟨⟨d0, _, _, d3, d4⟩, _⟩ := (hx1.below hb).cells
    exact ⟨c0, d0, d3, d4, cf 0⟩
  have hap : Hid (∃ va vc w3, (Builtin.append_ #[22, 22] 22 #[.slice oa ts.length oc, .slice (some ⟨W1.heap.size, 0, none⟩) 1 1]).run Tryz.prog W2 = .ok (.slice va (ts.length + 1) vc) w3 ∧ w3.cell? ⟨mb, 0, none⟩ = some (.slice oa ts.length oc) ∧ w3.frozen? ⟨mb, 0, none⟩ = false ∧
      MkR base mb W (.slice oa ts.length oc) s (w3.setCell ⟨mb, 0, none⟩ (.slice va (ts.length + 1) vc)) (.slice va (ts.length + 1) vc) (ts ++ [mkT u t]) s st) := by
    obtain ⟨i0, hi, hz0, hz1', hz2'⟩ := info_of Tryz.infoTk
    have hown := (h.below hb12).out
    have hnews : ∀ ad, some (⟨W1.heap.size, 0, none⟩ : Addr) = some ad → ∀ j v, (tkC (mkT u t))[j]? = some v → W2.cell? (ad.add j) = some v := by
      intro ad had j v hj
      cases had
      rw [← hW2]
      exact cell_five_new (w := W1.drew) rfl (mkT u t) 34 j v hj
    obtain ⟨v', w3, hrun, hr, hg, hx⟩ := run_append_own_src (P := Tryz.prog) W2 base 22 22 34 i0 (.agg #[.int .i64 0, .string ⟨#[]⟩, .int .i64 0, .int .i64 0, .int .i64 0]) 5 48 Tryz.underlying22 hi hz0 hz1' hz2' rfl (by decide) _ _ _ hown (some ⟨W1.heap.size, 0, none⟩) 1 1 (tkC (mkT u t)) (fun e => (nomatch e)) rfl hnews (by intro u hu; simp [tkC] at hu; rcases hu with rfl | rfl | rfl | rfl | rfl <;> rfl) (by unfold maxLen; omega) (by omega) (by have := hb12.size; omega)
    obtain ⟨va, vc, rfl, _⟩ := tk_own_form hr
    have hmr := h.put hb12 hg (hx.imp id id) hr
    have hbx : w3.heap[mb]? = W2.heap[mb]? := hg.block mb (by have := h.lt; have := hb12.size; omega) fun e => by have := (ownBlock_ge h.out e.symm).1; have := h.low; omega
    have hcx := (show Box2 w3 39 mb (.slice oa ts.length oc) s from hbx.trans (h.box.below hb12)).cells
    exact ⟨va, vc, w3, hrun, hcx.1.1, hcx.2 0, hmr⟩
  have hW1' := Lib.hid hW1
  have hW2' := Lib.hid hW2
  have hW2 : Hid (W1.drew.alloc (.cells #[.int .i64 4, .string (tS u), .int .i64 0, .int .i64 t.line, .int .i64 t.col] 34) = W2) := hW2'.out
  have hz1' := Lib.hid hz1
  clear hW1 hb1 hx1 hb2 hb12 hz1 h
  unfold tkV
  go_enter Tryz.func12, Tryz.ntmps12
  go_upto_region 1 with (fail)
  rw [hW1'.out]
  refine wp_region_inv (fun f a Vr => ∃ x : Nat → Value, a = ⟨#[.pointer (some ⟨mb, 0, none⟩), .string (tS u), .agg #[.int .i64 t.kind, .string (tS t.text), .int .i64 t.num, .int .i64 t.line, .int .i64 t.col], undef, undef, .pointer (some ⟨W.heap.size, 0, none⟩), x 0, x 1, x 2, x 3, x 4, x 5, x 6, x 7, x 8, x 9, x 10, x 11, x 12, x 13, x 14], []⟩ ∧ (f 11 = false → Vr = W1.drew) ∧ (f 11 = true → f 12 = false → Vr = W2) ∧ (f 12 = true → f 15 = false → ∃ va vc, (x 12) = .slice va (ts.length + 1) vc ∧ Vr.cell? ⟨mb, 0, none⟩ = some (.slice oa ts.length oc) ∧ Vr.frozen? ⟨mb, 0, none⟩ = false ∧ MkR base mb W (.slice oa ts.length oc) s (Vr.setCell ⟨mb, 0, none⟩ (.slice va (ts.length + 1) vc)) (.slice va (ts.length + 1) vc) (ts ++ [mkT u t]) s st) ∧ (f 15 = true → ∃ va vc, MkR base mb W (.slice oa ts.length oc) s Vr (.slice va (ts.length + 1) vc) (ts ++ [mkT u t]) s st) ∧ VO [some (.pointer (some ⟨mb, 0, none⟩)), some (.pointer (some ⟨mb, 0, none⟩)), some (.pointer (some ⟨mb, 0, none⟩)), some (.pointer (some ⟨mb, 0, none⟩)), some (.slice oa ts.length oc), some (.string (tS u)), some (.pointer (some ⟨W.heap.size, 3, none⟩)), some (.int .i64 t.line), some (.pointer (some ⟨W.heap.size, 4, none⟩)), some (.int .i64 t.col), some (.agg #[.int .i64 4, .string (tS u), .int .i64 0, .int .i64 t.line, .int .i64 t.col]), some (.slice (some ⟨W1.heap.size, 0, none⟩) 1 1), none, some (.pointer (some ⟨mb, 0, none⟩)), some (.pointer (some ⟨mb, 0, none⟩)), none] f x) (by kernel_rfl) (by kernel_rfl) (rs := [0, 1, 2, 3, 4, 5, 6, 7, 8, 9, 10, 11, 12, 13, 14, 15]) (by kernel_rfl) ?start ?steps ?last
  case start => exact ⟨fun _ => undef, rfl, fun _ => rfl, by simp, by simp, by simp, VO.nil _ _⟩
  case steps =>
    refine (KeepsI.cons (ds := []) rfl (by kernel_rfl) ?s0 (KeepsI.cons (ds := []) rfl (by kernel_rfl) ?s1 (KeepsI.cons (ds := [1]) rfl (by kernel_rfl) ?s2 (KeepsI.cons (ds := [2]) rfl (by kernel_rfl) ?s3 (KeepsI.cons (ds := [3]) rfl (by kernel_rfl) ?s4 (KeepsI.cons (ds := []) rfl (by kernel_rfl) ?s5 (KeepsI.cons (ds := []) rfl (by kernel_rfl) ?s6 (KeepsI.cons (ds := [6]) rfl (by kernel_rfl) ?s7 (KeepsI.cons (ds := []) rfl (by kernel_rfl) ?s8 (KeepsI.cons (ds := [8]) rfl (by kernel_rfl) ?s9 (KeepsI.cons (ds := [5, 7, 9]) rfl (by kernel_rfl) ?s10 (KeepsI.cons (ds := [10]) rfl (by kernel_rfl) ?s11 (KeepsI.cons (ds := [4, 11]) rfl (by kernel_rfl) ?s12 (KeepsI.cons (ds := [0]) rfl (by kernel_rfl) ?s13 (KeepsI.cons (ds := [13]) rfl (by kernel_rfl) ?s14 (KeepsI.cons (ds := [14, 12]) rfl (by kernel_rfl) ?s15 KeepsI.nil))))))))))))))))
    all_goals (intro f a Vr hf hd hcl hI K' hK; obtain ⟨x, rfl, c0, c1, c2, c3, hx⟩ := hI)
    case s0 =>
      go_simp
      exact hK _ _ ⟨(upd x 0 (.pointer (some ⟨mb, 0, none⟩))), rfl, c0, c1, c2, c3, (hx.set 0 rfl)⟩
    case s1 =>
      go_simp
      exact hK _ _ ⟨(upd x 1 (.pointer (some ⟨mb, 0, none⟩))), rfl, c0, c1, c2, c3, (hx.set 1 rfl)⟩
    case s2 =>
      have e1 := hx.get 1 rfl (hd 1 (by simp))
      rw [e1]
      clear e1
      go_simp
      exact hK _ _ ⟨(upd (upd x 1 (.pointer (some ⟨mb, 0, none⟩))) 2 (.pointer (some ⟨mb, 0, none⟩))), rfl, c0, c1, c2, c3, ((hx.put 1 rfl).set 2 rfl)⟩
    case s3 =>
      have e2 := hx.get 2 rfl (hd 2 (by simp))
      rw [e2]
      clear e2
      go_simp
      exact hK _ _ ⟨(upd (upd x 2 (.pointer (some ⟨mb, 0, none⟩))) 3 (.pointer (some ⟨mb, 0, none⟩))), rfl, c0, c1, c2, c3, ((hx.put 2 rfl).set 3 rfl)⟩
    case s4 =>
      have e3 := hx.get 3 rfl (hd 3 (by simp))
      rw [e3]
      clear e3
      have n12 : f 12 = false := by cases h : f 12; rfl; exact absurd (hcl 12 4 (by kernel_rfl) (h)) (by rw [hf]; simp)
      have n15 : f 15 = false := by cases h : f 15; rfl; exact absurd (hcl 12 4 (by kernel_rfl) (hcl 15 12 (by kernel_rfl) (h))) (by rw [hf]; simp)
      have hv : Vr = W1.drew ∨ Vr = W2 := by cases h : f 11; exact .inl (c0 h); exact .inr (c1 h n12)
      obtain ⟨k0, k1, k3, k4, kf⟩ := hst.out Vr hv
      clear hv
      clear n12 n15
      go_simp
      exact hK _ _ ⟨(upd (upd x 3 (.pointer (some ⟨mb, 0, none⟩))) 4 (.slice oa ts.length oc)), rfl, c0, c1, c2, c3, ((hx.put 3 rfl).set 4 rfl)⟩
    case s5 =>
      go_simp
      exact hK _ _ ⟨(upd x 5 (.string (tS u))), rfl, c0, c1, c2, c3, (hx.set 5 rfl)⟩
    case s6 =>
      go_simp
      exact hK _ _ ⟨(upd x 6 (.pointer (some ⟨W.heap.size, 3, none⟩))), rfl, c0, c1, c2, c3, (hx.set 6 rfl)⟩
    case s7 =>
      have e6 := hx.get 6 rfl (hd 6 (by simp))
      rw [e6]
      clear e6
      have n11 : f 11 = false := by cases h : f 11; rfl; exact absurd (hcl 10 7 (by kernel_rfl) (hcl 11 10 (by kernel_rfl) (h))) (by rw [hf]; simp)
      have n12 : f 12 = false := by cases h : f 12; rfl; exact absurd (hcl 10 7 (by kernel_rfl) (hcl 11 10 (by kernel_rfl) (hcl 12 11 (by kernel_rfl) (h)))) (by rw [hf]; simp)
      have n15 : f 15 = false := by cases h : f 15; rfl; exact absurd (hcl 10 7 (by kernel_rfl) (hcl 11 10 (by kernel_rfl) (hcl 12 11 (by kernel_rfl) (hcl 15 12 (by kernel_rfl) (h))))) (by rw [hf]; simp)
      have hv : Vr = W1.drew ∨ Vr = W2 := by cases h : f 11; exact .inl (c0 h); exact .inr (c1 h n12)
      obtain ⟨k0, k1, k3, k4, kf⟩ := hst.out Vr hv
      clear hv
      clear n11 n12 n15
      go_simp
      exact hK _ _ ⟨(upd (upd x 6 (.pointer (some ⟨W.heap.size, 3, none⟩))) 7 (.int .i64 t.line)), rfl, c0, c1, c2, c3, ((hx.put 6 rfl).set 7 rfl)⟩
    case s8 =>
      go_simp
      exact hK _ _ ⟨(upd x 8 (.pointer (some ⟨W.heap.size, 4, none⟩))), rfl, c0, c1, c2, c3, (hx.set 8 rfl)⟩
    case s9 =>
      have e8 := hx.get 8 rfl (hd 8 (by simp))
      rw [e8]
      clear e8
      have n11 : f 11 = false := by cases h : f 11; rfl; exact absurd (hcl 10 9 (by kernel_rfl) (hcl 11 10 (by kernel_rfl) (h))) (by rw [hf]; simp)
      have n12 : f 12 = false := by cases h : f 12; rfl; exact absurd (hcl 10 9 (by kernel_rfl) (hcl 11 10 (by kernel_rfl) (hcl 12 11 (by kernel_rfl) (h)))) (by rw [hf]; simp)
      have n15 : f 15 = false := by cases h : f 15; rfl; exact absurd (hcl 10 9 (by kernel_rfl) (hcl 11 10 (by kernel_rfl) (hcl 12 11 (by kernel_rfl) (hcl 15 12 (by kernel_rfl) (h))))) (by rw [hf]; simp)
      have hv : Vr = W1.drew ∨ Vr = W2 := by cases h : f 11; exact .inl (c0 h); exact .inr (c1 h n12)
      obtain ⟨k0, k1, k3, k4, kf⟩ := hst.out Vr hv
      clear hv
      clear n11 n12 n15
      go_simp
      exact hK _ _ ⟨(upd (upd x 8 (.pointer (some ⟨W.heap.size, 4, none⟩))) 9 (.int .i64 t.col)), rfl, c0, c1, c2, c3, ((hx.put 8 rfl).set 9 rfl)⟩
    case s10 =>
      have e5 := hx.get 5 rfl (hd 5 (by simp))
      have e7 := hx.get 7 rfl (hd 7 (by simp))
      have e9 := hx.get 9 rfl (hd 9 (by simp))
      rw [e5, e7, e9]
      clear e5 e7 e9
      go_simp
      exact hK _ _ ⟨(upd (upd (upd (upd x 5 (.string (tS u))) 7 (.int .i64 t.line)) 9 (.int .i64 t.col)) 10 (.agg #[.int .i64 4, .string (tS u), .int .i64 0, .int .i64 t.line, .int .i64 t.col])), rfl, c0, c1, c2, c3, ((((hx.put 5 rfl).put 7 rfl).put 9 rfl).set 10 rfl)⟩
    case s11 =>
      have e10 := hx.get 10 rfl (hd 10 (by simp))
      rw [e10]
      clear e10
      have n12 : f 12 = false := by cases h : f 12; rfl; exact absurd (hcl 12 11 (by kernel_rfl) (h)) (by rw [hf]; simp)
      have n15 : f 15 = false := by cases h : f 15; rfl; exact absurd (hcl 12 11 (by kernel_rfl) (hcl 15 12 (by kernel_rfl) (h))) (by rw [hf]; simp)
      have e := c0 hf
      subst e
      go_simp
      exact hK _ _ ⟨upd (upd x 10 (.agg #[.int .i64 4, .string (tS u), .int .i64 0, .int .i64 t.line, .int .i64 t.col])) 11 (.slice (some ⟨W1.heap.size, 0, none⟩) 1 1), rfl, fun h => (nomatch h), fun _ _ => rfl, fun h => absurd h (by simp [n12]), fun h => absurd h (by simp [n15]), (hx.put 10 rfl).set 11 rfl⟩
    case s12 =>
      have e4 := hx.get 4 rfl (hd 4 (by simp))
      have e11 := hx.get 11 rfl (hd 11 (by simp))
      rw [e4, e11]
      clear e4 e11
      have n15 : f 15 = false := by cases h : f 15; rfl; exact absurd (hcl 15 12 (by kernel_rfl) (h)) (by rw [hf]; simp)
      have y11 : f 11 = true := hd 11 (by simp)
      have e := c1 y11 hf
      subst e
      obtain ⟨va, vc, w3, hrun, hb0, hf0, hR⟩ := hap.out
      refine wanted_run (by rfl) ?_
      refine wp_append_run (.tmp 10) (.tmp 17) 22 _ _ _ _ _ rfl rfl rfl hrun ?_
      exact hK _ _ ⟨upd (upd (upd x 4 (.slice oa ts.length oc)) 11 (.slice (some ⟨W1.heap.size, 0, none⟩) 1 1)) 12 (.slice va (ts.length + 1) vc), rfl, fun h => absurd h (by simp [y11]), fun _ h => (nomatch h), fun _ _ => ⟨va, vc, rfl, hb0, hf0, hR⟩, fun h => absurd h (by simp [n15]), VO.free ((hx.put 4 rfl).put 11 rfl) 12 rfl _⟩
    case s13 =>
      have e0 := hx.get 0 rfl (hd 0 (by simp))
      rw [e0]
      clear e0
      go_simp
      exact hK _ _ ⟨(upd (upd x 0 (.pointer (some ⟨mb, 0, none⟩))) 13 (.pointer (some ⟨mb, 0, none⟩))), rfl, c0, c1, c2, c3, ((hx.put 0 rfl).set 13 rfl)⟩
    case s14 =>
      have e13 := hx.get 13 rfl (hd 13 (by simp))
      rw [e13]
      clear e13
      go_simp
      exact hK _ _ ⟨(upd (upd x 13 (.pointer (some ⟨mb, 0, none⟩))) 14 (.pointer (some ⟨mb, 0, none⟩))), rfl, c0, c1, c2, c3, ((hx.put 13 rfl).set 14 rfl)⟩
    case s15 =>
      have e14 := hx.get 14 rfl (hd 14 (by simp))
      rw [e14]
      clear e14
      have y11 : f 11 = true := hcl 12 11 (by kernel_rfl) (hd 12 (by simp))
      have y12 : f 12 = true := hd 12 (by simp)
      obtain ⟨va, vc, hx12, hb0, hf0, hR⟩ := c2 y12 hf
      rw [hx12]
      go_simp
      exact hK _ _ ⟨upd (upd x 14 (.pointer (some ⟨mb, 0, none⟩))) 12 (.slice va (ts.length + 1) vc), rfl, fun h => absurd h (by simp [y11]), fun _ h => absurd h (by simp [y12]), fun _ h => (nomatch h), fun _ => ⟨va, vc, hR⟩, VO.done (VO.keep (hx.put 14 rfl) 12 rfl _) 15 rfl⟩
  case last =>
    rintro f a Vr hf ⟨x, rfl, c0, c1, c2, c3, hx⟩
    obtain ⟨va, vc, hR⟩ := c3 (hf 15 (by simp))
    clear c0 c1 c2 c3 hx
    go_wp2_with fail
    go_end0
    exact ⟨rfl, va, vc, hR⟩

set_option maxHeartbeats 4000000 in
set_option maxRecDepth 100000 in
theorem lay_shut {base mb : Nat} {o s : Value} {ts : List Tk} {c : Int} {r : List Int} (W : World) (h : MkS base W mb o ts s (c :: r)) (hl : r.length ≤ 1000000) :
    Calls Tryz.prog 33 #[.pointer (some ⟨mb, 0, none⟩)] W fun e W' => e = .returned (.tuple #[]) ∧ ∃ sa sc, MkR base mb W o s W' o ts (.slice sa r.length sc) r := by
  obtain ⟨oa, oc, sa, sc, rfl, hse, _, hsc⟩ := h.forms
  rw [List.length_cons] at hse hsc
  have hrs : r.length ≤ sc := by omega
  clear hsc
  subst hse
  have hpop : Hid (∃ sa' sc', MkR base mb W (.slice oa ts.length oc) (.slice sa (r.length + 1) sc) (W.drew.setCell ⟨mb, 1, none⟩ (.slice sa r.length sc)) (.slice oa ts.length oc) ts (.slice sa' r.length sc') r) := by
    exact ⟨sa, sc, (h.below (Below.refl _ _).drew).pop rfl |> MkR.ahead (Below.refl _ _).drew⟩
  have hst : Hid (∀ V, V = W.drew → V.cell? ⟨mb, 1, none⟩ = some (.slice sa (r.length + 1) sc) ∧ V.frozen? ⟨mb, 1, none⟩ = false) := by
    rintro V rfl
    obtain ⟨⟨_, c1⟩, cf⟩ := (h.box.below (Below.refl _ _).drew).cells
    exact ⟨c1, cf 1⟩
  clear h
  go_enter Tryz.func33, Tryz.ntmps33
  refine wp_region_inv (fun f a Vr => ∃ x : Nat → Value, a = ⟨#[.pointer (some ⟨mb, 0, none⟩), undef, x 0, x 1, x 2, x 3, x 4, x 5, x 6, x 7, x 8, x 9, x 10, x 11, x 12, x 13], []⟩ ∧ (f 14 = false → Vr = W.drew) ∧ (f 14 = true → Vr = W.drew.setCell ⟨mb, 1, none⟩ (.slice sa r.length sc)) ∧ VO [some (.pointer (some ⟨mb, 0, none⟩)), some (.pointer (some ⟨mb, 0, none⟩)), some (.pointer (some ⟨mb, 0, none⟩)), some (.pointer (some ⟨mb, 1, none⟩)), some (.slice sa (r.length + 1) sc), some (.pointer (some ⟨mb, 0, none⟩)), some (.pointer (some ⟨mb, 0, none⟩)), some (.pointer (some ⟨mb, 1, none⟩)), some (.slice sa (r.length + 1) sc), some (.int .i64 ((r.length : Int) + 1)), some (.int .i64 (r.length : Int)), some (.slice sa r.length sc), some (.pointer (some ⟨mb, 0, none⟩)), some (.pointer (some ⟨mb, 1, none⟩)), none] f x) (by kernel_rfl) (by kernel_rfl) (rs := [0, 1, 2, 3, 4, 5, 6, 7, 8, 9, 10, 11, 12, 13, 14]) (by kernel_rfl) ?start ?steps ?last
  case start => exact ⟨fun _ => undef, rfl, fun _ => rfl, by simp, VO.nil _ _⟩
  case steps =>
    refine (KeepsI.cons (ds := []) rfl (by kernel_rfl) ?s0 (KeepsI.cons (ds := []) rfl (by kernel_rfl) ?s1 (KeepsI.cons (ds := [1]) rfl (by kernel_rfl) ?s2 (KeepsI.cons (ds := [2]) rfl (by kernel_rfl) ?s3 (KeepsI.cons (ds := [3]) rfl (by kernel_rfl) ?s4 (KeepsI.cons (ds := []) rfl (by kernel_rfl) ?s5 (KeepsI.cons (ds := [5]) rfl (by kernel_rfl) ?s6 (KeepsI.cons (ds := [6]) rfl (by kernel_rfl) ?s7 (KeepsI.cons (ds := [7]) rfl (by kernel_rfl) ?s8 (KeepsI.cons (ds := [8]) rfl (by kernel_rfl) ?s9 (KeepsI.cons (ds := [9]) rfl (by kernel_rfl) ?s10 (KeepsI.cons (ds := [4, 10]) rfl (by kernel_rfl) ?s11 (KeepsI.cons (ds := [0]) rfl (by kernel_rfl) ?s12 (KeepsI.cons (ds := [12]) rfl (by kernel_rfl) ?s13 (KeepsI.cons (ds := [13, 11]) rfl (by kernel_rfl) ?s14 KeepsI.nil)))))))))))))))
    all_goals (intro f a Vr hf hd hcl hI K' hK; obtain ⟨x, rfl, c0, c1, hx⟩ := hI)
    case s0 =>
      go_simp
      exact hK _ _ ⟨(upd x 0 (.pointer (some ⟨mb, 0, none⟩))), rfl, c0, c1, (hx.set 0 rfl)⟩
    case s1 =>
      go_simp
      exact hK _ _ ⟨(upd x 1 (.pointer (some ⟨mb, 0, none⟩))), rfl, c0, c1, (hx.set 1 rfl)⟩
    case s2 =>
      have e1 := hx.get 1 rfl (hd 1 (by simp))
      rw [e1]
      clear e1
      go_simp
      exact hK _ _ ⟨(upd (upd x 1 (.pointer (some ⟨mb, 0, none⟩))) 2 (.pointer (some ⟨mb, 0, none⟩))), rfl, c0, c1, ((hx.put 1 rfl).set 2 rfl)⟩
    case s3 =>
      have e2 := hx.get 2 rfl (hd 2 (by simp))
      rw [e2]
      clear e2
      go_simp
      exact hK _ _ ⟨(upd (upd x 2 (.pointer (some ⟨mb, 0, none⟩))) 3 (.pointer (some ⟨mb, 1, none⟩))), rfl, c0, c1, ((hx.put 2 rfl).set 3 rfl)⟩
    case s4 =>
      have e3 := hx.get 3 rfl (hd 3 (by simp))
      rw [e3]
      clear e3
      have n14 : f 14 = false := by cases h : f 14; rfl; exact absurd (hcl 11 4 (by kernel_rfl) (hcl 14 11 (by kernel_rfl) (h))) (by rw [hf]; simp)
      have hv := c0 n14
      obtain ⟨k1, kf⟩ := hst.out Vr hv
      clear hv
      clear n14
      go_simp
      exact hK _ _ ⟨(upd (upd x 3 (.pointer (some ⟨mb, 1, none⟩))) 4 (.slice sa (r.length + 1) sc)), rfl, c0, c1, ((hx.put 3 rfl).set 4 rfl)⟩
    case s5 =>
      go_simp
      exact hK _ _ ⟨(upd x 5 (.pointer (some ⟨mb, 0, none⟩))), rfl, c0, c1, (hx.set 5 rfl)⟩
    case s6 =>
      have e5 := hx.get 5 rfl (hd 5 (by simp))
      rw [e5]
      clear e5
      go_simp
      exact hK _ _ ⟨(upd (upd x 5 (.pointer (some ⟨mb, 0, none⟩))) 6 (.pointer (some ⟨mb, 0, none⟩))), rfl, c0, c1, ((hx.put 5 rfl).set 6 rfl)⟩
    case s7 =>
      have e6 := hx.get 6 rfl (hd 6 (by simp))
      rw [e6]
      clear e6
      go_simp
      exact hK _ _ ⟨(upd (upd x 6 (.pointer (some ⟨mb, 0, none⟩))) 7 (.pointer (some ⟨mb, 1, none⟩))), rfl, c0, c1, ((hx.put 6 rfl).set 7 rfl)⟩
    case s8 =>
      have e7 := hx.get 7 rfl (hd 7 (by simp))
      rw [e7]
      clear e7
      have n14 : f 14 = false := by cases h : f 14; rfl; exact absurd (hcl 9 8 (by kernel_rfl) (hcl 10 9 (by kernel_rfl) (hcl 11 10 (by kernel_rfl) (hcl 14 11 (by kernel_rfl) (h))))) (by rw [hf]; simp)
      have hv := c0 n14
      obtain ⟨k1, kf⟩ := hst.out Vr hv
      clear hv
      clear n14
      go_simp
      exact hK _ _ ⟨(upd (upd x 7 (.pointer (some ⟨mb, 1, none⟩))) 8 (.slice sa (r.length + 1) sc)), rfl, c0, c1, ((hx.put 7 rfl).set 8 rfl)⟩
    case s9 =>
      have e8 := hx.get 8 rfl (hd 8 (by simp))
      rw [e8]
      clear e8
      go_simp
      exact hK _ _ ⟨(upd (upd x 8 (.slice sa (r.length + 1) sc)) 9 (.int .i64 ((r.length : Int) + 1))), rfl, c0, c1, ((hx.put 8 rfl).set 9 rfl)⟩
    case s10 =>
      have e9 := hx.get 9 rfl (hd 9 (by simp))
      rw [e9]
      clear e9
      have hw : IntKind.i64.wrap (r.length : Int) = (r.length : Int) := IntWalk.i64_in _ (by omega)
      go_simp
      exact hK _ _ ⟨(upd (upd x 9 (.int .i64 ((r.length : Int) + 1))) 10 (.int .i64 (r.length : Int))), rfl, c0, c1, ((hx.put 9 rfl).set 10 rfl)⟩
    case s11 =>
      have e4 := hx.get 4 rfl (hd 4 (by simp))
      have e10 := hx.get 10 rfl (hd 10 (by simp))
      rw [e4, e10]
      clear e4 e10
      go_simp
      exact hK _ _ ⟨(upd (upd (upd x 4 (.slice sa (r.length + 1) sc)) 10 (.int .i64 (r.length : Int))) 11 (.slice sa r.length sc)), rfl, c0, c1, (((hx.put 4 rfl).put 10 rfl).set 11 rfl)⟩
    case s12 =>
      have e0 := hx.get 0 rfl (hd 0 (by simp))
      rw [e0]
      clear e0
      go_simp
      exact hK _ _ ⟨(upd (upd x 0 (.pointer (some ⟨mb, 0, none⟩))) 12 (.pointer (some ⟨mb, 0, none⟩))), rfl, c0, c1, ((hx.put 0 rfl).set 12 rfl)⟩
    case s13 =>
      have e12 := hx.get 12 rfl (hd 12 (by simp))
      rw [e12]
      clear e12
      go_simp
      exact hK _ _ ⟨(upd (upd x 12 (.pointer (some ⟨mb, 0, none⟩))) 13 (.pointer (some ⟨mb, 1, none⟩))), rfl, c0, c1, ((hx.put 12 rfl).set 13 rfl)⟩
    case s14 =>
      have e13 := hx.get 13 rfl (hd 13 (by simp))
      have e11 := hx.get 11 rfl (hd 11 (by simp))
      rw [e13, e11]
      clear e13 e11
      have hv := Lib.hid (c0 hf)
      obtain ⟨k1, kf⟩ := hst.out Vr hv.out
      clear c0
      go_simp
      exact hK _ _ ⟨(upd (upd x 13 (.pointer (some ⟨mb, 1, none⟩))) 11 (.slice sa r.length sc)), rfl, fun h => (nomatch h), fun _ => by rw [hv.out], VO.done ((hx.put 13 rfl).put 11 rfl) 14 rfl⟩
  case last =>
    rintro f a Vr hf ⟨x, rfl, c0, c1, hx⟩
    have e := c1 (hf 14 (by simp))
    clear c0 c1 hx
    subst e
    go_wp2_with fail
    go_end0
    exact ⟨rfl, hpop.out⟩
end Go.Proofs.YtchdfjihflmloaaGreatDoor
