/- The calls whose answers are fixed: all are so. -/
import Derived.Test.YticjpeefhppjoaaDoorTyUn
import Derived.Test.YticjpeefhppjoaaDoorTyX
import Derived.Test.YticjpeefhppjoaaDoorTyV
import Derived.Test.YticjpeefhppjoaaDoorTyS
import Derived.Test.YticjpeefhppjoaaDoorTyL
namespace Go.Proofs.YticjpeefhppjoaaDoor
open Go.RowKit

def sT : Str := ⟨#[84]⟩
def sArr : Str := ⟨#[45, 62]⟩
def kT : Ty := .mk ⟨#[84]⟩ 0 [holeT 0]
def kkT : Ty := .mk ⟨#[84]⟩ 0 [holeT 1]
def fT : Ty := .mk ⟨#[45, 62]⟩ 0 [kT, holeT 1]

theorem uni_hk : UniP 1 (holeT 1) kT (some [⟨1, kT⟩]) := by
  refine .inr ⟨by kernel_rfl, .inr ⟨[⟨1, kT⟩], [1], by kernel_rfl, by simp, by simp, fun n hn => by simp at hn; subst hn; exact ⟨by omega, by omega⟩, fun n _ => ?_, by kernel_rfl⟩⟩
  simp only [List.mem_singleton, fa?]
  by_cases h : n = 1
  · subst h; simp
  · rw [if_neg (fun e => h e.symm)]; simp [h]
theorem uni_hkk : UniP 1 (holeT 1) kkT none := .inr ⟨by kernel_rfl, .inl ⟨⟨[], by kernel_rfl, by simp⟩, rfl⟩⟩
theorem chk_k : chkT kT = true := by kernel_rfl
theorem chk_not : chkT (holeT (-1)) = false := by kernel_rfl
theorem text_f : (if chkT fT = true then mkS (textT fT) else ⟨#[]⟩) = (⟨#[40, 84, 32, 97, 41, 32, 45, 62, 32, 98]⟩ : Str) := by kernel_rfl
theorem holes_f : holesC fT = [0, 1] := by kernel_rfl
theorem canon_7 : canonT (holeT 7) = zeroT := by kernel_rfl
theorem apply_hk : applyT [⟨1, kT⟩] (holeT 1) = kT := by kernel_rfl

theorem row1 {w : World} {b : Nat} {v0 v1 v2 : Value} {e : Ty} (h0 : w.cell? ⟨b, 0, none⟩ = some v0) (h1 : w.cell? ⟨b, 1, none⟩ = some v1) (h2 : w.cell? ⟨b, 2, none⟩ = some v2) (he : IsTy w (.agg #[v0, v1, v2]) e) : TyRow (fun _ => False) w (some ⟨b, 0, none⟩) [e] := by
  refine .inr ⟨b, 0, rfl, fun h => h, fun i hi => ?_⟩
  have : i = 0 := by simp at hi; omega
  subst this
  exact ⟨v0, v1, v2, h0, h1, h2, he⟩
theorem row2 {w : World} {b : Nat} {v0 v1 v2 u0 u1 u2 : Value} {e f : Ty} (h0 : w.cell? ⟨b, 0, none⟩ = some v0) (h1 : w.cell? ⟨b, 1, none⟩ = some v1) (h2 : w.cell? ⟨b, 2, none⟩ = some v2) (h3 : w.cell? ⟨b, 3, none⟩ = some u0) (h4 : w.cell? ⟨b, 4, none⟩ = some u1) (h5 : w.cell? ⟨b, 5, none⟩ = some u2) (he : IsTy w (.agg #[v0, v1, v2]) e) (hf : IsTy w (.agg #[u0, u1, u2]) f) : TyRow (fun _ => False) w (some ⟨b, 0, none⟩) [e, f] := by
  refine .inr ⟨b, 0, rfl, fun h => h, fun i hi => ?_⟩
  match i, hi with
  | 0, _ => exact ⟨v0, v1, v2, h0, h1, h2, he⟩
  | 1, _ => exact ⟨u0, u1, u2, h3, h4, h5, hf⟩
theorem ty1_is {w : World} {b : Nat} {s : Str} {e : Ty} (hs : s.size ≤ lenMax) (h : TyRow (fun _ => False) w (some ⟨b, 0, none⟩) [e]) : IsTy w (.agg #[.string s, .int .i64 0, .slice (some ⟨b, 0, none⟩) 1 1]) (.mk s 0 [e]) := TyX.shut (l := [e]) (fun h => by cases h) ⟨by omega, by omega⟩ hs (show 1 ≤ lenMax by unfold lenMax; omega) h
theorem ty2_is {w : World} {b : Nat} {s : Str} {e f : Ty} (hs : s.size ≤ lenMax) (h : TyRow (fun _ => False) w (some ⟨b, 0, none⟩) [e, f]) : IsTy w (.agg #[.string s, .int .i64 0, .slice (some ⟨b, 0, none⟩) 2 2]) (.mk s 0 [e, f]) := TyX.shut (l := [e, f]) (fun h => by cases h) ⟨by omega, by omega⟩ hs (show 2 ≤ lenMax by unfold lenMax; omega) h
theorem sz1 : ByteArray.size (⟨#[84]⟩ : Str) ≤ lenMax := show 1 ≤ lenMax by unfold lenMax; omega
theorem sz2 : ByteArray.size (⟨#[45, 62]⟩ : Str) ≤ lenMax := show 2 ≤ lenMax by unfold lenMax; omega
theorem FaSl.one {w : World} {v : Value} {f : Fa} (h : FaSl w v [f]) : ∃ b off c a1 c1, v = .slice (some ⟨b, off, none⟩) 1 c ∧ w.cell? ⟨b, off, none⟩ = some (.int .i64 f.n) ∧ w.cell? ⟨b, off + 1, none⟩ = some (.string f.ty.name) ∧ w.cell? ⟨b, off + 2, none⟩ = some (.int .i64 f.ty.n) ∧ w.cell? ⟨b, off + 3, none⟩ = some (.slice a1 f.ty.args.length c1) ∧ IsTy w (.agg #[.string f.ty.name, .int .i64 f.ty.n, .slice a1 f.ty.args.length c1]) f.ty := by
  obtain ⟨a, c, rfl, hc, h⟩ := h
  rcases h with h | ⟨b, off, rfl, _, h⟩
  · cases h
  · obtain ⟨v0, v1, v2, v3, g0, g1, g2, g3, x1, x2, x3, he, hn, hx⟩ := h 0 (by simp)
    simp only [Value.agg.injEq, Array.mk.injEq, List.cons.injEq, and_true] at he
    obtain ⟨rfl, rfl, rfl, rfl⟩ := he
    obtain ⟨a1, c1, he⟩ := hx.form
    simp only [Value.agg.injEq, Array.mk.injEq, List.cons.injEq, and_true] at he
    obtain ⟨rfl, rfl, rfl⟩ := he
    exact ⟨b, off, c, a1, c1, rfl, by simpa using g0, by simpa using g1, by simpa using g2, by simpa using g3, by simpa using hx⟩
theorem r04_Texts_nil (w : World) : Calls Tryd.prog 28 #[.slice none 0 0, .slice none 0 0] w fun r w' => r = .returned (.bool true) ∧ Below w.heap.size w w' := by
  go_enter Tryd.func28, Tryd.ntmps28
  go_wp2_with fail
  go_loopw [5] (fun i wr => i = .int .i64 0 ∧ Below w.heap.size w wr) (fun _ _ => 0)
  case atStart => exact ⟨rfl, Below.refl _ _⟩
  case round =>
    obtain ⟨rfl, hB⟩ := hrel
    go_wp2_with fail
    go_ret
    exact ⟨ret_bool rfl, hB⟩

set_option maxHeartbeats 4000000 in
set_option maxRecDepth 100000 in
theorem law_awake (w : World) (ht : Tab w) : Calls Tryd.prog 11 #[] w fun r w' => r = .returned (.bool true) ∧ Below w.heap.size w w' := by
  have ht' := Lib.hid ht
  obtain ⟨A, hA⟩ : ∃ W, (((w.alloc (.cells #[.string ⟨#[]⟩, .int .i64 1, .slice none 0 0] 24)).alloc (.cells #[.string ⟨#[]⟩, .int .i64 0, .slice none 0 0] 24)).alloc (.cells #[.string ⟨#[84]⟩, .int .i64 0, .slice (some ⟨w.heap.size + 1, 0, none⟩) 1 1] 24)) = W := ⟨_, rfl⟩
  have hA' := Lib.hid hA
  clear hA ht
  go_enter Tryd.func11, Tryd.ntmps11
  go_upto_region 3 with (fail)
  have hbA : Below w.heap.size w A := by rw [← hA'.out]; exact (((Below.refl _ w).alloc (Nat.le_refl _) _).alloc (by simp) _).alloc (by simp <;> omega) _
  have hzA : A.heap.size = w.heap.size + 3 := by rw [← hA'.out]; simp
  have hzA' : w.heap.size + 3 ≤ A.heap.size := by omega
  have x1 : BoxT A w.heap.size (.string ⟨#[]⟩) (.int .i64 1) (.slice none 0 0) := by rw [← hA'.out]; exact new_block ((((Below.refl _ _).alloc (by simp) _).alloc (by simp <;> omega) _))
  have x2 : BoxT A (w.heap.size + 1) (.string ⟨#[]⟩) (.int .i64 0) (.slice none 0 0) := by rw [← hA'.out]; exact new_block2 (((Below.refl _ _).alloc (by simp <;> omega) _))
  have x3 : BoxT A (w.heap.size + 1 + 1) (.string ⟨#[84]⟩) (.int .i64 0) (.slice (some ⟨w.heap.size + 1, 0, none⟩) 1 1) := by
    rw [← hA'.out]
    have := new_block (w := ((w.alloc (.cells #[.string ⟨#[]⟩, .int .i64 1, .slice none 0 0] 24)).alloc (.cells #[.string ⟨#[]⟩, .int .i64 0, .slice none 0 0] 24))) (vs := #[.string ⟨#[84]⟩, .int .i64 0, .slice (some ⟨w.heap.size + 1, 0, none⟩) 1 1]) (t := 24) (Below.refl _ _)
    simp only [World.size_alloc] at this
    exact this
  have hS : Hid (∀ V, Below A.heap.size A V → (V.cell? ⟨w.heap.size, 0, none⟩ = some (.string ⟨#[]⟩) ∧ V.cell? ⟨w.heap.size, 1, none⟩ = some (.int .i64 1) ∧ V.cell? ⟨w.heap.size, 2, none⟩ = some (.slice none 0 0)) ∧ (V.cell? ⟨w.heap.size + 1 + 1, 0, none⟩ = some (.string ⟨#[84]⟩) ∧ V.cell? ⟨w.heap.size + 1 + 1, 1, none⟩ = some (.int .i64 0) ∧ V.cell? ⟨w.heap.size + 1 + 1, 2, none⟩ = some (.slice (some ⟨w.heap.size + 1, 0, none⟩) 1 1)) ∧ IsTy V (.agg #[.string ⟨#[]⟩, .int .i64 1, .slice none 0 0]) (holeT 1) ∧ IsTy V (.agg #[.string ⟨#[84]⟩, .int .i64 0, .slice (some ⟨w.heap.size + 1, 0, none⟩) 1 1]) kT) := by
    intro V hV
    have y2 := x2.below hV x2.lt
    exact ⟨(x1.below hV x1.lt).cells, (x3.below hV x3.lt).cells, hole_is V ⟨by omega, by omega⟩, ty1_is sz1 (row1 y2.cells.1 y2.cells.2.1 y2.cells.2.2 (hole_is V ⟨by omega, by omega⟩))⟩
  have htA := Lib.hid (ht'.out.below hbA)
  have hbA' := Lib.hid hbA
  rw [hA'.out]
  clear x1 x2 x3 hbA hzA hA'
  obtain ⟨⟨q0, q1, q2⟩, ⟨q3, q4, q5⟩, hh, hk⟩ := hS.out A (Below.refl _ _)
  have hu := Lib.hid (ty_Unify 1 (holeT 1) kT _ _ A _ uni_hk hh hk)
  clear hh hk
  go_wp2_with fail
  refine hu.out.mono ?_
  rintro e V ⟨⟨v, rfl, hv⟩, hV⟩
  obtain ⟨lb, lo, lc, a1, c1, rfl, l0, l1, l2, l3, hlt⟩ := hv.one
  simp only [Option.isSome_some, if_true]
  have hvV := Lib.hid hv
  have hVl : Hid (∀ U, Below V.heap.size V U → (U.cell? ⟨lb, lo, none⟩ = some (.int .i64 1) ∧ U.cell? ⟨lb, lo + 1, none⟩ = some (.string ⟨#[84]⟩) ∧ U.cell? ⟨lb, lo + 2, none⟩ = some (.int .i64 0) ∧ U.cell? ⟨lb, lo + 3, none⟩ = some (.slice a1 1 c1)) ∧ IsTy U (.agg #[.string ⟨#[84]⟩, .int .i64 0, .slice a1 1 c1]) kT) := fun U hU => ⟨⟨Keeps.of_below hU _ _ l0, Keeps.of_below hU _ _ l1, Keeps.of_below hU _ _ l2, Keeps.of_below hU _ _ l3⟩, TyX.below hlt hU⟩
  have hV' := Lib.hid hV
  have hzV := hV.size
  clear q0 q1 q2 q3 q4 q5 l0 l1 l2 l3 hv hu hlt
  obtain ⟨⟨q0, q1, q2⟩, ⟨q3, q4, q5⟩, hh, hk⟩ := hS.out V hV
  have hbV : Below V.heap.size V (V.alloc (.cells #[.string ⟨#[]⟩, .int .i64 1, .slice none 0 0] 24)) := (Below.refl _ _).alloc (Nat.le_refl _) _
  have x4 : BoxT (V.alloc (.cells #[.string ⟨#[]⟩, .int .i64 1, .slice none 0 0] 24)) V.heap.size (.string ⟨#[]⟩) (.int .i64 1) (.slice none 0 0) := new_block (Below.refl _ _)
  have hkk : IsTy (V.alloc (.cells #[.string ⟨#[]⟩, .int .i64 1, .slice none 0 0] 24)) (.agg #[.string ⟨#[84]⟩, .int .i64 0, .slice (some ⟨V.heap.size, 0, none⟩) 1 1]) kkT := ty1_is sz1 (row1 x4.cells.1 x4.cells.2.1 x4.cells.2.2 (hole_is _ ⟨by omega, by omega⟩))
  have hu := Lib.hid (ty_Unify 1 (holeT 1) kkT _ _ (V.alloc (.cells #[.string ⟨#[]⟩, .int .i64 1, .slice none 0 0] 24)) _ uni_hkk (TyX.below hh hbV) hkk)
  have hbV' := Lib.hid hbV
  clear hh hk hbV x4 hkk
  go_wp2_with fail
  refine hu.out.mono ?_
  rintro e V2 ⟨⟨v2, rfl, hv2⟩, hV2⟩
  have hVV2 := Lib.hid (hbV'.out.trans (hV2.mono (by simp)))
  have hAV2 := Lib.hid (hV.trans (hVV2.out.mono hzV))
  have hzV2 := hVV2.out.size
  simp only [Option.isSome_none, Bool.false_eq_true, if_false]
  clear q0 q1 q2 q3 q4 q5 hu hv2 hV2 hV
  obtain ⟨⟨q0, q1, q2⟩, ⟨q3, q4, q5⟩, hh, hk⟩ := hS.out V2 hAV2.out
  clear hh hk
  go_upto_region 8 with (fail)
  obtain ⟨D, hD⟩ : ∃ W, (V2.alloc (.cells #[.string ⟨#[84]⟩, .int .i64 0, .slice (some ⟨w.heap.size + 1, 0, none⟩) 1 1, .string ⟨#[]⟩, .int .i64 1, .slice none 0 0] 24)).alloc (.cells #[.string ⟨#[45, 62]⟩, .int .i64 0, .slice (some ⟨V2.heap.size, 0, none⟩) 2 2] 24) = W := ⟨_, rfl⟩
  have hbD : Below V2.heap.size V2 D := by rw [← hD]; exact ((Below.refl _ _).alloc (Nat.le_refl _) _).alloc (by simp) _
  have hzD : D.heap.size = V2.heap.size + 2 := by rw [← hD]; simp
  have hzD' : V2.heap.size + 2 ≤ D.heap.size := by omega
  have y1 : D.heap[V2.heap.size]? = some (.cells #[.string ⟨#[84]⟩, .int .i64 0, .slice (some ⟨w.heap.size + 1, 0, none⟩) 1 1, .string ⟨#[]⟩, .int .i64 1, .slice none 0 0] 24 (0, 0)) := by rw [← hD]; exact new_block ((Below.refl _ _).alloc (by simp) _)
  have y2 : BoxT D (V2.heap.size + 1) (.string ⟨#[45, 62]⟩) (.int .i64 0) (.slice (some ⟨V2.heap.size, 0, none⟩) 2 2) := by rw [← hD]; exact new_block2 (Below.refl _ _)
  rw [hD]
  have hAD := Lib.hid (hAV2.out.trans (hbD.mono (by have := hAV2.out.size; omega)))
  have hVD := Lib.hid (hVV2.out.trans (hbD.mono hVV2.out.size))
  have hS2 : Hid (∀ V, Below D.heap.size D V → (V.cell? ⟨w.heap.size, 0, none⟩ = some (.string ⟨#[]⟩) ∧ V.cell? ⟨w.heap.size, 1, none⟩ = some (.int .i64 1) ∧ V.cell? ⟨w.heap.size, 2, none⟩ = some (.slice none 0 0)) ∧ (V.cell? ⟨w.heap.size + 1 + 1, 0, none⟩ = some (.string ⟨#[84]⟩) ∧ V.cell? ⟨w.heap.size + 1 + 1, 1, none⟩ = some (.int .i64 0) ∧ V.cell? ⟨w.heap.size + 1 + 1, 2, none⟩ = some (.slice (some ⟨w.heap.size + 1, 0, none⟩) 1 1)) ∧ (V.cell? ⟨V2.heap.size + 1, 0, none⟩ = some (.string ⟨#[45, 62]⟩) ∧ V.cell? ⟨V2.heap.size + 1, 1, none⟩ = some (.int .i64 0) ∧ V.cell? ⟨V2.heap.size + 1, 2, none⟩ = some (.slice (some ⟨V2.heap.size, 0, none⟩) 2 2)) ∧ (V.cell? ⟨lb, lo, none⟩ = some (.int .i64 1) ∧ V.cell? ⟨lb, lo + 1, none⟩ = some (.string ⟨#[84]⟩) ∧ V.cell? ⟨lb, lo + 2, none⟩ = some (.int .i64 0) ∧ V.cell? ⟨lb, lo + 3, none⟩ = some (.slice a1 1 c1)) ∧ IsTy V (.agg #[.string ⟨#[]⟩, .int .i64 1, .slice none 0 0]) (holeT 1) ∧ IsTy V (.agg #[.string ⟨#[84]⟩, .int .i64 0, .slice (some ⟨w.heap.size + 1, 0, none⟩) 1 1]) kT ∧ IsTy V (.agg #[.string ⟨#[45, 62]⟩, .int .i64 0, .slice (some ⟨V2.heap.size, 0, none⟩) 2 2]) fT ∧ IsTy V (.agg #[.string ⟨#[84]⟩, .int .i64 0, .slice a1 1 c1]) kT ∧ FaSl V (.slice (some ⟨lb, lo, none⟩) 1 lc) [⟨1, kT⟩] ∧ Tab V ∧ Below w.heap.size w V) := by
    intro U hU
    have hAU := hAD.out.trans (hU.mono hAD.out.size)
    have hVU := hVD.out.trans (hU.mono hVD.out.size)
    obtain ⟨e1, e2, e3, e4⟩ := hS.out U hAU
    have z1 := (hU.block V2.heap.size (by omega)).trans y1
    have z2 := y2.below hU y2.lt
    obtain ⟨fa, fc, fe, f1, f2⟩ := hvV.out
    have hv' : FaSl U (.slice (some ⟨lb, lo, none⟩) 1 lc) [⟨1, kT⟩] := ⟨fa, fc, fe, f1, f2.keeps (Keeps.of_below hVU)⟩
    obtain ⟨b', o', c', a1', c1', he', g0, g1, g2, g3, gt⟩ := hv'.one
    have hq : ∀ j, U.cell? ⟨V2.heap.size, j, none⟩ = (#[.string ⟨#[84]⟩, .int .i64 0, .slice (some ⟨w.heap.size + 1, 0, none⟩) 1 1, .string ⟨#[]⟩, .int .i64 1, .slice none 0 0] : Array Value)[j]? := fun j => by simp [World.cell?, z1]
    have hl := hVl.out U hVU
    exact ⟨e1, e2, z2.cells, hl.1, e3, e4, ty2_is sz2 (row2 (hq 0) (hq 1) (hq 2) (hq 3) (hq 4) (hq 5) e4 e3), hl.2, hv', htA.out.below hAU, hbA'.out.trans (hAU.mono (by omega))⟩
  clear q0 q1 q2 q3 q4 q5 y1 y2 hD hbD
  obtain ⟨⟨q0, q1, q2⟩, ⟨q3, q4, q5⟩, ⟨q6, q7, q8⟩, ⟨l0, l1, l2, l3⟩, hh, hk, hf, hl, hfl, htD, hwD⟩ := hS2.out D (Below.refl _ _)
  have hu := Lib.hid (ty_Holes fT _ D hf)
  clear hh hk hf hl hfl htD hwD
  go_wp2_with fail
  refine hu.out.mono ?_
  rintro e U1 ⟨⟨z, rfl, hz⟩, hB1⟩
  rw [holes_f] at hz
  obtain ⟨zb, zo, zc, rfl, hzc⟩ : ∃ b off c, z = .slice (some ⟨b, off, none⟩) 2 c ∧ U1.cell? ⟨b, off + 1, none⟩ = some (.int .i64 1) := by
    rcases hz with ⟨h, _⟩ | ⟨_, b, off, c, h, hc⟩
    · cases h
    · exact ⟨b, off, c, h, hc 1 (by simp)⟩
  have hzc' := Lib.hid hzc
  have hB1' := Lib.hid hB1
  have hSS : Hid (∀ V, Below U1.heap.size U1 V → (Below U1.heap.size U1 V ∧ V.cell? ⟨w.heap.size, 0, none⟩ = some (.string ⟨#[]⟩) ∧ V.cell? ⟨w.heap.size, 1, none⟩ = some (.int .i64 1) ∧ V.cell? ⟨w.heap.size, 2, none⟩ = some (.slice none 0 0) ∧ V.cell? ⟨w.heap.size + 1 + 1, 0, none⟩ = some (.string ⟨#[84]⟩) ∧ V.cell? ⟨w.heap.size + 1 + 1, 1, none⟩ = some (.int .i64 0) ∧ V.cell? ⟨w.heap.size + 1 + 1, 2, none⟩ = some (.slice (some ⟨w.heap.size + 1, 0, none⟩) 1 1) ∧ V.cell? ⟨V2.heap.size + 1, 0, none⟩ = some (.string ⟨#[45, 62]⟩) ∧ V.cell? ⟨V2.heap.size + 1, 1, none⟩ = some (.int .i64 0) ∧ V.cell? ⟨V2.heap.size + 1, 2, none⟩ = some (.slice (some ⟨V2.heap.size, 0, none⟩) 2 2) ∧ V.cell? ⟨lb, lo, none⟩ = some (.int .i64 1) ∧ V.cell? ⟨lb, lo + 1, none⟩ = some (.string ⟨#[84]⟩) ∧ V.cell? ⟨lb, lo + 2, none⟩ = some (.int .i64 0) ∧ V.cell? ⟨lb, lo + 3, none⟩ = some (.slice a1 1 c1) ∧ V.cell? ⟨zb, zo + 1, none⟩ = some (.int .i64 1))) := by
    intro V hV
    obtain ⟨⟨q0, q1, q2⟩, ⟨q3, q4, q5⟩, ⟨q6, q7, q8⟩, ⟨l0, l1, l2, l3⟩, _⟩ := hS2.out V (hB1'.out.trans (hV.mono hB1'.out.size))
    exact ⟨hV, q0, q1, q2, q3, q4, q5, q6, q7, q8, l0, l1, l2, l3, Keeps.of_below hV _ _ hzc'.out⟩
  have hSm : Hid (∀ (V : World), (Below U1.heap.size U1 V ∧ V.cell? ⟨w.heap.size, 0, none⟩ = some (.string ⟨#[]⟩) ∧ V.cell? ⟨w.heap.size, 1, none⟩ = some (.int .i64 1) ∧ V.cell? ⟨w.heap.size, 2, none⟩ = some (.slice none 0 0) ∧ V.cell? ⟨w.heap.size + 1 + 1, 0, none⟩ = some (.string ⟨#[84]⟩) ∧ V.cell? ⟨w.heap.size + 1 + 1, 1, none⟩ = some (.int .i64 0) ∧ V.cell? ⟨w.heap.size + 1 + 1, 2, none⟩ = some (.slice (some ⟨w.heap.size + 1, 0, none⟩) 1 1) ∧ V.cell? ⟨V2.heap.size + 1, 0, none⟩ = some (.string ⟨#[45, 62]⟩) ∧ V.cell? ⟨V2.heap.size + 1, 1, none⟩ = some (.int .i64 0) ∧ V.cell? ⟨V2.heap.size + 1, 2, none⟩ = some (.slice (some ⟨V2.heap.size, 0, none⟩) 2 2) ∧ V.cell? ⟨lb, lo, none⟩ = some (.int .i64 1) ∧ V.cell? ⟨lb, lo + 1, none⟩ = some (.string ⟨#[84]⟩) ∧ V.cell? ⟨lb, lo + 2, none⟩ = some (.int .i64 0) ∧ V.cell? ⟨lb, lo + 3, none⟩ = some (.slice a1 1 c1) ∧ V.cell? ⟨zb, zo + 1, none⟩ = some (.int .i64 1)) →  Calls Tryd.prog 17 #[.agg #[.string ⟨#[84]⟩, .int .i64 0, .slice a1 1 c1], .agg #[.string ⟨#[84]⟩, .int .i64 0, .slice (some ⟨w.heap.size + 1, 0, none⟩) 1 1]] V fun r V' => r = .returned (.bool true) ∧ (Below U1.heap.size U1 V' ∧ V'.cell? ⟨w.heap.size, 0, none⟩ = some (.string ⟨#[]⟩) ∧ V'.cell? ⟨w.heap.size, 1, none⟩ = some (.int .i64 1) ∧ V'.cell? ⟨w.heap.size, 2, none⟩ = some (.slice none 0 0) ∧ V'.cell? ⟨w.heap.size + 1 + 1, 0, none⟩ = some (.string ⟨#[84]⟩) ∧ V'.cell? ⟨w.heap.size + 1 + 1, 1, none⟩ = some (.int .i64 0) ∧ V'.cell? ⟨w.heap.size + 1 + 1, 2, none⟩ = some (.slice (some ⟨w.heap.size + 1, 0, none⟩) 1 1) ∧ V'.cell? ⟨V2.heap.size + 1, 0, none⟩ = some (.string ⟨#[45, 62]⟩) ∧ V'.cell? ⟨V2.heap.size + 1, 1, none⟩ = some (.int .i64 0) ∧ V'.cell? ⟨V2.heap.size + 1, 2, none⟩ = some (.slice (some ⟨V2.heap.size, 0, none⟩) 2 2) ∧ V'.cell? ⟨lb, lo, none⟩ = some (.int .i64 1) ∧ V'.cell? ⟨lb, lo + 1, none⟩ = some (.string ⟨#[84]⟩) ∧ V'.cell? ⟨lb, lo + 2, none⟩ = some (.int .i64 0) ∧ V'.cell? ⟨lb, lo + 3, none⟩ = some (.slice a1 1 c1) ∧ V'.cell? ⟨zb, zo + 1, none⟩ = some (.int .i64 1))) := by
    intro V hV
    obtain ⟨hh, hk, hf, hl, hfl, htD, hwD⟩ := (hS2.out V (hB1'.out.trans (hV.1.mono hB1'.out.size))).2.2.2.2
    refine (r08_Same kT kT _ _ V hl hk).mono ?_
    rintro r V' ⟨hr, hB⟩
    rw [eqB_true rfl] at hr
    exact ⟨hr, hSS.out _ (hV.1.trans (hB.mono hV.1.size))⟩
  have hCk : Hid (∀ (V : World), (Below U1.heap.size U1 V ∧ V.cell? ⟨w.heap.size, 0, none⟩ = some (.string ⟨#[]⟩) ∧ V.cell? ⟨w.heap.size, 1, none⟩ = some (.int .i64 1) ∧ V.cell? ⟨w.heap.size, 2, none⟩ = some (.slice none 0 0) ∧ V.cell? ⟨w.heap.size + 1 + 1, 0, none⟩ = some (.string ⟨#[84]⟩) ∧ V.cell? ⟨w.heap.size + 1 + 1, 1, none⟩ = some (.int .i64 0) ∧ V.cell? ⟨w.heap.size + 1 + 1, 2, none⟩ = some (.slice (some ⟨w.heap.size + 1, 0, none⟩) 1 1) ∧ V.cell? ⟨V2.heap.size + 1, 0, none⟩ = some (.string ⟨#[45, 62]⟩) ∧ V.cell? ⟨V2.heap.size + 1, 1, none⟩ = some (.int .i64 0) ∧ V.cell? ⟨V2.heap.size + 1, 2, none⟩ = some (.slice (some ⟨V2.heap.size, 0, none⟩) 2 2) ∧ V.cell? ⟨lb, lo, none⟩ = some (.int .i64 1) ∧ V.cell? ⟨lb, lo + 1, none⟩ = some (.string ⟨#[84]⟩) ∧ V.cell? ⟨lb, lo + 2, none⟩ = some (.int .i64 0) ∧ V.cell? ⟨lb, lo + 3, none⟩ = some (.slice a1 1 c1) ∧ V.cell? ⟨zb, zo + 1, none⟩ = some (.int .i64 1)) →  Calls Tryd.prog 15 #[.agg #[.string ⟨#[84]⟩, .int .i64 0, .slice (some ⟨w.heap.size + 1, 0, none⟩) 1 1]] V fun r V' => r = .returned (.bool true) ∧ (Below U1.heap.size U1 V' ∧ V'.cell? ⟨w.heap.size, 0, none⟩ = some (.string ⟨#[]⟩) ∧ V'.cell? ⟨w.heap.size, 1, none⟩ = some (.int .i64 1) ∧ V'.cell? ⟨w.heap.size, 2, none⟩ = some (.slice none 0 0) ∧ V'.cell? ⟨w.heap.size + 1 + 1, 0, none⟩ = some (.string ⟨#[84]⟩) ∧ V'.cell? ⟨w.heap.size + 1 + 1, 1, none⟩ = some (.int .i64 0) ∧ V'.cell? ⟨w.heap.size + 1 + 1, 2, none⟩ = some (.slice (some ⟨w.heap.size + 1, 0, none⟩) 1 1) ∧ V'.cell? ⟨V2.heap.size + 1, 0, none⟩ = some (.string ⟨#[45, 62]⟩) ∧ V'.cell? ⟨V2.heap.size + 1, 1, none⟩ = some (.int .i64 0) ∧ V'.cell? ⟨V2.heap.size + 1, 2, none⟩ = some (.slice (some ⟨V2.heap.size, 0, none⟩) 2 2) ∧ V'.cell? ⟨lb, lo, none⟩ = some (.int .i64 1) ∧ V'.cell? ⟨lb, lo + 1, none⟩ = some (.string ⟨#[84]⟩) ∧ V'.cell? ⟨lb, lo + 2, none⟩ = some (.int .i64 0) ∧ V'.cell? ⟨lb, lo + 3, none⟩ = some (.slice a1 1 c1) ∧ V'.cell? ⟨zb, zo + 1, none⟩ = some (.int .i64 1))) := by
    intro V hV
    obtain ⟨hh, hk, hf, hl, hfl, htD, hwD⟩ := (hS2.out V (hB1'.out.trans (hV.1.mono hB1'.out.size))).2.2.2.2
    refine (ty_Check kT _ V hk).mono ?_
    rintro r V' ⟨hr, hB⟩
    rw [chk_k] at hr
    exact ⟨hr, hSS.out _ (hV.1.trans (hB.mono hV.1.size))⟩
  have hCn : Hid (∀ (V : World), (Below U1.heap.size U1 V ∧ V.cell? ⟨w.heap.size, 0, none⟩ = some (.string ⟨#[]⟩) ∧ V.cell? ⟨w.heap.size, 1, none⟩ = some (.int .i64 1) ∧ V.cell? ⟨w.heap.size, 2, none⟩ = some (.slice none 0 0) ∧ V.cell? ⟨w.heap.size + 1 + 1, 0, none⟩ = some (.string ⟨#[84]⟩) ∧ V.cell? ⟨w.heap.size + 1 + 1, 1, none⟩ = some (.int .i64 0) ∧ V.cell? ⟨w.heap.size + 1 + 1, 2, none⟩ = some (.slice (some ⟨w.heap.size + 1, 0, none⟩) 1 1) ∧ V.cell? ⟨V2.heap.size + 1, 0, none⟩ = some (.string ⟨#[45, 62]⟩) ∧ V.cell? ⟨V2.heap.size + 1, 1, none⟩ = some (.int .i64 0) ∧ V.cell? ⟨V2.heap.size + 1, 2, none⟩ = some (.slice (some ⟨V2.heap.size, 0, none⟩) 2 2) ∧ V.cell? ⟨lb, lo, none⟩ = some (.int .i64 1) ∧ V.cell? ⟨lb, lo + 1, none⟩ = some (.string ⟨#[84]⟩) ∧ V.cell? ⟨lb, lo + 2, none⟩ = some (.int .i64 0) ∧ V.cell? ⟨lb, lo + 3, none⟩ = some (.slice a1 1 c1) ∧ V.cell? ⟨zb, zo + 1, none⟩ = some (.int .i64 1)) →  Calls Tryd.prog 15 #[.agg #[.string ⟨#[]⟩, .int .i64 (-1), .slice none 0 0]] V fun r V' => r = .returned (.bool false) ∧ (Below U1.heap.size U1 V' ∧ V'.cell? ⟨w.heap.size, 0, none⟩ = some (.string ⟨#[]⟩) ∧ V'.cell? ⟨w.heap.size, 1, none⟩ = some (.int .i64 1) ∧ V'.cell? ⟨w.heap.size, 2, none⟩ = some (.slice none 0 0) ∧ V'.cell? ⟨w.heap.size + 1 + 1, 0, none⟩ = some (.string ⟨#[84]⟩) ∧ V'.cell? ⟨w.heap.size + 1 + 1, 1, none⟩ = some (.int .i64 0) ∧ V'.cell? ⟨w.heap.size + 1 + 1, 2, none⟩ = some (.slice (some ⟨w.heap.size + 1, 0, none⟩) 1 1) ∧ V'.cell? ⟨V2.heap.size + 1, 0, none⟩ = some (.string ⟨#[45, 62]⟩) ∧ V'.cell? ⟨V2.heap.size + 1, 1, none⟩ = some (.int .i64 0) ∧ V'.cell? ⟨V2.heap.size + 1, 2, none⟩ = some (.slice (some ⟨V2.heap.size, 0, none⟩) 2 2) ∧ V'.cell? ⟨lb, lo, none⟩ = some (.int .i64 1) ∧ V'.cell? ⟨lb, lo + 1, none⟩ = some (.string ⟨#[84]⟩) ∧ V'.cell? ⟨lb, lo + 2, none⟩ = some (.int .i64 0) ∧ V'.cell? ⟨lb, lo + 3, none⟩ = some (.slice a1 1 c1) ∧ V'.cell? ⟨zb, zo + 1, none⟩ = some (.int .i64 1))) := by
    intro V hV
    obtain ⟨hh, hk, hf, hl, hfl, htD, hwD⟩ := (hS2.out V (hB1'.out.trans (hV.1.mono hB1'.out.size))).2.2.2.2
    refine (ty_Check (holeT (-1)) _ V (hole_is V ⟨by omega, by omega⟩)).mono ?_
    rintro r V' ⟨hr, hB⟩
    rw [chk_not] at hr
    exact ⟨hr, hSS.out _ (hV.1.trans (hB.mono hV.1.size))⟩
  have hTx : Hid (∀ (V : World), (Below U1.heap.size U1 V ∧ V.cell? ⟨w.heap.size, 0, none⟩ = some (.string ⟨#[]⟩) ∧ V.cell? ⟨w.heap.size, 1, none⟩ = some (.int .i64 1) ∧ V.cell? ⟨w.heap.size, 2, none⟩ = some (.slice none 0 0) ∧ V.cell? ⟨w.heap.size + 1 + 1, 0, none⟩ = some (.string ⟨#[84]⟩) ∧ V.cell? ⟨w.heap.size + 1 + 1, 1, none⟩ = some (.int .i64 0) ∧ V.cell? ⟨w.heap.size + 1 + 1, 2, none⟩ = some (.slice (some ⟨w.heap.size + 1, 0, none⟩) 1 1) ∧ V.cell? ⟨V2.heap.size + 1, 0, none⟩ = some (.string ⟨#[45, 62]⟩) ∧ V.cell? ⟨V2.heap.size + 1, 1, none⟩ = some (.int .i64 0) ∧ V.cell? ⟨V2.heap.size + 1, 2, none⟩ = some (.slice (some ⟨V2.heap.size, 0, none⟩) 2 2) ∧ V.cell? ⟨lb, lo, none⟩ = some (.int .i64 1) ∧ V.cell? ⟨lb, lo + 1, none⟩ = some (.string ⟨#[84]⟩) ∧ V.cell? ⟨lb, lo + 2, none⟩ = some (.int .i64 0) ∧ V.cell? ⟨lb, lo + 3, none⟩ = some (.slice a1 1 c1) ∧ V.cell? ⟨zb, zo + 1, none⟩ = some (.int .i64 1)) →  Calls Tryd.prog 20 #[.agg #[.string ⟨#[45, 62]⟩, .int .i64 0, .slice (some ⟨V2.heap.size, 0, none⟩) 2 2]] V fun r V' => r = .returned (.string ⟨#[40, 84, 32, 97, 41, 32, 45, 62, 32, 98]⟩) ∧ (Below U1.heap.size U1 V' ∧ V'.cell? ⟨w.heap.size, 0, none⟩ = some (.string ⟨#[]⟩) ∧ V'.cell? ⟨w.heap.size, 1, none⟩ = some (.int .i64 1) ∧ V'.cell? ⟨w.heap.size, 2, none⟩ = some (.slice none 0 0) ∧ V'.cell? ⟨w.heap.size + 1 + 1, 0, none⟩ = some (.string ⟨#[84]⟩) ∧ V'.cell? ⟨w.heap.size + 1 + 1, 1, none⟩ = some (.int .i64 0) ∧ V'.cell? ⟨w.heap.size + 1 + 1, 2, none⟩ = some (.slice (some ⟨w.heap.size + 1, 0, none⟩) 1 1) ∧ V'.cell? ⟨V2.heap.size + 1, 0, none⟩ = some (.string ⟨#[45, 62]⟩) ∧ V'.cell? ⟨V2.heap.size + 1, 1, none⟩ = some (.int .i64 0) ∧ V'.cell? ⟨V2.heap.size + 1, 2, none⟩ = some (.slice (some ⟨V2.heap.size, 0, none⟩) 2 2) ∧ V'.cell? ⟨lb, lo, none⟩ = some (.int .i64 1) ∧ V'.cell? ⟨lb, lo + 1, none⟩ = some (.string ⟨#[84]⟩) ∧ V'.cell? ⟨lb, lo + 2, none⟩ = some (.int .i64 0) ∧ V'.cell? ⟨lb, lo + 3, none⟩ = some (.slice a1 1 c1) ∧ V'.cell? ⟨zb, zo + 1, none⟩ = some (.int .i64 1))) := by
    intro V hV
    obtain ⟨hh, hk, hf, hl, hfl, htD, hwD⟩ := (hS2.out V (hB1'.out.trans (hV.1.mono hB1'.out.size))).2.2.2.2
    refine (ty_Text fT _ V hf htD).mono ?_
    rintro r V' ⟨hr, hB⟩
    rw [text_f] at hr
    exact ⟨hr, hSS.out _ (hV.1.trans (hB.mono hV.1.size))⟩
  have hTs : Hid (∀ (V : World), (Below U1.heap.size U1 V ∧ V.cell? ⟨w.heap.size, 0, none⟩ = some (.string ⟨#[]⟩) ∧ V.cell? ⟨w.heap.size, 1, none⟩ = some (.int .i64 1) ∧ V.cell? ⟨w.heap.size, 2, none⟩ = some (.slice none 0 0) ∧ V.cell? ⟨w.heap.size + 1 + 1, 0, none⟩ = some (.string ⟨#[84]⟩) ∧ V.cell? ⟨w.heap.size + 1 + 1, 1, none⟩ = some (.int .i64 0) ∧ V.cell? ⟨w.heap.size + 1 + 1, 2, none⟩ = some (.slice (some ⟨w.heap.size + 1, 0, none⟩) 1 1) ∧ V.cell? ⟨V2.heap.size + 1, 0, none⟩ = some (.string ⟨#[45, 62]⟩) ∧ V.cell? ⟨V2.heap.size + 1, 1, none⟩ = some (.int .i64 0) ∧ V.cell? ⟨V2.heap.size + 1, 2, none⟩ = some (.slice (some ⟨V2.heap.size, 0, none⟩) 2 2) ∧ V.cell? ⟨lb, lo, none⟩ = some (.int .i64 1) ∧ V.cell? ⟨lb, lo + 1, none⟩ = some (.string ⟨#[84]⟩) ∧ V.cell? ⟨lb, lo + 2, none⟩ = some (.int .i64 0) ∧ V.cell? ⟨lb, lo + 3, none⟩ = some (.slice a1 1 c1) ∧ V.cell? ⟨zb, zo + 1, none⟩ = some (.int .i64 1)) →  Calls Tryd.prog 28 #[.slice none 0 0, .slice none 0 0] V fun r V' => r = .returned (.bool true) ∧ (Below U1.heap.size U1 V' ∧ V'.cell? ⟨w.heap.size, 0, none⟩ = some (.string ⟨#[]⟩) ∧ V'.cell? ⟨w.heap.size, 1, none⟩ = some (.int .i64 1) ∧ V'.cell? ⟨w.heap.size, 2, none⟩ = some (.slice none 0 0) ∧ V'.cell? ⟨w.heap.size + 1 + 1, 0, none⟩ = some (.string ⟨#[84]⟩) ∧ V'.cell? ⟨w.heap.size + 1 + 1, 1, none⟩ = some (.int .i64 0) ∧ V'.cell? ⟨w.heap.size + 1 + 1, 2, none⟩ = some (.slice (some ⟨w.heap.size + 1, 0, none⟩) 1 1) ∧ V'.cell? ⟨V2.heap.size + 1, 0, none⟩ = some (.string ⟨#[45, 62]⟩) ∧ V'.cell? ⟨V2.heap.size + 1, 1, none⟩ = some (.int .i64 0) ∧ V'.cell? ⟨V2.heap.size + 1, 2, none⟩ = some (.slice (some ⟨V2.heap.size, 0, none⟩) 2 2) ∧ V'.cell? ⟨lb, lo, none⟩ = some (.int .i64 1) ∧ V'.cell? ⟨lb, lo + 1, none⟩ = some (.string ⟨#[84]⟩) ∧ V'.cell? ⟨lb, lo + 2, none⟩ = some (.int .i64 0) ∧ V'.cell? ⟨lb, lo + 3, none⟩ = some (.slice a1 1 c1) ∧ V'.cell? ⟨zb, zo + 1, none⟩ = some (.int .i64 1))) := by
    intro V hV
    obtain ⟨hh, hk, hf, hl, hfl, htD, hwD⟩ := (hS2.out V (hB1'.out.trans (hV.1.mono hB1'.out.size))).2.2.2.2
    refine (r04_Texts_nil V).mono ?_
    rintro r V' ⟨hr, hB⟩
    exact ⟨hr, hSS.out _ (hV.1.trans (hB.mono hV.1.size))⟩
  have hSz : Hid (∀ (V : World) (ua : Option Addr) (uc : Nat), (Below U1.heap.size U1 V ∧ V.cell? ⟨w.heap.size, 0, none⟩ = some (.string ⟨#[]⟩) ∧ V.cell? ⟨w.heap.size, 1, none⟩ = some (.int .i64 1) ∧ V.cell? ⟨w.heap.size, 2, none⟩ = some (.slice none 0 0) ∧ V.cell? ⟨w.heap.size + 1 + 1, 0, none⟩ = some (.string ⟨#[84]⟩) ∧ V.cell? ⟨w.heap.size + 1 + 1, 1, none⟩ = some (.int .i64 0) ∧ V.cell? ⟨w.heap.size + 1 + 1, 2, none⟩ = some (.slice (some ⟨w.heap.size + 1, 0, none⟩) 1 1) ∧ V.cell? ⟨V2.heap.size + 1, 0, none⟩ = some (.string ⟨#[45, 62]⟩) ∧ V.cell? ⟨V2.heap.size + 1, 1, none⟩ = some (.int .i64 0) ∧ V.cell? ⟨V2.heap.size + 1, 2, none⟩ = some (.slice (some ⟨V2.heap.size, 0, none⟩) 2 2) ∧ V.cell? ⟨lb, lo, none⟩ = some (.int .i64 1) ∧ V.cell? ⟨lb, lo + 1, none⟩ = some (.string ⟨#[84]⟩) ∧ V.cell? ⟨lb, lo + 2, none⟩ = some (.int .i64 0) ∧ V.cell? ⟨lb, lo + 3, none⟩ = some (.slice a1 1 c1) ∧ V.cell? ⟨zb, zo + 1, none⟩ = some (.int .i64 1)) → IsTy V (.agg #[.string ⟨#[]⟩, .int .i64 0, .slice ua 0 uc]) zeroT → Calls Tryd.prog 17 #[.agg #[.string ⟨#[]⟩, .int .i64 0, .slice ua 0 uc], .agg #[.string ⟨#[]⟩, .int .i64 0, .slice none 0 0]] V fun r V' => r = .returned (.bool true) ∧ (Below U1.heap.size U1 V' ∧ V'.cell? ⟨w.heap.size, 0, none⟩ = some (.string ⟨#[]⟩) ∧ V'.cell? ⟨w.heap.size, 1, none⟩ = some (.int .i64 1) ∧ V'.cell? ⟨w.heap.size, 2, none⟩ = some (.slice none 0 0) ∧ V'.cell? ⟨w.heap.size + 1 + 1, 0, none⟩ = some (.string ⟨#[84]⟩) ∧ V'.cell? ⟨w.heap.size + 1 + 1, 1, none⟩ = some (.int .i64 0) ∧ V'.cell? ⟨w.heap.size + 1 + 1, 2, none⟩ = some (.slice (some ⟨w.heap.size + 1, 0, none⟩) 1 1) ∧ V'.cell? ⟨V2.heap.size + 1, 0, none⟩ = some (.string ⟨#[45, 62]⟩) ∧ V'.cell? ⟨V2.heap.size + 1, 1, none⟩ = some (.int .i64 0) ∧ V'.cell? ⟨V2.heap.size + 1, 2, none⟩ = some (.slice (some ⟨V2.heap.size, 0, none⟩) 2 2) ∧ V'.cell? ⟨lb, lo, none⟩ = some (.int .i64 1) ∧ V'.cell? ⟨lb, lo + 1, none⟩ = some (.string ⟨#[84]⟩) ∧ V'.cell? ⟨lb, lo + 2, none⟩ = some (.int .i64 0) ∧ V'.cell? ⟨lb, lo + 3, none⟩ = some (.slice a1 1 c1) ∧ V'.cell? ⟨zb, zo + 1, none⟩ = some (.int .i64 1))) := by
    intro V ua uc hV hu
    obtain ⟨hh, hk, hf, hl, hfl, htD, hwD⟩ := (hS2.out V (hB1'.out.trans (hV.1.mono hB1'.out.size))).2.2.2.2
    refine (r08_Same zeroT zeroT _ _ V hu (zeroT_is V)).mono ?_
    rintro r V' ⟨hr, hB⟩
    rw [eqB_true rfl] at hr
    exact ⟨hr, hSS.out _ (hV.1.trans (hB.mono hV.1.size))⟩
  have hSk : Hid (∀ (V : World) (ua : Option Addr) (uc : Nat), (Below U1.heap.size U1 V ∧ V.cell? ⟨w.heap.size, 0, none⟩ = some (.string ⟨#[]⟩) ∧ V.cell? ⟨w.heap.size, 1, none⟩ = some (.int .i64 1) ∧ V.cell? ⟨w.heap.size, 2, none⟩ = some (.slice none 0 0) ∧ V.cell? ⟨w.heap.size + 1 + 1, 0, none⟩ = some (.string ⟨#[84]⟩) ∧ V.cell? ⟨w.heap.size + 1 + 1, 1, none⟩ = some (.int .i64 0) ∧ V.cell? ⟨w.heap.size + 1 + 1, 2, none⟩ = some (.slice (some ⟨w.heap.size + 1, 0, none⟩) 1 1) ∧ V.cell? ⟨V2.heap.size + 1, 0, none⟩ = some (.string ⟨#[45, 62]⟩) ∧ V.cell? ⟨V2.heap.size + 1, 1, none⟩ = some (.int .i64 0) ∧ V.cell? ⟨V2.heap.size + 1, 2, none⟩ = some (.slice (some ⟨V2.heap.size, 0, none⟩) 2 2) ∧ V.cell? ⟨lb, lo, none⟩ = some (.int .i64 1) ∧ V.cell? ⟨lb, lo + 1, none⟩ = some (.string ⟨#[84]⟩) ∧ V.cell? ⟨lb, lo + 2, none⟩ = some (.int .i64 0) ∧ V.cell? ⟨lb, lo + 3, none⟩ = some (.slice a1 1 c1) ∧ V.cell? ⟨zb, zo + 1, none⟩ = some (.int .i64 1)) → IsTy V (.agg #[.string ⟨#[84]⟩, .int .i64 0, .slice ua 1 uc]) kT → Calls Tryd.prog 17 #[.agg #[.string ⟨#[84]⟩, .int .i64 0, .slice ua 1 uc], .agg #[.string ⟨#[84]⟩, .int .i64 0, .slice (some ⟨w.heap.size + 1, 0, none⟩) 1 1]] V fun r V' => r = .returned (.bool true) ∧ (Below U1.heap.size U1 V' ∧ V'.cell? ⟨w.heap.size, 0, none⟩ = some (.string ⟨#[]⟩) ∧ V'.cell? ⟨w.heap.size, 1, none⟩ = some (.int .i64 1) ∧ V'.cell? ⟨w.heap.size, 2, none⟩ = some (.slice none 0 0) ∧ V'.cell? ⟨w.heap.size + 1 + 1, 0, none⟩ = some (.string ⟨#[84]⟩) ∧ V'.cell? ⟨w.heap.size + 1 + 1, 1, none⟩ = some (.int .i64 0) ∧ V'.cell? ⟨w.heap.size + 1 + 1, 2, none⟩ = some (.slice (some ⟨w.heap.size + 1, 0, none⟩) 1 1) ∧ V'.cell? ⟨V2.heap.size + 1, 0, none⟩ = some (.string ⟨#[45, 62]⟩) ∧ V'.cell? ⟨V2.heap.size + 1, 1, none⟩ = some (.int .i64 0) ∧ V'.cell? ⟨V2.heap.size + 1, 2, none⟩ = some (.slice (some ⟨V2.heap.size, 0, none⟩) 2 2) ∧ V'.cell? ⟨lb, lo, none⟩ = some (.int .i64 1) ∧ V'.cell? ⟨lb, lo + 1, none⟩ = some (.string ⟨#[84]⟩) ∧ V'.cell? ⟨lb, lo + 2, none⟩ = some (.int .i64 0) ∧ V'.cell? ⟨lb, lo + 3, none⟩ = some (.slice a1 1 c1) ∧ V'.cell? ⟨zb, zo + 1, none⟩ = some (.int .i64 1))) := by
    intro V ua uc hV hu
    obtain ⟨hh, hk, hf, hl, hfl, htD, hwD⟩ := (hS2.out V (hB1'.out.trans (hV.1.mono hB1'.out.size))).2.2.2.2
    refine (r08_Same kT kT _ _ V hu hk).mono ?_
    rintro r V' ⟨hr, hB⟩
    rw [eqB_true rfl] at hr
    exact ⟨hr, hSS.out _ (hV.1.trans (hB.mono hV.1.size))⟩
  have hCa : Hid (∀ (V : World), (Below U1.heap.size U1 V ∧ V.cell? ⟨w.heap.size, 0, none⟩ = some (.string ⟨#[]⟩) ∧ V.cell? ⟨w.heap.size, 1, none⟩ = some (.int .i64 1) ∧ V.cell? ⟨w.heap.size, 2, none⟩ = some (.slice none 0 0) ∧ V.cell? ⟨w.heap.size + 1 + 1, 0, none⟩ = some (.string ⟨#[84]⟩) ∧ V.cell? ⟨w.heap.size + 1 + 1, 1, none⟩ = some (.int .i64 0) ∧ V.cell? ⟨w.heap.size + 1 + 1, 2, none⟩ = some (.slice (some ⟨w.heap.size + 1, 0, none⟩) 1 1) ∧ V.cell? ⟨V2.heap.size + 1, 0, none⟩ = some (.string ⟨#[45, 62]⟩) ∧ V.cell? ⟨V2.heap.size + 1, 1, none⟩ = some (.int .i64 0) ∧ V.cell? ⟨V2.heap.size + 1, 2, none⟩ = some (.slice (some ⟨V2.heap.size, 0, none⟩) 2 2) ∧ V.cell? ⟨lb, lo, none⟩ = some (.int .i64 1) ∧ V.cell? ⟨lb, lo + 1, none⟩ = some (.string ⟨#[84]⟩) ∧ V.cell? ⟨lb, lo + 2, none⟩ = some (.int .i64 0) ∧ V.cell? ⟨lb, lo + 3, none⟩ = some (.slice a1 1 c1) ∧ V.cell? ⟨zb, zo + 1, none⟩ = some (.int .i64 1)) →  Calls Tryd.prog 18 #[.agg #[.string ⟨#[]⟩, .int .i64 7, .slice none 0 0]] V fun r V' => ∃ ua uc, r = .returned (.agg #[.string ⟨#[]⟩, .int .i64 0, .slice ua 0 uc]) ∧ IsTy V' (.agg #[.string ⟨#[]⟩, .int .i64 0, .slice ua 0 uc]) zeroT ∧ (Below U1.heap.size U1 V' ∧ V'.cell? ⟨w.heap.size, 0, none⟩ = some (.string ⟨#[]⟩) ∧ V'.cell? ⟨w.heap.size, 1, none⟩ = some (.int .i64 1) ∧ V'.cell? ⟨w.heap.size, 2, none⟩ = some (.slice none 0 0) ∧ V'.cell? ⟨w.heap.size + 1 + 1, 0, none⟩ = some (.string ⟨#[84]⟩) ∧ V'.cell? ⟨w.heap.size + 1 + 1, 1, none⟩ = some (.int .i64 0) ∧ V'.cell? ⟨w.heap.size + 1 + 1, 2, none⟩ = some (.slice (some ⟨w.heap.size + 1, 0, none⟩) 1 1) ∧ V'.cell? ⟨V2.heap.size + 1, 0, none⟩ = some (.string ⟨#[45, 62]⟩) ∧ V'.cell? ⟨V2.heap.size + 1, 1, none⟩ = some (.int .i64 0) ∧ V'.cell? ⟨V2.heap.size + 1, 2, none⟩ = some (.slice (some ⟨V2.heap.size, 0, none⟩) 2 2) ∧ V'.cell? ⟨lb, lo, none⟩ = some (.int .i64 1) ∧ V'.cell? ⟨lb, lo + 1, none⟩ = some (.string ⟨#[84]⟩) ∧ V'.cell? ⟨lb, lo + 2, none⟩ = some (.int .i64 0) ∧ V'.cell? ⟨lb, lo + 3, none⟩ = some (.slice a1 1 c1) ∧ V'.cell? ⟨zb, zo + 1, none⟩ = some (.int .i64 1))) := by
    intro V hV
    obtain ⟨hh, hk, hf, hl, hfl, htD, hwD⟩ := (hS2.out V (hB1'.out.trans (hV.1.mono hB1'.out.size))).2.2.2.2
    refine (ty_Canon (holeT 7) _ V (hole_is V ⟨by omega, by omega⟩)).mono ?_
    rintro r V' ⟨u, rfl, hu, hB⟩
    rw [canon_7] at hu
    obtain ⟨a, c, rfl⟩ := hu.form
    exact ⟨a, c, rfl, hu, hSS.out _ (hV.1.trans (hB.mono hV.1.size))⟩
  have hAp : Hid (∀ (V : World), (Below U1.heap.size U1 V ∧ V.cell? ⟨w.heap.size, 0, none⟩ = some (.string ⟨#[]⟩) ∧ V.cell? ⟨w.heap.size, 1, none⟩ = some (.int .i64 1) ∧ V.cell? ⟨w.heap.size, 2, none⟩ = some (.slice none 0 0) ∧ V.cell? ⟨w.heap.size + 1 + 1, 0, none⟩ = some (.string ⟨#[84]⟩) ∧ V.cell? ⟨w.heap.size + 1 + 1, 1, none⟩ = some (.int .i64 0) ∧ V.cell? ⟨w.heap.size + 1 + 1, 2, none⟩ = some (.slice (some ⟨w.heap.size + 1, 0, none⟩) 1 1) ∧ V.cell? ⟨V2.heap.size + 1, 0, none⟩ = some (.string ⟨#[45, 62]⟩) ∧ V.cell? ⟨V2.heap.size + 1, 1, none⟩ = some (.int .i64 0) ∧ V.cell? ⟨V2.heap.size + 1, 2, none⟩ = some (.slice (some ⟨V2.heap.size, 0, none⟩) 2 2) ∧ V.cell? ⟨lb, lo, none⟩ = some (.int .i64 1) ∧ V.cell? ⟨lb, lo + 1, none⟩ = some (.string ⟨#[84]⟩) ∧ V.cell? ⟨lb, lo + 2, none⟩ = some (.int .i64 0) ∧ V.cell? ⟨lb, lo + 3, none⟩ = some (.slice a1 1 c1) ∧ V.cell? ⟨zb, zo + 1, none⟩ = some (.int .i64 1)) → Calls Tryd.prog 22 #[.slice (some ⟨lb, lo, none⟩) 1 lc, .agg #[.string ⟨#[]⟩, .int .i64 1, .slice none 0 0]] V fun r V' => ∃ ua uc, r = .returned (.agg #[.string ⟨#[84]⟩, .int .i64 0, .slice ua 1 uc]) ∧ IsTy V' (.agg #[.string ⟨#[84]⟩, .int .i64 0, .slice ua 1 uc]) kT ∧ (Below U1.heap.size U1 V' ∧ V'.cell? ⟨w.heap.size, 0, none⟩ = some (.string ⟨#[]⟩) ∧ V'.cell? ⟨w.heap.size, 1, none⟩ = some (.int .i64 1) ∧ V'.cell? ⟨w.heap.size, 2, none⟩ = some (.slice none 0 0) ∧ V'.cell? ⟨w.heap.size + 1 + 1, 0, none⟩ = some (.string ⟨#[84]⟩) ∧ V'.cell? ⟨w.heap.size + 1 + 1, 1, none⟩ = some (.int .i64 0) ∧ V'.cell? ⟨w.heap.size + 1 + 1, 2, none⟩ = some (.slice (some ⟨w.heap.size + 1, 0, none⟩) 1 1) ∧ V'.cell? ⟨V2.heap.size + 1, 0, none⟩ = some (.string ⟨#[45, 62]⟩) ∧ V'.cell? ⟨V2.heap.size + 1, 1, none⟩ = some (.int .i64 0) ∧ V'.cell? ⟨V2.heap.size + 1, 2, none⟩ = some (.slice (some ⟨V2.heap.size, 0, none⟩) 2 2) ∧ V'.cell? ⟨lb, lo, none⟩ = some (.int .i64 1) ∧ V'.cell? ⟨lb, lo + 1, none⟩ = some (.string ⟨#[84]⟩) ∧ V'.cell? ⟨lb, lo + 2, none⟩ = some (.int .i64 0) ∧ V'.cell? ⟨lb, lo + 3, none⟩ = some (.slice a1 1 c1) ∧ V'.cell? ⟨zb, zo + 1, none⟩ = some (.int .i64 1))) := by
    intro V hV
    obtain ⟨hh, hk, hf, hl, hfl, htD, hwD⟩ := (hS2.out V (hB1'.out.trans (hV.1.mono hB1'.out.size))).2.2.2.2
    obtain ⟨fa, fc, fe, _, fr⟩ := hfl
    have fr' : FaRow (fun _ => False) V (some ⟨lb, lo, none⟩) [⟨1, kT⟩] := by simp only [Value.slice.injEq] at fe; rw [fe.1]; exact fr
    refine (ty_Apply (some ⟨lb, lo, none⟩) lc [⟨1, kT⟩] (holeT 1) _ V (show 1 ≤ lenMax by unfold lenMax; omega) fr' hh).mono ?_
    rintro r V' ⟨u, rfl, hu, hB⟩
    rw [apply_hk] at hu
    obtain ⟨a, c, rfl⟩ := hu.form
    exact ⟨a, c, rfl, hu, hSS.out _ (hV.1.trans (hB.mono hV.1.size))⟩
  have hst := Lib.hid (hSS.out _ (Below.refl _ U1))
  have hdr := Lib.hid (hSS.out _ (Below.refl _ U1).drew)
  have hwU1 : Hid (∀ V, Below U1.heap.size U1 V → Below w.heap.size w V) := fun V hV => (hS2.out V (hB1'.out.trans (hV.mono hB1'.out.size))).2.2.2.2.2.2.2.2.2.2
  obtain ⟨_, r0, r1, r2, r3, r4, r5, r6, r7, r8, r9, r10, r11, r12, r13⟩ := hst.out
  clear q0 q1 q2 q3 q4 q5 q6 q7 q8 l0 l1 l2 l3 hz hu hzc hB1
  go_upto_region 9 with (fail)
  simp only [List.append_eq, List.cons_append, List.nil_append]
  go_region_held3 (fun V => Below U1.heap.size U1 V ∧ V.cell? ⟨w.heap.size, 0, none⟩ = some (.string ⟨#[]⟩) ∧ V.cell? ⟨w.heap.size, 1, none⟩ = some (.int .i64 1) ∧ V.cell? ⟨w.heap.size, 2, none⟩ = some (.slice none 0 0) ∧ V.cell? ⟨w.heap.size + 1 + 1, 0, none⟩ = some (.string ⟨#[84]⟩) ∧ V.cell? ⟨w.heap.size + 1 + 1, 1, none⟩ = some (.int .i64 0) ∧ V.cell? ⟨w.heap.size + 1 + 1, 2, none⟩ = some (.slice (some ⟨w.heap.size + 1, 0, none⟩) 1 1) ∧ V.cell? ⟨V2.heap.size + 1, 0, none⟩ = some (.string ⟨#[45, 62]⟩) ∧ V.cell? ⟨V2.heap.size + 1, 1, none⟩ = some (.int .i64 0) ∧ V.cell? ⟨V2.heap.size + 1, 2, none⟩ = some (.slice (some ⟨V2.heap.size, 0, none⟩) 2 2) ∧ V.cell? ⟨lb, lo, none⟩ = some (.int .i64 1) ∧ V.cell? ⟨lb, lo + 1, none⟩ = some (.string ⟨#[84]⟩) ∧ V.cell? ⟨lb, lo + 2, none⟩ = some (.int .i64 0) ∧ V.cell? ⟨lb, lo + 3, none⟩ = some (.slice a1 1 c1) ∧ V.cell? ⟨zb, zo + 1, none⟩ = some (.int .i64 1)) ((first | exact hdr.out | exact hst.out | assumption))
    (first
      | (go_at_call 15; (with_reducible refine (hCk.out _ (by assumption)).mono ?_); rintro e w7 ⟨rfl, hs7⟩)
      | (go_at_call 15; (with_reducible refine (hCn.out _ (by assumption)).mono ?_); rintro e w7 ⟨rfl, hs7⟩)
      | (go_at_call 20; (with_reducible refine (hTx.out _ (by assumption)).mono ?_); rintro e w7 ⟨rfl, hs7⟩)
      | (go_at_call 28; (with_reducible refine (hTs.out _ (by assumption)).mono ?_); rintro e w7 ⟨rfl, hs7⟩)
      | (go_at_call 18; (with_reducible refine (hCa.out _ (by assumption)).mono ?_); rintro e w7 ⟨ua, uc, rfl, hu7, hs7⟩)
      | (go_at_call 22; (with_reducible refine (hAp.out _ (by assumption)).mono ?_); rintro e w7 ⟨ua, uc, rfl, hu7, hs7⟩)
      | (go_at_call 17; (with_reducible refine (hSm.out _ (by assumption)).mono ?_); rintro e w7 ⟨rfl, hs7⟩)
      | (go_at_call 17; (with_reducible refine (hSz.out _ _ _ (by assumption) (by assumption)).mono ?_); rintro e w7 ⟨rfl, hs7⟩)
      | (go_at_call 17; (with_reducible refine (hSk.out _ _ _ (by assumption) (by assumption)).mono ?_); rintro e w7 ⟨rfl, hs7⟩))
  all_goals
    have hfin := Lib.hid (hwU1.out _ hs7.1)
    go_wp2_with fail
    go_ret
    exact ⟨ret_bool rfl, hfin.out⟩
end Go.Proofs.YticjpeefhppjoaaDoor
