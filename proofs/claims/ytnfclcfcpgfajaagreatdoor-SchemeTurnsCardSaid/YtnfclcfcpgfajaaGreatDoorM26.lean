/- A part of the proof that parser laws hold: texts of the walk and of its plain laws, made small. -/
import Derived.Test.YtnfclcfcpgfajaaGreatDoorM17
import Derived.Test.YtnfclcfcpgfajaaGreatDoorM24
import Derived.Test.YtnfclcfcpgfajaaGreatDoorM22
import Derived.Test.YtnfclcfcpgfajaaGreatDoorM03
import Derived.Test.YtnfclcfcpgfajaaGreatDoorM25
import Derived.Deep.CutRange
import Derived.Outline
set_option linter.unusedVariables false
set_option linter.unusedSimpArgs false
/- dawdlerlaw09.SchemeTurns answers true. -/
namespace Go.Proofs.YtnfclcfcpgfajaaGreatDoor
open Go.RowKit

set_option maxHeartbeats 8000000 in
set_option maxRecDepth 100000 in
theorem turnsS_c (t : Ty) (vt : Value) (nx : Int) (w : World) (hvt : IsTy w vt t) (hx0 : 0 ≤ nx) (hx1 : nx ≤ 65535) : Calls Tryz.prog 6 #[vt, .int .u16 nx] w fun r w' => r = .returned (.bool true) ∧ Below w.heap.size w w' := by
  obtain ⟨s, n, l⟩ := t
  obtain ⟨a1, e1, rfl, _⟩ := hvt.open
  obtain ⟨W1, hW1⟩ : ∃ W, w.alloc (.cells #[.string s, .int .i64 n, .slice a1 l.length e1] 25) = W := ⟨_, rfl⟩
  have hb1 : Below w.heap.size w W1 := by rw [← hW1]; exact (Below.refl _ w).alloc (Nat.le_refl _) _
  have hz1 : W1.heap.size = w.heap.size + 1 := by rw [← hW1]; simp
  have hS : Hid (∀ V, Below W1.heap.size W1 V → V.cell? ⟨w.heap.size, 0, none⟩ = some (.string s) ∧ V.cell? ⟨w.heap.size, 1, none⟩ = some (.int .i64 n) ∧ V.cell? ⟨w.heap.size, 2, none⟩ = some (.slice a1 l.length e1)) := fun V hV => by
    rw [← hW1] at hV
    exact box3 (by simpa using hV)
  have hI : Hid (∀ V, Below W1.heap.size W1 V → IsTy V (.agg #[.string s, .int .i64 n, .slice a1 l.length e1]) (.mk s n l) ∧ Below w.heap.size w V) := fun V hV => by
    have hwV := hb1.trans (hV.mono (by omega))
    exact ⟨TyX.below hvt hwV, hwV⟩
  have hW1' := Lib.hid hW1
  have hxi : In64 nx := ⟨by omega, by omega⟩
  have hxi' := Lib.hid hxi
  clear hvt hW1 hb1 hxi
  go_enter Tryz.func6, Tryz.ntmps6
  go_wp2_with fail
  rw [hW1'.out]
  refine (awake9 W1).mono ?_
  rintro r V ⟨rfl, hV⟩
  have h0 := Lib.hid hV
  clear hV
  obtain ⟨q0, q1, q2⟩ := hS.out V h0.out
  have hf := Lib.hid (r08_Few _ _ V (hI.out V h0.out).1)
  cases hfw : fewT (.mk s n l)
  case false =>
    rw [hfw] at hf
    go_wp2_with fail
    refine hf.out.mono ?_
    rintro r V2 ⟨rfl, hV2⟩
    have hfin := Lib.hid ((hI.out V h0.out).2.trans (hV2.mono (hI.out V h0.out).2.size))
    clear q0 q1 q2
    go_wp2_with fail
    go_ret
    exact ⟨ret_bool rfl, hfin.out⟩
  rw [hfw] at hf
  clear hfw
  go_wp2_with fail
  refine hf.out.mono ?_
  rintro r V2 ⟨rfl, hV2⟩
  have h2 := Lib.hid (h0.out.trans (hV2.mono h0.out.size))
  clear q0 q1 q2 hf hV2
  obtain ⟨q0, q1, q2⟩ := hS.out V2 h2.out
  have hcl := Lib.hid (sc_Close (.mk s n l) [] _ none 0 V2 (hI.out V2 h2.out).1 (fun h => absurd rfl h) (Nat.zero_le _))
  cases hck : chkT (.mk s n l)
  case false =>
    rw [close_bad hck] at hcl
    have hce := Lib.hid (fun V hV => ty_Check _ _ V (hI.out V hV).1)
    rw [hck] at hce
    clear hck
    go_wp2_with fail
    refine hcl.out.mono ?_
    rintro r V3 ⟨⟨u, rfl, hu⟩, hV3⟩
    have h3 := Lib.hid (h2.out.trans (hV3.mono h2.out.size))
    obtain ⟨b0, d0, y0, y1, y2, rfl, _, _, _, hty⟩ := hu
    obtain ⟨b2, d2, hfm⟩ := hty.form
    simp only [Value.agg.injEq, Array.mk.injEq, List.cons.injEq, and_true] at hfm
    obtain ⟨rfl, rfl, rfl⟩ := hfm
    have e80 : errS (none : Option Sc).isSome = 80 := rfl
    obtain ⟨V4, hV4⟩ : ∃ W, V3.alloc (.cells #[.slice b0 zeroSc.all.length d0, .string zeroSc.ty.name, .int .i64 zeroSc.ty.n, .slice b2 zeroSc.ty.args.length d2] 27) = W := ⟨_, rfl⟩
    have hB4 : Below V3.heap.size V3 V4 := by rw [← hV4]; exact (Below.refl _ _).alloc (Nat.le_refl _) _
    have h4 := Lib.hid (h3.out.trans (hB4.mono h3.out.size))
    clear q0 q1 q2 hcl hV3 hty
    obtain ⟨q0, q1, q2⟩ := hS.out V3 h3.out
    have hV4' := Lib.hid hV4
    have hlt3 : w.heap.size < V3.heap.size := by have := h3.out.size; omega
    clear hV4 hB4
    go_wp2_with fail
    rw [hV4'.out]
    refine (hce.out V4 h4.out).mono ?_
    rintro r V5 ⟨rfl, hV5⟩
    have hfin := Lib.hid ((hI.out V4 h4.out).2.trans (hV5.mono (hI.out V4 h4.out).2.size))
    go_wp2_with fail
    go_ret
    exact ⟨ret_bool rfl, hfin.out⟩
  rw [close_nil hck] at hcl
  have hcl : Hid (Calls Tryz.prog 15 #[.agg #[.string s, .int .i64 n, .slice a1 l.length e1], .slice none 0 0] V2 fun r w' => (∃ u, r = .returned (.tuple #[u, .int .i64 0]) ∧ IsSc w' u ⟨holesC (.mk s n l), .mk s n l⟩) ∧ Below V2.heap.size V2 w') := hcl.out
  have hck' := Lib.hid hck
  clear hck
  go_wp2_with fail
  refine hcl.out.mono ?_
  rintro r V3 ⟨⟨u, rfl, hu⟩, hV3⟩
  have h3 := Lib.hid (h2.out.trans (hV3.mono h2.out.size))
  have hu' : IsSc V3 u ⟨holesC (.mk s n l), .mk s n l⟩ := hu
  obtain ⟨b0, d0, b2, d2, rfl⟩ : ∃ b0 d0 b2 d2, u = .agg #[.slice b0 (holesC (.mk s n l)).length d0, .string s, .int .i64 n, .slice b2 l.length d2] := by
    obtain ⟨b0, d0, y0, y1, y2, rfl, _, _, _, hty⟩ := hu'
    obtain ⟨b2, d2, hfm⟩ := hty.form
    simp only [Value.agg.injEq, Array.mk.injEq, List.cons.injEq, and_true] at hfm
    obtain ⟨rfl, rfl, rfl⟩ := hfm
    exact ⟨b0, d0, b2, d2, rfl⟩
  obtain ⟨H, hH⟩ : ∃ H, holesC (.mk s n l) = H := ⟨_, rfl⟩
  have hHl : H.length ≤ 2000 := by rw [← hH]; exact holesC_len _
  rw [hH] at hu'
  have hu2 := Lib.hid hu'
  simp only [hH]
  have hH' := Lib.hid hH
  obtain ⟨V4, hV4⟩ : ∃ W, V3.alloc (.cells #[.slice b0 H.length d0, .string s, .int .i64 n, .slice b2 l.length d2] 27) = W := ⟨_, rfl⟩
  have hB4 : Below V3.heap.size V3 V4 := by rw [← hV4]; exact (Below.refl _ _).alloc (Nat.le_refl _) _
  have hz4 : V4.heap.size = V3.heap.size + 1 := by rw [← hV4]; simp
  have h4 := Lib.hid (h3.out.trans (hB4.mono h3.out.size))
  have hS4 : Hid (∀ V, Below V4.heap.size V4 V → V.cell? ⟨V3.heap.size, 0, none⟩ = some (.slice b0 H.length d0) ∧ V.cell? ⟨V3.heap.size, 1, none⟩ = some (.string s) ∧ V.cell? ⟨V3.heap.size, 2, none⟩ = some (.int .i64 n) ∧ V.cell? ⟨V3.heap.size, 3, none⟩ = some (.slice b2 l.length d2)) := fun V hV => by
    rw [← hV4] at hV
    exact box4 (by simpa using hV)
  have hI4 : Hid (∀ V, Below V4.heap.size V4 V → IsSc V (.agg #[.slice b0 H.length d0, .string s, .int .i64 n, .slice b2 l.length d2]) ⟨H, .mk s n l⟩ ∧ Below W1.heap.size W1 V) := fun V hV => by
    exact ⟨hu2.out.below (hB4.trans (hV.mono (by omega))), h4.out.trans (hV.mono h4.out.size)⟩
  have hop := Lib.hid (sc_Open ⟨H, .mk s n l⟩ nx _ V4 (hI4.out V4 (Below.refl _ _)).1 (by show H.length ≤ 100000; omega) hxi'.out)
  rw [← hH, open_closed hck'.out hx0 (by omega), hH] at hop
  have hop : Hid (Calls Tryz.prog 17 #[.agg #[.slice b0 H.length d0, .string s, .int .i64 n, .slice b2 l.length d2], .int .i64 nx] V4 fun r w' => (∃ u, r = .returned (.tuple #[u, .int .i64 (nx + (H.length : Int)), .int .i64 0]) ∧ IsTy w' u (opened nx (.mk s n l))) ∧ Below V4.heap.size V4 w') := hop.out
  obtain ⟨p0, p1, p2, p3⟩ := hS4.out V4 (Below.refl _ _)
  have hV4' := Lib.hid hV4
  clear q0 q1 q2 hcl hV3 hu hu' hH hV4 hB4
  obtain ⟨q0, q1, q2⟩ := hS.out V3 h3.out
  have hlt3 : w.heap.size < V3.heap.size := by have := h3.out.size; omega
  go_wp2_with fail
  rw [hV4'.out]
  refine hop.out.mono ?_
  rintro r V5 ⟨⟨u5, rfl, hu5⟩, hV5⟩
  have hu5' : IsTy V5 u5 (opened nx (.mk s n l)) := hu5
  obtain ⟨y5, hy5⟩ : ∃ y, opened nx (.mk s n l) = y := ⟨_, rfl⟩
  have hck5 := Lib.hid (chk_opened (x := nx) hck'.out hx0)
  have hlen5 := Lib.hid (holes_opened_len (x := nx) hck'.out hx0)
  have hget5 := Lib.hid (holes_opened_get (x := nx) hck'.out hx0)
  have hcan5 := Lib.hid (canon_opened (x := nx) hck'.out hx0)
  rw [hy5] at hu5' hck5 hlen5 hget5 hcan5
  obtain ⟨xa, xc, rfl⟩ := hu5'.form
  have h5 := Lib.hid (hV5)
  obtain ⟨V6, hV6⟩ : ∃ W, V5.alloc (.cells #[.string y5.name, .int .i64 y5.n, .slice xa y5.args.length xc] 25) = W := ⟨_, rfl⟩
  have hB6 : Below V5.heap.size V5 V6 := by rw [← hV6]; exact (Below.refl _ _).alloc (Nat.le_refl _) _
  have hz6 : V6.heap.size = V5.heap.size + 1 := by rw [← hV6]; simp
  have h6 := Lib.hid (hV5.trans (hB6.mono hV5.size))
  have hS6 : Hid (∀ V, Below V6.heap.size V6 V → V.cell? ⟨V5.heap.size, 0, none⟩ = some (.string y5.name) ∧ V.cell? ⟨V5.heap.size, 1, none⟩ = some (.int .i64 y5.n) ∧ V.cell? ⟨V5.heap.size, 2, none⟩ = some (.slice xa y5.args.length xc)) := fun V hV => by
    rw [← hV6] at hV
    exact box3 (by simpa using hV)
  have hI6 : Hid (∀ V, Below V6.heap.size V6 V → IsTy V (.agg #[.string y5.name, .int .i64 y5.n, .slice xa y5.args.length xc]) y5 ∧ Below V4.heap.size V4 V) := fun V hV => by
    exact ⟨TyX.below hu5' (hB6.trans (hV.mono (by omega))), h6.out.trans (hV.mono h6.out.size)⟩
  have hhol := Lib.hid (ty_Holes _ _ V6 (hI6.out V6 (Below.refl _ _)).1)
  obtain ⟨G, hG⟩ : ∃ G, holesC y5 = G := ⟨_, rfl⟩
  rw [hG] at hhol hlen5 hget5
  rw [hH'.out] at hlen5
  have hV6' := Lib.hid hV6
  have hlt5 : V3.heap.size < V5.heap.size := by have := hV5.size; omega
  have hvw5 : w.heap.size < V5.heap.size := by omega
  clear q0 q1 q2 p0 p1 p2 p3 hop hu5 hu5' hV5 hV6 hB6 hG
  go_wp2_with fail
  rw [hV6'.out]
  refine hhol.out.mono ?_
  rintro r V7 ⟨⟨z, rfl, hz⟩, hV7⟩
  obtain ⟨za, zc, rfl⟩ := hz.form
  have hz' := Lib.hid hz.at.2
  rw [hlen5.out]
  have h7 := Lib.hid (hV7)
  have hGl : G.length ≤ 2000 := by have := hlen5.out; omega
  clear hz hhol
  go_wp2_with fail
  go_loopw [12] (fun i wr => ∃ k : Nat, k ≤ H.length ∧ i = .int .i64 k ∧ wr = V7) (fun i _ => H.length - (intOf i).toNat)
  case atStart => exact ⟨0, by omega, rfl, rfl⟩
  case round =>
    obtain ⟨k, hk, rfl, hwr⟩ := hrel
    subst hwr
    by_cases h1 : k < H.length
    · obtain ⟨b, off, rfl, hc⟩ := hz'.out (by intro e; have := hlen5.out; rw [e] at this; simp at this; omega)
      have g0 := hc k (by rw [hlen5.out]; exact h1)
      rw [hget5.out k (by rw [hlen5.out]; exact h1)] at g0
      have w1 : IntKind.i64.wrap (nx + (k : Int)) = nx + (k : Int) := IntWalk.i64_in _ (by omega)
      clear hc
      go_wp2_with fail
      go_roundw
      case rel => exact ⟨k + 1, by omega, by go_num, trivial⟩
      case measure => simp [intOf]; omega
    · have e : k = H.length := by omega
      go_upto_region 14 with (fail)
      have hst : Hid (∀ V, Below wr.heap.size wr V → V.cell? ⟨V3.heap.size, 0, none⟩ = some (.slice b0 H.length d0) ∧ V.cell? ⟨V3.heap.size, 1, none⟩ = some (.string s) ∧ V.cell? ⟨V3.heap.size, 2, none⟩ = some (.int .i64 n) ∧ V.cell? ⟨V3.heap.size, 3, none⟩ = some (.slice b2 l.length d2) ∧ V.cell? ⟨w.heap.size, 0, none⟩ = some (.string s) ∧ V.cell? ⟨w.heap.size, 1, none⟩ = some (.int .i64 n) ∧ V.cell? ⟨w.heap.size, 2, none⟩ = some (.slice a1 l.length e1) ∧ V.cell? ⟨V5.heap.size, 0, none⟩ = some (.string y5.name) ∧ V.cell? ⟨V5.heap.size, 1, none⟩ = some (.int .i64 y5.n) ∧ V.cell? ⟨V5.heap.size, 2, none⟩ = some (.slice xa y5.args.length xc)) := fun V hV => by
        have b6 : Below V6.heap.size V6 V := h7.out.trans (hV.mono h7.out.size)
        have b4 := (hI6.out V b6).2
        have b1 := (hI4.out V b4).2
        obtain ⟨p0, p1, p2, p3⟩ := hS4.out V b4
        obtain ⟨q0, q1, q2⟩ := hS.out V b1
        obtain ⟨s0, s1, s2⟩ := hS6.out V b6
        exact ⟨p0, p1, p2, p3, q0, q1, q2, s0, s1, s2⟩
      have hty : Hid (∀ V, Below wr.heap.size wr V → IsSc V (.agg #[.slice b0 H.length d0, .string s, .int .i64 n, .slice b2 l.length d2]) ⟨H, .mk s n l⟩ ∧ IsTy V (.agg #[.string s, .int .i64 n, .slice a1 l.length e1]) (.mk s n l) ∧ IsTy V (.agg #[.string y5.name, .int .i64 y5.n, .slice xa y5.args.length xc]) y5 ∧ IsTy V (.agg #[.string s, .int .i64 n, .slice b2 l.length d2]) (.mk s n l) ∧ Below w.heap.size w V) := fun V hV => by
        have b6 : Below V6.heap.size V6 V := h7.out.trans (hV.mono h7.out.size)
        have b4 := (hI6.out V b6).2
        have b1 := (hI4.out V b4).2
        have i4 := (hI4.out V b4).1
        refine ⟨i4, (hI.out V b1).1, (hI6.out V b6).1, ?_, (hI.out V b1).2⟩
        obtain ⟨_, _, _, _, _, h1, _, _, _, h5⟩ := i4
        simp only [Value.agg.injEq, Array.mk.injEq, List.cons.injEq, and_true] at h1
        obtain ⟨_, rfl, rfl, rfl⟩ := h1
        exact h5
      have chkH : Hid (chkSc ⟨H, .mk s n l⟩ = true) := by rw [← hH'.out]; exact chk_closed hck'.out
      have freH : Hid (freeL ⟨H, .mk s n l⟩ = []) := by rw [← hH'.out]; exact free_closed hck'.out
      have hkH : Hid (k = H.length) := e
      clear e
      refine wp_region_inv (fun f a Vr => ∃ x : Nat → Value, a = ⟨#[.agg #[.string s, .int .i64 n, .slice a1 l.length e1], .int .u16 nx, .pointer (some ⟨w.heap.size, 0, none⟩), undef, x 46, .bool true, .pointer (some ⟨V3.heap.size, 0, none⟩), .int .i64 0, .pointer (some ⟨V5.heap.size, 0, none⟩), .int .i64 (nx + ↑H.length), .int .i64 0, .slice za H.length zc, .int .i64 ↑k, .bool true, .agg #[.string s, .int .i64 n, .slice a1 l.length e1], .bool true, .bool false, undef, .tuple #[.agg #[.slice b0 H.length d0, .string s, .int .i64 n, .slice b2 l.length d2], .int .i64 0], .agg #[.string s, .int .i64 n, .slice a1 l.length e1], .tuple #[.agg #[.slice b0 H.length d0, .string s, .int .i64 n, .slice b2 l.length d2], .int .i64 0], .agg #[.slice b0 H.length d0, .string s, .int .i64 n, .slice b2 l.length d2], .int .i64 0, .int .i64 0, .bool false, undef, undef, undef, undef, undef, undef, .tuple #[.agg #[.string y5.name, .int .i64 y5.n, .slice xa y5.args.length xc], .int .i64 (nx + ↑H.length), .int .i64 0], .agg #[.slice b0 H.length d0, .string s, .int .i64 n, .slice b2 l.length d2], .int .u16 nx, .int .i64 nx, .tuple #[.agg #[.string y5.name, .int .i64 y5.n, .slice xa y5.args.length xc], .int .i64 (nx + ↑H.length), .int .i64 0], .agg #[.string y5.name, .int .i64 y5.n, .slice xa y5.args.length xc], .int .i64 (nx + ↑H.length), .int .i64 0, .agg #[.string y5.name, .int .i64 y5.n, .slice xa y5.args.length xc], .slice za H.length zc, .int .i64 ↑k, .slice za H.length zc, .int .i64 ↑H.length, .bool false, u45, u46, u47, u48, u49, u50, u51, u52, u53, u54, u55, x 0, x 1, x 2, x 3, x 4, x 5, x 6, x 7, x 8, x 9, x 10, x 11, x 12, x 13, x 14, x 15, x 16, x 17, x 18, x 19, x 20, x 21, x 22, x 23, x 24, x 25, x 26, x 27, x 28, x 29, x 30, x 31, x 32, x 33, x 34, x 35, x 36, x 37, x 38, x 39, x 40, x 41, x 42, x 43, x 44, x 45], []⟩ ∧ (Below wr.heap.size wr Vr) ∧ (f 11 = true → ∃ a c, (x 11) = .slice a 0 c) ∧ (f 35 = true → IsTy Vr (x 35) (canonT (.mk s n l))) ∧ (f 37 = true → IsTy Vr (x 37) (canonT (.mk s n l))) ∧ VO [some (.bool true), some (.bool true), some (.int .i64 0), some (.bool true), some (.bool true), some (.bool true), some (.agg #[.slice b0 H.length d0, .string s, .int .i64 n, .slice b2 l.length d2]), some (.bool true), some (.bool true), some (.bool true), some (.agg #[.slice b0 H.length d0, .string s, .int .i64 n, .slice b2 l.length d2]), none, some (.int .i64 0), some (.bool true), some (.bool true), some (.bool true), some (.int .i64 (nx + (H.length : Int))), some (.int .u16 nx), some (.int .i64 nx), some (.pointer (some ⟨V3.heap.size, 0, none⟩)), some (.slice b0 H.length d0), some (.int .i64 (H.length : Int)), some (.int .i64 (nx + (H.length : Int))), some (.bool true), some (.bool true), some (.bool true), some (.slice za H.length zc), some (.int .i64 (H.length : Int)), some (.pointer (some ⟨V3.heap.size, 0, none⟩)), some (.slice b0 H.length d0), some (.int .i64 (H.length : Int)), some (.bool true), some (.bool true), some (.bool true), some (.agg #[.string y5.name, .int .i64 y5.n, .slice xa y5.args.length xc]), none, some (.agg #[.string s, .int .i64 n, .slice a1 l.length e1]), none, some (.bool true), some (.bool true), some (.bool true), some (.pointer (some ⟨V3.heap.size, 1, none⟩)), some (.agg #[.string s, .int .i64 n, .slice b2 l.length d2]), some (.agg #[.string s, .int .i64 n, .slice a1 l.length e1]), some (.bool true), some (.bool true), some (.bool true)] f x) (by kernel_rfl) (by kernel_rfl) (rs := [0, 1, 2, 3, 4, 5, 6, 7, 8, 9, 10, 11, 12, 13, 14, 15, 16, 17, 18, 19, 20, 21, 22, 23, 24, 25, 26, 27, 28, 29, 30, 31, 32, 33, 34, 35, 36, 37, 38, 39, 40, 41, 42, 43, 44, 45, 46]) (by kernel_rfl) ?start ?steps ?last
      case start => exact ⟨fun i => ([undef, undef, undef, undef, undef, undef, undef, undef, undef, undef, undef, undef, undef, undef, undef, undef, undef, undef, undef, undef, undef, undef, undef, undef, undef, undef, undef, undef, undef, undef, undef, undef, undef, undef, undef, undef, undef, undef, undef, undef, undef, undef, undef, undef, undef, undef, u4] : List Value).getD i undef, rfl, (Below.refl _ _).drew, by simp, by simp, by simp, VO.nil _ _⟩
      case steps =>
        refine (KeepsI.cons (ds := []) rfl (by kernel_rfl) ?s0 (KeepsI.cons (ds := [0]) rfl (by kernel_rfl) ?s1 (KeepsI.cons (ds := [1]) rfl (by kernel_rfl) ?s2 (KeepsI.cons (ds := [2, 1]) rfl (by kernel_rfl) ?s3 (KeepsI.cons (ds := [1, 3]) rfl (by kernel_rfl) ?s4 (KeepsI.cons (ds := [4]) rfl (by kernel_rfl) ?s5 (KeepsI.cons (ds := [5]) rfl (by kernel_rfl) ?s6 (KeepsI.cons (ds := [6, 5]) rfl (by kernel_rfl) ?s7 (KeepsI.cons (ds := [5, 7]) rfl (by kernel_rfl) ?s8 (KeepsI.cons (ds := [8]) rfl (by kernel_rfl) ?s9 (KeepsI.cons (ds := [9]) rfl (by kernel_rfl) ?s10 (KeepsI.cons (ds := [10, 9]) rfl (by kernel_rfl) ?s11 (KeepsI.cons (ds := [11, 9]) rfl (by kernel_rfl) ?s12 (KeepsI.cons (ds := [12, 9]) rfl (by kernel_rfl) ?s13 (KeepsI.cons (ds := [9, 13]) rfl (by kernel_rfl) ?s14 (KeepsI.cons (ds := [14]) rfl (by kernel_rfl) ?s15 (KeepsI.cons (ds := [15]) rfl (by kernel_rfl) ?s16 (KeepsI.cons (ds := [15]) rfl (by kernel_rfl) ?s17 (KeepsI.cons (ds := [17, 15]) rfl (by kernel_rfl) ?s18 (KeepsI.cons (ds := [15]) rfl (by kernel_rfl) ?s19 (KeepsI.cons (ds := [19, 15]) rfl (by kernel_rfl) ?s20 (KeepsI.cons (ds := [20, 15]) rfl (by kernel_rfl) ?s21 (KeepsI.cons (ds := [18, 21, 15]) rfl (by kernel_rfl) ?s22 (KeepsI.cons (ds := [16, 22, 15]) rfl (by kernel_rfl) ?s23 (KeepsI.cons (ds := [15, 23]) rfl (by kernel_rfl) ?s24 (KeepsI.cons (ds := [24]) rfl (by kernel_rfl) ?s25 (KeepsI.cons (ds := [25]) rfl (by kernel_rfl) ?s26 (KeepsI.cons (ds := [26, 25]) rfl (by kernel_rfl) ?s27 (KeepsI.cons (ds := [25]) rfl (by kernel_rfl) ?s28 (KeepsI.cons (ds := [28, 25]) rfl (by kernel_rfl) ?s29 (KeepsI.cons (ds := [29, 25]) rfl (by kernel_rfl) ?s30 (KeepsI.cons (ds := [27, 30, 25]) rfl (by kernel_rfl) ?s31 (KeepsI.cons (ds := [25, 31]) rfl (by kernel_rfl) ?s32 (KeepsI.cons (ds := [32]) rfl (by kernel_rfl) ?s33 (KeepsI.cons (ds := [33]) rfl (by kernel_rfl) ?s34 (KeepsI.cons (ds := [34, 33]) rfl (by kernel_rfl) ?s35 (KeepsI.cons (ds := [33]) rfl (by kernel_rfl) ?s36 (KeepsI.cons (ds := [36, 33]) rfl (by kernel_rfl) ?s37 (KeepsI.cons (ds := [35, 37, 33]) rfl (by kernel_rfl) ?s38 (KeepsI.cons (ds := [33, 38]) rfl (by kernel_rfl) ?s39 (KeepsI.cons (ds := [39]) rfl (by kernel_rfl) ?s40 (KeepsI.cons (ds := [40]) rfl (by kernel_rfl) ?s41 (KeepsI.cons (ds := [41, 40]) rfl (by kernel_rfl) ?s42 (KeepsI.cons (ds := [40]) rfl (by kernel_rfl) ?s43 (KeepsI.cons (ds := [42, 43, 40]) rfl (by kernel_rfl) ?s44 (KeepsI.cons (ds := [40, 44]) rfl (by kernel_rfl) ?s45 (KeepsI.cons (ds := [45]) rfl (by kernel_rfl) ?s46 KeepsI.nil)))))))))))))))))))))))))))))))))))))))))))))))
        all_goals (intro f a Vr hf hd hcl hI K' hK; obtain ⟨x, rfl, c0, c1, c2, c3, hx⟩ := hI)
        case s0 =>
          go_simp
          exact hK _ _ ⟨(upd x 0 (.bool true)), rfl, c0, c1, c2, c3, (hx.set 0 rfl)⟩
        case s1 =>
          have e0 := hx.get 0 rfl (hd 0 (by simp))
          rw [e0]
          clear e0
          go_simp
          exact hK _ _ ⟨(upd (upd x 0 (.bool true)) 1 (.bool true)), rfl, c0, c1, c2, c3, ((hx.put 0 rfl).set 1 rfl)⟩
        case s2 =>
          have e1 := hx.get 1 rfl (hd 1 (by simp))
          rw [e1]
          clear e1
          go_simp
          exact hK _ _ ⟨(upd (upd x 1 (.bool true)) 2 (.int .i64 0)), rfl, c0, c1, c2, c3, ((hx.put 1 rfl).set 2 rfl)⟩
        case s3 =>
          have e2 := hx.get 2 rfl (hd 2 (by simp))
          have e1 := hx.get 1 rfl (hd 1 (by simp))
          rw [e2, e1]
          clear e2 e1
          go_simp
          exact hK _ _ ⟨(upd (upd (upd x 2 (.int .i64 0)) 1 (.bool true)) 3 (.bool true)), rfl, c0, c1, c2, c3, (((hx.put 2 rfl).put 1 rfl).set 3 rfl)⟩
        case s4 =>
          have e1 := hx.get 1 rfl (hd 1 (by simp))
          have e3 := hx.get 3 rfl (hd 3 (by simp))
          rw [e1, e3]
          clear e1 e3
          go_simp
          exact hK _ _ ⟨(upd (upd (upd x 1 (.bool true)) 3 (.bool true)) 4 (.bool true)), rfl, c0, c1, c2, c3, (((hx.put 1 rfl).put 3 rfl).set 4 rfl)⟩
        case s5 =>
          have e4 := hx.get 4 rfl (hd 4 (by simp))
          rw [e4]
          clear e4
          go_simp
          exact hK _ _ ⟨(upd (upd x 4 (.bool true)) 5 (.bool true)), rfl, c0, c1, c2, c3, ((hx.put 4 rfl).set 5 rfl)⟩
        case s6 =>
          have e5 := hx.get 5 rfl (hd 5 (by simp))
          rw [e5]
          clear e5
          have n7 : f 7 = false := by cases h : f 7; rfl; exact absurd (hcl 7 6 (by kernel_rfl) (h)) (by rw [hf]; simp)
          have n11 : f 11 = false := by cases h : f 11; rfl; exact absurd (hcl 7 6 (by kernel_rfl) (hcl 8 7 (by kernel_rfl) (hcl 9 8 (by kernel_rfl) (hcl 11 9 (by kernel_rfl) (h))))) (by rw [hf]; simp)
          have n12 : f 12 = false := by cases h : f 12; rfl; exact absurd (hcl 7 6 (by kernel_rfl) (hcl 8 7 (by kernel_rfl) (hcl 9 8 (by kernel_rfl) (hcl 12 9 (by kernel_rfl) (h))))) (by rw [hf]; simp)
          have n18 : f 18 = false := by cases h : f 18; rfl; exact absurd (hcl 7 6 (by kernel_rfl) (hcl 8 7 (by kernel_rfl) (hcl 9 8 (by kernel_rfl) (hcl 14 9 (by kernel_rfl) (hcl 15 14 (by kernel_rfl) (hcl 18 15 (by kernel_rfl) (h))))))) (by rw [hf]; simp)
          have n22 : f 22 = false := by cases h : f 22; rfl; exact absurd (hcl 7 6 (by kernel_rfl) (hcl 8 7 (by kernel_rfl) (hcl 9 8 (by kernel_rfl) (hcl 14 9 (by kernel_rfl) (hcl 15 14 (by kernel_rfl) (hcl 22 15 (by kernel_rfl) (h))))))) (by rw [hf]; simp)
          have n35 : f 35 = false := by cases h : f 35; rfl; exact absurd (hcl 7 6 (by kernel_rfl) (hcl 8 7 (by kernel_rfl) (hcl 9 8 (by kernel_rfl) (hcl 14 9 (by kernel_rfl) (hcl 15 14 (by kernel_rfl) (hcl 24 15 (by kernel_rfl) (hcl 25 24 (by kernel_rfl) (hcl 32 25 (by kernel_rfl) (hcl 33 32 (by kernel_rfl) (hcl 35 33 (by kernel_rfl) (h))))))))))) (by rw [hf]; simp)
          have n37 : f 37 = false := by cases h : f 37; rfl; exact absurd (hcl 7 6 (by kernel_rfl) (hcl 8 7 (by kernel_rfl) (hcl 9 8 (by kernel_rfl) (hcl 14 9 (by kernel_rfl) (hcl 15 14 (by kernel_rfl) (hcl 24 15 (by kernel_rfl) (hcl 25 24 (by kernel_rfl) (hcl 32 25 (by kernel_rfl) (hcl 33 32 (by kernel_rfl) (hcl 37 33 (by kernel_rfl) (h))))))))))) (by rw [hf]; simp)
          have n38 : f 38 = false := by cases h : f 38; rfl; exact absurd (hcl 7 6 (by kernel_rfl) (hcl 8 7 (by kernel_rfl) (hcl 9 8 (by kernel_rfl) (hcl 14 9 (by kernel_rfl) (hcl 15 14 (by kernel_rfl) (hcl 24 15 (by kernel_rfl) (hcl 25 24 (by kernel_rfl) (hcl 32 25 (by kernel_rfl) (hcl 33 32 (by kernel_rfl) (hcl 38 33 (by kernel_rfl) (h))))))))))) (by rw [hf]; simp)
          have n44 : f 44 = false := by cases h : f 44; rfl; exact absurd (hcl 7 6 (by kernel_rfl) (hcl 8 7 (by kernel_rfl) (hcl 9 8 (by kernel_rfl) (hcl 14 9 (by kernel_rfl) (hcl 15 14 (by kernel_rfl) (hcl 24 15 (by kernel_rfl) (hcl 25 24 (by kernel_rfl) (hcl 32 25 (by kernel_rfl) (hcl 33 32 (by kernel_rfl) (hcl 39 33 (by kernel_rfl) (hcl 40 39 (by kernel_rfl) (hcl 44 40 (by kernel_rfl) (h))))))))))))) (by rw [hf]; simp)
          obtain ⟨p0, p1, p2, p3, q0, q1, q2, s0, s1, s2⟩ := hst.out Vr c0
          clear n7 n11 n12 n18 n22 n35 n37 n38 n44
          go_simp
          exact hK _ _ ⟨(upd (upd x 5 (.bool true)) 6 (.agg #[.slice b0 H.length d0, .string s, .int .i64 n, .slice b2 l.length d2])), rfl, c0, c1, c2, c3, ((hx.put 5 rfl).set 6 rfl)⟩
        case s7 =>
          have e6 := hx.get 6 rfl (hd 6 (by simp))
          have e5 := hx.get 5 rfl (hd 5 (by simp))
          rw [e6, e5]
          clear e6 e5
          have n11 : f 11 = false := by cases h : f 11; rfl; exact absurd (hcl 8 7 (by kernel_rfl) (hcl 9 8 (by kernel_rfl) (hcl 11 9 (by kernel_rfl) (h)))) (by rw [hf]; simp)
          have n12 : f 12 = false := by cases h : f 12; rfl; exact absurd (hcl 8 7 (by kernel_rfl) (hcl 9 8 (by kernel_rfl) (hcl 12 9 (by kernel_rfl) (h)))) (by rw [hf]; simp)
          have n18 : f 18 = false := by cases h : f 18; rfl; exact absurd (hcl 8 7 (by kernel_rfl) (hcl 9 8 (by kernel_rfl) (hcl 14 9 (by kernel_rfl) (hcl 15 14 (by kernel_rfl) (hcl 18 15 (by kernel_rfl) (h)))))) (by rw [hf]; simp)
          have n22 : f 22 = false := by cases h : f 22; rfl; exact absurd (hcl 8 7 (by kernel_rfl) (hcl 9 8 (by kernel_rfl) (hcl 14 9 (by kernel_rfl) (hcl 15 14 (by kernel_rfl) (hcl 22 15 (by kernel_rfl) (h)))))) (by rw [hf]; simp)
          have n35 : f 35 = false := by cases h : f 35; rfl; exact absurd (hcl 8 7 (by kernel_rfl) (hcl 9 8 (by kernel_rfl) (hcl 14 9 (by kernel_rfl) (hcl 15 14 (by kernel_rfl) (hcl 24 15 (by kernel_rfl) (hcl 25 24 (by kernel_rfl) (hcl 32 25 (by kernel_rfl) (hcl 33 32 (by kernel_rfl) (hcl 35 33 (by kernel_rfl) (h)))))))))) (by rw [hf]; simp)
          have n37 : f 37 = false := by cases h : f 37; rfl; exact absurd (hcl 8 7 (by kernel_rfl) (hcl 9 8 (by kernel_rfl) (hcl 14 9 (by kernel_rfl) (hcl 15 14 (by kernel_rfl) (hcl 24 15 (by kernel_rfl) (hcl 25 24 (by kernel_rfl) (hcl 32 25 (by kernel_rfl) (hcl 33 32 (by kernel_rfl) (hcl 37 33 (by kernel_rfl) (h)))))))))) (by rw [hf]; simp)
          have n38 : f 38 = false := by cases h : f 38; rfl; exact absurd (hcl 8 7 (by kernel_rfl) (hcl 9 8 (by kernel_rfl) (hcl 14 9 (by kernel_rfl) (hcl 15 14 (by kernel_rfl) (hcl 24 15 (by kernel_rfl) (hcl 25 24 (by kernel_rfl) (hcl 32 25 (by kernel_rfl) (hcl 33 32 (by kernel_rfl) (hcl 38 33 (by kernel_rfl) (h)))))))))) (by rw [hf]; simp)
          have n44 : f 44 = false := by cases h : f 44; rfl; exact absurd (hcl 8 7 (by kernel_rfl) (hcl 9 8 (by kernel_rfl) (hcl 14 9 (by kernel_rfl) (hcl 15 14 (by kernel_rfl) (hcl 24 15 (by kernel_rfl) (hcl 25 24 (by kernel_rfl) (hcl 32 25 (by kernel_rfl) (hcl 33 32 (by kernel_rfl) (hcl 39 33 (by kernel_rfl) (hcl 40 39 (by kernel_rfl) (hcl 44 40 (by kernel_rfl) (h)))))))))))) (by rw [hf]; simp)
          obtain ⟨t1, t2, t3, t4, _⟩ := hty.out Vr c0
          have hq := sc_Check _ _ Vr t1
          rw [chkH.out] at hq
          go_simp
          refine hq.mono ?_
          rintro e V ⟨rfl, hB⟩
          exact hK _ _ ⟨upd (upd (upd x 6 (.agg #[.slice b0 H.length d0, .string s, .int .i64 n, .slice b2 l.length d2])) 5 (.bool true)) 7 (.bool true), rfl, c0.trans (hB.mono c0.size), c1, fun h => TyX.below (c2 h) hB, fun h => TyX.below (c3 h) hB, ((hx.put 6 rfl).put 5 rfl).set 7 rfl⟩
        case s8 =>
          have e5 := hx.get 5 rfl (hd 5 (by simp))
          have e7 := hx.get 7 rfl (hd 7 (by simp))
          rw [e5, e7]
          clear e5 e7
          go_simp
          exact hK _ _ ⟨(upd (upd (upd x 5 (.bool true)) 7 (.bool true)) 8 (.bool true)), rfl, c0, c1, c2, c3, (((hx.put 5 rfl).put 7 rfl).set 8 rfl)⟩
        case s9 =>
          have e8 := hx.get 8 rfl (hd 8 (by simp))
          rw [e8]
          clear e8
          go_simp
          exact hK _ _ ⟨(upd (upd x 8 (.bool true)) 9 (.bool true)), rfl, c0, c1, c2, c3, ((hx.put 8 rfl).set 9 rfl)⟩
        case s10 =>
          have e9 := hx.get 9 rfl (hd 9 (by simp))
          rw [e9]
          clear e9
          have n11 : f 11 = false := by cases h : f 11; rfl; exact absurd (hcl 11 10 (by kernel_rfl) (h)) (by rw [hf]; simp)
          have n12 : f 12 = false := by cases h : f 12; rfl; exact absurd (hcl 11 10 (by kernel_rfl) (hcl 12 11 (by kernel_rfl) (h))) (by rw [hf]; simp)
          have n18 : f 18 = false := by cases h : f 18; rfl; exact absurd (hcl 11 10 (by kernel_rfl) (hcl 12 11 (by kernel_rfl) (hcl 13 12 (by kernel_rfl) (hcl 14 13 (by kernel_rfl) (hcl 15 14 (by kernel_rfl) (hcl 18 15 (by kernel_rfl) (h))))))) (by rw [hf]; simp)
          have n22 : f 22 = false := by cases h : f 22; rfl; exact absurd (hcl 11 10 (by kernel_rfl) (hcl 12 11 (by kernel_rfl) (hcl 13 12 (by kernel_rfl) (hcl 14 13 (by kernel_rfl) (hcl 15 14 (by kernel_rfl) (hcl 22 15 (by kernel_rfl) (h))))))) (by rw [hf]; simp)
          have n35 : f 35 = false := by cases h : f 35; rfl; exact absurd (hcl 11 10 (by kernel_rfl) (hcl 12 11 (by kernel_rfl) (hcl 13 12 (by kernel_rfl) (hcl 14 13 (by kernel_rfl) (hcl 15 14 (by kernel_rfl) (hcl 24 15 (by kernel_rfl) (hcl 25 24 (by kernel_rfl) (hcl 32 25 (by kernel_rfl) (hcl 33 32 (by kernel_rfl) (hcl 35 33 (by kernel_rfl) (h))))))))))) (by rw [hf]; simp)
          have n37 : f 37 = false := by cases h : f 37; rfl; exact absurd (hcl 11 10 (by kernel_rfl) (hcl 12 11 (by kernel_rfl) (hcl 13 12 (by kernel_rfl) (hcl 14 13 (by kernel_rfl) (hcl 15 14 (by kernel_rfl) (hcl 24 15 (by kernel_rfl) (hcl 25 24 (by kernel_rfl) (hcl 32 25 (by kernel_rfl) (hcl 33 32 (by kernel_rfl) (hcl 37 33 (by kernel_rfl) (h))))))))))) (by rw [hf]; simp)
          have n38 : f 38 = false := by cases h : f 38; rfl; exact absurd (hcl 11 10 (by kernel_rfl) (hcl 12 11 (by kernel_rfl) (hcl 13 12 (by kernel_rfl) (hcl 14 13 (by kernel_rfl) (hcl 15 14 (by kernel_rfl) (hcl 24 15 (by kernel_rfl) (hcl 25 24 (by kernel_rfl) (hcl 32 25 (by kernel_rfl) (hcl 33 32 (by kernel_rfl) (hcl 38 33 (by kernel_rfl) (h))))))))))) (by rw [hf]; simp)
          have n44 : f 44 = false := by cases h : f 44; rfl; exact absurd (hcl 11 10 (by kernel_rfl) (hcl 12 11 (by kernel_rfl) (hcl 13 12 (by kernel_rfl) (hcl 14 13 (by kernel_rfl) (hcl 15 14 (by kernel_rfl) (hcl 24 15 (by kernel_rfl) (hcl 25 24 (by kernel_rfl) (hcl 32 25 (by kernel_rfl) (hcl 33 32 (by kernel_rfl) (hcl 39 33 (by kernel_rfl) (hcl 40 39 (by kernel_rfl) (hcl 44 40 (by kernel_rfl) (h))))))))))))) (by rw [hf]; simp)
          have y7 : f 7 = true := hcl 8 7 (by kernel_rfl) (hcl 9 8 (by kernel_rfl) (hd 9 (by simp)))
          obtain ⟨p0, p1, p2, p3, q0, q1, q2, s0, s1, s2⟩ := hst.out Vr c0
          clear n11 n12 n18 n22 n35 n37 n38 n44 y7
          go_simp
          exact hK _ _ ⟨(upd (upd x 9 (.bool true)) 10 (.agg #[.slice b0 H.length d0, .string s, .int .i64 n, .slice b2 l.length d2])), rfl, c0, c1, c2, c3, ((hx.put 9 rfl).set 10 rfl)⟩
        case s11 =>
          have e10 := hx.get 10 rfl (hd 10 (by simp))
          have e9 := hx.get 9 rfl (hd 9 (by simp))
          rw [e10, e9]
          clear e10 e9
          have n12 : f 12 = false := by cases h : f 12; rfl; exact absurd (hcl 12 11 (by kernel_rfl) (h)) (by rw [hf]; simp)
          have n18 : f 18 = false := by cases h : f 18; rfl; exact absurd (hcl 12 11 (by kernel_rfl) (hcl 13 12 (by kernel_rfl) (hcl 14 13 (by kernel_rfl) (hcl 15 14 (by kernel_rfl) (hcl 18 15 (by kernel_rfl) (h)))))) (by rw [hf]; simp)
          have n22 : f 22 = false := by cases h : f 22; rfl; exact absurd (hcl 12 11 (by kernel_rfl) (hcl 13 12 (by kernel_rfl) (hcl 14 13 (by kernel_rfl) (hcl 15 14 (by kernel_rfl) (hcl 22 15 (by kernel_rfl) (h)))))) (by rw [hf]; simp)
          have n35 : f 35 = false := by cases h : f 35; rfl; exact absurd (hcl 12 11 (by kernel_rfl) (hcl 13 12 (by kernel_rfl) (hcl 14 13 (by kernel_rfl) (hcl 15 14 (by kernel_rfl) (hcl 24 15 (by kernel_rfl) (hcl 25 24 (by kernel_rfl) (hcl 32 25 (by kernel_rfl) (hcl 33 32 (by kernel_rfl) (hcl 35 33 (by kernel_rfl) (h)))))))))) (by rw [hf]; simp)
          have n37 : f 37 = false := by cases h : f 37; rfl; exact absurd (hcl 12 11 (by kernel_rfl) (hcl 13 12 (by kernel_rfl) (hcl 14 13 (by kernel_rfl) (hcl 15 14 (by kernel_rfl) (hcl 24 15 (by kernel_rfl) (hcl 25 24 (by kernel_rfl) (hcl 32 25 (by kernel_rfl) (hcl 33 32 (by kernel_rfl) (hcl 37 33 (by kernel_rfl) (h)))))))))) (by rw [hf]; simp)
          have n38 : f 38 = false := by cases h : f 38; rfl; exact absurd (hcl 12 11 (by kernel_rfl) (hcl 13 12 (by kernel_rfl) (hcl 14 13 (by kernel_rfl) (hcl 15 14 (by kernel_rfl) (hcl 24 15 (by kernel_rfl) (hcl 25 24 (by kernel_rfl) (hcl 32 25 (by kernel_rfl) (hcl 33 32 (by kernel_rfl) (hcl 38 33 (by kernel_rfl) (h)))))))))) (by rw [hf]; simp)
          have n44 : f 44 = false := by cases h : f 44; rfl; exact absurd (hcl 12 11 (by kernel_rfl) (hcl 13 12 (by kernel_rfl) (hcl 14 13 (by kernel_rfl) (hcl 15 14 (by kernel_rfl) (hcl 24 15 (by kernel_rfl) (hcl 25 24 (by kernel_rfl) (hcl 32 25 (by kernel_rfl) (hcl 33 32 (by kernel_rfl) (hcl 39 33 (by kernel_rfl) (hcl 40 39 (by kernel_rfl) (hcl 44 40 (by kernel_rfl) (h)))))))))))) (by rw [hf]; simp)
          have y7 : f 7 = true := hcl 8 7 (by kernel_rfl) (hcl 9 8 (by kernel_rfl) (hd 9 (by simp)))
          obtain ⟨t1, t2, t3, t4, _⟩ := hty.out Vr c0
          have hq := sc_Free _ _ Vr t1
          rw [freH.out] at hq
          go_simp
          refine hq.mono ?_
          rintro e V ⟨⟨z, rfl, hz⟩, hB⟩
          obtain ⟨ga, gc, hg, _⟩ := hz
          exact hK _ _ ⟨upd (upd (upd x 10 (.agg #[.slice b0 H.length d0, .string s, .int .i64 n, .slice b2 l.length d2])) 9 (.bool true)) 11 z, rfl, c0.trans (hB.mono c0.size), fun _ => ⟨ga, gc, hg⟩, fun h => TyX.below (c2 h) hB, fun h => TyX.below (c3 h) hB, VO.free ((hx.put 10 rfl).put 9 rfl) 11 rfl _⟩
        case s12 =>
          have e9 := hx.get 9 rfl (hd 9 (by simp))
          rw [e9]
          clear e9
          have n18 : f 18 = false := by cases h : f 18; rfl; exact absurd (hcl 13 12 (by kernel_rfl) (hcl 14 13 (by kernel_rfl) (hcl 15 14 (by kernel_rfl) (hcl 18 15 (by kernel_rfl) (h))))) (by rw [hf]; simp)
          have n22 : f 22 = false := by cases h : f 22; rfl; exact absurd (hcl 13 12 (by kernel_rfl) (hcl 14 13 (by kernel_rfl) (hcl 15 14 (by kernel_rfl) (hcl 22 15 (by kernel_rfl) (h))))) (by rw [hf]; simp)
          have n35 : f 35 = false := by cases h : f 35; rfl; exact absurd (hcl 13 12 (by kernel_rfl) (hcl 14 13 (by kernel_rfl) (hcl 15 14 (by kernel_rfl) (hcl 24 15 (by kernel_rfl) (hcl 25 24 (by kernel_rfl) (hcl 32 25 (by kernel_rfl) (hcl 33 32 (by kernel_rfl) (hcl 35 33 (by kernel_rfl) (h))))))))) (by rw [hf]; simp)
          have n37 : f 37 = false := by cases h : f 37; rfl; exact absurd (hcl 13 12 (by kernel_rfl) (hcl 14 13 (by kernel_rfl) (hcl 15 14 (by kernel_rfl) (hcl 24 15 (by kernel_rfl) (hcl 25 24 (by kernel_rfl) (hcl 32 25 (by kernel_rfl) (hcl 33 32 (by kernel_rfl) (hcl 37 33 (by kernel_rfl) (h))))))))) (by rw [hf]; simp)
          have n38 : f 38 = false := by cases h : f 38; rfl; exact absurd (hcl 13 12 (by kernel_rfl) (hcl 14 13 (by kernel_rfl) (hcl 15 14 (by kernel_rfl) (hcl 24 15 (by kernel_rfl) (hcl 25 24 (by kernel_rfl) (hcl 32 25 (by kernel_rfl) (hcl 33 32 (by kernel_rfl) (hcl 38 33 (by kernel_rfl) (h))))))))) (by rw [hf]; simp)
          have n44 : f 44 = false := by cases h : f 44; rfl; exact absurd (hcl 13 12 (by kernel_rfl) (hcl 14 13 (by kernel_rfl) (hcl 15 14 (by kernel_rfl) (hcl 24 15 (by kernel_rfl) (hcl 25 24 (by kernel_rfl) (hcl 32 25 (by kernel_rfl) (hcl 33 32 (by kernel_rfl) (hcl 39 33 (by kernel_rfl) (hcl 40 39 (by kernel_rfl) (hcl 44 40 (by kernel_rfl) (h))))))))))) (by rw [hf]; simp)
          have y7 : f 7 = true := hcl 8 7 (by kernel_rfl) (hcl 9 8 (by kernel_rfl) (hd 9 (by simp)))
          have y11 : f 11 = true := hd 11 (by simp)
          obtain ⟨ga, gc, e11⟩ := c1 (hd 11 (by simp))
          rw [e11]
          go_simp
          exact hK _ _ ⟨upd (upd (upd x 9 (.bool true)) 11 (.slice ga 0 gc)) 12 (.int .i64 0), rfl, c0, fun _ => ⟨ga, gc, rfl⟩, c2, c3, VO.set (VO.keep (hx.put 9 rfl) 11 rfl _) 12 rfl⟩
        case s13 =>
          have e12 := hx.get 12 rfl (hd 12 (by simp))
          have e9 := hx.get 9 rfl (hd 9 (by simp))
          rw [e12, e9]
          clear e12 e9
          go_simp
          exact hK _ _ ⟨(upd (upd (upd x 12 (.int .i64 0)) 9 (.bool true)) 13 (.bool true)), rfl, c0, c1, c2, c3, (((hx.put 12 rfl).put 9 rfl).set 13 rfl)⟩
        case s14 =>
          have e9 := hx.get 9 rfl (hd 9 (by simp))
          have e13 := hx.get 13 rfl (hd 13 (by simp))
          rw [e9, e13]
          clear e9 e13
          go_simp
          exact hK _ _ ⟨(upd (upd (upd x 9 (.bool true)) 13 (.bool true)) 14 (.bool true)), rfl, c0, c1, c2, c3, (((hx.put 9 rfl).put 13 rfl).set 14 rfl)⟩
        case s15 =>
          have e14 := hx.get 14 rfl (hd 14 (by simp))
          rw [e14]
          clear e14
          go_simp
          exact hK _ _ ⟨(upd (upd x 14 (.bool true)) 15 (.bool true)), rfl, c0, c1, c2, c3, ((hx.put 14 rfl).set 15 rfl)⟩
        case s16 =>
          have e15 := hx.get 15 rfl (hd 15 (by simp))
          rw [e15]
          clear e15
          go_simp
          exact hK _ _ ⟨(upd (upd x 15 (.bool true)) 16 (.int .i64 (nx + (H.length : Int)))), rfl, c0, c1, c2, c3, ((hx.put 15 rfl).set 16 rfl)⟩
        case s17 =>
          have e15 := hx.get 15 rfl (hd 15 (by simp))
          rw [e15]
          clear e15
          go_simp
          exact hK _ _ ⟨(upd (upd x 15 (.bool true)) 17 (.int .u16 nx)), rfl, c0, c1, c2, c3, ((hx.put 15 rfl).set 17 rfl)⟩
        case s18 =>
          have e17 := hx.get 17 rfl (hd 17 (by simp))
          have e15 := hx.get 15 rfl (hd 15 (by simp))
          rw [e17, e15]
          clear e17 e15
          have n22 : f 22 = false := by cases h : f 22; rfl; exact absurd (hcl 22 18 (by kernel_rfl) (h)) (by rw [hf]; simp)
          have n35 : f 35 = false := by cases h : f 35; rfl; exact absurd (hcl 22 18 (by kernel_rfl) (hcl 23 22 (by kernel_rfl) (hcl 24 23 (by kernel_rfl) (hcl 25 24 (by kernel_rfl) (hcl 32 25 (by kernel_rfl) (hcl 33 32 (by kernel_rfl) (hcl 35 33 (by kernel_rfl) (h)))))))) (by rw [hf]; simp)
          have n37 : f 37 = false := by cases h : f 37; rfl; exact absurd (hcl 22 18 (by kernel_rfl) (hcl 23 22 (by kernel_rfl) (hcl 24 23 (by kernel_rfl) (hcl 25 24 (by kernel_rfl) (hcl 32 25 (by kernel_rfl) (hcl 33 32 (by kernel_rfl) (hcl 37 33 (by kernel_rfl) (h)))))))) (by rw [hf]; simp)
          have n38 : f 38 = false := by cases h : f 38; rfl; exact absurd (hcl 22 18 (by kernel_rfl) (hcl 23 22 (by kernel_rfl) (hcl 24 23 (by kernel_rfl) (hcl 25 24 (by kernel_rfl) (hcl 32 25 (by kernel_rfl) (hcl 33 32 (by kernel_rfl) (hcl 38 33 (by kernel_rfl) (h)))))))) (by rw [hf]; simp)
          have n44 : f 44 = false := by cases h : f 44; rfl; exact absurd (hcl 22 18 (by kernel_rfl) (hcl 23 22 (by kernel_rfl) (hcl 24 23 (by kernel_rfl) (hcl 25 24 (by kernel_rfl) (hcl 32 25 (by kernel_rfl) (hcl 33 32 (by kernel_rfl) (hcl 39 33 (by kernel_rfl) (hcl 40 39 (by kernel_rfl) (hcl 44 40 (by kernel_rfl) (h)))))))))) (by rw [hf]; simp)
          have y7 : f 7 = true := hcl 8 7 (by kernel_rfl) (hcl 9 8 (by kernel_rfl) (hcl 14 9 (by kernel_rfl) (hcl 15 14 (by kernel_rfl) (hd 15 (by simp)))))
          have y11 : f 11 = true := hcl 12 11 (by kernel_rfl) (hcl 13 12 (by kernel_rfl) (hcl 14 13 (by kernel_rfl) (hcl 15 14 (by kernel_rfl) (hd 15 (by simp)))))
          have y12 : f 12 = true := hcl 13 12 (by kernel_rfl) (hcl 14 13 (by kernel_rfl) (hcl 15 14 (by kernel_rfl) (hd 15 (by simp))))
          have w1 : IntKind.i64.wrap nx = nx := IntWalk.i64_in _ (by omega)
          go_simp
          exact hK _ _ ⟨upd (upd (upd x 17 (.int .u16 nx)) 15 (.bool true)) 18 (.int .i64 nx), rfl, c0, c1, c2, c3, ((hx.put 17 rfl).put 15 rfl).set 18 rfl⟩
        case s19 =>
          have e15 := hx.get 15 rfl (hd 15 (by simp))
          rw [e15]
          clear e15
          go_simp
          exact hK _ _ ⟨(upd (upd x 15 (.bool true)) 19 (.pointer (some ⟨V3.heap.size, 0, none⟩))), rfl, c0, c1, c2, c3, ((hx.put 15 rfl).set 19 rfl)⟩
        case s20 =>
          have e19 := hx.get 19 rfl (hd 19 (by simp))
          have e15 := hx.get 15 rfl (hd 15 (by simp))
          rw [e19, e15]
          clear e19 e15
          have n22 : f 22 = false := by cases h : f 22; rfl; exact absurd (hcl 21 20 (by kernel_rfl) (hcl 22 21 (by kernel_rfl) (h))) (by rw [hf]; simp)
          have n35 : f 35 = false := by cases h : f 35; rfl; exact absurd (hcl 21 20 (by kernel_rfl) (hcl 22 21 (by kernel_rfl) (hcl 23 22 (by kernel_rfl) (hcl 24 23 (by kernel_rfl) (hcl 25 24 (by kernel_rfl) (hcl 32 25 (by kernel_rfl) (hcl 33 32 (by kernel_rfl) (hcl 35 33 (by kernel_rfl) (h))))))))) (by rw [hf]; simp)
          have n37 : f 37 = false := by cases h : f 37; rfl; exact absurd (hcl 21 20 (by kernel_rfl) (hcl 22 21 (by kernel_rfl) (hcl 23 22 (by kernel_rfl) (hcl 24 23 (by kernel_rfl) (hcl 25 24 (by kernel_rfl) (hcl 32 25 (by kernel_rfl) (hcl 33 32 (by kernel_rfl) (hcl 37 33 (by kernel_rfl) (h))))))))) (by rw [hf]; simp)
          have n38 : f 38 = false := by cases h : f 38; rfl; exact absurd (hcl 21 20 (by kernel_rfl) (hcl 22 21 (by kernel_rfl) (hcl 23 22 (by kernel_rfl) (hcl 24 23 (by kernel_rfl) (hcl 25 24 (by kernel_rfl) (hcl 32 25 (by kernel_rfl) (hcl 33 32 (by kernel_rfl) (hcl 38 33 (by kernel_rfl) (h))))))))) (by rw [hf]; simp)
          have n44 : f 44 = false := by cases h : f 44; rfl; exact absurd (hcl 21 20 (by kernel_rfl) (hcl 22 21 (by kernel_rfl) (hcl 23 22 (by kernel_rfl) (hcl 24 23 (by kernel_rfl) (hcl 25 24 (by kernel_rfl) (hcl 32 25 (by kernel_rfl) (hcl 33 32 (by kernel_rfl) (hcl 39 33 (by kernel_rfl) (hcl 40 39 (by kernel_rfl) (hcl 44 40 (by kernel_rfl) (h))))))))))) (by rw [hf]; simp)
          have y7 : f 7 = true := hcl 8 7 (by kernel_rfl) (hcl 9 8 (by kernel_rfl) (hcl 14 9 (by kernel_rfl) (hcl 15 14 (by kernel_rfl) (hd 15 (by simp)))))
          have y11 : f 11 = true := hcl 12 11 (by kernel_rfl) (hcl 13 12 (by kernel_rfl) (hcl 14 13 (by kernel_rfl) (hcl 15 14 (by kernel_rfl) (hd 15 (by simp)))))
          have y12 : f 12 = true := hcl 13 12 (by kernel_rfl) (hcl 14 13 (by kernel_rfl) (hcl 15 14 (by kernel_rfl) (hd 15 (by simp))))
          obtain ⟨p0, p1, p2, p3, q0, q1, q2, s0, s1, s2⟩ := hst.out Vr c0
          clear n22 n35 n37 n38 n44 y7 y11 y12
          go_simp
          exact hK _ _ ⟨(upd (upd (upd x 19 (.pointer (some ⟨V3.heap.size, 0, none⟩))) 15 (.bool true)) 20 (.slice b0 H.length d0)), rfl, c0, c1, c2, c3, (((hx.put 19 rfl).put 15 rfl).set 20 rfl)⟩
        case s21 =>
          have e20 := hx.get 20 rfl (hd 20 (by simp))
          have e15 := hx.get 15 rfl (hd 15 (by simp))
          rw [e20, e15]
          clear e20 e15
          go_simp
          exact hK _ _ ⟨(upd (upd (upd x 20 (.slice b0 H.length d0)) 15 (.bool true)) 21 (.int .i64 (H.length : Int))), rfl, c0, c1, c2, c3, (((hx.put 20 rfl).put 15 rfl).set 21 rfl)⟩
        case s22 =>
          have e18 := hx.get 18 rfl (hd 18 (by simp))
          have e21 := hx.get 21 rfl (hd 21 (by simp))
          have e15 := hx.get 15 rfl (hd 15 (by simp))
          rw [e18, e21, e15]
          clear e18 e21 e15
          have n35 : f 35 = false := by cases h : f 35; rfl; exact absurd (hcl 23 22 (by kernel_rfl) (hcl 24 23 (by kernel_rfl) (hcl 25 24 (by kernel_rfl) (hcl 32 25 (by kernel_rfl) (hcl 33 32 (by kernel_rfl) (hcl 35 33 (by kernel_rfl) (h))))))) (by rw [hf]; simp)
          have n37 : f 37 = false := by cases h : f 37; rfl; exact absurd (hcl 23 22 (by kernel_rfl) (hcl 24 23 (by kernel_rfl) (hcl 25 24 (by kernel_rfl) (hcl 32 25 (by kernel_rfl) (hcl 33 32 (by kernel_rfl) (hcl 37 33 (by kernel_rfl) (h))))))) (by rw [hf]; simp)
          have n38 : f 38 = false := by cases h : f 38; rfl; exact absurd (hcl 23 22 (by kernel_rfl) (hcl 24 23 (by kernel_rfl) (hcl 25 24 (by kernel_rfl) (hcl 32 25 (by kernel_rfl) (hcl 33 32 (by kernel_rfl) (hcl 38 33 (by kernel_rfl) (h))))))) (by rw [hf]; simp)
          have n44 : f 44 = false := by cases h : f 44; rfl; exact absurd (hcl 23 22 (by kernel_rfl) (hcl 24 23 (by kernel_rfl) (hcl 25 24 (by kernel_rfl) (hcl 32 25 (by kernel_rfl) (hcl 33 32 (by kernel_rfl) (hcl 39 33 (by kernel_rfl) (hcl 40 39 (by kernel_rfl) (hcl 44 40 (by kernel_rfl) (h))))))))) (by rw [hf]; simp)
          have y7 : f 7 = true := hcl 8 7 (by kernel_rfl) (hcl 9 8 (by kernel_rfl) (hcl 14 9 (by kernel_rfl) (hcl 15 14 (by kernel_rfl) (hd 15 (by simp)))))
          have y11 : f 11 = true := hcl 12 11 (by kernel_rfl) (hcl 13 12 (by kernel_rfl) (hcl 14 13 (by kernel_rfl) (hcl 15 14 (by kernel_rfl) (hd 15 (by simp)))))
          have y12 : f 12 = true := hcl 13 12 (by kernel_rfl) (hcl 14 13 (by kernel_rfl) (hcl 15 14 (by kernel_rfl) (hd 15 (by simp))))
          have y18 : f 18 = true := hd 18 (by simp)
          have w1 : IntKind.i64.wrap (nx + (H.length : Int)) = nx + (H.length : Int) := IntWalk.i64_in _ (by omega)
          go_simp
          exact hK _ _ ⟨upd (upd (upd (upd x 18 (.int .i64 nx)) 21 (.int .i64 (H.length : Int))) 15 (.bool true)) 22 (.int .i64 (nx + (H.length : Int))), rfl, c0, c1, c2, c3, (((hx.put 18 rfl).put 21 rfl).put 15 rfl).set 22 rfl⟩
        case s23 =>
          have e16 := hx.get 16 rfl (hd 16 (by simp))
          have e22 := hx.get 22 rfl (hd 22 (by simp))
          have e15 := hx.get 15 rfl (hd 15 (by simp))
          rw [e16, e22, e15]
          clear e16 e22 e15
          go_simp
          exact hK _ _ ⟨(upd (upd (upd (upd x 16 (.int .i64 (nx + (H.length : Int)))) 22 (.int .i64 (nx + (H.length : Int)))) 15 (.bool true)) 23 (.bool true)), rfl, c0, c1, c2, c3, ((((hx.put 16 rfl).put 22 rfl).put 15 rfl).set 23 rfl)⟩
        case s24 =>
          have e15 := hx.get 15 rfl (hd 15 (by simp))
          have e23 := hx.get 23 rfl (hd 23 (by simp))
          rw [e15, e23]
          clear e15 e23
          go_simp
          exact hK _ _ ⟨(upd (upd (upd x 15 (.bool true)) 23 (.bool true)) 24 (.bool true)), rfl, c0, c1, c2, c3, (((hx.put 15 rfl).put 23 rfl).set 24 rfl)⟩
        case s25 =>
          have e24 := hx.get 24 rfl (hd 24 (by simp))
          rw [e24]
          clear e24
          go_simp
          exact hK _ _ ⟨(upd (upd x 24 (.bool true)) 25 (.bool true)), rfl, c0, c1, c2, c3, ((hx.put 24 rfl).set 25 rfl)⟩
        case s26 =>
          have e25 := hx.get 25 rfl (hd 25 (by simp))
          rw [e25]
          clear e25
          go_simp
          exact hK _ _ ⟨(upd (upd x 25 (.bool true)) 26 (.slice za H.length zc)), rfl, c0, c1, c2, c3, ((hx.put 25 rfl).set 26 rfl)⟩
        case s27 =>
          have e26 := hx.get 26 rfl (hd 26 (by simp))
          have e25 := hx.get 25 rfl (hd 25 (by simp))
          rw [e26, e25]
          clear e26 e25
          go_simp
          exact hK _ _ ⟨(upd (upd (upd x 26 (.slice za H.length zc)) 25 (.bool true)) 27 (.int .i64 (H.length : Int))), rfl, c0, c1, c2, c3, (((hx.put 26 rfl).put 25 rfl).set 27 rfl)⟩
        case s28 =>
          have e25 := hx.get 25 rfl (hd 25 (by simp))
          rw [e25]
          clear e25
          go_simp
          exact hK _ _ ⟨(upd (upd x 25 (.bool true)) 28 (.pointer (some ⟨V3.heap.size, 0, none⟩))), rfl, c0, c1, c2, c3, ((hx.put 25 rfl).set 28 rfl)⟩
        case s29 =>
          have e28 := hx.get 28 rfl (hd 28 (by simp))
          have e25 := hx.get 25 rfl (hd 25 (by simp))
          rw [e28, e25]
          clear e28 e25
          have n35 : f 35 = false := by cases h : f 35; rfl; exact absurd (hcl 30 29 (by kernel_rfl) (hcl 31 30 (by kernel_rfl) (hcl 32 31 (by kernel_rfl) (hcl 33 32 (by kernel_rfl) (hcl 35 33 (by kernel_rfl) (h)))))) (by rw [hf]; simp)
          have n37 : f 37 = false := by cases h : f 37; rfl; exact absurd (hcl 30 29 (by kernel_rfl) (hcl 31 30 (by kernel_rfl) (hcl 32 31 (by kernel_rfl) (hcl 33 32 (by kernel_rfl) (hcl 37 33 (by kernel_rfl) (h)))))) (by rw [hf]; simp)
          have n38 : f 38 = false := by cases h : f 38; rfl; exact absurd (hcl 30 29 (by kernel_rfl) (hcl 31 30 (by kernel_rfl) (hcl 32 31 (by kernel_rfl) (hcl 33 32 (by kernel_rfl) (hcl 38 33 (by kernel_rfl) (h)))))) (by rw [hf]; simp)
          have n44 : f 44 = false := by cases h : f 44; rfl; exact absurd (hcl 30 29 (by kernel_rfl) (hcl 31 30 (by kernel_rfl) (hcl 32 31 (by kernel_rfl) (hcl 33 32 (by kernel_rfl) (hcl 39 33 (by kernel_rfl) (hcl 40 39 (by kernel_rfl) (hcl 44 40 (by kernel_rfl) (h)))))))) (by rw [hf]; simp)
          have y7 : f 7 = true := hcl 8 7 (by kernel_rfl) (hcl 9 8 (by kernel_rfl) (hcl 14 9 (by kernel_rfl) (hcl 15 14 (by kernel_rfl) (hcl 24 15 (by kernel_rfl) (hcl 25 24 (by kernel_rfl) (hd 25 (by simp)))))))
          have y11 : f 11 = true := hcl 12 11 (by kernel_rfl) (hcl 13 12 (by kernel_rfl) (hcl 14 13 (by kernel_rfl) (hcl 15 14 (by kernel_rfl) (hcl 24 15 (by kernel_rfl) (hcl 25 24 (by kernel_rfl) (hd 25 (by simp)))))))
          have y12 : f 12 = true := hcl 13 12 (by kernel_rfl) (hcl 14 13 (by kernel_rfl) (hcl 15 14 (by kernel_rfl) (hcl 24 15 (by kernel_rfl) (hcl 25 24 (by kernel_rfl) (hd 25 (by simp))))))
          have y18 : f 18 = true := hcl 22 18 (by kernel_rfl) (hcl 23 22 (by kernel_rfl) (hcl 24 23 (by kernel_rfl) (hcl 25 24 (by kernel_rfl) (hd 25 (by simp)))))
          have y22 : f 22 = true := hcl 23 22 (by kernel_rfl) (hcl 24 23 (by kernel_rfl) (hcl 25 24 (by kernel_rfl) (hd 25 (by simp))))
          obtain ⟨p0, p1, p2, p3, q0, q1, q2, s0, s1, s2⟩ := hst.out Vr c0
          clear n35 n37 n38 n44 y7 y11 y12 y18 y22
          go_simp
          exact hK _ _ ⟨(upd (upd (upd x 28 (.pointer (some ⟨V3.heap.size, 0, none⟩))) 25 (.bool true)) 29 (.slice b0 H.length d0)), rfl, c0, c1, c2, c3, (((hx.put 28 rfl).put 25 rfl).set 29 rfl)⟩
        case s30 =>
          have e29 := hx.get 29 rfl (hd 29 (by simp))
          have e25 := hx.get 25 rfl (hd 25 (by simp))
          rw [e29, e25]
          clear e29 e25
          go_simp
          exact hK _ _ ⟨(upd (upd (upd x 29 (.slice b0 H.length d0)) 25 (.bool true)) 30 (.int .i64 (H.length : Int))), rfl, c0, c1, c2, c3, (((hx.put 29 rfl).put 25 rfl).set 30 rfl)⟩
        case s31 =>
          have e27 := hx.get 27 rfl (hd 27 (by simp))
          have e30 := hx.get 30 rfl (hd 30 (by simp))
          have e25 := hx.get 25 rfl (hd 25 (by simp))
          rw [e27, e30, e25]
          clear e27 e30 e25
          go_simp
          exact hK _ _ ⟨(upd (upd (upd (upd x 27 (.int .i64 (H.length : Int))) 30 (.int .i64 (H.length : Int))) 25 (.bool true)) 31 (.bool true)), rfl, c0, c1, c2, c3, ((((hx.put 27 rfl).put 30 rfl).put 25 rfl).set 31 rfl)⟩
        case s32 =>
          have e25 := hx.get 25 rfl (hd 25 (by simp))
          have e31 := hx.get 31 rfl (hd 31 (by simp))
          rw [e25, e31]
          clear e25 e31
          go_simp
          exact hK _ _ ⟨(upd (upd (upd x 25 (.bool true)) 31 (.bool true)) 32 (.bool true)), rfl, c0, c1, c2, c3, (((hx.put 25 rfl).put 31 rfl).set 32 rfl)⟩
        case s33 =>
          have e32 := hx.get 32 rfl (hd 32 (by simp))
          rw [e32]
          clear e32
          go_simp
          exact hK _ _ ⟨(upd (upd x 32 (.bool true)) 33 (.bool true)), rfl, c0, c1, c2, c3, ((hx.put 32 rfl).set 33 rfl)⟩
        case s34 =>
          have e33 := hx.get 33 rfl (hd 33 (by simp))
          rw [e33]
          clear e33
          have n35 : f 35 = false := by cases h : f 35; rfl; exact absurd (hcl 35 34 (by kernel_rfl) (h)) (by rw [hf]; simp)
          have n38 : f 38 = false := by cases h : f 38; rfl; exact absurd (hcl 35 34 (by kernel_rfl) (hcl 38 35 (by kernel_rfl) (h))) (by rw [hf]; simp)
          have n44 : f 44 = false := by cases h : f 44; rfl; exact absurd (hcl 35 34 (by kernel_rfl) (hcl 38 35 (by kernel_rfl) (hcl 39 38 (by kernel_rfl) (hcl 40 39 (by kernel_rfl) (hcl 44 40 (by kernel_rfl) (h)))))) (by rw [hf]; simp)
          have y7 : f 7 = true := hcl 8 7 (by kernel_rfl) (hcl 9 8 (by kernel_rfl) (hcl 14 9 (by kernel_rfl) (hcl 15 14 (by kernel_rfl) (hcl 24 15 (by kernel_rfl) (hcl 25 24 (by kernel_rfl) (hcl 32 25 (by kernel_rfl) (hcl 33 32 (by kernel_rfl) (hd 33 (by simp)))))))))
          have y11 : f 11 = true := hcl 12 11 (by kernel_rfl) (hcl 13 12 (by kernel_rfl) (hcl 14 13 (by kernel_rfl) (hcl 15 14 (by kernel_rfl) (hcl 24 15 (by kernel_rfl) (hcl 25 24 (by kernel_rfl) (hcl 32 25 (by kernel_rfl) (hcl 33 32 (by kernel_rfl) (hd 33 (by simp)))))))))
          have y12 : f 12 = true := hcl 13 12 (by kernel_rfl) (hcl 14 13 (by kernel_rfl) (hcl 15 14 (by kernel_rfl) (hcl 24 15 (by kernel_rfl) (hcl 25 24 (by kernel_rfl) (hcl 32 25 (by kernel_rfl) (hcl 33 32 (by kernel_rfl) (hd 33 (by simp))))))))
          have y18 : f 18 = true := hcl 22 18 (by kernel_rfl) (hcl 23 22 (by kernel_rfl) (hcl 24 23 (by kernel_rfl) (hcl 25 24 (by kernel_rfl) (hcl 32 25 (by kernel_rfl) (hcl 33 32 (by kernel_rfl) (hd 33 (by simp)))))))
          have y22 : f 22 = true := hcl 23 22 (by kernel_rfl) (hcl 24 23 (by kernel_rfl) (hcl 25 24 (by kernel_rfl) (hcl 32 25 (by kernel_rfl) (hcl 33 32 (by kernel_rfl) (hd 33 (by simp))))))
          obtain ⟨p0, p1, p2, p3, q0, q1, q2, s0, s1, s2⟩ := hst.out Vr c0
          clear n35 n38 n44 y7 y11 y12 y18 y22
          go_simp
          exact hK _ _ ⟨(upd (upd x 33 (.bool true)) 34 (.agg #[.string y5.name, .int .i64 y5.n, .slice xa y5.args.length xc])), rfl, c0, c1, c2, c3, ((hx.put 33 rfl).set 34 rfl)⟩
        case s35 =>
          have e34 := hx.get 34 rfl (hd 34 (by simp))
          have e33 := hx.get 33 rfl (hd 33 (by simp))
          rw [e34, e33]
          clear e34 e33
          have n38 : f 38 = false := by cases h : f 38; rfl; exact absurd (hcl 38 35 (by kernel_rfl) (h)) (by rw [hf]; simp)
          have n44 : f 44 = false := by cases h : f 44; rfl; exact absurd (hcl 38 35 (by kernel_rfl) (hcl 39 38 (by kernel_rfl) (hcl 40 39 (by kernel_rfl) (hcl 44 40 (by kernel_rfl) (h))))) (by rw [hf]; simp)
          have y7 : f 7 = true := hcl 8 7 (by kernel_rfl) (hcl 9 8 (by kernel_rfl) (hcl 14 9 (by kernel_rfl) (hcl 15 14 (by kernel_rfl) (hcl 24 15 (by kernel_rfl) (hcl 25 24 (by kernel_rfl) (hcl 32 25 (by kernel_rfl) (hcl 33 32 (by kernel_rfl) (hd 33 (by simp)))))))))
          have y11 : f 11 = true := hcl 12 11 (by kernel_rfl) (hcl 13 12 (by kernel_rfl) (hcl 14 13 (by kernel_rfl) (hcl 15 14 (by kernel_rfl) (hcl 24 15 (by kernel_rfl) (hcl 25 24 (by kernel_rfl) (hcl 32 25 (by kernel_rfl) (hcl 33 32 (by kernel_rfl) (hd 33 (by simp)))))))))
          have y12 : f 12 = true := hcl 13 12 (by kernel_rfl) (hcl 14 13 (by kernel_rfl) (hcl 15 14 (by kernel_rfl) (hcl 24 15 (by kernel_rfl) (hcl 25 24 (by kernel_rfl) (hcl 32 25 (by kernel_rfl) (hcl 33 32 (by kernel_rfl) (hd 33 (by simp))))))))
          have y18 : f 18 = true := hcl 22 18 (by kernel_rfl) (hcl 23 22 (by kernel_rfl) (hcl 24 23 (by kernel_rfl) (hcl 25 24 (by kernel_rfl) (hcl 32 25 (by kernel_rfl) (hcl 33 32 (by kernel_rfl) (hd 33 (by simp)))))))
          have y22 : f 22 = true := hcl 23 22 (by kernel_rfl) (hcl 24 23 (by kernel_rfl) (hcl 25 24 (by kernel_rfl) (hcl 32 25 (by kernel_rfl) (hcl 33 32 (by kernel_rfl) (hd 33 (by simp))))))
          obtain ⟨t1, t2, t3, t4, _⟩ := hty.out Vr c0
          have hq := ty_Canon _ _ Vr t3
          rw [hcan5.out] at hq
          go_simp
          refine hq.mono ?_
          rintro e V ⟨z, rfl, hz, hB⟩
          exact hK _ _ ⟨upd (upd (upd x 34 (.agg #[.string y5.name, .int .i64 y5.n, .slice xa y5.args.length xc])) 33 (.bool true)) 35 z, rfl, c0.trans (hB.mono c0.size), c1, fun _ => hz, fun h => TyX.below (c3 h) hB, VO.free ((hx.put 34 rfl).put 33 rfl) 35 rfl _⟩
        case s36 =>
          have e33 := hx.get 33 rfl (hd 33 (by simp))
          rw [e33]
          clear e33
          have n37 : f 37 = false := by cases h : f 37; rfl; exact absurd (hcl 37 36 (by kernel_rfl) (h)) (by rw [hf]; simp)
          have n38 : f 38 = false := by cases h : f 38; rfl; exact absurd (hcl 37 36 (by kernel_rfl) (hcl 38 37 (by kernel_rfl) (h))) (by rw [hf]; simp)
          have n44 : f 44 = false := by cases h : f 44; rfl; exact absurd (hcl 37 36 (by kernel_rfl) (hcl 38 37 (by kernel_rfl) (hcl 39 38 (by kernel_rfl) (hcl 40 39 (by kernel_rfl) (hcl 44 40 (by kernel_rfl) (h)))))) (by rw [hf]; simp)
          have y7 : f 7 = true := hcl 8 7 (by kernel_rfl) (hcl 9 8 (by kernel_rfl) (hcl 14 9 (by kernel_rfl) (hcl 15 14 (by kernel_rfl) (hcl 24 15 (by kernel_rfl) (hcl 25 24 (by kernel_rfl) (hcl 32 25 (by kernel_rfl) (hcl 33 32 (by kernel_rfl) (hd 33 (by simp)))))))))
          have y11 : f 11 = true := hcl 12 11 (by kernel_rfl) (hcl 13 12 (by kernel_rfl) (hcl 14 13 (by kernel_rfl) (hcl 15 14 (by kernel_rfl) (hcl 24 15 (by kernel_rfl) (hcl 25 24 (by kernel_rfl) (hcl 32 25 (by kernel_rfl) (hcl 33 32 (by kernel_rfl) (hd 33 (by simp)))))))))
          have y12 : f 12 = true := hcl 13 12 (by kernel_rfl) (hcl 14 13 (by kernel_rfl) (hcl 15 14 (by kernel_rfl) (hcl 24 15 (by kernel_rfl) (hcl 25 24 (by kernel_rfl) (hcl 32 25 (by kernel_rfl) (hcl 33 32 (by kernel_rfl) (hd 33 (by simp))))))))
          have y18 : f 18 = true := hcl 22 18 (by kernel_rfl) (hcl 23 22 (by kernel_rfl) (hcl 24 23 (by kernel_rfl) (hcl 25 24 (by kernel_rfl) (hcl 32 25 (by kernel_rfl) (hcl 33 32 (by kernel_rfl) (hd 33 (by simp)))))))
          have y22 : f 22 = true := hcl 23 22 (by kernel_rfl) (hcl 24 23 (by kernel_rfl) (hcl 25 24 (by kernel_rfl) (hcl 32 25 (by kernel_rfl) (hcl 33 32 (by kernel_rfl) (hd 33 (by simp))))))
          obtain ⟨p0, p1, p2, p3, q0, q1, q2, s0, s1, s2⟩ := hst.out Vr c0
          clear n37 n38 n44 y7 y11 y12 y18 y22
          go_simp
          exact hK _ _ ⟨(upd (upd x 33 (.bool true)) 36 (.agg #[.string s, .int .i64 n, .slice a1 l.length e1])), rfl, c0, c1, c2, c3, ((hx.put 33 rfl).set 36 rfl)⟩
        case s37 =>
          have e36 := hx.get 36 rfl (hd 36 (by simp))
          have e33 := hx.get 33 rfl (hd 33 (by simp))
          rw [e36, e33]
          clear e36 e33
          have n38 : f 38 = false := by cases h : f 38; rfl; exact absurd (hcl 38 37 (by kernel_rfl) (h)) (by rw [hf]; simp)
          have n44 : f 44 = false := by cases h : f 44; rfl; exact absurd (hcl 38 37 (by kernel_rfl) (hcl 39 38 (by kernel_rfl) (hcl 40 39 (by kernel_rfl) (hcl 44 40 (by kernel_rfl) (h))))) (by rw [hf]; simp)
          have y7 : f 7 = true := hcl 8 7 (by kernel_rfl) (hcl 9 8 (by kernel_rfl) (hcl 14 9 (by kernel_rfl) (hcl 15 14 (by kernel_rfl) (hcl 24 15 (by kernel_rfl) (hcl 25 24 (by kernel_rfl) (hcl 32 25 (by kernel_rfl) (hcl 33 32 (by kernel_rfl) (hd 33 (by simp)))))))))
          have y11 : f 11 = true := hcl 12 11 (by kernel_rfl) (hcl 13 12 (by kernel_rfl) (hcl 14 13 (by kernel_rfl) (hcl 15 14 (by kernel_rfl) (hcl 24 15 (by kernel_rfl) (hcl 25 24 (by kernel_rfl) (hcl 32 25 (by kernel_rfl) (hcl 33 32 (by kernel_rfl) (hd 33 (by simp)))))))))
          have y12 : f 12 = true := hcl 13 12 (by kernel_rfl) (hcl 14 13 (by kernel_rfl) (hcl 15 14 (by kernel_rfl) (hcl 24 15 (by kernel_rfl) (hcl 25 24 (by kernel_rfl) (hcl 32 25 (by kernel_rfl) (hcl 33 32 (by kernel_rfl) (hd 33 (by simp))))))))
          have y18 : f 18 = true := hcl 22 18 (by kernel_rfl) (hcl 23 22 (by kernel_rfl) (hcl 24 23 (by kernel_rfl) (hcl 25 24 (by kernel_rfl) (hcl 32 25 (by kernel_rfl) (hcl 33 32 (by kernel_rfl) (hd 33 (by simp)))))))
          have y22 : f 22 = true := hcl 23 22 (by kernel_rfl) (hcl 24 23 (by kernel_rfl) (hcl 25 24 (by kernel_rfl) (hcl 32 25 (by kernel_rfl) (hcl 33 32 (by kernel_rfl) (hd 33 (by simp))))))
          obtain ⟨t1, t2, t3, t4, _⟩ := hty.out Vr c0
          have hq := ty_Canon _ _ Vr t2
          go_simp
          refine hq.mono ?_
          rintro e V ⟨z, rfl, hz, hB⟩
          exact hK _ _ ⟨upd (upd (upd x 36 (.agg #[.string s, .int .i64 n, .slice a1 l.length e1])) 33 (.bool true)) 37 z, rfl, c0.trans (hB.mono c0.size), c1, fun h => TyX.below (c2 h) hB, fun _ => hz, VO.free ((hx.put 36 rfl).put 33 rfl) 37 rfl _⟩
        case s38 =>
          have e33 := hx.get 33 rfl (hd 33 (by simp))
          rw [e33]
          clear e33
          have n44 : f 44 = false := by cases h : f 44; rfl; exact absurd (hcl 39 38 (by kernel_rfl) (hcl 40 39 (by kernel_rfl) (hcl 44 40 (by kernel_rfl) (h)))) (by rw [hf]; simp)
          have y7 : f 7 = true := hcl 8 7 (by kernel_rfl) (hcl 9 8 (by kernel_rfl) (hcl 14 9 (by kernel_rfl) (hcl 15 14 (by kernel_rfl) (hcl 24 15 (by kernel_rfl) (hcl 25 24 (by kernel_rfl) (hcl 32 25 (by kernel_rfl) (hcl 33 32 (by kernel_rfl) (hd 33 (by simp)))))))))
          have y11 : f 11 = true := hcl 12 11 (by kernel_rfl) (hcl 13 12 (by kernel_rfl) (hcl 14 13 (by kernel_rfl) (hcl 15 14 (by kernel_rfl) (hcl 24 15 (by kernel_rfl) (hcl 25 24 (by kernel_rfl) (hcl 32 25 (by kernel_rfl) (hcl 33 32 (by kernel_rfl) (hd 33 (by simp)))))))))
          have y12 : f 12 = true := hcl 13 12 (by kernel_rfl) (hcl 14 13 (by kernel_rfl) (hcl 15 14 (by kernel_rfl) (hcl 24 15 (by kernel_rfl) (hcl 25 24 (by kernel_rfl) (hcl 32 25 (by kernel_rfl) (hcl 33 32 (by kernel_rfl) (hd 33 (by simp))))))))
          have y18 : f 18 = true := hcl 22 18 (by kernel_rfl) (hcl 23 22 (by kernel_rfl) (hcl 24 23 (by kernel_rfl) (hcl 25 24 (by kernel_rfl) (hcl 32 25 (by kernel_rfl) (hcl 33 32 (by kernel_rfl) (hd 33 (by simp)))))))
          have y22 : f 22 = true := hcl 23 22 (by kernel_rfl) (hcl 24 23 (by kernel_rfl) (hcl 25 24 (by kernel_rfl) (hcl 32 25 (by kernel_rfl) (hcl 33 32 (by kernel_rfl) (hd 33 (by simp))))))
          have y35 : f 35 = true := hd 35 (by simp)
          have y37 : f 37 = true := hd 37 (by simp)
          have i5 := c2 (hd 35 (by simp))
          have i7 := c3 (hd 37 (by simp))
          have hq := r08_Same _ _ _ _ Vr i5 i7
          rw [eqB_true rfl] at hq
          go_simp
          refine hq.mono ?_
          rintro e V ⟨rfl, hB⟩
          exact hK _ _ ⟨upd (upd x 33 (.bool true)) 38 (.bool true), rfl, c0.trans (hB.mono c0.size), c1, fun h => TyX.below (c2 h) hB, fun h => TyX.below (c3 h) hB, (hx.put 33 rfl).set 38 rfl⟩
        case s39 =>
          have e33 := hx.get 33 rfl (hd 33 (by simp))
          have e38 := hx.get 38 rfl (hd 38 (by simp))
          rw [e33, e38]
          clear e33 e38
          go_simp
          exact hK _ _ ⟨(upd (upd (upd x 33 (.bool true)) 38 (.bool true)) 39 (.bool true)), rfl, c0, c1, c2, c3, (((hx.put 33 rfl).put 38 rfl).set 39 rfl)⟩
        case s40 =>
          have e39 := hx.get 39 rfl (hd 39 (by simp))
          rw [e39]
          clear e39
          go_simp
          exact hK _ _ ⟨(upd (upd x 39 (.bool true)) 40 (.bool true)), rfl, c0, c1, c2, c3, ((hx.put 39 rfl).set 40 rfl)⟩
        case s41 =>
          have e40 := hx.get 40 rfl (hd 40 (by simp))
          rw [e40]
          clear e40
          go_simp
          exact hK _ _ ⟨(upd (upd x 40 (.bool true)) 41 (.pointer (some ⟨V3.heap.size, 1, none⟩))), rfl, c0, c1, c2, c3, ((hx.put 40 rfl).set 41 rfl)⟩
        case s42 =>
          have e41 := hx.get 41 rfl (hd 41 (by simp))
          have e40 := hx.get 40 rfl (hd 40 (by simp))
          rw [e41, e40]
          clear e41 e40
          have n44 : f 44 = false := by cases h : f 44; rfl; exact absurd (hcl 44 42 (by kernel_rfl) (h)) (by rw [hf]; simp)
          have y7 : f 7 = true := hcl 8 7 (by kernel_rfl) (hcl 9 8 (by kernel_rfl) (hcl 14 9 (by kernel_rfl) (hcl 15 14 (by kernel_rfl) (hcl 24 15 (by kernel_rfl) (hcl 25 24 (by kernel_rfl) (hcl 32 25 (by kernel_rfl) (hcl 33 32 (by kernel_rfl) (hcl 39 33 (by kernel_rfl) (hcl 40 39 (by kernel_rfl) (hd 40 (by simp)))))))))))
          have y11 : f 11 = true := hcl 12 11 (by kernel_rfl) (hcl 13 12 (by kernel_rfl) (hcl 14 13 (by kernel_rfl) (hcl 15 14 (by kernel_rfl) (hcl 24 15 (by kernel_rfl) (hcl 25 24 (by kernel_rfl) (hcl 32 25 (by kernel_rfl) (hcl 33 32 (by kernel_rfl) (hcl 39 33 (by kernel_rfl) (hcl 40 39 (by kernel_rfl) (hd 40 (by simp)))))))))))
          have y12 : f 12 = true := hcl 13 12 (by kernel_rfl) (hcl 14 13 (by kernel_rfl) (hcl 15 14 (by kernel_rfl) (hcl 24 15 (by kernel_rfl) (hcl 25 24 (by kernel_rfl) (hcl 32 25 (by kernel_rfl) (hcl 33 32 (by kernel_rfl) (hcl 39 33 (by kernel_rfl) (hcl 40 39 (by kernel_rfl) (hd 40 (by simp))))))))))
          have y18 : f 18 = true := hcl 22 18 (by kernel_rfl) (hcl 23 22 (by kernel_rfl) (hcl 24 23 (by kernel_rfl) (hcl 25 24 (by kernel_rfl) (hcl 32 25 (by kernel_rfl) (hcl 33 32 (by kernel_rfl) (hcl 39 33 (by kernel_rfl) (hcl 40 39 (by kernel_rfl) (hd 40 (by simp)))))))))
          have y22 : f 22 = true := hcl 23 22 (by kernel_rfl) (hcl 24 23 (by kernel_rfl) (hcl 25 24 (by kernel_rfl) (hcl 32 25 (by kernel_rfl) (hcl 33 32 (by kernel_rfl) (hcl 39 33 (by kernel_rfl) (hcl 40 39 (by kernel_rfl) (hd 40 (by simp))))))))
          have y35 : f 35 = true := hcl 38 35 (by kernel_rfl) (hcl 39 38 (by kernel_rfl) (hcl 40 39 (by kernel_rfl) (hd 40 (by simp))))
          have y37 : f 37 = true := hcl 38 37 (by kernel_rfl) (hcl 39 38 (by kernel_rfl) (hcl 40 39 (by kernel_rfl) (hd 40 (by simp))))
          have y38 : f 38 = true := hcl 39 38 (by kernel_rfl) (hcl 40 39 (by kernel_rfl) (hd 40 (by simp)))
          obtain ⟨p0, p1, p2, p3, q0, q1, q2, s0, s1, s2⟩ := hst.out Vr c0
          clear n44 y7 y11 y12 y18 y22 y35 y37 y38
          go_simp
          exact hK _ _ ⟨(upd (upd (upd x 41 (.pointer (some ⟨V3.heap.size, 1, none⟩))) 40 (.bool true)) 42 (.agg #[.string s, .int .i64 n, .slice b2 l.length d2])), rfl, c0, c1, c2, c3, (((hx.put 41 rfl).put 40 rfl).set 42 rfl)⟩
        case s43 =>
          have e40 := hx.get 40 rfl (hd 40 (by simp))
          rw [e40]
          clear e40
          have n44 : f 44 = false := by cases h : f 44; rfl; exact absurd (hcl 44 43 (by kernel_rfl) (h)) (by rw [hf]; simp)
          have y7 : f 7 = true := hcl 8 7 (by kernel_rfl) (hcl 9 8 (by kernel_rfl) (hcl 14 9 (by kernel_rfl) (hcl 15 14 (by kernel_rfl) (hcl 24 15 (by kernel_rfl) (hcl 25 24 (by kernel_rfl) (hcl 32 25 (by kernel_rfl) (hcl 33 32 (by kernel_rfl) (hcl 39 33 (by kernel_rfl) (hcl 40 39 (by kernel_rfl) (hd 40 (by simp)))))))))))
          have y11 : f 11 = true := hcl 12 11 (by kernel_rfl) (hcl 13 12 (by kernel_rfl) (hcl 14 13 (by kernel_rfl) (hcl 15 14 (by kernel_rfl) (hcl 24 15 (by kernel_rfl) (hcl 25 24 (by kernel_rfl) (hcl 32 25 (by kernel_rfl) (hcl 33 32 (by kernel_rfl) (hcl 39 33 (by kernel_rfl) (hcl 40 39 (by kernel_rfl) (hd 40 (by simp)))))))))))
          have y12 : f 12 = true := hcl 13 12 (by kernel_rfl) (hcl 14 13 (by kernel_rfl) (hcl 15 14 (by kernel_rfl) (hcl 24 15 (by kernel_rfl) (hcl 25 24 (by kernel_rfl) (hcl 32 25 (by kernel_rfl) (hcl 33 32 (by kernel_rfl) (hcl 39 33 (by kernel_rfl) (hcl 40 39 (by kernel_rfl) (hd 40 (by simp))))))))))
          have y18 : f 18 = true := hcl 22 18 (by kernel_rfl) (hcl 23 22 (by kernel_rfl) (hcl 24 23 (by kernel_rfl) (hcl 25 24 (by kernel_rfl) (hcl 32 25 (by kernel_rfl) (hcl 33 32 (by kernel_rfl) (hcl 39 33 (by kernel_rfl) (hcl 40 39 (by kernel_rfl) (hd 40 (by simp)))))))))
          have y22 : f 22 = true := hcl 23 22 (by kernel_rfl) (hcl 24 23 (by kernel_rfl) (hcl 25 24 (by kernel_rfl) (hcl 32 25 (by kernel_rfl) (hcl 33 32 (by kernel_rfl) (hcl 39 33 (by kernel_rfl) (hcl 40 39 (by kernel_rfl) (hd 40 (by simp))))))))
          have y35 : f 35 = true := hcl 38 35 (by kernel_rfl) (hcl 39 38 (by kernel_rfl) (hcl 40 39 (by kernel_rfl) (hd 40 (by simp))))
          have y37 : f 37 = true := hcl 38 37 (by kernel_rfl) (hcl 39 38 (by kernel_rfl) (hcl 40 39 (by kernel_rfl) (hd 40 (by simp))))
          have y38 : f 38 = true := hcl 39 38 (by kernel_rfl) (hcl 40 39 (by kernel_rfl) (hd 40 (by simp)))
          obtain ⟨p0, p1, p2, p3, q0, q1, q2, s0, s1, s2⟩ := hst.out Vr c0
          clear n44 y7 y11 y12 y18 y22 y35 y37 y38
          go_simp
          exact hK _ _ ⟨(upd (upd x 40 (.bool true)) 43 (.agg #[.string s, .int .i64 n, .slice a1 l.length e1])), rfl, c0, c1, c2, c3, ((hx.put 40 rfl).set 43 rfl)⟩
        case s44 =>
          have e42 := hx.get 42 rfl (hd 42 (by simp))
          have e43 := hx.get 43 rfl (hd 43 (by simp))
          have e40 := hx.get 40 rfl (hd 40 (by simp))
          rw [e42, e43, e40]
          clear e42 e43 e40
          have y7 : f 7 = true := hcl 8 7 (by kernel_rfl) (hcl 9 8 (by kernel_rfl) (hcl 14 9 (by kernel_rfl) (hcl 15 14 (by kernel_rfl) (hcl 24 15 (by kernel_rfl) (hcl 25 24 (by kernel_rfl) (hcl 32 25 (by kernel_rfl) (hcl 33 32 (by kernel_rfl) (hcl 39 33 (by kernel_rfl) (hcl 40 39 (by kernel_rfl) (hd 40 (by simp)))))))))))
          have y11 : f 11 = true := hcl 12 11 (by kernel_rfl) (hcl 13 12 (by kernel_rfl) (hcl 14 13 (by kernel_rfl) (hcl 15 14 (by kernel_rfl) (hcl 24 15 (by kernel_rfl) (hcl 25 24 (by kernel_rfl) (hcl 32 25 (by kernel_rfl) (hcl 33 32 (by kernel_rfl) (hcl 39 33 (by kernel_rfl) (hcl 40 39 (by kernel_rfl) (hd 40 (by simp)))))))))))
          have y12 : f 12 = true := hcl 13 12 (by kernel_rfl) (hcl 14 13 (by kernel_rfl) (hcl 15 14 (by kernel_rfl) (hcl 24 15 (by kernel_rfl) (hcl 25 24 (by kernel_rfl) (hcl 32 25 (by kernel_rfl) (hcl 33 32 (by kernel_rfl) (hcl 39 33 (by kernel_rfl) (hcl 40 39 (by kernel_rfl) (hd 40 (by simp))))))))))
          have y18 : f 18 = true := hcl 22 18 (by kernel_rfl) (hcl 23 22 (by kernel_rfl) (hcl 24 23 (by kernel_rfl) (hcl 25 24 (by kernel_rfl) (hcl 32 25 (by kernel_rfl) (hcl 33 32 (by kernel_rfl) (hcl 39 33 (by kernel_rfl) (hcl 40 39 (by kernel_rfl) (hd 40 (by simp)))))))))
          have y22 : f 22 = true := hcl 23 22 (by kernel_rfl) (hcl 24 23 (by kernel_rfl) (hcl 25 24 (by kernel_rfl) (hcl 32 25 (by kernel_rfl) (hcl 33 32 (by kernel_rfl) (hcl 39 33 (by kernel_rfl) (hcl 40 39 (by kernel_rfl) (hd 40 (by simp))))))))
          have y35 : f 35 = true := hcl 38 35 (by kernel_rfl) (hcl 39 38 (by kernel_rfl) (hcl 40 39 (by kernel_rfl) (hd 40 (by simp))))
          have y37 : f 37 = true := hcl 38 37 (by kernel_rfl) (hcl 39 38 (by kernel_rfl) (hcl 40 39 (by kernel_rfl) (hd 40 (by simp))))
          have y38 : f 38 = true := hcl 39 38 (by kernel_rfl) (hcl 40 39 (by kernel_rfl) (hd 40 (by simp)))
          obtain ⟨t1, t2, t3, t4, _⟩ := hty.out Vr c0
          have hq := r08_Same _ _ _ _ Vr t4 t2
          rw [eqB_true rfl] at hq
          go_simp
          refine hq.mono ?_
          rintro e V ⟨rfl, hB⟩
          exact hK _ _ ⟨upd (upd (upd (upd x 42 (.agg #[.string s, .int .i64 n, .slice b2 l.length d2])) 43 (.agg #[.string s, .int .i64 n, .slice a1 l.length e1])) 40 (.bool true)) 44 (.bool true), rfl, c0.trans (hB.mono c0.size), c1, fun h => TyX.below (c2 h) hB, fun h => TyX.below (c3 h) hB, (((hx.put 42 rfl).put 43 rfl).put 40 rfl).set 44 rfl⟩
        case s45 =>
          have e40 := hx.get 40 rfl (hd 40 (by simp))
          have e44 := hx.get 44 rfl (hd 44 (by simp))
          rw [e40, e44]
          clear e40 e44
          go_simp
          exact hK _ _ ⟨(upd (upd (upd x 40 (.bool true)) 44 (.bool true)) 45 (.bool true)), rfl, c0, c1, c2, c3, (((hx.put 40 rfl).put 44 rfl).set 45 rfl)⟩
        case s46 =>
          have e45 := hx.get 45 rfl (hd 45 (by simp))
          rw [e45]
          clear e45
          go_simp
          exact hK _ _ ⟨(upd (upd x 45 (.bool true)) 46 (.bool true)), rfl, c0, c1, c2, c3, ((hx.put 45 rfl).set 46 rfl)⟩
      case last =>
        rintro f a Vr hf ⟨x, rfl, c0, c1, c2, c3, hx⟩
        have e46 := hx.get 46 rfl (hf 46 (by simp))
        rw [e46]
        have hfin := Lib.hid ((hty.out Vr c0).2.2.2.2)
        clear c0 c1 c2 c3 hx e46 hst hty
        go_wp2_with fail
        go_ret
        exact ⟨ret_bool rfl, hfin.out⟩
end Go.Proofs.YtnfclcfcpgfajaaGreatDoor
