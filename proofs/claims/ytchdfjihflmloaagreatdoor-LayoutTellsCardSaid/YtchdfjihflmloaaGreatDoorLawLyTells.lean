/- LayoutTells: what any tokens' lines stand for is what the document says. -/
import Derived.Test.YtchdfjihflmloaaGreatDoorRlL
import Derived.Test.YtchdfjihflmloaaGreatDoorLayH
namespace Go.Proofs.YtchdfjihflmloaaGreatDoor
open Go.RowKit

set_option maxHeartbeats 4000000 in
set_option maxRecDepth 100000 in
theorem layoutTells_c (a : Option Addr) (l : List Tk) (cap : Nat) (w : World) (hc : l.length ≤ cap) (ha : a = none → cap = 0) (hrow : TkRow w a l) (hE : RngOk w) (hM : MaxOk w) :
    Calls Tryz.prog 3 #[.slice a l.length cap] w fun e w' => e = .returned (.bool true) ∧ Below w.heap.size w w' := by
  have hup := Lib.hid (lay_awake w hE hM)
  by_cases h5 : 500 < l.length
  · have h5i : (500 : Int) < (l.length : Int) := by omega
    go_enter Tryz.func3, Tryz.ntmps3
    go_wp2_with fail
    refine hup.out.mono ?_
    rintro e V ⟨rfl, hB⟩
    go_wp2_with fail
    go_ret
    exact ⟨rfl, hB⟩
  · have h5i : ¬ (500 : Int) < (l.length : Int) := by omega
    have hl5 : l.length ≤ 500 := by omega
    have hrow' := Lib.hid hrow
    have ha' := Lib.hid ha
    clear hE hM hrow ha
    go_enter Tryz.func3, Tryz.ntmps3
    go_wp2_with fail
    refine hup.out.mono ?_
    rintro e V ⟨rfl, hB⟩
    have hbV := Lib.hid hB
    have hlay := Lib.hid (lay_Layout a l cap V (by omega) hc ha'.out (hrow'.out.keeps (Keeps.of_below hB)))
    clear hB
    go_wp2_with fail
    refine hlay.out.mono ?_
    rintro e V1 ⟨hR, hB⟩
    obtain ⟨a1, n1, c1, ts, x, y, er, rfl, hS1, hQ⟩ := LayR_slice hR
    have hbV1 := Lib.hid (hbV.out.trans (hB.mono hbV.out.size))
    have hS1' := Lib.hid hS1
    have hQ' := Lib.hid hQ
    clear hB hR hS1 hQ
    obtain ⟨W1, hW1⟩ : ∃ W, V1.alloc (.cells #[.int .i64 x, .int .i64 y] 25) = W := ⟨_, rfl⟩
    have hb1 : Below V1.heap.size V1 W1 := by rw [← hW1]; exact (Below.refl _ _).alloc (Nat.le_refl _) _
    have hp1 : Box2 W1 25 V1.heap.size (.int .i64 x) (.int .i64 y) := by rw [← hW1]; exact blk_new (Below.refl _ _)
    have hbW1 := Lib.hid (hbV1.out.trans (hb1.mono hbV1.out.size))
    have hS2 := Lib.hid (hS1'.out.keeps (Keeps.of_below hb1))
    have hW1' := Lib.hid hW1
    have hp1' := Lib.hid hp1
    have hkW1 := Lib.hid (Keeps.of_below hbW1.out)
    clear hW1 hb1 hp1
    go_upto_region 5 with (fail)
    rw [hW1'.out]
    have hlr := Lib.hid (r03_Layout a l cap W1 (by omega) (hrow'.out.keeps hkW1.out))
    go_wp2_with fail
    refine hlr.out.mono ?_
    rintro e V2 ⟨hR, hB⟩
    obtain ⟨a2, n2, c2, ts2, x2, y2, er2, rfl, hS3, hQ2⟩ := LayR_slice hR
    obtain ⟨rfl, rfl, rfl, rfl⟩ : ts2 = ts ∧ x2 = x ∧ y2 = y ∧ er2 = er := by
      have e := hQ2.trans hQ'.out.symm
      simp only [Prod.mk.injEq] at e
      exact e
    have hlen : Hid (ts2.length ≤ 5000) := by
      unfold Hid
      cases hx : layF l with
      | ok m => rw [hx] at hQ2; simp [resL] at hQ2; rw [hQ2.1]; have := lay_max hx; omega
      | bad p q => rw [hx] at hQ2; simp [resL] at hQ2; rw [hQ2.1]; simp
    have hbV2 := Lib.hid (hbW1.out.trans (hB.mono hbW1.out.size))
    obtain ⟨W2, hW2⟩ : ∃ W, V2.alloc (.cells #[.int .i64 x2, .int .i64 y2] 25) = W := ⟨_, rfl⟩
    have hb2 : Below V2.heap.size V2 W2 := by rw [← hW2]; exact (Below.refl _ _).alloc (Nat.le_refl _) _
    have hp2 : Box2 W2 25 V2.heap.size (.int .i64 x2) (.int .i64 y2) := by rw [← hW2]; exact blk_new (Below.refl _ _)
    have hpp := Lib.hid (((hp1'.out.below hB)).below hb2)
    have hSa := Lib.hid ((hS2.out.keeps (Keeps.of_below hB)).keeps (Keeps.of_below hb2))
    have hSb := Lib.hid (hS3.keeps (Keeps.of_below hb2))
    have hbW2 := Lib.hid (hbV2.out.trans (hb2.mono hbV2.out.size))
    have hW2' := Lib.hid hW2
    have hp2' := Lib.hid hp2
    clear hW2 hb2 hp2 hR hB hQ2 hS3 hS1'
    have hsm := r02_Same _ _ ts2 ts2 W2 hSa.out hSb.out (by have := hlen.out; omega) (by have := hlen.out; omega)
    rw [decide_eq_true rfl] at hsm
    have hsm' := Lib.hid hsm
    clear hsm
    go_upto_region 6 with (fail)
    rw [hW2'.out]
    go_wp2_with fail
    refine hsm'.out.mono ?_
    rintro e V3 ⟨rfl, hB⟩
    obtain ⟨⟨e0, e1⟩, _⟩ := (hpp.out.below hB).cells
    obtain ⟨⟨f0, f1⟩, _⟩ := (hp2'.out.below hB).cells
    have hbV3 := Lib.hid (hbW2.out.trans (hB.mono hbW2.out.size))
    clear hB
    go_wp2_with fail
    go_ret
    exact ⟨rfl, hbV3.out⟩
theorem layoutTells_v (v : Value) (l : List Tk) (w : World) (h : TkSl w v l) (hE : RngOk w) (hM : MaxOk w) :
    Calls Tryz.prog 3 #[v] w fun e w' => e = .returned (.bool true) ∧ Below w.heap.size w w' := by
  obtain ⟨a, c, rfl, ⟨ha, hc⟩, hr⟩ := h
  exact layoutTells_c a l c w hc ha hr hE hM
end Go.Proofs.YtchdfjihflmloaaGreatDoor
