/- LexTells: the tokens of any text are what the document says. -/
import Derived.Test.YtchdfjihflmloaaDoorLexAw
namespace Go.Proofs.YtchdfjihflmloaaDoor
open Go.RowKit

/-- An answer's tokens, place, error. -/
def resQ : Res → List Tk × Int × Int × Int
  | .ok l => (l, 0, 0, 0)
  | .bad p q => ([], p, q, 20)
/-- Both answers of one text: two slices of the same tokens, one place, one error. -/
theorem LexR_slice {R : Res} {e : Ending} {W : World} (h : LexR R e W) : ∃ (a : Option Addr) (n c : Nat) (ts : List Tk) (x y er : Int), e = .returned (.tuple #[.slice a n c, .agg #[.int .i64 x, .int .i64 y], .int .i64 er]) ∧ TkSl W (.slice a n c) ts ∧ (ts, x, y, er) = resQ R := by
  cases R with
  | ok l =>
    obtain ⟨v, rfl, hv⟩ := h
    obtain ⟨a, c, rfl⟩ := hv.open
    exact ⟨a, _, c, l, 0, 0, 0, rfl, hv, rfl⟩
  | bad x y => exact ⟨none, 0, 0, [], x, y, 20, h, TkSl.nil _, rfl⟩
theorem lexA_len {l : Bs} {ts : List Tk} (h : lexA l = .ok ts) : ts.length ≤ 2000 := by
  have := lexF_len l.length l 1 1 0 ts (Nat.le_refl _) (by omega) h
  omega

set_option maxHeartbeats 1600000 in
set_option maxRecDepth 100000 in
theorem lexTells_c (a : Option Addr) (l : Bs) (cap : Nat) (w : World) (hc : l.length ≤ cap) (hc63 : cap ≤ 9223372036854775807) (ha : a = none → cap = 0) (hr : ByteRow w a l) (hE : RngOk w) (hM : MaxOk w) :
    Calls Tryd.prog 3 #[.slice a l.length cap] w fun e w' => e = .returned (.bool true) ∧ Below w.heap.size w w' := by
  have hup := Lib.hid (law_awake w hE hM)
  by_cases h5 : 5000 < l.length
  · have h5i : (5000 : Int) < (l.length : Int) := by omega
    go_enter Tryd.func3, Tryd.ntmps3
    go_wp2_with fail
    refine hup.out.mono ?_
    rintro e V ⟨rfl, hB⟩
    go_wp2_with fail
    go_ret
    exact ⟨rfl, hB⟩
  · have h5i : ¬ (5000 : Int) < (l.length : Int) := by omega
    have hl5 : l.length ≤ 5000 := by omega
    have hr' := Lib.hid hr
    have hE' := Lib.hid hE
    have hM' := Lib.hid hM
    clear hr hE hM
    go_enter Tryd.func3, Tryd.ntmps3
    go_wp2_with fail
    refine hup.out.mono ?_
    rintro e V ⟨rfl, hB⟩
    have hbV := Lib.hid hB
    have hkV := Lib.hid (Keeps.of_below hB)
    clear hB
    go_wp2_with fail
    refine (lex_Lex a l cap V (by omega) hc hc63 ha (hr'.out.keeps hkV.out) (hE'.out.keeps hkV.out) (hM'.out.keeps hkV.out)).mono ?_
    rintro e V1 ⟨hR, hB⟩
    obtain ⟨a1, n1, c1, ts, x, y, er, rfl, hS1, hQ⟩ := LexR_slice hR
    have hbV1 := Lib.hid (hbV.out.trans (hB.mono hbV.out.size))
    have hS1' := Lib.hid hS1
    have hQ' := Lib.hid hQ
    clear hB hR hS1 hQ
    obtain ⟨W1, hW1⟩ : ∃ W, V1.alloc (.cells #[.int .i64 x, .int .i64 y] 26) = W := ⟨_, rfl⟩
    have hb1 : Below V1.heap.size V1 W1 := by rw [← hW1]; exact (Below.refl _ _).alloc (Nat.le_refl _) _
    have hp1 : Box2 W1 26 V1.heap.size (.int .i64 x) (.int .i64 y) := by rw [← hW1]; exact blk_new (Below.refl _ _)
    have hbW1 := Lib.hid (hbV1.out.trans (hb1.mono hbV1.out.size))
    have hkW1 := Lib.hid (Keeps.of_below hbW1.out)
    have hS2 := Lib.hid (hS1'.out.keeps (Keeps.of_below hb1))
    go_upto_region 5 with (fail)
    have hp1' := Lib.hid hp1
    clear hW1 hb1 hp1
    go_wp2_with fail
    refine (r02_Lex a l cap W1 (by omega) (hr'.out.keeps hkW1.out)).mono ?_
    rintro e V2 ⟨hR, hB⟩
    obtain ⟨a2, n2, c2, ts2, x2, y2, er2, rfl, hS3, hQ2⟩ := LexR_slice hR
    obtain ⟨rfl, rfl, rfl, rfl⟩ : ts2 = ts ∧ x2 = x ∧ y2 = y ∧ er2 = er := by
      have e := hQ2.trans hQ'.out.symm
      simp only [Prod.mk.injEq] at e
      exact e
    have hlen : Hid (ts2.length ≤ 2000) := by
      unfold Hid
      cases hx : lexA l with
      | ok m => rw [hx] at hQ2; simp [resQ] at hQ2; rw [hQ2.1]; exact lexA_len hx
      | bad p q => rw [hx] at hQ2; simp [resQ] at hQ2; rw [hQ2.1]; simp
    have hbV2 := Lib.hid (hbW1.out.trans (hB.mono hbW1.out.size))
    obtain ⟨W2, hW2⟩ : ∃ W, V2.alloc (.cells #[.int .i64 x2, .int .i64 y2] 26) = W := ⟨_, rfl⟩
    have hb2 : Below V2.heap.size V2 W2 := by rw [← hW2]; exact (Below.refl _ _).alloc (Nat.le_refl _) _
    have hp2 : Box2 W2 26 V2.heap.size (.int .i64 x2) (.int .i64 y2) := by rw [← hW2]; exact blk_new (Below.refl _ _)
    have hpp := Lib.hid (((hp1'.out.below hB)).below hb2)
    have hSa := Lib.hid ((hS2.out.keeps (Keeps.of_below hB)).keeps (Keeps.of_below hb2))
    have hSb := Lib.hid (hS3.keeps (Keeps.of_below hb2))
    have hbW2 := Lib.hid (hbV2.out.trans (hb2.mono hbV2.out.size))
    go_upto_region 6 with (fail)
    have hp2' := Lib.hid hp2
    clear hW2 hb2 hp2 hR hB hQ2 hS3 hS1'
    have hsm := r02_Same _ _ ts2 ts2 W2 hSa.out hSb.out (by have := hlen.out; omega) (by have := hlen.out; omega)
    rw [decide_eq_true rfl] at hsm
    have hsm' := Lib.hid hsm
    clear hsm
    go_wp2_with fail
    refine hsm'.out.mono ?_
    rintro e V3 ⟨rfl, hB⟩
    obtain ⟨⟨e0, e1⟩, _⟩ := (hpp.out.below hB).cells
    obtain ⟨⟨f0, f1⟩, _⟩ := (hp2'.out.below hB).cells
    have hbV3 := Lib.hid (hbW2.out.trans (hB.mono hbW2.out.size))
    clear hB
    go_wp2_with fail
    go_ret
    exact ⟨rfl, hbV3.out⟩
end Go.Proofs.YtchdfjihflmloaaDoor
