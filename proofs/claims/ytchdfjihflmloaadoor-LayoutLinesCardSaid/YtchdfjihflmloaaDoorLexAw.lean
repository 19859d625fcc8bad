/- The calls whose answers are fixed: all are so. -/
import Derived.Test.YtchdfjihflmloaaDoorLexLx
import Derived.Test.YtchdfjihflmloaaDoorLxF
namespace Go.Proofs.YtchdfjihflmloaaDoor
open Go.RowKit

theorem marked_row (w : World) (l : Bs) (C : Array Value) (m : Nat × Nat) (hC : C.toList = l.map fun b => .int .u8 b.toNat) : ByteRow (w.alloc (.cells C 5 m)) (some ⟨w.heap.size, 0, none⟩) l := by
  have hh : (w.alloc (.cells C 5 m)).heap[w.heap.size]? = some (.cells C 5 m) := by simp only [World.alloc]; simp
  refine .inr ⟨_, 0, rfl, fun i hi => ?_⟩
  have : C[0 + i]? = some (.int .u8 l[i].toNat) := by
    rw [← Array.getElem?_toList, hC, Nat.zero_add]
    simp [hi]
  unfold World.cell?
  rw [hh]
  simpa using this
def toks1 : List Tk := [⟨2, [102], 0, 1, 1⟩, ⟨4, [61], 0, 1, 3⟩, ⟨4, [92], 0, 1, 5⟩, ⟨2, [120], 0, 1, 6⟩, ⟨4, [45, 62], 0, 1, 7⟩, ⟨1, [49, 50], 12, 1, 9⟩, ⟨3, [66], 0, 3, 2⟩]
theorem lexA1 : lexA text1 = .ok toks1 := lex1
theorem lexA2 : lexA text2 = .bad 2 3 := lex2
theorem TkRow.take {w : World} {a : Option Addr} {l : List Tk} (h : TkRow w a l) (n : Nat) : TkRow w a (l.take n) := by
  rcases h with h | ⟨b, off, rfl, h⟩
  · subst h; exact .inl (by simp)
  · refine .inr ⟨b, off, rfl, fun i hi => ?_⟩
    rw [List.length_take] at hi
    have := h i (by omega)
    rw [List.getElem_take]
    exact this

set_option maxHeartbeats 4000000 in
set_option maxRecDepth 100000 in
theorem law_awake (w : World) (hE : RngOk w) (hM : MaxOk w) : Calls Tryd.prog 14 #[] w fun r w' => r = .returned (.bool true) ∧ Below w.heap.size w w' := by
  have kc := fun (w : World) (C : Array Value) (n c : Nat) => Lib.run_convert_bytes_const (P := Tryd.prog) w 22 5 C n c Tryd.underlying22 Tryd.underlying5
  have hx1 : Hid (∀ W, Below w.heap.size w W → ∀ C m, C.toList = text1.map (fun b => Value.int .u8 b.toNat) → Calls Tryd.prog 15 #[.slice (some ⟨W.heap.size, 0, none⟩) 19 19] (W.alloc (.cells C 5 m)) fun r w' => LexR (.ok toks1) r w' ∧ Below W.heap.size W w') := by
    intro W hW C m hC
    have hb : Below W.heap.size W (W.alloc (.cells C 5 m)) := (Below.refl _ _).alloc (Nat.le_refl _) _
    have hk := Keeps.of_below (hW.trans (hb.mono hW.size))
    have := lex_Lex (some ⟨W.heap.size, 0, none⟩) text1 19 _ (by decide) (by decide) (by decide) (fun h => by cases h) (marked_row W text1 C m hC) (hE.keeps hk) (hM.keeps hk)
    rw [lexA1] at this
    exact this.mono fun r w' ⟨h1, h2⟩ => ⟨h1, hb.trans (h2.mono (by simp))⟩
  have hx2 : Hid (∀ W, Below w.heap.size w W → ∀ C m, C.toList = text2.map (fun b => Value.int .u8 b.toNat) → Calls Tryd.prog 15 #[.slice (some ⟨W.heap.size, 0, none⟩) 5 5] (W.alloc (.cells C 5 m)) fun r w' => LexR (.bad 2 3) r w' ∧ Below W.heap.size W w') := by
    intro W hW C m hC
    have hb : Below W.heap.size W (W.alloc (.cells C 5 m)) := (Below.refl _ _).alloc (Nat.le_refl _) _
    have hk := Keeps.of_below (hW.trans (hb.mono hW.size))
    have := lex_Lex (some ⟨W.heap.size, 0, none⟩) text2 5 _ (by decide) (by decide) (by decide) (fun h => by cases h) (marked_row W text2 C m hC) (hE.keeps hk) (hM.keeps hk)
    rw [lexA2] at this
    exact this.mono fun r w' ⟨h1, h2⟩ => ⟨h1, hb.trans (h2.mono (by simp))⟩
  clear hE hM
  go_enter Tryd.func14, Tryd.ntmps14
  go_wp2_with fail
  refine (hx1.out _ (Below.refl _ _) _ _ rfl).mono ?_
  rintro e V ⟨⟨v, rfl, a, c, rfl, ⟨_, hc7⟩, hr⟩, hB⟩
  simp only [show toks1.length = 7 from rfl] at hc7
  have hc2 : 2 ≤ c := by omega
  simp only [show toks1.length = 7 from rfl]
  have hbV := Lib.hid hB
  have hr' := Lib.hid hr
  clear hB hr
  go_upto_region 2 with (fail)
  obtain ⟨W2, hW2⟩ : ∃ W, V.alloc (.cells #[.int .i64 0, .int .i64 0] 26) = W := ⟨_, rfl⟩
  have hb2 : Below V.heap.size V W2 := by rw [← hW2]; exact (Below.refl _ _).alloc (Nat.le_refl _) _
  have hp2 : Box2 W2 26 V.heap.size (.int .i64 0) (.int .i64 0) := by rw [← hW2]; exact blk_new (Below.refl _ _)
  have hbW2 := Lib.hid (hbV.out.trans (hb2.mono hbV.out.size))
  rw [hW2]
  have hW2' := Lib.hid hW2
  have hb2' := Lib.hid hb2
  clear hW2 hb2
  go_wp2_with fail
  refine (hx2.out _ hbW2.out _ _ rfl).mono ?_
  rintro e V2 ⟨rfl, hB⟩
  have hp2' := Lib.hid (hp2.below hB)
  have hbV2 := Lib.hid (hbW2.out.trans (hB.mono hbW2.out.size))
  have hr2 := Lib.hid ((hr'.out.keeps (Keeps.of_below hb2'.out)).keeps (Keeps.of_below hB))
  clear hB hp2
  obtain ⟨b, off, rfl, hc⟩ := hr2.out.at (by decide)
  obtain ⟨W3, hW3⟩ : ∃ W, V2.alloc (.cells #[.int .i64 2, .int .i64 3] 26) = W := ⟨_, rfl⟩
  have hb3 : Below V2.heap.size V2 W3 := by rw [← hW3]; exact (Below.refl _ _).alloc (Nat.le_refl _) _
  have hp3 : Box2 W3 26 V2.heap.size (.int .i64 2) (.int .i64 3) := by rw [← hW3]; exact blk_new (Below.refl _ _)
  have hk3 := Keeps.of_below hb3
  obtain ⟨a0, a1, a2, a3, a4⟩ := hc 0 (by decide)
  obtain ⟨b0, b1, b2, b3, b4⟩ := hc 4 (by decide)
  obtain ⟨c0, c1, c2, c3, c4⟩ := hc 5 (by decide)
  obtain ⟨d0, d1, d2, d3, d4⟩ := hc 6 (by decide)
  replace a0 := hk3 _ _ a0
  replace a1 := hk3 _ _ a1
  replace a2 := hk3 _ _ a2
  replace a3 := hk3 _ _ a3
  replace a4 := hk3 _ _ a4
  replace b0 := hk3 _ _ b0
  replace b1 := hk3 _ _ b1
  replace b2 := hk3 _ _ b2
  replace b3 := hk3 _ _ b3
  replace b4 := hk3 _ _ b4
  replace c0 := hk3 _ _ c0
  replace c1 := hk3 _ _ c1
  replace c2 := hk3 _ _ c2
  replace c3 := hk3 _ _ c3
  replace c4 := hk3 _ _ c4
  replace d0 := hk3 _ _ d0
  replace d1 := hk3 _ _ d1
  replace d2 := hk3 _ _ d2
  replace d3 := hk3 _ _ d3
  replace d4 := hk3 _ _ d4
  simp [toks1] at a0 a1 a2 a3 a4 b0 b1 b2 b3 b4 c0 c1 c2 c3 c4 d0 d1 d2 d3 d4
  obtain ⟨⟨e0, e1⟩, _⟩ := (hp2'.out.below hb3).cells
  obtain ⟨⟨f0, f1⟩, _⟩ := hp3.cells
  go_upto_region 3 with (fail)
  have hbW3 := Lib.hid (hbV2.out.trans (hb3.mono hbV2.out.size))
  have hr3 := Lib.hid (hr2.out.keeps hk3)
  have hW3' := Lib.hid hW3
  clear hW3 hb3 hp3 hk3 hc
  have t1 : ByteArray.toList (tS [102]) = [102] := by rw [toL]; rfl
  have t2 : ByteArray.toList (tS [45, 62]) = [45, 62] := by rw [toL]; rfl
  have t3 : ByteArray.toList (tS [49, 50]) = [49, 50] := by rw [toL]; rfl
  have t4 : ByteArray.toList (tS [66]) = [66] := by rw [toL]; rfl
  go_upto_region 6 with (fail)
  have hT : TkSl W3 (.slice (some ⟨b, off, none⟩) 2 c) (toks1.take 2) := ⟨_, c, rfl, ⟨(fun h => by cases h), hc2⟩, hr3.out.take 2⟩
  have hTx := lex_Text _ _ _ hT (by decide) (by decide)
  have e2 : tS (textL (toks1.take 2)) = ⟨#[102, 32, 61]⟩ := by decide
  rw [e2] at hTx
  have hTx' := Lib.hid hTx
  clear hTx hT e2 t1 t2 t3 t4 a0 a1 a2 a3 a4 b0 b1 b2 b3 b4 c0 c1 c2 c3 c4 d0 d1 d2 d3 d4
  have u1 : (ByteArray.toList ⟨#[102, 32, 61]⟩) = [102, 32, 61] := by rw [toL]; rfl
  have kk1 : keyB (bS ⟨#[100, 111, 115]⟩) = true := by decide
  have kk2 : keyB (bS ⟨#[100]⟩) = false := by decide
  have kk3 : nameB ⟨#[100]⟩ = true := by rw [name_eq]; decide
  have kk4 : nameB ⟨#[111, 102]⟩ = false := by rw [name_eq]; decide
  have kk5 : conB ⟨#[66]⟩ = true := by rw [con_eq]; decide
  have kk6 : conB ⟨#[98]⟩ = false := by rw [con_eq]; decide
  have hk1 := fun W => lex_Key ⟨#[100, 111, 115]⟩ W (by decide)
  have hk2 := fun W => lex_Key ⟨#[100]⟩ W (by decide)
  have hk3 := fun W => lex_Name ⟨#[100]⟩ W
  have hk4 := fun W => lex_Name ⟨#[111, 102]⟩ W
  have hk5 := fun W => lex_Con ⟨#[66]⟩ W
  have hk6 := fun W => lex_Con ⟨#[98]⟩ W
  rw [kk1] at hk1
  rw [kk2] at hk2
  rw [kk3] at hk3
  rw [kk4] at hk4
  rw [kk5] at hk5
  rw [kk6] at hk6
  have hk1' := Lib.hid hk1
  have hk2' := Lib.hid hk2
  have hk3' := Lib.hid hk3
  have hk4' := Lib.hid hk4
  have hk5' := Lib.hid hk5
  have hk6' := Lib.hid hk6
  clear hk1 hk2 hk3 hk4 hk5 hk6 kk1 kk2 kk3 kk4 kk5 kk6
  go_wp2_with fail
  refine (hTx'.out).mono ?_
  rintro e Y0 ⟨rfl, hB⟩
  have hy0 := Lib.hid (hbW3.out.trans (hB.mono hbW3.out.size))
  clear hB
  go_wp2_with fail
  refine (hk1'.out _).mono ?_
  rintro e Y1 ⟨rfl, hB⟩
  have hy1 := Lib.hid (hy0.out.trans (hB.mono hy0.out.size))
  clear hB
  go_wp2_with fail
  refine (hk2'.out _).mono ?_
  rintro e Y2 ⟨rfl, hB⟩
  have hy2 := Lib.hid (hy1.out.trans (hB.mono hy1.out.size))
  clear hB
  go_wp2_with fail
  refine (hk3'.out _).mono ?_
  rintro e Y3 ⟨rfl, hB⟩
  have hy3 := Lib.hid (hy2.out.trans (hB.mono hy2.out.size))
  clear hB
  go_wp2_with fail
  refine (hk4'.out _).mono ?_
  rintro e Y4 ⟨rfl, hB⟩
  have hy4 := Lib.hid (hy3.out.trans (hB.mono hy3.out.size))
  clear hB
  go_wp2_with fail
  refine (hk5'.out _).mono ?_
  rintro e Y5 ⟨rfl, hB⟩
  have hy5 := Lib.hid (hy4.out.trans (hB.mono hy4.out.size))
  clear hB
  go_wp2_with fail
  refine (hk6'.out _).mono ?_
  rintro e Y6 ⟨rfl, hB⟩
  have hy6 := Lib.hid (hy5.out.trans (hB.mono hy5.out.size))
  clear hB
  go_wp2_with fail
  go_ret
  exact ⟨rfl, hy6.out⟩
end Go.Proofs.YtchdfjihflmloaaDoor
