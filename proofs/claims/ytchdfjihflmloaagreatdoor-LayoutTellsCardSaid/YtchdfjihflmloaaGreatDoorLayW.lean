/- The calls of layer 3 whose answers are fixed: all are so. -/
import Derived.Test.YtchdfjihflmloaaGreatDoorLayL
import Derived.Test.YtchdfjihflmloaaGreatDoorLexAw
namespace Go.Proofs.YtchdfjihflmloaaGreatDoor
open Go.RowKit

/-- f = do, a, b in lines of their own; g = (do c) -/
def text3 : Bs := [102, 32, 61, 32, 100, 111, 10, 32, 32, 97, 10, 32, 32, 98, 10, 103, 32, 61, 32, 40, 100, 111, 32, 99, 41]
def toks3 : List Tk := [⟨2, [102], 0, 1, 1⟩, ⟨4, [61], 0, 1, 3⟩, ⟨4, [100, 111], 0, 1, 5⟩, ⟨2, [97], 0, 2, 3⟩, ⟨2, [98], 0, 3, 3⟩, ⟨2, [103], 0, 4, 1⟩, ⟨4, [61], 0, 4, 3⟩, ⟨4, [40], 0, 4, 5⟩, ⟨4, [100, 111], 0, 4, 6⟩, ⟨2, [99], 0, 4, 9⟩, ⟨4, [41], 0, 4, 10⟩]
theorem lexA3 : lexA text3 = .ok toks3 := by
  show lexF 1 1 0 text3 = _
  rw [← lexN_eq 25 _ _ _ _ (by decide)]; rfl
def out3 : List Tk := match layF toks3 with | .ok m => m | .bad _ _ => []
theorem lay3 : layF toks3 = .ok out3 := by rfl
theorem lay4 : layF [⟨4, [41], 0, 3, 4⟩] = .bad 3 4 := by rfl
theorem text_out3 : tS (textL out3) = ⟨#[123, 32, 102, 32, 61, 32, 100, 111, 32, 123, 32, 97, 32, 59, 32, 98, 32, 125, 32, 59, 32, 103, 32, 61, 32, 40, 32, 100, 111, 32, 123, 32, 99, 32, 125, 32, 41, 32, 125]⟩ := by decide

set_option maxHeartbeats 4000000 in
set_option maxRecDepth 100000 in
theorem lay_awake (w : World) (hE : RngOk w) (hM : MaxOk w) : Calls Tryz.prog 4 #[] w fun r w' => r = .returned (.bool true) ∧ Below w.heap.size w w' := by
  have kc := fun (w : World) (C : Array Value) (n c : Nat) => Lib.run_convert_bytes_const (P := Tryz.prog) w 32 5 C n c Tryz.underlying32 Tryz.underlying5
  have hx1 : Hid (∀ W, Below w.heap.size w W → ∀ C m, C.toList = text3.map (fun b => Value.int .u8 b.toNat) → Calls Tryz.prog 8 #[.slice (some ⟨W.heap.size, 0, none⟩) 25 25] (W.alloc (.cells C 5 m)) fun r w' => LexR (.ok toks3) r w' ∧ Below W.heap.size W w') := by
    intro W hW C m hC
    have hb : Below W.heap.size W (W.alloc (.cells C 5 m)) := (Below.refl _ _).alloc (Nat.le_refl _) _
    have hk := Keeps.of_below (hW.trans (hb.mono hW.size))
    have := lex_Lex (some ⟨W.heap.size, 0, none⟩) text3 25 _ (by decide) (by decide) (by decide) (fun h => by cases h) (marked_row W text3 C m hC) (hE.keeps hk) (hM.keeps hk)
    rw [lexA3] at this
    exact this.mono fun r w' ⟨h1, h2⟩ => ⟨h1, hb.trans (h2.mono (by simp))⟩
  clear hE hM
  go_enter Tryz.func4, Tryz.ntmps4
  go_wp2_with fail
  refine (hx1.out _ (Below.refl _ _) _ _ rfl).mono ?_
  rintro e V ⟨⟨v, rfl, a, c, rfl, ⟨ha, hc⟩, hr⟩, hB⟩
  have hbV := Lib.hid hB
  have hr' := Lib.hid hr
  have ha' := Lib.hid ha
  have hc' := Lib.hid hc
  clear hB hr ha hc
  obtain ⟨W2, hW2⟩ : ∃ W, V.alloc (.cells #[.int .i64 0, .int .i64 0] 25) = W := ⟨_, rfl⟩
  have hb2 : Below V.heap.size V W2 := by rw [← hW2]; exact (Below.refl _ _).alloc (Nat.le_refl _) _
  have hbW2 := Lib.hid (hbV.out.trans (hb2.mono hbV.out.size))
  have hl2 := Lib.hid (lay_Layout a toks3 c W2 (by decide) hc'.out ha'.out (hr'.out.keeps (Keeps.of_below hb2)))
  rw [lay3] at hl2
  have hW2' := Lib.hid hW2
  clear hW2 hb2
  go_upto_region 2 with (fail)
  rw [hW2'.out]
  go_wp2_with fail
  refine hl2.out.mono ?_
  rintro e V2 ⟨⟨v2, rfl, hv2⟩, hB⟩
  have hbV2 := Lib.hid (hbW2.out.trans (hB.mono hbW2.out.size))
  have hv2' := Lib.hid hv2
  clear hB hv2
  obtain ⟨W3, hW3⟩ : ∃ W, V2.alloc (.cells #[.int .i64 0, .int .i64 0] 25) = W := ⟨_, rfl⟩
  have hb3 : Below V2.heap.size V2 W3 := by rw [← hW3]; exact (Below.refl _ _).alloc (Nat.le_refl _) _
  have hp3 : Box2 W3 25 V2.heap.size (.int .i64 0) (.int .i64 0) := by rw [← hW3]; exact blk_new (Below.refl _ _)
  have hp3' := Lib.hid hp3
  have hbW3 := Lib.hid (hbV2.out.trans (hb3.mono hbV2.out.size))
  have hv3 := Lib.hid (hv2'.out.keeps (Keeps.of_below hb3))
  have hl3 := Lib.hid (lay_Layout none [] 0 W3 (by decide) (by decide) (fun _ => rfl) (.inl rfl))
  have hW3' := Lib.hid hW3
  clear hW3 hb3 hp3
  go_upto_region 3 with (fail)
  rw [hW3'.out]
  go_wp2_with fail
  refine hl3.out.mono ?_
  rintro e V3 ⟨⟨v4, rfl, hv4⟩, hB⟩
  obtain ⟨a4, c4, rfl⟩ := hv4.open
  have hbV3 := Lib.hid (hbW3.out.trans (hB.mono hbW3.out.size))
  have hp4 := Lib.hid (hp3'.out.below hB)
  have hv5 := Lib.hid (hv3.out.keeps (Keeps.of_below hB))
  clear hB hv4
  obtain ⟨W4, hW4⟩ : ∃ W, V3.alloc (.cells #[.int .i64 0, .int .i64 0] 25) = W := ⟨_, rfl⟩
  have hb4 : Below V3.heap.size V3 W4 := by rw [← hW4]; exact (Below.refl _ _).alloc (Nat.le_refl _) _
  have hbW4 := Lib.hid (hbV3.out.trans (hb4.mono hbV3.out.size))
  have hp5 := Lib.hid (hp4.out.below hb4)
  have hv6 := Lib.hid (hv5.out.keeps (Keeps.of_below hb4))
  have hrow4 : TkRow (W4.alloc (.cells (tkC ⟨4, [41], 0, 3, 4⟩).toArray 34)) (some ⟨W4.heap.size, 0, none⟩) [⟨4, [41], 0, 3, 4⟩] := by
    have h : ∀ j v, (tkC ⟨4, [41], 0, 3, 4⟩)[j]? = some v → (W4.alloc (.cells (tkC ⟨4, [41], 0, 3, 4⟩).toArray 34)).cell? ⟨W4.heap.size, 0 + j, none⟩ = some v := fun j v hj => by
      have := cell_five_new (w := W4) rfl ⟨4, [41], 0, 3, 4⟩ 34 j v hj
      rwa [addr_plus] at this
    refine .inr ⟨_, 0, rfl, fun i hi => ?_⟩
    obtain rfl : i = 0 := by simpa using hi
    exact ⟨h 0 _ rfl, h 1 _ rfl, h 2 _ rfl, h 3 _ rfl, h 4 _ rfl⟩
  have hb4a : Below W4.heap.size W4 (W4.alloc (.cells (tkC ⟨4, [41], 0, 3, 4⟩).toArray 34)) := (Below.refl _ _).alloc (Nat.le_refl _) _
  have hl4 := lay_Layout (some ⟨W4.heap.size, 0, none⟩) [⟨4, [41], 0, 3, 4⟩] 1 _ (by decide) (by decide) (fun h => by cases h) hrow4
  rw [lay4] at hl4
  have hl4' := Lib.hid (hl4.mono fun r w' ⟨h1, h2⟩ => (⟨h1, hb4a.trans (h2.mono (by simp))⟩ : LayR (.bad 3 4) r w' ∧ Below W4.heap.size W4 w'))
  have hW4' := Lib.hid hW4
  clear hW4 hb4 hrow4 hb4a hl4
  go_upto_region 4 with (fail)
  rw [hW4'.out]
  go_wp2_with fail
  refine hl4'.out.mono ?_
  rintro e V4 ⟨rfl, hB⟩
  have hbV4 := Lib.hid (hbW4.out.trans (hB.mono hbW4.out.size))
  have hp6 := Lib.hid (hp5.out.below hB)
  have hv7 := Lib.hid (hv6.out.keeps (Keeps.of_below hB))
  clear hB
  obtain ⟨W5, hW5⟩ : ∃ W, V4.alloc (.cells #[.int .i64 3, .int .i64 4] 25) = W := ⟨_, rfl⟩
  have hb5 : Below V4.heap.size V4 W5 := by rw [← hW5]; exact (Below.refl _ _).alloc (Nat.le_refl _) _
  have hp7 : Box2 W5 25 V4.heap.size (.int .i64 3) (.int .i64 4) := by rw [← hW5]; exact blk_new (Below.refl _ _)
  have hp7' := Lib.hid hp7
  have hp8 := Lib.hid (hp6.out.below hb5)
  have hbW5 := Lib.hid (hbV4.out.trans (hb5.mono hbV4.out.size))
  have hTx := lex_Text _ _ _ (hv7.out.keeps (Keeps.of_below hb5)) (by decide) (by decide)
  rw [text_out3] at hTx
  have hTx' := Lib.hid hTx
  have hW5' := Lib.hid hW5
  clear hW5 hb5 hp7 hTx
  go_upto_region 5 with (fail)
  rw [hW5'.out]
  go_wp2_with fail
  refine hTx'.out.mono ?_
  rintro e V5 ⟨rfl, hB⟩
  obtain ⟨⟨e0, e1⟩, _⟩ := (hp7'.out.below hB).cells
  obtain ⟨⟨f0, f1⟩, _⟩ := (hp8.out.below hB).cells
  have hbV5 := Lib.hid (hbW5.out.trans (hB.mono hbW5.out.size))
  have u1 : (ByteArray.toList ⟨#[123, 32, 102, 32, 61, 32, 100, 111, 32, 123, 32, 97, 32, 59, 32, 98, 32, 125, 32, 59, 32, 103, 32, 61, 32, 40, 32, 100, 111, 32, 123, 32, 99, 32, 125, 32, 41, 32, 125]⟩) = [123, 32, 102, 32, 61, 32, 100, 111, 32, 123, 32, 97, 32, 59, 32, 98, 32, 125, 32, 59, 32, 103, 32, 61, 32, 40, 32, 100, 111, 32, 123, 32, 99, 32, 125, 32, 41, 32, 125] := by rw [toL]; rfl
  clear hB
  go_wp2_with fail
  go_ret
  exact ⟨rfl, hbV5.out⟩
end Go.Proofs.YtchdfjihflmloaaGreatDoor
