/- What makes two types one: the model; what the maker's memory holds; its root, its walk. -/
import Derived.Test.YticjpeefhppjoaaDoorTyF
import Derived.Test.YticjpeefhppjoaaDoorTyN
import Derived.Test.YticjpeefhppjoaaDoorTyM
import Derived.Test.YticjpeefhppjoaaDoorTyW
import Derived.Test.YticjpeefhppjoaaDoorTyO
import Derived.Test.YticjpeefhppjoaaDoorTyE
import Derived.Deep.LoopGhost
import Derived.Deep.RegionHeld3
namespace Go.Proofs.YticjpeefhppjoaaDoor
open Go.RowKit

/-- What a type is, as far as one is told. -/
def walkT (L : List Fa) : Nat → Ty → Option Ty
  | 0, _ => none
  | k + 1, .mk s n l => if holeS s = true then (match fa? L n with | none => some (.mk s n l) | some x => walkT L k x) else some (.mk s n l)
/-- A type, or the last hole that it is. -/
def rootT (L : List Fa) : Nat → Ty → Option Ty
  | 0, _ => none
  | k + 1, .mk s n l => if holeS s = true then (match fa? L n with | none => some (.mk s n l) | some x => if holeS x.name = true then rootT L k x else some (.mk s n l)) else some (.mk s n l)

/-- All blocks that lay below B lie as they lay, but one. -/
structure BelowB (B mb : Nat) (w w' : World) : Prop where
  os : w'.os = w.os
  tape : w'.tape = w.tape
  output : w'.output = w.output
  size : w.heap.size ≤ w'.heap.size
  block : ∀ k, k < B → k ≠ mb → w'.heap[k]? = w.heap[k]?
theorem BelowB.refl (B mb : Nat) (w : World) : BelowB B mb w w := ⟨rfl, rfl, rfl, Nat.le_refl _, fun _ _ _ => rfl⟩
theorem BelowB.trans {B mb : Nat} {a b c : World} (h : BelowB B mb a b) (k : BelowB B mb b c) : BelowB B mb a c :=
  ⟨k.os.trans h.os, k.tape.trans h.tape, k.output.trans h.output, Nat.le_trans h.size k.size, fun i hi hne => (k.block i hi hne).trans (h.block i hi hne)⟩
theorem BelowB.mono {B B' mb : Nat} {a b : World} (h : BelowB B mb a b) (hB : B' ≤ B) : BelowB B' mb a b := ⟨h.os, h.tape, h.output, h.size, fun i hi hne => h.block i (Nat.lt_of_lt_of_le hi hB) hne⟩
theorem BelowB.of_below {B mb : Nat} {a b : World} (h : Below B a b) : BelowB B mb a b := ⟨h.os, h.tape, h.output, h.size, fun i hi _ => h.block i hi⟩
theorem BelowB.of_grown {B mb : Nat} {a b : World} (h : a.grownBy b (some mb)) (hB : B ≤ a.heap.size) : BelowB B mb a b := ⟨h.os, h.tape, h.output, h.size, fun i hi hne => h.block i (Nat.lt_of_lt_of_le hi hB) (fun e => hne (by simpa using e))⟩
/-- The call's cells are kept, since the one block is a map. -/
theorem BelowB.keeps {mb : Nat} {a b : World} (h : BelowB a.heap.size mb a b) (hm : ∃ o : Obj, a.heap[mb]? = some o ∧ o.isCells = false) : Keeps a b := by
  intro x v hv
  have hb := cell_block hv
  refine (World.cell?_of_block (h.block x.block hb ?_)).trans hv
  intro e
  obtain ⟨o, ho, hc⟩ := hm
  unfold World.cell? at hv
  rw [e, ho] at hv
  cases o <;> simp_all [Obj.isCells]

/-- A map in memory is facts; the types lay in memory at w₀. -/
def MpIs (w₀ w : World) (mb : Nat) (L : List Fa) : Prop :=
  ∃ f, MapOf Tryd.prog w 3 mb L.length f ∧ ∀ n, In64 n → (fa? L n = none ∧ f (keyN n) = none) ∨ ∃ e v, fa? L n = some e ∧ f (keyN n) = some v ∧ IsTy w₀ v e
theorem MpIs.lt {w₀ w : World} {mb : Nat} {L : List Fa} (h : MpIs w₀ w mb L) : mb < w.heap.size := by obtain ⟨f, hM, _⟩ := h; exact hM.lt
theorem MpIs.obj {w₀ w : World} {mb : Nat} {L : List Fa} (h : MpIs w₀ w mb L) : ∃ o : Obj, w.heap[mb]? = some o ∧ o.isCells = false := by
  obtain ⟨f, ⟨_, ⟨es, clock, b1, _⟩, _⟩, _⟩ := h
  exact ⟨_, b1, rfl⟩
theorem MpIs.below {w₀ w w' : World} {mb B : Nat} {L : List Fa} (h : MpIs w₀ w mb L) (hb : Below B w w') (hB : mb < B) : MpIs w₀ w' mb L := by
  obtain ⟨f, hM, hF⟩ := h
  exact ⟨f, hM.below hb hB, hF⟩
theorem MpIs.look {w₀ w : World} {mb : Nat} {L : List Fa} (h : MpIs w₀ w mb L) {n : Int} (hn : In64 n) : ∃ (fb : Bool) (ys : Str) (yn : Int) (ya : Option Addr) (ym yc : Nat),
    (∀ V, Below w.heap.size w V → (Instr.lookup 57 (.map (some mb)) (.int .i64 n) true).run Tryd.prog V = .ok (.tuple #[.agg #[.string ys, .int .i64 yn, .slice ya ym yc], .bool fb]) V) ∧
    ((fb = false ∧ fa? L n = none) ∨ (fb = true ∧ ∃ e, fa? L n = some e ∧ IsTy w₀ (.agg #[.string ys, .int .i64 yn, .slice ya ym yc]) e)) := by
  obtain ⟨f, hM, hF⟩ := h
  have K : Maps.Keyed Tryd.prog 3 := Maps.int_keyed Tryd.underlying3
  have hl : ∀ V, Below w.heap.size w V → _ := fun V hb => (hM.below hb hM.lt).look2 K Tryd.underlying57 (zeroTy_run V) (keyN_of hn)
  rcases hF n hn with ⟨h1, h2⟩ | ⟨e, v, h1, h2, h3⟩
  · rw [h2] at hl
    exact ⟨false, ⟨#[]⟩, 0, none, 0, 0, hl, .inl ⟨rfl, h1⟩⟩
  · rw [h2] at hl
    obtain ⟨a, c, rfl⟩ := h3.form
    exact ⟨true, _, _, _, _, _, hl, .inr ⟨rfl, e, h1, h3⟩⟩

/-- The maker's box. -/
def MkIs (w : World) (mk mb : Nat) : Prop := w.heap[mk]? = some (.cells #[.map (some mb)] 66 (0, 0))
theorem MkIs.below {w w' : World} {mk mb B : Nat} (h : MkIs w mk mb) (hb : Below B w w') (hB : mk < B) : MkIs w' mk mb := (hb.block mk hB).trans h
theorem MkIs.lt {w : World} {mk mb : Nat} (h : MkIs w mk mb) : mk < w.heap.size := (Array.getElem?_eq_some_iff.1 h).1
theorem MkIs.cell {w : World} {mk mb : Nat} (h : MkIs w mk mb) : w.cell? ⟨mk, 0, none⟩ = some (.map (some mb)) := by
  unfold MkIs at h; simp [World.cell?, h]

/-- A block of a type's three cells. -/
def BoxT (w : World) (b : Nat) (x y z : Value) : Prop := w.heap[b]? = some (.cells #[x, y, z] 24 (0, 0))
theorem BoxT.cells {w : World} {b : Nat} {x y z : Value} (h : BoxT w b x y z) : w.cell? ⟨b, 0, none⟩ = some x ∧ w.cell? ⟨b, 1, none⟩ = some y ∧ w.cell? ⟨b, 2, none⟩ = some z := cells_of h
theorem BoxT.below {w w' : World} {b B : Nat} {x y z : Value} (h : BoxT w b x y z) (hb : Below B w w') (hB : b < B) : BoxT w' b x y z := (hb.block b hB).trans h
theorem BoxT.set {w : World} {b : Nat} {x0 x1 x2 : Value} (h : BoxT w b x0 x1 x2) (x y z : Value) : BoxT (World.box3 w b x y z) b x y z ∧ Below b w (World.box3 w b x y z) ∧ (World.box3 w b x y z).heap.size = w.heap.size ∧ ∀ i, i ≠ b → (World.box3 w b x y z).heap[i]? = w.heap[i]? := by
  have hs := set_box3 h x y z
  refine ⟨?_, hs.2.1, hs.2.2.1, fun i hi => ?_⟩
  · unfold BoxT at h ⊢
    simp [World.box3, World.setCell, Array.getElem?_modify, h]
  · unfold World.box3
    rw [Below.heap_setCell _ _ _ _ (fun e => hi e), Below.heap_setCell _ _ _ _ (fun e => hi e), Below.heap_setCell _ _ _ _ (fun e => hi e)]

set_option maxHeartbeats 4000000 in
set_option maxRecDepth 100000 in
theorem ty_root (w₀ : World) (mk mb : Nat) (L : List Fa) (fuel : Nat) (e r : Ty) (v : Value) (w : World) (hr : rootT L fuel e = some r) (hk : MkIs w mk mb) (hm : MpIs w₀ w mb L) (hv : IsTy w₀ v e) :
    Calls Tryd.prog 62 #[.pointer (some ⟨mk, 0, none⟩), v] w fun z w' => ∃ u, z = .returned u ∧ IsTy w₀ u r ∧ Below w.heap.size w w' := by
  obtain ⟨s, n, l⟩ := e
  have hv0 := Lib.hid hv
  obtain ⟨a1, c1, rfl, _, hn, _⟩ := hv.open
  have hm' := Lib.hid hm
  have hk' := Lib.hid hk
  have hmk := hk.lt
  have hr' := Lib.hid hr
  clear hv hm hk hr
  have hmkc : Hid (∀ V, Below w.heap.size w V → V.cell? ⟨mk, 0, none⟩ = some (.map (some mb))) := fun V hV => (hk'.out.below hV hmk).cell
  have hH : Hid (∀ (s : Str) (n : Int) (a : Option Addr) (m c : Nat) (V : World), Calls Tryd.prog 54 #[.agg #[.string s, .int .i64 n, .slice a m c]] V fun r V' => r = .returned (.bool (holeS s)) ∧ Below V.heap.size V V') := fun s n a m c V => ty_hole s n a m c V
  go_enter Tryd.func62, Tryd.ntmps62
  go_wp2_with fail
  go_loopg [7] fuel (fun k _ wr => ∃ (s : Str) (n : Int) (l : List Ty) (a : Option Addr) (c : Nat), BoxT wr w.heap.size (.string s) (.int .i64 n) (.slice a l.length c) ∧ Hid (IsTy w₀ (.agg #[.string s, .int .i64 n, .slice a l.length c]) (.mk s n l)) ∧ Hid (rootT L k (.mk s n l) = some r) ∧ BoxT wr (w.heap.size + 1) (.string ⟨#[]⟩) (.int .i64 0) (.slice none 0 0) ∧ Below w.heap.size w wr)
  case atStart =>
    refine ⟨s, n, l, a1, c1, ?_, hv0, hr', ?_, ((Below.refl _ w).alloc (Nat.le_refl _) _).alloc (by simp) _⟩
    · exact new_block ((Below.refl _ _).alloc (by simp) _)
    · exact new_block2 (Below.refl _ _)
  case round =>
    clear hv0 hr' hn
    obtain ⟨s, n, l, a, c, hb, hv, hr, hres, hB⟩ := hrel
    have hzr := hB.size
    have hz1 : w.heap.size < wr.heap.size := (Array.getElem?_eq_some_iff.1 hb).1
    have hz2 : w.heap.size + 1 < wr.heap.size := (Array.getElem?_eq_some_iff.1 hres).1
    obtain ⟨b0, b1, b2⟩ := hb.cells
    have hb' := Lib.hid hb
    have hres' := Lib.hid hres
    have hcall := Lib.hid (hH.out s n a l.length c wr)
    have hend : Hid (∀ V, Below wr.heap.size wr V → r = .mk s n l → BoxT V (w.heap.size + 1) (.string ⟨#[]⟩) (.int .i64 0) (.slice none 0 0) ∧ Below w.heap.size w V ∧ V.cell? ⟨w.heap.size, 0, none⟩ = some (.string s) ∧ V.cell? ⟨w.heap.size, 1, none⟩ = some (.int .i64 n) ∧ V.cell? ⟨w.heap.size, 2, none⟩ = some (.slice a l.length c)) := by
      intro V hV _
      obtain ⟨q0, q1, q2⟩ := (hb.below hV hz1).cells
      exact ⟨hres.below hV hz2, hB.trans (hV.mono hzr), q0, q1, q2⟩
    obtain ⟨k, rfl⟩ : ∃ k, gk = k + 1 := by
      cases gk with
      | zero => have := hr.out; simp [rootT] at this
      | succ k => exact ⟨k, rfl⟩
    clear hb hres
    cases hq : holeS s
    case false =>
      have hrr : Hid (r = .mk s n l) := by have := hr.out; simp only [rootT, hq, Bool.false_eq_true, if_false, Option.some.injEq] at this; exact this.symm
      rw [hq] at hcall
      clear hq hr
      go_wp2_with fail
      refine hcall.out.mono ?_
      rintro e V ⟨rfl, hBV⟩
      obtain ⟨hres, hwX, b0, b1, b2⟩ := hend.out V hBV hrr.out
      have hrs := Lib.hid hres
      obtain ⟨r0, r1, r2⟩ := hres.cells
      have rf0 := frozen_of hres 0
      have rf1 := frozen_of hres 1
      have rf2 := frozen_of hres 2
      clear hres
      go_wp2_with fail
      have hU := hrs.out.set (.string s) (.int .i64 n) (.slice a l.length c)
      change bodyPost _ _ _ _ _ (World.box3 V (w.heap.size + 1) (.string s) (.int .i64 n) (.slice a l.length c))
      generalize World.box3 V (w.heap.size + 1) (.string s) (.int .i64 n) (.slice a l.length c) = U at hU ⊢
      obtain ⟨hUb, hBU, -, -⟩ := hU
      clear r0 r1 r2
      obtain ⟨u0, u1, u2⟩ := hUb.cells
      refine bodyPost_ret (results_ty rfl _ _ rfl u0 u1 u2) rfl ?_
      exact ⟨_, rfl, by rw [hrr.out]; exact hv.out, hwX.trans (hBU.mono (by omega))⟩
    case true =>
      have hin : In64 n := In64.of_hole hv.out
      obtain ⟨fb, ys, yn, ya, ym, yc, hlk, hfb⟩ := hm'.out.look hin
      have hlk' := Lib.hid hlk
      rw [hq] at hcall
      have hq' := Lib.hid hq
      clear hq hlk
      go_wp2_with fail
      refine hcall.out.mono ?_
      rintro e V ⟨rfl, hBV⟩
      have hzV := hBV.size
      obtain ⟨b0, b1, b2⟩ := (hb'.out.below hBV hz1).cells
      have hwV : Below w.heap.size w V := hB.trans (hBV.mono (by omega))
      have hS : Hid (∀ W, Below V.heap.size V W → Below V.heap.size V W ∧ W.cell? ⟨mk, 0, none⟩ = some (.map (some mb)) ∧ W.cell? ⟨w.heap.size, 0, none⟩ = some (.string s) ∧ W.cell? ⟨w.heap.size, 1, none⟩ = some (.int .i64 n) ∧ W.cell? ⟨w.heap.size, 2, none⟩ = some (.slice a l.length c) ∧ (Instr.lookup 57 (.map (some mb)) (.int .i64 n) true).run Tryd.prog W = .ok (.tuple #[.agg #[.string ys, .int .i64 yn, .slice ya ym yc], .bool fb]) W) := by
        intro W hW
        have hwW := hwV.trans (hW.mono (by omega))
        exact ⟨hW, hmkc.out W hwW, Keeps.of_below hW _ _ b0, Keeps.of_below hW _ _ b1, Keeps.of_below hW _ _ b2, hlk'.out W hwW⟩
      have hst := Lib.hid (hS.out V (Below.refl _ _))
      have hdr := Lib.hid (hS.out V.drew (Below.refl _ _).drew)
      have hal := Lib.hid (fun v => hS.out _ ((Below.refl _ V).drew.alloc (Nat.le_refl _) (.cells v 24)))
      go_wp2_with fail
      go_region_held3 (fun W => Below V.heap.size V W ∧ W.cell? ⟨mk, 0, none⟩ = some (.map (some mb)) ∧ W.cell? ⟨w.heap.size, 0, none⟩ = some (.string s) ∧ W.cell? ⟨w.heap.size, 1, none⟩ = some (.int .i64 n) ∧ W.cell? ⟨w.heap.size, 2, none⟩ = some (.slice a l.length c) ∧ (Instr.lookup 57 (.map (some mb)) (.int .i64 n) true).run Tryd.prog W = .ok (.tuple #[.agg #[.string ys, .int .i64 yn, .slice ya ym yc], .bool fb]) W) ((first | exact hdr.out | exact hst.out | exact hal.out _ | exact hS.out _ (by assumption))) (fail)
      all_goals
        have hW5 : Below V.heap.size V (V.alloc (.cells #[.string ys, .int .i64 yn, .slice ya ym yc] 24)).drew := ((Below.refl _ V).alloc (Nat.le_refl _) _).drew
        obtain ⟨W5, hWe⟩ : ∃ W, (V.alloc (.cells #[.string ys, .int .i64 yn, .slice ya ym yc] 24)).drew = W := ⟨_, rfl⟩
        have hx : BoxT W5 V.heap.size (.string ys) (.int .i64 yn) (.slice ya ym yc) := by
          rw [← hWe]
          exact new_block (Below.refl _ (V.alloc (.cells #[.string ys, .int .i64 yn, .slice ya ym yc] 24))).drew
        rw [hWe] at hW5 ⊢
        have hW5z : W5.heap.size = V.heap.size + 1 := by rw [← hWe]; simp
        clear hWe hS hst hdr hal b0 b1 b2
        have hbr5 : Below wr.heap.size wr W5 := hBV.trans (hW5.mono (by omega))
        obtain ⟨x0, x1, x2⟩ := hx.cells
        have hx' := Lib.hid hx
        have hW5' := Lib.hid hW5
        cases fb
        · have hrr : Hid (r = .mk s n l) := by
            have h1 := hr.out
            rcases hfb with ⟨_, h⟩ | ⟨h, _⟩
            · simp only [rootT, hq'.out, if_true, h, Option.some.injEq] at h1; exact h1.symm
            · cases h
          clear hfb
          obtain ⟨hres, hwX, b0, b1, b2⟩ := hend.out W5 hbr5 hrr.out
          have hrs := Lib.hid hres
          obtain ⟨r0, r1, r2⟩ := hres.cells
          have rf0 := frozen_of hres 0
          have rf1 := frozen_of hres 1
          have rf2 := frozen_of hres 2
          clear hres
          clear hx hW5
          go_wp2_with fail
          have hU := hrs.out.set (.string s) (.int .i64 n) (.slice a l.length c)
          change bodyPost _ _ _ _ _ (World.box3 W5 (w.heap.size + 1) (.string s) (.int .i64 n) (.slice a l.length c))
          generalize World.box3 W5 (w.heap.size + 1) (.string s) (.int .i64 n) (.slice a l.length c) = U at hU ⊢
          obtain ⟨hUb, hBU, -, -⟩ := hU
          clear r0 r1 r2
          obtain ⟨u0, u1, u2⟩ := hUb.cells
          refine bodyPost_ret (results_ty rfl _ _ rfl u0 u1 u2) rfl ?_
          exact ⟨_, rfl, by rw [hrr.out]; exact hv.out, hwX.trans (hBU.mono (by omega))⟩
        · obtain ⟨e, hF, hxe⟩ : ∃ e, fa? L n = some e ∧ IsTy w₀ (.agg #[.string ys, .int .i64 yn, .slice ya ym yc]) e := by
            rcases hfb with ⟨h, _⟩ | ⟨_, h⟩
            · cases h
            · exact h
          obtain ⟨es, en, el⟩ := e
          have hxo := hxe.open
          obtain ⟨a9, c9, hv9, _⟩ := hxo
          simp only [Value.agg.injEq, Array.mk.injEq, List.cons.injEq, and_true, Value.string.injEq, Value.int.injEq, Value.slice.injEq, true_and] at hv9
          obtain ⟨rfl, rfl, rfl, rfl, rfl⟩ := hv9
          have hxe' := Lib.hid hxe
          have hhx := Lib.hid (hH.out ys yn ya el.length yc W5)
          cases hy : holeS ys
          · have hrr : Hid (r = .mk s n l) := by
              have h1 := hr.out
              simp only [rootT, hq'.out, if_true, hF, Ty.name, hy, Bool.false_eq_true, if_false, Option.some.injEq] at h1; exact h1.symm
            rw [hy] at hhx
            clear hfb hxe hF hy hx hW5
            go_wp2_with fail
            refine hhx.out.mono ?_
            rintro e V7 ⟨rfl, hB7⟩
            have hbr7 : Below wr.heap.size wr V7 := hbr5.trans (hB7.mono (by omega))
            clear x0 x1 x2
            obtain ⟨hres, hwX, b0, b1, b2⟩ := hend.out V7 hbr7 hrr.out
            have hrs := Lib.hid hres
            obtain ⟨r0, r1, r2⟩ := hres.cells
            have rf0 := frozen_of hres 0
            have rf1 := frozen_of hres 1
            have rf2 := frozen_of hres 2
            clear hres
            go_wp2_with fail
            have hU := hrs.out.set (.string s) (.int .i64 n) (.slice a l.length c)
            change bodyPost _ _ _ _ _ (World.box3 V7 (w.heap.size + 1) (.string s) (.int .i64 n) (.slice a l.length c))
            generalize World.box3 V7 (w.heap.size + 1) (.string s) (.int .i64 n) (.slice a l.length c) = U at hU ⊢
            obtain ⟨hUb, hBU, -, -⟩ := hU
            clear r0 r1 r2
            obtain ⟨u0, u1, u2⟩ := hUb.cells
            refine bodyPost_ret (results_ty rfl _ _ rfl u0 u1 u2) rfl ?_
            exact ⟨_, rfl, by rw [hrr.out]; exact hv.out, hwX.trans (hBU.mono (by omega))⟩
          · have hrr : Hid (rootT L k (.mk ys yn el) = some r) := by
              have h1 := hr.out
              simp only [rootT, hq'.out, if_true, hF, Ty.name, hy] at h1; exact h1
            rw [hy] at hhx
            clear hfb hxe hF hy hx hW5
            go_wp2_with fail
            refine hhx.out.mono ?_
            rintro e V7 ⟨rfl, hB7⟩
            have hbr7 : Below wr.heap.size wr V7 := hbr5.trans (hB7.mono (by omega))
            clear x0 x1 x2
            obtain ⟨x0, x1, x2⟩ := (hx'.out.below hB7 (by omega)).cells
            have hb7 := Lib.hid (hb'.out.below hbr7 hz1)
            obtain ⟨b0, b1, b2⟩ := hb7.out.cells
            have rf0 := frozen_of hb7.out 0
            have rf1 := frozen_of hb7.out 1
            have rf2 := frozen_of hb7.out 2
            have hres7 := Lib.hid (hres'.out.below hbr7 hz2)
            have hw7 := Lib.hid (hB.trans (hbr7.mono hzr))
            go_wp2_with fail
            go_roundg k
            case measure => omega
            case rel =>
              have hU := hb7.out.set (.string ys) (.int .i64 yn) (.slice ya el.length yc)
              exact ⟨ys, yn, el, ya, yc, hU.1, hxe', hrr, (hU.2.2.2 _ (by omega)).trans hres7.out, hw7.out.trans hU.2.1⟩

set_option maxHeartbeats 4000000 in
set_option maxRecDepth 100000 in
theorem ty_walk (w₀ : World) (mk mb : Nat) (L : List Fa) (fuel : Nat) (e r : Ty) (v : Value) (w : World) (hr : walkT L fuel e = some r) (hk : MkIs w mk mb) (hm : MpIs w₀ w mb L) (hv : IsTy w₀ v e) :
    Calls Tryd.prog 63 #[.pointer (some ⟨mk, 0, none⟩), v] w fun z w' => ∃ u, z = .returned u ∧ IsTy w₀ u r ∧ Below w.heap.size w w' := by
  obtain ⟨s, n, l⟩ := e
  have hv0 := Lib.hid hv
  obtain ⟨a1, c1, rfl, _, hn, _⟩ := hv.open
  have hm' := Lib.hid hm
  have hk' := Lib.hid hk
  have hmk := hk.lt
  have hr' := Lib.hid hr
  clear hv hm hk hr
  have hmkc : Hid (∀ V, Below w.heap.size w V → V.cell? ⟨mk, 0, none⟩ = some (.map (some mb))) := fun V hV => (hk'.out.below hV hmk).cell
  have hH : Hid (∀ (s : Str) (n : Int) (a : Option Addr) (m c : Nat) (V : World), Calls Tryd.prog 54 #[.agg #[.string s, .int .i64 n, .slice a m c]] V fun r V' => r = .returned (.bool (holeS s)) ∧ Below V.heap.size V V') := fun s n a m c V => ty_hole s n a m c V
  go_enter Tryd.func63, Tryd.ntmps63
  go_wp2_with fail
  go_loopg [7] fuel (fun k _ wr => ∃ (s : Str) (n : Int) (l : List Ty) (a : Option Addr) (c : Nat), BoxT wr w.heap.size (.string s) (.int .i64 n) (.slice a l.length c) ∧ Hid (IsTy w₀ (.agg #[.string s, .int .i64 n, .slice a l.length c]) (.mk s n l)) ∧ Hid (walkT L k (.mk s n l) = some r) ∧ BoxT wr (w.heap.size + 1) (.string ⟨#[]⟩) (.int .i64 0) (.slice none 0 0) ∧ Below w.heap.size w wr)
  case atStart =>
    refine ⟨s, n, l, a1, c1, ?_, hv0, hr', ?_, ((Below.refl _ w).alloc (Nat.le_refl _) _).alloc (by simp) _⟩
    · exact new_block ((Below.refl _ _).alloc (by simp) _)
    · exact new_block2 (Below.refl _ _)
  case round =>
    clear hv0 hr' hn
    obtain ⟨s, n, l, a, c, hb, hv, hr, hres, hB⟩ := hrel
    have hzr := hB.size
    have hz1 : w.heap.size < wr.heap.size := (Array.getElem?_eq_some_iff.1 hb).1
    have hz2 : w.heap.size + 1 < wr.heap.size := (Array.getElem?_eq_some_iff.1 hres).1
    obtain ⟨b0, b1, b2⟩ := hb.cells
    have hb' := Lib.hid hb
    have hres' := Lib.hid hres
    have hcall := Lib.hid (hH.out s n a l.length c wr)
    have hend : Hid (∀ V, Below wr.heap.size wr V → r = .mk s n l → BoxT V (w.heap.size + 1) (.string ⟨#[]⟩) (.int .i64 0) (.slice none 0 0) ∧ Below w.heap.size w V ∧ V.cell? ⟨w.heap.size, 0, none⟩ = some (.string s) ∧ V.cell? ⟨w.heap.size, 1, none⟩ = some (.int .i64 n) ∧ V.cell? ⟨w.heap.size, 2, none⟩ = some (.slice a l.length c)) := by
      intro V hV _
      obtain ⟨q0, q1, q2⟩ := (hb.below hV hz1).cells
      exact ⟨hres.below hV hz2, hB.trans (hV.mono hzr), q0, q1, q2⟩
    obtain ⟨k, rfl⟩ : ∃ k, gk = k + 1 := by
      cases gk with
      | zero => have := hr.out; simp [walkT] at this
      | succ k => exact ⟨k, rfl⟩
    clear hb hres
    cases hq : holeS s
    case false =>
      have hrr : Hid (r = .mk s n l) := by have := hr.out; simp only [walkT, hq, Bool.false_eq_true, if_false, Option.some.injEq] at this; exact this.symm
      rw [hq] at hcall
      clear hq hr
      go_wp2_with fail
      refine hcall.out.mono ?_
      rintro e V ⟨rfl, hBV⟩
      obtain ⟨hres, hwX, b0, b1, b2⟩ := hend.out V hBV hrr.out
      have hrs := Lib.hid hres
      obtain ⟨r0, r1, r2⟩ := hres.cells
      have rf0 := frozen_of hres 0
      have rf1 := frozen_of hres 1
      have rf2 := frozen_of hres 2
      clear hres
      go_wp2_with fail
      have hU := hrs.out.set (.string s) (.int .i64 n) (.slice a l.length c)
      change bodyPost _ _ _ _ _ (World.box3 V (w.heap.size + 1) (.string s) (.int .i64 n) (.slice a l.length c))
      generalize World.box3 V (w.heap.size + 1) (.string s) (.int .i64 n) (.slice a l.length c) = U at hU ⊢
      obtain ⟨hUb, hBU, -, -⟩ := hU
      clear r0 r1 r2
      obtain ⟨u0, u1, u2⟩ := hUb.cells
      refine bodyPost_ret (results_ty rfl _ _ rfl u0 u1 u2) rfl ?_
      exact ⟨_, rfl, by rw [hrr.out]; exact hv.out, hwX.trans (hBU.mono (by omega))⟩
    case true =>
      have hin : In64 n := In64.of_hole hv.out
      obtain ⟨fb, ys, yn, ya, ym, yc, hlk, hfb⟩ := hm'.out.look hin
      have hlk' := Lib.hid hlk
      rw [hq] at hcall
      have hq' := Lib.hid hq
      clear hq hlk
      go_wp2_with fail
      refine hcall.out.mono ?_
      rintro e V ⟨rfl, hBV⟩
      have hzV := hBV.size
      obtain ⟨b0, b1, b2⟩ := (hb'.out.below hBV hz1).cells
      have hwV : Below w.heap.size w V := hB.trans (hBV.mono (by omega))
      have hS : Hid (∀ W, Below V.heap.size V W → Below V.heap.size V W ∧ W.cell? ⟨mk, 0, none⟩ = some (.map (some mb)) ∧ W.cell? ⟨w.heap.size, 0, none⟩ = some (.string s) ∧ W.cell? ⟨w.heap.size, 1, none⟩ = some (.int .i64 n) ∧ W.cell? ⟨w.heap.size, 2, none⟩ = some (.slice a l.length c) ∧ (Instr.lookup 57 (.map (some mb)) (.int .i64 n) true).run Tryd.prog W = .ok (.tuple #[.agg #[.string ys, .int .i64 yn, .slice ya ym yc], .bool fb]) W) := by
        intro W hW
        have hwW := hwV.trans (hW.mono (by omega))
        exact ⟨hW, hmkc.out W hwW, Keeps.of_below hW _ _ b0, Keeps.of_below hW _ _ b1, Keeps.of_below hW _ _ b2, hlk'.out W hwW⟩
      have hst := Lib.hid (hS.out V (Below.refl _ _))
      have hdr := Lib.hid (hS.out V.drew (Below.refl _ _).drew)
      have hal := Lib.hid (fun v => hS.out _ ((Below.refl _ V).drew.alloc (Nat.le_refl _) (.cells v 24)))
      go_wp2_with fail
      go_region_held3 (fun W => Below V.heap.size V W ∧ W.cell? ⟨mk, 0, none⟩ = some (.map (some mb)) ∧ W.cell? ⟨w.heap.size, 0, none⟩ = some (.string s) ∧ W.cell? ⟨w.heap.size, 1, none⟩ = some (.int .i64 n) ∧ W.cell? ⟨w.heap.size, 2, none⟩ = some (.slice a l.length c) ∧ (Instr.lookup 57 (.map (some mb)) (.int .i64 n) true).run Tryd.prog W = .ok (.tuple #[.agg #[.string ys, .int .i64 yn, .slice ya ym yc], .bool fb]) W) ((first | exact hdr.out | exact hst.out | exact hal.out _ | exact hS.out _ (by assumption))) (fail)
      all_goals
        have hW5 : Below V.heap.size V (V.alloc (.cells #[.string ys, .int .i64 yn, .slice ya ym yc] 24)).drew := ((Below.refl _ V).alloc (Nat.le_refl _) _).drew
        obtain ⟨W5, hWe⟩ : ∃ W, (V.alloc (.cells #[.string ys, .int .i64 yn, .slice ya ym yc] 24)).drew = W := ⟨_, rfl⟩
        have hx : BoxT W5 V.heap.size (.string ys) (.int .i64 yn) (.slice ya ym yc) := by
          rw [← hWe]
          exact new_block (Below.refl _ (V.alloc (.cells #[.string ys, .int .i64 yn, .slice ya ym yc] 24))).drew
        rw [hWe] at hW5 ⊢
        have hW5z : W5.heap.size = V.heap.size + 1 := by rw [← hWe]; simp
        clear hWe hS hst hdr hal b0 b1 b2
        have hbr5 : Below wr.heap.size wr W5 := hBV.trans (hW5.mono (by omega))
        obtain ⟨x0, x1, x2⟩ := hx.cells
        have hx' := Lib.hid hx
        have hW5' := Lib.hid hW5
        cases fb
        · have hrr : Hid (r = .mk s n l) := by
            have h1 := hr.out
            rcases hfb with ⟨_, h⟩ | ⟨h, _⟩
            · simp only [walkT, hq'.out, if_true, h, Option.some.injEq] at h1; exact h1.symm
            · cases h
          clear hfb
          obtain ⟨hres, hwX, b0, b1, b2⟩ := hend.out W5 hbr5 hrr.out
          have hrs := Lib.hid hres
          obtain ⟨r0, r1, r2⟩ := hres.cells
          have rf0 := frozen_of hres 0
          have rf1 := frozen_of hres 1
          have rf2 := frozen_of hres 2
          clear hres
          clear hx hW5
          go_wp2_with fail
          have hU := hrs.out.set (.string s) (.int .i64 n) (.slice a l.length c)
          change bodyPost _ _ _ _ _ (World.box3 W5 (w.heap.size + 1) (.string s) (.int .i64 n) (.slice a l.length c))
          generalize World.box3 W5 (w.heap.size + 1) (.string s) (.int .i64 n) (.slice a l.length c) = U at hU ⊢
          obtain ⟨hUb, hBU, -, -⟩ := hU
          clear r0 r1 r2
          obtain ⟨u0, u1, u2⟩ := hUb.cells
          refine bodyPost_ret (results_ty rfl _ _ rfl u0 u1 u2) rfl ?_
          exact ⟨_, rfl, by rw [hrr.out]; exact hv.out, hwX.trans (hBU.mono (by omega))⟩
        · obtain ⟨e, hF, hxe⟩ : ∃ e, fa? L n = some e ∧ IsTy w₀ (.agg #[.string ys, .int .i64 yn, .slice ya ym yc]) e := by
            rcases hfb with ⟨h, _⟩ | ⟨_, h⟩
            · cases h
            · exact h
          obtain ⟨es, en, el⟩ := e
          have hxo := hxe.open
          obtain ⟨a9, c9, hv9, _⟩ := hxo
          simp only [Value.agg.injEq, Array.mk.injEq, List.cons.injEq, and_true, Value.string.injEq, Value.int.injEq, Value.slice.injEq, true_and] at hv9
          obtain ⟨rfl, rfl, rfl, rfl, rfl⟩ := hv9
          have hxe' := Lib.hid hxe
          have hrr : Hid (walkT L k (.mk ys yn el) = some r) := by
            have h1 := hr.out
            simp only [walkT, hq'.out, if_true, hF] at h1; exact h1
          clear hfb hxe hF hx hW5
          have hb7 := Lib.hid (hb'.out.below hbr5 hz1)
          obtain ⟨b0, b1, b2⟩ := hb7.out.cells
          have rf0 := frozen_of hb7.out 0
          have rf1 := frozen_of hb7.out 1
          have rf2 := frozen_of hb7.out 2
          have hres7 := Lib.hid (hres'.out.below hbr5 hz2)
          have hw7 := Lib.hid (hB.trans (hbr5.mono hzr))
          go_wp2_with fail
          go_roundg k
          case measure => omega
          case rel =>
            have hU := hb7.out.set (.string ys) (.int .i64 yn) (.slice ya el.length yc)
            exact ⟨ys, yn, el, ya, yc, hU.1, hxe', hrr, (hU.2.2.2 _ (by omega)).trans hres7.out, hw7.out.trans hU.2.1⟩
end Go.Proofs.YticjpeefhppjoaaDoor
