/- The reference's Layout, walked. -/
import Derived.Test.YtchdfjihflmloaaGreatDoorRlQ
import Derived.Test.YtchdfjihflmloaaGreatDoorLayL
namespace Go.Proofs.YtchdfjihflmloaaGreatDoor
open Go.RowKit

theorem place_keeps {V : World} {t : TypeId} {b : Nat} {x0 x1 : Value} (h : Box2 V t b x0 x1) : Keeps V ((V.setCell ⟨b, 0, none⟩ x0).setCell ⟨b, 1, none⟩ x1) := by
  obtain ⟨h1, h2⟩ := place_end h x0 x1
  intro ad x hx
  have hk : ((V.setCell ⟨b, 0, none⟩ x0).setCell ⟨b, 1, none⟩ x1).heap[ad.block]? = V.heap[ad.block]? := by
    by_cases hb : ad.block = b
    · rw [hb]; exact h1.trans h.symm
    · exact h2.other _ hb
  rw [World.cell?_of_block hk]
  exact hx
/-- The reference's Layout: its result's place, its state's box. -/
structure LyI (W : World) (V : World) (x0 x1 : Value) (ts : List Tk) (st : List Int) : Prop where
  low : Below W.heap.size W V
  plc : Box2 V 25 W.heap.size (.int .i64 0) (.int .i64 0)
  box : Box2 V 49 (W.heap.size + 1) x0 x1
  stv : StV V (.agg #[x0, x1]) ts st
theorem LyI.lt {W V : World} {x0 x1 : Value} {ts : List Tk} {st : List Int} (h : LyI W V x0 x1 ts st) : W.heap.size + 1 < V.heap.size := blk_lt h.box
theorem LyI.below {W V V' : World} {x0 x1 : Value} {ts : List Tk} {st : List Int} (h : LyI W V x0 x1 ts st) (hb : Below V.heap.size V V') : LyI W V' x0 x1 ts st :=
  ⟨h.low.trans (hb.mono (by have := h.lt; omega)), h.plc.below hb, h.box.below hb, h.stv.keeps (Keeps.of_below hb)⟩
theorem LyI.set {W V : World} {x0 x1 y0 y1 : Value} {ts ts' : List Tk} {st st' : List Int} (h : LyI W V x0 x1 ts st) (hs : StV V (.agg #[y0, y1]) ts' st') : LyI W ((V.setCell ⟨W.heap.size + 1, 0, none⟩ y0).setCell ⟨W.heap.size + 1, 1, none⟩ y1) y0 y1 ts' st' ∧ OneSet (W.heap.size + 1) V ((V.setCell ⟨W.heap.size + 1, 0, none⟩ y0).setCell ⟨W.heap.size + 1, 1, none⟩ y1) := by
  obtain ⟨a, n, c, b, m, d, e⟩ := h.stv.agg
  simp only [Value.agg.injEq, Array.mk.injEq, List.cons.injEq, and_true] at e
  obtain ⟨rfl, rfl⟩ := e
  obtain ⟨h1, h2⟩ := place_end h.box y0 y1
  exact ⟨⟨h.low.trans (h2.below.mono (by omega)), (h2.other _ (by omega)).trans h.plc, h1, hs.aside h2.other (box_slices h.box)⟩, h2⟩
theorem LyI.cells {W V : World} {x0 x1 : Value} {ts : List Tk} {st : List Int} (h : LyI W V x0 x1 ts st) : (V.cell? ⟨W.heap.size + 1, 0, none⟩ = some x0 ∧ V.cell? ⟨W.heap.size + 1, 1, none⟩ = some x1 ∧ ∀ i, V.frozen? ⟨W.heap.size + 1, i, none⟩ = false) ∧ V.cell? ⟨W.heap.size, 0, none⟩ = some (.int .i64 0) ∧ V.cell? ⟨W.heap.size, 1, none⟩ = some (.int .i64 0) ∧ ∀ i, V.frozen? ⟨W.heap.size, i, none⟩ = false := by
  obtain ⟨⟨a0, a1⟩, af⟩ := h.box.cells
  obtain ⟨⟨c0, c1⟩, cf⟩ := h.plc.cells
  exact ⟨⟨a0, a1, af⟩, c0, c1, cf⟩
/-- .. and a token in a box of its own. -/
structure LyT (W : World) (tb : Nat) (t : Tk) (V : World) (x0 x1 : Value) (ts : List Tk) (st : List Int) : Prop where
  i : LyI W V x0 x1 ts st
  tok : Box5 V 34 tb (.int .i64 t.kind) (.string (tS t.text)) (.int .i64 t.num) (.int .i64 t.line) (.int .i64 t.col)
  at' : W.heap.size + 1 < tb
theorem LyT.below {W V V' : World} {tb : Nat} {t : Tk} {x0 x1 : Value} {ts : List Tk} {st : List Int} (h : LyT W tb t V x0 x1 ts st) (hb : Below V.heap.size V V') : LyT W tb t V' x0 x1 ts st := ⟨h.i.below hb, h.tok.below hb, h.at'⟩
theorem LyT.set {W V : World} {tb : Nat} {t : Tk} {x0 x1 y0 y1 : Value} {ts ts' : List Tk} {st st' : List Int} (h : LyT W tb t V x0 x1 ts st) (hs : StV V (.agg #[y0, y1]) ts' st') : LyT W tb t ((V.setCell ⟨W.heap.size + 1, 0, none⟩ y0).setCell ⟨W.heap.size + 1, 1, none⟩ y1) y0 y1 ts' st' := by
  obtain ⟨h1, h2⟩ := h.i.set hs
  exact ⟨h1, (h2.other _ (by have := h.at'; omega)).trans h.tok, h.at'⟩

set_option maxHeartbeats 4000000 in
set_option maxRecDepth 100000 in
theorem r03_Layout (a : Option Addr) (l : List Tk) (cap : Nat) (W : World) (hlen : l.length ≤ 1000) (hrow : TkRow W a l) :
    Calls Tryz.prog 6 #[.slice a l.length cap] W fun e W' => LayR (layF l) e W' ∧ Below W.heap.size W W' := by
  obtain ⟨W1, hW1⟩ : ∃ V, W.alloc (.cells #[.int .i64 0, .int .i64 0] 25) = V := ⟨_, rfl⟩
  have hb1 : Below W.heap.size W W1 := by rw [← hW1]; exact (Below.refl _ _).alloc (Nat.le_refl _) _
  have hx1 : Box2 W1 25 W.heap.size (.int .i64 0) (.int .i64 0) := by rw [← hW1]; exact blk_new (Below.refl _ _)
  have hz1 : W1.heap.size = W.heap.size + 1 := by rw [← hW1]; simp
  obtain ⟨W2, hW2⟩ : ∃ V, W1.alloc (.cells #[.slice none 0 0, .slice none 0 0] 49) = V := ⟨_, rfl⟩
  have hb2 : Below W1.heap.size W1 W2 := by rw [← hW2]; exact (Below.refl _ _).alloc (Nat.le_refl _) _
  have hx2 : Box2 W2 49 (W.heap.size + 1) (.slice none 0 0) (.slice none 0 0) := by rw [← hz1, ← hW2]; exact blk_new (Below.refl _ _)
  have hL0 : Hid (LyI W W2 (.slice none 0 0) (.slice none 0 0) [] []) :=
    ⟨hb1.trans (hb2.mono (by omega)), hx1.below hb2, hx2, ⟨none, 0, none, 0, rfl, TkSl.nil _, ISl.nil _⟩⟩
  have hrow' := Lib.hid hrow
  have hW1' := Lib.hid hW1
  have hW2' := Lib.hid hW2
  have hz1' := Lib.hid hz1
  clear hW1 hb1 hx1 hz1 hW2 hb2 hx2 hrow
  go_enter Tryz.func6, Tryz.ntmps6
  go_upto_region 1 with (fail)
  rw [hW1'.out]
  go_upto_region 2 with (fail)
  rw [hW2'.out, hz1'.out]
  go_wp2_with fail
  go_loopg [6, 7] l.length (fun gm v i X => ∃ (k : Nat) (fb : Bool) (x0 x1 : Value) (ts1 : List Tk) (st1 : List Int), k ≤ l.length ∧ gm + k = l.length ∧ Hid (v = .bool fb) ∧ i = .int .i64 k ∧ Hid (LyI W X x0 x1 ts1 st1) ∧ Hid (Res.pre ts1 (layS (prevT l k) fb st1 (l.drop k)) = layF l) ∧ Hid (ts1.length + st1.length ≤ 6 * k))
  case atStart => exact ⟨0, true, _, _, [], [], Nat.zero_le _, rfl, rfl, rfl, hL0, by unfold Hid; rw [List.drop_zero]; show Res.pre [] (layF l) = layF l; cases layF l <;> rfl, Nat.zero_le _⟩
  case round =>
    obtain ⟨k, fb, x0, x1, ts1, st1, hk, hgm, hv, rfl, hI, hA, hN⟩ := hrel
    obtain rfl := hv.out
    obtain ⟨X, rfl⟩ : ∃ X, X = wr := ⟨_, rfl⟩
    by_cases hlt : k < l.length
    · have hki : (k : Int) < (l.length : Int) := by omega
      obtain ⟨b, off, rfl, hcell⟩ := hrow'.out.at (by rintro rfl; simp at hlt)
      obtain ⟨t, ht⟩ : ∃ t, l[k] = t := ⟨_, rfl⟩
      have hcs := Lib.hid (fun (V : World) (hV : Below W.heap.size W V) (i : Nat) (hi : i < l.length) => (⟨Keeps.of_below hV _ _ (hcell i hi).1, Keeps.of_below hV _ _ (hcell i hi).2.1, Keeps.of_below hV _ _ (hcell i hi).2.2.1, Keeps.of_below hV _ _ (hcell i hi).2.2.2.1, Keeps.of_below hV _ _ (hcell i hi).2.2.2.2⟩ : V.cell? ⟨b, off + i * 5, none⟩ = some (.int .i64 l[i].kind) ∧ V.cell? ⟨b, off + i * 5 + 1, none⟩ = some (.string (tS l[i].text)) ∧ V.cell? ⟨b, off + i * 5 + 2, none⟩ = some (.int .i64 l[i].num) ∧ V.cell? ⟨b, off + i * 5 + 3, none⟩ = some (.int .i64 l[i].line) ∧ V.cell? ⟨b, off + i * 5 + 4, none⟩ = some (.int .i64 l[i].col)))
      obtain ⟨q0, q1, q2, q3, q4⟩ := hcs.out X hI.out.low k hlt
      rw [ht] at q0 q1 q2 q3 q4
      have ht' := Lib.hid ht
      clear hcell ht
      go_upto_region 6 with (fail)
      go_cut [8] from 18 to 21 (fun p Y => p = .pointer (some ⟨X.heap.size, 0, none⟩) ∧ Y = X.alloc (.cells #[.int .i64 t.kind, .string (tS t.text), .int .i64 t.num, .int .i64 t.line, .int .i64 t.col] 34))
      case first =>
        go_wp2_with fail
        go_meet
        case rel => exact ⟨rfl, rfl⟩
      case rest =>
      obtain ⟨rfl, hY⟩ := hcut
      obtain ⟨Y, rfl⟩ : ∃ Y, Y = wc := ⟨_, rfl⟩
      have hbY : Below X.heap.size X Y := by rw [hY]; exact (Below.refl _ _).alloc (Nat.le_refl _) _
      have hxY : Box5 Y 34 X.heap.size (.int .i64 t.kind) (.string (tS t.text)) (.int .i64 t.num) (.int .i64 t.line) (.int .i64 t.col) := by rw [hY]; exact blk_new (Below.refl _ _)
      have hT : Hid (LyT W X.heap.size t Y x0 x1 ts1 st1) := ⟨hI.out.below hbY, hxY, hI.out.lt⟩
      obtain ⟨tb, htb⟩ : ∃ tb, X.heap.size = tb := ⟨_, rfl⟩
      rw [htb] at hT ⊢
      clear hY q0 q1 q2 q3 q4 hbY hxY htb hI
      have hst1 : Hid (ts1.length + st1.length ≤ 100000) := by have := hN.out; unfold Hid; omega
      go_step
      go_step
      go_cut [] from 22 to 35 (fun V => ∃ (z0 z1 : Value) (ts2 : List Tk) (st2 : List Int), Hid (LyT W tb t V z0 z1 ts2 st2) ∧ Hid (k = 0 → ts2 = ts1 ++ (aheadS none fb t st1).1 ∧ st2 = (aheadS none fb t st1).2) ∧ Hid (0 < k → ts2 = ts1 ∧ st2 = st1 ∧ z0 = x0 ∧ z1 = x1))
      case first =>
        obtain ⟨⟨a0, a1, af⟩, _, _, _⟩ := hT.out.i.cells
        obtain ⟨⟨d0, d1, d2, d3, d4⟩, _⟩ := hT.out.tok.cells
        cases k with
        | succ k =>
          have hk0 : ((k : Int) + 1 == 0) = false := by simp; omega
          go_wp2_with fail
          go_meet
          case rel => exact ⟨x0, x1, ts1, st1, hT, fun h => (nomatch h), fun _ => ⟨rfl, rfl, rfl, rfl⟩⟩
        | zero =>
          have hks : Hid (∀ V, Calls Tryz.prog 19 #[.agg #[.int .i64 t.kind, .string (tS t.text), .int .i64 t.num, .int .i64 t.line, .int .i64 t.col], .string ⟨#[123]⟩] V fun e V' => e = .returned (.bool (keyT t bOpen)) ∧ Below V.heap.size V V') := fun V => r03_key t ⟨#[123]⟩ V
          cases h1 : keyT t bOpen with
          | true =>
            rw [h1] at hks
            have hah : Hid (aheadS none fb t st1 = ([], st1)) := by unfold Hid aheadS; simp only; rw [if_pos h1]
            clear h1
            go_wp2_with fail
            refine (hks.out _).mono ?_
            rintro e V ⟨rfl, hB⟩
            have hT2 := Lib.hid (hT.out.below hB)
            go_wp2_with fail
            go_meet
            case rel => exact ⟨x0, x1, ts1, st1, hT2, fun _ => by rw [hah.out]; simp, fun h => by omega⟩
          | false =>
            rw [h1] at hks
            have hah : Hid (aheadS none fb t st1 = ([mkT bOpen t], max t.col 1 :: st1)) := by unfold Hid aheadS; simp only; rw [if_neg (by rw [h1]; simp)]
            clear h1
            go_wp2_with fail
            refine (hks.out _).mono ?_
            rintro e V ⟨rfl, hB⟩
            have hT2 := Lib.hid (hT.out.below hB)
            clear hB a0 a1 af d0 d1 d2 d3 d4
            go_upto_region 8 with (fail)
            have hst : Hid (∀ Q, Below V.heap.size V Q → Q.cell? ⟨W.heap.size + 1, 0, none⟩ = some x0 ∧ Q.cell? ⟨W.heap.size + 1, 1, none⟩ = some x1 ∧ Q.cell? ⟨tb, 0, none⟩ = some (.int .i64 t.kind) ∧ Q.cell? ⟨tb, 1, none⟩ = some (.string (tS t.text)) ∧ Q.cell? ⟨tb, 2, none⟩ = some (.int .i64 t.num) ∧ Q.cell? ⟨tb, 3, none⟩ = some (.int .i64 t.line) ∧ Q.cell? ⟨tb, 4, none⟩ = some (.int .i64 t.col)) := fun Q hQ => by
              have hI := hT2.out.below hQ
              obtain ⟨⟨a0, a1, _⟩, _⟩ := hI.i.cells
              obtain ⟨⟨d0, d1, d2, d3, d4⟩, _⟩ := hI.tok.cells
              exact ⟨a0, a1, d0, d1, d2, d3, d4⟩
            have hpu : Hid (∀ Q, Below V.heap.size V Q → Calls Tryz.prog 21 #[.agg #[x0, x1], .string ⟨#[123]⟩, .agg #[.int .i64 t.kind, .string (tS t.text), .int .i64 t.num, .int .i64 t.line, .int .i64 t.col]] Q fun e V' => ∃ z, e = .returned z ∧ StV V' z (ts1 ++ [mkT bOpen t]) st1 ∧ Below Q.heap.size Q V') := fun Q hQ => r03_put bOpen t Q (hT2.out.i.stv.keeps (Keeps.of_below hQ)) (by have := hst1.out; omega)
            have hop : Hid (∀ (Q : World) (v : Value), Below V.heap.size V Q → StV Q v (ts1 ++ [mkT bOpen t]) st1 → Calls Tryz.prog 20 #[v, .int .i64 (max t.col 1)] Q fun e V' => ∃ z, e = .returned z ∧ StV V' z (ts1 ++ [mkT bOpen t]) (max t.col 1 :: st1) ∧ Below Q.heap.size Q V') := fun Q v hQ hs => r03_open (max t.col 1) Q hs (by have := hst1.out; omega)
            refine wp_region_inv (fun f a Vr => ∃ x : Nat → Value, a = ⟨#[.slice (some ⟨b, off, none⟩) l.length cap, undef, u2, .pointer (some ⟨W.heap.size, 0, none⟩), u4, .pointer (some ⟨W.heap.size + 1, 0, none⟩), .bool fb, .int .i64 0, .pointer (some ⟨tb, 0, none⟩), u9, u10, .agg #[.slice none 0 0, .slice none 0 0], .int .i64 0, .slice (some ⟨b, off, none⟩) l.length cap, .int .i64 (l.length : Int), .bool true, u16, u17, u18, u19, u20, u21, .int .i64 0, .bool true, .bool true, .agg #[.int .i64 t.kind, .string (tS t.text), .int .i64 t.num, .int .i64 t.line, .int .i64 t.col], .bool false, .bool true, .bool true, x 0, x 1, x 2, x 3, x 4, x 5, x 6, u36, u37, u38, u39, u40, u41, u42, u43, u44, u45, u46, u47, u48, u49, u50, u51, u52, u53, u54, u55, u56, u57, u58, u59, u60, u61, u62, u63, u64, u65, u66, u67, u68, u69, u70, u71, u72, u73, u74, u75, u76, u77, u78, u79, u80, u81, u82, u83, u84, undef, undef, undef, undef, undef, undef, undef, undef, undef, undef, undef, undef, undef, undef, undef, undef, undef, undef, undef, undef, undef, undef, undef, undef, undef, undef, undef, undef, undef, undef, undef, undef, undef, undef], []⟩ ∧ (f 7 = false → Below V.heap.size V Vr) ∧ (f 2 = true → f 6 = false → f 7 = false → StV Vr (x 2) (ts1 ++ [mkT bOpen t]) st1) ∧ (f 6 = true → f 7 = false → StV Vr (x 6) (ts1 ++ [mkT bOpen t]) (max t.col 1 :: st1)) ∧ (f 7 = true → ∃ z0 z1, LyT W tb t Vr z0 z1 (ts1 ++ [mkT bOpen t]) (max t.col 1 :: st1)) ∧ VO [some (.agg #[x0, x1]), some (.agg #[.int .i64 t.kind, .string (tS t.text), .int .i64 t.num, .int .i64 t.line, .int .i64 t.col]), none, some (.pointer (some ⟨tb, 4, none⟩)), some (.int .i64 t.col), some (.int .i64 (max t.col 1)), none, none] f x) (by kernel_rfl) (by kernel_rfl) (rs := [0, 1, 2, 3, 4, 5, 6, 7]) (by kernel_rfl) ?start ?steps ?last
            case start => exact ⟨fun i => ([u29, u30, u31, u32, u33, u34, u35, undef] : List Value).getD i undef, rfl, fun _ => (Below.refl _ _).drew, by simp, by simp, by simp, VO.nil _ _⟩
            case steps =>
              refine (KeepsI.cons (ds := []) rfl (by kernel_rfl) ?s0 (KeepsI.cons (ds := []) rfl (by kernel_rfl) ?s1 (KeepsI.cons (ds := [0, 1]) rfl (by kernel_rfl) ?s2 (KeepsI.cons (ds := []) rfl (by kernel_rfl) ?s3 (KeepsI.cons (ds := [3]) rfl (by kernel_rfl) ?s4 (KeepsI.cons (ds := [4]) rfl (by kernel_rfl) ?s5 (KeepsI.cons (ds := [2, 5]) rfl (by kernel_rfl) ?s6 (KeepsI.cons (ds := [6]) rfl (by kernel_rfl) ?s7 KeepsI.nil))))))))
              all_goals (intro f a Vr hf hd hcl hI K' hK; obtain ⟨x, rfl, c0, c1, c2, c3, hx⟩ := hI)
              case s0 =>
                have n2 : f 2 = false := by cases h : f 2; rfl; exact absurd (hcl 2 0 (by kernel_rfl) (h)) (by rw [hf]; simp)
                have n6 : f 6 = false := by cases h : f 6; rfl; exact absurd (hcl 2 0 (by kernel_rfl) (hcl 6 2 (by kernel_rfl) (h))) (by rw [hf]; simp)
                have n7 : f 7 = false := by cases h : f 7; rfl; exact absurd (hcl 2 0 (by kernel_rfl) (hcl 6 2 (by kernel_rfl) (hcl 7 6 (by kernel_rfl) (h)))) (by rw [hf]; simp)
                have hb := c0 n7
                obtain ⟨a0, a1, d0, d1, d2, d3, d4⟩ := hst.out Vr hb
                clear hb
                clear n2 n6 n7
                go_simp
                exact hK _ _ ⟨(upd x 0 (.agg #[x0, x1])), rfl, c0, c1, c2, c3, (hx.set 0 rfl)⟩
              case s1 =>
                have n2 : f 2 = false := by cases h : f 2; rfl; exact absurd (hcl 2 1 (by kernel_rfl) (h)) (by rw [hf]; simp)
                have n6 : f 6 = false := by cases h : f 6; rfl; exact absurd (hcl 2 1 (by kernel_rfl) (hcl 6 2 (by kernel_rfl) (h))) (by rw [hf]; simp)
                have n7 : f 7 = false := by cases h : f 7; rfl; exact absurd (hcl 2 1 (by kernel_rfl) (hcl 6 2 (by kernel_rfl) (hcl 7 6 (by kernel_rfl) (h)))) (by rw [hf]; simp)
                have hb := c0 n7
                obtain ⟨a0, a1, d0, d1, d2, d3, d4⟩ := hst.out Vr hb
                clear hb
                clear n2 n6 n7
                go_simp
                exact hK _ _ ⟨(upd x 1 (.agg #[.int .i64 t.kind, .string (tS t.text), .int .i64 t.num, .int .i64 t.line, .int .i64 t.col])), rfl, c0, c1, c2, c3, (hx.set 1 rfl)⟩
              case s2 =>
                have e0 := hx.get 0 rfl (hd 0 (by simp))
                have e1 := hx.get 1 rfl (hd 1 (by simp))
                rw [e0, e1]
                clear e0 e1
                have n6 : f 6 = false := by cases h : f 6; rfl; exact absurd (hcl 6 2 (by kernel_rfl) (h)) (by rw [hf]; simp)
                have n7 : f 7 = false := by cases h : f 7; rfl; exact absurd (hcl 6 2 (by kernel_rfl) (hcl 7 6 (by kernel_rfl) (h))) (by rw [hf]; simp)
                have hb := c0 n7
                go_simp
                refine (hpu.out Vr hb).mono ?_
                rintro e V1 ⟨z1, rfl, hz1, hB⟩
                exact hK _ _ ⟨upd (upd (upd x 0 (.agg #[x0, x1])) 1 (.agg #[.int .i64 t.kind, .string (tS t.text), .int .i64 t.num, .int .i64 t.line, .int .i64 t.col])) 2 z1, rfl, fun _ => hb.trans (hB.mono hb.size), fun _ _ _ => hz1, fun h => absurd (n6.symm.trans h) (by decide), fun h => absurd (n7.symm.trans h) (by decide), VO.free ((hx.put 0 rfl).put 1 rfl) 2 rfl _⟩
              case s3 =>
                go_simp
                exact hK _ _ ⟨(upd x 3 (.pointer (some ⟨tb, 4, none⟩))), rfl, c0, c1, c2, c3, (hx.set 3 rfl)⟩
              case s4 =>
                have e3 := hx.get 3 rfl (hd 3 (by simp))
                rw [e3]
                clear e3
                have n6 : f 6 = false := by cases h : f 6; rfl; exact absurd (hcl 5 4 (by kernel_rfl) (hcl 6 5 (by kernel_rfl) (h))) (by rw [hf]; simp)
                have n7 : f 7 = false := by cases h : f 7; rfl; exact absurd (hcl 5 4 (by kernel_rfl) (hcl 6 5 (by kernel_rfl) (hcl 7 6 (by kernel_rfl) (h)))) (by rw [hf]; simp)
                have hb := c0 n7
                obtain ⟨a0, a1, d0, d1, d2, d3, d4⟩ := hst.out Vr hb
                clear hb
                clear n6 n7
                go_simp
                exact hK _ _ ⟨(upd (upd x 3 (.pointer (some ⟨tb, 4, none⟩))) 4 (.int .i64 t.col)), rfl, c0, c1, c2, c3, ((hx.put 3 rfl).set 4 rfl)⟩
              case s5 =>
                have e4 := hx.get 4 rfl (hd 4 (by simp))
                rw [e4]
                clear e4
                go_simp
                exact hK _ _ ⟨(upd (upd x 4 (.int .i64 t.col)) 5 (.int .i64 (max t.col 1))), rfl, c0, c1, c2, c3, ((hx.put 4 rfl).set 5 rfl)⟩
              case s6 =>
                have e5 := hx.get 5 rfl (hd 5 (by simp))
                rw [e5]
                clear e5
                have n7 : f 7 = false := by cases h : f 7; rfl; exact absurd (hcl 7 6 (by kernel_rfl) (h)) (by rw [hf]; simp)
                have y2 : f 2 = true := hd 2 (by simp)
                have hb := c0 n7
                have hs := c1 y2 hf n7
                go_simp
                refine (hop.out Vr _ hb hs).mono ?_
                rintro e V1 ⟨z2, rfl, hz2, hB⟩
                exact hK _ _ ⟨upd (upd x 5 (.int .i64 (max t.col 1))) 6 z2, rfl, fun _ => hb.trans (hB.mono hb.size), fun _ h => (nomatch h), fun _ _ => hz2, fun h => absurd (n7.symm.trans h) (by decide), VO.free (hx.put 5 rfl) 6 rfl _⟩
              case s7 =>
                have y2 : f 2 = true := hcl 6 2 (by kernel_rfl) (hd 6 (by simp))
                have y6 : f 6 = true := hd 6 (by simp)
                have hb := c0 hf
                have hs := c2 y6 hf
                obtain ⟨ya, yn, yc, yb, ym, yd, e2⟩ := hs.agg
                have hs2 := hs
                rw [e2] at hs2
                have hIr := hT2.out.below hb
                have hE := hIr.set hs2
                obtain ⟨⟨a0, a1, af⟩, _, _, _⟩ := hIr.i.cells
                rw [e2]
                have hE := Lib.hid hE
                clear hs hs2 hIr c0 c1 c2 c3
                go_simp
                exact hK _ _ ⟨upd x 6 (.agg #[.slice ya yn yc, .slice yb ym yd]), rfl, fun h => (nomatch h), fun _ _ h => (nomatch h), fun _ h => (nomatch h), fun _ => ⟨_, _, hE.out⟩, VO.done (VO.keep hx 6 rfl _) 7 rfl⟩
            case last =>
              rintro f a Vr hf ⟨x, rfl, c0, c1, c2, c3, hx⟩
              obtain ⟨z0, z1, hfin⟩ := c3 (hf 7 (by simp))
              have hfin := Lib.hid hfin
              clear c0 c1 c2 c3 hx hst hpu hop
              go_wp2_with fail
              go_meet
              case rel => exact ⟨z0, z1, _, _, hfin, fun _ => by rw [hah.out]; exact ⟨rfl, rfl⟩, fun h => by omega⟩
      case rest =>
      obtain ⟨z0, z1, ts2, st2, hT2, hz, hp⟩ := hcut
      obtain ⟨V, rfl⟩ : ∃ V, V = wc := ⟨_, rfl⟩
      go_step
      go_step
      go_cut [] from 36 to 55 (fun Z => ∃ (z0 z1 : Value), Hid (LyT W tb t Z z0 z1 (ts1 ++ (aheadS (prevT l k) fb t st1).1) (aheadS (prevT l k) fb t st1).2))
      case first =>
        obtain ⟨⟨a0, a1, af⟩, _, _, _⟩ := hT2.out.i.cells
        obtain ⟨⟨d0, d1, d2, d3, d4⟩, _⟩ := hT2.out.tok.cells
        cases k with
        | zero =>
          obtain ⟨rfl, rfl⟩ := hz.out rfl
          go_upto_region 9 with (fail)
          go_quiet (fail)
          go_wp2_with fail
          go_meet
          case rel => exact ⟨z0, z1, hT2.out.below (below_drewN' (Below.refl _ _) _)⟩
        | succ k =>
          obtain ⟨rfl, rfl, rfl, rfl⟩ := hp.out (by omega)
          obtain ⟨p, hpe⟩ : ∃ p, l[k]'(by omega) = p := ⟨_, rfl⟩
          have hprev : Hid (prevT l (k + 1) = some p) := by show l[k]? = some p; rw [List.getElem?_eq_getElem (by omega), hpe]
          obtain ⟨_, _, _, g3, _⟩ := hcs.out V hT2.out.i.low k (by omega)
          rw [hpe] at g3
          have hkp : (0 : Int) < (k : Int) + 1 := by omega
          have hkd : decide ((0 : Int) < (k : Int) + 1) = true := decide_eq_true hkp
          have hw : IntKind.i64.wrap (k : Int) = (k : Int) := IntWalk.i64_in _ (by omega)
          clear hpe
          cases fb with
          | true =>
            have hah : Hid (aheadS (prevT l (k + 1)) true t st2 = ([], st2)) := by unfold Hid; rw [hprev.out]; unfold aheadS; simp
            go_upto_region 9 with (fail)
            go_quiet (fail)
            go_wp2_with fail
            go_meet
            case rel => exact ⟨z0, z1, by rw [hah.out]; unfold Hid; rw [List.append_nil]; exact hT2.out.below (below_drewN' (Below.refl _ _) _)⟩
          | false =>
            by_cases hl3 : p.line < t.line
            · have hd : decide (p.line < t.line) = true := decide_eq_true hl3
              have hah : Hid (aheadS (prevT l (k + 1)) false t st2 = lineS t st2) := by unfold Hid; rw [hprev.out]; unfold aheadS; simp [hl3]
              clear hl3
              go_upto_region 9 with (fail)
              go_quiet (fail)
              have hT3 := Lib.hid (hT2.out.below (below_drewN' (Below.refl _ V) nq))
              clear a0 a1 af d0 d1 d2 d3 d4 g3
              obtain ⟨⟨a0, a1, af⟩, _, _, _⟩ := hT3.out.i.cells
              obtain ⟨⟨d0, d1, d2, d3, d4⟩, _⟩ := hT3.out.tok.cells
              have hnl := Lib.hid (r03_newline t (V.drewN nq) hT3.out.i.stv (by have := hst1.out; omega))
              unfold tkV at hnl
              go_wp2_with fail
              refine hnl.out.mono ?_
              rintro e V2 ⟨z2, rfl, hz2, hB⟩
              have hT4 := Lib.hid (hT3.out.below hB)
              clear hB a0 a1 af d0 d1 d2 d3 d4
              obtain ⟨ya, yn, yc, yb, ym, yd, rfl⟩ := hz2.agg
              have hT5 := Lib.hid (hT4.out.set hz2)
              obtain ⟨⟨a0, a1, af⟩, _, _, _⟩ := hT4.out.i.cells
              clear hz2
              go_wp2_with fail
              go_meet
              case rel => exact ⟨_, _, by rw [hah.out]; exact hT5⟩
            · have hd : decide (p.line < t.line) = false := decide_eq_false hl3
              have hah : Hid (aheadS (prevT l (k + 1)) false t st2 = ([], st2)) := by unfold Hid; rw [hprev.out]; unfold aheadS; simp [hl3]
              clear hl3
              go_upto_region 9 with (fail)
              go_quiet (fail)
              go_wp2_with fail
              go_meet
              case rel => exact ⟨z0, z1, by rw [hah.out]; unfold Hid; rw [List.append_nil]; exact hT2.out.below (below_drewN' (Below.refl _ _) _)⟩
      case rest =>
      obtain ⟨z0, z1, hT3⟩ := hcut
      obtain ⟨Z, rfl⟩ : ∃ Z, Z = wc := ⟨_, rfl⟩
      clear hT hT2 hz hp
      have hal := ahead_len (prevT l k) fb t st1
      obtain ⟨A1, hA1⟩ : ∃ x, (aheadS (prevT l k) fb t st1).1 = x := ⟨_, rfl⟩
      obtain ⟨st3, hst3⟩ : ∃ x, (aheadS (prevT l k) fb t st1).2 = x := ⟨_, rfl⟩
      have hF : Hid (Res.pre ts1 (match fitS t st3 with
          | none => .bad t.line t.col
          | some (o2, s2) => Res.pre (A1 ++ (o2 ++ (t :: (behS t (l.drop (k + 1)).head? s2).1))) (layS (some t) (behS t (l.drop (k + 1)).head? s2).2.2 (behS t (l.drop (k + 1)).head? s2).2.1 (l.drop (k + 1)))) = layF l) := by
        have h := hA.out
        rw [List.drop_eq_getElem_cons hlt, ht'.out, layS, hst3, hA1] at h
        exact h
      rw [hA1, hst3] at hal hT3
      have hn2 : Hid ((ts1 ++ A1).length + st3.length ≤ 6 * k + 2) := by have := hN.out; unfold Hid; rw [List.length_append]; omega
      obtain ⟨ts3, hts3⟩ : ∃ x, ts1 ++ A1 = x := ⟨_, rfl⟩
      have hts3' := Lib.hid hts3
      rw [hts3] at hT3 hn2
      clear hA1 hst3 hal hA hts3
      obtain ⟨⟨a0, a1, af⟩, _, _, _⟩ := hT3.out.i.cells
      obtain ⟨⟨d0, d1, d2, d3, d4⟩, _⟩ := hT3.out.tok.cells
      have hcl := Lib.hid (r03_closing t Z hT3.out.i.stv (by have := hn2.out; omega))
      unfold tkV at hcl
      cases hf : fitS t st3 with
      | none =>
        have hB0 : Hid (layF l = .bad t.line t.col) := by have h := hF.out; rw [hf] at h; exact h.symm
        rw [hf] at hcl
        clear hf hF
        go_wp2_with fail
        refine hcl.out.mono ?_
        rintro e V2 ⟨z, ts', st', rfl, hz, _, hB⟩
        obtain ⟨ya, yn, yc, yb, ym, yd, rfl⟩ := hz.agg
        have hT4 := Lib.hid (hT3.out.below hB)
        clear hB hz a0 a1 af d0 d1 d2 d3 d4
        go_upto_region 13 with (fail)
        obtain ⟨V3, hV3⟩ : ∃ Q, V2.alloc (.cells #[.slice ya yn yc, .slice yb ym yd] 49) = Q := ⟨_, rfl⟩
        rw [hV3]
        have hT5 : Hid (LyT W tb t V3 z0 z1 ts3 st3) := by rw [← hV3]; exact hT4.out.below ((Below.refl _ _).alloc (Nat.le_refl _) _)
        clear hV3
        have hst : Hid (∀ Q, Q = V3.drew → Q.cell? ⟨tb, 3, none⟩ = some (.int .i64 t.line) ∧ Q.cell? ⟨tb, 4, none⟩ = some (.int .i64 t.col) ∧ Q.cell? ⟨W.heap.size, 0, none⟩ = some (.int .i64 0) ∧ Q.cell? ⟨W.heap.size, 1, none⟩ = some (.int .i64 0) ∧ ∀ i, Q.frozen? ⟨W.heap.size, i, none⟩ = false) := by
          rintro Q rfl
          obtain ⟨_, p0, p1, pf⟩ := hT5.out.i.cells
          obtain ⟨⟨_, _, _, d3, d4⟩, _⟩ := hT5.out.tok.cells
          exact ⟨d3, d4, p0, p1, pf⟩
        have hpe := Lib.hid (place_end (show Box2 V3.drew 25 W.heap.size (.int .i64 0) (.int .i64 0) from hT5.out.i.plc) (.int .i64 t.line) (.int .i64 t.col))
        have hlw : Hid (Below W.heap.size W ((V3.drew.setCell ⟨W.heap.size, 0, none⟩ (.int .i64 t.line)).setCell ⟨W.heap.size, 1, none⟩ (.int .i64 t.col))) := (hT5.out.i.low.trans (Below.refl _ _).drew).trans hpe.out.2.below
        refine wp_region_inv (fun f a Vr => ∃ x : Nat → Value, a = ⟨#[.slice (some ⟨b, off, none⟩) l.length cap, undef, x 5, .pointer (some ⟨W.heap.size, 0, none⟩), x 7, .pointer (some ⟨W.heap.size + 1, 0, none⟩), .bool fb, .int .i64 (k : Int), .pointer (some ⟨tb, 0, none⟩), .pointer (some ⟨V2.heap.size, 0, none⟩), .bool false, .agg #[.slice none 0 0, .slice none 0 0], .int .i64 (k : Int), .slice (some ⟨b, off, none⟩) l.length cap, .int .i64 (l.length : Int), .bool true, u16, u17, u18, u19, u20, u21, u22, u23, u24, u25, u26, u27, u28, u29, u30, u31, u32, u33, u34, u35, u36, u37, u38, u39, u40, u41, u42, u43, u44, u45, u46, u47, u48, u49, u50, u51, u52, u53, u54, u55, .tuple #[.agg #[.slice ya yn yc, .slice yb ym yd], .bool false], .agg #[z0, z1], .agg #[.int .i64 t.kind, .string (tS t.text), .int .i64 t.num, .int .i64 t.line, .int .i64 t.col], .tuple #[.agg #[.slice ya yn yc, .slice yb ym yd], .bool false], .agg #[.slice ya yn yc, .slice yb ym yd], .bool false, .bool false, .bool true, x 0, x 1, x 2, x 3, x 4, u69, u70, u71, u72, u73, u74, u75, u76, u77, u78, u79, u80, u81, u82, u83, u84, undef, undef, undef, undef, undef, undef, undef, undef, undef, undef, undef, undef, undef, undef, undef, undef, undef, undef, undef, undef, undef, undef, undef, undef, undef, undef, undef, undef, undef, undef, undef, undef, undef, undef], []⟩ ∧ (f 6 = false → Vr = V3.drew) ∧ (f 6 = true → Vr = (V3.drew.setCell ⟨W.heap.size, 0, none⟩ (.int .i64 t.line)).setCell ⟨W.heap.size, 1, none⟩ (.int .i64 t.col)) ∧ VO [some (.pointer (some ⟨tb, 3, none⟩)), some (.int .i64 t.line), some (.pointer (some ⟨tb, 4, none⟩)), some (.int .i64 t.col), some (.agg #[.int .i64 t.line, .int .i64 t.col]), some (.slice none 0 0), none, some (.int .i64 30)] f x) (by kernel_rfl) (by kernel_rfl) (rs := [0, 1, 2, 3, 4, 5, 6, 7]) (by kernel_rfl) ?start ?steps ?last
        case start => exact ⟨fun i => ([u64, u65, u66, u67, u68, u2, undef, u4] : List Value).getD i undef, rfl, fun _ => rfl, by simp, VO.nil _ _⟩
        case steps =>
          refine (KeepsI.cons (ds := []) rfl (by kernel_rfl) ?s0 (KeepsI.cons (ds := [0]) rfl (by kernel_rfl) ?s1 (KeepsI.cons (ds := []) rfl (by kernel_rfl) ?s2 (KeepsI.cons (ds := [2]) rfl (by kernel_rfl) ?s3 (KeepsI.cons (ds := [1, 3]) rfl (by kernel_rfl) ?s4 (KeepsI.cons (ds := []) rfl (by kernel_rfl) ?s5 (KeepsI.cons (ds := [4]) rfl (by kernel_rfl) ?s6 (KeepsI.cons (ds := []) rfl (by kernel_rfl) ?s7 KeepsI.nil))))))))
          all_goals (intro f a Vr hf hd hcl hI K' hK; obtain ⟨x, rfl, c0, c1, hx⟩ := hI)
          case s0 =>
            go_simp
            exact hK _ _ ⟨(upd x 0 (.pointer (some ⟨tb, 3, none⟩))), rfl, c0, c1, (hx.set 0 rfl)⟩
          case s1 =>
            have e0 := hx.get 0 rfl (hd 0 (by simp))
            rw [e0]
            clear e0
            have n6 : f 6 = false := by cases h : f 6; rfl; exact absurd (hcl 4 1 (by kernel_rfl) (hcl 6 4 (by kernel_rfl) (h))) (by rw [hf]; simp)
            have hv := c0 n6
            obtain ⟨d3, d4, p0, p1, pf⟩ := hst.out Vr hv
            clear hv
            clear n6
            go_simp
            exact hK _ _ ⟨(upd (upd x 0 (.pointer (some ⟨tb, 3, none⟩))) 1 (.int .i64 t.line)), rfl, c0, c1, ((hx.put 0 rfl).set 1 rfl)⟩
          case s2 =>
            go_simp
            exact hK _ _ ⟨(upd x 2 (.pointer (some ⟨tb, 4, none⟩))), rfl, c0, c1, (hx.set 2 rfl)⟩
          case s3 =>
            have e2 := hx.get 2 rfl (hd 2 (by simp))
            rw [e2]
            clear e2
            have n6 : f 6 = false := by cases h : f 6; rfl; exact absurd (hcl 4 3 (by kernel_rfl) (hcl 6 4 (by kernel_rfl) (h))) (by rw [hf]; simp)
            have hv := c0 n6
            obtain ⟨d3, d4, p0, p1, pf⟩ := hst.out Vr hv
            clear hv
            clear n6
            go_simp
            exact hK _ _ ⟨(upd (upd x 2 (.pointer (some ⟨tb, 4, none⟩))) 3 (.int .i64 t.col)), rfl, c0, c1, ((hx.put 2 rfl).set 3 rfl)⟩
          case s4 =>
            have e1 := hx.get 1 rfl (hd 1 (by simp))
            have e3 := hx.get 3 rfl (hd 3 (by simp))
            rw [e1, e3]
            clear e1 e3
            go_simp
            exact hK _ _ ⟨(upd (upd (upd x 1 (.int .i64 t.line)) 3 (.int .i64 t.col)) 4 (.agg #[.int .i64 t.line, .int .i64 t.col])), rfl, c0, c1, (((hx.put 1 rfl).put 3 rfl).set 4 rfl)⟩
          case s5 =>
            go_simp
            exact hK _ _ ⟨(upd x 5 (.slice none 0 0)), rfl, c0, c1, (hx.set 5 rfl)⟩
          case s6 =>
            have e4 := hx.get 4 rfl (hd 4 (by simp))
            rw [e4]
            clear e4
            have hv := Lib.hid (c0 hf)
            obtain ⟨d3, d4, p0, p1, pf⟩ := hst.out Vr hv.out
            clear c0
            go_simp
            exact hK _ _ ⟨(upd x 4 (.agg #[.int .i64 t.line, .int .i64 t.col])), rfl, fun h => (nomatch h), fun _ => by rw [hv.out], VO.done (hx.put 4 rfl) 6 rfl⟩
          case s7 =>
            go_simp
            exact hK _ _ ⟨(upd x 7 (.int .i64 30)), rfl, c0, c1, (hx.set 7 rfl)⟩
        case last =>
          rintro f a Vr hf ⟨x, rfl, c0, c1, hx⟩
          have e := c1 (hf 6 (by simp))
          have e5 := hx.get 5 rfl (hf 5 (by simp))
          have e7 := hx.get 7 rfl (hf 7 (by simp))
          rw [e5, e7]
          clear c0 c1 hx e5 e7 hst
          subst e
          go_wp2_with fail
          refine bodyPost_ret (results_lex rfl _ _ rfl rfl rfl hpe.out.1.cells.1) rfl ⟨?_, hlw.out⟩
          rw [hB0.out]
          exact rfl
      | some x =>
        obtain ⟨f2, q2⟩ := x
        have hB0 : Hid (Res.pre (ts3 ++ f2 ++ [t] ++ (behS t (l.drop (k + 1)).head? q2).1) (layS (some t) (behS t (l.drop (k + 1)).head? q2).2.2 (behS t (l.drop (k + 1)).head? q2).2.1 (l.drop (k + 1))) = layF l) := by
          have h := hF.out
          rw [hf] at h
          simp only at h
          rw [pre_pre, ← List.append_assoc, hts3'.out] at h
          unfold Hid
          rw [← h]
          congr 1
          simp
        have hfl := Lib.hid (fit_len hf)
        rw [hf] at hcl
        clear hf hF
        go_wp2_with fail
        refine hcl.out.mono ?_
        rintro e V2 ⟨z, ts', st', rfl, hz, hx3, hB⟩
        obtain ⟨rfl, rfl⟩ := hx3 f2 q2 rfl
        obtain ⟨ya, yn, yc, yb, ym, yd, rfl⟩ := hz.agg
        have hT4 := Lib.hid (hT3.out.below hB)
        have hz4 := Lib.hid hz
        clear hB hz hx3 a0 a1 af d0 d1 d2 d3 d4
        have hn3 : Hid ((ts3 ++ f2).length + st'.length ≤ 6 * k + 2) := by have h1 := hn2.out; have h2 := hfl.out; unfold Hid; rw [List.length_append]; omega
        go_upto_region 14 with (fail)
        obtain ⟨V3, hV3⟩ : ∃ Q, V2.alloc (.cells #[.slice ya yn yc, .slice yb ym yd] 49) = Q := ⟨_, rfl⟩
        have hb3 : Below V2.heap.size V2 V3 := by rw [← hV3]; exact (Below.refl _ _).alloc (Nat.le_refl _) _
        have hnb : Box2 V3 49 V2.heap.size (.slice ya yn yc) (.slice yb ym yd) := by rw [← hV3]; exact blk_new (Below.refl _ _)
        rw [hV3]
        have hT5 := Lib.hid (hT4.out.below hb3)
        have hz5 := Lib.hid (hz4.out.keeps (Keeps.of_below hb3))
        have hT6 := Lib.hid (hT5.out.set hz5.out)
        obtain ⟨⟨a0, a1, af⟩, _, _, _⟩ := hT5.out.i.cells
        obtain ⟨⟨e0, e1⟩, _⟩ := hnb.cells
        clear hV3 hb3 hnb
        go_upto_region 15 with (fail)
        obtain ⟨Wb, hWb⟩ : ∃ Q, (V3.setCell ⟨W.heap.size + 1, 0, none⟩ (.slice ya yn yc)).setCell ⟨W.heap.size + 1, 1, none⟩ (.slice yb ym yd) = Q := ⟨_, rfl⟩
        rw [hWb] at hT6 ⊢
        clear hWb a0 a1 af e0 e1
        obtain ⟨oa, oc, ob, od, hoe, hos, hoi⟩ := hT6.out.i.stv
        simp only [Value.agg.injEq, Array.mk.injEq, List.cons.injEq, and_true] at hoe
        obtain ⟨he1, he2⟩ := hoe
        rw [he1, he2] at hT6
        rw [he1, he2]
        have hcp0 := Lib.hid hos
        have hoi' := Lib.hid hoi
        clear hos hoi he1 he2
        obtain ⟨tq, htq⟩ : ∃ x, ts3 ++ f2 = x := ⟨_, rfl⟩
        rw [htq] at hT6 hcp0 hB0 hn3 ⊢
        clear htq
        have hcp : Hid ((Wb.heap.size = Wb.heap.size ∧ TkSl Wb (.slice oa tq.length oc) tq) ∧ tq.length ≤ 1000000) := ⟨⟨rfl, hcp0.out⟩, by have := hn3.out; omega⟩
        have hst : Hid (∀ Q, Below Wb.heap.size Wb Q → Q.cell? ⟨W.heap.size + 1, 0, none⟩ = some (.slice oa tq.length oc) ∧ Q.cell? ⟨tb, 0, none⟩ = some (.int .i64 t.kind) ∧ Q.cell? ⟨tb, 1, none⟩ = some (.string (tS t.text)) ∧ Q.cell? ⟨tb, 2, none⟩ = some (.int .i64 t.num) ∧ Q.cell? ⟨tb, 3, none⟩ = some (.int .i64 t.line) ∧ Q.cell? ⟨tb, 4, none⟩ = some (.int .i64 t.col) ∧ Q.frozen? ⟨W.heap.size + 1, 0, none⟩ = false) := fun Q hQ => by
          have hI := hT6.out.below hQ
          obtain ⟨⟨a0, _, af⟩, _⟩ := hI.i.cells
          obtain ⟨⟨d0, d1, d2, d3, d4⟩, _⟩ := hI.tok.cells
          exact ⟨a0, d0, d1, d2, d3, d4, af 0⟩
        refine wp_region_inv (fun f a Vr => ∃ x : Nat → Value, a = ⟨#[.slice (some ⟨b, off, none⟩) l.length cap, undef, u2, .pointer (some ⟨W.heap.size, 0, none⟩), u4, .pointer (some ⟨W.heap.size + 1, 0, none⟩), .bool fb, .int .i64 (k : Int), .pointer (some ⟨tb, 0, none⟩), .pointer (some ⟨V2.heap.size, 0, none⟩), .bool true, .agg #[.slice none 0 0, .slice none 0 0], .int .i64 (k : Int), .slice (some ⟨b, off, none⟩) l.length cap, .int .i64 (l.length : Int), .bool true, u16, u17, u18, u19, u20, u21, u22, u23, u24, u25, u26, u27, u28, u29, u30, u31, u32, u33, u34, u35, u36, u37, u38, u39, u40, u41, u42, u43, u44, u45, u46, u47, u48, u49, u50, u51, u52, u53, u54, u55, .tuple #[.agg #[.slice oa tq.length oc, .slice ob st'.length od], .bool true], .agg #[z0, z1], .agg #[.int .i64 t.kind, .string (tS t.text), .int .i64 t.num, .int .i64 t.line, .int .i64 t.col], .tuple #[.agg #[.slice oa tq.length oc, .slice ob st'.length od], .bool true], .agg #[.slice oa tq.length oc, .slice ob st'.length od], .bool true, .bool true, .bool false, u64, u65, u66, u67, u68, .agg #[.slice oa tq.length oc, .slice ob st'.length od], x 0, x 1, x 2, x 3, x 4, x 5, x 6, x 7, u78, u79, u80, u81, u82, u83, u84, undef, undef, undef, undef, undef, undef, undef, undef, undef, undef, undef, undef, undef, undef, undef, undef, undef, undef, undef, undef, undef, undef, undef, undef, undef, undef, undef, undef, undef, undef, undef, undef, undef, undef], []⟩ ∧ (CpC Wb.heap.size Wb tq t (f 0) (f 3) (f 5) (f 6) (f 8) (x 0) (x 3) (x 5) (x 6) Vr) ∧ (f 8 = true → ∃ va vc V0, Vr = V0.setCell ⟨W.heap.size + 1, 0, none⟩ (.slice va (tq.length + 1) vc) ∧ Below Wb.heap.size Wb V0 ∧ V0.ownsRow Wb.heap.size 34 5 (.slice va (tq.length + 1) vc) (tq.length + 1) (tkCs (tq ++ [t]))) ∧ VO [none, some (.pointer (some ⟨W.heap.size + 1, 0, none⟩)), some (.slice oa tq.length oc), none, some (.agg #[.int .i64 t.kind, .string (tS t.text), .int .i64 t.num, .int .i64 t.line, .int .i64 t.col]), none, none, some (.pointer (some ⟨W.heap.size + 1, 0, none⟩)), none] f x) (by kernel_rfl) (by kernel_rfl) (rs := [0, 1, 2, 3, 4, 5, 6, 7, 8]) (by kernel_rfl) ?start ?steps ?last
        case start => exact ⟨fun i => ([u70, u71, u72, u73, u74, u75, u76, u77, undef] : List Value).getD i undef, rfl, CpC.start _ _ _ _ _ _ _, by simp, VO.nil _ _⟩
        case steps =>
          refine (KeepsI.cons (ds := []) rfl (by kernel_rfl) ?s0 (KeepsI.cons (ds := []) rfl (by kernel_rfl) ?s1 (KeepsI.cons (ds := [1]) rfl (by kernel_rfl) ?s2 (KeepsI.cons (ds := [0, 2]) rfl (by kernel_rfl) ?s3 (KeepsI.cons (ds := []) rfl (by kernel_rfl) ?s4 (KeepsI.cons (ds := [4]) rfl (by kernel_rfl) ?s5 (KeepsI.cons (ds := [3, 5]) rfl (by kernel_rfl) ?s6 (KeepsI.cons (ds := []) rfl (by kernel_rfl) ?s7 (KeepsI.cons (ds := [7, 6]) rfl (by kernel_rfl) ?s8 KeepsI.nil)))))))))
          all_goals (intro f a Vr hf hd hcl hI K' hK; obtain ⟨x, rfl, c0, c1, hx⟩ := hI)
          case s0 =>
            have n3 : f 3 = false := by cases h : f 3; rfl; exact absurd (hcl 3 0 (by kernel_rfl) (h)) (by rw [hf]; simp)
            have n6 : f 6 = false := by cases h : f 6; rfl; exact absurd (hcl 3 0 (by kernel_rfl) (hcl 6 3 (by kernel_rfl) (h))) (by rw [hf]; simp)
            have n8 : f 8 = false := by cases h : f 8; rfl; exact absurd (hcl 3 0 (by kernel_rfl) (hcl 6 3 (by kernel_rfl) (hcl 8 6 (by kernel_rfl) (h)))) (by rw [hf]; simp)
            have q := c0
            rw [hf, n3, n6, n8] at q
            have hs := q.s0
            clear q
            go_simp
            exact hK _ _ ⟨upd x 0 (.slice (some ⟨Vr.heap.size, 0, none⟩) 0 0), rfl, by show CpC _ _ _ _ true (f 3) (f 5) (f 6) (f 8) _ _ _ _ _; rw [n3, n6, n8]; exact hs, fun h => absurd (n8.symm.trans h) (by decide), VO.free hx 0 rfl _⟩
          case s1 =>
            go_simp
            exact hK _ _ ⟨(upd x 1 (.pointer (some ⟨W.heap.size + 1, 0, none⟩))), rfl, c0, c1, (hx.set 1 rfl)⟩
          case s2 =>
            have e1 := hx.get 1 rfl (hd 1 (by simp))
            rw [e1]
            clear e1
            have n3 : f 3 = false := by cases h : f 3; rfl; exact absurd (hcl 3 2 (by kernel_rfl) (h)) (by rw [hf]; simp)
            have n6 : f 6 = false := by cases h : f 6; rfl; exact absurd (hcl 3 2 (by kernel_rfl) (hcl 6 3 (by kernel_rfl) (h))) (by rw [hf]; simp)
            have n8 : f 8 = false := by cases h : f 8; rfl; exact absurd (hcl 3 2 (by kernel_rfl) (hcl 6 3 (by kernel_rfl) (hcl 8 6 (by kernel_rfl) (h)))) (by rw [hf]; simp)
            have hb := (c0.1 n8).1
            obtain ⟨k0, d0, d1, d2, d3, d4, kf⟩ := hst.out Vr hb
            clear hb
            clear n3 n6 n8
            go_simp
            exact hK _ _ ⟨(upd (upd x 1 (.pointer (some ⟨W.heap.size + 1, 0, none⟩))) 2 (.slice oa tq.length oc)), rfl, c0, c1, ((hx.put 1 rfl).set 2 rfl)⟩
          case s3 =>
            have e2 := hx.get 2 rfl (hd 2 (by simp))
            rw [e2]
            clear e2
            have n6 : f 6 = false := by cases h : f 6; rfl; exact absurd (hcl 6 3 (by kernel_rfl) (h)) (by rw [hf]; simp)
            have n8 : f 8 = false := by cases h : f 8; rfl; exact absurd (hcl 6 3 (by kernel_rfl) (hcl 8 6 (by kernel_rfl) (h))) (by rw [hf]; simp)
            have y0 : f 0 = true := hd 0 (by simp)
            have q := c0
            rw [hf, y0, n6, n8] at q
            obtain ⟨va, vc, V1, hrun, hs⟩ := q.s3 hcp.out.1 hcp.out.2
            clear q
            refine wanted_run (by rfl) ?_
            refine wp_append_run (.tmp 70) (.tmp 72) 22 _ _ _ _ _ rfl rfl rfl hrun ?_
            exact hK _ _ ⟨upd (upd x 2 (.slice oa tq.length oc)) 3 (.slice va tq.length vc), rfl, by show CpC _ _ _ _ (f 0) true (f 5) (f 6) (f 8) _ _ _ _ _; rw [y0, n6, n8]; exact hs, fun h => absurd (n8.symm.trans h) (by decide), VO.free (hx.put 2 rfl) 3 rfl _⟩
          case s4 =>
            have n5 : f 5 = false := by cases h : f 5; rfl; exact absurd (hcl 5 4 (by kernel_rfl) (h)) (by rw [hf]; simp)
            have n6 : f 6 = false := by cases h : f 6; rfl; exact absurd (hcl 5 4 (by kernel_rfl) (hcl 6 5 (by kernel_rfl) (h))) (by rw [hf]; simp)
            have n8 : f 8 = false := by cases h : f 8; rfl; exact absurd (hcl 5 4 (by kernel_rfl) (hcl 6 5 (by kernel_rfl) (hcl 8 6 (by kernel_rfl) (h)))) (by rw [hf]; simp)
            have hb := (c0.1 n8).1
            obtain ⟨k0, d0, d1, d2, d3, d4, kf⟩ := hst.out Vr hb
            clear hb
            clear n5 n6 n8
            go_simp
            exact hK _ _ ⟨(upd x 4 (.agg #[.int .i64 t.kind, .string (tS t.text), .int .i64 t.num, .int .i64 t.line, .int .i64 t.col])), rfl, c0, c1, (hx.set 4 rfl)⟩
          case s5 =>
            have e4 := hx.get 4 rfl (hd 4 (by simp))
            rw [e4]
            clear e4
            have n6 : f 6 = false := by cases h : f 6; rfl; exact absurd (hcl 6 5 (by kernel_rfl) (h)) (by rw [hf]; simp)
            have n8 : f 8 = false := by cases h : f 8; rfl; exact absurd (hcl 6 5 (by kernel_rfl) (hcl 8 6 (by kernel_rfl) (h))) (by rw [hf]; simp)
            have q := c0
            rw [hf, n6, n8] at q
            have hs := q.s10
            clear q
            go_simp
            exact hK _ _ ⟨upd (upd x 4 (.agg #[.int .i64 t.kind, .string (tS t.text), .int .i64 t.num, .int .i64 t.line, .int .i64 t.col])) 5 (.slice (some ⟨Vr.heap.size, 0, none⟩) 1 1), rfl, by show CpC _ _ _ _ (f 0) (f 3) true (f 6) (f 8) _ _ _ _ _; rw [n6, n8]; exact hs, fun h => absurd (n8.symm.trans h) (by decide), VO.free (hx.put 4 rfl) 5 rfl _⟩
          case s6 =>
            have n8 : f 8 = false := by cases h : f 8; rfl; exact absurd (hcl 8 6 (by kernel_rfl) (h)) (by rw [hf]; simp)
            have y0 : f 0 = true := hcl 3 0 (by kernel_rfl) (hd 3 (by simp))
            have y3 : f 3 = true := hd 3 (by simp)
            have y5 : f 5 = true := hd 5 (by simp)
            have q := c0
            rw [hf, y0, y3, y5, n8] at q
            obtain ⟨va, vc, V1, g, eg, hrun, hs⟩ := q.s11 hcp.out.2
            clear q
            rw [eg]
            refine wanted_run (by rfl) ?_
            refine wp_append_run (.tmp 73) (.tmp 75) 22 _ _ _ _ _ rfl rfl rfl hrun ?_
            exact hK _ _ ⟨upd (upd x 5 (.slice (some ⟨g, 0, none⟩) 1 1)) 6 (.slice va (tq.length + 1) vc), rfl, by show CpC _ _ _ _ (f 0) (f 3) (f 5) true (f 8) _ _ _ _ _; rw [y0, y3, y5, n8]; rw [eg] at hs; exact hs, fun h => absurd (n8.symm.trans h) (by decide), VO.free (VO.keep hx 5 rfl _) 6 rfl _⟩
          case s7 =>
            go_simp
            exact hK _ _ ⟨(upd x 7 (.pointer (some ⟨W.heap.size + 1, 0, none⟩))), rfl, c0, c1, (hx.set 7 rfl)⟩
          case s8 =>
            have e7 := hx.get 7 rfl (hd 7 (by simp))
            rw [e7]
            clear e7
            have y0 : f 0 = true := hcl 3 0 (by kernel_rfl) (hcl 6 3 (by kernel_rfl) (hd 6 (by simp)))
            have y3 : f 3 = true := hcl 6 3 (by kernel_rfl) (hd 6 (by simp))
            have y5 : f 5 = true := hcl 6 5 (by kernel_rfl) (hd 6 (by simp))
            have y6 : f 6 = true := hd 6 (by simp)
            have q := c0
            rw [hf, y6] at q
            obtain ⟨hb, _⟩ := q.1 rfl
            obtain ⟨va, vc, e11, hown⟩ := q.2.2.2.2 rfl rfl
            obtain ⟨k0, d0, d1, d2, d3, d4, kf⟩ := hst.out Vr hb
            clear q
            rw [e11] at hown
            rw [e11]
            have hb := Lib.hid hb
            have hown := Lib.hid hown
            go_simp
            exact hK _ _ ⟨upd (upd x 7 (.pointer (some ⟨W.heap.size + 1, 0, none⟩))) 6 (.slice va (tq.length + 1) vc), rfl, ⟨fun h => (nomatch h), fun _ _ h => (nomatch h), fun _ _ h => (nomatch h), fun _ _ h => (nomatch h), fun _ h => (nomatch h)⟩, fun _ => ⟨va, vc, Vr, rfl, hb.out, hown.out⟩, VO.done (VO.keep (hx.put 7 rfl) 6 rfl _) 8 rfl⟩
        case last =>
          rintro f a Vr hf ⟨x, rfl, c0, c1, hx⟩
          obtain ⟨va, vc, V0, e, hb, hown⟩ := c1 (hf 8 (by simp))
          clear c0 c1 hx hst
          have hb0 := hT6.out.below hb
          have hlen : (tq ++ [t]).length = tq.length + 1 := by simp
          have hsv0 : StV V0 (.agg #[.slice va (tq.length + 1) vc, .slice ob st'.length od]) (tq ++ [t]) st' := ⟨va, vc, ob, od, by rw [hlen], by rw [hlen]; exact TkSl.own (by rw [hlen]; exact hown), hoi'.out.keeps (Keeps.of_below hb)⟩
          have hoY : ∀ g, g ≠ W.heap.size + 1 → Vr.heap[g]? = V0.heap[g]? := by rw [e]; exact fun g hg => heap_set _ _ _ _ _ hg
          have hT7 : Hid (LyT W tb t Vr (.slice va (tq.length + 1) vc) (.slice ob st'.length od) (tq ++ [t]) st') := ⟨⟨by rw [e]; exact hb0.i.low.trans ((Below.refl _ _).setCell (p := ⟨W.heap.size + 1, 0, none⟩) (by show W.heap.size ≤ W.heap.size + 1; omega) _), (hoY _ (by omega)).trans hb0.i.plc, by rw [e]; exact hb0.i.box.first _, hsv0.aside hoY (box_slices hb0.i.box)⟩, (hoY _ (by have := hb0.at'; omega)).trans hb0.tok, hb0.at'⟩
          clear e hb hown hb0 hsv0 hoY
          obtain ⟨Q, rfl⟩ : ∃ Q, Q = Vr := ⟨_, rfl⟩
          obtain ⟨⟨be1, be2, fb2⟩, hbe⟩ : ∃ r, behS t (l.drop (k + 1)).head? st' = r := ⟨_, rfl⟩
          have hbl := beh_len t (l.drop (k + 1)).head? st'
          rw [hbe] at hB0 hbl
          simp only at hbl
          have hB1 : Hid (Res.pre (tq ++ [t] ++ be1) (layS (prevT l (k + 1)) fb2 be2 (l.drop (k + 1))) = layF l) := by
            unfold Hid
            rw [show prevT l (k + 1) = some t from by show l[k]? = some t; rw [List.getElem?_eq_getElem hlt, ht'.out]]
            exact hB0.out
          have hn6 : Hid ((tq ++ [t] ++ be1).length + be2.length ≤ 6 * (k + 1)) := by have h1 := hn3.out; unfold Hid; simp only [List.length_append, List.length_singleton]; omega
          have hbeh := r03_behind (some ⟨b, off, none⟩) l cap k hlt Q hT7.out.i.stv (by have h1 := hn3.out; simp only [List.length_append, List.length_singleton]; omega) (by omega) (hrow'.out.keeps (Keeps.of_below hT7.out.i.low))
          rw [ht'.out, hbe] at hbeh
          have hbeh' := Lib.hid hbeh
          have hkk : Hid (k < l.length) := hlt
          clear hbe hbl hB0 hbeh
          obtain ⟨⟨a0, a1, af⟩, _, _, _⟩ := hT7.out.i.cells
          go_wp2_with fail
          refine hbeh'.out.mono ?_
          rintro e V5 ⟨y, rfl, hy, hB⟩
          have hT8 := Lib.hid (hT7.out.below hB)
          clear hB a0 a1 af
          obtain ⟨xa, xn, xc, xb, xm, xd, rfl⟩ := hy.agg
          have hT9 := Lib.hid (hT8.out.set hy)
          clear hy
          obtain ⟨⟨a0, a1, af⟩, _, _, _⟩ := hT8.out.i.cells
          go_wp2_with fail
          go_roundg (l.length - (k + 1))
          case measure => omega
          case rel => exact ⟨k + 1, fb2, _, _, _, be2, by omega, by omega, rfl, by go_num, hT9.out.i, hB1.out, hn6.out⟩
    · obtain rfl : k = l.length := by omega
      obtain ⟨e, he⟩ : ∃ e : Tk, (l.getLast?).getD ⟨0, [], 0, 0, 0⟩ = e := ⟨_, rfl⟩
      have hE : Hid (layF l = if (shutW (fun _ => true) st1).2 = [] then .ok (ts1 ++ List.replicate (shutW (fun _ => true) st1).1 (mkT bShut e)) else .bad e.line e.col) := by
        have h := hA.out
        rw [List.drop_length, layS] at h
        unfold Hid
        rw [← h]
        cases hl : l.length with
        | zero =>
          have hn := hN.out
          rw [hl] at hn
          have h1 : ts1 = [] := List.length_eq_zero_iff.1 (by omega)
          have h2 : st1 = [] := List.length_eq_zero_iff.1 (by omega)
          subst h1 h2
          rfl
        | succ m =>
          have hm : l[m]? = some e := by
            rw [← he, List.getLast?_eq_getElem?, hl, Nat.add_sub_cancel]
            rw [List.getElem?_eq_getElem (by omega)]
            rfl
          show Res.pre ts1 (endS l[m]? st1) = _
          rw [hm, endS]
          split <;> rfl
      have hlast : Hid (∀ (h : 0 < l.length), l[l.length - 1] = e) := fun h => by
        rw [← he, List.getLast?_eq_getElem?, List.getElem?_eq_getElem (by omega)]
        rfl
      have hN2 : Hid (0 < ts1.length + st1.length → 0 < l.length) := fun h => by have := hN.out; omega
      have hn1 : Hid (ts1.length + st1.length ≤ 6 * l.length) := hN.out
      clear he hA hN hk hgm hlt
      go_wp2_with fail
      go_loopg [86] st1.length (fun g _ wr => ∃ (y0 y1 : Value) (ts2 : List Tk) (st2 : List Int), g = st2.length ∧ Hid (LyI W wr y0 y1 ts2 st2) ∧ Hid (ts2 ++ List.replicate (shutW (fun _ => true) st2).1 (mkT bShut e) = ts1 ++ List.replicate (shutW (fun _ => true) st1).1 (mkT bShut e)) ∧ Hid ((shutW (fun _ => true) st2).2 = (shutW (fun _ => true) st1).2) ∧ Hid (ts2.length + st2.length = ts1.length + st1.length))
      case atStart => exact ⟨x0, x1, ts1, st1, rfl, hI, rfl, rfl, rfl⟩
      case round =>
        obtain ⟨y0, y1, ts2, st2, rfl, hI2, hA2, hS2, hn2⟩ := hrel
        obtain ⟨Y, rfl⟩ : ∃ X, X = wr := ⟨_, rfl⟩
        clear hI
        obtain ⟨q, hq⟩ : ∃ q, lastS st2 = q := ⟨_, rfl⟩
        have hla := r03_last Y hI2.out.stv (by have := hn2.out; have := hn1.out; omega)
        rw [hq] at hla
        have hla' := Lib.hid hla
        have hq' := Lib.hid hq
        clear hq hla
        obtain ⟨⟨a0, a1, af⟩, p0, p1, pf⟩ := hI2.out.cells
        by_cases hg : 0 < q
        · obtain ⟨r, hr⟩ : ∃ r, st2 = q :: r := by
            cases st2 with
            | nil => have h1 := hq'.out; simp [lastS] at h1; omega
            | cons c r => exact ⟨r, by have h1 : c = q := hq'.out; rw [h1]⟩
          subst hr
          have hstep : Hid (shutW (fun _ => true) (q :: r) = ((shutW (fun _ => true) r).1 + 1, (shutW (fun _ => true) r).2)) := shutW_go ⟨hg, rfl⟩
          have hpos : 0 < l.length := hN2.out (by have := hn2.out; rw [List.length_cons] at this; omega)
          obtain ⟨m, hm⟩ : ∃ m, l.length - 1 = m := ⟨_, rfl⟩
          have hml : m < l.length := by omega
          have hle : l[m] = e := by have h := hlast.out hpos; simp only [hm] at h; exact h
          have hw : IntKind.i64.wrap ((l.length : Int) - 1) = (m : Int) := by rw [show (l.length : Int) - 1 = (m : Int) by omega]; exact IntWalk.i64_in _ (by omega)
          obtain ⟨b, off, rfl, hcell⟩ := hrow'.out.at (by rintro rfl; simp at hpos)
          have hc0 := hcell m hml
          rw [hle] at hc0
          have hc0' := Lib.hid hc0
          have hmi : (m : Int) < (l.length : Int) := by omega
          clear hm hcell hc0 hle
          go_wp2_with fail
          refine hla'.out.mono ?_
          rintro e2 V ⟨rfl, hB⟩
          have hI3 := Lib.hid (hI2.out.below hB)
          clear hB a0 a1 af p0 p1 pf
          go_upto_region 18 with (fail)
          have hst : Hid (∀ Q, Below V.heap.size V Q → Q.cell? ⟨W.heap.size + 1, 0, none⟩ = some y0 ∧ Q.cell? ⟨W.heap.size + 1, 1, none⟩ = some y1 ∧ Q.cell? ⟨b, off + m * 5, none⟩ = some (.int .i64 e.kind) ∧ Q.cell? ⟨b, off + m * 5 + 1, none⟩ = some (.string (tS e.text)) ∧ Q.cell? ⟨b, off + m * 5 + 2, none⟩ = some (.int .i64 e.num) ∧ Q.cell? ⟨b, off + m * 5 + 3, none⟩ = some (.int .i64 e.line) ∧ Q.cell? ⟨b, off + m * 5 + 4, none⟩ = some (.int .i64 e.col)) := fun Q hQ => by
            have hI := hI3.out.below hQ
            obtain ⟨⟨a0, a1, _⟩, _⟩ := hI.cells
            have hk := Keeps.of_below hI.low
            exact ⟨a0, a1, hk _ _ hc0'.out.1, hk _ _ hc0'.out.2.1, hk _ _ hc0'.out.2.2.1, hk _ _ hc0'.out.2.2.2.1, hk _ _ hc0'.out.2.2.2.2⟩
          have hnn : Hid (ts2.length ≤ 1000000 ∧ r.length ≤ 1000000) := by have h1 := hn2.out; have h2 := hn1.out; rw [List.length_cons] at h1; unfold Hid; omega
          have hpu : Hid (∀ Q, Below V.heap.size V Q → Calls Tryz.prog 21 #[.agg #[y0, y1], .string ⟨#[125]⟩, .agg #[.int .i64 e.kind, .string (tS e.text), .int .i64 e.num, .int .i64 e.line, .int .i64 e.col]] Q fun e2 V' => ∃ z, e2 = .returned z ∧ StV V' z (ts2 ++ [mkT bShut e]) (q :: r) ∧ Below Q.heap.size Q V') := fun Q hQ => r03_put bShut e Q (hI3.out.stv.keeps (Keeps.of_below hQ)) hnn.out.1
          have hop : Hid (∀ (Q : World) (v : Value), Below V.heap.size V Q → StV Q v (ts2 ++ [mkT bShut e]) (q :: r) → Calls Tryz.prog 26 #[v] Q fun e2 V' => ∃ z, e2 = .returned z ∧ StV V' z (ts2 ++ [mkT bShut e]) r ∧ Below Q.heap.size Q V') := fun Q v hQ hs => r03_shut Q hs hnn.out.2
          refine wp_region_inv (fun f a Vr => ∃ x : Nat → Value, a = ⟨#[.slice (some ⟨b, off, none⟩) l.length cap, undef, u2, .pointer (some ⟨W.heap.size, 0, none⟩), u4, .pointer (some ⟨W.heap.size + 1, 0, none⟩), .bool fb, .int .i64 (l.length : Int), u8, u9, u10, .agg #[.slice none 0 0, .slice none 0 0], .int .i64 (l.length : Int), .slice (some ⟨b, off, none⟩) l.length cap, .int .i64 (l.length : Int), .bool false, u16, u17, u18, u19, u20, u21, u22, u23, u24, u25, u26, u27, u28, u29, u30, u31, u32, u33, u34, u35, u36, u37, u38, u39, u40, u41, u42, u43, u44, u45, u46, u47, u48, u49, u50, u51, u52, u53, u54, u55, u56, u57, u58, u59, u60, u61, u62, u63, u64, u65, u66, u67, u68, u69, u70, u71, u72, u73, u74, u75, u76, u77, u78, u79, u80, u81, u82, u83, u84, .agg #[y0, y1], .int .i64 q, .bool true, x 0, x 1, x 2, x 3, x 4, x 5, x 6, x 7, x 8, undef, undef, undef, undef, undef, undef, undef, undef, undef, undef, undef, undef, undef, undef, undef, undef, undef, undef, undef, undef, undef, undef], []⟩ ∧ (f 9 = false → Below V.heap.size V Vr) ∧ (f 7 = true → f 8 = false → f 9 = false → StV Vr (x 7) (ts2 ++ [mkT bShut e]) (q :: r)) ∧ (f 8 = true → f 9 = false → StV Vr (x 8) (ts2 ++ [mkT bShut e]) r) ∧ (f 9 = true → ∃ z0 z1, LyI W Vr z0 z1 (ts2 ++ [mkT bShut e]) r) ∧ VO [some (.agg #[y0, y1]), some (.slice (some ⟨b, off, none⟩) l.length cap), some (.slice (some ⟨b, off, none⟩) l.length cap), some (.int .i64 (l.length : Int)), some (.int .i64 (m : Int)), some (.pointer (some ⟨b, off + m * 5, none⟩)), some (.agg #[.int .i64 e.kind, .string (tS e.text), .int .i64 e.num, .int .i64 e.line, .int .i64 e.col]), none, none, none] f x) (by kernel_rfl) (by kernel_rfl) (rs := [0, 1, 2, 3, 4, 5, 6, 7, 8, 9]) (by kernel_rfl) ?start ?steps ?last
          case start => exact ⟨fun i => ([u88, u89, u90, u91, u92, u93, u94, u95, u96, undef] : List Value).getD i undef, rfl, fun _ => (Below.refl _ _).drew, by simp, by simp, by simp, VO.nil _ _⟩
          case steps =>
            refine (KeepsI.cons (ds := []) rfl (by kernel_rfl) ?s0 (KeepsI.cons (ds := []) rfl (by kernel_rfl) ?s1 (KeepsI.cons (ds := []) rfl (by kernel_rfl) ?s2 (KeepsI.cons (ds := [2]) rfl (by kernel_rfl) ?s3 (KeepsI.cons (ds := [3]) rfl (by kernel_rfl) ?s4 (KeepsI.cons (ds := [1, 4]) rfl (by kernel_rfl) ?s5 (KeepsI.cons (ds := [5]) rfl (by kernel_rfl) ?s6 (KeepsI.cons (ds := [0, 6]) rfl (by kernel_rfl) ?s7 (KeepsI.cons (ds := [7]) rfl (by kernel_rfl) ?s8 (KeepsI.cons (ds := [8]) rfl (by kernel_rfl) ?s9 KeepsI.nil))))))))))
            all_goals (intro f a Vr hf hd hcl hI K' hK; obtain ⟨x, rfl, c0, c1, c2, c3, hx⟩ := hI)
            case s0 =>
              have n7 : f 7 = false := by cases h : f 7; rfl; exact absurd (hcl 7 0 (by kernel_rfl) (h)) (by rw [hf]; simp)
              have n8 : f 8 = false := by cases h : f 8; rfl; exact absurd (hcl 7 0 (by kernel_rfl) (hcl 8 7 (by kernel_rfl) (h))) (by rw [hf]; simp)
              have n9 : f 9 = false := by cases h : f 9; rfl; exact absurd (hcl 7 0 (by kernel_rfl) (hcl 8 7 (by kernel_rfl) (hcl 9 8 (by kernel_rfl) (h)))) (by rw [hf]; simp)
              have hb := c0 n9
              obtain ⟨a0, a1, d0, d1, d2, d3, d4⟩ := hst.out Vr hb
              clear hb
              clear n7 n8 n9
              go_simp
              exact hK _ _ ⟨(upd x 0 (.agg #[y0, y1])), rfl, c0, c1, c2, c3, (hx.set 0 rfl)⟩
            case s1 =>
              go_simp
              exact hK _ _ ⟨(upd x 1 (.slice (some ⟨b, off, none⟩) l.length cap)), rfl, c0, c1, c2, c3, (hx.set 1 rfl)⟩
            case s2 =>
              go_simp
              exact hK _ _ ⟨(upd x 2 (.slice (some ⟨b, off, none⟩) l.length cap)), rfl, c0, c1, c2, c3, (hx.set 2 rfl)⟩
            case s3 =>
              have e2 := hx.get 2 rfl (hd 2 (by simp))
              rw [e2]
              clear e2
              go_simp
              exact hK _ _ ⟨(upd (upd x 2 (.slice (some ⟨b, off, none⟩) l.length cap)) 3 (.int .i64 (l.length : Int))), rfl, c0, c1, c2, c3, ((hx.put 2 rfl).set 3 rfl)⟩
            case s4 =>
              have e3 := hx.get 3 rfl (hd 3 (by simp))
              rw [e3]
              clear e3
              go_simp
              exact hK _ _ ⟨(upd (upd x 3 (.int .i64 (l.length : Int))) 4 (.int .i64 (m : Int))), rfl, c0, c1, c2, c3, ((hx.put 3 rfl).set 4 rfl)⟩
            case s5 =>
              have e1 := hx.get 1 rfl (hd 1 (by simp))
              have e4 := hx.get 4 rfl (hd 4 (by simp))
              rw [e1, e4]
              clear e1 e4
              go_simp
              exact hK _ _ ⟨(upd (upd (upd x 1 (.slice (some ⟨b, off, none⟩) l.length cap)) 4 (.int .i64 (m : Int))) 5 (.pointer (some ⟨b, off + m * 5, none⟩))), rfl, c0, c1, c2, c3, (((hx.put 1 rfl).put 4 rfl).set 5 rfl)⟩
            case s6 =>
              have e5 := hx.get 5 rfl (hd 5 (by simp))
              rw [e5]
              clear e5
              have n7 : f 7 = false := by cases h : f 7; rfl; exact absurd (hcl 7 6 (by kernel_rfl) (h)) (by rw [hf]; simp)
              have n8 : f 8 = false := by cases h : f 8; rfl; exact absurd (hcl 7 6 (by kernel_rfl) (hcl 8 7 (by kernel_rfl) (h))) (by rw [hf]; simp)
              have n9 : f 9 = false := by cases h : f 9; rfl; exact absurd (hcl 7 6 (by kernel_rfl) (hcl 8 7 (by kernel_rfl) (hcl 9 8 (by kernel_rfl) (h)))) (by rw [hf]; simp)
              have hb := c0 n9
              obtain ⟨a0, a1, d0, d1, d2, d3, d4⟩ := hst.out Vr hb
              clear hb
              clear n7 n8 n9
              go_simp
              exact hK _ _ ⟨(upd (upd x 5 (.pointer (some ⟨b, off + m * 5, none⟩))) 6 (.agg #[.int .i64 e.kind, .string (tS e.text), .int .i64 e.num, .int .i64 e.line, .int .i64 e.col])), rfl, c0, c1, c2, c3, ((hx.put 5 rfl).set 6 rfl)⟩
            case s7 =>
              have e0 := hx.get 0 rfl (hd 0 (by simp))
              have e6 := hx.get 6 rfl (hd 6 (by simp))
              rw [e0, e6]
              clear e0 e6
              have n8 : f 8 = false := by cases h : f 8; rfl; exact absurd (hcl 8 7 (by kernel_rfl) (h)) (by rw [hf]; simp)
              have n9 : f 9 = false := by cases h : f 9; rfl; exact absurd (hcl 8 7 (by kernel_rfl) (hcl 9 8 (by kernel_rfl) (h))) (by rw [hf]; simp)
              have hb := c0 n9
              go_simp
              refine (hpu.out Vr hb).mono ?_
              rintro e V1 ⟨z1, rfl, hz1, hB⟩
              exact hK _ _ ⟨upd (upd (upd x 0 (.agg #[y0, y1])) 6 (.agg #[.int .i64 e.kind, .string (tS e.text), .int .i64 e.num, .int .i64 e.line, .int .i64 e.col])) 7 z1, rfl, fun _ => hb.trans (hB.mono hb.size), fun _ _ _ => hz1, fun h => absurd (n8.symm.trans h) (by decide), fun h => absurd (n9.symm.trans h) (by decide), VO.free ((hx.put 0 rfl).put 6 rfl) 7 rfl _⟩
            case s8 =>
              have n9 : f 9 = false := by cases h : f 9; rfl; exact absurd (hcl 9 8 (by kernel_rfl) (h)) (by rw [hf]; simp)
              have y7 : f 7 = true := hd 7 (by simp)
              have hb := c0 n9
              have hs := c1 y7 hf n9
              go_simp
              refine (hop.out Vr _ hb hs).mono ?_
              rintro e V1 ⟨z2, rfl, hz2, hB⟩
              exact hK _ _ ⟨upd x 8 z2, rfl, fun _ => hb.trans (hB.mono hb.size), fun _ h => (nomatch h), fun _ _ => hz2, fun h => absurd (n9.symm.trans h) (by decide), VO.free hx 8 rfl _⟩
            case s9 =>
              have y7 : f 7 = true := hcl 8 7 (by kernel_rfl) (hd 8 (by simp))
              have y8 : f 8 = true := hd 8 (by simp)
              have hb := c0 hf
              have hs := c2 y8 hf
              obtain ⟨ya, yn, yc, yb, ym, yd, e2⟩ := hs.agg
              have hs2 := hs
              rw [e2] at hs2
              have hIr := hI3.out.below hb
              have hE := hIr.set hs2
              obtain ⟨⟨a0, a1, af⟩, _, _, _⟩ := hIr.cells
              rw [e2]
              have hE := Lib.hid hE.1
              clear hs hs2 hIr c0 c1 c2 c3
              go_simp
              exact hK _ _ ⟨upd x 8 (.agg #[.slice ya yn yc, .slice yb ym yd]), rfl, fun h => (nomatch h), fun _ _ h => (nomatch h), fun _ h => (nomatch h), fun _ => ⟨_, _, hE.out⟩, VO.done (VO.keep hx 8 rfl _) 9 rfl⟩
          case last =>
            rintro f a Vr hf ⟨x, rfl, c0, c1, c2, c3, hx⟩
            obtain ⟨z0, z1, hfin⟩ := c3 (hf 9 (by simp))
            have hfin := Lib.hid hfin
            clear c0 c1 c2 c3 hx hst hpu hop
            go_wp2_with fail
            go_roundg r.length
            case measure => simp
            case rel => exact ⟨z0, z1, _, r, rfl, hfin, by unfold Hid; rw [← hA2.out, hstep.out, List.append_assoc, List.singleton_append, ← List.replicate_succ], by unfold Hid; rw [← hS2.out, hstep.out], by have := hn2.out; unfold Hid; simp at this ⊢; omega⟩
        · have hsh : Hid (shutW (fun _ => true) st2 = (0, st2)) := by
            unfold Hid
            cases st2 with
            | nil => rfl
            | cons c r =>
              have hc : c = q := hq'.out
              exact shutW_stop (fun h => by subst hc; exact hg h.1)
          have hE2 : Hid (layF l = if st2 = [] then .ok ts2 else .bad e.line e.col) := by
            unfold Hid
            rw [hE.out, ← hS2.out, ← hA2.out, hsh.out]
            simp
          have hgd : ¬ 0 < q := hg
          go_wp2_with fail
          refine hla'.out.mono ?_
          rintro e2 V ⟨rfl, hB⟩
          have hI3 := Lib.hid (hI2.out.below hB)
          clear hB a0 a1 af p0 p1 pf
          obtain ⟨ya, yc, yb, yd, hye, hys, hyi⟩ := hI3.out.stv
          simp only [Value.agg.injEq, Array.mk.injEq, List.cons.injEq, and_true] at hye
          obtain ⟨rfl, rfl⟩ := hye
          obtain ⟨⟨a0, a1, af⟩, p0, p1, pf⟩ := hI3.out.cells
          have hys' := Lib.hid hys
          clear hys hyi
          cases st2 with
          | nil =>
            have hB0 : Hid (layF l = .ok ts2) := by have h := hE2.out; rw [if_pos rfl] at h; exact h
            rw [List.length_nil] at a1
            have hpe := Lib.hid (place_end hI3.out.plc (.int .i64 0) (.int .i64 0))
            have hres := Lib.hid (hys'.out.keeps (place_keeps hI3.out.plc))
            go_wp2_with fail
            refine bodyPost_ret (results_lex rfl _ _ rfl rfl rfl hpe.out.1.cells.1) rfl ⟨?_, hI3.out.low.trans hpe.out.2.below⟩
            rw [hB0.out]
            exact ⟨_, rfl, hres.out⟩
          | cons c r =>
            have hB0 : Hid (layF l = .bad e.line e.col) := by have h := hE2.out; rw [if_neg (by simp)] at h; exact h
            have hpos : 0 < l.length := hN2.out (by have := hn2.out; rw [List.length_cons] at this; omega)
            obtain ⟨m, hm⟩ : ∃ m, l.length - 1 = m := ⟨_, rfl⟩
            have hml : m < l.length := by omega
            have hle : l[m] = e := by have h := hlast.out hpos; simp only [hm] at h; exact h
            have hw : IntKind.i64.wrap ((l.length : Int) - 1) = (m : Int) := by rw [show (l.length : Int) - 1 = (m : Int) by omega]; exact IntWalk.i64_in _ (by omega)
            obtain ⟨b, off, rfl, hcell⟩ := hrow'.out.at (by rintro rfl; simp at hpos)
            have hc0 := hcell m hml
            rw [hle] at hc0
            have hc0' := Lib.hid hc0
            have hmi : (m : Int) < (l.length : Int) := by omega
            rw [List.length_cons] at a1
            have hrp : (0 : Int) < (r.length : Int) + 1 := by omega
            clear hm hcell hc0 hle
            go_upto_region 20 with (fail)
            have hst : Hid (∀ Q, Q = V.drew → Q.cell? ⟨b, off + m * 5 + 3, none⟩ = some (.int .i64 e.line) ∧ Q.cell? ⟨b, off + m * 5 + 4, none⟩ = some (.int .i64 e.col) ∧ Q.cell? ⟨W.heap.size, 0, none⟩ = some (.int .i64 0) ∧ Q.cell? ⟨W.heap.size, 1, none⟩ = some (.int .i64 0) ∧ ∀ i, Q.frozen? ⟨W.heap.size, i, none⟩ = false) := by
              rintro Q rfl
              obtain ⟨_, p0, p1, pf⟩ := hI3.out.cells
              exact ⟨Keeps.of_below hI3.out.low _ _ hc0'.out.2.2.2.1, Keeps.of_below hI3.out.low _ _ hc0'.out.2.2.2.2, p0, p1, pf⟩
            clear a0 a1 af p0 p1 pf
            have hpe := Lib.hid (place_end (show Box2 V.drew 25 W.heap.size (.int .i64 0) (.int .i64 0) from hI3.out.plc) (.int .i64 e.line) (.int .i64 e.col))
            have hlw : Hid (Below W.heap.size W ((V.drew.setCell ⟨W.heap.size, 0, none⟩ (.int .i64 e.line)).setCell ⟨W.heap.size, 1, none⟩ (.int .i64 e.col))) := (hI3.out.low.trans (Below.refl _ _).drew).trans hpe.out.2.below
            refine wp_region_inv (fun f a Vr => ∃ x : Nat → Value, a = ⟨#[.slice (some ⟨b, off, none⟩) l.length cap, undef, x 15, .pointer (some ⟨W.heap.size, 0, none⟩), x 17, .pointer (some ⟨W.heap.size + 1, 0, none⟩), .bool fb, .int .i64 (l.length : Int), u8, u9, u10, .agg #[.slice none 0 0, .slice none 0 0], .int .i64 (l.length : Int), .slice (some ⟨b, off, none⟩) l.length cap, .int .i64 (l.length : Int), .bool false, u16, u17, u18, u19, u20, u21, u22, u23, u24, u25, u26, u27, u28, u29, u30, u31, u32, u33, u34, u35, u36, u37, u38, u39, u40, u41, u42, u43, u44, u45, u46, u47, u48, u49, u50, u51, u52, u53, u54, u55, u56, u57, u58, u59, u60, u61, u62, u63, u64, u65, u66, u67, u68, u69, u70, u71, u72, u73, u74, u75, u76, u77, u78, u79, u80, u81, u82, u83, u84, .agg #[.slice ya ts2.length yc, .slice yb (r.length + 1) yd], .int .i64 q, .bool (decide (0 < q)), u88, u89, u90, u91, u92, u93, u94, u95, u96, .pointer (some ⟨W.heap.size + 1, 1, none⟩), .slice yb (r.length + 1) yd, .int .i64 ((r.length : Int) + 1), .bool true, x 0, x 1, x 2, x 3, x 4, x 5, x 6, x 7, x 8, x 9, x 10, x 11, x 12, x 13, x 14, undef, undef, undef], []⟩ ∧ (f 16 = false → Vr = V.drew) ∧ (f 16 = true → Vr = (V.drew.setCell ⟨W.heap.size, 0, none⟩ (.int .i64 e.line)).setCell ⟨W.heap.size, 1, none⟩ (.int .i64 e.col)) ∧ VO [some (.slice (some ⟨b, off, none⟩) l.length cap), some (.slice (some ⟨b, off, none⟩) l.length cap), some (.int .i64 (l.length : Int)), some (.int .i64 (m : Int)), some (.pointer (some ⟨b, off + m * 5, none⟩)), some (.pointer (some ⟨b, off + m * 5 + 3, none⟩)), some (.int .i64 e.line), some (.slice (some ⟨b, off, none⟩) l.length cap), some (.slice (some ⟨b, off, none⟩) l.length cap), some (.int .i64 (l.length : Int)), some (.int .i64 (m : Int)), some (.pointer (some ⟨b, off + m * 5, none⟩)), some (.pointer (some ⟨b, off + m * 5 + 4, none⟩)), some (.int .i64 e.col), some (.agg #[.int .i64 e.line, .int .i64 e.col]), some (.slice none 0 0), none, some (.int .i64 30)] f x) (by kernel_rfl) (by kernel_rfl) (rs := [0, 1, 2, 3, 4, 5, 6, 7, 8, 9, 10, 11, 12, 13, 14, 15, 16, 17]) (by kernel_rfl) ?start ?steps ?last
            case start => exact ⟨fun i => ([undef, undef, undef, undef, undef, undef, undef, undef, undef, undef, undef, undef, undef, undef, undef, u2, undef, u4] : List Value).getD i undef, rfl, fun _ => rfl, by simp, VO.nil _ _⟩
            case steps =>
              refine (KeepsI.cons (ds := []) rfl (by kernel_rfl) ?s0 (KeepsI.cons (ds := []) rfl (by kernel_rfl) ?s1 (KeepsI.cons (ds := [1]) rfl (by kernel_rfl) ?s2 (KeepsI.cons (ds := [2]) rfl (by kernel_rfl) ?s3 (KeepsI.cons (ds := [0, 3]) rfl (by kernel_rfl) ?s4 (KeepsI.cons (ds := [4]) rfl (by kernel_rfl) ?s5 (KeepsI.cons (ds := [5]) rfl (by kernel_rfl) ?s6 (KeepsI.cons (ds := []) rfl (by kernel_rfl) ?s7 (KeepsI.cons (ds := []) rfl (by kernel_rfl) ?s8 (KeepsI.cons (ds := [8]) rfl (by kernel_rfl) ?s9 (KeepsI.cons (ds := [9]) rfl (by kernel_rfl) ?s10 (KeepsI.cons (ds := [7, 10]) rfl (by kernel_rfl) ?s11 (KeepsI.cons (ds := [11]) rfl (by kernel_rfl) ?s12 (KeepsI.cons (ds := [12]) rfl (by kernel_rfl) ?s13 (KeepsI.cons (ds := [6, 13]) rfl (by kernel_rfl) ?s14 (KeepsI.cons (ds := []) rfl (by kernel_rfl) ?s15 (KeepsI.cons (ds := [14]) rfl (by kernel_rfl) ?s16 (KeepsI.cons (ds := []) rfl (by kernel_rfl) ?s17 KeepsI.nil))))))))))))))))))
              all_goals (intro f a Vr hf hd hcl hI K' hK; obtain ⟨x, rfl, c0, c1, hx⟩ := hI)
              case s0 =>
                go_simp
                exact hK _ _ ⟨(upd x 0 (.slice (some ⟨b, off, none⟩) l.length cap)), rfl, c0, c1, (hx.set 0 rfl)⟩
              case s1 =>
                go_simp
                exact hK _ _ ⟨(upd x 1 (.slice (some ⟨b, off, none⟩) l.length cap)), rfl, c0, c1, (hx.set 1 rfl)⟩
              case s2 =>
                have e1 := hx.get 1 rfl (hd 1 (by simp))
                rw [e1]
                clear e1
                go_simp
                exact hK _ _ ⟨(upd (upd x 1 (.slice (some ⟨b, off, none⟩) l.length cap)) 2 (.int .i64 (l.length : Int))), rfl, c0, c1, ((hx.put 1 rfl).set 2 rfl)⟩
              case s3 =>
                have e2 := hx.get 2 rfl (hd 2 (by simp))
                rw [e2]
                clear e2
                go_simp
                exact hK _ _ ⟨(upd (upd x 2 (.int .i64 (l.length : Int))) 3 (.int .i64 (m : Int))), rfl, c0, c1, ((hx.put 2 rfl).set 3 rfl)⟩
              case s4 =>
                have e0 := hx.get 0 rfl (hd 0 (by simp))
                have e3 := hx.get 3 rfl (hd 3 (by simp))
                rw [e0, e3]
                clear e0 e3
                go_simp
                exact hK _ _ ⟨(upd (upd (upd x 0 (.slice (some ⟨b, off, none⟩) l.length cap)) 3 (.int .i64 (m : Int))) 4 (.pointer (some ⟨b, off + m * 5, none⟩))), rfl, c0, c1, (((hx.put 0 rfl).put 3 rfl).set 4 rfl)⟩
              case s5 =>
                have e4 := hx.get 4 rfl (hd 4 (by simp))
                rw [e4]
                clear e4
                go_simp
                exact hK _ _ ⟨(upd (upd x 4 (.pointer (some ⟨b, off + m * 5, none⟩))) 5 (.pointer (some ⟨b, off + m * 5 + 3, none⟩))), rfl, c0, c1, ((hx.put 4 rfl).set 5 rfl)⟩
              case s6 =>
                have e5 := hx.get 5 rfl (hd 5 (by simp))
                rw [e5]
                clear e5
                have n16 : f 16 = false := by cases h : f 16; rfl; exact absurd (hcl 14 6 (by kernel_rfl) (hcl 16 14 (by kernel_rfl) (h))) (by rw [hf]; simp)
                have hv := c0 n16
                obtain ⟨d3, d4, p0, p1, pf⟩ := hst.out Vr hv
                clear hv
                clear n16
                go_simp
                exact hK _ _ ⟨(upd (upd x 5 (.pointer (some ⟨b, off + m * 5 + 3, none⟩))) 6 (.int .i64 e.line)), rfl, c0, c1, ((hx.put 5 rfl).set 6 rfl)⟩
              case s7 =>
                go_simp
                exact hK _ _ ⟨(upd x 7 (.slice (some ⟨b, off, none⟩) l.length cap)), rfl, c0, c1, (hx.set 7 rfl)⟩
              case s8 =>
                go_simp
                exact hK _ _ ⟨(upd x 8 (.slice (some ⟨b, off, none⟩) l.length cap)), rfl, c0, c1, (hx.set 8 rfl)⟩
              case s9 =>
                have e8 := hx.get 8 rfl (hd 8 (by simp))
                rw [e8]
                clear e8
                go_simp
                exact hK _ _ ⟨(upd (upd x 8 (.slice (some ⟨b, off, none⟩) l.length cap)) 9 (.int .i64 (l.length : Int))), rfl, c0, c1, ((hx.put 8 rfl).set 9 rfl)⟩
              case s10 =>
                have e9 := hx.get 9 rfl (hd 9 (by simp))
                rw [e9]
                clear e9
                go_simp
                exact hK _ _ ⟨(upd (upd x 9 (.int .i64 (l.length : Int))) 10 (.int .i64 (m : Int))), rfl, c0, c1, ((hx.put 9 rfl).set 10 rfl)⟩
              case s11 =>
                have e7 := hx.get 7 rfl (hd 7 (by simp))
                have e10 := hx.get 10 rfl (hd 10 (by simp))
                rw [e7, e10]
                clear e7 e10
                go_simp
                exact hK _ _ ⟨(upd (upd (upd x 7 (.slice (some ⟨b, off, none⟩) l.length cap)) 10 (.int .i64 (m : Int))) 11 (.pointer (some ⟨b, off + m * 5, none⟩))), rfl, c0, c1, (((hx.put 7 rfl).put 10 rfl).set 11 rfl)⟩
              case s12 =>
                have e11 := hx.get 11 rfl (hd 11 (by simp))
                rw [e11]
                clear e11
                go_simp
                exact hK _ _ ⟨(upd (upd x 11 (.pointer (some ⟨b, off + m * 5, none⟩))) 12 (.pointer (some ⟨b, off + m * 5 + 4, none⟩))), rfl, c0, c1, ((hx.put 11 rfl).set 12 rfl)⟩
              case s13 =>
                have e12 := hx.get 12 rfl (hd 12 (by simp))
                rw [e12]
                clear e12
                have n16 : f 16 = false := by cases h : f 16; rfl; exact absurd (hcl 14 13 (by kernel_rfl) (hcl 16 14 (by kernel_rfl) (h))) (by rw [hf]; simp)
                have hv := c0 n16
                obtain ⟨d3, d4, p0, p1, pf⟩ := hst.out Vr hv
                clear hv
                clear n16
                go_simp
                exact hK _ _ ⟨(upd (upd x 12 (.pointer (some ⟨b, off + m * 5 + 4, none⟩))) 13 (.int .i64 e.col)), rfl, c0, c1, ((hx.put 12 rfl).set 13 rfl)⟩
              case s14 =>
                have e6 := hx.get 6 rfl (hd 6 (by simp))
                have e13 := hx.get 13 rfl (hd 13 (by simp))
                rw [e6, e13]
                clear e6 e13
                go_simp
                exact hK _ _ ⟨(upd (upd (upd x 6 (.int .i64 e.line)) 13 (.int .i64 e.col)) 14 (.agg #[.int .i64 e.line, .int .i64 e.col])), rfl, c0, c1, (((hx.put 6 rfl).put 13 rfl).set 14 rfl)⟩
              case s15 =>
                go_simp
                exact hK _ _ ⟨(upd x 15 (.slice none 0 0)), rfl, c0, c1, (hx.set 15 rfl)⟩
              case s16 =>
                have e14 := hx.get 14 rfl (hd 14 (by simp))
                rw [e14]
                clear e14
                have hv := Lib.hid (c0 hf)
                obtain ⟨d3, d4, p0, p1, pf⟩ := hst.out Vr hv.out
                clear c0
                go_simp
                exact hK _ _ ⟨(upd x 14 (.agg #[.int .i64 e.line, .int .i64 e.col])), rfl, fun h => (nomatch h), fun _ => by rw [hv.out], VO.done (hx.put 14 rfl) 16 rfl⟩
              case s17 =>
                go_simp
                exact hK _ _ ⟨(upd x 17 (.int .i64 30)), rfl, c0, c1, (hx.set 17 rfl)⟩
            case last =>
              rintro f a Vr hf ⟨x, rfl, c0, c1, hx⟩
              have eq := c1 (hf 16 (by simp))
              have e5 := hx.get 15 rfl (hf 15 (by simp))
              have e7 := hx.get 17 rfl (hf 17 (by simp))
              rw [e5, e7]
              clear c0 c1 hx e5 e7 hst
              subst eq
              go_wp2_with fail
              refine bodyPost_ret (results_lex rfl _ _ rfl rfl rfl hpe.out.1.cells.1) rfl ⟨?_, hlw.out⟩
              rw [hB0.out]
              exact rfl
end Go.Proofs.YtchdfjihflmloaaGreatDoor
