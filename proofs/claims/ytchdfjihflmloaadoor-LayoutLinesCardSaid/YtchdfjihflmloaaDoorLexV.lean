/- The reference's Lex, walked: its state. -/
import Derived.Test.YtchdfjihflmloaaDoorLexU
import Derived.Test.YtchdfjihflmloaaDoorLxB
import Derived.Shelf.Bytes.SlSmallAll
import Derived.Laws.IdiomStrings
import Derived.OwnWalk
import Derived.Deep.CutRange
namespace Go.Proofs.YtchdfjihflmloaaDoor
open Go.RowKit

theorem conv_row (w : World) (a : Option Addr) (l : Bs) (cap : Nat) (hr : ByteRow w a l) : (convert 22 9 (.slice a l.length cap)).run Tryd.prog w = .ok (.string (tS l)) w := by
  rcases hr with h | ⟨b, off, rfl, hc⟩
  · subst h
    exact run_convert_bytes_zero w 22 5 Tryd.underlying22 Tryd.underlying5 a cap _ Tryd.underlying9
  · refine run_convert_bytes_back w _ _ 5 _ cap l Tryd.underlying22 Tryd.underlying5 Tryd.underlying9 fun j hj => ?_
    rw [addr_plus]
    exact hc j hj

theorem ownBlock_ge {w : World} {base : Nat} {e : TypeId} {size : Nat} {v : Value} {n : Nat} {xs : List Value} (h : w.ownsRow base e size v n xs) {g : Nat} (hg : v.ownBlock = some g) : base ≤ g ∧ g < w.heap.size := by
  obtain ⟨_, ⟨rfl, _⟩ | ⟨g', cap, cur, rfl, h1, h2, _⟩⟩ := h
  · simp [Value.ownBlock] at hg
  · simp [Value.ownBlock] at hg
    subst hg
    exact ⟨h1, (Array.getElem?_eq_some_iff.1 h2).1⟩
theorem ownsRow_heap {w w' : World} {base : Nat} {e : TypeId} {size : Nat} {v : Value} {n : Nat} {xs : List Value} (h : w.ownsRow base e size v n xs) (hk : ∀ g, v.ownBlock = some g → w'.heap[g]? = w.heap[g]?) : w'.ownsRow base e size v n xs := by
  obtain ⟨h0, h | ⟨g, cap, cur, rfl, h1, h2, h3⟩⟩ := h
  · exact ⟨h0, .inl h⟩
  · exact ⟨h0, .inr ⟨g, cap, cur, rfl, h1, by rw [hk g rfl]; exact h2, h3⟩⟩

/-- The state of the reference's loop: the result's place, the place it stands at, the tokens so far. -/
structure LxI (w : World) (B : Nat) (W : World) (v : Value) (ts : List Tk) (line col : Int) : Prop where
  low : Below B w W
  zero : Box2 W 26 B (.int .i64 0) (.int .i64 0)
  box : Box2 W 26 (B + 1) (.int .i64 line) (.int .i64 col)
  row : W.ownsRow (B + 2) 33 5 v ts.length (tkCs ts)
theorem LxI.lt {w W : World} {B : Nat} {v : Value} {ts : List Tk} {line col : Int} (h : LxI w B W v ts line col) : B + 1 < W.heap.size := blk_lt h.box
theorem LxI.below {w W W' : World} {B : Nat} {v : Value} {ts : List Tk} {line col : Int} (h : LxI w B W v ts line col) (hb : Below W.heap.size W W') : LxI w B W' v ts line col :=
  ⟨h.low.trans (hb.mono (by have := h.lt; omega)), h.zero.below hb, h.box.below hb, ownsRow_heap h.row fun g hg => hb.block g (ownBlock_ge h.row hg).2⟩
theorem LxI.one {w W W' : World} {B : Nat} {v : Value} {ts : List Tk} {line col line' col' : Int} (h : LxI w B W v ts line col) (hb : OneSet (B + 1) W W') (hx : Box2 W' 26 (B + 1) (.int .i64 line') (.int .i64 col')) : LxI w B W' v ts line' col' :=
  ⟨h.low.trans (hb.below.mono (Nat.le_succ B)), (hb.other B (by omega)).trans h.zero, hx, ownsRow_heap h.row fun g hg => hb.other g (by have := (ownBlock_ge h.row hg).1; omega)⟩
theorem LxI.both {w W : World} {B : Nat} {v : Value} {ts : List Tk} {line col : Int} (h : LxI w B W v ts line col) (line' col' : Int) : LxI w B (World.set2 W (B + 1) (.int .i64 line') (.int .i64 col')) v ts line' col' :=
  h.one (h.box.set _ _).2 (h.box.set _ _).1
theorem LxI.move {w W : World} {B : Nat} {v : Value} {ts : List Tk} {line col : Int} (h : LxI w B W v ts line col) (col' : Int) : LxI w B (W.setCell ⟨B + 1, 1, none⟩ (.int .i64 col')) v ts line col' := by
  refine h.one (OneSet.cell _ _ _ _) ?_
  have hb := h.box
  unfold Box2 at hb ⊢
  simp [World.setCell, Array.getElem?_modify, hb]
theorem LxI.grow {w W W' : World} {B : Nat} {v v' : Value} {ts : List Tk} {line col : Int} {t : Tk} (h : LxI w B W v ts line col) (hg : W.grownBy W' v.ownBlock) (hr : W'.ownsRow (B + 2) 33 5 v' (ts.length + 1) (tkCs ts ++ tkC t)) : LxI w B W' v' (ts ++ [t]) line col := by
  have hb : ∀ g, g < W.heap.size → g < B + 2 → W'.heap[g]? = W.heap[g]? := fun g h1 h2 => hg.block g h1 (fun e => by have := (ownBlock_ge h.row e.symm).1; omega)
  refine ⟨h.low.grown hg (by have := h.lt; omega) (fun q e => by have := (ownBlock_ge h.row e).1; omega), (hb B (by have := h.lt; omega) (by omega)).trans h.zero, (hb (B + 1) h.lt (by omega)).trans h.box, ?_⟩
  rw [List.length_append, tkCs_append]
  have : tkCs [t] = tkC t := by simp [tkCs]
  rw [this]
  exact hr

theorem LxI.fin {w W : World} {B : Nat} {v : Value} {ts : List Tk} {line col : Int} (h : LxI w B W v ts line col) (x y : Int) : Box2 (World.set2 W B (.int .i64 x) (.int .i64 y)).drew 26 B (.int .i64 x) (.int .i64 y) ∧ Below B w (World.set2 W B (.int .i64 x) (.int .i64 y)).drew ∧ TkSl (World.set2 W B (.int .i64 x) (.int .i64 y)) v ts ∧ Box2 (World.set2 W B (.int .i64 x) (.int .i64 y)) 26 B (.int .i64 x) (.int .i64 y) ∧ Below B w (World.set2 W B (.int .i64 x) (.int .i64 y)) := by
  have hs := h.zero.set (.int .i64 x) (.int .i64 y)
  exact ⟨hs.1.below (Below.refl _ _).drew, (h.low.trans hs.2.below).drew, TkSl.own (ownsRow_heap h.row fun g hg => hs.2.other g (by have := (ownBlock_ge h.row hg).1; omega)), hs.1, h.low.trans hs.2.below⟩
theorem LxI.other {w W W' : World} {B b : Nat} {v : Value} {ts : List Tk} {line col : Int} (h : LxI w B W v ts line col) (hb : OneSet b W W') (h1 : B + 1 < b) (h2 : ∀ q, v.ownBlock = some q → q ≠ b) : LxI w B W' v ts line col :=
  ⟨h.low.trans (hb.below.mono (by omega)), (hb.other B (by omega)).trans h.zero, (hb.other _ (by omega)).trans h.box, ownsRow_heap h.row fun g hg => hb.other g (h2 g hg)⟩
theorem Box5.lc {w : World} {t : TypeId} {b : Nat} {x0 x1 x2 x3 x4 : Value} (h : Box5 w t b x0 x1 x2 x3 x4) (y z : Value) : Box5 ((w.setCell ⟨b, 3, none⟩ y).setCell ⟨b, 4, none⟩ z) t b x0 x1 x2 y z ∧ OneSet b w ((w.setCell ⟨b, 3, none⟩ y).setCell ⟨b, 4, none⟩ z) := by
  unfold Box5 at h
  refine ⟨by unfold Box5; simp [World.setCell, Array.getElem?_modify, h], (OneSet.cell _ _ _ _).trans (OneSet.cell _ _ _ _)⟩
theorem info_of {P : Program} {t : TypeId} {z : Value} {m k : Nat} (h : (P.info? t).map (fun i => (i.zero, i.size, i.bytes)) = some (some z, m, k)) : ∃ i, P.info? t = some i ∧ i.zero = some z ∧ i.size = m ∧ i.bytes = k := by
  cases hi : P.info? t with
  | none => rw [hi] at h; cases h
  | some i =>
    rw [hi] at h
    simp only [Option.map_some, Option.some.injEq, Prod.mk.injEq] at h
    exact ⟨i, rfl, h.1, h.2.1, h.2.2⟩
/-- What Lex answers. -/
def LexR (r : Res) (e : Ending) (W : World) : Prop :=
  match r with
  | .ok l => ∃ v, e = .returned (.tuple #[v, .agg #[.int .i64 0, .int .i64 0], .int .i64 0]) ∧ TkSl W v l
  | .bad a b => e = .returned (.tuple #[.slice none 0 0, .agg #[.int .i64 a, .int .i64 b], .int .i64 20])
/-- The tokens of a text. -/
def lexA (l : Bs) : Res := lexF 1 1 0 l
theorem drop_at (s : Str) (k : Nat) (h : k < s.size) : (bS s).drop k = s[k] :: (bS s).drop (k + 1) := List.drop_eq_getElem_cons h
theorem ext_drop (s : Str) (k : Nat) : s.extract k s.size = tS ((bS s).drop k) := by
  rw [← tS_bS (s.extract k s.size)]
  unfold bS
  rw [ByteArray.data_extract]
  congr 1
  rw [Array.toList_extract, List.extract_eq_take_drop]
  exact List.take_of_length_le (by rw [List.length_drop]; exact Nat.le_refl _)
theorem dropWhile_step (s : Str) (k : Nat) (h : k < s.size) (hb : s[k] ≠ 10) : ((bS s).drop k).dropWhile (· != 10) = ((bS s).drop (k + 1)).dropWhile (· != 10) := by
  rw [drop_at s k h, List.dropWhile_cons, if_pos (by rw [bne_iff_ne]; exact hb)]
theorem dropWhile_end (s : Str) (k : Nat) (h : k = s.size ∨ ∃ h : k < s.size, s[k] = 10) : ((bS s).drop k).dropWhile (· != 10) = (bS s).drop k ∧ ((bS s).drop k = [] ∨ ((bS s).drop k).head? = some 10) := by
  rcases h with h | ⟨h, h2⟩
  · have : (bS s).drop k = [] := List.drop_eq_nil_of_le (by rw [bS_len]; omega)
    rw [this]; exact ⟨rfl, .inl rfl⟩
  · rw [drop_at s k h, h2, List.dropWhile_cons, if_neg (by decide)]
    exact ⟨rfl, .inr rfl⟩
theorem results_lex {fn : Func} {t u v : Tmp} (h : fn.results = #[.tmp u, .cell t 26, .tmp v]) (tmps : Array Value) (w : World) {b : Nat} {x0 x1 y z : Value} (ha : tmps.getD t undef = .pointer (some ⟨b, 0, none⟩)) (hu : tmps.getD u undef = y) (hv : tmps.getD v undef = z)
    (hc : w.cell? ⟨b, 0, none⟩ = some x0 ∧ w.cell? ⟨b, 1, none⟩ = some x1) : (results fn tmps).run Tryd.prog w = .ok (.tuple #[y, .agg #[x0, x1], z]) w := by
  obtain ⟨h0, h1⟩ := hc
  have e2 := Tryd.isAgg26
  have e3 := Tryd.sizeOf26
  have ha' : tmps[t]?.getD undef = .pointer (some ⟨b, 0, none⟩) := by simpa using ha
  have hu' : tmps[u]?.getD undef = y := by simpa using hu
  have hv' : tmps[v]?.getD undef = z := by simpa using hv
  simp [results, h, ha', hu', hv', asAddr, loadVar, e2, loadCells, loadCellsFrom, Result.andThen, h0, h1, Addr.add, load, Sem.run]
theorem TokR_no {o : Option (Int × Bs × Nat)} {k n : Int} {s : Str} (h : TokR o (.returned (.tuple #[.agg #[.int .i64 k, .string s, .int .i64 n, .int .i64 0, .int .i64 0], .bool false]))) : o = none := by
  rcases o with _ | ⟨k', t, n'⟩
  · rfl
  · simp [TokR] at h
theorem TokR_yes {o : Option (Int × Bs × Nat)} {k n : Int} {s : Str} (h : TokR o (.returned (.tuple #[.agg #[.int .i64 k, .string s, .int .i64 n, .int .i64 0, .int .i64 0], .bool true]))) : ∃ (k' : Int) (t : Bs) (n' : Nat), o = some (k', t, n') ∧ k = k' ∧ s = tS t ∧ n = n' := by
  rcases o with _ | ⟨k', t, n'⟩
  · simp [TokR] at h
  · simp [TokR] at h
    exact ⟨k', t, n', rfl, h.1, h.2.1, h.2.2⟩
theorem lexF_brk {l : Bs} (h : l = [] ∨ l.head? = some 10) (line c1 c2 : Int) (cnt : Nat) : lexF line c1 cnt l = lexF line c2 cnt l := by
  rcases h with rfl | h
  · rw [lexF_nil, lexF_nil]
  · cases l with
    | nil => cases h
    | cons b r =>
      simp only [List.head?_cons, Option.some.injEq] at h
      subst h
      rw [lexF_nl, lexF_nl]

set_option maxHeartbeats 4000000 in
set_option maxRecDepth 100000 in
theorem r02_Lex (a : Option Addr) (l : Bs) (cap : Nat) (w : World) (hl : l.length ≤ 1000000) (hr : ByteRow w a l) :
    Calls Tryd.prog 16 #[.slice a l.length cap] w fun r w' => LexR (lexA l) r w' ∧ Below w.heap.size w w' := by
  obtain ⟨R, hR⟩ : ∃ R, lexA l = R := ⟨_, rfl⟩
  rw [hR]
  obtain ⟨W1, hW1⟩ : ∃ W, w.alloc (.cells #[.int .i64 0, .int .i64 0] 26) = W := ⟨_, rfl⟩
  have hb1 : Below w.heap.size w W1 := by rw [← hW1]; exact (Below.refl _ w).alloc (Nat.le_refl _) _
  have hx1 : Box2 W1 26 w.heap.size (.int .i64 0) (.int .i64 0) := by rw [← hW1]; exact blk_new (Below.refl _ _)
  have hz1 : W1.heap.size = w.heap.size + 1 := by rw [← hW1]; simp
  obtain ⟨W3, hW3⟩ : ∃ W, W1.alloc (.cells #[.int .i64 1, .int .i64 1] 26) = W := ⟨_, rfl⟩
  have hI : LxI w w.heap.size W3 (.slice none 0 0) [] 1 1 := by
    have hb3 : Below W1.heap.size W1 W3 := by rw [← hW3]; exact (Below.refl _ W1).alloc (Nat.le_refl _) _
    have hx3 : Box2 W3 26 W1.heap.size (.int .i64 1) (.int .i64 1) := by rw [← hW3]; exact blk_new (Below.refl _ _)
    exact ⟨hb1.trans (hb3.mono (by omega)), hx1.below hb3, by rw [hz1] at hx3; exact hx3, rfl, .inl ⟨rfl, rfl⟩⟩
  have hI' := Lib.hid hI
  have hcv := conv_row W1 a l cap (by rcases hr with h | ⟨b, off, rfl, h⟩; exact .inl h; exact .inr ⟨b, off, rfl, fun i hi => Keeps.of_below hb1 _ _ (h i hi)⟩)
  have hW1' := Lib.hid hW1
  have hW3' := Lib.hid hW3
  have hz1' := Lib.hid hz1
  obtain ⟨s, hs⟩ : ∃ s, tS l = s := ⟨_, rfl⟩
  rw [hs] at hcv
  have hsl : bS s = l := by rw [← hs]; rfl
  have hss : l.length = s.size := by rw [← hs]; rfl
  have hR2 : lexF 1 1 0 (bS s) = R := by rw [hsl]; exact hR
  have hsl' := Lib.hid hsl
  have hR' := Lib.hid hR2
  have hss' := Lib.hid hss
  have hl' : s.size ≤ 1000000 := by rw [← hss]; exact hl
  clear hb1 hx1 hI hW1 hW3 hz1 hs hsl hR hR2 hl hr hss
  go_enter Tryd.func16, Tryd.ntmps16
  go_upto_region 1 with (fail)
  rw [hW1'.out]
  go_upto_region 5 with (fail)
  rw [hW3'.out, hz1'.out]
  go_loopw [6, 7] (fun v i W => ∃ (k : Nat) (ts : List Tk) (line col : Int) (fa : Option Addr) (fc : Nat), k ≤ s.size ∧ i = .int .i64 k ∧ v = .slice fa ts.length fc ∧ Hid (LxI w w.heap.size W v ts line col) ∧ Hid (Res.pre ts (lexF line col ts.length ((bS s).drop k)) = R) ∧ Hid (ts.length ≤ 2000) ∧ Hid (1 ≤ line ∧ line ≤ k + 1 ∧ 1 ≤ col ∧ col ≤ k + 1)) (fun _ i _ => s.size - (intOf i).toNat)
  case atStart => exact ⟨0, [], 1, 1, none, 0, by omega, rfl, rfl, hI'.out, (by unfold Hid; have := hR'.out; rw [List.drop_zero]; rw [← this]; cases lexF 1 1 0 (bS s) <;> rfl), by unfold Hid; simp, by unfold Hid; omega⟩
  case round =>
    obtain ⟨k, ts, line, col, fa, fc, hk, rfl, rfl, hJ, hres, hts, hbd⟩ := hrel
    obtain ⟨Wr, rfl⟩ : ∃ W, W = wr := ⟨_, rfl⟩
    by_cases hlt : k < s.size
    · have hki : (k : Int) < (s.size : Int) := by omega
      by_cases h10 : s[k] = 10
      · have h10' : (s[k].toNat : Int) = 10 := by rw [h10]; rfl
        obtain ⟨⟨q0, q1⟩, qf⟩ := hJ.out.box.cells
        have hdr : Hid ((bS s).drop k = 10 :: (bS s).drop (k + 1)) := by
          unfold Hid
          rw [drop_at s k hlt, h10]
        have hw1 : IntKind.i64.wrap (line + 1) = line + 1 := IntWalk.i64_in _ (by have := hbd.out; omega)
        clear h10
        go_wp2_with fail
        go_roundw
        case rel => exact ⟨k + 1, ts, line + 1, 1, fa, fc, by omega, by go_num, rfl, hJ.out.both (line + 1) 1, (by
          have := hres.out
          rw [hdr.out, lexF_nl] at this
          exact this), hts, by have := hbd.out; unfold Hid; omega⟩
        case measure => simp [intOf]; omega
      · by_cases h32 : s[k] = 32
        · have h32' : (s[k].toNat : Int) = 32 := by rw [h32]; rfl
          obtain ⟨⟨q0, q1⟩, qf⟩ := hJ.out.box.cells
          have hdr : Hid ((bS s).drop k = 32 :: (bS s).drop (k + 1)) := by
            unfold Hid
            rw [drop_at s k hlt, h32]
          have hw1 : IntKind.i64.wrap (col + 1) = col + 1 := IntWalk.i64_in _ (by have := hbd.out; omega)
          clear h10 h32
          go_wp2_with fail
          go_roundw
          case rel => exact ⟨k + 1, ts, line, col + 1, fa, fc, by omega, by go_num, rfl, hJ.out.move (col + 1), (by
            have := hres.out
            rw [hdr.out, lexF_sp] at this
            exact this), hts, by have := hbd.out; unfold Hid; omega⟩
          case measure => simp [intOf]; omega
        · have h10' : ¬ (s[k].toNat : Int) = 10 := fun e => h10 (by apply UInt8.toNat.inj; show s[k].toNat = 10; omega)
          have h32' : ¬ (s[k].toNat : Int) = 32 := fun e => h32 (by apply UInt8.toNat.inj; show s[k].toNat = 32; omega)
          have hdr : Hid ((bS s).drop k = s[k] :: (bS s).drop (k + 1)) := by
            unfold Hid
            rw [drop_at s k hlt]
          have h10b := Lib.hid h10
          have h32b := Lib.hid h32
          clear h10 h32
          cases hcm : comB ((bS s).drop k)
          · have hta : Hid (tokAt ((bS s).drop k)) := by
              unfold Hid
              refine ⟨by rw [hdr.out]; simp, by rw [hdr.out]; simpa using h10b.out, by rw [hdr.out]; simpa using h32b.out, hcm⟩
            have hcmn : Hid (¬ (s[k] = 45 ∧ ((bS s).drop (k + 1)).head? = some 45)) := fun h => by
              have := (comB_cons s[k] ((bS s).drop (k + 1))).2 h
              rw [← hdr.out, hcm] at this; cases this
            clear hcm
            go_upto_region 12 with (fail)
            go_cut [55] from 14 to 108 (fun x U => x = .bool false ∧ Wr = U)
            case first =>
              by_cases hk1 : k + 1 < s.size
              · have hk1i : (k : Int) + 1 < (s.size : Int) := by omega
                by_cases h45 : s[k] = 45
                · have h45b : ((s[k + 1].toNat : Int) == 45) = false := beq_eq_false_iff_ne.2 fun e => hcmn.out ⟨h45, by
                    rw [drop_at s (k + 1) hk1, List.head?_cons]
                    congr 1
                    apply UInt8.toNat.inj; show s[k + 1].toNat = 45; omega⟩
                  have h45' : (s[k].toNat : Int) = 45 := by rw [h45]; rfl
                  clear h45
                  go_wp2_with fail
                  go_meet
                  case rel => exact ⟨rfl, rfl⟩
                · have h45' : ((s[k].toNat : Int) == 45) = false := beq_eq_false_iff_ne.2 fun e => h45 (by apply UInt8.toNat.inj; show s[k].toNat = 45; omega)
                  clear h45
                  go_wp2_with fail
                  go_meet
                  case rel => exact ⟨rfl, rfl⟩
              · have hk1i : ¬ (k : Int) + 1 < (s.size : Int) := by omega
                go_wp2_with fail
                go_meet
                case rel => exact ⟨rfl, rfl⟩
            case rest =>
              obtain ⟨rfl, rfl⟩ := hcut
              have htk := r02_token (s.extract k s.size) Wr (by rw [ext_drop, tS_size, List.length_drop, bS_len]; omega) (by rw [ext_drop, tS_size, List.length_drop, bS_len]; unfold lenMax; omega)
              rw [ext_drop, bS_tS, ← ext_drop] at htk
              have htk' := Lib.hid htk
              clear htk
              go_upto_region 17 with ((with_reducible refine htk'.out.mono ?_); rintro e V ⟨hR, hB⟩; obtain ⟨vk, vs, vn, vb, rfl, hR⟩ := TokR_form hR; have hJV := Lib.hid (hJ.out.below (hB.mono (by have := hJ.out.low.size; omega))); have hR' := Lib.hid hR; clear hR hB)
              obtain ⟨V5, hV5⟩ : ∃ W, V.alloc (.cells #[.int .i64 vk, .string vs, .int .i64 vn, .int .i64 0, .int .i64 0] 33) = W := ⟨_, rfl⟩
              rw [hV5]
              have hb5 : Below V.heap.size V V5 := by rw [← hV5]; exact (Below.refl _ V).alloc (Nat.le_refl _) _
              have hx5 : Box5 V5 33 V.heap.size (.int .i64 vk) (.string vs) (.int .i64 vn) (.int .i64 0) (.int .i64 0) := by rw [← hV5]; exact blk_new (Below.refl _ _)
              have hz5 : V5.heap.size = V.heap.size + 1 := by rw [← hV5]; simp
              have hJ5 := Lib.hid (hJV.out.below hb5)
              have hrow5 := Lib.hid (ownsRow_heap hJV.out.row fun g hg => hb5.block g (ownBlock_ge hJV.out.row hg).2)
              clear hV5 hb5
              have hx5' := Lib.hid hx5
              have hz5' := Lib.hid hz5
              clear hx5 hz5
              obtain ⟨⟨q0, q1⟩, qf⟩ := hJ5.out.box.cells
              cases vb
              · have hbad : Hid (R = .bad line col) := by
                  unfold Hid
                  rw [← hres.out, lexF_tok _ _ _ hta.out, TokR_no hR'.out]; rfl
                obtain ⟨⟨p0, p1⟩, pf⟩ := hJ5.out.zero.cells
                go_wp2_with fail
                have hfin := Lib.hid (hJ5.out.fin line col)
                go_region
                go_wp2_with fail
                refine bodyPost_ret (results_lex rfl _ _ rfl rfl rfl hfin.out.1.cells.1) rfl ⟨?_, hfin.out.2.1⟩
                rw [hbad.out]
                rfl
              · obtain ⟨tk, tt, tn, hto, rfl, hvs, rfl⟩ := TokR_yes hR'.out
                by_cases h2 : ts.length = 2000
                · have hbad : Hid (R = .bad line col) := by
                    unfold Hid
                    rw [← hres.out, lexF_tok _ _ _ hta.out, hto]; simp only; rw [if_pos (by omega)]; rfl
                  obtain ⟨⟨p0, p1⟩, pf⟩ := hJ5.out.zero.cells
                  have h2i : (ts.length : Int) = 2000 := by omega
                  have hfin := Lib.hid (hJ5.out.fin line col)
                  go_wp2_with fail
                  go_region
                  go_wp2_with fail
                  refine bodyPost_ret (results_lex rfl _ _ rfl rfl rfl hfin.out.1.cells.1) rfl ⟨?_, hfin.out.2.1⟩
                  rw [hbad.out]
                  rfl
                · have h2i : ((ts.length : Int) == 2000) = false := beq_eq_false_iff_ne.2 (by omega)
                  have hpf := tokF_prefix hto
                  have hne := List.length_pos_iff.2 (tokF_ne hto)
                  have hle : tt.length + k ≤ s.size := by have := hpf.length_le; rw [List.length_drop, bS_len] at this; omega
                  have hres2 : Hid (Res.pre (ts ++ [(⟨vk, tt, tn, line, col⟩ : Tk)]) (lexF line (col + tt.length) (ts ++ [(⟨vk, tt, tn, line, col⟩ : Tk)]).length ((bS s).drop (k + tt.length))) = R) := by
                    unfold Hid
                    rw [← hres.out, lexF_tok _ _ _ hta.out, hto]
                    simp only
                    rw [if_neg (by have := hts.out; omega), pre_pre, List.drop_drop, List.length_append]
                    rfl
                  have hto' := Lib.hid hto
                  have hne' := Lib.hid hne
                  have h2' : Hid (ts.length + 1 ≤ 2000) := by unfold Hid; have := hts.out; omega
                  obtain ⟨⟨p0, p1, p2, p3, p4⟩, pf⟩ := hx5'.out.cells
                  have hne5 : ¬ V.heap.size = w.heap.size + 1 := by have := hJV.out.lt; omega
                  clear hto hpf hne h2
                  have hvl : vs.size = tt.length := by rw [hvs]; rfl
                  have htc : Hid (tkC ⟨vk, tt, tn, line, col⟩ = [.int .i64 vk, .string vs, .int .i64 tn, .int .i64 line, .int .i64 col]) := by unfold Hid; rw [hvs]; rfl
                  clear hvs
                  go_upto_region 21 with (fail)
                  obtain ⟨V6, hV6⟩ : ∃ W, (V5.setCell ⟨V.heap.size, 3, none⟩ (.int .i64 line)).setCell ⟨V.heap.size, 4, none⟩ (.int .i64 col) = W := ⟨_, rfl⟩
                  have hx6 := hx5'.out.lc (.int .i64 line) (.int .i64 col)
                  rw [hV6] at hx6
                  rw [hV6]
                  have hJ6 : LxI w w.heap.size V6 (.slice fa ts.length fc) ts line col := hJ5.out.other hx6.2 (by have := hJV.out.lt; omega) fun q hq => by have := (ownBlock_ge hJV.out.row hq).2; omega
                  obtain ⟨V7, hV7⟩ : ∃ W, V6.alloc (.cells #[.int .i64 vk, .string vs, .int .i64 tn, .int .i64 line, .int .i64 col] 33) = W := ⟨_, rfl⟩
                  have hb7 : Below V6.heap.size V6 V7 := by rw [← hV7]; exact (Below.refl _ _).alloc (Nat.le_refl _) _
                  have hJ7 := Lib.hid (hJ6.below hb7)
                  have hx7 := Lib.hid (hx6.1.below hb7)
                  have hnews : ∀ j v, ([.int .i64 vk, .string vs, .int .i64 tn, .int .i64 line, .int .i64 col] : List Value)[j]? = some v → V7.cell? ((⟨V6.heap.size, 0, none⟩ : Addr).add j) = some v := by
                    have := cell_five_new (w := V6) rfl ⟨vk, tt, tn, line, col⟩ 33
                    rw [htc.out, hV7] at this
                    exact this
                  have hnews' := Lib.hid hnews
                  have hone1 : ∀ u ∈ ([.int .i64 vk, .string vs, .int .i64 tn, .int .i64 line, .int .i64 col] : List Value), u.oneCell' = true := by simp [Value.oneCell']
                  have hk63 : ts.length + 1 ≤ maxLen := by have := h2'.out; unfold maxLen; omega
                  have hk48 : (ts.length + 1) * 48 ≤ 140737488355328 := by have := h2'.out; omega
                  have hbs7 : w.heap.size + 2 ≤ V7.heap.size := by have := hJ7.out.lt; omega
                  have hw1 : IntKind.i64.wrap (col + (tt.length : Int)) = col + (tt.length : Int) := IntWalk.i64_in _ (by have := hbd.out; omega)
                  have hw2 : IntKind.i64.wrap ((k : Int) + (tt.length : Int)) = (k : Int) + (tt.length : Int) := IntWalk.i64_in _ (by omega)
                  have hw3 : wrap64 (col + (tt.length : Int)) = col + (tt.length : Int) := (IntWalk.i64_left _).symm.trans hw1
                  have hw4 : wrap64 ((k : Int) + (tt.length : Int)) = (k : Int) + (tt.length : Int) := (IntWalk.i64_left _).symm.trans hw2
                  have hV7' := Lib.hid hV7
                  have hVo : Hid (∀ q, (Value.slice fa ts.length fc).ownBlock = some q → q ≠ V.heap.size) := fun q hq => by have := (ownBlock_ge hJV.out.row hq).2; omega
                  obtain ⟨i0, hi, hz0, hz1', hz2'⟩ := info_of Tryd.infoTk
                  obtain ⟨⟨r0, r1, r2, r3, r4⟩, rf⟩ := hx6.1.cells
                  clear p0 p1 p2 p3 p4 pf q0 q1 qf hV6 hx6 hJ6 hb7 hnews hV7
                  go_wp2_with (at_builtin; go_must (rw [hV7'.out]; refine wpList_append_own_at _ rfl _ _ 24 rfl (w.heap.size + 2) 33 i0 (.agg #[.int .i64 0, .string ⟨#[]⟩, .int .i64 0, .int .i64 0, .int .i64 0]) 5 48 Tryd.underlying24 hi hz0 hz1' hz2' rfl (by decide) _ _ _ rfl hJ7.out.row ⟨V6.heap.size, 0, none⟩ 1 1 [.int .i64 vk, .string vs, .int .i64 tn, .int .i64 line, .int .i64 col] rfl rfl hnews'.out hone1 hk63 hk48 hbs7 ?_); intro v2 w3 hown2 hg2 _ _; have hJ8 := hJ7.out.grow (t := ⟨vk, tt, tn, line, col⟩) hg2 (by rw [htc.out]; exact hown2); have hx8 : Box5 w3 33 V.heap.size (.int .i64 vk) (.string vs) (.int .i64 tn) (.int .i64 line) (.int .i64 col) := (hg2.block _ (blk_lt hx7.out) (fun e => hVo.out _ e.symm rfl)).trans hx7.out; have c1 := hx8.cells.1.2.1; obtain ⟨⟨q0, q1⟩, qf⟩ := hJ8.box.cells; have hJ8' := Lib.hid hJ8; clear hJ8 hg2 hown2 hx8 r0 r1 r2 r3 r4 rf)
                  obtain ⟨fa2, fc2, he2, _⟩ := tk_own_form hJ8'.out.row
                  subst he2
                  clear hk48 hk63 hbs7 hw1 hw2 hw3 hw4
                  go_roundw
                  case rel => exact ⟨k + tt.length, ts ++ [(⟨vk, tt, tn, line, col⟩ : Tk)], line, col + tt.length, fa2, fc2, by omega, by rw [Int.natCast_add], rfl, hJ8'.out.move _, hres2, by unfold Hid; rw [List.length_append]; exact h2'.out, by have := hbd.out; unfold Hid; omega⟩
                  case measure => have := hne'.out; simp [intOf]; omega
          · have hcm2 := (comB_cons s[k] ((bS s).drop (k + 1))).1 (by rw [← hdr.out]; exact hcm)
            have hk1 : k + 1 < s.size := by
              rcases Nat.lt_or_ge (k + 1) s.size with h | h
              · exact h
              · have := hcm2.2
                rw [List.drop_eq_nil_of_le (by rw [bS_len]; omega)] at this
                cases this
            have hk1i : (k : Int) + 1 < (s.size : Int) := by omega
            have h45 : (s[k].toNat : Int) = 45 := by rw [hcm2.1]; rfl
            have h45b : (s[k + 1].toNat : Int) = 45 := by
              have := hcm2.2
              rw [drop_at s (k + 1) hk1, List.head?_cons, Option.some.injEq] at this
              rw [this]; rfl
            have hcm' := Lib.hid hcm
            clear hcm2 hcm h10' h32'
            have h10' : ¬ (45 : Int) = 10 := by decide
            go_wp2_with fail
            go_loopw [7] (fun i W => ∃ (j : Nat) (col' : Int), j ≤ s.size ∧ i = .int .i64 j ∧ Hid (LxI w w.heap.size W (.slice fa ts.length fc) ts line col') ∧ Hid (k ≤ j) ∧ Hid (((bS s).drop k).dropWhile (· != 10) = ((bS s).drop j).dropWhile (· != 10)) ∧ Hid (1 ≤ col' ∧ col' ≤ j + 1)) (fun i _ => s.size - (intOf i).toNat)
            case atStart => exact ⟨k, col, hk, rfl, hJ, Nat.le_refl k, rfl, by have := hbd.out; unfold Hid; omega⟩
            case round =>
              obtain ⟨j, col', hj, rfl, hJ2, hkj, hdw, hbd2⟩ := hrel
              obtain ⟨Wq, rfl⟩ : ∃ W, W = wr := ⟨_, rfl⟩
              by_cases hlt2 : j < s.size
              · have hji : (j : Int) < (s.size : Int) := by omega
                by_cases hn : s[j] = 10
                · have hn' : (s[j].toNat : Int) = 10 := by rw [hn]; rfl
                  have hend : Hid (j = s.size ∨ ∃ h : j < s.size, s[j] = 10) := Or.inr ⟨hlt2, hn⟩
                  have hjk : Hid (k < j) := by
                    unfold Hid
                    rcases Nat.lt_or_ge k j with h | h
                    · exact h
                    · have e : k = j := by have := hkj.out; omega
                      subst e
                      exact absurd hn h10b.out
                  clear hn
                  go_wp2_with fail
                  have hde := dropWhile_end s j hend.out
                  refine ⟨⟨j, ts, line, col', fa, fc, hj, rfl, rfl, hJ2, ?_, hts, ?_⟩, by have := hjk.out; simp [intOf]; omega⟩
                  · unfold Hid
                    rw [← hres.out, lexF_com line col ts.length hcm'.out, hdw.out, hde.1, lexF_brk hde.2 line col' col]
                  · have := hbd.out; have := hbd2.out; have := hjk.out; unfold Hid; omega
                · have hn' : ¬ (s[j].toNat : Int) = 10 := fun e => hn (by apply UInt8.toNat.inj; show s[j].toNat = 10; omega)
                  have hst := Lib.hid (dropWhile_step s j hlt2 hn)
                  obtain ⟨⟨q0, q1⟩, qf⟩ := hJ2.out.box.cells
                  have hw1 : IntKind.i64.wrap (col' + 1) = col' + 1 := IntWalk.i64_in _ (by have := hbd2.out; omega)
                  clear hn
                  go_wp2_with fail
                  go_roundw
                  case rel => exact ⟨j + 1, col' + 1, by omega, by go_num, hJ2.out.move (col' + 1), (by have := hkj.out; unfold Hid; omega), (by unfold Hid; rw [hdw.out, hst.out]), by have := hbd2.out; unfold Hid; omega⟩
                  case measure => simp [intOf]; omega
              · have hend : Hid (j = s.size ∨ ∃ h : j < s.size, s[j] = 10) := Or.inl (by omega)
                have hjk : Hid (k < j) := by unfold Hid; omega
                go_wp2_with fail
                have hde := dropWhile_end s j hend.out
                refine ⟨⟨j, ts, line, col', fa, fc, hj, rfl, rfl, hJ2, ?_, hts, ?_⟩, by have := hjk.out; simp [intOf]; omega⟩
                · unfold Hid
                  rw [← hres.out, lexF_com line col ts.length hcm'.out, hdw.out, hde.1, lexF_brk hde.2 line col' col]
                · have := hbd.out; have := hbd2.out; have := hjk.out; unfold Hid; omega
    · have hk0 : Hid (k = s.size) := by unfold Hid; omega
      obtain ⟨⟨q0, q1⟩, qf⟩ := hJ.out.zero.cells
      have hfin := Lib.hid (hJ.out.fin 0 0)
      have hok : Hid (R = .ok ts) := by
        unfold Hid
        rw [← hres.out, List.drop_eq_nil_of_le (by rw [bS_len, hk0.out]; exact Nat.le_refl _), lexF_nil]
        simp [Res.pre]
      go_wp2_with fail
      refine bodyPost_ret (results_lex rfl _ _ rfl rfl rfl hfin.out.2.2.2.1.cells.1) rfl ⟨?_, hfin.out.2.2.2.2⟩
      rw [hok.out]
      exact ⟨_, rfl, hfin.out.2.2.1⟩
end Go.Proofs.YtchdfjihflmloaaDoor
