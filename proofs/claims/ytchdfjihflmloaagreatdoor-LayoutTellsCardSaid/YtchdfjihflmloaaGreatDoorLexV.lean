/- The reference's Lex, walked: its state. -/
import Derived.Test.YtchdfjihflmloaaGreatDoorLexU
import Derived.Test.YtchdfjihflmloaaGreatDoorLxB
import Derived.Shelf.Bytes.SlSmallAll
import Derived.Laws.IdiomStrings
import Derived.OwnWalk
import Derived.Deep.CutRange
namespace Go.Proofs.YtchdfjihflmloaaGreatDoor
open Go.RowKit

theorem conv_row (w : World) (a : Option Addr) (l : Bs) (cap : Nat) (hr : ByteRow w a l) : (convert 32 9 (.slice a l.length cap)).run Tryz.prog w = .ok (.string (tS l)) w := by
  rcases hr with h | ⟨b, off, rfl, hc⟩
  · subst h
    exact run_convert_bytes_zero w 32 5 Tryz.underlying32 Tryz.underlying5 a cap _ Tryz.underlying9
  · refine run_convert_bytes_back w _ _ 5 _ cap l Tryz.underlying32 Tryz.underlying5 Tryz.underlying9 fun j hj => ?_
    rw [addr_plus]
    exact hc j hj

theorem ownBlock_ge {w : World} {base : Nat} {e : TypeId} {size : Nat} {v : Value} {n : Nat} {xs : List Value} (h : w.ownsRow base e size v n xs) {g : Nat} (hg : v.ownBlock = some g) : base ≤ g ∧ g < w.heap.size := by
  obtain ⟨_, ⟨rfl, _⟩ | ⟨g', cap, cur, rfl, h1, h2, _⟩⟩ := h
  · simp [Value.ownBlock] at hg
  · simp [Value.ownBlock] at hg
    subst hg
    exact ⟨h1, (Array.getElem?_eq_some_iff.1 h2).1⟩
theorem ownsRow_heap {w w' : World} {base : Nat} {e : TypeId} {size : Nat} {v : Value} {n : Nat} {xs : List Value} (h : w.ownsRow base e size v n xs) (hk : ∀ g, v.ownBlock = some g → w'.heap[g]? = w.heap[g]?) : w'.ownsRow base e size v n xs := by
  obtain ⟨h0, h | ⟨g, cap, cur, rfl, h1, h2, h3⟩⟩ := h
  · exact ⟨h0, .inl h⟩
  · exact ⟨h0, .inr ⟨g, cap, cur, rfl, h1, by rw [hk g rfl]; exact h2, h3⟩⟩

/-- The state of the reference's loop: the result's place, the place it stands at, the tokens so far. -/
structure LxI (w : World) (B : Nat) (W : World) (v : Value) (ts : List Tk) (line col : Int) : Prop where
  low : Below B w W
  zero : Box2 W 25 B (.int .i64 0) (.int .i64 0)
  box : Box2 W 25 (B + 1) (.int .i64 line) (.int .i64 col)
  row : W.ownsRow (B + 2) 34 5 v ts.length (tkCs ts)
theorem LxI.lt {w W : World} {B : Nat} {v : Value} {ts : List Tk} {line col : Int} (h : LxI w B W v ts line col) : B + 1 < W.heap.size := blk_lt h.box
theorem LxI.below {w W W' : World} {B : Nat} {v : Value} {ts : List Tk} {line col : Int} (h : LxI w B W v ts line col) (hb : Below W.heap.size W W') : LxI w B W' v ts line col :=
  ⟨h.low.trans (hb.mono (by have := h.lt; omega)), h.zero.below hb, h.box.below hb, ownsRow_heap h.row fun g hg => hb.block g (ownBlock_ge h.row hg).2⟩
theorem LxI.one {w W W' : World} {B : Nat} {v : Value} {ts : List Tk} {line col line' col' : Int} (h : LxI w B W v ts line col) (hb : OneSet (B + 1) W W') (hx : Box2 W' 25 (B + 1) (.int .i64 line') (.int .i64 col')) : LxI w B W' v ts line' col' :=
  ⟨h.low.trans (hb.below.mono (Nat.le_succ B)), (hb.other B (by omega)).trans h.zero, hx, ownsRow_heap h.row fun g hg => hb.other g (by have := (ownBlock_ge h.row hg).1; omega)⟩
theorem LxI.both {w W : World} {B : Nat} {v : Value} {ts : List Tk} {line col : Int} (h : LxI w B W v ts line col) (line' col' : Int) : LxI w B (World.set2 W (B + 1) (.int .i64 line') (.int .i64 col')) v ts line' col' :=
  h.one (h.box.set _ _).2 (h.box.set _ _).1
theorem LxI.move {w W : World} {B : Nat} {v : Value} {ts : List Tk} {line col : Int} (h : LxI w B W v ts line col) (col' : Int) : LxI w B (W.setCell ⟨B + 1, 1, none⟩ (.int .i64 col')) v ts line col' := by
  refine h.one (OneSet.cell _ _ _ _) ?_
  have hb := h.box
  unfold Box2 at hb ⊢
  simp [World.setCell, Array.getElem?_modify, hb]
theorem LxI.grow {w W W' : World} {B : Nat} {v v' : Value} {ts : List Tk} {line col : Int} {t : Tk} (h : LxI w B W v ts line col) (hg : W.grownBy W' v.ownBlock) (hr : W'.ownsRow (B + 2) 34 5 v' (ts.length + 1) (tkCs ts ++ tkC t)) : LxI w B W' v' (ts ++ [t]) line col := by
  have hb : ∀ g, g < W.heap.size → g < B + 2 → W'.heap[g]? = W.heap[g]? := fun g h1 h2 => hg.block g h1 (fun e => by have := (ownBlock_ge h.row e.symm).1; omega)
  refine ⟨h.low.grown hg (by have := h.lt; omega) (fun q e => by have := (ownBlock_ge h.row e).1; omega), (hb B (by have := h.lt; omega) (by omega)).trans h.zero, (hb (B + 1) h.lt (by omega)).trans h.box, ?_⟩
  rw [List.length_append, tkCs_append]
  have : tkCs [t] = tkC t := by simp [tkCs]
  rw [this]
  exact hr

theorem LxI.fin {w W : World} {B : Nat} {v : Value} {ts : List Tk} {line col : Int} (h : LxI w B W v ts line col) (x y : Int) : Box2 (World.set2 W B (.int .i64 x) (.int .i64 y)).drew 25 B (.int .i64 x) (.int .i64 y) ∧ Below B w (World.set2 W B (.int .i64 x) (.int .i64 y)).drew ∧ TkSl (World.set2 W B (.int .i64 x) (.int .i64 y)) v ts ∧ Box2 (World.set2 W B (.int .i64 x) (.int .i64 y)) 25 B (.int .i64 x) (.int .i64 y) ∧ Below B w (World.set2 W B (.int .i64 x) (.int .i64 y)) := by
  have hs := h.zero.set (.int .i64 x) (.int .i64 y)
  exact ⟨hs.1.below (Below.refl _ _).drew, (h.low.trans hs.2.below).drew, TkSl.own (ownsRow_heap h.row fun g hg => hs.2.other g (by have := (ownBlock_ge h.row hg).1; omega)), hs.1, h.low.trans hs.2.below⟩
theorem LxI.other {w W W' : World} {B b : Nat} {v : Value} {ts : List Tk} {line col : Int} (h : LxI w B W v ts line col) (hb : OneSet b W W') (h1 : B + 1 < b) (h2 : ∀ q, v.ownBlock = some q → q ≠ b) : LxI w B W' v ts line col :=
  ⟨h.low.trans (hb.below.mono (by omega)), (hb.other B (by omega)).trans h.zero, (hb.other _ (by omega)).trans h.box, ownsRow_heap h.row fun g hg => hb.other g (h2 g hg)⟩
theorem Box5.lc {w : World} {t : TypeId} {b : Nat} {x0 x1 x2 x3 x4 : Value} (h : Box5 w t b x0 x1 x2 x3 x4) (y z : Value) : Box5 ((w.setCell ⟨b, 3, none⟩ y).setCell ⟨b, 4, none⟩ z) t b x0 x1 x2 y z ∧ OneSet b w ((w.setCell ⟨b, 3, none⟩ y).setCell ⟨b, 4, none⟩ z) := by
  unfold Box5 at h
  refine ⟨by unfold Box5; simp [World.setCell, Array.getElem?_modify, h], (OneSet.cell _ _ _ _).trans (OneSet.cell _ _ _ _)⟩
theorem info_of {P : Program} {t : TypeId} {z : Value} {m k : Nat} (h : (P.info? t).map (fun i => (i.zero, i.size, i.bytes)) = some (some z, m, k)) : ∃ i, P.info? t = some i ∧ i.zero = some z ∧ i.size = m ∧ i.bytes = k := by
  cases hi : P.info? t with
  | none => rw [hi] at h; cases h
  | some i =>
    rw [hi] at h
    simp only [Option.map_some, Option.some.injEq, Prod.mk.injEq] at h
    exact ⟨i, rfl, h.1, h.2.1, h.2.2⟩
/-- What Lex answers. -/
def LexR (r : Res) (e : Ending) (W : World) : Prop :=
  match r with
  | .ok l => ∃ v, e = .returned (.tuple #[v, .agg #[.int .i64 0, .int .i64 0], .int .i64 0]) ∧ TkSl W v l
  | .bad a b => e = .returned (.tuple #[.slice none 0 0, .agg #[.int .i64 a, .int .i64 b], .int .i64 20])
/-- The tokens of a text. -/
def lexA (l : Bs) : Res := lexF 1 1 0 l
theorem drop_at (s : Str) (k : Nat) (h : k < s.size) : (bS s).drop k = s[k] :: (bS s).drop (k + 1) := List.drop_eq_getElem_cons h
theorem ext_drop (s : Str) (k : Nat) : s.extract k s.size = tS ((bS s).drop k) := by
  rw [← tS_bS (s.extract k s.size)]
  unfold bS
  rw [ByteArray.data_extract]
  congr 1
  rw [Array.toList_extract, List.extract_eq_take_drop]
  exact List.take_of_length_le (by rw [List.length_drop]; exact Nat.le_refl _)
theorem dropWhile_step (s : Str) (k : Nat) (h : k < s.size) (hb : s[k] ≠ 10) : ((bS s).drop k).dropWhile (· != 10) = ((bS s).drop (k + 1)).dropWhile (· != 10) := by
  rw [drop_at s k h, List.dropWhile_cons, if_pos (by rw [bne_iff_ne]; exact hb)]
theorem dropWhile_end (s : Str) (k : Nat) (h : k = s.size ∨ ∃ h : k < s.size, s[k] = 10) : ((bS s).drop k).dropWhile (· != 10) = (bS s).drop k ∧ ((bS s).drop k = [] ∨ ((bS s).drop k).head? = some 10) := by
  rcases h with h | ⟨h, h2⟩
  · have : (bS s).drop k = [] := List.drop_eq_nil_of_le (by rw [bS_len]; omega)
    rw [this]; exact ⟨rfl, .inl rfl⟩
  · rw [drop_at s k h, h2, List.dropWhile_cons, if_neg (by decide)]
    exact ⟨rfl, .inr rfl⟩
theorem results_lex {fn : Func} {t u v : Tmp} (h : fn.results = #[.tmp u, .cell t 25, .tmp v]) (tmps : Array Value) (w : World) {b : Nat} {x0 x1 y z : Value} (ha : tmps.getD t undef = .pointer (some ⟨b, 0, none⟩)) (hu : tmps.getD u undef = y) (hv : tmps.getD v undef = z)
    (hc : w.cell? ⟨b, 0, none⟩ = some x0 ∧ w.cell? ⟨b, 1, none⟩ = some x1) : (results fn tmps).run Tryz.prog w = .ok (.tuple #[y, .agg #[x0, x1], z]) w := by
  obtain ⟨h0, h1⟩ := hc
  have e2 := Tryz.isAgg25
  have e3 := Tryz.sizeOf25
  have ha' : tmps[t]?.getD undef = .pointer (some ⟨b, 0, none⟩) := by simpa using ha
  have hu' : tmps[u]?.getD undef = y := by simpa using hu
  have hv' : tmps[v]?.getD undef = z := by simpa using hv
  simp [results, h, ha', hu', hv', asAddr, loadVar, e2, loadCells, loadCellsFrom, Result.andThen, h0, h1, Addr.add, load, Sem.run]
theorem TokR_no {o : Option (Int × Bs × Nat)} {k n : Int} {s : Str} (h : TokR o (.returned (.tuple #[.agg #[.int .i64 k, .string s, .int .i64 n, .int .i64 0, .int .i64 0], .bool false]))) : o = none := by
  rcases o with _ | ⟨k', t, n'⟩
  · rfl
  · simp [TokR] at h
theorem TokR_yes {o : Option (Int × Bs × Nat)} {k n : Int} {s : Str} (h : TokR o (.returned (.tuple #[.agg #[.int .i64 k, .string s, .int .i64 n, .int .i64 0, .int .i64 0], .bool true]))) : ∃ (k' : Int) (t : Bs) (n' : Nat), o = some (k', t, n') ∧ k = k' ∧ s = tS t ∧ n = n' := by
  rcases o with _ | ⟨k', t, n'⟩
  · simp [TokR] at h
  · simp [TokR] at h
    exact ⟨k', t, n', rfl, h.1, h.2.1, h.2.2⟩
theorem lexF_brk {l : Bs} (h : l = [] ∨ l.head? = some 10) (line c1 c2 : Int) (cnt : Nat) : lexF line c1 cnt l = lexF line c2 cnt l := by
  rcases h with rfl | h
  · rw [lexF_nil, lexF_nil]
  · cases l with
    | nil => cases h
    | cons b r =>
      simp only [List.head?_cons, Option.some.injEq] at h
      subst h
      rw [lexF_nl, lexF_nl]

end Go.Proofs.YtchdfjihflmloaaGreatDoor
