/- A part of the proof that parser laws hold: texts of the walk and of its plain laws, made small. -/
import Derived.Test.YtnfclcfcpgfajaaGreatDoorM18
import Derived.Test.YtnfclcfcpgfajaaGreatDoorM02
import Derived.Maps.AppendAt
import Derived.Deep.AppendLies
import Derived.Deep.RegionLaw
import Derived.Deep.RegionHeld3
import Derived.Test.YtnfclcfcpgfajaaGreatDoorM00
import Derived.Maps.OwnSet
import Derived.Laws.AppendOwnNone
import Derived.Deep.DeepMust
set_option linter.unusedVariables false
set_option linter.unusedSimpArgs false
/- A type under way: its box, and the row of its args. -/
namespace Go.Proofs.YtnfclcfcpgfajaaGreatDoor
open Go.RowKit

theorem ownsRow_form {w : World} {base : Nat} {e : TypeId} {size : Nat} {v : Value} {n : Nat} {xs : List Value} (h : w.ownsRow base e size v n xs) : ∃ a c, v = .slice a n c ∧ (a = none → c = 0) := by
  obtain ⟨_, h | ⟨g, cap, cur, hv, _, _, h1, h2, _⟩⟩ := h
  · exact ⟨none, 0, by rw [h.1, h.2], fun _ => rfl⟩
  · exact ⟨some ⟨g, 0, none⟩, cap, hv, (by simp)⟩

/-- The cells of a row of types that is owned. -/
def TyCells (X : Nat → Prop) (w : World) (cs : List Value) (es : List Ty) : Prop :=
  ∀ i (h : i < es.length), ∃ v0 v1 v2, cs[i * 3]? = some v0 ∧ cs[i * 3 + 1]? = some v1 ∧ cs[i * 3 + 2]? = some v2 ∧ TyX X w (.agg #[v0, v1, v2]) es[i]
theorem TyCells.later {X Y : Nat → Prop} {w W : World} {cs : List Value} {es : List Ty} (h : TyCells X w cs es) (hk : KeepsBut X w W) (hY : ∀ b, b < w.heap.size → Y b → X b) : TyCells Y W cs es := fun i hi => by
  obtain ⟨v0, v1, v2, c0, c1, c2, hx⟩ := h i hi
  exact ⟨v0, v1, v2, c0, c1, c2, TyX.later hk hY hx⟩
theorem TyCells.snoc {X : Nat → Prop} {w : World} {cs : List Value} {es : List Ty} {u0 u1 u2 : Value} {e : Ty} (h : TyCells X w cs es) (hl : cs.length = es.length * 3) (he : TyX X w (.agg #[u0, u1, u2]) e) : TyCells X w (cs ++ [u0, u1, u2]) (es ++ [e]) := by
  intro i hi
  rw [List.length_append] at hi
  by_cases hlt : i < es.length
  · obtain ⟨v0, v1, v3, c0, c1, c2, hx⟩ := h i hlt
    refine ⟨v0, v1, v3, ?_, ?_, ?_, ?_⟩
    · rw [List.getElem?_append_left (by omega)]; exact c0
    · rw [List.getElem?_append_left (by omega)]; exact c1
    · rw [List.getElem?_append_left (by omega)]; exact c2
    · rw [List.getElem_append_left hlt]; exact hx
  · have hi' : i = es.length := by simp at hi; omega
    subst hi'
    refine ⟨u0, u1, u2, ?_, ?_, ?_, ?_⟩
    · rw [List.getElem?_append_right (by omega), hl]; simp
    · rw [List.getElem?_append_right (by omega), hl, show es.length * 3 + 1 - es.length * 3 = 1 by omega]; rfl
    · rw [List.getElem?_append_right (by omega), hl, show es.length * 3 + 2 - es.length * 3 = 2 by omega]; rfl
    · rw [List.getElem_append_right (by omega)]
      simpa using he
/-- A row of types that is owned lies there. -/
theorem TyCells.row {X Y : Nat → Prop} {w : World} {base : Nat} {v : Value} {cs : List Value} {es : List Ty} (h : TyCells Y w cs es) (ho : w.ownsRow base 25 3 v es.length cs) (hX : ∀ b, X b → b < base) (hY : ∀ b, X b → Y b) : ∃ a c, v = .slice a es.length c ∧ (a = none → c = 0) ∧ TyRow X w a es := by
  obtain ⟨a, c, rfl, ha⟩ := ownsRow_form ho
  refine ⟨a, c, rfl, ha, ?_⟩
  obtain ⟨hlen, h2 | ⟨g, cap, cur, hv, hb, hh, hnc, _, hsz, htk⟩⟩ := ho
  · exact .inl (List.length_eq_zero_iff.1 h2.2)
  · simp only [Value.slice.injEq, true_and] at hv
    obtain ⟨rfl, rfl⟩ := hv
    refine .inr ⟨g, 0, rfl, fun h => by have := hX _ h; omega, fun i hi => ?_⟩
    obtain ⟨v0, v1, v2, c0, c1, c2, hx⟩ := h i hi
    have cell : ∀ j x, cs[j]? = some x → w.cell? ⟨g, 0 + j, none⟩ = some x := by
      intro j x hj
      rw [← htk] at hj
      have hj' : cur[j]? = some x := by
        rw [List.getElem?_take] at hj
        split at hj
        · simpa using hj
        · cases hj
      simp [World.cell?, hh, hj']
    exact ⟨v0, v1, v2, cell _ _ c0, by simpa [Nat.add_assoc] using cell _ _ c1, by simpa [Nat.add_assoc] using cell _ _ c2, hx.less hY⟩
theorem TyCells.get {X : Nat → Prop} {w : World} {base : Nat} {v : Value} {cs : List Value} {es : List Ty} (ho : w.ownsRow base 25 3 v es.length cs) (h : TyCells X w cs es) : True := trivial

/-- A type under way: its box, its args' row behind it. -/
def OutIs (X : Nat → Prop) (w : World) (bp : Nat) (s : Str) (n : Int) (v : Value) (m : Nat) (es : List Ty) : Prop :=
  w.heap[bp]? = some (.cells #[.string s, .int .i64 n, v] 25 (0, 0)) ∧ ∃ cs : List Value, es.length = m ∧ w.ownsRow (bp + 1) 25 3 v m cs ∧ TyCells (fun b => X b ∨ b = bp ∨ v.ownBlock = some b) w cs es

theorem OutIs.lt {X : Nat → Prop} {w : World} {bp : Nat} {s : Str} {n : Int} {v : Value} {m : Nat} {es : List Ty} (h : OutIs X w bp s n v m es) : bp < w.heap.size := (Array.getElem?_eq_some_iff.1 h.1).1
theorem OutIs.own {X : Nat → Prop} {w : World} {bp : Nat} {s : Str} {n : Int} {v : Value} {m : Nat} {es : List Ty} (h : OutIs X w bp s n v m es) {g : Nat} (hg : v.ownBlock = some g) : bp < g ∧ g < w.heap.size := by
  obtain ⟨_, cs, _, h1, _⟩ := h
  have := ownBlock_ge h1 hg
  exact ⟨by omega, this.2⟩
theorem OutIs.form {X : Nat → Prop} {w : World} {bp : Nat} {s : Str} {n : Int} {v : Value} {m : Nat} {es : List Ty} (h : OutIs X w bp s n v m es) : ∃ a c, v = .slice a m c ∧ (a = none → c = 0) := by
  obtain ⟨_, cs, _, h1, _⟩ := h
  exact ownsRow_form h1
theorem OutIs.cells {X : Nat → Prop} {w : World} {bp : Nat} {s : Str} {n : Int} {v : Value} {m : Nat} {es : List Ty} (h : OutIs X w bp s n v m es) : w.cell? ⟨bp, 0, none⟩ = some (.string s) ∧ w.cell? ⟨bp, 1, none⟩ = some (.int .i64 n) ∧ w.cell? ⟨bp, 2, none⟩ = some v ∧ w.frozen? ⟨bp, 2, none⟩ = false := by
  refine ⟨?_, ?_, ?_, ?_⟩ <;> simp [World.cell?, World.frozen?, h.1]
theorem OutIs.new {X : Nat → Prop} {w : World} {s : Str} {n : Int} {bp : Nat} (hbp : w.heap.size = bp) : OutIs X (w.alloc (.cells #[.string s, .int .i64 n, .slice none 0 0] 25)) bp s n (.slice none 0 0) 0 [] := by
  subst hbp
  exact ⟨by simp only [World.alloc]; simp, [], rfl, ⟨by simp, .inl ⟨rfl, rfl⟩⟩, fun i h => by simp at h⟩
theorem OutIs.below {X : Nat → Prop} {w W : World} {bp : Nat} {s : Str} {n : Int} {v : Value} {m : Nat} {es : List Ty} (h : OutIs X w bp s n v m es) (hb : Below w.heap.size w W) : OutIs X W bp s n v m es := by
  have h1 := h.lt
  obtain ⟨h2, cs, hm, h3, h4⟩ := h
  exact ⟨(hb.block bp h1).trans h2, cs, hm, ownsRow_heap h3 fun g hg => hb.block g (ownBlock_ge h3 hg).2, h4.later (KeepsBut.of_below hb) fun b _ h => h⟩
/-- What is under way is done. -/
theorem OutIs.done {X : Nat → Prop} {w : World} {bp : Nat} {s : Str} {n : Int} {v : Value} {m : Nat} {es : List Ty} (h : OutIs X w bp s n v m es) (hX : ∀ b, X b → b < bp) (hs : s.size ≤ lenMax) (hl : m ≤ lenMax) (hn : -9223372036854775808 ≤ n ∧ n ≤ 9223372036854775807) :
    TyX X w (.agg #[.string s, .int .i64 n, v]) (.mk s n es) := by
  obtain ⟨h1, cs, rfl, h2, h3⟩ := h
  obtain ⟨a, c, rfl, ha, hr⟩ := h3.row h2 (X := X) (fun b hb => by have := hX b hb; omega) (fun b hb => .inl hb)
  exact TyX.shut ha hn hs hl hr
/-- Behind an append of one, and the store. -/
theorem OutIs.step {X : Nat → Prop} {w W1 W2 : World} {bp : Nat} {s : Str} {n : Int} {v v2 u0 u1 u2 : Value} {m : Nat} {es : List Ty} {e : Ty} {cs : List Value} (h : OutIs X w bp s n v m es) (hb : Below w.heap.size w W1) (he : TyX (fun b => X b ∨ b = bp ∨ v.ownBlock = some b) W1 (.agg #[u0, u1, u2]) e)
    (hg : W1.grownBy W2 v.ownBlock) (hm : es.length = m) (hcs : w.ownsRow (bp + 1) 25 3 v m cs) (h4 : TyCells (fun b => X b ∨ b = bp ∨ v.ownBlock = some b) w cs es)
    (hown : W2.ownsRow (bp + 1) 25 3 v2 (m + 1) (cs ++ [u0, u1, u2])) (hv2 : v2.ownBlock = v.ownBlock ∨ ∀ g, v2.ownBlock = some g → W1.heap.size ≤ g) :
    OutIs X (W2.setCell ⟨bp, 2, none⟩ v2) bp s n v2 (m + 1) (es ++ [e]) ∧ Below bp w (W2.setCell ⟨bp, 2, none⟩ v2) ∧ KeepsBut (fun b => b = bp ∨ v.ownBlock = some b) w (W2.setCell ⟨bp, 2, none⟩ v2) := by
  have h1 := h.lt
  have hz := hb.size
  have hne : v.ownBlock ≠ some bp := fun e => by have := (h.own e).1; omega
  have hh2 : W2.heap[bp]? = some (.cells #[.string s, .int .i64 n, v] 25 (0, 0)) := by
    rw [hg.block bp (by omega) (Ne.symm hne), hb.block bp h1]; exact h.1
  have hbp : (W2.setCell ⟨bp, 2, none⟩ v2).heap[bp]? = some (.cells #[.string s, .int .i64 n, v2] 25 (0, 0)) := by
    simp [World.setCell, Array.getElem?_modify, hh2]
  have hk1 : ∀ Y : Nat → Prop, (∀ b, b = bp ∨ v.ownBlock = some b → Y b) → KeepsBut Y W1 (W2.setCell ⟨bp, 2, none⟩ v2) := by
    intro Y hY
    refine ⟨by have := hg.size; simp [World.setCell]; omega, fun a x hx hv => ?_⟩
    have hab := cell_block hv
    rw [World.cell?_of_block (Below.heap_setCell W2 ⟨bp, 2, none⟩ v2 a.block (fun e => hx (hY _ (.inl e))))]
    exact (World.cell?_of_block (hg.block a.block hab (fun e => hx (hY _ (.inr e.symm))))).trans hv
  have hout : ∀ b, b < W1.heap.size → (X b ∨ b = bp ∨ v2.ownBlock = some b) → (X b ∨ b = bp ∨ v.ownBlock = some b) := by
    rintro b hb (h | h | h)
    · exact .inl h
    · exact .inr (.inl h)
    · rcases hv2 with e | e
      · exact .inr (.inr (e ▸ h))
      · have := e _ h; omega
  refine ⟨⟨hbp, cs ++ [u0, u1, u2], by rw [List.length_append, hm]; rfl, ?_, ?_⟩, ?_, ?_⟩
  · refine ownsRow_heap hown fun g hg' => ?_
    have := (ownBlock_ge hown hg').1
    exact Below.heap_setCell _ _ _ _ (by simp; omega)
  · refine TyCells.snoc ?_ (by rw [hm]; exact hcs.1) (TyX.later (hk1 _ fun b hb => .inr hb) hout he)
    exact (h4.later (KeepsBut.of_below hb) fun _ _ h => h).later (hk1 _ fun b hb => .inr hb) hout
  · exact (((hb.mono (Nat.le_of_lt h1)).grown hg (by omega) (fun k e => by have := (h.own e).1; omega)).setCell (by simp) _)
  · exact (KeepsBut.of_below hb).trans (hk1 _ fun b hb => hb)
theorem OutIs.mid {X : Nat → Prop} {w W1 W2 : World} {bp : Nat} {s : Str} {n : Int} {v : Value} {m : Nat} {es : List Ty} (h : OutIs X w bp s n v m es) (hb : Below w.heap.size w W1) (hg : W1.grownBy W2 v.ownBlock) : W2.cell? ⟨bp, 2, none⟩ = some v ∧ W2.frozen? ⟨bp, 2, none⟩ = false := by
  have h1 := h.lt
  have hne : v.ownBlock ≠ some bp := fun e => by have := (h.own e).1; omega
  have hh2 : W2.heap[bp]? = some (.cells #[.string s, .int .i64 n, v] 25 (0, 0)) := by
    rw [hg.block bp (by have := hb.size; omega) (Ne.symm hne), hb.block bp h1]; exact h.1
  constructor <;> simp [World.cell?, World.frozen?, hh2]
/-- A result that lies in a cell of its own. -/
theorem results_ty {fn : Func} {t : Tmp} (h : fn.results = #[.cell t 25]) (tmps : Array Value) (w : World) {b : Nat} {x y z : Value} (ha : tmps.getD t undef = .pointer (some ⟨b, 0, none⟩))
    (h0 : w.cell? ⟨b, 0, none⟩ = some x) (h1 : w.cell? ⟨b, 1, none⟩ = some y) (h2 : w.cell? ⟨b, 2, none⟩ = some z) : (results fn tmps).run Tryz.prog w = .ok (.agg #[x, y, z]) w := by
  have e2 := Tryz.isAgg25
  have e3 := Tryz.sizeOf25
  have ha' : tmps[t]?.getD undef = .pointer (some ⟨b, 0, none⟩) := by simpa using ha
  simp [results, h, ha', asAddr, loadVar, e2, loadCells, loadCellsFrom, Result.andThen, h0, h1, h2, Addr.add, load, Sem.run]
theorem Tryz.infoTy : (Tryz.prog.info? 25).map (fun i => (i.zero, i.size, i.bytes)) = some (some (.agg #[.string ⟨#[]⟩, .int .i64 0, .slice none 0 0]), 3, 48) := by kernel_rfl
/-- The cells of one type, in a block of its own. -/
theorem cell_three_new (w : World) (x y z : Value) (t : TypeId) : ∀ j u, [x, y, z][j]? = some u → (w.alloc (.cells #[x, y, z] t)).cell? ((⟨w.heap.size, 0, none⟩ : Addr).add j) = some u := by
  intro j u hj
  have h : ∀ o v, (#[x, y, z] : Array Value)[o]? = some v → (w.alloc (.cells #[x, y, z] t)).cell? ⟨w.heap.size, o, none⟩ = some v := by
    intro o v ho
    rw [World.cell?_alloc_at _ _ _ _ rfl]; exact ho
  match j, hj with
  | 0, hj => exact h 0 u (by simpa using hj)
  | 1, hj => exact h 1 u (by simpa using hj)
  | 2, hj => exact h 2 u (by simpa using hj)
  | j + 3, hj => simp at hj
end Go.Proofs.YtnfclcfcpgfajaaGreatDoor

/- Maps from numbers to types; a type with what holes are in their places. -/
namespace Go.Proofs.YtnfclcfcpgfajaaGreatDoor
open Go.RowKit
open Go.Maps (Keyed)

def keyN (n : Int) : Lit := .int .i64 n
theorem keyN_inj {a b : Int} (h : keyN a = keyN b) : a = b := by simpa [keyN] using h
def In64 (n : Int) : Prop := -9223372036854775808 ≤ n ∧ n ≤ 9223372036854775807
theorem keyN_of {n : Int} (h : In64 n) : keyOf Tryz.prog 3 (.int .i64 n) = some (keyN n) :=
  Maps.keyOf_int_mk Tryz.underlying3 (by simpa [Lit.wf] using (show IntKind.i64.min ≤ n ∧ n ≤ 9223372036854775807 from h))

theorem MapOf.look2 {P : Program} {w : World} {k t e : TypeId} {b n : Nat} {f : Lit → Option Value} (h : MapOf P w k b n f) (K : Keyed P k) (ht : P.underlying t = some (.map k e)) {z : Value} (hz : (zeroValue e).run P w = .ok z w)
    {key : Value} {kl : Lit} (hkey : keyOf P k key = some kl) : (Instr.lookup t (.map (some b)) key true).run P w = .ok (.tuple #[(f kl).getD z, .bool (f kl).isSome]) w := by
  obtain ⟨D, ⟨es, clock, hb, F, _, rfl⟩, h2⟩ := h
  rcases Maps.fit_look true K ht hz hb F hkey with ⟨hrun, _, hat⟩ | ⟨e0, y, _, _, hrun, hRv, hat, _⟩
  · have hn : f kl = none := by
      cases hf : f kl with
      | none => rfl
      | some v =>
        have h3 := fun z => (h2 kl z).symm.trans (hat (.held z))
        have h4 := h3 (.bool true)
        have h5 := h3 (.bool false)
        rw [hf] at h4 h5
        simp only [Option.getD_some, DataW.held.injEq] at h4 h5
        rw [h4] at h5; simp at h5
    rw [hrun, hn]; rfl
  · have hy : y = (.held e0.val, []) := by simpa [heldR] using hRv.symm
    have hs : f kl = some e0.val := by
      have h3 := fun z => (h2 kl z).symm.trans (hat (.held z))
      rw [hy] at h3
      cases hf : f kl with
      | some v => have := h3 (.bool true); rw [hf] at this; simp only [Option.getD_some, DataW.held.injEq] at this; rw [this]
      | none =>
        have h4 := h3 (.bool true)
        have h5 := h3 (.bool false)
        rw [hf] at h4 h5
        simp only [Option.getD_none, DataW.held.injEq] at h4 h5
        rw [← h4] at h5; simp at h5
    rw [hrun, hs]; rfl

/-- A map (it may be nil) is what places are. -/
def MapX (X : Nat → Prop) (w : World) (mv : Value) (F : Int → Option Ty) : Prop :=
  (mv = .map none ∧ ∀ n, F n = none) ∨ ∃ b k f, mv = .map (some b) ∧ MapOf Tryz.prog w 3 b k f ∧ ∀ n, In64 n → (F n = none ∧ f (keyN n) = none) ∨ ∃ e v, F n = some e ∧ f (keyN n) = some v ∧ TyX X w v e
theorem MapX.later {X Y : Nat → Prop} {w W : World} {mv : Value} {F : Int → Option Ty} (h : MapX X w mv F) (hb : Below w.heap.size w W) (hY : ∀ b, b < w.heap.size → Y b → X b) : MapX Y W mv F := by
  rcases h with h | ⟨b, k, f, rfl, hm, hF⟩
  · exact .inl h
  · refine .inr ⟨b, k, f, rfl, hm.below hb hm.lt, fun n hn => ?_⟩
    rcases hF n hn with h | ⟨e, v, h1, h2, h3⟩
    · exact .inl h
    · exact .inr ⟨e, v, h1, h2, TyX.later (KeepsBut.of_below hb) hY h3⟩
def zeroTy : Value := .agg #[.string ⟨#[]⟩, .int .i64 0, .slice none 0 0]
theorem zeroTy_run (w : World) : (zeroValue 25).run Tryz.prog w = .ok zeroTy w := by rw [Tryz.zeroValue25]; rfl
theorem MapX.look {X : Nat → Prop} {w W : World} {mv : Value} {F : Int → Option Ty} (h : MapX X w mv F) (hb : Below w.heap.size w W) {n : Int} (hn : In64 n) :
    (F n = none ∧ (Instr.lookup 140 mv (.int .i64 n) true).run Tryz.prog W = .ok (.tuple #[zeroTy, .bool false]) W) ∨
    ∃ e v, F n = some e ∧ TyX X w v e ∧ (Instr.lookup 140 mv (.int .i64 n) true).run Tryz.prog W = .ok (.tuple #[v, .bool true]) W := by
  have K : Keyed Tryz.prog 3 := Maps.int_keyed Tryz.underlying3
  rcases h with ⟨rfl, hF⟩ | ⟨b, k, f, rfl, hm, hF⟩
  · exact .inl ⟨hF n, by rw [Maps.look_nil true K Tryz.underlying140 (zeroTy_run W) (keyN_of hn)]; rfl⟩
  · have h1 := (hm.below hb hm.lt).look2 K Tryz.underlying140 (zeroTy_run W) (keyN_of hn)
    rcases hF n hn with ⟨h2, h3⟩ | ⟨e, v, h2, h3, h4⟩
    · rw [h3] at h1; exact .inl ⟨h2, h1⟩
    · rw [h3] at h1; exact .inr ⟨e, v, h2, h4, h1⟩

/-- A type with what holes are in their places. -/
def withT (F : Int → Option Ty) : Ty → Ty
  | .mk s n l => if holeS s = true ∧ (F n).isSome = true then (F n).getD (.mk s n l) else .mk s n (withL F l)
where withL (F : Int → Option Ty) : List Ty → List Ty
  | [] => []
  | e :: r => withT F e :: withL F r
theorem withL_map (F : Int → Option Ty) (l : List Ty) : withT.withL F l = l.map (withT F) := by
  induction l with
  | nil => rfl
  | cons e r ih => simp only [withT.withL, List.map_cons, ih]
end Go.Proofs.YtnfclcfcpgfajaaGreatDoor

/- Lists of numbers in memory; a type's holes by the reference. -/
namespace Go.Proofs.YtnfclcfcpgfajaaGreatDoor
open Go.RowKit

/-- A slice of numbers; nil where there is none. -/
def IntSl (w : World) (v : Value) (l : List Int) : Prop :=
  (l = [] ∧ v = .slice none 0 0) ∨ (l ≠ [] ∧ ∃ b off c, v = .slice (some ⟨b, off, none⟩) l.length c ∧ ∀ i (h : i < l.length), w.cell? ⟨b, off + i, none⟩ = some (.int .i64 l[i]))
theorem IntSl.keeps {w W : World} {v : Value} {l : List Int} (h : IntSl w v l) (hk : Keeps w W) : IntSl W v l := by
  rcases h with h | ⟨h, b, off, c, hv, hc⟩
  · exact .inl h
  · exact .inr ⟨h, b, off, c, hv, fun i hi => hk _ _ (hc i hi)⟩
theorem IntSl.form {w : World} {v : Value} {l : List Int} (h : IntSl w v l) : ∃ a c, v = .slice a l.length c := by
  rcases h with ⟨rfl, h⟩ | ⟨_, b, off, c, hv, _⟩
  · exact ⟨none, 0, h⟩
  · exact ⟨_, c, hv⟩
theorem IntSl.at {w : World} {a : Option Addr} {m c : Nat} {l : List Int} (h : IntSl w (.slice a m c) l) : m = l.length ∧ (l ≠ [] → ∃ b off, a = some ⟨b, off, none⟩ ∧ ∀ i (h : i < l.length), w.cell? ⟨b, off + i, none⟩ = some (.int .i64 l[i])) := by
  rcases h with ⟨rfl, h⟩ | ⟨h, b, off, c, hv, hc⟩
  · simp only [Value.slice.injEq] at h
    exact ⟨h.2.1, fun h => (h rfl).elim⟩
  · simp only [Value.slice.injEq] at hv
    exact ⟨hv.2.1, fun _ => ⟨b, off, hv.1, hc⟩⟩
/-- A row of numbers that is owned lies there. -/
theorem IntSl.of_own {w : World} {base : Nat} {v : Value} {l : List Int} (h : w.ownsRow base 3 1 v l.length (l.map (Value.int .i64))) (hne : l ≠ []) : IntSl w v l := by
  obtain ⟨hlen, h2 | ⟨g, cap, cur, hv, hb, hh, hnc, _, hsz, htk⟩⟩ := h
  · exact (hne (List.length_eq_zero_iff.1 h2.2)).elim
  · refine .inr ⟨hne, g, 0, cap, hv, fun i hi => ?_⟩
    have hj : (l.map (Value.int .i64))[i]? = some (.int .i64 l[i]) := by simp [hi]
    rw [← htk] at hj
    have hj' : cur[i]? = some (.int .i64 l[i]) := by
      rw [List.getElem?_take] at hj
      split at hj
      · simpa using hj
      · cases hj
    simp [World.cell?, hh, hj']

theorem cell_one_new' {w : World} {B : Nat} (hB : w.heap.size = B) (x : Value) (t : TypeId) : ∀ j u, [x][j]? = some u → (w.alloc (.cells #[x] t)).cell? ((⟨B, 0, none⟩ : Addr).add j) = some u := by
  subst hB; exact cell_one_new w x t
theorem Tryz.infoInt : (Tryz.prog.info? 3).map (fun i => (i.zero, i.size, i.bytes)) = some (some (.int .i64 0), 1, 8) := by kernel_rfl

/-- A number, if it is not there. -/
def addI (l : List Int) (n : Int) : List Int := if n ∈ l then l else l ++ [n]
theorem addI_ne (l : List Int) (n : Int) : addI l n ≠ [] := by
  unfold addI
  by_cases h : n ∈ l
  · rw [if_pos h]; intro e; rw [e] at h; simp at h
  · rw [if_neg h]; simp
theorem addI_len (l : List Int) (n : Int) : (addI l n).length ≤ l.length + 1 := by
  unfold addI; split <;> simp

set_option maxHeartbeats 1600000 in
set_option maxRecDepth 100000 in
theorem r08_add (v : Value) (l : List Int) (n : Int) (w : World) (hv : IntSl w v l) (hl : l.length ≤ 100000) :
    Calls Tryz.prog 181 #[v, .int .i64 n] w fun r w' => (∃ u, r = .returned u ∧ IntSl w' u (addI l n)) ∧ Below w.heap.size w w' := by
  have hv0 := Lib.hid hv
  obtain ⟨a, c, rfl⟩ := hv.form
  have hat := Lib.hid hv.at.2
  clear hv
  go_enter Tryz.func181, Tryz.ntmps181
  go_wp2_with fail
  go_loop [5] (fun i => ∃ k : Nat, k ≤ l.length ∧ i = .int .i64 k ∧ Hid (∀ j (hj : j < k) (hl : j < l.length), l[j] ≠ n)) (fun i => l.length - (intOf i).toNat)
  case atStart => exact ⟨0, by omega, rfl, fun j hj => by omega⟩
  case round =>
    obtain ⟨k, hk, rfl, hall⟩ := hrel
    by_cases h1 : k < l.length
    · obtain ⟨b, off, rfl, hc⟩ := hat.out (by rintro rfl; simp at h1)
      have g0 := hc k h1
      clear hc
      by_cases h2 : l[k] = n
      · have h3 : (l[k] == n) = true := by rw [beq_iff_eq]; exact h2
        have hr : Hid (addI l n = l) := by unfold Hid addI; rw [if_pos (by rw [← h2]; exact List.getElem_mem h1)]
        clear h2
        go_wp2_with fail
        go_ret
        exact ⟨⟨_, rfl, by rw [hr.out]; exact hv0.out⟩, Below.refl _ _⟩
      · have h3 : (l[k] == n) = false := by rw [beq_eq_false_iff_ne]; exact h2
        have h2' := Lib.hid h2
        clear h2
        go_wp2_with fail
        go_round
        case rel => exact ⟨k + 1, by omega, by go_num, fun j hj hl => by
          rcases Nat.lt_or_ge j k with h | h
          · exact hall.out j h hl
          · obtain rfl : j = k := by omega
            exact h2'.out⟩
        case measure => simp [intOf]; omega
    · have hr : Hid (addI l n = l ++ [n]) := by
        unfold Hid addI
        rw [if_neg]
        intro hm
        obtain ⟨j, hj, e⟩ := List.getElem_of_mem hm
        exact hall.out j (by omega) hj e
      obtain ⟨i0, hi, hz0, hz1, hz2⟩ := info_of Tryz.infoInt
      have hown0 : (w.alloc (.cells #[] 3)).ownsRow w.heap.size 3 1 (.slice (some ⟨w.heap.size, 0, none⟩) 0 0) 0 [] := by
        refine ⟨rfl, .inr ⟨w.heap.size, 0, #[], rfl, Nat.le_refl _, ?_, Nat.le_refl _, by simp [maxLen], rfl, rfl⟩⟩
        simp only [World.alloc]; simp
      have hown0' := Lib.hid hown0
      clear hown0
      rcases hv0.out with ⟨rfl, hv⟩ | ⟨hne, b, off, c2, hv, hc⟩
      · simp only [Value.slice.injEq] at hv
        obtain ⟨rfl, _, rfl⟩ := hv
        simp only [List.length_nil, List.nil_append] at *
        go_wp2_with (at_builtin; first
          | (refine wpList_append_own_none rfl _ _ 22 rfl w.heap.size 3 i0 1 Tryz.underlying22 hi _ _ _ rfl hown0'.out rfl ?_)
          | (go_must ((refine wpList_append_own_at _ rfl _ _ 22 rfl w.heap.size 3 i0 (.int .i64 0) 1 8 Tryz.underlying22 hi hz0 hz1 hz2 rfl (by decide) _ _ _ rfl (hown0'.out.alloc _) ⟨w.heap.size + 1, 0, none⟩ 1 1 [.int .i64 n] rfl rfl (cell_one_new' (by simp) _ _) (by simp [Value.oneCell']) (by unfold maxLen; omega) (by omega) (by simp <;> omega) ?_); intro v2 w3 hown2 hg2 _ _; have hB3 := Lib.hid ((((Below.refl w.heap.size w).alloc (Nat.le_refl _) _).alloc (by simp <;> omega) _).grown hg2 (by simp <;> omega) (fun q e => (ownBlock_ge hown0'.out e).1)); have hown2' := Lib.hid hown2; clear hown2 hg2)))
        go_ret
        refine ⟨⟨_, rfl, ?_⟩, hB3.out⟩
        rw [hr.out]
        exact IntSl.of_own hown2'.out (by simp)
      · simp only [Value.slice.injEq] at hv
        obtain ⟨rfl, _, rfl⟩ := hv
        have hcells : Hid (∀ j u, (l.map (Value.int .i64))[j]? = some u → (w.alloc (.cells #[] 3)).cell? ((⟨b, off, none⟩ : Addr).add j) = some u) := by
          intro j u hj
          simp only [List.getElem?_map, Option.map_eq_some_iff] at hj
          obtain ⟨y, hy, rfl⟩ := hj
          obtain ⟨hj', rfl⟩ := List.getElem?_eq_some_iff.1 hy
          rw [show (⟨b, off, none⟩ : Addr).add j = ⟨b, off + j, none⟩ from by unfold Addr.add; split <;> simp_all]
          exact Keeps.of_below ((Below.refl w.heap.size w).alloc (Nat.le_refl _) _) _ _ (hc j hj')
        have hz := cell_block (hc 0 (List.length_pos_iff.2 hne))
        clear hc hat hv0
        go_wp2_with (at_builtin; first
          | ((refine wpList_append_own_at _ rfl _ _ 22 rfl w.heap.size 3 i0 (.int .i64 0) 1 8 Tryz.underlying22 hi hz0 hz1 hz2 rfl (by decide) _ _ _ rfl hown0'.out ⟨b, off, none⟩ l.length _ (l.map (Value.int .i64)) rfl (by simp) hcells.out (by simp [Value.oneCell']) (by unfold maxLen; omega) (by omega) (by simp) ?_); intro v2 w3 hown2 hg2 _ hob; have hB2 := Lib.hid (((Below.refl w.heap.size w).alloc (Nat.le_refl _) (.cells #[] 3)).grown hg2 (by simp) (fun q e => (ownBlock_ge hown0'.out e).1)); rw [Nat.zero_add, List.nil_append] at hown2; obtain ⟨va, vc, rfl, _⟩ := ownsRow_form hown2; have hown2' := Lib.hid hown2; have hz3 : w.heap.size ≤ w3.heap.size := hB2.out.size; clear hown2 hg2 hob)
          | (go_must ((refine wpList_append_own_at _ rfl _ _ 22 rfl w.heap.size 3 i0 (.int .i64 0) 1 8 Tryz.underlying22 hi hz0 hz1 hz2 rfl (by decide) _ _ _ rfl (hown2'.out.alloc _) ⟨w3.heap.size, 0, none⟩ 1 1 [.int .i64 n] rfl rfl (cell_one_new _ _ _) (by simp [Value.oneCell']) (by unfold maxLen; omega) (by omega) (by simp <;> omega) ?_); intro v4 w4 hown4 hg4 _ _; have hB4 := Lib.hid ((hB2.out.alloc hz3 _).grown hg4 (by simp <;> omega) (fun q e => (ownBlock_ge hown2'.out e).1)); have hown4' := Lib.hid hown4; clear hown4 hg4)))
        go_ret
        refine ⟨⟨_, rfl, ?_⟩, hB4.out⟩
        rw [hr.out]
        have := hown4'.out
        exact IntSl.of_own (base := w.heap.size) (by simpa using this) (by simp)
end Go.Proofs.YtnfclcfcpgfajaaGreatDoor

/- A type's holes by the reference. -/
namespace Go.Proofs.YtnfclcfcpgfajaaGreatDoor
open Go.RowKit

/-- A list, and a type's holes. -/
def holesT : Ty → List Int → List Int
  | .mk s n args, l => if holeS s = true then addI l n else holesL args l
where holesL : List Ty → List Int → List Int
  | [], l => l
  | e :: r, l => holesL r (holesT e l)
theorem holesL_append (a b : List Ty) (l : List Int) : holesT.holesL (a ++ b) l = holesT.holesL b (holesT.holesL a l) := by
  induction a generalizing l with
  | nil => rfl
  | cons e r ih => simp only [List.cons_append, holesT.holesL, ih]
theorem holesL_succ (args : List Ty) (k : Nat) (h : k < args.length) (l : List Int) : holesT.holesL (args.take (k + 1)) l = holesT args[k] (holesT.holesL (args.take k) l) := by
  rw [List.take_succ_eq_append_getElem h, holesL_append]; rfl
theorem holesT_len : ∀ (e : Ty) (l : List Int), (holesT e l).length ≤ l.length + tcnt e := by
  refine Ty.ind fun s n args ih l => ?_
  have hL : ∀ (r : List Ty) (l : List Int), (∀ e ∈ r, e ∈ args) → (holesT.holesL r l).length ≤ l.length + tcnt.cntL r := by
    intro r
    induction r with
    | nil => intro l _; simp [holesT.holesL, tcnt.cntL]
    | cons e r ihr =>
      intro l hm
      have h1 := ih e (hm e (by simp)) l
      have h2 := ihr (holesT e l) (fun x hx => hm x (by simp [hx]))
      simp only [holesT.holesL, tcnt.cntL]; omega
  simp only [holesT, tcnt]
  split
  · have := addI_len l n; omega
  · have := hL args l (fun _ h => h); omega

set_option maxHeartbeats 800000 in
set_option maxRecDepth 100000 in
theorem r08_holes : ∀ (e : Ty) (v u : Value) (l : List Int) (w : World), IsTy w v e → IntSl w u l → l.length + tcnt e ≤ 100000 →
    Calls Tryz.prog 105 #[u, v] w fun r w' => (∃ z, r = .returned z ∧ IntSl w' z (holesT e l)) ∧ Below w.heap.size w w' := by
  refine Ty.ind fun s n args ih v u l w hv hu hcnt => ?_
  obtain ⟨a1, c1, rfl, _, hn, hs, hl, hr⟩ := hv.open
  unfold lenMax at hs hl
  have hB0 : Below (w.heap.size + 1) (w.alloc (.cells #[.string s, .int .i64 n, .slice a1 args.length c1] 25)) (w.alloc (.cells #[.string s, .int .i64 n, .slice a1 args.length c1] 25)) := Below.refl _ _
  obtain ⟨k0, k1, k2⟩ := box3 hB0
  have hr' := Lib.hid hr
  have ih' := Lib.hid ih
  have hu' := Lib.hid hu
  have hH : Hid (∀ V, Below (w.heap.size + 1) (w.alloc (.cells #[.string s, .int .i64 n, .slice a1 args.length c1] 25)) V → Calls Tryz.prog 180 #[.agg #[.string s, .int .i64 n, .slice a1 args.length c1]] V fun r V' => r = .returned (.bool (holeS s)) ∧ Below (w.heap.size + 1) (w.alloc (.cells #[.string s, .int .i64 n, .slice a1 args.length c1] 25)) V') := fun V hV => by
    refine (r08_hole s n a1 args.length c1 V).mono ?_
    rintro r V' ⟨hr, hB⟩
    exact ⟨hr, hV.trans (hB.mono (size_box hV))⟩
  have hcl : Hid (∀ k, k ≤ args.length → (holesT.holesL (args.take k) l).length + tcnt.cntL (args.drop k) ≤ 99999) := by
    intro k hk
    have h1 : (holesT.holesL (args.take k) l).length ≤ l.length + tcnt.cntL (args.take k) := by
      have : ∀ (r : List Ty) (l : List Int), (holesT.holesL r l).length ≤ l.length + tcnt.cntL r := by
        intro r
        induction r with
        | nil => intro l; simp [holesT.holesL, tcnt.cntL]
        | cons e r ihr => intro l; have h1 := holesT_len e l; have h2 := ihr (holesT e l); simp only [holesT.holesL, tcnt.cntL]; omega
      exact this _ _
    have h2 : tcnt.cntL args = tcnt.cntL (args.take k) + tcnt.cntL (args.drop k) := by rw [← tcntL_append, List.take_append_drop]
    simp only [tcnt] at hcnt
    omega
  have hlc : l.length ≤ 100000 := by omega
  clear hv hr ih hu hcnt
  cases hq : holeS s
  · have hT : Hid (holesT (.mk s n args) l = holesT.holesL args l) := by unfold Hid; rw [holesT, if_neg (by rw [hq]; simp)]
    rw [hq] at hH
    clear hq
    go_enter Tryz.func105, Tryz.ntmps105
    go_wp2_with fail
    refine (hH.out _ hB0).mono ?_
    rintro e w1 ⟨rfl, hC1⟩
    clear k0 k1 k2
    go_wp2_with fail
    go_loopw [0, 5] (fun z i wr => ∃ (k : Nat), k ≤ args.length ∧ i = .int .i64 k ∧ Hid (IntSl wr z (holesT.holesL (args.take k) l)) ∧ Below (w.heap.size+1) (w.alloc (.cells #[.string s, .int .i64 n, .slice a1 args.length c1] 25)) wr) (fun _ i _ => args.length - (intOf i).toNat)
    case atStart => exact ⟨0, by omega, rfl, hu'.out.keeps (keeps_box hC1), hC1⟩
    case round =>
      clear hC1
      obtain ⟨k, hk, rfl, hz, hB⟩ := hrel
      obtain ⟨q0, q1, q2⟩ := box3 hB
      have hzs := size_box hB
      by_cases h1 : k < args.length
      · obtain ⟨b, off, rfl, harg⟩ := (hr'.out.keeps (keeps_box hB)).arg (by rintro rfl; simp at h1)
        obtain ⟨a2, c2, g0, g1, g2, ge⟩ := harg k h1
        have hlen := hcl.out k hk
        rw [List.drop_eq_getElem_cons h1] at hlen
        simp only [tcnt.cntL] at hlen
        have hcall := Lib.hid (ih'.out _ (List.getElem_mem h1) _ _ _ wr ge hz.out (by omega))
        have hnx := Lib.hid (holesL_succ args k h1 l)
        clear ge harg hlen
        go_wp2_with fail
        refine hcall.out.mono ?_
        rintro e w2 ⟨⟨z, rfl, hz2⟩, hB2⟩
        have hz2' := Lib.hid hz2
        have hB2' := hB.trans (hB2.mono hzs)
        clear hB2 hz2
        go_wp2_with fail
        go_roundw
        case rel => exact ⟨k + 1, by omega, by go_num, by unfold Hid; rw [hnx.out]; exact hz2'.out, hB2'⟩
        case measure => simp [intOf]; omega
      · have e : k = args.length := by omega
        have hz' : Hid (IntSl wr u0 (holesT (.mk s n args) l)) := by
          unfold Hid
          have := hz.out
          rw [e, List.take_length] at this
          rw [hT.out]; exact this
        clear e hz
        go_wp2_with fail
        go_ret
        exact ⟨⟨_, rfl, hz'.out⟩, below_box hB⟩
  · have hT : Hid (holesT (.mk s n args) l = addI l n) := by unfold Hid; rw [holesT, if_pos hq]
    rw [hq] at hH
    clear hq
    go_enter Tryz.func105, Tryz.ntmps105
    go_wp2_with fail
    refine (hH.out _ hB0).mono ?_
    rintro e w1 ⟨rfl, hC1⟩
    have hadd := Lib.hid (r08_add u l n w1 (hu'.out.keeps (keeps_box hC1)) hlc)
    clear k0 k1 k2
    obtain ⟨k0, k1, k2⟩ := box3 hC1
    go_wp2_with fail
    refine hadd.out.mono ?_
    rintro e w2 ⟨⟨z, rfl, hz⟩, hB2⟩
    have hz' := Lib.hid hz
    clear hz
    go_wp2_with fail
    go_ret
    exact ⟨⟨_, rfl, by rw [hT.out]; exact hz'.out⟩, below_box (hC1.trans (hB2.mono (size_box hC1)))⟩

theorem chk_cnt {e : Ty} (h : chkT e = true) : tcnt e ≤ 2000 := by
  simp only [chkT, Bool.and_eq_true, decide_eq_true_eq] at h
  exact h.1
def holesC (e : Ty) : List Int := if chkT e = true then holesT e [] else []
theorem r08_Holes (e : Ty) (v : Value) (w : World) (hv : IsTy w v e) : Calls Tryz.prog 55 #[v] w fun r w' => (∃ z, r = .returned z ∧ IntSl w' z (holesC e)) ∧ Below w.heap.size w w' := by
  have hv0 := hv
  obtain ⟨s, n, l⟩ := e
  obtain ⟨a1, c1, rfl, _⟩ := hv.open
  have hB0 : Below (w.heap.size + 1) (w.alloc (.cells #[.string s, .int .i64 n, .slice a1 l.length c1] 25)) (w.alloc (.cells #[.string s, .int .i64 n, .slice a1 l.length c1] 25)) := Below.refl _ _
  obtain ⟨k0, k1, k2⟩ := box3 hB0
  have hc := Lib.hid (r08_Check _ _ _ (hv0.below (below_box hB0)))
  cases hq : chkT (.mk s n l)
  · have hT : Hid (holesC (.mk s n l) = []) := by unfold Hid holesC; rw [if_neg (by rw [hq]; simp)]
    rw [hq] at hc
    clear hq hv hv0
    go_enter Tryz.func55, Tryz.ntmps55
    go_wp2_with fail
    refine hc.out.mono ?_
    rintro e w1 ⟨rfl, hB1⟩
    go_wp2_with fail
    go_ret
    exact ⟨⟨_, rfl, by rw [hT.out]; exact .inl ⟨rfl, rfl⟩⟩, below_box (hB1.mono (by simp))⟩
  · have hT : Hid (holesC (.mk s n l) = holesT (.mk s n l) []) := by unfold Hid holesC; rw [if_pos hq]
    have hh := Lib.hid (fun V (hV : Below (w.heap.size + 1) (w.alloc (.cells #[.string s, .int .i64 n, .slice a1 l.length c1] 25)) V) => r08_holes _ _ (.slice none 0 0) [] V (hv0.below (below_box hV)) (.inl ⟨rfl, rfl⟩) (by have := chk_cnt hq; simp; omega))
    rw [hq] at hc
    clear hq hv hv0
    go_enter Tryz.func55, Tryz.ntmps55
    go_wp2_with fail
    refine hc.out.mono ?_
    rintro e w1 ⟨rfl, hB1⟩
    have hC1 := hB1.mono (B' := w.heap.size + 1) (by simp)
    clear hB1 k0 k1 k2
    obtain ⟨k0, k1, k2⟩ := box3 hC1
    go_wp2_with fail
    refine (hh.out _ hC1).mono ?_
    rintro e w2 ⟨⟨z, rfl, hz⟩, hB2⟩
    have hz' := Lib.hid hz
    clear hz
    go_wp2_with fail
    go_ret
    exact ⟨⟨_, rfl, by rw [hT.out]; exact hz'.out⟩, below_box (hC1.trans (hB2.mono (size_box hC1)))⟩
end Go.Proofs.YtnfclcfcpgfajaaGreatDoor

/- Facts by the reference: the first one of a hole; a type with facts in places. -/
namespace Go.Proofs.YtnfclcfcpgfajaaGreatDoor
open Go.RowKit

/-- What the first fact of a hole says. -/
def fa? : List Fa → Int → Option Ty
  | [], _ => none
  | f :: r, n => if f.n = n then some f.ty else fa? r n
theorem fa_none {L : List Fa} {n : Int} (h : ∀ j (hj : j < L.length), L[j].n ≠ n) : fa? L n = none := by
  induction L with
  | nil => rfl
  | cons f r ih =>
    have h0 := h 0 (by simp)
    simp only [List.getElem_cons_zero] at h0
    rw [fa?, if_neg h0]
    exact ih fun j hj => by have := h (j + 1) (by simpa using hj); simpa using this
theorem fa_some {L : List Fa} {n : Int} {k : Nat} (hk : k < L.length) (h : ∀ j (hj : j < k), L[j].n ≠ n) (hn : L[k].n = n) : fa? L n = some L[k].ty := by
  induction L generalizing k with
  | nil => simp at hk
  | cons f r ih =>
    cases k with
    | zero => simp only [List.getElem_cons_zero] at hn ⊢; rw [fa?, if_pos hn]
    | succ k =>
      have h0 := h 0 (by omega)
      simp only [List.getElem_cons_zero] at h0
      rw [fa?, if_neg h0]
      simp only [List.getElem_cons_succ] at hn ⊢
      exact ih (by simpa using hk) (fun j hj => by have := h (j + 1) (by omega); simpa using this) hn

/-- A type with facts in places. -/
def putT (L : List Fa) : Ty → Ty
  | .mk s n l => if holeS s = true then (fa? L n).getD (.mk ⟨#[]⟩ n []) else .mk s 0 (putL L l)
where putL (L : List Fa) : List Ty → List Ty
  | [] => []
  | e :: r => putT L e :: putL L r
theorem putL_map (L : List Fa) (l : List Ty) : putT.putL L l = l.map (putT L) := by
  induction l with
  | nil => rfl
  | cons e r ih => simp only [putT.putL, List.map_cons, ih]

def FactR (L : List Fa) (n i : Int) : Prop := (i = -1 ∧ fa? L n = none) ∨ ∃ (k : Nat) (h : k < L.length), i = k ∧ fa? L n = some L[k].ty

set_option maxHeartbeats 400000 in
theorem r08_fact (X : Nat → Prop) (L : List Fa) (a : Option Addr) (c : Nat) (n : Int) (w : World) (hl : L.length ≤ lenMax) (hr : FaRow X w a L) :
    Calls Tryz.prog 182 #[.slice a L.length c, .int .i64 n] w fun r w' => (∃ i, r = .returned (.int .i64 i) ∧ FactR L n i) ∧ Below w.heap.size w w' := by
  unfold lenMax at hl
  go_enter Tryz.func182, Tryz.ntmps182
  go_wp2_with fail
  go_loop [5] (fun i => ∃ k : Nat, k ≤ L.length ∧ i = .int .i64 k ∧ Hid (∀ j (hj : j < k) (hl : j < L.length), L[j].n ≠ n)) (fun i => L.length - (intOf i).toNat)
  case atStart => exact ⟨0, by omega, rfl, fun j hj => by omega⟩
  case round =>
    obtain ⟨k, hk, rfl, hall⟩ := hrel
    by_cases h1 : k < L.length
    · obtain ⟨b, off, rfl, hat⟩ := hr.at (by rintro rfl; simp at h1)
      obtain ⟨a1, c1, g0, g1, g2, g3, ge, hn⟩ := hat k h1
      clear hat ge
      by_cases h2 : L[k].n = n
      · have hf := Lib.hid (fa_some h1 (fun j hj => hall.out j hj (by omega)) h2)
        have h3 : (L[k].n == n) = true := by rw [beq_iff_eq]; exact h2
        clear h2
        go_wp2_with fail
        go_ret
        exact ⟨⟨_, rfl, .inr ⟨k, h1, rfl, hf.out⟩⟩, Below.refl _ _⟩
      · have h3 : (L[k].n == n) = false := by rw [beq_eq_false_iff_ne]; exact h2
        have h2' := Lib.hid h2
        clear h2
        go_wp2_with fail
        go_round
        case rel => exact ⟨k + 1, by omega, by go_num, fun j hj hl => by
          rcases Nat.lt_or_ge j k with h | h
          · exact hall.out j h hl
          · obtain rfl : j = k := by omega
            exact h2'.out⟩
        case measure => simp [intOf]; omega
    · have hf := Lib.hid (fa_none (L := L) (n := n) (fun j hj => hall.out j (by omega) hj))
      go_wp2_with fail
      go_ret
      exact ⟨⟨-1, rfl, .inl ⟨rfl, hf.out⟩⟩, Below.refl _ _⟩
end Go.Proofs.YtnfclcfcpgfajaaGreatDoor

/- A type with what holes are in their places, walked. -/
namespace Go.Proofs.YtnfclcfcpgfajaaGreatDoor
open Go.RowKit

theorem box33 {w V : World} {x0 x1 x2 y0 y1 y2 : Value} {t u : TypeId} (h : Below (w.heap.size + 2) ((w.alloc (.cells #[x0, x1, x2] t)).alloc (.cells #[y0, y1, y2] u)) V) : V.cell? ⟨w.heap.size, 0, none⟩ = some x0 ∧ V.cell? ⟨w.heap.size, 1, none⟩ = some x1 ∧ V.cell? ⟨w.heap.size, 2, none⟩ = some x2 ∧ V.cell? ⟨w.heap.size + 1, 0, none⟩ = some y0 ∧ V.cell? ⟨w.heap.size + 1, 1, none⟩ = some y1 ∧ V.cell? ⟨w.heap.size + 1, 2, none⟩ = some y2 := by
  have g1 : Below (w.heap.size + 1) (w.alloc (.cells #[x0, x1, x2] t)) ((w.alloc (.cells #[x0, x1, x2] t)).alloc (.cells #[y0, y1, y2] u)) := (Below.refl _ _).alloc (by simp) _
  have hA := g1.trans (h.mono (by omega))
  have hB : Below ((w.alloc (.cells #[x0, x1, x2] t)).heap.size + 1) ((w.alloc (.cells #[x0, x1, x2] t)).alloc (.cells #[y0, y1, y2] u)) V := h.mono (by simp)
  have z1 : (w.alloc (.cells #[x0, x1, x2] t)).heap.size = w.heap.size + 1 := by simp
  obtain ⟨q0, q1, q2⟩ := box3 hA
  obtain ⟨q3, q4, q5⟩ := box3 hB
  rw [z1] at q3 q4 q5
  exact ⟨q0, q1, q2, q3, q4, q5⟩
theorem new_block {w U : World} {t : TypeId} {vs : Array Value} (h : Below (w.heap.size + 1) (w.alloc (.cells vs t)) U) : U.heap[w.heap.size]? = some (.cells vs t (0, 0)) := by
  rw [h.block _ (by omega)]; simp only [World.alloc]; simp
theorem new_block2 {w U : World} {o : Obj} {t : TypeId} {vs : Array Value} (h : Below (w.heap.size + 2) ((w.alloc o).alloc (.cells vs t)) U) : U.heap[w.heap.size + 1]? = some (.cells vs t (0, 0)) := by
  have z1 : (w.alloc o).heap.size = w.heap.size + 1 := by simp
  have := new_block (w := w.alloc o) (U := U) (vs := vs) (t := t) (by rw [z1]; exact h)
  rwa [z1] at this
theorem cells_of {U : World} {b : Nat} {x y z : Value} {t : TypeId} (h : U.heap[b]? = some (.cells #[x, y, z] t (0, 0))) : U.cell? ⟨b, 0, none⟩ = some x ∧ U.cell? ⟨b, 1, none⟩ = some y ∧ U.cell? ⟨b, 2, none⟩ = some z := by
  simp [World.cell?, h]
theorem frozen_of {U : World} {b : Nat} {vs : Array Value} {t : TypeId} (h : U.heap[b]? = some (.cells vs t (0, 0))) (o : Nat) : U.frozen? ⟨b, o, none⟩ = false := by
  simp [World.frozen?, h]
/-- A struct's box, written anew. -/
def World.box3 (w : World) (b : Nat) (x y z : Value) : World := ((w.setCell ⟨b, 0, none⟩ x).setCell ⟨b, 1, none⟩ y).setCell ⟨b, 2, none⟩ z
theorem set_box3 {V : World} {b : Nat} {x0 x1 x2 : Value} {t : TypeId} (h : V.heap[b]? = some (.cells #[x0, x1, x2] t (0, 0))) (x y z : Value) :
    ((World.box3 V b x y z).cell? ⟨b, 0, none⟩ = some x ∧ (World.box3 V b x y z).cell? ⟨b, 1, none⟩ = some y ∧ (World.box3 V b x y z).cell? ⟨b, 2, none⟩ = some z) ∧ Below b V (World.box3 V b x y z) ∧ (World.box3 V b x y z).heap.size = V.heap.size ∧ KeepsBut (fun c => c = b) V (World.box3 V b x y z) := by
  have h2 : (World.box3 V b x y z).heap[b]? = some (.cells #[x, y, z] t (0, 0)) := by
    simp [World.box3, World.setCell, Array.getElem?_modify, h]
  refine ⟨⟨?_, ?_, ?_⟩, ?_, ?_, ⟨by simp [World.box3, World.setCell], fun a v hx hv => ?_⟩⟩
  · simp [World.cell?, h2]
  · simp [World.cell?, h2]
  · simp [World.cell?, h2]
  · exact (((Below.refl b V).setCell (Nat.le_refl _) _).setCell (Nat.le_refl _) _).setCell (Nat.le_refl _) _
  · simp [World.box3, World.setCell]
  · rw [World.cell?_of_block (show (World.box3 V b x y z).heap[a.block]? = V.heap[a.block]? from ?_)]
    · exact hv
    · unfold World.box3
      rw [Below.heap_setCell _ _ _ _ (fun e => hx e), Below.heap_setCell _ _ _ _ (fun e => hx e), Below.heap_setCell _ _ _ _ (fun e => hx e)]
theorem Below.keepsBut {b : Nat} {V U : World} (h : Below b V U) : KeepsBut (fun c => b ≤ c) V U := ⟨h.size, fun a v hx hv => by
  rw [World.cell?_of_block (h.block a.block (by omega))]; exact hv⟩

set_option maxHeartbeats 4000000 in
set_option maxRecDepth 100000 in
theorem ty_with : ∀ (e : Ty) (v : Value) (X : Nat → Prop) (mv : Value) (F : Int → Option Ty) (w : World), TyX X w v e → MapX X w mv F → (∀ b, X b → b < w.heap.size) → tcnt e ≤ 100000 →
    Calls Tryz.prog 75 #[mv, v] w fun r w' => ∃ u, r = .returned u ∧ TyX X w' u (withT F e) ∧ Below w.heap.size w w' := by
  refine Ty.ind fun s n l ih v X mv F w hv hm hX hcnt => ?_
  have hlc : l.length ≤ 100000 := by have := tcntL_len l; simp only [tcnt] at hcnt; omega
  have hcn : Hid (∀ e ∈ l, tcnt e ≤ 100000) := fun e he => by have := tcntL_mem he; simp only [tcnt] at hcnt; omega
  clear hcnt
  obtain ⟨a1, c1, rfl, hc, hn, hs, hl, hr⟩ := hv.open
  have hs' := Lib.hid hs
  have hl' := Lib.hid hl
  unfold lenMax at hl hs
  obtain ⟨W1, hW1⟩ : ∃ W, ((w.alloc (.cells #[.string s, .int .i64 n, .slice a1 l.length c1] 25)).alloc (.cells #[.string ⟨#[]⟩, .int .i64 0, .slice none 0 0] 25)) = W := ⟨_, rfl⟩
  have hz1 : W1.heap.size = w.heap.size + 2 := by rw [← hW1]; simp
  have hb1 : Below w.heap.size w W1 := by rw [← hW1]; exact ((Below.refl _ w).alloc (Nat.le_refl _) _).alloc (by simp) _
  have hcells : ∀ V, Below (w.heap.size + 1) W1 V → V.cell? ⟨w.heap.size, 0, none⟩ = some (.string s) ∧ V.cell? ⟨w.heap.size, 1, none⟩ = some (.int .i64 n) ∧ V.cell? ⟨w.heap.size, 2, none⟩ = some (.slice a1 l.length c1) := by
    intro V hV
    have g1 : Below (w.heap.size + 1) (w.alloc (.cells #[.string s, .int .i64 n, .slice a1 l.length c1] 25)) W1 := by rw [← hW1]; exact (Below.refl _ _).alloc (by simp) _
    exact box3 (g1.trans hV)
  have hlk := hm.look hb1 (n := n) hn
  obtain ⟨k0, k1, k2⟩ := hcells W1 (Below.refl _ _)
  have hH : Hid (∀ V : World, Calls Tryz.prog 133 #[.agg #[.string s, .int .i64 n, .slice a1 l.length c1]] V fun r V' => r = .returned (.bool (holeS s)) ∧ Below V.heap.size V V') := fun V => ty_hole s n a1 l.length c1 V
  have hm' := Lib.hid hm
  have hr' := Lib.hid hr
  have ih' := Lib.hid ih
  have hX' := Lib.hid hX
  have hW1' := Lib.hid hW1
  have hb1' := Lib.hid hb1
  have hcells' := Lib.hid hcells
  clear hv hm hr ih hX hW1 hb1 hcells
  have hlk2 : ∃ (fb : Bool) (ys : Str) (yn : Int) (ya : Option Addr) (ym yc : Nat), (Instr.lookup 140 mv (.int .i64 n) true).run Tryz.prog W1 = .ok (.tuple #[.agg #[.string ys, .int .i64 yn, .slice ya ym yc], .bool fb]) W1 ∧ Hid ((fb = false ∧ F n = none) ∨ (fb = true ∧ ∃ e, F n = some e ∧ TyX X w (.agg #[.string ys, .int .i64 yn, .slice ya ym yc]) e)) := by
    rcases hlk with ⟨hF, hlk⟩ | ⟨e, x, hF, hx, hlk⟩
    · exact ⟨false, _, _, _, _, _, hlk, .inl ⟨rfl, hF⟩⟩
    · obtain ⟨a, c, rfl⟩ := hx.form
      exact ⟨true, _, _, _, _, _, hlk, .inr ⟨rfl, e, hF, hx⟩⟩
  obtain ⟨fb, ys, yn, ya, ym, yc, hlk2, hfb⟩ := hlk2
  clear hlk
  rw [← hW1'.out] at hlk2
  go_enter Tryz.func75, Tryz.ntmps75
  go_wp2_with fail
  rw [hW1'.out] at hlk2 ⊢
  obtain ⟨W2, hW2⟩ : ∃ W, W1.alloc (.cells #[.string ys, .int .i64 yn, .slice ya ym yc] 25) = W := ⟨_, rfl⟩
  rw [hW2]
  refine (hH.out _).mono ?_
  rintro r V ⟨rfl, hBV⟩
  have hb2 : Below W1.heap.size W1 W2 := by rw [← hW2]; exact (Below.refl _ _).alloc (Nat.le_refl _) _
  have hz2 : W2.heap.size = w.heap.size + 3 := by rw [← hW2]; simp; omega
  have hbV : Below W1.heap.size W1 V := hb2.trans (hBV.mono (by omega))
  obtain ⟨k0, k1, k2⟩ := hcells'.out _ (hbV.mono (by omega))
  have hx3 : V.cell? ⟨w.heap.size + 1 + 1, 0, none⟩ = some (.string ys) ∧ V.cell? ⟨w.heap.size + 1 + 1, 1, none⟩ = some (.int .i64 yn) ∧ V.cell? ⟨w.heap.size + 1 + 1, 2, none⟩ = some (.slice ya ym yc) := by
    have := box3 (w := W1) (wr := V) (v0 := .string ys) (v1 := .int .i64 yn) (v2 := .slice ya ym yc) (t := 25) (by rw [hW2]; exact hBV.mono (by omega))
    rw [hz1] at this
    exact this
  obtain ⟨x0, x1, x2⟩ := hx3
  have hres : ∀ U, Below (w.heap.size + 2) W1 U → U.heap[w.heap.size + 1]? = some (.cells #[.string ⟨#[]⟩, .int .i64 0, .slice none 0 0] 25 (0, 0)) := by
    intro U hU
    rw [← hW1'.out] at hU
    exact new_block2 hU
  have hres' := Lib.hid hres
  clear hres
  have hrV := Lib.hid (hres'.out V (hbV.mono (by omega)))
  obtain ⟨r0, r1, r2⟩ := cells_of hrV.out
  have rf0 := frozen_of hrV.out 0
  have rf1 := frozen_of hrV.out 1
  have rf2 := frozen_of hrV.out 2
  have hwV := Lib.hid (hb1'.out.trans (hbV.mono (by omega)))
  have hzV : W1.heap.size ≤ V.heap.size := hbV.size
  by_cases hq : holeS s = true ∧ fb = true
  · obtain ⟨hhs, rfl⟩ := hq
    have hhs' := Lib.hid hhs
    clear hhs
    go_wp2_with fail
    have hU := set_box3 hrV.out (.string ys) (.int .i64 yn) (.slice ya ym yc)
    change bodyPost _ _ _ _ _ (World.box3 V (w.heap.size + 1) (.string ys) (.int .i64 yn) (.slice ya ym yc))
    generalize World.box3 V (w.heap.size + 1) (.string ys) (.int .i64 yn) (.slice ya ym yc) = U at hU ⊢
    obtain ⟨⟨u0, u1, u2⟩, hBU, -, -⟩ := hU
    clear r0 r1 r2
    have hwU := hwV.out.trans (hBU.mono (by omega))
    obtain ⟨e, hF, hx⟩ : ∃ e, F n = some e ∧ TyX X w (.agg #[.string ys, .int .i64 yn, .slice ya ym yc]) e := by
      rcases hfb.out with ⟨h, _⟩ | ⟨_, h⟩
      · cases h
      · exact h
    have hx' := Lib.hid (TyX.below hx hwU)
    have hw : Hid (withT F (.mk s n l) = e) := by unfold Hid; rw [withT, if_pos ⟨hhs'.out, by rw [hF]; rfl⟩, hF]; rfl
    clear hx
    refine bodyPost_ret (results_ty rfl _ _ rfl u0 u1 u2) rfl ?_
    refine ⟨_, rfl, ?_, hwU⟩
    rw [hw.out]
    exact hx'.out
  · have hq2 : holeS s = false ∨ (holeS s = true ∧ fb = false) := by
      cases h : holeS s
      · exact .inl rfl
      · refine .inr ⟨rfl, ?_⟩
        cases fb
        · rfl
        · exact (hq ⟨h, rfl⟩).elim
    have hcont : Hid (withT F (.mk s n l) = .mk s n (l.map (withT F))) := by
      unfold Hid
      rw [withT, if_neg, withL_map]
      rintro ⟨h1, h2⟩
      rcases hfb.out with ⟨_, h⟩ | ⟨h, _⟩
      · rw [h] at h2; simp at h2
      · exact hq ⟨h1, h⟩
    have hzV' : w.heap.size + 3 ≤ V.heap.size := by have := hBV.size; omega
    have hvl : w.heap.size < V.heap.size := by omega
    clear hq hfb
    rcases hq2 with hhs | ⟨hhs, rfl⟩
    all_goals
      have hhs' := Lib.hid hhs
      go_wp2_with fail
      go_loopw [31] (fun i wr => ∃ (k : Nat) (vv : Value) (es : List Ty), k ≤ l.length ∧ i = .int .i64 k ∧ Hid (es = (l.take k).map (withT F)) ∧ Hid (OutIs (fun b => X b ∨ b = w.heap.size + 1) wr V.heap.size s n vv k es) ∧ Below V.heap.size V wr) (fun i _ => l.length - (intOf i).toNat)
      case atStart => exact ⟨0, _, [], by omega, rfl, rfl, OutIs.new rfl, (Below.refl _ _).alloc (Nat.le_refl _) _⟩
      case round =>
        clear k0 k1 k2 x0 x1 x2 r0 r1 r2 rf0 rf1 rf2
        obtain ⟨k, vv, es, hk, rfl, hes, hO, hBr⟩ := hrel
        obtain ⟨va, vc, rfl, hvn⟩ := hO.out.form
        have hlt := hO.out.lt
        have hwr := hwV.out.trans (hBr.mono (by omega))
        by_cases h1 : k < l.length
        · obtain ⟨b, off, rfl, harg⟩ := hr'.out.arg (by rintro rfl; simp at h1)
          obtain ⟨a2, c2, g0, g1, g2, ge⟩ := harg k h1
          have hK : Keeps w wr := Keeps.of_below hwr
          replace g0 := hK _ _ g0
          replace g1 := hK _ _ g1
          replace g2 := hK _ _ g2
          obtain ⟨hc0, hc1, hc2, hcf⟩ := hO.out.cells
          obtain ⟨hblk, cs, hesl, hown, hcs⟩ := hO.out
          have hown' := Lib.hid hown
          have hcs' := Lib.hid hcs
          have hesl' := Lib.hid hesl
          have hout : Hid (∀ b, b < w.heap.size → ((X b ∨ b = w.heap.size + 1) ∨ b = V.heap.size ∨ (Value.slice va k vc).ownBlock = some b) → X b) := by
            rintro b hb ((h | h) | h | h)
            · exact h
            · omega
            · omega
            · have := (hO.out.own h).1; omega
          have hXw : Hid (∀ W : World, wr.heap.size ≤ W.heap.size → ∀ b, ((X b ∨ b = w.heap.size + 1) ∨ b = V.heap.size ∨ (Value.slice va k vc).ownBlock = some b) → b < W.heap.size) := by
            rintro W hW b ((h | h) | h | h)
            · have := hX'.out b h; have := hwr.size; omega
            · omega
            · omega
            · have := (hO.out.own h).2; omega
          have hb1 : Hid (Below wr.heap.size wr (wr.alloc (.cells #[.string l[k].name, .int .i64 l[k].n, .slice a2 l[k].args.length c2] 25))) := (Below.refl _ _).alloc (Nat.le_refl _) _
          have hcall : Hid (∀ W, Below wr.heap.size wr W → Calls Tryz.prog 75 #[mv, .agg #[.string l[k].name, .int .i64 l[k].n, .slice a2 l[k].args.length c2]] W fun r w' => ∃ us un ua um uc, r = .returned (.agg #[.string us, .int .i64 un, .slice ua um uc]) ∧ TyX (fun b => (X b ∨ b = w.heap.size + 1) ∨ b = V.heap.size ∨ (Value.slice va k vc).ownBlock = some b) w' (.agg #[.string us, .int .i64 un, .slice ua um uc]) (withT F l[k]) ∧ Below W.heap.size W w') := by
            intro W hW
            have hwW := hwr.trans (hW.mono (by have := hwr.size; omega))
            refine (ih'.out _ (List.getElem_mem h1) _ _ mv F W (TyX.later (KeepsBut.of_below hwW) hout.out ge) (hm'.out.later hwW hout.out) (hXw.out W hW.size) (hcn.out _ (List.getElem_mem h1))).mono ?_
            rintro r w' ⟨u, rfl, hu, hB⟩
            obtain ⟨a, c, rfl⟩ := hu.form
            exact ⟨_, _, _, _, _, rfl, hu, hB⟩
          have ta := Tryz.isAgg25
          obtain ⟨q0, q1, q2⟩ := box3 (w := wr) (v0 := .string l[k].name) (v1 := .int .i64 l[k].n) (v2 := .slice a2 l[k].args.length c2) (t := 25) (Below.refl _ _)
          obtain ⟨i0, hi, hz0, hz1', hz2'⟩ := info_of Tryz.infoTy
          clear harg ge hown hcs hesl hblk hK
          go_wp2_with fail
          go_region_law (first | (refine step_append_lies _ (by rfl) _ _ _ (by rfl) (V.heap.size + 1) 25 i0 (.agg #[.string ⟨#[]⟩, .int .i64 0, .slice none 0 0]) 3 48 Tryz.underlying23 hi hz0 hz1' hz2' rfl (by omega) (.slice va k vc) _ _ (by rfl) ((ownsRow_heap hown'.out (fun g hg => hbw1.block g (ownBlock_ge hown'.out hg).2)).alloc _) ⟨w1.heap.size, 0, none⟩ 1 1 [.string us, .int .i64 un, .slice ua um uc] (by rfl) (by rfl) (cell_three_new _ _ _ _ _) (by simp [Value.oneCell']) (by omega) (by unfold maxLen; omega) (by omega) (by simp; have := hbw1.size; omega) (w1.heap.size + 1) (by simp) ?_; intro gg cap w2 hown2 hg2 hat hlt2; have hba := hbw1.alloc hbw1.size (.cells #[.string us, .int .i64 un, .slice ua um uc] 25); obtain ⟨hc2', hf2'⟩ := hO.out.mid hba hg2; have hst := Lib.hid (hO.out.step hba (TyX.below hu'.out ((Below.refl _ _).alloc (Nat.le_refl _) _)) hg2 hesl'.out hown'.out hcs'.out hown2 (hat.imp (fun e => e.symm) (fun e g hg => by simp [Value.ownBlock] at hg; simp; omega))); clear hown2 hg2 hat hlt2) | (go_simp; go_at_call 75; refine (hcall.out _ hb1.out.drew).mono ?_; rintro e w1 ⟨us, un, ua, um, uc, rfl, hu, hB1⟩; have hbw1 := hb1.out.drew.trans (hB1.mono (by simp [World.drew])); have j0 := Keeps.of_below hbw1 _ _ hc2; have hzw1 : V.heap.size < w1.heap.size := cell_block j0; have hu' := Lib.hid hu; clear hB1 hu))
          all_goals
            go_wp2_with fail
            go_roundw
            case rel => exact ⟨k + 1, _, es ++ [withT F l[k]], by omega, by go_num, by unfold Hid; rw [hes.out, List.take_succ_eq_append_getElem h1, List.map_append, List.map_cons, List.map_nil], hst.out.1, hBr.trans hst.out.2.1⟩
            case measure => simp [intOf]; omega
        · have e : k = l.length := by omega
          obtain ⟨hc0, hc1, hc2, hcf⟩ := hO.out.cells
          have hdone := Lib.hid (hO.out.done (fun b hb => by
            rcases hb with hb | hb
            · have := hX'.out b hb; omega
            · omega) hs'.out (by have := hl'.out; unfold lenMax at this ⊢; omega) hn)
          have hes2 : Hid (es = l.map (withT F)) := by unfold Hid; rw [hes.out, e, List.take_length]
          have hrr := Lib.hid (hres'.out wr ((hbV.mono (by omega)).trans (hBr.mono (by omega))))
          obtain ⟨r0, r1, r2⟩ := cells_of hrr.out
          have rf0 := frozen_of hrr.out 0
          have rf1 := frozen_of hrr.out 1
          have rf2 := frozen_of hrr.out 2
          clear e
          go_wp2_with fail
          have hU := set_box3 hrr.out (.string s) (.int .i64 n) (.slice va k vc)
          change bodyPost _ _ _ _ _ (World.box3 wr (w.heap.size + 1) (.string s) (.int .i64 n) (.slice va k vc))
          generalize World.box3 wr (w.heap.size + 1) (.string s) (.int .i64 n) (.slice va k vc) = U at hU ⊢
          obtain ⟨⟨u0, u1, u2⟩, hBU, -, hUk⟩ := hU
          clear r0 r1 r2 hc0 hc1 hc2
          refine bodyPost_ret (results_ty rfl _ _ rfl u0 u1 u2) rfl ?_
          refine ⟨_, rfl, ?_, hwr.trans (hBU.mono (by omega))⟩
          rw [hcont.out, ← hes2.out]
          exact TyX.later (hUk.wider fun c hc => .inr hc) (fun c _ hc => .inl hc) hdone.out
end Go.Proofs.YtnfclcfcpgfajaaGreatDoor

/- A type with facts in places, by the reference, walked. -/
namespace Go.Proofs.YtnfclcfcpgfajaaGreatDoor
open Go.RowKit

set_option maxHeartbeats 4000000 in
set_option maxRecDepth 100000 in
theorem r08_put (L : List Fa) : ∀ (e : Ty) (v : Value) (X : Nat → Prop) (aL : Option Addr) (cL : Nat) (w : World), TyX X w v e → FaRow X w aL L → L.length ≤ lenMax → (∀ b, X b → b < w.heap.size) → tcnt e ≤ 100000 →
    Calls Tryz.prog 106 #[.slice aL L.length cL, v] w fun r w' => ∃ u, r = .returned u ∧ TyX X w' u (putT L e) ∧ Below w.heap.size w w' := by
  refine Ty.ind fun s n l ih v X aL cL w hv hm hLl hX hcnt => ?_
  have hlc : l.length ≤ 100000 := by have := tcntL_len l; simp only [tcnt] at hcnt; omega
  have hcn : Hid (∀ e ∈ l, tcnt e ≤ 100000) := fun e he => by have := tcntL_mem he; simp only [tcnt] at hcnt; omega
  clear hcnt
  obtain ⟨a1, c1, rfl, hc, hn, hs, hl, hr⟩ := hv.open
  have hs' := Lib.hid hs
  have hl' := Lib.hid hl
  have hLl' := Lib.hid hLl
  unfold lenMax at hl hs hLl
  obtain ⟨W1, hW1⟩ : ∃ W, ((w.alloc (.cells #[.string s, .int .i64 n, .slice a1 l.length c1] 25)).alloc (.cells #[.string ⟨#[]⟩, .int .i64 0, .slice none 0 0] 25)) = W := ⟨_, rfl⟩
  have hz1 : W1.heap.size = w.heap.size + 2 := by rw [← hW1]; simp
  have hb1 : Below w.heap.size w W1 := by rw [← hW1]; exact ((Below.refl _ w).alloc (Nat.le_refl _) _).alloc (by simp) _
  have hcells : ∀ V, Below (w.heap.size + 1) W1 V → V.cell? ⟨w.heap.size, 0, none⟩ = some (.string s) ∧ V.cell? ⟨w.heap.size, 1, none⟩ = some (.int .i64 n) ∧ V.cell? ⟨w.heap.size, 2, none⟩ = some (.slice a1 l.length c1) := by
    intro V hV
    have g1 : Below (w.heap.size + 1) (w.alloc (.cells #[.string s, .int .i64 n, .slice a1 l.length c1] 25)) W1 := by rw [← hW1]; exact (Below.refl _ _).alloc (by simp) _
    exact box3 (g1.trans hV)
  obtain ⟨k0, k1, k2⟩ := hcells W1 (Below.refl _ _)
  have hH : Hid (∀ V : World, Calls Tryz.prog 180 #[.agg #[.string s, .int .i64 n, .slice a1 l.length c1]] V fun r V' => r = .returned (.bool (holeS s)) ∧ Below V.heap.size V V') := fun V => r08_hole s n a1 l.length c1 V
  have hm' := Lib.hid hm
  have hr' := Lib.hid hr
  have ih' := Lib.hid ih
  have hX' := Lib.hid hX
  have hW1' := Lib.hid hW1
  have hb1' := Lib.hid hb1
  have hcells' := Lib.hid hcells
  have hres' : Hid (∀ U, Below (w.heap.size + 2) W1 U → U.heap[w.heap.size + 1]? = some (.cells #[.string ⟨#[]⟩, .int .i64 0, .slice none 0 0] 25 (0, 0))) := by
    intro U hU
    rw [← hW1'.out] at hU
    exact new_block2 hU
  clear hv hm hr ih hX hW1 hb1 hcells
  go_enter Tryz.func106, Tryz.ntmps106
  go_wp2_with fail
  rw [hW1'.out]
  refine (hH.out _).mono ?_
  rintro r V ⟨rfl, hBV⟩
  have hbV : Below W1.heap.size W1 V := hBV
  obtain ⟨k0, k1, k2⟩ := hcells'.out _ (hbV.mono (by omega))
  have hrV := Lib.hid (hres'.out V (hbV.mono (by omega)))
  obtain ⟨r0, r1, r2⟩ := cells_of hrV.out
  have rf0 := frozen_of hrV.out 0
  have rf1 := frozen_of hrV.out 1
  have rf2 := frozen_of hrV.out 2
  have hwV := Lib.hid (hb1'.out.trans (hbV.mono (by omega)))
  have hzV : W1.heap.size ≤ V.heap.size := hbV.size
  have hvl : w.heap.size < V.heap.size := by omega
  cases hhs : holeS s
  · have hcont : Hid (putT L (.mk s n l) = .mk s 0 (l.map (putT L))) := by
      unfold Hid
      rw [putT, if_neg (by rw [hhs]; simp), putL_map]
    have hhs' := Lib.hid hhs
    have x0 : True := trivial
    have x1 : True := trivial
    have x2 : True := trivial
    go_wp2_with fail
    go_loopw [7] (fun i wr => ∃ (k : Nat) (vv : Value) (es : List Ty), k ≤ l.length ∧ i = .int .i64 k ∧ Hid (es = (l.take k).map (putT L)) ∧ Hid (OutIs (fun b => X b ∨ b = w.heap.size + 1) wr V.heap.size s 0 vv k es) ∧ Below V.heap.size V wr) (fun i _ => l.length - (intOf i).toNat)
    case atStart => exact ⟨0, _, [], by omega, rfl, rfl, OutIs.new rfl, (Below.refl _ _).alloc (Nat.le_refl _) _⟩
    case round =>
      clear k0 k1 k2 x0 x1 x2 r0 r1 r2 rf0 rf1 rf2
      obtain ⟨k, vv, es, hk, rfl, hes, hO, hBr⟩ := hrel
      obtain ⟨va, vc, rfl, hvn⟩ := hO.out.form
      have hlt := hO.out.lt
      have hwr := hwV.out.trans (hBr.mono (by omega))
      have hbr : Below (w.heap.size + 1) W1 wr := (hbV.mono (by omega)).trans (hBr.mono (by omega))
      obtain ⟨k0, k1, k2⟩ := hcells'.out _ hbr
      have hwl : w.heap.size < wr.heap.size := by have := hBr.size; omega
      by_cases h1 : k < l.length
      · obtain ⟨b, off, rfl, harg⟩ := hr'.out.arg (by rintro rfl; simp at h1)
        obtain ⟨a2, c2, g0, g1, g2, ge⟩ := harg k h1
        have hK : Keeps w wr := Keeps.of_below hwr
        replace g0 := hK _ _ g0
        replace g1 := hK _ _ g1
        replace g2 := hK _ _ g2
        obtain ⟨hc0, hc1, hc2, hcf⟩ := hO.out.cells
        obtain ⟨hblk, cs, hesl, hown, hcs⟩ := hO.out
        have hown' := Lib.hid hown
        have hcs' := Lib.hid hcs
        have hesl' := Lib.hid hesl
        have hout : Hid (∀ b, b < w.heap.size → ((X b ∨ b = w.heap.size + 1) ∨ b = V.heap.size ∨ (Value.slice va k vc).ownBlock = some b) → X b) := by
          rintro b hb ((h | h) | h | h)
          · exact h
          · omega
          · omega
          · have := (hO.out.own h).1; omega
        have hXw : Hid (∀ W : World, wr.heap.size ≤ W.heap.size → ∀ b, ((X b ∨ b = w.heap.size + 1) ∨ b = V.heap.size ∨ (Value.slice va k vc).ownBlock = some b) → b < W.heap.size) := by
          rintro W hW b ((h | h) | h | h)
          · have := hX'.out b h; have := hwr.size; omega
          · omega
          · omega
          · have := (hO.out.own h).2; omega
        have hb1 : Hid (Below wr.heap.size wr wr) := Below.refl _ _
        have hki : (k : Int) < (l.length : Int) := by omega
        have hcall : Hid (∀ W, Below wr.heap.size wr W → Calls Tryz.prog 106 #[.slice aL L.length cL, .agg #[.string l[k].name, .int .i64 l[k].n, .slice a2 l[k].args.length c2]] W fun r w' => ∃ us un ua um uc, r = .returned (.agg #[.string us, .int .i64 un, .slice ua um uc]) ∧ TyX (fun b => (X b ∨ b = w.heap.size + 1) ∨ b = V.heap.size ∨ (Value.slice va k vc).ownBlock = some b) w' (.agg #[.string us, .int .i64 un, .slice ua um uc]) (putT L l[k]) ∧ Below W.heap.size W w') := by
          intro W hW
          have hwW := hwr.trans (hW.mono (by have := hwr.size; omega))
          refine (ih'.out _ (List.getElem_mem h1) _ _ aL cL W (TyX.later (KeepsBut.of_below hwW) hout.out ge) (FaRow.later (KeepsBut.of_below hwW) hout.out hm'.out) hLl'.out (hXw.out W hW.size) (hcn.out _ (List.getElem_mem h1))).mono ?_
          rintro r w' ⟨u, rfl, hu, hB⟩
          obtain ⟨a, c, rfl⟩ := hu.form
          exact ⟨_, _, _, _, _, rfl, hu, hB⟩
        have ta := Tryz.isAgg25
        obtain ⟨i0, hi, hz0, hz1', hz2'⟩ := info_of Tryz.infoTy
        clear harg ge hown hcs hesl hblk hK
        go_wp2_with fail
        go_region_law (first | (refine step_append_lies _ (by rfl) _ _ _ (by rfl) (V.heap.size + 1) 25 i0 (.agg #[.string ⟨#[]⟩, .int .i64 0, .slice none 0 0]) 3 48 Tryz.underlying23 hi hz0 hz1' hz2' rfl (by omega) (.slice va k vc) _ _ (by rfl) ((ownsRow_heap hown'.out (fun g hg => hbw1.block g (ownBlock_ge hown'.out hg).2)).alloc _) ⟨w1.heap.size, 0, none⟩ 1 1 [.string us, .int .i64 un, .slice ua um uc] (by rfl) (by rfl) (cell_three_new _ _ _ _ _) (by simp [Value.oneCell']) (by omega) (by unfold maxLen; omega) (by omega) (by simp; have := hbw1.size; omega) (w1.heap.size + 1) (by simp) ?_; intro gg cap w2 hown2 hg2 hat hlt2; have hba := hbw1.alloc hbw1.size (.cells #[.string us, .int .i64 un, .slice ua um uc] 25); obtain ⟨hc2', hf2'⟩ := hO.out.mid hba hg2; have hst := Lib.hid (hO.out.step hba (TyX.below hu'.out ((Below.refl _ _).alloc (Nat.le_refl _) _)) hg2 hesl'.out hown'.out hcs'.out hown2 (hat.imp (fun e => e.symm) (fun e g hg => by simp [Value.ownBlock] at hg; simp; omega))); clear hown2 hg2 hat hlt2) | (go_simp; go_at_call 106; refine (hcall.out _ hb1.out.drew).mono ?_; rintro e w1 ⟨us, un, ua, um, uc, rfl, hu, hB1⟩; have hbw1 := hb1.out.drew.trans (hB1.mono hb1.out.drew.size); have j0 := Keeps.of_below hbw1 _ _ hc2; have hzw1 : V.heap.size < w1.heap.size := cell_block j0; have hu' := Lib.hid hu; clear hB1 hu))
        all_goals
          go_wp2_with fail
          go_roundw
          case rel => exact ⟨k + 1, _, es ++ [putT L l[k]], by omega, by go_num, by unfold Hid; rw [hes.out, List.take_succ_eq_append_getElem h1, List.map_append, List.map_cons, List.map_nil], hst.out.1, hBr.trans hst.out.2.1⟩
          case measure => simp [intOf]; omega
      · have e : k = l.length := by omega
        obtain ⟨hc0, hc1, hc2, hcf⟩ := hO.out.cells
        have hdone := Lib.hid (hO.out.done (fun b hb => by
          rcases hb with hb | hb
          · have := hX'.out b hb; omega
          · omega) hs'.out (by have := hl'.out; unfold lenMax at this ⊢; omega) ⟨by omega, by omega⟩)
        have hes2 : Hid (es = l.map (putT L)) := by unfold Hid; rw [hes.out, e, List.take_length]
        have hrr := Lib.hid (hres'.out wr ((hbV.mono (by omega)).trans (hBr.mono (by omega))))
        obtain ⟨r0, r1, r2⟩ := cells_of hrr.out
        have rf0 := frozen_of hrr.out 0
        have rf1 := frozen_of hrr.out 1
        have rf2 := frozen_of hrr.out 2
        clear e
        go_wp2_with fail
        have hU := set_box3 hrr.out (.string s) (.int .i64 0) (.slice va k vc)
        change bodyPost _ _ _ _ _ (World.box3 wr (w.heap.size + 1) (.string s) (.int .i64 0) (.slice va k vc))
        generalize World.box3 wr (w.heap.size + 1) (.string s) (.int .i64 0) (.slice va k vc) = U at hU ⊢
        obtain ⟨⟨u0, u1, u2⟩, hBU, -, hUk⟩ := hU
        clear r0 r1 r2 hc0 hc1 hc2
        refine bodyPost_ret (results_ty rfl _ _ rfl u0 u1 u2) rfl ?_
        refine ⟨_, rfl, ?_, hwr.trans (hBU.mono (by omega))⟩
        rw [hcont.out, ← hes2.out]
        exact TyX.later (hUk.wider fun c hc => .inr hc) (fun c _ hc => .inl hc) hdone.out
  · have hfact := Lib.hid (r08_fact X L aL cL n V hLl'.out (FaRow.keeps (Keeps.of_below hwV.out) hm'.out))
    have hhs' := Lib.hid hhs
    clear hhs
    go_wp2_with fail
    refine hfact.out.mono ?_
    rintro r V2 ⟨⟨i, rfl, hi⟩, hB2⟩
    have hbV2 : Below W1.heap.size W1 V2 := hbV.trans (hB2.mono hbV.size)
    clear k0 k1 k2 r0 r1 r2 rf0 rf1 rf2 hrV
    obtain ⟨k0, k1, k2⟩ := hcells'.out _ (hbV2.mono (by omega))
    have hrV := Lib.hid (hres'.out V2 (hbV2.mono (by omega)))
    obtain ⟨r0, r1, r2⟩ := cells_of hrV.out
    have rf0 := frozen_of hrV.out 0
    have rf1 := frozen_of hrV.out 1
    have rf2 := frozen_of hrV.out 2
    have hwV2 := Lib.hid (hb1'.out.trans (hbV2.mono (by omega)))
    rcases hi with ⟨rfl, hf⟩ | ⟨j, hj, rfl, hf⟩
    · have hput : Hid (putT L (.mk s n l) = .mk ⟨#[]⟩ n []) := by unfold Hid; rw [putT, if_pos hhs'.out, hf]; rfl
      clear hf
      go_wp2_with fail
      have hU := set_box3 hrV.out (.string ⟨#[]⟩) (.int .i64 n) (.slice none 0 0)
      change bodyPost _ _ _ _ _ (World.box3 V2 (w.heap.size + 1) (.string ⟨#[]⟩) (.int .i64 n) (.slice none 0 0))
      generalize World.box3 V2 (w.heap.size + 1) (.string ⟨#[]⟩) (.int .i64 n) (.slice none 0 0) = U at hU ⊢
      obtain ⟨⟨u0, u1, u2⟩, hBU, -, -⟩ := hU
      clear r0 r1 r2
      refine bodyPost_ret (results_ty rfl _ _ rfl u0 u1 u2) rfl ?_
      refine ⟨_, rfl, ?_, hwV2.out.trans (hBU.mono (by omega))⟩
      rw [hput.out]
      exact TyX.shut (l := []) (fun _ => rfl) hn (show (0 : Nat) ≤ lenMax from Nat.zero_le _) (Nat.zero_le _) (.inl rfl)
    · obtain ⟨b, off, rfl, hat⟩ := hm'.out.at (by rintro rfl; simp at hj)
      obtain ⟨a2, c2, g0, g1, g2, g3, ge, _⟩ := hat j hj
      have hK : Keeps w V2 := Keeps.of_below hwV2.out
      replace g0 := hK _ _ g0
      replace g1 := hK _ _ g1
      replace g2 := hK _ _ g2
      replace g3 := hK _ _ g3
      have hji : (j : Int) < (L.length : Int) := by omega
      have hput : Hid (putT L (.mk s n l) = L[j].ty) := by unfold Hid; rw [putT, if_pos hhs'.out, hf]; rfl
      have hge := Lib.hid ge
      clear hf hat ge hK
      go_wp2_with fail
      have hU := set_box3 hrV.out (.string L[j].ty.name) (.int .i64 L[j].ty.n) (.slice a2 L[j].ty.args.length c2)
      change bodyPost _ _ _ _ _ (World.box3 V2 (w.heap.size + 1) (.string L[j].ty.name) (.int .i64 L[j].ty.n) (.slice a2 L[j].ty.args.length c2))
      generalize World.box3 V2 (w.heap.size + 1) (.string L[j].ty.name) (.int .i64 L[j].ty.n) (.slice a2 L[j].ty.args.length c2) = U at hU ⊢
      obtain ⟨⟨u0, u1, u2⟩, hBU, -, -⟩ := hU
      clear r0 r1 r2
      have hwU := hwV2.out.trans (hBU.mono (by omega))
      have hge2 := TyX.below hge.out hwU
      refine bodyPost_ret (results_ty rfl _ _ rfl u0 u1 u2) rfl ?_
      refine ⟨_, rfl, ?_, hwU⟩
      rw [hput.out]
      exact hge2
end Go.Proofs.YtnfclcfcpgfajaaGreatDoor

/- Rows of facts that are owned. -/
namespace Go.Proofs.YtnfclcfcpgfajaaGreatDoor
open Go.RowKit

theorem FaX.later {X Y : Nat → Prop} {w W : World} (hk : KeepsBut X w W) (hY : ∀ b, b < w.heap.size → Y b → X b) {v : Value} {f : Fa} (h : FaX X w v f) : FaX Y W v f := by
  obtain ⟨v1, v2, v3, h0, h1, h2⟩ := h
  exact ⟨v1, v2, v3, h0, h1, TyX.later hk hY h2⟩
theorem FaX.less {X Y : Nat → Prop} {w : World} {v : Value} {f : Fa} (h : FaX X w v f) (hY : ∀ b, Y b → X b) : FaX Y w v f := FaX.later (KeepsBut.refl _ _) (fun b _ h => hY b h) h
/-- The cells of a row of facts that is owned. -/
def FaCells (X : Nat → Prop) (w : World) (cs : List Value) (es : List Fa) : Prop :=
  ∀ i (h : i < es.length), ∃ v0 v1 v2 v3, cs[i * 4]? = some v0 ∧ cs[i * 4 + 1]? = some v1 ∧ cs[i * 4 + 2]? = some v2 ∧ cs[i * 4 + 3]? = some v3 ∧ FaX X w (.agg #[v0, v1, v2, v3]) es[i]
theorem FaCells.later {X Y : Nat → Prop} {w W : World} {cs : List Value} {es : List Fa} (h : FaCells X w cs es) (hk : KeepsBut X w W) (hY : ∀ b, b < w.heap.size → Y b → X b) : FaCells Y W cs es := fun i hi => by
  obtain ⟨v0, v1, v2, v3, c0, c1, c2, c3, hx⟩ := h i hi
  exact ⟨v0, v1, v2, v3, c0, c1, c2, c3, FaX.later hk hY hx⟩
theorem FaCells.snoc {X : Nat → Prop} {w : World} {cs : List Value} {es : List Fa} {u0 u1 u2 u3 : Value} {e : Fa} (h : FaCells X w cs es) (hl : cs.length = es.length * 4) (he : FaX X w (.agg #[u0, u1, u2, u3]) e) : FaCells X w (cs ++ [u0, u1, u2, u3]) (es ++ [e]) := by
  intro i hi
  rw [List.length_append] at hi
  by_cases hlt : i < es.length
  · obtain ⟨v0, v1, v2, v3, c0, c1, c2, c3, hx⟩ := h i hlt
    refine ⟨v0, v1, v2, v3, ?_, ?_, ?_, ?_, ?_⟩
    · rw [List.getElem?_append_left (by omega)]; exact c0
    · rw [List.getElem?_append_left (by omega)]; exact c1
    · rw [List.getElem?_append_left (by omega)]; exact c2
    · rw [List.getElem?_append_left (by omega)]; exact c3
    · rw [List.getElem_append_left hlt]; exact hx
  · have hi' : i = es.length := by simp at hi; omega
    subst hi'
    refine ⟨u0, u1, u2, u3, ?_, ?_, ?_, ?_, ?_⟩
    · rw [List.getElem?_append_right (by omega), hl]; simp
    · rw [List.getElem?_append_right (by omega), hl, show es.length * 4 + 1 - es.length * 4 = 1 by omega]; rfl
    · rw [List.getElem?_append_right (by omega), hl, show es.length * 4 + 2 - es.length * 4 = 2 by omega]; rfl
    · rw [List.getElem?_append_right (by omega), hl, show es.length * 4 + 3 - es.length * 4 = 3 by omega]; rfl
    · rw [List.getElem_append_right (by omega)]
      simpa using he
/-- A row of facts that is owned lies there. -/
theorem FaCells.row {X Y : Nat → Prop} {w : World} {base : Nat} {v : Value} {cs : List Value} {es : List Fa} (h : FaCells Y w cs es) (ho : w.ownsRow base 68 4 v es.length cs) (hX : ∀ b, X b → b < base) (hY : ∀ b, X b → Y b) : ∃ a c, v = .slice a es.length c ∧ (a = none → c = 0) ∧ FaRow X w a es := by
  obtain ⟨a, c, rfl, ha⟩ := ownsRow_form ho
  refine ⟨a, c, rfl, ha, ?_⟩
  obtain ⟨hlen, h2 | ⟨g, cap, cur, hv, hb, hh, hnc, _, hsz, htk⟩⟩ := ho
  · exact .inl (List.length_eq_zero_iff.1 h2.2)
  · simp only [Value.slice.injEq, true_and] at hv
    obtain ⟨rfl, rfl⟩ := hv
    refine .inr ⟨g, 0, rfl, fun h => by have := hX _ h; omega, fun i hi => ?_⟩
    obtain ⟨v0, v1, v2, v3, c0, c1, c2, c3, hx⟩ := h i hi
    have cell : ∀ j x, cs[j]? = some x → w.cell? ⟨g, 0 + j, none⟩ = some x := by
      intro j x hj
      rw [← htk] at hj
      have hj' : cur[j]? = some x := by
        rw [List.getElem?_take] at hj
        split at hj
        · simpa using hj
        · cases hj
      simp [World.cell?, hh, hj']
    exact ⟨v0, v1, v2, v3, cell _ _ c0, by simpa [Nat.add_assoc] using cell _ _ c1, by simpa [Nat.add_assoc] using cell _ _ c2, by simpa [Nat.add_assoc] using cell _ _ c3, hx.less hY⟩

theorem cell_four_new {w : World} {B : Nat} (hB : w.heap.size = B) (x y z u : Value) (t : TypeId) : ∀ j v, [x, y, z, u][j]? = some v → (w.alloc (.cells #[x, y, z, u] t)).cell? ((⟨B, 0, none⟩ : Addr).add j) = some v := by
  subst hB
  intro j v hj
  have h : ∀ o v, (#[x, y, z, u] : Array Value)[o]? = some v → (w.alloc (.cells #[x, y, z, u] t)).cell? ⟨w.heap.size, o, none⟩ = some v := by
    intro o v ho
    rw [World.cell?_alloc_at _ _ _ _ rfl]; exact ho
  match j, hj with
  | 0, hj => exact h 0 v (by simpa using hj)
  | 1, hj => exact h 1 v (by simpa using hj)
  | 2, hj => exact h 2 v (by simpa using hj)
  | 3, hj => exact h 3 v (by simpa using hj)
  | j + 4, hj => simp at hj
theorem Tryz.infoFa : (Tryz.prog.info? 68).map (fun i => (i.zero, i.size, i.bytes)) = some (some (.agg #[.int .i64 0, .string ⟨#[]⟩, .int .i64 0, .slice none 0 0]), 4, 56) := by kernel_rfl
end Go.Proofs.YtnfclcfcpgfajaaGreatDoor

/- A type whose holes are numbered by their first place, a type with facts in its places, by the reference. -/
namespace Go.Proofs.YtnfclcfcpgfajaaGreatDoor
open Go.RowKit

def zeroT : Ty := .mk ⟨#[]⟩ 0 []
theorem zeroT_is (w : World) : IsTy w (.agg #[.string ⟨#[]⟩, .int .i64 0, .slice none 0 0]) zeroT := TyX.shut (l := []) (fun _ => rfl) ⟨by omega, by omega⟩ (show (0 : Nat) ≤ lenMax from Nat.zero_le _) (Nat.zero_le _) (.inl rfl)
/-- What each of some holes is: its place in the list. -/
def canonF (l : List Int) : List Fa := l.mapIdx fun i n => ⟨n, .mk ⟨#[]⟩ i []⟩
theorem canonF_take (l : List Int) (k : Nat) (h : k < l.length) : canonF (l.take (k + 1)) = canonF (l.take k) ++ [⟨l[k], .mk ⟨#[]⟩ k []⟩] := by
  rw [List.take_succ_eq_append_getElem h]
  unfold canonF
  rw [List.mapIdx_append]
  simp [List.length_take, Nat.min_eq_left (Nat.le_of_lt h)]
theorem canonF_len (l : List Int) : (canonF l).length = l.length := by simp [canonF]
def canonT (e : Ty) : Ty := if chkT e = true then putT (canonF (holesT e [])) e else zeroT

/-- A result of a type, laid into its cell. -/
theorem ty_kept {X : Nat → Prop} {V U : World} {b : Nat} {v : Value} {e : Ty} (h : TyX (fun c => X c ∨ c = b) V v e) (hk : KeepsBut (fun c => c = b) V U) : TyX X U v e :=
  TyX.later (hk.wider fun c hc => .inr hc) (fun c _ hc => .inl hc) h
theorem In64.of_hole {w : World} {v : Value} {s : Str} {n : Int} {l : List Ty} {X : Nat → Prop} (h : TyX X w v (.mk s n l)) : -9223372036854775808 ≤ n ∧ n ≤ 9223372036854775807 := by
  obtain ⟨_, _, _, _, h, _⟩ := h.open; exact h
/-- The holes of a type that lies in memory are numbers of 64 bits. -/
theorem holes_in64 : ∀ (e : Ty) {X : Nat → Prop} {w : World} {v : Value} (l : List Int), TyX X w v e → (∀ n ∈ l, -9223372036854775808 ≤ n ∧ n ≤ 9223372036854775807) → ∀ n ∈ holesT e l, -9223372036854775808 ≤ n ∧ n ≤ 9223372036854775807 := by
  refine Ty.ind fun s n args ih X w v l hv hl => ?_
  obtain ⟨a, c, _, _, hn, _, _, hr⟩ := hv.open
  have hL : ∀ (r : List Ty) (l : List Int), (∀ e ∈ r, e ∈ args) → (∀ n ∈ l, -9223372036854775808 ≤ n ∧ n ≤ 9223372036854775807) → ∀ n ∈ holesT.holesL r l, -9223372036854775808 ≤ n ∧ n ≤ 9223372036854775807 := by
    intro r
    induction r with
    | nil => intro l _ hl; exact hl
    | cons e r ihr =>
      intro l hm hl
      refine ihr _ (fun x hx => hm x (by simp [hx])) ?_
      have hmem := hm e (by simp)
      obtain ⟨j, hj, rfl⟩ := List.getElem_of_mem hmem
      obtain ⟨b, off, _, hat⟩ := hr.arg (by rintro rfl; simp at hj)
      obtain ⟨_, _, _, _, _, ge⟩ := hat j hj
      exact ih _ (List.getElem_mem hj) l ge hl
  unfold holesT
  split
  · intro m hm
    unfold addI at hm
    split at hm
    · exact hl m hm
    · rcases List.mem_append.1 hm with h | h
      · exact hl m h
      · simp at h; subst h; exact hn
  · exact hL args l (fun _ h => h) hl

def goodF (f : Fa) : Bool := chkT f.ty && decide (0 ≤ f.n)
def applyT (L : List Fa) (e : Ty) : Ty := if (chkT e && L.all goodF) = true then putT L e else zeroT

set_option maxHeartbeats 4000000 in
set_option maxRecDepth 100000 in
theorem r08_Apply (aL : Option Addr) (cL : Nat) (L : List Fa) (e : Ty) (v : Value) (w : World) (hLl : L.length ≤ lenMax) (hL : FaRow (fun _ => False) w aL L) (hv : IsTy w v e) : Calls Tryz.prog 57 #[.slice aL L.length cL, v] w fun r w' => ∃ u, r = .returned u ∧ IsTy w' u (applyT L e) ∧ Below w.heap.size w w' := by
  obtain ⟨s, n, l⟩ := e
  obtain ⟨a1, c1, rfl, _, hn, hs, hl, _⟩ := hv.open
  have hLl' := Lib.hid hLl
  have hL' := Lib.hid hL
  unfold lenMax at hLl
  obtain ⟨W1, hW1⟩ : ∃ W, ((w.alloc (.cells #[.string s, .int .i64 n, .slice a1 l.length c1] 25)).alloc (.cells #[.string ⟨#[]⟩, .int .i64 0, .slice none 0 0] 25)) = W := ⟨_, rfl⟩
  have hz1 : W1.heap.size = w.heap.size + 2 := by rw [← hW1]; simp
  have hb1 : Below w.heap.size w W1 := by rw [← hW1]; exact ((Below.refl _ w).alloc (Nat.le_refl _) _).alloc (by simp) _
  have hcells' : Hid (∀ V, Below (w.heap.size + 1) W1 V → V.cell? ⟨w.heap.size, 0, none⟩ = some (.string s) ∧ V.cell? ⟨w.heap.size, 1, none⟩ = some (.int .i64 n) ∧ V.cell? ⟨w.heap.size, 2, none⟩ = some (.slice a1 l.length c1)) := by
    intro V hV
    have g1 : Below (w.heap.size + 1) (w.alloc (.cells #[.string s, .int .i64 n, .slice a1 l.length c1] 25)) W1 := by rw [← hW1]; exact (Below.refl _ _).alloc (by simp) _
    exact box3 (g1.trans hV)
  have hres' : Hid (∀ U, Below (w.heap.size + 2) W1 U → U.heap[w.heap.size + 1]? = some (.cells #[.string ⟨#[]⟩, .int .i64 0, .slice none 0 0] 25 (0, 0))) := by
    intro U hU
    rw [← hW1] at hU
    exact new_block2 hU
  have hW1' := Lib.hid hW1
  have hb1' := Lib.hid hb1
  have hv0 := Lib.hid hv
  obtain ⟨k0, k1, k2⟩ := hcells'.out W1 (Below.refl _ _)
  clear hW1
  have hc := Lib.hid (r08_Check (.mk s n l) _ W1 (hv0.out.below hb1'.out))
  clear hv hL
  obtain ⟨b0, hb0⟩ : ∃ b, chkT (.mk s n l) = b := ⟨_, rfl⟩
  rw [hb0] at hc
  have hb0' := Lib.hid hb0
  clear hb0
  go_enter Tryz.func57, Tryz.ntmps57
  go_wp2_with fail
  rw [hW1'.out]
  refine hc.out.mono ?_
  rintro e V ⟨rfl, hBV⟩
  have hbV : Below (w.heap.size + 2) W1 V := hBV.mono (by omega)
  clear hBV k0 k1 k2
  go_wp2_with fail
  go_loopw [5, 6, 7] (fun o i _ wr => ∃ (k : Nat) (ob : Bool), k ≤ L.length ∧ i = .int .i64 k ∧ o = .bool ob ∧ Hid (ob = (b0 && (L.take k).all goodF)) ∧ Below (w.heap.size + 2) W1 wr) (fun _ i _ _ => L.length - (intOf i).toNat)
  case atStart => exact ⟨0, b0, by omega, rfl, rfl, by unfold Hid; simp, hbV⟩
  case round =>
    obtain ⟨k, ob, hk, rfl, rfl, hob, hB⟩ := hrel
    have hwr := Lib.hid (hb1'.out.trans (hB.mono (by omega)))
    have hzr := hB.size
    by_cases h1 : k < L.length
    · obtain ⟨b, off, rfl, hat⟩ := (FaRow.keeps (Keeps.of_below hwr.out) hL'.out).at (by rintro rfl; simp at h1)
      obtain ⟨a2, c2, g0, g1, g2, g3, ge, _⟩ := hat k h1
      have hcall := Lib.hid (r08_Check L[k].ty _ wr ge)
      have hg0 : Hid (∀ V, Below wr.heap.size wr V → V.cell? ⟨b, off + k * 4, none⟩ = some (.int .i64 L[k].n)) := fun V hb => Keeps.of_below hb _ _ g0
      have hstep : Hid ((b0 && (L.take (k + 1)).all goodF) = (ob && (chkT L[k].ty && decide (0 ≤ L[k].n)))) := by
        unfold Hid
        rw [List.take_succ_eq_append_getElem h1, List.all_append, ← Bool.and_assoc, ← hob.out]
        simp [goodF]
      have hki : (k : Int) < (L.length : Int) := by omega
      clear hat ge
      obtain ⟨m, hm⟩ : ∃ m, chkT L[k].ty = m := ⟨_, rfl⟩
      obtain ⟨p, hp⟩ : ∃ p, L[k].n = p := ⟨_, rfl⟩
      rw [hm] at hcall
      rw [hm, hp] at hstep
      rw [hp] at hg0
      clear hm hp
      cases ob
      · have hnx : Hid (false = (b0 && (L.take (k + 1)).all goodF)) := by unfold Hid; rw [hstep.out]; simp
        go_wp2_with fail
        refine hcall.out.mono ?_
        rintro e w2 ⟨rfl, hB2⟩
        have g0' := hg0.out _ hB2
        have hB2' := hB.trans (hB2.mono (by omega))
        clear hB2 g0
        go_wp2_with fail
        go_roundw
        case rel => exact ⟨k + 1, false, by omega, by go_num, rfl, hnx, hB2'⟩
        case measure => simp [intOf]; omega
      · cases m
        · have hnx : Hid (false = (b0 && (L.take (k + 1)).all goodF)) := by unfold Hid; rw [hstep.out]; simp
          go_wp2_with fail
          refine hcall.out.mono ?_
          rintro e w2 ⟨rfl, hB2⟩
          have g0' := hg0.out _ hB2
          have hB2' := hB.trans (hB2.mono (by omega))
          clear hB2 g0
          go_wp2_with fail
          go_roundw
          case rel => exact ⟨k + 1, false, by omega, by go_num, rfl, hnx, hB2'⟩
          case measure => simp [intOf]; omega
        · have hnx : Hid (decide (0 ≤ p) = (b0 && (L.take (k + 1)).all goodF)) := by unfold Hid; rw [hstep.out]; simp
          go_wp2_with fail
          refine hcall.out.mono ?_
          rintro e w2 ⟨rfl, hB2⟩
          have g0' := hg0.out _ hB2
          have hB2' := hB.trans (hB2.mono (by omega))
          clear hB2 g0
          go_wp2_with fail
          go_roundw
          case rel => exact ⟨k + 1, decide (0 ≤ p), by omega, by go_num, rfl, hnx, hB2'⟩
          case measure => simp [intOf]; omega
    · have e : k = L.length := by omega
      obtain ⟨k0, k1, k2⟩ := hcells'.out _ (hB.mono (by omega))
      have hob2 : Hid (ob = (chkT (.mk s n l) && L.all goodF)) := by unfold Hid; rw [hob.out, e, List.take_length, hb0'.out]
      clear e hob
      cases ob
      · have hT : Hid (applyT L (.mk s n l) = zeroT) := by unfold Hid applyT; rw [← hob2.out]; rfl
        have hrr := Lib.hid (hres'.out wr hB)
        obtain ⟨r0, r1, r2⟩ := cells_of hrr.out
        have rf0 := frozen_of hrr.out 0
        have rf1 := frozen_of hrr.out 1
        have rf2 := frozen_of hrr.out 2
        go_wp2_with fail
        have hU := set_box3 hrr.out (.string ⟨#[]⟩) (.int .i64 0) (.slice none 0 0)
        change bodyPost _ _ _ _ _ (World.box3 wr (w.heap.size + 1) (.string ⟨#[]⟩) (.int .i64 0) (.slice none 0 0))
        generalize World.box3 wr (w.heap.size + 1) (.string ⟨#[]⟩) (.int .i64 0) (.slice none 0 0) = U at hU ⊢
        obtain ⟨⟨u0, u1, u2⟩, hBU, -, hUk⟩ := hU
        clear r0 r1 r2
        refine bodyPost_ret (results_ty rfl _ _ rfl u0 u1 u2) rfl ?_
        exact ⟨_, rfl, by rw [hT.out]; exact zeroT_is _, hwr.out.trans (hBU.mono (by omega))⟩
      · have hT : Hid (applyT L (.mk s n l) = putT L (.mk s n l)) := by unfold Hid applyT; rw [← hob2.out]; rfl
        have hcnt : tcnt (.mk s n l) ≤ 2000 := chk_cnt (by have := hob2.out; simp at this; exact this.1)
        have hput := Lib.hid (r08_put L (.mk s n l) _ (fun c => c = w.heap.size + 1) aL cL wr (TyX.later (KeepsBut.of_below hwr.out) (fun b hb h => by omega) hv0.out) (FaRow.later (KeepsBut.of_below hwr.out) (fun b hb h => by omega) hL'.out) hLl'.out (fun b h => by omega) (by omega))
        go_wp2_with fail
        with_reducible refine hput.out.mono ?_
        rintro e V3 ⟨u, rfl, hu, hB3⟩
        obtain ⟨ua, uc, rfl⟩ := hu.form
        have hu' := Lib.hid hu
        have hbr3 : Below (w.heap.size + 2) W1 V3 := hB.trans (hB3.mono (by omega))
        have hwV3 := Lib.hid (hb1'.out.trans (hbr3.mono (by omega)))
        have hrr := Lib.hid (hres'.out V3 hbr3)
        obtain ⟨r0, r1, r2⟩ := cells_of hrr.out
        have rf0 := frozen_of hrr.out 0
        have rf1 := frozen_of hrr.out 1
        have rf2 := frozen_of hrr.out 2
        clear hu
        generalize (putT L (.mk s n l)).name = us at hu' ⊢
        generalize (putT L (.mk s n l)).n = un at hu' ⊢
        generalize (putT L (.mk s n l)).args.length = um at hu' ⊢
        go_wp2_with fail
        have hU := set_box3 hrr.out (.string us) (.int .i64 un) (.slice ua um uc)
        change bodyPost _ _ _ _ _ (World.box3 V3 (w.heap.size + 1) (.string us) (.int .i64 un) (.slice ua um uc))
        generalize World.box3 V3 (w.heap.size + 1) (.string us) (.int .i64 un) (.slice ua um uc) = U at hU ⊢
        obtain ⟨⟨u0, u1, u2⟩, hBU, -, hUk⟩ := hU
        clear r0 r1 r2
        refine bodyPost_ret (results_ty rfl _ _ rfl u0 u1 u2) rfl ?_
        refine ⟨_, rfl, ?_, hwV3.out.trans (hBU.mono (by omega))⟩
        rw [hT.out]
        exact ty_kept (X := fun _ => False) (hu'.out.less fun b hb => hb.elim (fun h => h.elim) id) hUk
end Go.Proofs.YtnfclcfcpgfajaaGreatDoor
