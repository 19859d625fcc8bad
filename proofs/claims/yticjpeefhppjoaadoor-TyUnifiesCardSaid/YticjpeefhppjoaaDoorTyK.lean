/- A type under way: its box, and the row of its args. -/
import Derived.Test.YticjpeefhppjoaaDoorTyC
import Derived.Maps.AppendAt
import Derived.Deep.AppendLies
import Derived.Deep.RegionLaw
import Derived.Deep.RegionHeld3
namespace Go.Proofs.YticjpeefhppjoaaDoor
open Go.RowKit

theorem ownBlock_ge {w : World} {base : Nat} {e : TypeId} {size : Nat} {v : Value} {n : Nat} {xs : List Value} (h : w.ownsRow base e size v n xs) {g : Nat} (hg : v.ownBlock = some g) : base ≤ g ∧ g < w.heap.size := by
  obtain ⟨_, h | ⟨g', cap, cur, h, hb, hh, _⟩⟩ := h
  · rw [h.1] at hg; cases hg
  · rw [h] at hg
    simp only [Value.ownBlock, Option.some.injEq] at hg
    subst hg
    exact ⟨hb, (Array.getElem?_eq_some_iff.1 hh).1⟩
theorem ownsRow_heap {w w' : World} {base : Nat} {e : TypeId} {size : Nat} {v : Value} {n : Nat} {xs : List Value} (h : w.ownsRow base e size v n xs) (hk : ∀ g, v.ownBlock = some g → w'.heap[g]? = w.heap[g]?) : w'.ownsRow base e size v n xs := by
  obtain ⟨h1, h2⟩ := h
  refine ⟨h1, ?_⟩
  rcases h2 with h2 | ⟨g, cap, cur, hv, hb, hh, r⟩
  · exact .inl h2
  · exact .inr ⟨g, cap, cur, hv, hb, by rw [hk g (by rw [hv]; rfl)]; exact hh, r⟩
theorem ownsRow_form {w : World} {base : Nat} {e : TypeId} {size : Nat} {v : Value} {n : Nat} {xs : List Value} (h : w.ownsRow base e size v n xs) : ∃ a c, v = .slice a n c ∧ (a = none → c = 0) := by
  obtain ⟨_, h | ⟨g, cap, cur, hv, _, _, h1, h2, _⟩⟩ := h
  · exact ⟨none, 0, by rw [h.1, h.2], fun _ => rfl⟩
  · exact ⟨some ⟨g, 0, none⟩, cap, hv, (by simp)⟩

/-- The cells of a row of types that is owned. -/
def TyCells (X : Nat → Prop) (w : World) (cs : List Value) (es : List Ty) : Prop :=
  ∀ i (h : i < es.length), ∃ v0 v1 v2, cs[i * 3]? = some v0 ∧ cs[i * 3 + 1]? = some v1 ∧ cs[i * 3 + 2]? = some v2 ∧ TyX X w (.agg #[v0, v1, v2]) es[i]
theorem TyCells.later {X Y : Nat → Prop} {w W : World} {cs : List Value} {es : List Ty} (h : TyCells X w cs es) (hk : KeepsBut X w W) (hY : ∀ b, b < w.heap.size → Y b → X b) : TyCells Y W cs es := fun i hi => by
  obtain ⟨v0, v1, v2, c0, c1, c2, hx⟩ := h i hi
  exact ⟨v0, v1, v2, c0, c1, c2, TyX.later hk hY hx⟩
theorem TyCells.snoc {X : Nat → Prop} {w : World} {cs : List Value} {es : List Ty} {u0 u1 u2 : Value} {e : Ty} (h : TyCells X w cs es) (hl : cs.length = es.length * 3) (he : TyX X w (.agg #[u0, u1, u2]) e) : TyCells X w (cs ++ [u0, u1, u2]) (es ++ [e]) := by
  intro i hi
  rw [List.length_append] at hi
  by_cases hlt : i < es.length
  · obtain ⟨v0, v1, v3, c0, c1, c2, hx⟩ := h i hlt
    refine ⟨v0, v1, v3, ?_, ?_, ?_, ?_⟩
    · rw [List.getElem?_append_left (by omega)]; exact c0
    · rw [List.getElem?_append_left (by omega)]; exact c1
    · rw [List.getElem?_append_left (by omega)]; exact c2
    · rw [List.getElem_append_left hlt]; exact hx
  · have hi' : i = es.length := by simp at hi; omega
    subst hi'
    refine ⟨u0, u1, u2, ?_, ?_, ?_, ?_⟩
    · rw [List.getElem?_append_right (by omega), hl]; simp
    · rw [List.getElem?_append_right (by omega), hl, show es.length * 3 + 1 - es.length * 3 = 1 by omega]; rfl
    · rw [List.getElem?_append_right (by omega), hl, show es.length * 3 + 2 - es.length * 3 = 2 by omega]; rfl
    · rw [List.getElem_append_right (by omega)]
      simpa using he
/-- A row of types that is owned lies there. -/
theorem TyCells.row {X Y : Nat → Prop} {w : World} {base : Nat} {v : Value} {cs : List Value} {es : List Ty} (h : TyCells Y w cs es) (ho : w.ownsRow base 24 3 v es.length cs) (hX : ∀ b, X b → b < base) (hY : ∀ b, X b → Y b) : ∃ a c, v = .slice a es.length c ∧ (a = none → c = 0) ∧ TyRow X w a es := by
  obtain ⟨a, c, rfl, ha⟩ := ownsRow_form ho
  refine ⟨a, c, rfl, ha, ?_⟩
  obtain ⟨hlen, h2 | ⟨g, cap, cur, hv, hb, hh, hnc, _, hsz, htk⟩⟩ := ho
  · exact .inl (List.length_eq_zero_iff.1 h2.2)
  · simp only [Value.slice.injEq, true_and] at hv
    obtain ⟨rfl, rfl⟩ := hv
    refine .inr ⟨g, 0, rfl, fun h => by have := hX _ h; omega, fun i hi => ?_⟩
    obtain ⟨v0, v1, v2, c0, c1, c2, hx⟩ := h i hi
    have cell : ∀ j x, cs[j]? = some x → w.cell? ⟨g, 0 + j, none⟩ = some x := by
      intro j x hj
      rw [← htk] at hj
      have hj' : cur[j]? = some x := by
        rw [List.getElem?_take] at hj
        split at hj
        · simpa using hj
        · cases hj
      simp [World.cell?, hh, hj']
    exact ⟨v0, v1, v2, cell _ _ c0, by simpa [Nat.add_assoc] using cell _ _ c1, by simpa [Nat.add_assoc] using cell _ _ c2, hx.less hY⟩
theorem TyCells.get {X : Nat → Prop} {w : World} {base : Nat} {v : Value} {cs : List Value} {es : List Ty} (ho : w.ownsRow base 24 3 v es.length cs) (h : TyCells X w cs es) : True := trivial

/-- A type under way: its box, its args' row behind it. -/
def OutIs (X : Nat → Prop) (w : World) (bp : Nat) (s : Str) (n : Int) (v : Value) (m : Nat) (es : List Ty) : Prop :=
  w.heap[bp]? = some (.cells #[.string s, .int .i64 n, v] 24 (0, 0)) ∧ ∃ cs : List Value, es.length = m ∧ w.ownsRow (bp + 1) 24 3 v m cs ∧ TyCells (fun b => X b ∨ b = bp ∨ v.ownBlock = some b) w cs es

theorem OutIs.lt {X : Nat → Prop} {w : World} {bp : Nat} {s : Str} {n : Int} {v : Value} {m : Nat} {es : List Ty} (h : OutIs X w bp s n v m es) : bp < w.heap.size := (Array.getElem?_eq_some_iff.1 h.1).1
theorem OutIs.own {X : Nat → Prop} {w : World} {bp : Nat} {s : Str} {n : Int} {v : Value} {m : Nat} {es : List Ty} (h : OutIs X w bp s n v m es) {g : Nat} (hg : v.ownBlock = some g) : bp < g ∧ g < w.heap.size := by
  obtain ⟨_, cs, _, h1, _⟩ := h
  have := ownBlock_ge h1 hg
  exact ⟨by omega, this.2⟩
theorem OutIs.form {X : Nat → Prop} {w : World} {bp : Nat} {s : Str} {n : Int} {v : Value} {m : Nat} {es : List Ty} (h : OutIs X w bp s n v m es) : ∃ a c, v = .slice a m c ∧ (a = none → c = 0) := by
  obtain ⟨_, cs, _, h1, _⟩ := h
  exact ownsRow_form h1
theorem OutIs.cells {X : Nat → Prop} {w : World} {bp : Nat} {s : Str} {n : Int} {v : Value} {m : Nat} {es : List Ty} (h : OutIs X w bp s n v m es) : w.cell? ⟨bp, 0, none⟩ = some (.string s) ∧ w.cell? ⟨bp, 1, none⟩ = some (.int .i64 n) ∧ w.cell? ⟨bp, 2, none⟩ = some v ∧ w.frozen? ⟨bp, 2, none⟩ = false := by
  refine ⟨?_, ?_, ?_, ?_⟩ <;> simp [World.cell?, World.frozen?, h.1]
theorem OutIs.new {X : Nat → Prop} {w : World} {s : Str} {n : Int} {bp : Nat} (hbp : w.heap.size = bp) : OutIs X (w.alloc (.cells #[.string s, .int .i64 n, .slice none 0 0] 24)) bp s n (.slice none 0 0) 0 [] := by
  subst hbp
  exact ⟨by simp only [World.alloc]; simp, [], rfl, ⟨by simp, .inl ⟨rfl, rfl⟩⟩, fun i h => by simp at h⟩
theorem OutIs.below {X : Nat → Prop} {w W : World} {bp : Nat} {s : Str} {n : Int} {v : Value} {m : Nat} {es : List Ty} (h : OutIs X w bp s n v m es) (hb : Below w.heap.size w W) : OutIs X W bp s n v m es := by
  have h1 := h.lt
  obtain ⟨h2, cs, hm, h3, h4⟩ := h
  exact ⟨(hb.block bp h1).trans h2, cs, hm, ownsRow_heap h3 fun g hg => hb.block g (ownBlock_ge h3 hg).2, h4.later (KeepsBut.of_below hb) fun b _ h => h⟩
/-- What is under way is done. -/
theorem OutIs.done {X : Nat → Prop} {w : World} {bp : Nat} {s : Str} {n : Int} {v : Value} {m : Nat} {es : List Ty} (h : OutIs X w bp s n v m es) (hX : ∀ b, X b → b < bp) (hs : s.size ≤ lenMax) (hl : m ≤ lenMax) (hn : -9223372036854775808 ≤ n ∧ n ≤ 9223372036854775807) :
    TyX X w (.agg #[.string s, .int .i64 n, v]) (.mk s n es) := by
  obtain ⟨h1, cs, rfl, h2, h3⟩ := h
  obtain ⟨a, c, rfl, ha, hr⟩ := h3.row h2 (X := X) (fun b hb => by have := hX b hb; omega) (fun b hb => .inl hb)
  exact TyX.shut ha hn hs hl hr
/-- Behind an append of one, and the store. -/
theorem OutIs.step {X : Nat → Prop} {w W1 W2 : World} {bp : Nat} {s : Str} {n : Int} {v v2 u0 u1 u2 : Value} {m : Nat} {es : List Ty} {e : Ty} {cs : List Value} (h : OutIs X w bp s n v m es) (hb : Below w.heap.size w W1) (he : TyX (fun b => X b ∨ b = bp ∨ v.ownBlock = some b) W1 (.agg #[u0, u1, u2]) e)
    (hg : W1.grownBy W2 v.ownBlock) (hm : es.length = m) (hcs : w.ownsRow (bp + 1) 24 3 v m cs) (h4 : TyCells (fun b => X b ∨ b = bp ∨ v.ownBlock = some b) w cs es)
    (hown : W2.ownsRow (bp + 1) 24 3 v2 (m + 1) (cs ++ [u0, u1, u2])) (hv2 : v2.ownBlock = v.ownBlock ∨ ∀ g, v2.ownBlock = some g → W1.heap.size ≤ g) :
    OutIs X (W2.setCell ⟨bp, 2, none⟩ v2) bp s n v2 (m + 1) (es ++ [e]) ∧ Below bp w (W2.setCell ⟨bp, 2, none⟩ v2) ∧ KeepsBut (fun b => b = bp ∨ v.ownBlock = some b) w (W2.setCell ⟨bp, 2, none⟩ v2) := by
  have h1 := h.lt
  have hz := hb.size
  have hne : v.ownBlock ≠ some bp := fun e => by have := (h.own e).1; omega
  have hh2 : W2.heap[bp]? = some (.cells #[.string s, .int .i64 n, v] 24 (0, 0)) := by
    rw [hg.block bp (by omega) (Ne.symm hne), hb.block bp h1]; exact h.1
  have hbp : (W2.setCell ⟨bp, 2, none⟩ v2).heap[bp]? = some (.cells #[.string s, .int .i64 n, v2] 24 (0, 0)) := by
    simp [World.setCell, Array.getElem?_modify, hh2]
  have hk1 : ∀ Y : Nat → Prop, (∀ b, b = bp ∨ v.ownBlock = some b → Y b) → KeepsBut Y W1 (W2.setCell ⟨bp, 2, none⟩ v2) := by
    intro Y hY
    refine ⟨by have := hg.size; simp [World.setCell]; omega, fun a x hx hv => ?_⟩
    have hab := cell_block hv
    rw [World.cell?_of_block (Below.heap_setCell W2 ⟨bp, 2, none⟩ v2 a.block (fun e => hx (hY _ (.inl e))))]
    exact (World.cell?_of_block (hg.block a.block hab (fun e => hx (hY _ (.inr e.symm))))).trans hv
  have hout : ∀ b, b < W1.heap.size → (X b ∨ b = bp ∨ v2.ownBlock = some b) → (X b ∨ b = bp ∨ v.ownBlock = some b) := by
    rintro b hb (h | h | h)
    · exact .inl h
    · exact .inr (.inl h)
    · rcases hv2 with e | e
      · exact .inr (.inr (e ▸ h))
      · have := e _ h; omega
  refine ⟨⟨hbp, cs ++ [u0, u1, u2], by rw [List.length_append, hm]; rfl, ?_, ?_⟩, ?_, ?_⟩
  · refine ownsRow_heap hown fun g hg' => ?_
    have := (ownBlock_ge hown hg').1
    exact Below.heap_setCell _ _ _ _ (by simp; omega)
  · refine TyCells.snoc ?_ (by rw [hm]; exact hcs.1) (TyX.later (hk1 _ fun b hb => .inr hb) hout he)
    exact (h4.later (KeepsBut.of_below hb) fun _ _ h => h).later (hk1 _ fun b hb => .inr hb) hout
  · exact (((hb.mono (Nat.le_of_lt h1)).grown hg (by omega) (fun k e => by have := (h.own e).1; omega)).setCell (by simp) _)
  · exact (KeepsBut.of_below hb).trans (hk1 _ fun b hb => hb)
theorem OutIs.mid {X : Nat → Prop} {w W1 W2 : World} {bp : Nat} {s : Str} {n : Int} {v : Value} {m : Nat} {es : List Ty} (h : OutIs X w bp s n v m es) (hb : Below w.heap.size w W1) (hg : W1.grownBy W2 v.ownBlock) : W2.cell? ⟨bp, 2, none⟩ = some v ∧ W2.frozen? ⟨bp, 2, none⟩ = false := by
  have h1 := h.lt
  have hne : v.ownBlock ≠ some bp := fun e => by have := (h.own e).1; omega
  have hh2 : W2.heap[bp]? = some (.cells #[.string s, .int .i64 n, v] 24 (0, 0)) := by
    rw [hg.block bp (by have := hb.size; omega) (Ne.symm hne), hb.block bp h1]; exact h.1
  constructor <;> simp [World.cell?, World.frozen?, hh2]
/-- A result that lies in a cell of its own. -/
theorem results_ty {fn : Func} {t : Tmp} (h : fn.results = #[.cell t 24]) (tmps : Array Value) (w : World) {b : Nat} {x y z : Value} (ha : tmps.getD t undef = .pointer (some ⟨b, 0, none⟩))
    (h0 : w.cell? ⟨b, 0, none⟩ = some x) (h1 : w.cell? ⟨b, 1, none⟩ = some y) (h2 : w.cell? ⟨b, 2, none⟩ = some z) : (results fn tmps).run Tryd.prog w = .ok (.agg #[x, y, z]) w := by
  have e2 := Tryd.isAgg24
  have e3 := Tryd.sizeOf24
  have ha' : tmps[t]?.getD undef = .pointer (some ⟨b, 0, none⟩) := by simpa using ha
  simp [results, h, ha', asAddr, loadVar, e2, loadCells, loadCellsFrom, Result.andThen, h0, h1, h2, Addr.add, load, Sem.run]
theorem Tryd.infoTy : (Tryd.prog.info? 24).map (fun i => (i.zero, i.size, i.bytes)) = some (some (.agg #[.string ⟨#[]⟩, .int .i64 0, .slice none 0 0]), 3, 48) := by kernel_rfl
theorem info_of {P : Program} {t : TypeId} {z : Value} {m k : Nat} (h : (P.info? t).map (fun i => (i.zero, i.size, i.bytes)) = some (some z, m, k)) : ∃ i, P.info? t = some i ∧ i.zero = some z ∧ i.size = m ∧ i.bytes = k := by
  cases hi : P.info? t with
  | none => rw [hi] at h; simp at h
  | some i =>
    rw [hi] at h
    simp only [Option.map_some, Option.some.injEq, Prod.mk.injEq] at h
    exact ⟨i, rfl, h.1, h.2.1, h.2.2⟩
/-- The cells of one type, in a block of its own. -/
theorem cell_three_new (w : World) (x y z : Value) (t : TypeId) : ∀ j u, [x, y, z][j]? = some u → (w.alloc (.cells #[x, y, z] t)).cell? ((⟨w.heap.size, 0, none⟩ : Addr).add j) = some u := by
  intro j u hj
  have h : ∀ o v, (#[x, y, z] : Array Value)[o]? = some v → (w.alloc (.cells #[x, y, z] t)).cell? ⟨w.heap.size, o, none⟩ = some v := by
    intro o v ho
    rw [World.cell?_alloc_at _ _ _ _ rfl]; exact ho
  match j, hj with
  | 0, hj => exact h 0 u (by simpa using hj)
  | 1, hj => exact h 1 u (by simpa using hj)
  | 2, hj => exact h 2 u (by simpa using hj)
  | j + 3, hj => simp at hj
end Go.Proofs.YticjpeefhppjoaaDoor
