/- What memory holds: texts in a row, trees; no program in sight. -/
import Derived.WalkKit
import Derived.WalkSpells
import Derived.WalkLawsBesides
import Derived.Lib.Hide
namespace Go.Proofs.YtchdfjihflmloaaGreatDoor
open Go.RowKit

abbrev Str := ByteArray

inductive Ex where
  | mk (kind : Int) (name : Str) (num : Int) (names : List Str) (kids : List Ex)

def Ex.kind : Ex → Int | .mk k _ _ _ _ => k
def Ex.name : Ex → Str | .mk _ s _ _ _ => s
def Ex.num : Ex → Int | .mk _ _ n _ _ => n
def Ex.names : Ex → List Str | .mk _ _ _ l _ => l
def Ex.kids : Ex → List Ex | .mk _ _ _ _ l => l

theorem Ex.size_kid {k : Int} {s : Str} {n : Int} {l : List Str} {ks : List Ex} {e : Ex} (h : e ∈ ks) : SizeOf.sizeOf e < SizeOf.sizeOf (Ex.mk k s n l ks) := by
  have := List.sizeOf_lt_of_mem h
  simp only [Ex.mk.sizeOf_spec]
  omega

/-- Induction on trees: what holds of a tree where it holds of its kids. -/
theorem Ex.ind {motive : Ex → Prop} (step : ∀ k s n l ks, (∀ e ∈ ks, motive e) → motive (.mk k s n l ks)) : ∀ e, motive e := by
  have h : ∀ m, ∀ e : Ex, SizeOf.sizeOf e ≤ m → motive e := by
    intro m
    induction m with
    | zero => intro e he; cases e; simp only [Ex.mk.sizeOf_spec] at he; omega
    | succ m ih =>
      intro e he
      cases e with
      | mk k s n l ks => exact step k s n l ks fun x hx => ih x (by have := Ex.size_kid (k := k) (s := s) (n := n) (l := l) hx; omega)
  exact fun e => h _ e (Nat.le_refl _)

theorem ret_int {k : IntKind} {a b : Int} (h : a = b) : Ending.returned (.int k a) = .returned (.int k b) := by rw [h]
theorem ret_bool {a b : Bool} (h : a = b) : Ending.returned (.bool a) = .returned (.bool b) := by rw [h]
theorem ret_str {a b : Str} (h : a = b) : Ending.returned (.string a) = .returned (.string b) := by rw [h]

def lenMax : Nat := 140737488355328

/-- Texts in a row of cells. -/
def StrRow (w : World) (a : Option Addr) (l : List Str) : Prop :=
  l = [] ∨ ∃ b off, a = some ⟨b, off, none⟩ ∧ ∀ i (h : i < l.length), w.cell? ⟨b, off + i, none⟩ = some (.string l[i]) ∧ l[i].size ≤ lenMax

mutual
/-- A value is a tree. -/
def IsEx (w : World) (v : Value) : Ex → Prop
  | .mk k s n l ks => ∃ a1 c1 a2 c2, v = .agg #[.int .i64 k, .string s, .int .i64 n, .slice a1 l.length c1, .slice a2 ks.length c2] ∧
      (-9223372036854775808 ≤ k ∧ k ≤ 9223372036854775807) ∧ (-9223372036854775808 ≤ n ∧ n ≤ 9223372036854775807) ∧ s.size ≤ lenMax ∧ l.length ≤ lenMax ∧ ks.length ≤ lenMax ∧ StrRow w a1 l ∧ ExFrom w a2 ks ∧ (a1 = none → c1 = 0) ∧ ks.length ≤ c2
def ExFrom (w : World) (a : Option Addr) : List Ex → Prop
  | [] => True
  | e :: r => ∃ b off v0 v1 v2 v3 v4, a = some ⟨b, off, none⟩ ∧ w.cell? ⟨b, off, none⟩ = some v0 ∧ w.cell? ⟨b, off + 1, none⟩ = some v1 ∧ w.cell? ⟨b, off + 2, none⟩ = some v2 ∧ w.cell? ⟨b, off + 3, none⟩ = some v3 ∧ w.cell? ⟨b, off + 4, none⟩ = some v4 ∧
      IsEx w (.agg #[v0, v1, v2, v3, v4]) e ∧ ExFrom w (some ⟨b, off + 5, none⟩) r
end

/-- Trees in a row of cells, five each. -/
def ExRow (w : World) (a : Option Addr) (l : List Ex) : Prop :=
  l = [] ∨ ∃ b off, a = some ⟨b, off, none⟩ ∧ ∀ i (h : i < l.length), ∃ v0 v1 v2 v3 v4, w.cell? ⟨b, off + i * 5, none⟩ = some v0 ∧ w.cell? ⟨b, off + i * 5 + 1, none⟩ = some v1 ∧ w.cell? ⟨b, off + i * 5 + 2, none⟩ = some v2 ∧
    w.cell? ⟨b, off + i * 5 + 3, none⟩ = some v3 ∧ w.cell? ⟨b, off + i * 5 + 4, none⟩ = some v4 ∧ IsEx w (.agg #[v0, v1, v2, v3, v4]) l[i]

theorem exFrom_at {w : World} : ∀ (l : List Ex) (b off : Nat), ExFrom w (some ⟨b, off, none⟩) l ↔ ∀ i (h : i < l.length), ∃ v0 v1 v2 v3 v4, w.cell? ⟨b, off + i * 5, none⟩ = some v0 ∧ w.cell? ⟨b, off + i * 5 + 1, none⟩ = some v1 ∧ w.cell? ⟨b, off + i * 5 + 2, none⟩ = some v2 ∧
    w.cell? ⟨b, off + i * 5 + 3, none⟩ = some v3 ∧ w.cell? ⟨b, off + i * 5 + 4, none⟩ = some v4 ∧ IsEx w (.agg #[v0, v1, v2, v3, v4]) l[i]
  | [], _, _ => by simp [ExFrom]
  | e :: r, b, off => by
    simp only [ExFrom]
    constructor
    · rintro ⟨b', off', v0, v1, v2, v3, v4, ha, h0, h1, h2, h3, h4, he, hr⟩ i hi
      simp only [Option.some.injEq, Addr.mk.injEq] at ha
      obtain ⟨rfl, rfl, -⟩ := ha
      cases i with
      | zero => exact ⟨v0, v1, v2, v3, v4, by simpa using h0, by simpa using h1, by simpa using h2, by simpa using h3, by simpa using h4, he⟩
      | succ i =>
        have := (exFrom_at r b (off + 5)).1 hr i (by simpa using hi)
        rw [show off + (i + 1) * 5 = off + 5 + i * 5 from by omega]
        simpa using this
    · intro h
      obtain ⟨v0, v1, v2, v3, v4, h0, h1, h2, h3, h4, he⟩ := h 0 (by simp)
      refine ⟨b, off, v0, v1, v2, v3, v4, rfl, by simpa using h0, by simpa using h1, by simpa using h2, by simpa using h3, by simpa using h4, he, (exFrom_at r b (off + 5)).2 fun i hi => ?_⟩
      have := h (i + 1) (by simpa using hi)
      rw [show off + (i + 1) * 5 = off + 5 + i * 5 from by omega] at this
      simpa using this

theorem exRow_of_from {w : World} {a : Option Addr} {l : List Ex} (h : ExFrom w a l) : ExRow w a l := by
  cases l with
  | nil => exact .inl rfl
  | cons e r =>
    have h' := h
    simp only [ExFrom] at h'
    obtain ⟨b, off, _, _, _, _, _, rfl, _⟩ := h'
    exact .inr ⟨b, off, rfl, (exFrom_at _ _ _).1 h⟩

theorem exFrom_of_row {w : World} {a : Option Addr} {l : List Ex} (h : ExRow w a l) : ExFrom w a l := by
  rcases h with rfl | ⟨b, off, rfl, h⟩
  · simp [ExFrom]
  · exact (exFrom_at _ _ _).2 h

theorem IsEx.open {w : World} {v : Value} {k : Int} {s : Str} {n : Int} {l : List Str} {ks : List Ex} (h : IsEx w v (.mk k s n l ks)) :
    ∃ a1 c1 a2 c2, v = .agg #[.int .i64 k, .string s, .int .i64 n, .slice a1 l.length c1, .slice a2 ks.length c2] ∧
      (-9223372036854775808 ≤ k ∧ k ≤ 9223372036854775807) ∧ (-9223372036854775808 ≤ n ∧ n ≤ 9223372036854775807) ∧ s.size ≤ lenMax ∧ l.length ≤ lenMax ∧ ks.length ≤ lenMax ∧ StrRow w a1 l ∧ ExRow w a2 ks := by
  simp only [IsEx] at h
  obtain ⟨a1, c1, a2, c2, h0, h1, h2, h3, h4, h5, h6, h7, _⟩ := h
  exact ⟨a1, c1, a2, c2, h0, h1, h2, h3, h4, h5, h6, exRow_of_from h7⟩

theorem IsEx.caps {w : World} {k k' : Int} {s s' : Str} {n n' : Int} {l : List Str} {ks : List Ex} {a1 a2 : Option Addr} {m1 c1 m2 c2 : Nat} (h : IsEx w (.agg #[.int .i64 k', .string s', .int .i64 n', .slice a1 m1 c1, .slice a2 m2 c2]) (.mk k s n l ks)) : (a1 = none → c1 = 0) ∧ ks.length ≤ c2 := by
  simp only [IsEx] at h
  obtain ⟨b1, d1, b2, d2, h0, h1, h2, h3, h4, h5, h6, h7, h8⟩ := h
  simp only [Value.agg.injEq, Array.mk.injEq, List.cons.injEq, Value.slice.injEq, and_true] at h0
  obtain ⟨_, _, _, ⟨rfl, _, rfl⟩, _, _, rfl⟩ := h0
  exact h8

theorem IsEx.shut {w : World} {k : Int} {s : Str} {n : Int} {l : List Str} {ks : List Ex} {a1 a2 : Option Addr} {c1 c2 : Nat} (h1 : -9223372036854775808 ≤ k ∧ k ≤ 9223372036854775807) (h2 : -9223372036854775808 ≤ n ∧ n ≤ 9223372036854775807) (h3 : s.size ≤ lenMax) (h4 : l.length ≤ lenMax) (h5 : ks.length ≤ lenMax) (h6 : StrRow w a1 l) (h7 : ExRow w a2 ks) (h8 : (a1 = none → c1 = 0) ∧ ks.length ≤ c2) :
    IsEx w (.agg #[.int .i64 k, .string s, .int .i64 n, .slice a1 l.length c1, .slice a2 ks.length c2]) (.mk k s n l ks) := by
  simp only [IsEx]; exact ⟨a1, c1, a2, c2, rfl, h1, h2, h3, h4, h5, h6, exFrom_of_row h7, h8⟩

/-- What cells hold in one world they hold in another one. -/
def Keeps (w w' : World) : Prop := ∀ a v, w.cell? a = some v → w'.cell? a = some v

theorem cell_block {w : World} {a : Addr} {v : Value} (h : w.cell? a = some v) : a.block < w.heap.size := by
  rcases Nat.lt_or_ge a.block w.heap.size with h' | h'
  · exact h'
  · simp [World.cell?, Array.getElem?_eq_none h'] at h

theorem Keeps.of_below {w w' : World} (h : Below w.heap.size w w') : Keeps w w' := fun a v hv => by
  have := h.cell (p := a) (cell_block hv)
  rw [this]; exact hv
theorem Keeps.refl (w : World) : Keeps w w := fun _ _ h => h
theorem Keeps.trans {a b c : World} (h : Keeps a b) (k : Keeps b c) : Keeps a c := fun x v hv => k x v (h x v hv)

theorem StrRow.keeps {w w' : World} {a : Option Addr} {l : List Str} (hk : Keeps w w') (h : StrRow w a l) : StrRow w' a l := by
  rcases h with h | ⟨b, off, ha, h⟩
  · exact .inl h
  · exact .inr ⟨b, off, ha, fun i hi => ⟨hk _ _ (h i hi).1, (h i hi).2⟩⟩

theorem IsEx.keeps {w w' : World} (hk : Keeps w w') : ∀ (e : Ex) (v : Value), IsEx w v e → IsEx w' v e := by
  refine Ex.ind fun k s n l ks ih v h => ?_
  obtain ⟨a1, c1, a2, c2, rfl, h1, h2, h3, h4, h5, h6, h7⟩ := h.open
  refine IsEx.shut h1 h2 h3 h4 h5 (h6.keeps hk) ?_ h.caps
  rcases h7 with h7 | ⟨b, off, ha, h7⟩
  · exact .inl h7
  · refine .inr ⟨b, off, ha, fun i hi => ?_⟩
    obtain ⟨v0, v1, v2, v3, v4, g0, g1, g2, g3, g4, ge⟩ := h7 i hi
    exact ⟨v0, v1, v2, v3, v4, hk _ _ g0, hk _ _ g1, hk _ _ g2, hk _ _ g3, hk _ _ g4, ih _ (List.getElem_mem hi) _ ge⟩

theorem ExRow.keeps {w w' : World} {a : Option Addr} {l : List Ex} (hk : Keeps w w') (h : ExRow w a l) : ExRow w' a l := by
  rcases h with h7 | ⟨b, off, ha, h7⟩
  · exact .inl h7
  · refine .inr ⟨b, off, ha, fun i hi => ?_⟩
    obtain ⟨v0, v1, v2, v3, v4, g0, g1, g2, g3, g4, ge⟩ := h7 i hi
    exact ⟨v0, v1, v2, v3, v4, hk _ _ g0, hk _ _ g1, hk _ _ g2, hk _ _ g3, hk _ _ g4, ge.keeps hk⟩

/-- A kid, written out: its five cells, and that it is one. -/
theorem ExRow.kid {w : World} {a : Option Addr} {l : List Ex} (h : ExRow w a l) (hne : l ≠ []) : ∃ b off, a = some ⟨b, off, none⟩ ∧ ∀ i (h : i < l.length), ∃ a1 c1 a2 c2,
    w.cell? ⟨b, off + i * 5, none⟩ = some (.int .i64 l[i].kind) ∧ w.cell? ⟨b, off + i * 5 + 1, none⟩ = some (.string l[i].name) ∧ w.cell? ⟨b, off + i * 5 + 2, none⟩ = some (.int .i64 l[i].num) ∧
    w.cell? ⟨b, off + i * 5 + 3, none⟩ = some (.slice a1 l[i].names.length c1) ∧ w.cell? ⟨b, off + i * 5 + 4, none⟩ = some (.slice a2 l[i].kids.length c2) ∧
    IsEx w (.agg #[.int .i64 l[i].kind, .string l[i].name, .int .i64 l[i].num, .slice a1 l[i].names.length c1, .slice a2 l[i].kids.length c2]) l[i] := by
  rcases h with h | ⟨b, off, ha, h⟩
  · exact (hne h).elim
  · refine ⟨b, off, ha, fun i hi => ?_⟩
    obtain ⟨v0, v1, v2, v3, v4, g0, g1, g2, g3, g4, ge⟩ := h i hi
    generalize l[i] = x at ge ⊢
    cases x with
    | mk k s n ls ks =>
      have ge' := ge
      obtain ⟨a1, c1, a2, c2, hv, _⟩ := ge.open
      simp only [Value.agg.injEq, Array.mk.injEq, List.cons.injEq, and_true] at hv
      obtain ⟨rfl, rfl, rfl, rfl, rfl⟩ := hv
      exact ⟨a1, c1, a2, c2, g0, g1, g2, g3, g4, ge'⟩

/-- How many parts. -/
def cnt : Ex → Nat
  | .mk _ _ _ _ ks => 1 + cntL ks
where cntL : List Ex → Nat
  | [] => 0
  | e :: r => cnt e + cntL r

theorem cntL_take_succ (ks : List Ex) (k : Nat) (h : k < ks.length) : cnt.cntL (ks.take (k + 1)) = cnt.cntL (ks.take k) + cnt ks[k] := by
  induction ks generalizing k with
  | nil => simp at h
  | cons e r ih =>
    cases k with
    | zero => simp [cnt.cntL]
    | succ k =>
      have := ih k (by simpa using h)
      simp only [List.take_succ_cons, cnt.cntL, List.getElem_cons_succ]
      omega

theorem cntL_append (a b : List Ex) : cnt.cntL (a ++ b) = cnt.cntL a + cnt.cntL b := by
  induction a with
  | nil => simp [cnt.cntL]
  | cons e r ih => simp only [List.cons_append, cnt.cntL, ih]; omega

theorem cntL_take_le (ks : List Ex) (k : Nat) : cnt.cntL (ks.take k) ≤ cnt.cntL ks := by
  have h : cnt.cntL ks = cnt.cntL (ks.take k ++ ks.drop k) := by rw [List.take_append_drop]
  rw [h, cntL_append]; omega

/-- The box of a struct of five cells that a call laid first: its cells, and what was there. -/
theorem box5 {w wr : World} {v0 v1 v2 v3 v4 : Value} {t : TypeId} (h : Below (w.heap.size + 1) (w.alloc (.cells #[v0, v1, v2, v3, v4] t)) wr) :
    wr.cell? ⟨w.heap.size, 0, none⟩ = some v0 ∧ wr.cell? ⟨w.heap.size, 1, none⟩ = some v1 ∧ wr.cell? ⟨w.heap.size, 2, none⟩ = some v2 ∧ wr.cell? ⟨w.heap.size, 3, none⟩ = some v3 ∧ wr.cell? ⟨w.heap.size, 4, none⟩ = some v4 := by
  refine ⟨?_, ?_, ?_, ?_, ?_⟩ <;> (rw [h.cell (by simp), World.cell?_alloc_at _ _ _ _ rfl]; rfl)
theorem below_box {w wr : World} {o : Obj} (h : Below (w.heap.size + 1) (w.alloc o) wr) : Below w.heap.size w wr :=
  ((Below.refl _ w).alloc (Nat.le_refl _) _).trans (h.mono (by omega))
theorem keeps_box {w wr : World} {o : Obj} (h : Below (w.heap.size + 1) (w.alloc o) wr) : Keeps w wr := Keeps.of_below (below_box h)
theorem size_box {w wr : World} {o : Obj} (h : Below (w.heap.size + 1) (w.alloc o) wr) : w.heap.size + 1 ≤ wr.heap.size := by simpa using h.size

/-- How deep. -/
def dep : Ex → Nat
  | .mk _ _ _ _ ks => 1 + depL ks
where depL : List Ex → Nat
  | [] => 0
  | e :: r => max (dep e) (depL r)

theorem depL_take_succ (ks : List Ex) (k : Nat) (h : k < ks.length) : dep.depL (ks.take (k + 1)) = max (dep.depL (ks.take k)) (dep ks[k]) := by
  induction ks generalizing k with
  | nil => simp at h
  | cons e r ih =>
    cases k with
    | zero => simp [dep.depL]
    | succ k =>
      have := ih k (by simpa using h)
      simp only [List.take_succ_cons, dep.depL, List.getElem_cons_succ]
      omega
theorem dep_pos (e : Ex) : 1 ≤ dep e := by cases e; simp only [dep]; omega
theorem cnt_pos (e : Ex) : 1 ≤ cnt e := by cases e; simp only [cnt]; omega

end Go.Proofs.YtchdfjihflmloaaGreatDoor
