/- A part of the proof that parser laws hold: texts of the walk and of its plain laws, made small. -/
import Derived.WalkKit
import Derived.WalkSpells
import Derived.WalkLawsBesides
import Derived.Lib.Hide
import Derived.Maps.Own
import Derived.Maps.OwnOps
import Derived.Maps.Views
import Derived.Maps.Keyed
set_option linter.unusedVariables false
set_option linter.unusedSimpArgs false
/- What memory holds: texts in a row, trees; no program in sight. -/
namespace Go.Proofs.YtnfclcfcpgfajaaGreatDoor
open Go.RowKit

abbrev Str := ByteArray

inductive Ex where
  | mk (kind : Int) (name : Str) (num : Int) (names : List Str) (kids : List Ex)

def Ex.kind : Ex → Int | .mk k _ _ _ _ => k
def Ex.name : Ex → Str | .mk _ s _ _ _ => s
def Ex.num : Ex → Int | .mk _ _ n _ _ => n
def Ex.names : Ex → List Str | .mk _ _ _ l _ => l
def Ex.kids : Ex → List Ex | .mk _ _ _ _ l => l

theorem Ex.size_kid {k : Int} {s : Str} {n : Int} {l : List Str} {ks : List Ex} {e : Ex} (h : e ∈ ks) : SizeOf.sizeOf e < SizeOf.sizeOf (Ex.mk k s n l ks) := by
  have := List.sizeOf_lt_of_mem h
  simp only [Ex.mk.sizeOf_spec]
  omega

/-- Induction on trees: what holds of a tree where it holds of its kids. -/
theorem Ex.ind {motive : Ex → Prop} (step : ∀ k s n l ks, (∀ e ∈ ks, motive e) → motive (.mk k s n l ks)) : ∀ e, motive e := by
  have h : ∀ m, ∀ e : Ex, SizeOf.sizeOf e ≤ m → motive e := by
    intro m
    induction m with
    | zero => intro e he; cases e; simp only [Ex.mk.sizeOf_spec] at he; omega
    | succ m ih =>
      intro e he
      cases e with
      | mk k s n l ks => exact step k s n l ks fun x hx => ih x (by have := Ex.size_kid (k := k) (s := s) (n := n) (l := l) hx; omega)
  exact fun e => h _ e (Nat.le_refl _)

theorem ret_int {k : IntKind} {a b : Int} (h : a = b) : Ending.returned (.int k a) = .returned (.int k b) := by rw [h]
theorem ret_bool {a b : Bool} (h : a = b) : Ending.returned (.bool a) = .returned (.bool b) := by rw [h]
theorem ret_str {a b : Str} (h : a = b) : Ending.returned (.string a) = .returned (.string b) := by rw [h]

def lenMax : Nat := 140737488355328

/-- Texts in a row of cells. -/
def StrRow (w : World) (a : Option Addr) (l : List Str) : Prop :=
  l = [] ∨ ∃ b off, a = some ⟨b, off, none⟩ ∧ ∀ i (h : i < l.length), w.cell? ⟨b, off + i, none⟩ = some (.string l[i]) ∧ l[i].size ≤ lenMax

mutual
/-- A value is a tree. -/
def IsEx (w : World) (v : Value) : Ex → Prop
  | .mk k s n l ks => ∃ a1 c1 a2 c2, v = .agg #[.int .i64 k, .string s, .int .i64 n, .slice a1 l.length c1, .slice a2 ks.length c2] ∧
      (-9223372036854775808 ≤ k ∧ k ≤ 9223372036854775807) ∧ (-9223372036854775808 ≤ n ∧ n ≤ 9223372036854775807) ∧ s.size ≤ lenMax ∧ l.length ≤ lenMax ∧ ks.length ≤ lenMax ∧ StrRow w a1 l ∧ ExFrom w a2 ks ∧ (a1 = none → c1 = 0) ∧ ks.length ≤ c2
def ExFrom (w : World) (a : Option Addr) : List Ex → Prop
  | [] => True
  | e :: r => ∃ b off v0 v1 v2 v3 v4, a = some ⟨b, off, none⟩ ∧ w.cell? ⟨b, off, none⟩ = some v0 ∧ w.cell? ⟨b, off + 1, none⟩ = some v1 ∧ w.cell? ⟨b, off + 2, none⟩ = some v2 ∧ w.cell? ⟨b, off + 3, none⟩ = some v3 ∧ w.cell? ⟨b, off + 4, none⟩ = some v4 ∧
      IsEx w (.agg #[v0, v1, v2, v3, v4]) e ∧ ExFrom w (some ⟨b, off + 5, none⟩) r
end

/-- Trees in a row of cells, five each. -/
def ExRow (w : World) (a : Option Addr) (l : List Ex) : Prop :=
  l = [] ∨ ∃ b off, a = some ⟨b, off, none⟩ ∧ ∀ i (h : i < l.length), ∃ v0 v1 v2 v3 v4, w.cell? ⟨b, off + i * 5, none⟩ = some v0 ∧ w.cell? ⟨b, off + i * 5 + 1, none⟩ = some v1 ∧ w.cell? ⟨b, off + i * 5 + 2, none⟩ = some v2 ∧
    w.cell? ⟨b, off + i * 5 + 3, none⟩ = some v3 ∧ w.cell? ⟨b, off + i * 5 + 4, none⟩ = some v4 ∧ IsEx w (.agg #[v0, v1, v2, v3, v4]) l[i]

theorem exFrom_at {w : World} : ∀ (l : List Ex) (b off : Nat), ExFrom w (some ⟨b, off, none⟩) l ↔ ∀ i (h : i < l.length), ∃ v0 v1 v2 v3 v4, w.cell? ⟨b, off + i * 5, none⟩ = some v0 ∧ w.cell? ⟨b, off + i * 5 + 1, none⟩ = some v1 ∧ w.cell? ⟨b, off + i * 5 + 2, none⟩ = some v2 ∧
    w.cell? ⟨b, off + i * 5 + 3, none⟩ = some v3 ∧ w.cell? ⟨b, off + i * 5 + 4, none⟩ = some v4 ∧ IsEx w (.agg #[v0, v1, v2, v3, v4]) l[i]
  | [], _, _ => by simp [ExFrom]
  | e :: r, b, off => by
    simp only [ExFrom]
    constructor
    · rintro ⟨b', off', v0, v1, v2, v3, v4, ha, h0, h1, h2, h3, h4, he, hr⟩ i hi
      simp only [Option.some.injEq, Addr.mk.injEq] at ha
      obtain ⟨rfl, rfl, -⟩ := ha
      cases i with
      | zero => exact ⟨v0, v1, v2, v3, v4, by simpa using h0, by simpa using h1, by simpa using h2, by simpa using h3, by simpa using h4, he⟩
      | succ i =>
        have := (exFrom_at r b (off + 5)).1 hr i (by simpa using hi)
        rw [show off + (i + 1) * 5 = off + 5 + i * 5 from by omega]
        simpa using this
    · intro h
      obtain ⟨v0, v1, v2, v3, v4, h0, h1, h2, h3, h4, he⟩ := h 0 (by simp)
      refine ⟨b, off, v0, v1, v2, v3, v4, rfl, by simpa using h0, by simpa using h1, by simpa using h2, by simpa using h3, by simpa using h4, he, (exFrom_at r b (off + 5)).2 fun i hi => ?_⟩
      have := h (i + 1) (by simpa using hi)
      rw [show off + (i + 1) * 5 = off + 5 + i * 5 from by omega] at this
      simpa using this

theorem exRow_of_from {w : World} {a : Option Addr} {l : List Ex} (h : ExFrom w a l) : ExRow w a l := by
  cases l with
  | nil => exact .inl rfl
  | cons e r =>
    have h' := h
    simp only [ExFrom] at h'
    obtain ⟨b, off, _, _, _, _, _, rfl, _⟩ := h'
    exact .inr ⟨b, off, rfl, (exFrom_at _ _ _).1 h⟩

theorem exFrom_of_row {w : World} {a : Option Addr} {l : List Ex} (h : ExRow w a l) : ExFrom w a l := by
  rcases h with rfl | ⟨b, off, rfl, h⟩
  · simp [ExFrom]
  · exact (exFrom_at _ _ _).2 h

theorem IsEx.open {w : World} {v : Value} {k : Int} {s : Str} {n : Int} {l : List Str} {ks : List Ex} (h : IsEx w v (.mk k s n l ks)) :
    ∃ a1 c1 a2 c2, v = .agg #[.int .i64 k, .string s, .int .i64 n, .slice a1 l.length c1, .slice a2 ks.length c2] ∧
      (-9223372036854775808 ≤ k ∧ k ≤ 9223372036854775807) ∧ (-9223372036854775808 ≤ n ∧ n ≤ 9223372036854775807) ∧ s.size ≤ lenMax ∧ l.length ≤ lenMax ∧ ks.length ≤ lenMax ∧ StrRow w a1 l ∧ ExRow w a2 ks := by
  simp only [IsEx] at h
  obtain ⟨a1, c1, a2, c2, h0, h1, h2, h3, h4, h5, h6, h7, _⟩ := h
  exact ⟨a1, c1, a2, c2, h0, h1, h2, h3, h4, h5, h6, exRow_of_from h7⟩

theorem IsEx.caps {w : World} {k k' : Int} {s s' : Str} {n n' : Int} {l : List Str} {ks : List Ex} {a1 a2 : Option Addr} {m1 c1 m2 c2 : Nat} (h : IsEx w (.agg #[.int .i64 k', .string s', .int .i64 n', .slice a1 m1 c1, .slice a2 m2 c2]) (.mk k s n l ks)) : (a1 = none → c1 = 0) ∧ ks.length ≤ c2 := by
  simp only [IsEx] at h
  obtain ⟨b1, d1, b2, d2, h0, h1, h2, h3, h4, h5, h6, h7, h8⟩ := h
  simp only [Value.agg.injEq, Array.mk.injEq, List.cons.injEq, Value.slice.injEq, and_true] at h0
  obtain ⟨_, _, _, ⟨rfl, _, rfl⟩, _, _, rfl⟩ := h0
  exact h8

theorem IsEx.shut {w : World} {k : Int} {s : Str} {n : Int} {l : List Str} {ks : List Ex} {a1 a2 : Option Addr} {c1 c2 : Nat} (h1 : -9223372036854775808 ≤ k ∧ k ≤ 9223372036854775807) (h2 : -9223372036854775808 ≤ n ∧ n ≤ 9223372036854775807) (h3 : s.size ≤ lenMax) (h4 : l.length ≤ lenMax) (h5 : ks.length ≤ lenMax) (h6 : StrRow w a1 l) (h7 : ExRow w a2 ks) (h8 : (a1 = none → c1 = 0) ∧ ks.length ≤ c2) :
    IsEx w (.agg #[.int .i64 k, .string s, .int .i64 n, .slice a1 l.length c1, .slice a2 ks.length c2]) (.mk k s n l ks) := by
  simp only [IsEx]; exact ⟨a1, c1, a2, c2, rfl, h1, h2, h3, h4, h5, h6, exFrom_of_row h7, h8⟩

/-- What cells hold in one world they hold in another one. -/
def Keeps (w w' : World) : Prop := ∀ a v, w.cell? a = some v → w'.cell? a = some v

theorem cell_block {w : World} {a : Addr} {v : Value} (h : w.cell? a = some v) : a.block < w.heap.size := by
  rcases Nat.lt_or_ge a.block w.heap.size with h' | h'
  · exact h'
  · simp [World.cell?, Array.getElem?_eq_none h'] at h

theorem Keeps.of_below {w w' : World} (h : Below w.heap.size w w') : Keeps w w' := fun a v hv => by
  have := h.cell (p := a) (cell_block hv)
  rw [this]; exact hv
theorem Keeps.refl (w : World) : Keeps w w := fun _ _ h => h
theorem Keeps.trans {a b c : World} (h : Keeps a b) (k : Keeps b c) : Keeps a c := fun x v hv => k x v (h x v hv)

theorem StrRow.keeps {w w' : World} {a : Option Addr} {l : List Str} (hk : Keeps w w') (h : StrRow w a l) : StrRow w' a l := by
  rcases h with h | ⟨b, off, ha, h⟩
  · exact .inl h
  · exact .inr ⟨b, off, ha, fun i hi => ⟨hk _ _ (h i hi).1, (h i hi).2⟩⟩

theorem IsEx.keeps {w w' : World} (hk : Keeps w w') : ∀ (e : Ex) (v : Value), IsEx w v e → IsEx w' v e := by
  refine Ex.ind fun k s n l ks ih v h => ?_
  obtain ⟨a1, c1, a2, c2, rfl, h1, h2, h3, h4, h5, h6, h7⟩ := h.open
  refine IsEx.shut h1 h2 h3 h4 h5 (h6.keeps hk) ?_ h.caps
  rcases h7 with h7 | ⟨b, off, ha, h7⟩
  · exact .inl h7
  · refine .inr ⟨b, off, ha, fun i hi => ?_⟩
    obtain ⟨v0, v1, v2, v3, v4, g0, g1, g2, g3, g4, ge⟩ := h7 i hi
    exact ⟨v0, v1, v2, v3, v4, hk _ _ g0, hk _ _ g1, hk _ _ g2, hk _ _ g3, hk _ _ g4, ih _ (List.getElem_mem hi) _ ge⟩

theorem ExRow.keeps {w w' : World} {a : Option Addr} {l : List Ex} (hk : Keeps w w') (h : ExRow w a l) : ExRow w' a l := by
  rcases h with h7 | ⟨b, off, ha, h7⟩
  · exact .inl h7
  · refine .inr ⟨b, off, ha, fun i hi => ?_⟩
    obtain ⟨v0, v1, v2, v3, v4, g0, g1, g2, g3, g4, ge⟩ := h7 i hi
    exact ⟨v0, v1, v2, v3, v4, hk _ _ g0, hk _ _ g1, hk _ _ g2, hk _ _ g3, hk _ _ g4, ge.keeps hk⟩

/-- A kid, written out: its five cells, and that it is one. -/
theorem ExRow.kid {w : World} {a : Option Addr} {l : List Ex} (h : ExRow w a l) (hne : l ≠ []) : ∃ b off, a = some ⟨b, off, none⟩ ∧ ∀ i (h : i < l.length), ∃ a1 c1 a2 c2,
    w.cell? ⟨b, off + i * 5, none⟩ = some (.int .i64 l[i].kind) ∧ w.cell? ⟨b, off + i * 5 + 1, none⟩ = some (.string l[i].name) ∧ w.cell? ⟨b, off + i * 5 + 2, none⟩ = some (.int .i64 l[i].num) ∧
    w.cell? ⟨b, off + i * 5 + 3, none⟩ = some (.slice a1 l[i].names.length c1) ∧ w.cell? ⟨b, off + i * 5 + 4, none⟩ = some (.slice a2 l[i].kids.length c2) ∧
    IsEx w (.agg #[.int .i64 l[i].kind, .string l[i].name, .int .i64 l[i].num, .slice a1 l[i].names.length c1, .slice a2 l[i].kids.length c2]) l[i] := by
  rcases h with h | ⟨b, off, ha, h⟩
  · exact (hne h).elim
  · refine ⟨b, off, ha, fun i hi => ?_⟩
    obtain ⟨v0, v1, v2, v3, v4, g0, g1, g2, g3, g4, ge⟩ := h i hi
    generalize l[i] = x at ge ⊢
    cases x with
    | mk k s n ls ks =>
      have ge' := ge
      obtain ⟨a1, c1, a2, c2, hv, _⟩ := ge.open
      simp only [Value.agg.injEq, Array.mk.injEq, List.cons.injEq, and_true] at hv
      obtain ⟨rfl, rfl, rfl, rfl, rfl⟩ := hv
      exact ⟨a1, c1, a2, c2, g0, g1, g2, g3, g4, ge'⟩

/-- How many parts. -/
def cnt : Ex → Nat
  | .mk _ _ _ _ ks => 1 + cntL ks
where cntL : List Ex → Nat
  | [] => 0
  | e :: r => cnt e + cntL r

theorem cntL_take_succ (ks : List Ex) (k : Nat) (h : k < ks.length) : cnt.cntL (ks.take (k + 1)) = cnt.cntL (ks.take k) + cnt ks[k] := by
  induction ks generalizing k with
  | nil => simp at h
  | cons e r ih =>
    cases k with
    | zero => simp [cnt.cntL]
    | succ k =>
      have := ih k (by simpa using h)
      simp only [List.take_succ_cons, cnt.cntL, List.getElem_cons_succ]
      omega

theorem cntL_append (a b : List Ex) : cnt.cntL (a ++ b) = cnt.cntL a + cnt.cntL b := by
  induction a with
  | nil => simp [cnt.cntL]
  | cons e r ih => simp only [List.cons_append, cnt.cntL, ih]; omega

theorem cntL_take_le (ks : List Ex) (k : Nat) : cnt.cntL (ks.take k) ≤ cnt.cntL ks := by
  have h : cnt.cntL ks = cnt.cntL (ks.take k ++ ks.drop k) := by rw [List.take_append_drop]
  rw [h, cntL_append]; omega

/-- The box of a struct of five cells that a call laid first: its cells, and what was there. -/
theorem box5 {w wr : World} {v0 v1 v2 v3 v4 : Value} {t : TypeId} (h : Below (w.heap.size + 1) (w.alloc (.cells #[v0, v1, v2, v3, v4] t)) wr) :
    wr.cell? ⟨w.heap.size, 0, none⟩ = some v0 ∧ wr.cell? ⟨w.heap.size, 1, none⟩ = some v1 ∧ wr.cell? ⟨w.heap.size, 2, none⟩ = some v2 ∧ wr.cell? ⟨w.heap.size, 3, none⟩ = some v3 ∧ wr.cell? ⟨w.heap.size, 4, none⟩ = some v4 := by
  refine ⟨?_, ?_, ?_, ?_, ?_⟩ <;> (rw [h.cell (by simp), World.cell?_alloc_at _ _ _ _ rfl]; rfl)
theorem below_box {w wr : World} {o : Obj} (h : Below (w.heap.size + 1) (w.alloc o) wr) : Below w.heap.size w wr :=
  ((Below.refl _ w).alloc (Nat.le_refl _) _).trans (h.mono (by omega))
theorem keeps_box {w wr : World} {o : Obj} (h : Below (w.heap.size + 1) (w.alloc o) wr) : Keeps w wr := Keeps.of_below (below_box h)
theorem size_box {w wr : World} {o : Obj} (h : Below (w.heap.size + 1) (w.alloc o) wr) : w.heap.size + 1 ≤ wr.heap.size := by simpa using h.size

/-- How deep. -/
def dep : Ex → Nat
  | .mk _ _ _ _ ks => 1 + depL ks
where depL : List Ex → Nat
  | [] => 0
  | e :: r => max (dep e) (depL r)

theorem depL_take_succ (ks : List Ex) (k : Nat) (h : k < ks.length) : dep.depL (ks.take (k + 1)) = max (dep.depL (ks.take k)) (dep ks[k]) := by
  induction ks generalizing k with
  | nil => simp at h
  | cons e r ih =>
    cases k with
    | zero => simp [dep.depL]
    | succ k =>
      have := ih k (by simpa using h)
      simp only [List.take_succ_cons, dep.depL, List.getElem_cons_succ]
      omega
theorem dep_pos (e : Ex) : 1 ≤ dep e := by cases e; simp only [dep]; omega
theorem cnt_pos (e : Ex) : 1 ≤ cnt e := by cases e; simp only [cnt]; omega

end Go.Proofs.YtnfclcfcpgfajaaGreatDoor

/- What memory holds: types, none of whose rows lies in some blocks; facts. -/
namespace Go.Proofs.YtnfclcfcpgfajaaGreatDoor
open Go.RowKit

/-- All cells but those of some blocks hold what they held. -/
def KeepsBut (X : Nat → Prop) (W W' : World) : Prop := W.heap.size ≤ W'.heap.size ∧ ∀ a v, ¬ X a.block → W.cell? a = some v → W'.cell? a = some v
theorem KeepsBut.refl (X : Nat → Prop) (W : World) : KeepsBut X W W := ⟨Nat.le_refl _, fun _ _ _ h => h⟩
theorem KeepsBut.trans {X : Nat → Prop} {A B C : World} (h : KeepsBut X A B) (k : KeepsBut X B C) : KeepsBut X A C := ⟨Nat.le_trans h.1 k.1, fun a v hx hv => k.2 a v hx (h.2 a v hx hv)⟩
theorem KeepsBut.of_below {X : Nat → Prop} {W W' : World} (h : Below W.heap.size W W') : KeepsBut X W W' := ⟨h.size, fun a v _ hv => Keeps.of_below h a v hv⟩
theorem KeepsBut.wider {X Y : Nat → Prop} {W W' : World} (h : KeepsBut X W W') (hY : ∀ b, X b → Y b) : KeepsBut Y W W' := ⟨h.1, fun a v hx hv => h.2 a v (fun h' => hx (hY _ h')) hv⟩

inductive Ty where
  | mk (name : Str) (n : Int) (args : List Ty)
def Ty.name : Ty → Str | .mk s _ _ => s
def Ty.n : Ty → Int | .mk _ n _ => n
def Ty.args : Ty → List Ty | .mk _ _ l => l

theorem Ty.size_arg {s : Str} {n : Int} {l : List Ty} {e : Ty} (h : e ∈ l) : SizeOf.sizeOf e < SizeOf.sizeOf (Ty.mk s n l) := by
  have := List.sizeOf_lt_of_mem h
  simp only [Ty.mk.sizeOf_spec]
  omega
theorem Ty.ind {motive : Ty → Prop} (step : ∀ s n l, (∀ e ∈ l, motive e) → motive (.mk s n l)) : ∀ e, motive e := by
  have h : ∀ m, ∀ e : Ty, SizeOf.sizeOf e ≤ m → motive e := by
    intro m
    induction m with
    | zero => intro e he; cases e; simp only [Ty.mk.sizeOf_spec] at he; omega
    | succ m ih =>
      intro e he
      cases e with
      | mk s n l => exact step s n l fun x hx => ih x (by have := Ty.size_arg (s := s) (n := n) hx; omega)
  exact fun e => h _ e (Nat.le_refl _)

mutual
/-- A value is a type, none of whose rows lies in some blocks. -/
def TyX (X : Nat → Prop) (w : World) (v : Value) : Ty → Prop
  | .mk s n l => ∃ a c, v = .agg #[.string s, .int .i64 n, .slice a l.length c] ∧ (a = none → c = 0) ∧ (-9223372036854775808 ≤ n ∧ n ≤ 9223372036854775807) ∧ s.size ≤ lenMax ∧ l.length ≤ lenMax ∧ TyFrom X w a l
def TyFrom (X : Nat → Prop) (w : World) (a : Option Addr) : List Ty → Prop
  | [] => True
  | e :: r => ∃ b off v0 v1 v2, a = some ⟨b, off, none⟩ ∧ ¬ X b ∧ w.cell? ⟨b, off, none⟩ = some v0 ∧ w.cell? ⟨b, off + 1, none⟩ = some v1 ∧ w.cell? ⟨b, off + 2, none⟩ = some v2 ∧ TyX X w (.agg #[v0, v1, v2]) e ∧ TyFrom X w (some ⟨b, off + 3, none⟩) r
end

/-- Types in a row of cells, three each. -/
def TyRow (X : Nat → Prop) (w : World) (a : Option Addr) (l : List Ty) : Prop :=
  l = [] ∨ ∃ b off, a = some ⟨b, off, none⟩ ∧ ¬ X b ∧ ∀ i (h : i < l.length), ∃ v0 v1 v2, w.cell? ⟨b, off + i * 3, none⟩ = some v0 ∧ w.cell? ⟨b, off + i * 3 + 1, none⟩ = some v1 ∧ w.cell? ⟨b, off + i * 3 + 2, none⟩ = some v2 ∧ TyX X w (.agg #[v0, v1, v2]) l[i]

theorem tyFrom_at {X : Nat → Prop} {w : World} : ∀ (l : List Ty) (b off : Nat), ¬ X b → (TyFrom X w (some ⟨b, off, none⟩) l ↔ ∀ i (h : i < l.length), ∃ v0 v1 v2, w.cell? ⟨b, off + i * 3, none⟩ = some v0 ∧ w.cell? ⟨b, off + i * 3 + 1, none⟩ = some v1 ∧ w.cell? ⟨b, off + i * 3 + 2, none⟩ = some v2 ∧ TyX X w (.agg #[v0, v1, v2]) l[i])
  | [], _, _, _ => by simp [TyFrom]
  | e :: r, b, off, hb => by
    simp only [TyFrom]
    constructor
    · rintro ⟨b', off', v0, v1, v2, ha, _, h0, h1, h2, he, hr⟩ i hi
      simp only [Option.some.injEq, Addr.mk.injEq] at ha
      obtain ⟨rfl, rfl, -⟩ := ha
      cases i with
      | zero => exact ⟨v0, v1, v2, by simpa using h0, by simpa using h1, by simpa using h2, he⟩
      | succ i =>
        have := (tyFrom_at r b (off + 3) hb).1 hr i (by simpa using hi)
        rw [show off + (i + 1) * 3 = off + 3 + i * 3 from by omega]
        simpa using this
    · intro h
      obtain ⟨v0, v1, v2, h0, h1, h2, he⟩ := h 0 (by simp)
      refine ⟨b, off, v0, v1, v2, rfl, hb, by simpa using h0, by simpa using h1, by simpa using h2, he, (tyFrom_at r b (off + 3) hb).2 fun i hi => ?_⟩
      have := h (i + 1) (by simpa using hi)
      rw [show off + (i + 1) * 3 = off + 3 + i * 3 from by omega] at this
      simpa using this
theorem tyRow_of_from {X : Nat → Prop} {w : World} {a : Option Addr} {l : List Ty} (h : TyFrom X w a l) : TyRow X w a l := by
  cases l with
  | nil => exact .inl rfl
  | cons e r =>
    have h' := h
    simp only [TyFrom] at h'
    obtain ⟨b, off, _, _, _, rfl, hb, _⟩ := h'
    exact .inr ⟨b, off, rfl, hb, (tyFrom_at _ _ _ hb).1 h⟩
theorem tyFrom_of_row {X : Nat → Prop} {w : World} {a : Option Addr} {l : List Ty} (h : TyRow X w a l) : TyFrom X w a l := by
  rcases h with rfl | ⟨b, off, rfl, hb, h⟩
  · simp [TyFrom]
  · exact (tyFrom_at _ _ _ hb).2 h
theorem TyX.open {X : Nat → Prop} {w : World} {v : Value} {s : Str} {n : Int} {l : List Ty} (h : TyX X w v (.mk s n l)) : ∃ a c, v = .agg #[.string s, .int .i64 n, .slice a l.length c] ∧ (a = none → c = 0) ∧ (-9223372036854775808 ≤ n ∧ n ≤ 9223372036854775807) ∧ s.size ≤ lenMax ∧ l.length ≤ lenMax ∧ TyRow X w a l := by
  simp only [TyX] at h
  obtain ⟨a, c, h0, h1, h2, h3, h4, h5⟩ := h
  exact ⟨a, c, h0, h1, h2, h3, h4, tyRow_of_from h5⟩
theorem TyX.shut {X : Nat → Prop} {w : World} {a : Option Addr} {c : Nat} {s : Str} {n : Int} {l : List Ty} (h0 : a = none → c = 0) (hn : -9223372036854775808 ≤ n ∧ n ≤ 9223372036854775807) (h1 : s.size ≤ lenMax) (h2 : l.length ≤ lenMax) (h : TyRow X w a l) : TyX X w (.agg #[.string s, .int .i64 n, .slice a l.length c]) (.mk s n l) := by
  simp only [TyX]; exact ⟨a, c, rfl, h0, hn, h1, h2, tyFrom_of_row h⟩
theorem TyX.later {X Y : Nat → Prop} {w W : World} (hk : KeepsBut X w W) (hY : ∀ b, b < w.heap.size → Y b → X b) : ∀ {e : Ty} {v : Value}, TyX X w v e → TyX Y W v e := by
  have : ∀ (e : Ty) (v : Value), TyX X w v e → TyX Y W v e := by
    refine Ty.ind fun s n l ih v h => ?_
    obtain ⟨a, c, h0, hc, hn, h1, h2, h3⟩ := h.open
    subst h0
    refine TyX.shut hc hn h1 h2 ?_
    rcases h3 with h3 | ⟨b, off, ha, hb, h3⟩
    · exact .inl h3
    · by_cases hl : l = []
      · exact .inl hl
      · have hlt : 0 < l.length := List.length_pos_iff.2 hl
        obtain ⟨_, _, _, g0, _⟩ := h3 0 hlt
        have hbl := cell_block g0
        refine .inr ⟨b, off, ha, fun h => hb (hY _ hbl h), fun i hi => ?_⟩
        obtain ⟨v0, v1, v2, g0, g1, g2, ge⟩ := h3 i hi
        exact ⟨v0, v1, v2, hk.2 _ _ hb g0, hk.2 _ _ hb g1, hk.2 _ _ hb g2, ih _ (List.getElem_mem hi) _ ge⟩
  intro e v h
  exact this e v h
theorem TyX.keeps {X : Nat → Prop} {w w' : World} (hk : Keeps w w') : ∀ (e : Ty) (v : Value), TyX X w v e → TyX X w' v e := by
  refine Ty.ind fun s n l ih v h => ?_
  obtain ⟨a, c, h0, hc, hn, h1, h2, h3⟩ := h.open
  subst h0
  refine TyX.shut hc hn h1 h2 ?_
  rcases h3 with h3 | ⟨b, off, ha, hb, h3⟩
  · exact .inl h3
  · refine .inr ⟨b, off, ha, hb, fun i hi => ?_⟩
    obtain ⟨v0, v1, v2, g0, g1, g2, ge⟩ := h3 i hi
    exact ⟨v0, v1, v2, hk _ _ g0, hk _ _ g1, hk _ _ g2, ih _ (List.getElem_mem hi) _ ge⟩
theorem TyX.below {X : Nat → Prop} {w w' : World} {v : Value} {e : Ty} (h : TyX X w v e) (hb : Below w.heap.size w w') : TyX X w' v e := TyX.keeps (Keeps.of_below hb) _ _ h
theorem TyX.less {X Y : Nat → Prop} {w : World} {v : Value} {e : Ty} (h : TyX X w v e) (hY : ∀ b, Y b → X b) : TyX Y w v e := TyX.later (KeepsBut.refl _ _) (fun b _ h => hY b h) h
theorem TyRow.keeps {X : Nat → Prop} {w w' : World} {a : Option Addr} {l : List Ty} (hk : Keeps w w') (h : TyRow X w a l) : TyRow X w' a l := by
  rcases h with h3 | ⟨b, off, ha, hb, h3⟩
  · exact .inl h3
  · refine .inr ⟨b, off, ha, hb, fun i hi => ?_⟩
    obtain ⟨v0, v1, v2, g0, g1, g2, ge⟩ := h3 i hi
    exact ⟨v0, v1, v2, hk _ _ g0, hk _ _ g1, hk _ _ g2, TyX.keeps hk _ _ ge⟩
theorem TyX.form {X : Nat → Prop} {w : World} {v : Value} {e : Ty} (h : TyX X w v e) : ∃ a c, v = .agg #[.string e.name, .int .i64 e.n, .slice a e.args.length c] := by
  obtain ⟨s, n, l⟩ := e
  obtain ⟨a, c, rfl, _⟩ := h.open
  exact ⟨a, c, rfl⟩
theorem TyRow.arg {X : Nat → Prop} {w : World} {a : Option Addr} {l : List Ty} (h : TyRow X w a l) (hne : l ≠ []) : ∃ b off, a = some ⟨b, off, none⟩ ∧ ∀ i (h : i < l.length), ∃ a1 c1,
    w.cell? ⟨b, off + i * 3, none⟩ = some (.string l[i].name) ∧ w.cell? ⟨b, off + i * 3 + 1, none⟩ = some (.int .i64 l[i].n) ∧ w.cell? ⟨b, off + i * 3 + 2, none⟩ = some (.slice a1 l[i].args.length c1) ∧ TyX X w (.agg #[.string l[i].name, .int .i64 l[i].n, .slice a1 l[i].args.length c1]) l[i] := by
  rcases h with h | ⟨b, off, ha, hb, h⟩
  · exact (hne h).elim
  · refine ⟨b, off, ha, fun i hi => ?_⟩
    obtain ⟨v0, v1, v2, g0, g1, g2, ge⟩ := h i hi
    obtain ⟨a1, c1, hv⟩ := ge.form
    simp only [Value.agg.injEq, Array.mk.injEq, List.cons.injEq, and_true] at hv
    obtain ⟨rfl, rfl, rfl⟩ := hv
    exact ⟨a1, c1, g0, g1, g2, ge⟩

/-- A value is a type. -/
abbrev IsTy (w : World) (v : Value) (e : Ty) : Prop := TyX (fun _ => False) w v e
theorem TyX.is {X : Nat → Prop} {w : World} {v : Value} {e : Ty} (h : TyX X w v e) : IsTy w v e := h.less fun _ h => h.elim
/-- What lies there is so whatever is new. -/
theorem TyX.of {X : Nat → Prop} {w : World} {v : Value} {e : Ty} (h : IsTy w v e) (hX : ∀ b, b < w.heap.size → ¬ X b) : TyX X w v e := TyX.later (KeepsBut.refl _ _) (fun b hb h => (hX b hb h).elim) h

/-- The box of a struct of three cells. -/
theorem box3 {w wr : World} {v0 v1 v2 : Value} {t : TypeId} (h : Below (w.heap.size + 1) (w.alloc (.cells #[v0, v1, v2] t)) wr) :
    wr.cell? ⟨w.heap.size, 0, none⟩ = some v0 ∧ wr.cell? ⟨w.heap.size, 1, none⟩ = some v1 ∧ wr.cell? ⟨w.heap.size, 2, none⟩ = some v2 := by
  refine ⟨?_, ?_, ?_⟩ <;> (rw [h.cell (by simp), World.cell?_alloc_at _ _ _ _ rfl]; rfl)

/-- What a place is. -/
structure Fa where
  n : Int
  ty : Ty
def FaX (X : Nat → Prop) (w : World) (v : Value) (f : Fa) : Prop := ∃ v1 v2 v3, v = .agg #[.int .i64 f.n, v1, v2, v3] ∧ (-9223372036854775808 ≤ f.n ∧ f.n ≤ 9223372036854775807) ∧ TyX X w (.agg #[v1, v2, v3]) f.ty
/-- Facts in a row of cells, four each. -/
def FaRow (X : Nat → Prop) (w : World) (a : Option Addr) (l : List Fa) : Prop :=
  l = [] ∨ ∃ b off, a = some ⟨b, off, none⟩ ∧ ¬ X b ∧ ∀ i (h : i < l.length), ∃ v0 v1 v2 v3, w.cell? ⟨b, off + i * 4, none⟩ = some v0 ∧ w.cell? ⟨b, off + i * 4 + 1, none⟩ = some v1 ∧ w.cell? ⟨b, off + i * 4 + 2, none⟩ = some v2 ∧ w.cell? ⟨b, off + i * 4 + 3, none⟩ = some v3 ∧ FaX X w (.agg #[v0, v1, v2, v3]) l[i]
theorem FaX.keeps {X : Nat → Prop} {w w' : World} (hk : Keeps w w') {v : Value} {f : Fa} (h : FaX X w v f) : FaX X w' v f := by
  obtain ⟨v1, v2, v3, h0, h1, h2⟩ := h
  exact ⟨v1, v2, v3, h0, h1, TyX.keeps hk _ _ h2⟩
theorem FaRow.keeps {X : Nat → Prop} {w w' : World} (hk : Keeps w w') {a : Option Addr} {l : List Fa} (h : FaRow X w a l) : FaRow X w' a l := by
  rcases h with h3 | ⟨b, off, ha, hb, h3⟩
  · exact .inl h3
  · refine .inr ⟨b, off, ha, hb, fun i hi => ?_⟩
    obtain ⟨v0, v1, v2, v3, g0, g1, g2, g3, ge⟩ := h3 i hi
    exact ⟨v0, v1, v2, v3, hk _ _ g0, hk _ _ g1, hk _ _ g2, hk _ _ g3, ge.keeps hk⟩
theorem FaRow.later {X Y : Nat → Prop} {w W : World} (hk : KeepsBut X w W) (hY : ∀ b, b < w.heap.size → Y b → X b) {a : Option Addr} {l : List Fa} (h : FaRow X w a l) : FaRow Y W a l := by
  rcases h with h3 | ⟨b, off, ha, hb, h3⟩
  · exact .inl h3
  · by_cases hl : l = []
    · exact .inl hl
    · have hlt : 0 < l.length := List.length_pos_iff.2 hl
      obtain ⟨_, _, _, _, g0, _⟩ := h3 0 hlt
      have hbl := cell_block g0
      refine .inr ⟨b, off, ha, fun h => hb (hY _ hbl h), fun i hi => ?_⟩
      obtain ⟨v0, v1, v2, v3, g0, g1, g2, g3, x1, x2, x3, e0, e1, e2⟩ := h3 i hi
      exact ⟨v0, v1, v2, v3, hk.2 _ _ hb g0, hk.2 _ _ hb g1, hk.2 _ _ hb g2, hk.2 _ _ hb g3, x1, x2, x3, e0, e1, TyX.later hk hY e2⟩
theorem FaRow.at {X : Nat → Prop} {w : World} {a : Option Addr} {l : List Fa} (h : FaRow X w a l) (hne : l ≠ []) : ∃ b off, a = some ⟨b, off, none⟩ ∧ ∀ i (h : i < l.length), ∃ a1 c1,
    w.cell? ⟨b, off + i * 4, none⟩ = some (.int .i64 l[i].n) ∧ w.cell? ⟨b, off + i * 4 + 1, none⟩ = some (.string l[i].ty.name) ∧ w.cell? ⟨b, off + i * 4 + 2, none⟩ = some (.int .i64 l[i].ty.n) ∧ w.cell? ⟨b, off + i * 4 + 3, none⟩ = some (.slice a1 l[i].ty.args.length c1) ∧
    TyX X w (.agg #[.string l[i].ty.name, .int .i64 l[i].ty.n, .slice a1 l[i].ty.args.length c1]) l[i].ty ∧ (-9223372036854775808 ≤ l[i].n ∧ l[i].n ≤ 9223372036854775807) := by
  rcases h with h | ⟨b, off, ha, hb, h⟩
  · exact (hne h).elim
  · refine ⟨b, off, ha, fun i hi => ?_⟩
    obtain ⟨v0, v1, v2, v3, g0, g1, g2, g3, x1, x2, x3, hv, hn, he⟩ := h i hi
    simp only [Value.agg.injEq, Array.mk.injEq, List.cons.injEq, and_true] at hv
    obtain ⟨rfl, rfl, rfl, rfl⟩ := hv
    obtain ⟨a1, c1, hv⟩ := he.form
    simp only [Value.agg.injEq, Array.mk.injEq, List.cons.injEq, and_true] at hv
    obtain ⟨rfl, rfl, rfl⟩ := hv
    exact ⟨a1, c1, g0, g1, g2, g3, he, hn⟩
end Go.Proofs.YtnfclcfcpgfajaaGreatDoor

/- A map that the call itself made, as a function from keys to values (values of any kind). -/
namespace Go.Proofs.YtnfclcfcpgfajaaGreatDoor
open Go.RowKit
open Go.Maps (Keyed)

def heldR : Value → Option (DataW Value × List MemPlace) := fun v => some (.held v, [])

/-- Block b is a map of at most n entries, which holds f. -/
def MapOf (P : Program) (w : World) (k : TypeId) (b n : Nat) (f : Lit → Option Value) : Prop :=
  ∃ D : DataW Value, w.ownsMap P k heldR b n D ∧ ∀ kl z, D.atKey kl (.held z) = .held ((f kl).getD z)

noncomputable def updF (f : Lit → Option Value) (kl : Lit) (v : Value) : Lit → Option Value := fun x => open Classical in if x = kl then some v else f x
theorem updF_same (f : Lit → Option Value) (kl : Lit) (v : Value) : updF f kl v kl = some v := by simp [updF]
theorem updF_other {f : Lit → Option Value} {kl x : Lit} {v : Value} (h : x ≠ kl) : updF f kl v x = f x := by simp [updF, h]

theorem MapOf.made (P : Program) (w : World) (k : TypeId) : MapOf P (w.alloc (.map #[] 0)) k w.heap.size 0 (fun _ => none) :=
  ⟨.map [], World.ownsMap_made w P k heldR, fun _ _ => rfl⟩

theorem MapOf.lt {P : Program} {w : World} {k : TypeId} {b n : Nat} {f : Lit → Option Value} (h : MapOf P w k b n f) : b < w.heap.size := h.choose_spec.1.lt

theorem MapOf.below {P : Program} {w w' : World} {k : TypeId} {b n B : Nat} {f : Lit → Option Value} (h : MapOf P w k b n f) (hB : Below B w w') (hb : b < B) : MapOf P w' k b n f := by
  obtain ⟨D, ⟨es, clock, h1, h2, h3, h4⟩, h5⟩ := h
  exact ⟨D, ⟨es, clock, (hB.block b hb).trans h1, h2, h3, h4⟩, h5⟩

theorem MapOf.look {P : Program} {w : World} {k t e : TypeId} {b n : Nat} {f : Lit → Option Value} (h : MapOf P w k b n f) (K : Keyed P k) (ht : P.underlying t = some (.map k e)) {z : Value} (hz : (zeroValue e).run P w = .ok z w)
    {key : Value} {kl : Lit} (hkey : keyOf P k key = some kl) : (Instr.lookup t (.map (some b)) key false).run P w = .ok ((f kl).getD z) w := by
  obtain ⟨D, h1, h2⟩ := h
  obtain ⟨v, ps, hrun, hv⟩ := h1.lookup K ht hz (zd := .held z) (zp := []) rfl hkey
  rw [h2] at hv
  simp only [heldR, Option.some.injEq, Prod.mk.injEq, DataW.held.injEq] at hv
  rw [hrun, hv.1]

theorem MapOf.update {P : Program} {w : World} {k t e : TypeId} {b n : Nat} {f : Lit → Option Value} (h : MapOf P w k b n f) (K : Keyed P k) (ht : P.underlying t = some (.map k e)) (hn : n < maxLen)
    {key val : Value} {kl : Lit} (hkey : keyOf P k key = some kl) : ∃ w', (Instr.mapUpdate t (.map (some b)) key val).run P w = .ok () w' ∧ MapOf P w' k b (n + 1) (updF f kl val) ∧ w.grownBy w' (some b) := by
  obtain ⟨D, h1, h2⟩ := h
  obtain ⟨w', hrun, h3, h4⟩ := h1.update K ht hn hkey (d := .held val) (ps := []) (R := heldR) (val := val) rfl
  refine ⟨w', hrun, ⟨_, h3, fun x z => ?_⟩, h4⟩
  have hm : Maps.IsMap D := by obtain ⟨es, clock, _, _, _, rfl⟩ := h1; exact ⟨_, rfl⟩
  by_cases hx : x = kl
  · subst hx
    rw [Maps.atKey_put_same hm (K.key hkey), updF_same]; rfl
  · rw [Maps.atKey_put_other hx, updF_other hx, h2]

/-- 'm[k] = v' at the operation. -/
theorem wpList_put {P : Program} (w : World) {ops : Array Oper} {rest : List Oper} {o : Oper} {a : Act} {Q : Exit → Act → World → Prop}
    (hg : o.guard = none) (m x v : Operand) (t : TypeId) (hop : o.op = Op.mapUpdate t m x v)
    (k e : TypeId) (K : Keyed P k) (ht : P.underlying t = some (.map k e)) (b n : Nat) (f : Lit → Option Value)
    (hm : a.eval m = .map (some b)) (hown : MapOf P w k b n f) (hn : n < maxLen) (key val : Value) (kl : Lit) (hx : a.eval x = key) (hv : a.eval v = val) (hkey : keyOf P k key = some kl)
    (hK : ∀ w', MapOf P w' k b (n + 1) (updF f kl val) → w.grownBy w' (some b) → wpList P ops Q rest (a.put o.dst undef) w') :
    wpList P ops Q (o :: rest) a w := by
  refine wpList_plain hg fun K' hK' => ?_
  obtain ⟨w', hrun, r1, r2⟩ := hown.update K ht hn hkey (val := val)
  unfold Oper.wp
  simp [execOp, hop, hm, hx, hv, hrun, Result.andThen]
  exact hK' _ _ (hK w' r1 r2)

end Go.Proofs.YtnfclcfcpgfajaaGreatDoor
