/- What memory holds: types, none of whose rows lies in some blocks; facts. -/
import Derived.Test.YticjpeefhppjoaaDoorBase
namespace Go.Proofs.YticjpeefhppjoaaDoor
open Go.RowKit

/-- All cells but those of some blocks hold what they held. -/
def KeepsBut (X : Nat → Prop) (W W' : World) : Prop := W.heap.size ≤ W'.heap.size ∧ ∀ a v, ¬ X a.block → W.cell? a = some v → W'.cell? a = some v
theorem KeepsBut.refl (X : Nat → Prop) (W : World) : KeepsBut X W W := ⟨Nat.le_refl _, fun _ _ _ h => h⟩
theorem KeepsBut.trans {X : Nat → Prop} {A B C : World} (h : KeepsBut X A B) (k : KeepsBut X B C) : KeepsBut X A C := ⟨Nat.le_trans h.1 k.1, fun a v hx hv => k.2 a v hx (h.2 a v hx hv)⟩
theorem KeepsBut.of_below {X : Nat → Prop} {W W' : World} (h : Below W.heap.size W W') : KeepsBut X W W' := ⟨h.size, fun a v _ hv => Keeps.of_below h a v hv⟩
theorem KeepsBut.wider {X Y : Nat → Prop} {W W' : World} (h : KeepsBut X W W') (hY : ∀ b, X b → Y b) : KeepsBut Y W W' := ⟨h.1, fun a v hx hv => h.2 a v (fun h' => hx (hY _ h')) hv⟩

inductive Ty where
  | mk (name : Str) (n : Int) (args : List Ty)
def Ty.name : Ty → Str | .mk s _ _ => s
def Ty.n : Ty → Int | .mk _ n _ => n
def Ty.args : Ty → List Ty | .mk _ _ l => l

theorem Ty.size_arg {s : Str} {n : Int} {l : List Ty} {e : Ty} (h : e ∈ l) : SizeOf.sizeOf e < SizeOf.sizeOf (Ty.mk s n l) := by
  have := List.sizeOf_lt_of_mem h
  simp only [Ty.mk.sizeOf_spec]
  omega
theorem Ty.ind {motive : Ty → Prop} (step : ∀ s n l, (∀ e ∈ l, motive e) → motive (.mk s n l)) : ∀ e, motive e := by
  have h : ∀ m, ∀ e : Ty, SizeOf.sizeOf e ≤ m → motive e := by
    intro m
    induction m with
    | zero => intro e he; cases e; simp only [Ty.mk.sizeOf_spec] at he; omega
    | succ m ih =>
      intro e he
      cases e with
      | mk s n l => exact step s n l fun x hx => ih x (by have := Ty.size_arg (s := s) (n := n) hx; omega)
  exact fun e => h _ e (Nat.le_refl _)

mutual
/-- A value is a type, none of whose rows lies in some blocks. -/
def TyX (X : Nat → Prop) (w : World) (v : Value) : Ty → Prop
  | .mk s n l => ∃ a c, v = .agg #[.string s, .int .i64 n, .slice a l.length c] ∧ (a = none → c = 0) ∧ (-9223372036854775808 ≤ n ∧ n ≤ 9223372036854775807) ∧ s.size ≤ lenMax ∧ l.length ≤ lenMax ∧ TyFrom X w a l
def TyFrom (X : Nat → Prop) (w : World) (a : Option Addr) : List Ty → Prop
  | [] => True
  | e :: r => ∃ b off v0 v1 v2, a = some ⟨b, off, none⟩ ∧ ¬ X b ∧ w.cell? ⟨b, off, none⟩ = some v0 ∧ w.cell? ⟨b, off + 1, none⟩ = some v1 ∧ w.cell? ⟨b, off + 2, none⟩ = some v2 ∧ TyX X w (.agg #[v0, v1, v2]) e ∧ TyFrom X w (some ⟨b, off + 3, none⟩) r
end

/-- Types in a row of cells, three each. -/
def TyRow (X : Nat → Prop) (w : World) (a : Option Addr) (l : List Ty) : Prop :=
  l = [] ∨ ∃ b off, a = some ⟨b, off, none⟩ ∧ ¬ X b ∧ ∀ i (h : i < l.length), ∃ v0 v1 v2, w.cell? ⟨b, off + i * 3, none⟩ = some v0 ∧ w.cell? ⟨b, off + i * 3 + 1, none⟩ = some v1 ∧ w.cell? ⟨b, off + i * 3 + 2, none⟩ = some v2 ∧ TyX X w (.agg #[v0, v1, v2]) l[i]

theorem tyFrom_at {X : Nat → Prop} {w : World} : ∀ (l : List Ty) (b off : Nat), ¬ X b → (TyFrom X w (some ⟨b, off, none⟩) l ↔ ∀ i (h : i < l.length), ∃ v0 v1 v2, w.cell? ⟨b, off + i * 3, none⟩ = some v0 ∧ w.cell? ⟨b, off + i * 3 + 1, none⟩ = some v1 ∧ w.cell? ⟨b, off + i * 3 + 2, none⟩ = some v2 ∧ TyX X w (.agg #[v0, v1, v2]) l[i])
  | [], _, _, _ => by simp [TyFrom]
  | e :: r, b, off, hb => by
    simp only [TyFrom]
    constructor
    · rintro ⟨b', off', v0, v1, v2, ha, _, h0, h1, h2, he, hr⟩ i hi
      simp only [Option.some.injEq, Addr.mk.injEq] at ha
      obtain ⟨rfl, rfl, -⟩ := ha
      cases i with
      | zero => exact ⟨v0, v1, v2, by simpa using h0, by simpa using h1, by simpa using h2, he⟩
      | succ i =>
        have := (tyFrom_at r b (off + 3) hb).1 hr i (by simpa using hi)
        rw [show off + (i + 1) * 3 = off + 3 + i * 3 from by omega]
        simpa using this
    · intro h
      obtain ⟨v0, v1, v2, h0, h1, h2, he⟩ := h 0 (by simp)
      refine ⟨b, off, v0, v1, v2, rfl, hb, by simpa using h0, by simpa using h1, by simpa using h2, he, (tyFrom_at r b (off + 3) hb).2 fun i hi => ?_⟩
      have := h (i + 1) (by simpa using hi)
      rw [show off + (i + 1) * 3 = off + 3 + i * 3 from by omega] at this
      simpa using this
theorem tyRow_of_from {X : Nat → Prop} {w : World} {a : Option Addr} {l : List Ty} (h : TyFrom X w a l) : TyRow X w a l := by
  cases l with
  | nil => exact .inl rfl
  | cons e r =>
    have h' := h
    simp only [TyFrom] at h'
    obtain ⟨b, off, _, _, _, rfl, hb, _⟩ := h'
    exact .inr ⟨b, off, rfl, hb, (tyFrom_at _ _ _ hb).1 h⟩
theorem tyFrom_of_row {X : Nat → Prop} {w : World} {a : Option Addr} {l : List Ty} (h : TyRow X w a l) : TyFrom X w a l := by
  rcases h with rfl | ⟨b, off, rfl, hb, h⟩
  · simp [TyFrom]
  · exact (tyFrom_at _ _ _ hb).2 h
theorem TyX.open {X : Nat → Prop} {w : World} {v : Value} {s : Str} {n : Int} {l : List Ty} (h : TyX X w v (.mk s n l)) : ∃ a c, v = .agg #[.string s, .int .i64 n, .slice a l.length c] ∧ (a = none → c = 0) ∧ (-9223372036854775808 ≤ n ∧ n ≤ 9223372036854775807) ∧ s.size ≤ lenMax ∧ l.length ≤ lenMax ∧ TyRow X w a l := by
  simp only [TyX] at h
  obtain ⟨a, c, h0, h1, h2, h3, h4, h5⟩ := h
  exact ⟨a, c, h0, h1, h2, h3, h4, tyRow_of_from h5⟩
theorem TyX.shut {X : Nat → Prop} {w : World} {a : Option Addr} {c : Nat} {s : Str} {n : Int} {l : List Ty} (h0 : a = none → c = 0) (hn : -9223372036854775808 ≤ n ∧ n ≤ 9223372036854775807) (h1 : s.size ≤ lenMax) (h2 : l.length ≤ lenMax) (h : TyRow X w a l) : TyX X w (.agg #[.string s, .int .i64 n, .slice a l.length c]) (.mk s n l) := by
  simp only [TyX]; exact ⟨a, c, rfl, h0, hn, h1, h2, tyFrom_of_row h⟩
theorem TyX.later {X Y : Nat → Prop} {w W : World} (hk : KeepsBut X w W) (hY : ∀ b, b < w.heap.size → Y b → X b) : ∀ {e : Ty} {v : Value}, TyX X w v e → TyX Y W v e := by
  have : ∀ (e : Ty) (v : Value), TyX X w v e → TyX Y W v e := by
    refine Ty.ind fun s n l ih v h => ?_
    obtain ⟨a, c, h0, hc, hn, h1, h2, h3⟩ := h.open
    subst h0
    refine TyX.shut hc hn h1 h2 ?_
    rcases h3 with h3 | ⟨b, off, ha, hb, h3⟩
    · exact .inl h3
    · by_cases hl : l = []
      · exact .inl hl
      · have hlt : 0 < l.length := List.length_pos_iff.2 hl
        obtain ⟨_, _, _, g0, _⟩ := h3 0 hlt
        have hbl := cell_block g0
        refine .inr ⟨b, off, ha, fun h => hb (hY _ hbl h), fun i hi => ?_⟩
        obtain ⟨v0, v1, v2, g0, g1, g2, ge⟩ := h3 i hi
        exact ⟨v0, v1, v2, hk.2 _ _ hb g0, hk.2 _ _ hb g1, hk.2 _ _ hb g2, ih _ (List.getElem_mem hi) _ ge⟩
  intro e v h
  exact this e v h
theorem TyX.keeps {X : Nat → Prop} {w w' : World} (hk : Keeps w w') : ∀ (e : Ty) (v : Value), TyX X w v e → TyX X w' v e := by
  refine Ty.ind fun s n l ih v h => ?_
  obtain ⟨a, c, h0, hc, hn, h1, h2, h3⟩ := h.open
  subst h0
  refine TyX.shut hc hn h1 h2 ?_
  rcases h3 with h3 | ⟨b, off, ha, hb, h3⟩
  · exact .inl h3
  · refine .inr ⟨b, off, ha, hb, fun i hi => ?_⟩
    obtain ⟨v0, v1, v2, g0, g1, g2, ge⟩ := h3 i hi
    exact ⟨v0, v1, v2, hk _ _ g0, hk _ _ g1, hk _ _ g2, ih _ (List.getElem_mem hi) _ ge⟩
theorem TyX.below {X : Nat → Prop} {w w' : World} {v : Value} {e : Ty} (h : TyX X w v e) (hb : Below w.heap.size w w') : TyX X w' v e := TyX.keeps (Keeps.of_below hb) _ _ h
theorem TyX.less {X Y : Nat → Prop} {w : World} {v : Value} {e : Ty} (h : TyX X w v e) (hY : ∀ b, Y b → X b) : TyX Y w v e := TyX.later (KeepsBut.refl _ _) (fun b _ h => hY b h) h
theorem TyRow.keeps {X : Nat → Prop} {w w' : World} {a : Option Addr} {l : List Ty} (hk : Keeps w w') (h : TyRow X w a l) : TyRow X w' a l := by
  rcases h with h3 | ⟨b, off, ha, hb, h3⟩
  · exact .inl h3
  · refine .inr ⟨b, off, ha, hb, fun i hi => ?_⟩
    obtain ⟨v0, v1, v2, g0, g1, g2, ge⟩ := h3 i hi
    exact ⟨v0, v1, v2, hk _ _ g0, hk _ _ g1, hk _ _ g2, TyX.keeps hk _ _ ge⟩
theorem TyX.form {X : Nat → Prop} {w : World} {v : Value} {e : Ty} (h : TyX X w v e) : ∃ a c, v = .agg #[.string e.name, .int .i64 e.n, .slice a e.args.length c] := by
  obtain ⟨s, n, l⟩ := e
  obtain ⟨a, c, rfl, _⟩ := h.open
  exact ⟨a, c, rfl⟩
theorem TyRow.arg {X : Nat → Prop} {w : World} {a : Option Addr} {l : List Ty} (h : TyRow X w a l) (hne : l ≠ []) : ∃ b off, a = some ⟨b, off, none⟩ ∧ ∀ i (h : i < l.length), ∃ a1 c1,
    w.cell? ⟨b, off + i * 3, none⟩ = some (.string l[i].name) ∧ w.cell? ⟨b, off + i * 3 + 1, none⟩ = some (.int .i64 l[i].n) ∧ w.cell? ⟨b, off + i * 3 + 2, none⟩ = some (.slice a1 l[i].args.length c1) ∧ TyX X w (.agg #[.string l[i].name, .int .i64 l[i].n, .slice a1 l[i].args.length c1]) l[i] := by
  rcases h with h | ⟨b, off, ha, hb, h⟩
  · exact (hne h).elim
  · refine ⟨b, off, ha, fun i hi => ?_⟩
    obtain ⟨v0, v1, v2, g0, g1, g2, ge⟩ := h i hi
    obtain ⟨a1, c1, hv⟩ := ge.form
    simp only [Value.agg.injEq, Array.mk.injEq, List.cons.injEq, and_true] at hv
    obtain ⟨rfl, rfl, rfl⟩ := hv
    exact ⟨a1, c1, g0, g1, g2, ge⟩

/-- A value is a type. -/
abbrev IsTy (w : World) (v : Value) (e : Ty) : Prop := TyX (fun _ => False) w v e
theorem TyX.is {X : Nat → Prop} {w : World} {v : Value} {e : Ty} (h : TyX X w v e) : IsTy w v e := h.less fun _ h => h.elim
/-- What lies there is so whatever is new. -/
theorem TyX.of {X : Nat → Prop} {w : World} {v : Value} {e : Ty} (h : IsTy w v e) (hX : ∀ b, b < w.heap.size → ¬ X b) : TyX X w v e := TyX.later (KeepsBut.refl _ _) (fun b hb h => (hX b hb h).elim) h

/-- The box of a struct of three cells. -/
theorem box3 {w wr : World} {v0 v1 v2 : Value} {t : TypeId} (h : Below (w.heap.size + 1) (w.alloc (.cells #[v0, v1, v2] t)) wr) :
    wr.cell? ⟨w.heap.size, 0, none⟩ = some v0 ∧ wr.cell? ⟨w.heap.size, 1, none⟩ = some v1 ∧ wr.cell? ⟨w.heap.size, 2, none⟩ = some v2 := by
  refine ⟨?_, ?_, ?_⟩ <;> (rw [h.cell (by simp), World.cell?_alloc_at _ _ _ _ rfl]; rfl)

/-- What a place is. -/
structure Fa where
  n : Int
  ty : Ty
def FaX (X : Nat → Prop) (w : World) (v : Value) (f : Fa) : Prop := ∃ v1 v2 v3, v = .agg #[.int .i64 f.n, v1, v2, v3] ∧ (-9223372036854775808 ≤ f.n ∧ f.n ≤ 9223372036854775807) ∧ TyX X w (.agg #[v1, v2, v3]) f.ty
/-- Facts in a row of cells, four each. -/
def FaRow (X : Nat → Prop) (w : World) (a : Option Addr) (l : List Fa) : Prop :=
  l = [] ∨ ∃ b off, a = some ⟨b, off, none⟩ ∧ ¬ X b ∧ ∀ i (h : i < l.length), ∃ v0 v1 v2 v3, w.cell? ⟨b, off + i * 4, none⟩ = some v0 ∧ w.cell? ⟨b, off + i * 4 + 1, none⟩ = some v1 ∧ w.cell? ⟨b, off + i * 4 + 2, none⟩ = some v2 ∧ w.cell? ⟨b, off + i * 4 + 3, none⟩ = some v3 ∧ FaX X w (.agg #[v0, v1, v2, v3]) l[i]
theorem FaX.keeps {X : Nat → Prop} {w w' : World} (hk : Keeps w w') {v : Value} {f : Fa} (h : FaX X w v f) : FaX X w' v f := by
  obtain ⟨v1, v2, v3, h0, h1, h2⟩ := h
  exact ⟨v1, v2, v3, h0, h1, TyX.keeps hk _ _ h2⟩
theorem FaRow.keeps {X : Nat → Prop} {w w' : World} (hk : Keeps w w') {a : Option Addr} {l : List Fa} (h : FaRow X w a l) : FaRow X w' a l := by
  rcases h with h3 | ⟨b, off, ha, hb, h3⟩
  · exact .inl h3
  · refine .inr ⟨b, off, ha, hb, fun i hi => ?_⟩
    obtain ⟨v0, v1, v2, v3, g0, g1, g2, g3, ge⟩ := h3 i hi
    exact ⟨v0, v1, v2, v3, hk _ _ g0, hk _ _ g1, hk _ _ g2, hk _ _ g3, ge.keeps hk⟩
theorem FaRow.later {X Y : Nat → Prop} {w W : World} (hk : KeepsBut X w W) (hY : ∀ b, b < w.heap.size → Y b → X b) {a : Option Addr} {l : List Fa} (h : FaRow X w a l) : FaRow Y W a l := by
  rcases h with h3 | ⟨b, off, ha, hb, h3⟩
  · exact .inl h3
  · by_cases hl : l = []
    · exact .inl hl
    · have hlt : 0 < l.length := List.length_pos_iff.2 hl
      obtain ⟨_, _, _, _, g0, _⟩ := h3 0 hlt
      have hbl := cell_block g0
      refine .inr ⟨b, off, ha, fun h => hb (hY _ hbl h), fun i hi => ?_⟩
      obtain ⟨v0, v1, v2, v3, g0, g1, g2, g3, x1, x2, x3, e0, e1, e2⟩ := h3 i hi
      exact ⟨v0, v1, v2, v3, hk.2 _ _ hb g0, hk.2 _ _ hb g1, hk.2 _ _ hb g2, hk.2 _ _ hb g3, x1, x2, x3, e0, e1, TyX.later hk hY e2⟩
theorem FaRow.at {X : Nat → Prop} {w : World} {a : Option Addr} {l : List Fa} (h : FaRow X w a l) (hne : l ≠ []) : ∃ b off, a = some ⟨b, off, none⟩ ∧ ∀ i (h : i < l.length), ∃ a1 c1,
    w.cell? ⟨b, off + i * 4, none⟩ = some (.int .i64 l[i].n) ∧ w.cell? ⟨b, off + i * 4 + 1, none⟩ = some (.string l[i].ty.name) ∧ w.cell? ⟨b, off + i * 4 + 2, none⟩ = some (.int .i64 l[i].ty.n) ∧ w.cell? ⟨b, off + i * 4 + 3, none⟩ = some (.slice a1 l[i].ty.args.length c1) ∧
    TyX X w (.agg #[.string l[i].ty.name, .int .i64 l[i].ty.n, .slice a1 l[i].ty.args.length c1]) l[i].ty ∧ (-9223372036854775808 ≤ l[i].n ∧ l[i].n ≤ 9223372036854775807) := by
  rcases h with h | ⟨b, off, ha, hb, h⟩
  · exact (hne h).elim
  · refine ⟨b, off, ha, fun i hi => ?_⟩
    obtain ⟨v0, v1, v2, v3, g0, g1, g2, g3, x1, x2, x3, hv, hn, he⟩ := h i hi
    simp only [Value.agg.injEq, Array.mk.injEq, List.cons.injEq, and_true] at hv
    obtain ⟨rfl, rfl, rfl, rfl⟩ := hv
    obtain ⟨a1, c1, hv⟩ := he.form
    simp only [Value.agg.injEq, Array.mk.injEq, List.cons.injEq, and_true] at hv
    obtain ⟨rfl, rfl, rfl⟩ := hv
    exact ⟨a1, c1, g0, g1, g2, g3, he, hn⟩
end Go.Proofs.YticjpeefhppjoaaDoor
