/- What memory holds: written types, constructors, types that are told of, names, programs. -/
import Derived.Test.YtpdfeadajgokkaaGreatDoorBase
namespace Go.Proofs.YtpdfeadajgokkaaGreatDoor
open Go.RowKit

inductive Sg where
  | mk (name : Str) (args : List Sg)
def Sg.name : Sg → Str | .mk s _ => s
def Sg.args : Sg → List Sg | .mk _ l => l

theorem Sg.size_arg {s : Str} {l : List Sg} {e : Sg} (h : e ∈ l) : SizeOf.sizeOf e < SizeOf.sizeOf (Sg.mk s l) := by
  have := List.sizeOf_lt_of_mem h
  simp only [Sg.mk.sizeOf_spec]
  omega
theorem Sg.ind {motive : Sg → Prop} (step : ∀ s l, (∀ e ∈ l, motive e) → motive (.mk s l)) : ∀ e, motive e := by
  have h : ∀ m, ∀ e : Sg, SizeOf.sizeOf e ≤ m → motive e := by
    intro m
    induction m with
    | zero => intro e he; cases e; simp only [Sg.mk.sizeOf_spec] at he; omega
    | succ m ih =>
      intro e he
      cases e with
      | mk s l => exact step s l fun x hx => ih x (by have := Sg.size_arg (s := s) hx; omega)
  exact fun e => h _ e (Nat.le_refl _)

mutual
/-- A value is a written type. -/
def IsSg (w : World) (v : Value) : Sg → Prop
  | .mk s l => ∃ a c, v = .agg #[.string s, .slice a l.length c] ∧ s.size ≤ lenMax ∧ l.length ≤ lenMax ∧ SgFrom w a l
def SgFrom (w : World) (a : Option Addr) : List Sg → Prop
  | [] => True
  | e :: r => ∃ b off v0 v1, a = some ⟨b, off, none⟩ ∧ w.cell? ⟨b, off, none⟩ = some v0 ∧ w.cell? ⟨b, off + 1, none⟩ = some v1 ∧ IsSg w (.agg #[v0, v1]) e ∧ SgFrom w (some ⟨b, off + 2, none⟩) r
end

/-- Written types in a row of cells, two each. -/
def SgRow (w : World) (a : Option Addr) (l : List Sg) : Prop :=
  l = [] ∨ ∃ b off, a = some ⟨b, off, none⟩ ∧ ∀ i (h : i < l.length), ∃ v0 v1, w.cell? ⟨b, off + i * 2, none⟩ = some v0 ∧ w.cell? ⟨b, off + i * 2 + 1, none⟩ = some v1 ∧ IsSg w (.agg #[v0, v1]) l[i]

theorem sgFrom_at {w : World} : ∀ (l : List Sg) (b off : Nat), SgFrom w (some ⟨b, off, none⟩) l ↔ ∀ i (h : i < l.length), ∃ v0 v1, w.cell? ⟨b, off + i * 2, none⟩ = some v0 ∧ w.cell? ⟨b, off + i * 2 + 1, none⟩ = some v1 ∧ IsSg w (.agg #[v0, v1]) l[i]
  | [], _, _ => by simp [SgFrom]
  | e :: r, b, off => by
    simp only [SgFrom]
    constructor
    · rintro ⟨b', off', v0, v1, ha, h0, h1, he, hr⟩ i hi
      simp only [Option.some.injEq, Addr.mk.injEq] at ha
      obtain ⟨rfl, rfl, -⟩ := ha
      cases i with
      | zero => exact ⟨v0, v1, by simpa using h0, by simpa using h1, he⟩
      | succ i =>
        have := (sgFrom_at r b (off + 2)).1 hr i (by simpa using hi)
        rw [show off + (i + 1) * 2 = off + 2 + i * 2 from by omega]
        simpa using this
    · intro h
      obtain ⟨v0, v1, h0, h1, he⟩ := h 0 (by simp)
      refine ⟨b, off, v0, v1, rfl, by simpa using h0, by simpa using h1, he, (sgFrom_at r b (off + 2)).2 fun i hi => ?_⟩
      have := h (i + 1) (by simpa using hi)
      rw [show off + (i + 1) * 2 = off + 2 + i * 2 from by omega] at this
      simpa using this
theorem sgRow_of_from {w : World} {a : Option Addr} {l : List Sg} (h : SgFrom w a l) : SgRow w a l := by
  cases l with
  | nil => exact .inl rfl
  | cons e r =>
    have h' := h
    simp only [SgFrom] at h'
    obtain ⟨b, off, _, _, rfl, _⟩ := h'
    exact .inr ⟨b, off, rfl, (sgFrom_at _ _ _).1 h⟩
theorem sgFrom_of_row {w : World} {a : Option Addr} {l : List Sg} (h : SgRow w a l) : SgFrom w a l := by
  rcases h with rfl | ⟨b, off, rfl, h⟩
  · simp [SgFrom]
  · exact (sgFrom_at _ _ _).2 h
theorem IsSg.open {w : World} {v : Value} {s : Str} {l : List Sg} (h : IsSg w v (.mk s l)) : ∃ a c, v = .agg #[.string s, .slice a l.length c] ∧ s.size ≤ lenMax ∧ l.length ≤ lenMax ∧ SgRow w a l := by
  simp only [IsSg] at h
  obtain ⟨a, c, h0, h1, h2, h3⟩ := h
  exact ⟨a, c, h0, h1, h2, sgRow_of_from h3⟩
theorem IsSg.shut {w : World} {a : Option Addr} {c : Nat} {s : Str} {l : List Sg} (h1 : s.size ≤ lenMax) (h2 : l.length ≤ lenMax) (h : SgRow w a l) : IsSg w (.agg #[.string s, .slice a l.length c]) (.mk s l) := by
  simp only [IsSg]; exact ⟨a, c, rfl, h1, h2, sgFrom_of_row h⟩
theorem IsSg.keeps {w w' : World} (hk : Keeps w w') : ∀ (e : Sg) (v : Value), IsSg w v e → IsSg w' v e := by
  refine Sg.ind fun s l ih v h => ?_
  obtain ⟨a, c, h0, h1, h2, h3⟩ := h.open
  subst h0
  refine IsSg.shut h1 h2 ?_
  rcases h3 with h3 | ⟨b, off, ha, h3⟩
  · exact .inl h3
  · refine .inr ⟨b, off, ha, fun i hi => ?_⟩
    obtain ⟨v0, v1, g0, g1, ge⟩ := h3 i hi
    exact ⟨v0, v1, hk _ _ g0, hk _ _ g1, ih _ (List.getElem_mem hi) _ ge⟩
theorem SgRow.keeps {w w' : World} {a : Option Addr} {l : List Sg} (hk : Keeps w w') (h : SgRow w a l) : SgRow w' a l := by
  rcases h with h3 | ⟨b, off, ha, h3⟩
  · exact .inl h3
  · refine .inr ⟨b, off, ha, fun i hi => ?_⟩
    obtain ⟨v0, v1, g0, g1, ge⟩ := h3 i hi
    exact ⟨v0, v1, hk _ _ g0, hk _ _ g1, ge.keeps hk⟩
theorem SgRow.arg {w : World} {a : Option Addr} {l : List Sg} (h : SgRow w a l) (hne : l ≠ []) : ∃ b off, a = some ⟨b, off, none⟩ ∧ ∀ i (h : i < l.length), ∃ a1 c1,
    w.cell? ⟨b, off + i * 2, none⟩ = some (.string l[i].name) ∧ w.cell? ⟨b, off + i * 2 + 1, none⟩ = some (.slice a1 l[i].args.length c1) ∧ IsSg w (.agg #[.string l[i].name, .slice a1 l[i].args.length c1]) l[i] := by
  rcases h with h | ⟨b, off, ha, h⟩
  · exact (hne h).elim
  · refine ⟨b, off, ha, fun i hi => ?_⟩
    obtain ⟨v0, v1, g0, g1, ge⟩ := h i hi
    generalize l[i] = x at ge ⊢
    cases x with
    | mk s l =>
      have ge' := ge
      obtain ⟨a1, c1, hv, _⟩ := ge.open
      simp only [Value.agg.injEq, Array.mk.injEq, List.cons.injEq, and_true] at hv
      obtain ⟨rfl, rfl⟩ := hv
      exact ⟨a1, c1, g0, g1, ge'⟩

/-- A constructor that is told of is as a written type is: a name, and what it is of. -/
structure Dt where
  name : Str
  params : List Str
  forms : List Sg
structure Df where
  name : Str
  body : Ex
structure Pg where
  datas : List Dt
  defs : List Df

def IsDt (w : World) (v : Value) (d : Dt) : Prop := ∃ a1 c1 a2 c2, v = .agg #[.string d.name, .slice a1 d.params.length c1, .slice a2 d.forms.length c2] ∧ (a1 = none → c1 = 0) ∧ d.name.size ≤ lenMax ∧ d.params.length ≤ lenMax ∧ d.forms.length ≤ lenMax ∧ StrRow w a1 d.params ∧ SgRow w a2 d.forms
/-- Types that are told of in a row of cells, three each. -/
def DtRow (w : World) (a : Option Addr) (l : List Dt) : Prop :=
  l = [] ∨ ∃ b off, a = some ⟨b, off, none⟩ ∧ ∀ i (h : i < l.length), ∃ v0 v1 v2, w.cell? ⟨b, off + i * 3, none⟩ = some v0 ∧ w.cell? ⟨b, off + i * 3 + 1, none⟩ = some v1 ∧ w.cell? ⟨b, off + i * 3 + 2, none⟩ = some v2 ∧ IsDt w (.agg #[v0, v1, v2]) l[i]
def IsDf (w : World) (v : Value) (d : Df) : Prop := ∃ v1 v2 v3 v4 v5, v = .agg #[.string d.name, v1, v2, v3, v4, v5] ∧ d.name.size ≤ lenMax ∧ IsEx w (.agg #[v1, v2, v3, v4, v5]) d.body
/-- Names in a row of cells, six each. -/
def DfRow (w : World) (a : Option Addr) (l : List Df) : Prop :=
  l = [] ∨ ∃ b off, a = some ⟨b, off, none⟩ ∧ ∀ i (h : i < l.length), ∃ v0 v1 v2 v3 v4 v5, w.cell? ⟨b, off + i * 6, none⟩ = some v0 ∧ w.cell? ⟨b, off + i * 6 + 1, none⟩ = some v1 ∧ w.cell? ⟨b, off + i * 6 + 2, none⟩ = some v2 ∧ w.cell? ⟨b, off + i * 6 + 3, none⟩ = some v3 ∧
    w.cell? ⟨b, off + i * 6 + 4, none⟩ = some v4 ∧ w.cell? ⟨b, off + i * 6 + 5, none⟩ = some v5 ∧ IsDf w (.agg #[v0, v1, v2, v3, v4, v5]) l[i]
def IsPg (w : World) (v : Value) (p : Pg) : Prop := ∃ a1 c1 a2 c2, v = .agg #[.slice a1 p.datas.length c1, .slice a2 p.defs.length c2] ∧ p.datas.length ≤ lenMax ∧ p.defs.length ≤ lenMax ∧ DtRow w a1 p.datas ∧ DfRow w a2 p.defs

theorem IsDt.keeps {w w' : World} (hk : Keeps w w') {v : Value} {d : Dt} (h : IsDt w v d) : IsDt w' v d := by
  obtain ⟨a1, c1, a2, c2, h0, hc, h1, h2, h3, h4, h5⟩ := h
  exact ⟨a1, c1, a2, c2, h0, hc, h1, h2, h3, h4.keeps hk, h5.keeps hk⟩
theorem DtRow.keeps {w w' : World} (hk : Keeps w w') {a : Option Addr} {l : List Dt} (h : DtRow w a l) : DtRow w' a l := by
  rcases h with h3 | ⟨b, off, ha, h3⟩
  · exact .inl h3
  · refine .inr ⟨b, off, ha, fun i hi => ?_⟩
    obtain ⟨v0, v1, v2, g0, g1, g2, ge⟩ := h3 i hi
    exact ⟨v0, v1, v2, hk _ _ g0, hk _ _ g1, hk _ _ g2, ge.keeps hk⟩
theorem IsDf.keeps {w w' : World} (hk : Keeps w w') {v : Value} {d : Df} (h : IsDf w v d) : IsDf w' v d := by
  obtain ⟨v1, v2, v3, v4, v5, h0, h1, h2⟩ := h
  exact ⟨v1, v2, v3, v4, v5, h0, h1, h2.keeps hk⟩
theorem DfRow.keeps {w w' : World} (hk : Keeps w w') {a : Option Addr} {l : List Df} (h : DfRow w a l) : DfRow w' a l := by
  rcases h with h3 | ⟨b, off, ha, h3⟩
  · exact .inl h3
  · refine .inr ⟨b, off, ha, fun i hi => ?_⟩
    obtain ⟨v0, v1, v2, v3, v4, v5, g0, g1, g2, g3, g4, g5, ge⟩ := h3 i hi
    exact ⟨v0, v1, v2, v3, v4, v5, hk _ _ g0, hk _ _ g1, hk _ _ g2, hk _ _ g3, hk _ _ g4, hk _ _ g5, ge.keeps hk⟩
theorem IsPg.keeps {w w' : World} (hk : Keeps w w') {v : Value} {p : Pg} (h : IsPg w v p) : IsPg w' v p := by
  obtain ⟨a1, c1, a2, c2, h0, h1, h2, h3, h4⟩ := h
  exact ⟨a1, c1, a2, c2, h0, h1, h2, h3.keeps hk, h4.keeps hk⟩

theorem DtRow.at {w : World} {a : Option Addr} {l : List Dt} (h : DtRow w a l) (hne : l ≠ []) : ∃ b off, a = some ⟨b, off, none⟩ ∧ ∀ i (h : i < l.length), ∃ a1 c1 a2 c2,
    w.cell? ⟨b, off + i * 3, none⟩ = some (.string l[i].name) ∧ w.cell? ⟨b, off + i * 3 + 1, none⟩ = some (.slice a1 l[i].params.length c1) ∧ w.cell? ⟨b, off + i * 3 + 2, none⟩ = some (.slice a2 l[i].forms.length c2) ∧
    IsDt w (.agg #[.string l[i].name, .slice a1 l[i].params.length c1, .slice a2 l[i].forms.length c2]) l[i] := by
  rcases h with h | ⟨b, off, ha, h⟩
  · exact (hne h).elim
  · refine ⟨b, off, ha, fun i hi => ?_⟩
    obtain ⟨v0, v1, v2, g0, g1, g2, ge⟩ := h i hi
    have ge' := ge
    obtain ⟨a1, c1, a2, c2, hv, _⟩ := ge
    simp only [Value.agg.injEq, Array.mk.injEq, List.cons.injEq, and_true] at hv
    obtain ⟨rfl, rfl, rfl⟩ := hv
    exact ⟨a1, c1, a2, c2, g0, g1, g2, ge'⟩
theorem DfRow.at {w : World} {a : Option Addr} {l : List Df} (h : DfRow w a l) (hne : l ≠ []) : ∃ b off, a = some ⟨b, off, none⟩ ∧ ∀ i (h : i < l.length), ∃ a1 c1 a2 c2,
    w.cell? ⟨b, off + i * 6, none⟩ = some (.string l[i].name) ∧ w.cell? ⟨b, off + i * 6 + 1, none⟩ = some (.int .i64 l[i].body.kind) ∧ w.cell? ⟨b, off + i * 6 + 2, none⟩ = some (.string l[i].body.name) ∧ w.cell? ⟨b, off + i * 6 + 3, none⟩ = some (.int .i64 l[i].body.num) ∧
    w.cell? ⟨b, off + i * 6 + 4, none⟩ = some (.slice a1 l[i].body.names.length c1) ∧ w.cell? ⟨b, off + i * 6 + 5, none⟩ = some (.slice a2 l[i].body.kids.length c2) ∧
    IsDf w (.agg #[.string l[i].name, .int .i64 l[i].body.kind, .string l[i].body.name, .int .i64 l[i].body.num, .slice a1 l[i].body.names.length c1, .slice a2 l[i].body.kids.length c2]) l[i] := by
  rcases h with h | ⟨b, off, ha, h⟩
  · exact (hne h).elim
  · refine ⟨b, off, ha, fun i hi => ?_⟩
    obtain ⟨v0, v1, v2, v3, v4, v5, g0, g1, g2, g3, g4, g5, ge⟩ := h i hi
    have ge' := ge
    obtain ⟨_, _, _, _, _, hv, _, he⟩ := ge
    simp only [Value.agg.injEq, Array.mk.injEq, List.cons.injEq, and_true] at hv
    obtain ⟨rfl, rfl, rfl, rfl, rfl, rfl⟩ := hv
    generalize hx : l[i] = x at he ge' g0 ⊢
    obtain ⟨nm, ⟨k, s, n, ls, ks⟩⟩ := x
    obtain ⟨a1, c1, a2, c2, hv, _⟩ := IsEx.open he
    simp only [Value.agg.injEq, Array.mk.injEq, List.cons.injEq, and_true] at hv
    obtain ⟨rfl, rfl, rfl, rfl, rfl⟩ := hv
    exact ⟨a1, c1, a2, c2, g0, g1, g2, g3, g4, g5, ge'⟩
end Go.Proofs.YtpdfeadajgokkaaGreatDoor
