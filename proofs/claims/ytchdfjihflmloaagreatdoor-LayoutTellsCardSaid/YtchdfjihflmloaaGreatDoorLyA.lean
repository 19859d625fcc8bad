/- What lines stand for, in plain words: no program in sight. -/
import Derived.Test.YtchdfjihflmloaaGreatDoorLxA
namespace Go.Proofs.YtchdfjihflmloaaGreatDoor

def pOpen : Bs := [40]
def pShut : Bs := [41]
def bOpen : Bs := [123]
def bShut : Bs := [125]
def semiT : Bs := [59]
def blockW : List Bs := [[111, 102], [100, 111], [100, 111, 115]]
/-- Is a token that key word, or sign? -/
def keyT (t : Tk) (s : Bs) : Bool := decide (t.kind = 4) && decide (t.text = s)
def blockT (t : Tk) : Bool := decide (t.kind = 4) && blockW.contains t.text
/-- A sign, put at a token. -/
def mkT (s : Bs) (t : Tk) : Tk := ⟨4, s, 0, t.line, t.col⟩
/-- Blocks of columns that are shut, as long as p holds: how many, and what is left. -/
def shutW (p : Int → Bool) : List Int → Nat × List Int
  | [] => (0, [])
  | c :: r => if 0 < c ∧ p c = true then ((shutW p r).1 + 1, (shutW p r).2) else (0, c :: r)
def colS : List Int → Int
  | [] => 0
  | c :: r => if 0 < c then c else colS r
/-- A line begins at a token. -/
def lineS (t : Tk) (st : List Int) : List Tk × List Int :=
  (List.replicate (shutW (fun c => decide (t.col < c)) st).1 (mkT bShut t) ++ (if (shutW (fun c => decide (t.col < c)) st).2.head? = some t.col ∧ 0 < t.col then [mkT semiT t] else []), (shutW (fun c => decide (t.col < c)) st).2)
/-- What a closing bracket shuts. -/
def fitS (t : Tk) (st : List Int) : Option (List Tk × List Int) :=
  if keyT t pShut = true then match (shutW (fun _ => true) st).2 with
    | [] => none
    | c :: r => if c = -1 then some (List.replicate (shutW (fun _ => true) st).1 (mkT bShut t), r) else none
  else if keyT t bShut = true then match st with
    | [] => none
    | c :: r => if c = 0 then some ([], r) else none
  else some ([], st)
/-- What a token opens; whether a block of the next one's column. -/
def behS (t : Tk) (next : Option Tk) (st : List Int) : List Tk × List Int × Bool :=
  if keyT t pOpen = true then ([], -1 :: st, false)
  else if keyT t bOpen = true then ([], 0 :: st, false)
  else if blockT t = true then match next with
    | some u => if keyT u bOpen = true then ([], st, false) else if colS st < u.col then ([mkT bOpen u], u.col :: st, true) else ([mkT bOpen t, mkT bShut t], st, false)
    | none => ([mkT bOpen t, mkT bShut t], st, false)
  else ([], st, false)
/-- What stands ahead of a token. -/
def aheadS (prev : Option Tk) (fresh : Bool) (t : Tk) (st : List Int) : List Tk × List Int :=
  match prev with
  | none => if keyT t bOpen = true then ([], st) else ([mkT bOpen t], max t.col 1 :: st)
  | some p => if fresh = false ∧ p.line < t.line then lineS t st else ([], st)
def endS (prev : Option Tk) (st : List Int) : Res :=
  match prev with
  | none => .ok []
  | some e => if (shutW (fun _ => true) st).2 = [] then .ok (List.replicate (shutW (fun _ => true) st).1 (mkT bShut e)) else .bad e.line e.col
/-- Tokens with what their lines stand for. -/
def layS : Option Tk → Bool → List Int → List Tk → Res
  | prev, _, st, [] => endS prev st
  | prev, fresh, st, t :: r =>
    match fitS t (aheadS prev fresh t st).2 with
    | none => .bad t.line t.col
    | some (o2, s2) => Res.pre ((aheadS prev fresh t st).1 ++ (o2 ++ (t :: (behS t r.head? s2).1))) (layS (some t) (behS t r.head? s2).2.2 (behS t r.head? s2).2.1 r)
def layF (l : List Tk) : Res := layS none true [] l

theorem pre_ok {a : List Tk} {r : Res} {m : List Tk} (h : Res.pre a r = .ok m) : ∃ q, r = .ok q ∧ m = a ++ q := by
  cases r with
  | bad x y => cases h
  | ok q => simp only [Res.pre, Res.ok.injEq] at h; exact ⟨q, rfl, h.symm⟩
theorem layS_cons {prev : Option Tk} {fresh : Bool} {st : List Int} {t : Tk} {r m : List Tk} (h : layS prev fresh st (t :: r) = .ok m) :
    ∃ o2 s2 q, fitS t (aheadS prev fresh t st).2 = some (o2, s2) ∧ layS (some t) (behS t r.head? s2).2.2 (behS t r.head? s2).2.1 r = .ok q ∧ m = (aheadS prev fresh t st).1 ++ (o2 ++ (t :: (behS t r.head? s2).1)) ++ q := by
  rw [layS] at h
  cases hf : fitS t (aheadS prev fresh t st).2 with
  | none => rw [hf] at h; cases h
  | some p =>
    obtain ⟨o2, s2⟩ := p
    rw [hf] at h
    obtain ⟨q, h1, h2⟩ := pre_ok h
    exact ⟨o2, s2, q, rfl, h1, h2⟩

/-! ### Brackets fit -/
def popB (b : Bool) : List Bool → Option (List Bool)
  | [] => none
  | x :: q => if x = b then some q else none
/-- One token: which brackets are open behind it (true: a round one); none: it does not fit. -/
def stepB (s : List Bool) (t : Tk) : Option (List Bool) :=
  if keyT t pOpen = true then some (true :: s)
  else if keyT t bOpen = true then some (false :: s)
  else if keyT t pShut = true then popB true s
  else if keyT t bShut = true then popB false s
  else some s
def chkB : List Bool → List Tk → Option (List Bool)
  | s, [] => some s
  | s, t :: r => (stepB s t).bind fun q => chkB q r
theorem chkB_append : ∀ (a b : List Tk) (s : List Bool), chkB s (a ++ b) = (chkB s a).bind fun q => chkB q b
  | [], b, s => rfl
  | t :: r, b, s => by
    rw [List.cons_append, chkB, chkB]
    cases stepB s t with
    | none => rfl
    | some q => exact chkB_append r b q
def parS (st : List Int) : List Bool := st.map fun c => decide (c = -1)
theorem keyT_mk (s u : Bs) (t : Tk) : keyT (mkT s t) u = decide (s = u) := by unfold keyT mkT; simp
theorem stepB_shut (e : Tk) (q : List Bool) : stepB (false :: q) (mkT bShut e) = some q := by
  unfold stepB
  rw [keyT_mk, keyT_mk, keyT_mk, keyT_mk, if_neg (by decide), if_neg (by decide), if_neg (by decide), if_pos (by decide)]
  rfl
theorem stepB_open (e : Tk) (q : List Bool) : stepB q (mkT bOpen e) = some (false :: q) := by
  unfold stepB
  rw [keyT_mk, keyT_mk, if_neg (by decide), if_pos (by decide)]
theorem chk_shut (e : Tk) (p : Int → Bool) : ∀ st : List Int, chkB (parS st) (List.replicate (shutW p st).1 (mkT bShut e)) = some (parS (shutW p st).2)
  | [] => rfl
  | c :: r => by
    rw [shutW]
    split
    · rename_i h
      have ih := chk_shut e p r
      have : parS (c :: r) = false :: parS r := by unfold parS; simp; omega
      rw [this, List.replicate_succ, chkB, stepB_shut]
      exact ih
    · simp [chkB]
theorem chk_one (t : Tk) (s : List Bool) (h1 : keyT t pOpen = false) (h2 : keyT t bOpen = false) (h3 : keyT t pShut = false) (h4 : keyT t bShut = false) : chkB s [t] = some s := by
  have : stepB s t = some s := by
    unfold stepB
    rw [if_neg (by rw [h1]; simp), if_neg (by rw [h2]; simp), if_neg (by rw [h3]; simp), if_neg (by rw [h4]; simp)]
  rw [chkB, this]; rfl
theorem keyT_ne {t : Tk} {s u : Bs} (h : keyT t s = true) (hne : s ≠ u) : keyT t u = false := by
  unfold keyT at h ⊢
  simp at h ⊢
  intro _ e
  rw [h.2] at e
  exact hne e
theorem blockT_ne {t : Tk} {u : Bs} (h : blockT t = true) (hu : u ∉ blockW) : keyT t u = false := by
  unfold blockT at h
  unfold keyT
  simp at h ⊢
  intro _ e
  exact hu (e ▸ h.2)
theorem colS_nonneg : ∀ st : List Int, 0 ≤ colS st
  | [] => Int.le_refl _
  | c :: r => by
    rw [colS]
    split
    · omega
    · exact colS_nonneg r
theorem ahead_chk (prev : Option Tk) (fresh : Bool) (t : Tk) (st : List Int) : chkB (parS st) (aheadS prev fresh t st).1 = some (parS (aheadS prev fresh t st).2) := by
  unfold aheadS
  cases prev with
  | none =>
    simp only
    split
    · rfl
    · rw [chkB, stepB_open]
      simp only [Option.bind_some, chkB]
      unfold parS
      simp; omega
  | some p =>
    simp only
    split
    · unfold lineS
      simp only
      rw [chkB_append, chk_shut]
      simp only [Option.bind_some]
      split
      · rw [chk_one _ _ (by rw [keyT_mk]; decide) (by rw [keyT_mk]; decide) (by rw [keyT_mk]; decide) (by rw [keyT_mk]; decide)]
      · rfl
    · rfl
theorem fit_chk {t : Tk} {st : List Int} {o2 : List Tk} {s2 : List Int} (h : fitS t st = some (o2, s2)) (next : Option Tk) : chkB (parS st) (o2 ++ (t :: (behS t next s2).1)) = some (parS (behS t next s2).2.1) := by
  unfold fitS at h
  by_cases h1 : keyT t pShut = true
  · rw [if_pos h1] at h
    have e1 := keyT_ne h1 (u := pOpen) (by decide)
    have e2 := keyT_ne h1 (u := bOpen) (by decide)
    have e3 : blockT t = false := by
      cases hb : blockT t with
      | false => rfl
      | true => have := blockT_ne hb (u := pShut) (by decide); rw [this] at h1; cases h1
    have hb : behS t next s2 = ([], s2, false) := by unfold behS; rw [e1, e2, e3]; simp
    rw [hb]
    simp only
    cases hs : (shutW (fun _ => true) st).2 with
    | nil => rw [hs] at h; cases h
    | cons c r =>
      rw [hs] at h
      simp only at h
      split at h
      · rename_i hc
        simp only [Option.some.injEq, Prod.mk.injEq] at h
        obtain ⟨rfl, rfl⟩ := h
        rw [chkB_append, chk_shut, hs]
        subst hc
        simp only [Option.bind_some, parS, List.map_cons, decide_true, chkB, stepB]
        rw [if_neg (by rw [e1]; simp), if_neg (by rw [e2]; simp), if_pos h1]
        rfl
      · cases h
  · rw [if_neg h1] at h
    by_cases h2 : keyT t bShut = true
    · rw [if_pos h2] at h
      have e1 := keyT_ne h2 (u := pOpen) (by decide)
      have e2 := keyT_ne h2 (u := bOpen) (by decide)
      have e3 : blockT t = false := by
        cases hb : blockT t with
        | false => rfl
        | true => have := blockT_ne hb (u := bShut) (by decide); rw [this] at h2; cases h2
      have hb : behS t next s2 = ([], s2, false) := by unfold behS; rw [e1, e2, e3]; simp
      rw [hb]
      cases st with
      | nil => cases h
      | cons c r =>
        simp only at h
        split at h
        · rename_i hc
          simp only [Option.some.injEq, Prod.mk.injEq] at h
          obtain ⟨rfl, rfl⟩ := h
          subst hc
          simp only [List.nil_append, parS, List.map_cons, chkB, stepB]
          rw [if_neg (by rw [e1]; simp), if_neg (by rw [e2]; simp), if_neg h1, if_pos h2]
          rfl
        · cases h
    · rw [if_neg h2] at h
      simp only [Option.some.injEq, Prod.mk.injEq] at h
      obtain ⟨rfl, rfl⟩ := h
      rw [List.nil_append]
      unfold behS
      split
      · simp only [chkB, stepB]; rw [if_pos ‹_›]; rfl
      · rename_i e1
        split
        · simp only [chkB, stepB]; rw [if_neg e1, if_pos ‹_›]; unfold parS; simp
        · rename_i e2
          have one : ∀ s, chkB s [t] = some s := fun s => chk_one t s (by simpa using e1) (by simpa using e2) (by simpa using h1) (by simpa using h2)
          have two : ∀ s, chkB s [t, mkT bOpen t, mkT bShut t] = some s := by
            intro s
            have := chkB_append [t] [mkT bOpen t, mkT bShut t] s
            rw [List.singleton_append] at this
            rw [this, one]
            simp only [Option.bind_some, chkB, stepB_open, stepB_shut]
          split
          · cases next with
            | none => exact two _
            | some u =>
              simp only
              split
              · exact one _
              · split
                · rename_i hc
                  have := chkB_append [t] [mkT bOpen u] (parS st)
                  rw [List.singleton_append] at this
                  rw [this, one]
                  simp only [Option.bind_some, chkB, stepB_open]
                  have := colS_nonneg st
                  unfold parS
                  simp; omega
                · exact two _
          · exact one _
theorem lay_chk : ∀ (l : List Tk) (prev : Option Tk) (fresh : Bool) (st : List Int) (m : List Tk), (prev = none → st = []) → layS prev fresh st l = .ok m → chkB (parS st) m = some []
  | [], prev, fresh, st, m, hp, h => by
    rw [layS] at h
    cases prev with
    | none =>
      simp only [endS, Res.ok.injEq] at h
      rw [← h, hp rfl]; rfl
    | some e =>
      simp only [endS] at h
      split at h
      · rename_i hs
        simp only [Res.ok.injEq] at h
        rw [← h, chk_shut, hs]; rfl
      · cases h
  | t :: r, prev, fresh, st, m, hp, h => by
    obtain ⟨o2, s2, q, h1, h2, rfl⟩ := layS_cons h
    rw [List.append_assoc, chkB_append, ahead_chk]
    simp only [Option.bind_some]
    rw [chkB_append, fit_chk h1]
    simp only [Option.bind_some]
    exact lay_chk r (some t) _ _ _ (fun h => (nomatch h)) h2
theorem lay_len : ∀ (l : List Tk) (m : List Tk), layF l = .ok m → (0 < l.length ↔ 0 < m.length)
  | [], m, h => by
    unfold layF at h
    rw [layS] at h
    simp only [endS, Res.ok.injEq] at h
    rw [← h]
  | t :: r, m, h => by
    obtain ⟨o2, s2, q, h1, h2, rfl⟩ := layS_cons h
    simp; omega
end Go.Proofs.YtchdfjihflmloaaGreatDoor
