/- One type of two: the model, and the program's. -/
import Derived.Test.YticjpeefhppjoaaDoorTyZ
import Derived.Test.YticjpeefhppjoaaDoorInv
namespace Go.Proofs.YticjpeefhppjoaaDoor
open Go.RowKit

def setF : List Fa → Int → Ty → List Fa
  | [], _, _ => []
  | f :: r, n, t => if f.n = n then ⟨n, t⟩ :: r else f :: setF r n t
def swapT (x y : Ty) : Ty × Ty := if holeS y.name = true ∧ (holeS x.name = false ∨ x.n < y.n) then (y, x) else (x, y)
def oneL (f : List Fa → Ty → Ty → Option (List Fa × Bool)) : List Fa → List Ty → List Ty → Option (List Fa × Bool)
  | L, a :: r, b :: q => match f L a b with
    | none => none
    | some (M, false) => some (M, false)
    | some (M, true) => oneL f M r q
  | L, _, _ => some (L, true)
/-- Facts by which two types are one. -/
def oneT : Nat → List Fa → Ty → Ty → Option (List Fa × Bool)
  | 0, _, _, _ => none
  | k + 1, L, a, b =>
    match rootT L (L.length + 1) a, rootT L (L.length + 1) b with
    | some v, some w =>
      if holeS v.name = true ∧ holeS w.name = true ∧ v.n = w.n then some (L, true) else
      match walkT L (L.length + 1) v, walkT L (L.length + 1) w with
      | some x, some y =>
        if holeS (swapT x y).1.name = true then
          match withinP L (swapT x y).1.n (L.length + 1) (swapT x y).2 [] with
          | none => none
          | some (_, true) => some (L, false)
          | some (_, false) => some (L ++ [⟨(swapT x y).1.n, (swapT x y).2⟩], true)
        else if x.name.toList ≠ y.name.toList ∨ x.args.length ≠ y.args.length then some (L, false)
        else match oneL (oneT k) L x.args y.args with
          | none => none
          | some (M, false) => some (M, false)
          | some (M, true) => if holeS v.name = true ∧ holeS w.name = true then some (setF M v.n w, true) else some (M, true)
      | _, _ => none
    | _, _ => none

theorem setF_len (L : List Fa) (n : Int) (t : Ty) : (setF L n t).length = L.length := by
  induction L with
  | nil => rfl
  | cons f r ih => unfold setF; split <;> simp [ih]
theorem fa_set {L : List Fa} {n : Int} (t : Ty) (h : (fa? L n).isSome = true) (m : Int) : fa? (setF L n t) m = if m = n then some t else fa? L m := by
  induction L with
  | nil => simp [fa?] at h
  | cons f r ih =>
    unfold setF
    by_cases e : f.n = n
    · rw [if_pos e]
      simp only [fa?]
      by_cases e2 : m = n
      · rw [if_pos e2.symm, if_pos e2]
      · rw [if_neg (fun h => e2 h.symm), if_neg e2, if_neg (fun h => e2 (by rw [← h, e]))]
    · rw [if_neg e]
      simp only [fa?, if_neg e] at h
      simp only [fa?, ih h]
      by_cases e2 : f.n = m
      · rw [if_pos e2, if_pos e2, if_neg (fun h => e (by rw [e2, h]))]
      · rw [if_neg e2, if_neg e2]
theorem fa_snoc (L : List Fa) (f : Fa) (m : Int) : fa? (L ++ [f]) m = match fa? L m with | some x => some x | none => if f.n = m then some f.ty else none := by
  induction L with
  | nil => simp [fa?]
  | cons a r ih =>
    simp only [List.cons_append, fa?]
    by_cases h : a.n = m
    · rw [if_pos h, if_pos h]
    · rw [if_neg h, if_neg h, ih]

/-- A type's value, laid open. -/
def AggT (w₀ : World) (x : Value) (r : Ty) : Prop := ∃ y c, x = .agg #[.string r.name, .int .i64 r.n, .slice y r.args.length c] ∧ IsTy w₀ x r
/-- A new variable of a type; stored: it holds that value. -/
def NewB (W : World) (B0 : Nat) (x : Value) (st : Prop) (u : Value) : Prop := ∃ B, x = .pointer (some ⟨B, 0, none⟩) ∧ B0 ≤ B ∧ ∃ x0 x1 x2, BoxT W B x0 x1 x2 ∧ (st → u = .agg #[x0, x1, x2])
theorem BoxT.lt {w : World} {b : Nat} {x y z : Value} (h : BoxT w b x y z) : b < w.heap.size := (Array.getElem?_eq_some_iff.1 h).1
theorem NewB.below {W V : World} {B0 : Nat} {x u : Value} {st st' : Prop} (h : NewB W B0 x st u) (hB : Below W.heap.size W V) (hs : st' → st) : NewB V B0 x st' u := by
  obtain ⟨B, rfl, hb, x0, x1, x2, hx, hu⟩ := h
  exact ⟨B, rfl, hb, x0, x1, x2, hx.below hB hx.lt, fun h => hu (hs h)⟩
theorem NewB.ne {W : World} {B0 : Nat} {x u : Value} {st : Prop} (h : NewB W B0 x st u) : x ≠ .pointer (some ⟨W.heap.size, 0, none⟩) := by
  obtain ⟨B, rfl, hb, x0, x1, x2, hx, hu⟩ := h
  intro e
  simp at e
  have := hx.lt
  omega
theorem NewB.set {W : World} {B0 : Nat} {x u : Value} {st : Prop} (h : NewB W B0 x st u) {B : Nat} (hne : x ≠ .pointer (some ⟨B, 0, none⟩)) {y0 y1 y2 : Value} (hy : BoxT W B y0 y1 y2) (z0 z1 z2 : Value) : NewB (World.box3 W B z0 z1 z2) B0 x st u := by
  obtain ⟨C, rfl, hb, x0, x1, x2, hx, hu⟩ := h
  refine ⟨C, rfl, hb, x0, x1, x2, ?_, hu⟩
  unfold BoxT
  rw [(hy.set z0 z1 z2).2.2.2 C (fun e => hne (by rw [e]))]
  exact hx

def CntL (L : List Fa) : Prop := ∀ x e, fa? L x = some e → tcnt e ≤ 100000
theorem rootT_cnt {L : List Fa} (h : CntL L) : ∀ (k : Nat) (e r : Ty), rootT L k e = some r → tcnt e ≤ 100000 → tcnt r ≤ 100000
  | 0, e, r, h1, _ => by simp [rootT] at h1
  | k + 1, .mk s n l, r, h1, h2 => by
    simp only [rootT] at h1
    by_cases hs : holeS s = true
    · rw [if_pos hs] at h1
      cases hf : fa? L n with
      | none => rw [hf] at h1; simp at h1; rw [← h1]; exact h2
      | some x =>
        rw [hf] at h1
        simp only at h1
        by_cases hx : holeS x.name = true
        · rw [if_pos hx] at h1; exact rootT_cnt h k x r h1 (h n x hf)
        · rw [if_neg hx] at h1; simp at h1; rw [← h1]; exact h2
    · rw [if_neg hs] at h1; simp at h1; rw [← h1]; exact h2
theorem walkT_cnt {L : List Fa} (h : CntL L) : ∀ (k : Nat) (e r : Ty), walkT L k e = some r → tcnt e ≤ 100000 → tcnt r ≤ 100000
  | 0, e, r, h1, _ => by simp [walkT] at h1
  | k + 1, .mk s n l, r, h1, h2 => by
    simp only [walkT] at h1
    by_cases hs : holeS s = true
    · rw [if_pos hs] at h1
      cases hf : fa? L n with
      | none => rw [hf] at h1; simp at h1; rw [← h1]; exact h2
      | some x => rw [hf] at h1; exact walkT_cnt h k x r h1 (h n x hf)
    · rw [if_neg hs] at h1; simp at h1; rw [← h1]; exact h2
theorem CntL.snoc {L : List Fa} (h : CntL L) {n : Int} {e : Ty} (he : tcnt e ≤ 100000) : CntL (L ++ [⟨n, e⟩]) := by
  intro x y hx
  rw [fa_snoc] at hx
  cases hf : fa? L x with
  | some z => rw [hf] at hx; simp at hx; rw [← hx]; exact h x z hf
  | none =>
    rw [hf] at hx
    simp only at hx
    by_cases h1 : n = x
    · rw [if_pos h1] at hx; simp at hx; rw [← hx]; exact he
    · rw [if_neg h1] at hx; simp at hx
theorem CntL.set {L : List Fa} (h : CntL L) {n : Int} {e : Ty} (he : tcnt e ≤ 100000) (hn : (fa? L n).isSome = true) : CntL (setF L n e) := by
  intro x y hx
  rw [fa_set e hn] at hx
  by_cases h1 : x = n
  · rw [if_pos h1] at hx; simp at hx; rw [← hx]; exact he
  · rw [if_neg h1] at hx; exact h x y hx
/-- A hole whose walk is no hole has a fact. -/
theorem walkT_some {L : List Fa} {k : Nat} {v x : Ty} (h : walkT L k v = some x) (hv : holeS v.name = true) (hx : holeS x.name = false) : (fa? L v.n).isSome = true := by
  obtain ⟨s, n, l⟩ := v
  cases k with
  | zero => simp [walkT] at h
  | succ k =>
    simp only [walkT] at h
    rw [if_pos (show holeS s = true from hv)] at h
    cases hf : fa? L n with
    | some y => exact Option.isSome_iff_exists.2 ⟨y, hf⟩
    | none =>
      rw [hf] at h
      simp at h
      rw [← h] at hx
      rw [hv] at hx
      cases hx
theorem fa_isSome_of {L M : List Fa} {x : Int} (h : (fa? L x).isSome = true) {n : Int} {e : Ty} (hM : ∀ m, fa? M m = if m = n then some e else fa? L m) : (fa? M x).isSome = true := by
  rw [hM]; split
  · rfl
  · exact h

/-- What one type of two keeps: facts only come; a hole that has one keeps one. -/
def OneKeeps (L M : List Fa) : Prop := L.length ≤ M.length ∧ (CntL L → CntL M) ∧ ∀ x, (fa? L x).isSome = true → (fa? M x).isSome = true
theorem OneKeeps.refl (L : List Fa) : OneKeeps L L := ⟨Nat.le_refl _, fun h => h, fun _ h => h⟩
theorem OneKeeps.trans {L M N : List Fa} (h : OneKeeps L M) (k : OneKeeps M N) : OneKeeps L N := ⟨Nat.le_trans h.1 k.1, fun q => k.2.1 (h.2.1 q), fun x q => k.2.2 x (h.2.2 x q)⟩

theorem oneL_ok {f : List Fa → Ty → Ty → Option (List Fa × Bool)} (hf : ∀ L a b out, f L a b = some out → (CntL L → tcnt a ≤ 100000 → tcnt b ≤ 100000 → CntL out.1) ∧ L.length ≤ out.1.length ∧ ∀ x, (fa? L x).isSome = true → (fa? out.1 x).isSome = true) :
    ∀ (l q : List Ty) (L : List Fa) (out : List Fa × Bool), oneL f L l q = some out → (CntL L → tcnt.cntL l ≤ 100000 → tcnt.cntL q ≤ 100000 → CntL out.1) ∧ L.length ≤ out.1.length ∧ ∀ x, (fa? L x).isSome = true → (fa? out.1 x).isSome = true := by
  intro l
  induction l with
  | nil => intro q L out h; simp [oneL] at h; rw [← h]; exact ⟨fun h _ _ => h, Nat.le_refl _, fun _ h => h⟩
  | cons a r ih =>
    intro q L out h
    cases q with
    | nil => simp [oneL] at h; rw [← h]; exact ⟨fun h _ _ => h, Nat.le_refl _, fun _ h => h⟩
    | cons b q =>
      simp only [oneL] at h
      cases h1 : f L a b with
      | none => rw [h1] at h; simp at h
      | some p =>
        rw [h1] at h
        obtain ⟨M, c⟩ := p
        have hp := hf L a b _ h1
        cases c
        · simp at h
          rw [← h]
          exact ⟨fun h2 h3 h4 => hp.1 h2 (by simp only [tcnt.cntL] at h3; omega) (by simp only [tcnt.cntL] at h4; omega), hp.2⟩
        · simp only at h
          have hq := ih q M out h
          refine ⟨fun h2 h3 h4 => hq.1 (hp.1 h2 (by simp only [tcnt.cntL] at h3; omega) (by simp only [tcnt.cntL] at h4; omega)) (by simp only [tcnt.cntL] at h3; omega) (by simp only [tcnt.cntL] at h4; omega), ?_, fun x hx => hq.2.2 x (hp.2.2 x hx)⟩
          have := hp.2.1
          have := hq.2.1
          simp only at *
          omega
theorem args_cnt (t : Ty) : tcnt.cntL t.args < tcnt t := by cases t; simp only [tcnt, Ty.args]; omega
theorem oneT_ok : ∀ (k : Nat) (L : List Fa) (a b : Ty) (out : List Fa × Bool), oneT k L a b = some out → (CntL L → tcnt a ≤ 100000 → tcnt b ≤ 100000 → CntL out.1) ∧ L.length ≤ out.1.length ∧ ∀ x, (fa? L x).isSome = true → (fa? out.1 x).isSome = true := by
  intro k
  induction k with
  | zero => intro L a b out h; simp [oneT] at h
  | succ k ih =>
    intro L a b out h
    simp only [oneT] at h
    cases hv : rootT L (L.length + 1) a with
    | none => rw [hv] at h; simp at h
    | some v =>
    cases hz : rootT L (L.length + 1) b with
    | none => rw [hv, hz] at h; simp at h
    | some z =>
    rw [hv, hz] at h
    simp only at h
    by_cases c1 : holeS v.name = true ∧ holeS z.name = true ∧ v.n = z.n
    · rw [if_pos c1] at h; simp at h; rw [← h]; exact ⟨fun h _ _ => h, Nat.le_refl _, fun _ h => h⟩
    rw [if_neg c1] at h
    cases hx : walkT L (L.length + 1) v with
    | none => rw [hx] at h; simp at h
    | some x =>
    cases hy : walkT L (L.length + 1) z with
    | none => rw [hx, hy] at h; simp at h
    | some y =>
    rw [hx, hy] at h
    simp only at h
    have cx : CntL L → tcnt a ≤ 100000 → tcnt x ≤ 100000 := fun q1 q2 => walkT_cnt q1 _ _ _ hx (rootT_cnt q1 _ _ _ hv q2)
    have cy : CntL L → tcnt b ≤ 100000 → tcnt y ≤ 100000 := fun q1 q2 => walkT_cnt q1 _ _ _ hy (rootT_cnt q1 _ _ _ hz q2)
    by_cases c2 : holeS (swapT x y).1.name = true
    · rw [if_pos c2] at h
      cases hw : withinP L (swapT x y).1.n (L.length + 1) (swapT x y).2 [] with
      | none => rw [hw] at h; simp at h
      | some p =>
        rw [hw] at h
        obtain ⟨s, c⟩ := p
        cases c
        · simp at h
          rw [← h]
          refine ⟨fun h1 h2 h3 => h1.snoc ?_, by simp, fun m hm => ?_⟩
          · unfold swapT; split
            · exact cx h1 h2
            · exact cy h1 h3
          · show (fa? (L ++ _) m).isSome = true
            rw [fa_snoc]
            obtain ⟨e, he⟩ := Option.isSome_iff_exists.1 hm
            rw [he]; rfl
        · simp at h
          rw [← h]
          exact ⟨fun h _ _ => h, Nat.le_refl _, fun _ h => h⟩
    · rw [if_neg c2] at h
      by_cases c3 : x.name.toList ≠ y.name.toList ∨ x.args.length ≠ y.args.length
      · rw [if_pos c3] at h; simp at h; rw [← h]; exact ⟨fun h _ _ => h, Nat.le_refl _, fun _ h => h⟩
      rw [if_neg c3] at h
      cases hl : oneL (oneT k) L x.args y.args with
      | none => rw [hl] at h; simp at h
      | some p =>
        rw [hl] at h
        obtain ⟨M, c⟩ := p
        have hp := oneL_ok ih _ _ _ _ hl
        have hcp : CntL L → tcnt a ≤ 100000 → tcnt b ≤ 100000 → CntL M := fun h1 h2 h3 => hp.1 h1 (by have := cx h1 h2; have := args_cnt x; omega) (by have := cy h1 h3; have := args_cnt y; omega)
        cases c
        · simp at h; rw [← h]; exact ⟨hcp, hp.2⟩
        · simp only at h
          by_cases c4 : holeS v.name = true ∧ holeS z.name = true
          · rw [if_pos c4] at h
            simp at h
            rw [← h]
            have hxn : holeS x.name = false := by
              cases hb : holeS x.name with
              | false => rfl
              | true =>
                exfalso
                apply c2
                unfold swapT
                split
                · rename_i hq; exact hq.1
                · exact hb
            have hvs : (fa? M v.n).isSome = true := hp.2.2 _ (walkT_some hx c4.1 hxn)
            refine ⟨fun h1 h2 h3 => (hcp h1 h2 h3).set (rootT_cnt h1 _ _ _ hz h3) hvs, by rw [setF_len]; exact hp.2.1, fun m hm => fa_isSome_of (hp.2.2 m hm) (fun j => fa_set z hvs j)⟩
          · rw [if_neg c4] at h
            simp at h
            rw [← h]
            exact ⟨hcp, hp.2⟩

/-- A root is walked in two steps. -/
theorem rootT_spec {L : List Fa} : ∀ (k : Nat) (e r : Ty), rootT L k e = some r → holeS r.name = false ∨ fa? L r.n = none ∨ ∃ x, fa? L r.n = some x ∧ holeS x.name = false
  | 0, e, r, h => by simp [rootT] at h
  | k + 1, .mk s n l, r, h => by
    simp only [rootT] at h
    by_cases hs : holeS s = true
    · rw [if_pos hs] at h
      cases hf : fa? L n with
      | none => rw [hf] at h; simp at h; rw [← h]; exact .inr (.inl hf)
      | some x =>
        rw [hf] at h
        simp only at h
        by_cases hx : holeS x.name = true
        · rw [if_pos hx] at h; exact rootT_spec k x r h
        · rw [if_neg hx] at h; simp at h; rw [← h]; exact .inr (.inr ⟨x, hf, (Bool.not_eq_true _).mp hx⟩)
    · rw [if_neg hs] at h; simp at h; rw [← h]; exact .inl ((Bool.not_eq_true _).mp hs)
theorem root_walk {L : List Fa} {k : Nat} {e r : Ty} (h : rootT L k e = some r) : ∃ x, walkT L (L.length + 1) r = some x := by
  have hs := rootT_spec k e r h
  obtain ⟨s, n, l⟩ := r
  simp only [walkT]
  by_cases hh : holeS s = true
  · rw [if_pos hh]
    rcases hs with hs | hs | ⟨x, hx, hxn⟩
    · rw [show holeS s = false from hs] at hh; cases hh
    · rw [show fa? L n = none from hs]; exact ⟨_, rfl⟩
    · rw [show fa? L n = some x from hx]
      cases L with
      | nil => simp [fa?] at hx
      | cons f r =>
        obtain ⟨s', n', l'⟩ := x
        refine ⟨.mk s' n' l', ?_⟩
        simp only [List.length_cons, walkT]
        rw [if_neg (by rw [show holeS s' = false from hxn]; simp)]
  · rw [if_neg hh]; exact ⟨_, rfl⟩

theorem BelowB.below {B mb : Nat} {a b : World} (h : BelowB B mb a b) {B' : Nat} (h1 : B' ≤ B) (h2 : B' ≤ mb) : Below B' a b := ⟨h.os, h.tape, h.output, h.size, fun i hi => h.block i (by omega) (by omega)⟩
theorem SnIs.made (L : List Fa) (V : World) : SnIs L (V.alloc (.map #[] 0)) V.heap.size [] := ⟨fun _ => none, MapOf.made _ _ _, fun n _ => by simp, List.nodup_nil, by simp⟩
/-- What a walk ends at, if that is a hole, has no fact. -/
theorem walkT_none {L : List Fa} : ∀ (k : Nat) (e r : Ty), walkT L k e = some r → holeS r.name = true → fa? L r.n = none
  | 0, e, r, h, _ => by simp [walkT] at h
  | k + 1, .mk s n l, r, h, hh => by
    simp only [walkT] at h
    by_cases hs : holeS s = true
    · rw [if_pos hs] at h
      cases hf : fa? L n with
      | none => rw [hf] at h; simp at h; rw [← h]; exact hf
      | some x => rw [hf] at h; exact walkT_none k x r h hh
    · rw [if_neg hs] at h; simp at h; rw [← h] at hh; exact absurd hh hs
theorem fa_snoc_if {L : List Fa} {n : Int} (e : Ty) (h : fa? L n = none) (m : Int) : fa? (L ++ [⟨n, e⟩]) m = if m = n then some e else fa? L m := by
  rw [fa_snoc]
  by_cases hm : m = n
  · subst hm; simp [h]
  · rw [if_neg hm]
    cases fa? L m with
    | some x => rfl
    | none => simp only; rw [if_neg (fun e => hm e.symm)]

theorem IsTy.row {w : World} {y : Option Addr} {c : Nat} {e : Ty} (h : IsTy w (.agg #[.string e.name, .int .i64 e.n, .slice y e.args.length c]) e) : TyRow (fun _ => False) w y e.args := by
  obtain ⟨s, n, l⟩ := e
  obtain ⟨a, c', he, _, _, _, _, hr⟩ := TyX.open h
  simp only [Value.agg.injEq, Array.mk.injEq, List.cons.injEq, Value.slice.injEq, and_true] at he
  rw [he.2.2.1]
  exact hr
theorem oneL_false {f : List Fa → Ty → Ty → Option (List Fa × Bool)} {M M' : List Fa} {a b : Ty} {r q : List Ty} {oo : List Fa × Bool} (h : oneL f M (a :: r) (b :: q) = some oo) (h1 : f M a b = some (M', false)) : oo = (M', false) := by
  simp only [oneL, h1] at h
  exact (Option.some.inj h).symm
theorem oneL_true {f : List Fa → Ty → Ty → Option (List Fa × Bool)} {M M' : List Fa} {a b : Ty} {r q : List Ty} {oo : List Fa × Bool} (h : oneL f M (a :: r) (b :: q) = some oo) (h1 : f M a b = some (M', true)) : oneL f M' r q = some oo := by
  simp only [oneL, h1] at h
  exact h
theorem oneL_some {f : List Fa → Ty → Ty → Option (List Fa × Bool)} {M : List Fa} {a b : Ty} {r q : List Ty} {oo : List Fa × Bool} (h : oneL f M (a :: r) (b :: q) = some oo) : ∃ o, f M a b = some o := by
  cases h1 : f M a b with
  | none => simp only [oneL, h1] at h; cases h
  | some o => exact ⟨o, rfl⟩

/-- A fact laid into the map. -/
theorem MpIs.put {w₀ w : World} {mb : Nat} {L : List Fa} (h : MpIs w₀ w mb L) {n : Int} (hn : In64 n) {e : Ty} {v : Value} (hv : IsTy w₀ v e) (hL : L.length ≤ 1000000) {M : List Fa} (hM : ∀ m, fa? M m = if m = n then some e else fa? L m) :
    ∃ w', (Instr.mapUpdate 57 (.map (some mb)) (.int .i64 n) v).run Tryd.prog w = .ok () w' ∧ MpIs w₀ w' mb M ∧ w.grownBy w' (some mb) := by
  obtain ⟨f, h1, h2⟩ := h
  have K : Maps.Keyed Tryd.prog 3 := Maps.int_keyed Tryd.underlying3
  obtain ⟨w', hrun, h3, h4⟩ := h1.update K Tryd.underlying57 (by unfold maxLen; omega) (keyN_of hn) (val := v)
  have hx : ∀ x, In64 x → (fa? M x = none ∧ updF f (keyN n) v (keyN x) = none) ∨ ∃ e u, fa? M x = some e ∧ updF f (keyN n) v (keyN x) = some u ∧ IsTy w₀ u e := by
    intro x hx
    rw [hM]
    by_cases he : x = n
    · subst he
      right
      exact ⟨e, v, by rw [if_pos rfl], updF_same _ _ _, hv⟩
    · rw [if_neg he, updF_other (fun q => he (keyN_inj q))]
      exact h2 x hx
  refine ⟨w', hrun, ⟨_, ?_, hx⟩, h4⟩
  have := h3.tight K Tryd.underlying3 (M.map (·.n)) (fun x h5 h6 => fa_dom (by
    rcases hx x h5 with ⟨_, q⟩ | ⟨e', _, q, _⟩
    · rw [q] at h6; cases h6
    · rw [q]; rfl))
  rwa [List.length_map] at this
end Go.Proofs.YticjpeefhppjoaaDoor
