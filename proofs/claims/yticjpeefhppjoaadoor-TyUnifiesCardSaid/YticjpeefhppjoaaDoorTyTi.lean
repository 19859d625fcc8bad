/- What making two types one gives: the facts by which they are, and no more; or none can. -/
import Derived.Test.YticjpeefhppjoaaDoorTyTh
import Derived.Test.YticjpeefhppjoaaDoorTyS
namespace Go.Proofs.YticjpeefhppjoaaDoor

def FWf (L : List Fa) : Prop := ∀ n t, fa? L n = some t → Wf t
theorem rootT_sat {L : List Fa} {th : Int → Ty} (hs : Sat L th) : ∀ (k : Nat) (e r : Ty), rootT L k e = some r → sub th e = sub th r
  | 0, e, r, h => by simp [rootT] at h
  | k + 1, .mk s n l, r, h => by
    simp only [rootT] at h
    by_cases hh : holeS s = true
    · rw [if_pos hh] at h
      cases hf : fa? L n with
      | none => rw [hf] at h; simp at h; rw [← h]
      | some x =>
        rw [hf] at h
        simp only at h
        by_cases hx : holeS x.name = true
        · rw [if_pos hx] at h
          rw [← rootT_sat hs k x r h, sub_of_hole (t := .mk s n l) hh]
          exact hs n x hf
        · rw [if_neg hx] at h; simp at h; rw [← h]
    · rw [if_neg hh] at h; simp at h; rw [← h]
theorem walkT_sat {L : List Fa} {th : Int → Ty} (hs : Sat L th) : ∀ (k : Nat) (e r : Ty), walkT L k e = some r → sub th e = sub th r
  | 0, e, r, h => by simp [walkT] at h
  | k + 1, .mk s n l, r, h => by
    simp only [walkT] at h
    by_cases hh : holeS s = true
    · rw [if_pos hh] at h
      cases hf : fa? L n with
      | none => rw [hf] at h; simp at h; rw [← h]
      | some x =>
        rw [hf] at h
        rw [← walkT_sat hs k x r h, sub_of_hole (t := .mk s n l) hh]
        exact hs n x hf
    · rw [if_neg hh] at h; simp at h; rw [← h]
theorem rootT_wf {L : List Fa} (hw : FWf L) : ∀ (k : Nat) (e r : Ty), rootT L k e = some r → Wf e → Wf r
  | 0, e, r, h, _ => by simp [rootT] at h
  | k + 1, .mk s n l, r, h, he => by
    simp only [rootT] at h
    by_cases hh : holeS s = true
    · rw [if_pos hh] at h
      cases hf : fa? L n with
      | none => rw [hf] at h; simp at h; rw [← h]; exact he
      | some x =>
        rw [hf] at h
        simp only at h
        by_cases hx : holeS x.name = true
        · rw [if_pos hx] at h; exact rootT_wf hw k x r h (hw n x hf)
        · rw [if_neg hx] at h; simp at h; rw [← h]; exact he
    · rw [if_neg hh] at h; simp at h; rw [← h]; exact he
theorem walkT_wf {L : List Fa} (hw : FWf L) : ∀ (k : Nat) (e r : Ty), walkT L k e = some r → Wf e → Wf r
  | 0, e, r, h, _ => by simp [walkT] at h
  | k + 1, .mk s n l, r, h, he => by
    simp only [walkT] at h
    by_cases hh : holeS s = true
    · rw [if_pos hh] at h
      cases hf : fa? L n with
      | none => rw [hf] at h; simp at h; rw [← h]; exact he
      | some x => rw [hf] at h; exact walkT_wf hw k x r h (hw n x hf)
    · rw [if_neg hh] at h; simp at h; rw [← h]; exact he
/-- What a root is: no hole, or one without a fact, or one whose fact is no hole. -/
theorem root_walk_spec {L : List Fa} {k : Nat} {e v x : Ty} (hv : rootT L k e = some v) (hx : walkT L (L.length + 1) v = some x) : (x = v ∧ (holeS v.name = true → fa? L v.n = none)) ∨ (holeS v.name = true ∧ fa? L v.n = some x ∧ holeS x.name = false) := by
  have hs := rootT_spec k e v hv
  obtain ⟨s, n, l⟩ := v
  simp only [walkT] at hx
  by_cases hh : holeS s = true
  · rw [if_pos hh] at hx
    rcases hs with hs | hs | ⟨y, hy, hyn⟩
    · rw [show holeS s = false from hs] at hh; cases hh
    · rw [show fa? L n = none from hs] at hx
      simp at hx
      exact .inl ⟨hx.symm, fun _ => hs⟩
    · rw [show fa? L n = some y from hy] at hx
      right
      refine ⟨hh, ?_⟩
      obtain ⟨f, r, rfl⟩ : ∃ f r, L = f :: r := by
        cases L with
        | nil => simp [fa?] at hy
        | cons f r => exact ⟨f, r, rfl⟩
      obtain ⟨s', n', l'⟩ := y
      simp only [List.length_cons, walkT] at hx
      rw [if_neg (by rw [show holeS s' = false from hyn]; simp)] at hx
      simp at hx
      subst hx
      exact ⟨hy, hyn⟩
  · rw [if_neg hh] at hx
    simp at hx
    exact .inl ⟨hx.symm, fun h => absurd h hh⟩
/-- A fact that a hole is another hole: of a lesser number; or that is no hole in the end. -/
def Jm (L : List Fa) : Prop := ∀ n t, fa? L n = some t → holeS t.name = true → t.n < n ∨ ∀ th, Sat L th → holeS (th t.n).name = false

/-- What was told, and what is told now. -/
structure OneOk (L : List Fa) (out : List Fa × Bool) (E : (Int → Ty) → Prop) : Prop where
  no : out.2 = false → ∀ th, Sat L th → ¬ E th
  wf : out.2 = true → FWf out.1
  ac : out.2 = true → ∃ rho, Ac out.1 rho
  sat : out.2 = true → ∀ th, Sat out.1 th ↔ Sat L th ∧ E th
  jm : out.2 = true → Jm L → Jm out.1
  same : out.2 = true → out.1.length = L.length → ∀ si, Sol L si → Sol out.1 si
theorem OneOk.iff {L : List Fa} {out : List Fa × Bool} {E F : (Int → Ty) → Prop} (h : OneOk L out E) (hE : ∀ th, Sat L th → (E th ↔ F th)) : OneOk L out F :=
  ⟨fun hb th hs hf => h.no hb th hs ((hE th hs).2 hf), h.wf, h.ac, fun hb th => (h.sat hb th).trans ⟨fun q => ⟨q.1, (hE th q.1).1 q.2⟩, fun q => ⟨q.1, (hE th q.1).2 q.2⟩⟩, h.jm, h.same⟩
theorem OneOk.keep {L : List Fa} {rho : Int → Nat} (hw : FWf L) (ha : Ac L rho) {E : (Int → Ty) → Prop} (hE : ∀ th, Sat L th → E th) : OneOk L (L, true) E :=
  ⟨fun h => (by cases h), fun _ => hw, fun _ => ⟨rho, ha⟩, fun _ th => ⟨fun h => ⟨h, hE th h⟩, fun h => h.1⟩, fun _ h => h, fun _ _ _ h => h⟩
theorem OneOk.never {L M : List Fa} {E : (Int → Ty) → Prop} (hE : ∀ th, Sat L th → ¬ E th) : OneOk L (M, false) E :=
  ⟨fun _ => hE, fun h => (by cases h), fun h => (by cases h), fun h => (by cases h), fun h => (by cases h), fun h => by cases h⟩

theorem hole_ext {x y : Ty} (hx : Wf x) (hy : Wf y) (h : holeS x.name = true) (h' : holeS y.name = true) (hn : x.n = y.n) : x = y := by
  obtain ⟨s, n, l⟩ := x
  obtain ⟨s', n', l'⟩ := y
  have e1 := hx.open.1 h
  have e2 := hy.open.1 h'
  have e3 : n = n' := hn
  rw [e1, e2, e3, holeS_eq (s := s) h, holeS_eq (s := s') h']
theorem not_wf_n {x : Ty} (hx : Wf x) (h : holeS x.name = false) : x.n = 0 := by
  obtain ⟨s, n, l⟩ := x
  exact hx.open.2.1 h
theorem args_wf {x : Ty} (hx : Wf x) : ∀ e ∈ x.args, Wf e := by
  obtain ⟨s, n, l⟩ := x
  exact hx.open.2.2
theorem sub_name {th : Int → Ty} {x : Ty} (h : holeS x.name = false) : holeS (sub th x).name = false := by rw [sub_of_not h]; exact h

/-- Laying a fact of a hole of which there is none, that is not in what it says. -/
theorem one_bind {L : List Fa} {rho : Int → Nat} (hw : FWf L) (ha : Ac L rho) {n : Int} {y : Ty} (hf : fa? L n = none) (hy : Wf y) (hr : ∀ m ∈ allT y, ¬ Reach L m n) (hm : holeS y.name = true → y.n < n) : OneOk L (L ++ [⟨n, y⟩], true) fun th => th n = sub th y := by
  have hM := fa_snoc_if y hf
  refine ⟨fun h => (by cases h), fun _ m t ht => ?_, fun _ => ac_set ha hM hr, fun _ th => ⟨fun h => ⟨fun m t ht => h m t ?_, h n y (by rw [hM, if_pos rfl])⟩, fun h m t ht => ?_⟩, fun _ hj m t ht hh => ?_, fun _ h => ?_⟩
  · simp only at ht
    rw [hM] at ht
    by_cases e : m = n
    · rw [if_pos e] at ht; obtain rfl := Option.some.inj ht; exact hy
    · rw [if_neg e] at ht; exact hw m t ht
  · simp only
    rw [hM, if_neg (fun e => by rw [e, hf] at ht; cases ht)]
    exact ht
  · simp only at ht
    rw [hM] at ht
    by_cases e : m = n
    · rw [if_pos e] at ht; obtain rfl := Option.some.inj ht; rw [e]; exact h.2
    · rw [if_neg e] at ht; exact h.1 m t ht
  · simp only at ht
    rw [hM] at ht
    by_cases e : m = n
    · rw [if_pos e] at ht; obtain rfl := Option.some.inj ht; rw [e]; exact .inl (hm hh)
    · rw [if_neg e] at ht
      rcases hj m t ht hh with q | q
      · exact .inl q
      · refine .inr fun th hth => q th fun k u hk => hth k u ?_
        simp only
        rw [hM, if_neg (fun e => by rw [e, hf] at hk; cases hk)]
        exact hk
  · simp at h

/-- What has changed of facts is of holes that are no greater than what was made one. -/
def Ch (L : List Fa) (M : List Fa) (l : List Ty) : Prop := ∀ n t, fa? L n = some t → fa? M n ≠ some t → ∀ th, Sat M th → ∃ e ∈ l, tcnt (th n) ≤ tcnt (sub th e)
theorem Ch.refl (L : List Fa) (l : List Ty) : Ch L L l := fun n t h h' => absurd h h'
theorem Ch.snoc {L : List Fa} {n : Int} {y : Ty} (l : List Ty) : Ch L (L ++ [⟨n, y⟩]) l := fun m t h h' => absurd (by rw [fa_snoc, h]) h'

theorem oneL_spec {f : List Fa → Ty → Ty → Option (List Fa × Bool)} (hf : ∀ L a b out rho, f L a b = some out → Wf a → Wf b → FWf L → Ac L rho → OneOk L out (fun th => sub th a = sub th b) ∧ (out.2 = true → Ch L out.1 [a]) ∧ L.length ≤ out.1.length) :
    ∀ (l q : List Ty) (L : List Fa) (out : List Fa × Bool) (rho : Int → Nat), oneL f L l q = some out → l.length = q.length → (∀ e ∈ l, Wf e) → (∀ e ∈ q, Wf e) → FWf L → Ac L rho →
      OneOk L out (fun th => l.map (sub th) = q.map (sub th)) ∧ (out.2 = true → Ch L out.1 l) ∧ L.length ≤ out.1.length := by
  intro l
  induction l with
  | nil =>
    intro q L out rho h hl _ _ hw ha
    cases q with
    | cons b q => simp at hl
    | nil =>
      simp [oneL] at h
      subst h
      exact ⟨.keep hw ha fun _ _ => rfl, fun _ => Ch.refl _ _, Nat.le_refl _⟩
  | cons a r ih =>
    intro q L out rho h hl hwl hwq hw ha
    cases q with
    | nil => simp at hl
    | cons b q =>
      obtain ⟨o, ho⟩ := oneL_some h
      obtain ⟨h1, h2, h3⟩ := hf L a b o rho ho (hwl a (by simp)) (hwq b (by simp)) hw ha
      obtain ⟨M, c⟩ := o
      cases c with
      | false =>
        rw [oneL_false h ho]
        refine ⟨.never fun th hs he => h1.no rfl th hs ?_, fun h => (by cases h), h3⟩
        simp only [List.map_cons, List.cons.injEq] at he
        exact he.1
      | true =>
        have h' := oneL_true h ho
        obtain ⟨rho', ha'⟩ := h1.ac rfl
        obtain ⟨k1, k2, k3⟩ := ih q M out rho' h' (by simpa using hl) (fun e he => hwl e (by simp [he])) (fun e he => hwq e (by simp [he])) (h1.wf rfl) ha'
        have hsat := h1.sat rfl
        simp only at hsat k1 k2 k3 h2 h3
        refine ⟨⟨fun hb th hs he => ?_, k1.wf, k1.ac, fun hb th => ?_, fun hb hj => k1.jm hb (h1.jm rfl hj), fun hb hlen si hsi => ?_⟩, fun hb n t ht hne th hth => ?_, Nat.le_trans h3 k3⟩
        · simp only [List.map_cons, List.cons.injEq] at he
          exact k1.no hb th ((hsat th).2 ⟨hs, he.1⟩) he.2
        · rw [k1.sat hb, hsat]
          simp only [List.map_cons, List.cons.injEq]
          exact ⟨fun q => ⟨q.1.1, q.1.2, q.2⟩, fun q => ⟨⟨q.1, q.2.1⟩, q.2.2⟩⟩
        · have e1 : M.length = L.length := by omega
          exact k1.same hb (by omega) si (h1.same rfl e1 si hsi)
        · by_cases hc : fa? M n = some t
          · obtain ⟨e, he, hle⟩ := k2 hb n t hc hne th hth
            exact ⟨e, by simp [he], hle⟩
          · obtain ⟨e, he, hle⟩ := h2 trivial n t ht hc th ((k1.sat hb th).1 hth).1
            simp at he
            subst he
            exact ⟨e, by simp, hle⟩

/-- Holes that are one already are not gone through again: the facts say the same. -/
theorem one_share {M : List Fa} {rho : Int → Nat} {v z : Int} {x y : Ty} {zt : Ty} (ha : Ac M rho) (hv : fa? M v = some x) (hz : fa? M z = some y) (hyn : holeS y.name = false) (hzt : holeS zt.name = true) (hztn : zt.n = z) (hne : v ≠ z)
    (heq : ∀ th, Sat M th → th v = th z) : (∃ rho', Ac (setF M v zt) rho') ∧ (∀ th, Sat (setF M v zt) th ↔ Sat M th) ∧ (∀ si, Sol M si → Sol (setF M v zt) si) := by
  have hM := fa_set (L := M) (n := v) zt (by rw [hv]; rfl)
  obtain ⟨si, hsi⟩ := sol_exists ha
  have hsol : ∀ si, Sol M si → Sol (setF M v zt) si := fun si hsi n => by
    rw [hM]
    by_cases e : n = v
    · subst e
      rw [if_pos rfl]
      show si n = sub si zt
      rw [sub_of_hole hzt, hztn]
      exact heq si hsi.sat
    · rw [if_neg e]; exact hsi n
  have hnr : ∀ m ∈ allT zt, ¬ Reach M m v := by
    intro m hm hr
    rw [allT_of_hole hzt, hztn] at hm
    simp at hm
    subst hm
    cases hr with
    | refl => exact hne rfl
    | step hf hk hr' =>
      rw [hz] at hf
      obtain rfl := Option.some.inj hf
      have h1 := hr'.le hsi.sat
      have h2 := sub_lt si hyn hk
      have h3 := hsi.some hz
      have h4 := heq si hsi.sat
      rw [h4, h3] at h1
      omega
  obtain ⟨rho', ha'⟩ := ac_set ha hM hnr
  refine ⟨⟨rho', ha'⟩, fun th => ⟨fun h => sat_of_inst hsi (h.inst ha' (hsol si hsi)), fun h => sat_of_inst (hsol si hsi) (h.inst ha hsi)⟩, hsol⟩

/-- Two types made one: the facts say that they are, and no more; or none say so. -/
theorem one_spec : ∀ (k : Nat) (L : List Fa) (a b : Ty) (out : List Fa × Bool) (rho : Int → Nat), oneT k L a b = some out → Wf a → Wf b → FWf L → Ac L rho →
    OneOk L out (fun th => sub th a = sub th b) ∧ (out.2 = true → Ch L out.1 [a]) ∧ L.length ≤ out.1.length := by
  intro k
  induction k with
  | zero => intro L a b out rho h; simp [oneT] at h
  | succ k ih =>
    intro L a b out rho h hwa hwb hw ha
    simp only [oneT] at h
    cases hv : rootT L (L.length + 1) a with
    | none => rw [hv] at h; simp at h
    | some v =>
    cases hz : rootT L (L.length + 1) b with
    | none => rw [hv, hz] at h; simp at h
    | some z =>
    rw [hv, hz] at h
    simp only at h
    have sv := fun th (hs : Sat L th) => rootT_sat hs _ _ _ hv
    have sz := fun th (hs : Sat L th) => rootT_sat hs _ _ _ hz
    have wv := rootT_wf hw _ _ _ hv hwa
    have wz := rootT_wf hw _ _ _ hz hwb
    by_cases c1 : holeS v.name = true ∧ holeS z.name = true ∧ v.n = z.n
    · rw [if_pos c1] at h
      simp at h
      subst h
      exact ⟨.keep hw ha fun th hs => by rw [sv th hs, sz th hs, hole_ext wv wz c1.1 c1.2.1 c1.2.2], fun _ => Ch.refl _ _, Nat.le_refl _⟩
    rw [if_neg c1] at h
    cases hx : walkT L (L.length + 1) v with
    | none => rw [hx] at h; simp at h
    | some x =>
    cases hy : walkT L (L.length + 1) z with
    | none => rw [hx, hy] at h; simp at h
    | some y =>
    rw [hx, hy] at h
    simp only at h
    have sx := fun th (hs : Sat L th) => (sv th hs).trans (walkT_sat hs _ _ _ hx)
    have sy := fun th (hs : Sat L th) => (sz th hs).trans (walkT_sat hs _ _ _ hy)
    have wx := walkT_wf hw _ _ _ hx wv
    have wy := walkT_wf hw _ _ _ hy wz
    have px := root_walk_spec hv hx
    have pz := root_walk_spec hz hy
    have hfx := walkT_none _ _ _ hx
    have hfy := walkT_none _ _ _ hy
    have hdiff : holeS x.name = true → holeS y.name = true → x.n ≠ y.n := by
      intro h1 h2 h3
      rcases px with ⟨e1, _⟩ | ⟨_, _, q⟩
      · rcases pz with ⟨e2, _⟩ | ⟨_, _, q⟩
        · subst e1 e2; exact c1 ⟨h1, h2, h3⟩
        · rw [q] at h2; cases h2
      · rw [q] at h1; cases h1
    by_cases c2 : holeS (swapT x y).1.name = true
    · rw [if_pos c2] at h
      obtain ⟨p, q, hpq⟩ : ∃ p q, swapT x y = (p, q) := ⟨_, _, rfl⟩
      rw [hpq] at h c2
      simp only at h c2
      have hcase : (p = y ∧ q = x ∧ (holeS x.name = false ∨ x.n < y.n)) ∨ (p = x ∧ q = y ∧ ¬ (holeS y.name = true ∧ (holeS x.name = false ∨ x.n < y.n))) := by
        unfold swapT at hpq
        split at hpq
        · rename_i hc
          simp only [Prod.mk.injEq] at hpq
          exact .inl ⟨hpq.1.symm, hpq.2.symm, hc.2⟩
        · rename_i hc
          simp only [Prod.mk.injEq] at hpq
          exact .inr ⟨hpq.1.symm, hpq.2.symm, hc⟩
      have hfp : fa? L p.n = none := hcase.elim (fun h => by rw [h.1] at c2 ⊢; exact hfy c2) (fun h => by rw [h.1] at c2 ⊢; exact hfx c2)
      have hfq : holeS q.name = true → fa? L q.n = none := hcase.elim (fun h => by rw [h.2.1]; exact hfx) (fun h => by rw [h.2.1]; exact hfy)
      have wq : Wf q := by rcases hcase with ⟨_, rfl, _⟩ | ⟨_, rfl, _⟩ <;> assumption
      have hE : ∀ th, Sat L th → (th p.n = sub th q ↔ sub th a = sub th b) := by
        intro th hs
        rw [sx th hs, sy th hs, ← sub_of_hole (th := th) c2]
        rcases hcase with ⟨rfl, rfl, _⟩ | ⟨rfl, rfl, _⟩
        · exact ⟨fun h => h.symm, fun h => h.symm⟩
        · exact Iff.rfl
      have hlt : holeS q.name = true → q.n < p.n := by
        intro hq
        rcases hcase with ⟨rfl, rfl, hc⟩ | ⟨rfl, rfl, hc⟩
        · rcases hc with hc | hc
          · rw [hc] at hq; cases hq
          · exact hc
        · have h1 := hdiff c2 hq
          have h2 : ¬ p.n < q.n := fun hlt => hc ⟨hq, .inr hlt⟩
          omega
      cases hwi : withinP L p.n (L.length + 1) q [] with
      | none => rw [hwi] at h; simp at h
      | some sb =>
        rw [hwi] at h
        obtain ⟨S, c⟩ := sb
        cases c with
        | false =>
          simp at h
          subst h
          exact ⟨(one_bind hw ha hfp wq (within_not hwi) hlt).iff hE, fun _ => Ch.snoc _, by simp⟩
        | true =>
          simp at h
          subst h
          refine ⟨.never fun th hs he => ?_, fun h => (by cases h), Nat.le_refl _⟩
          obtain ⟨m, hm, hr⟩ := within_true _ _ _ _ hwi
          have e := (hE th hs).2 he
          cases hq : holeS q.name with
          | true =>
            rw [allT_of_hole hq] at hm
            simp at hm
            subst hm
            have hl := hlt hq
            have hf := hfq hq
            generalize q.n = i at hr hl hf
            generalize p.n = j at hr hl
            cases hr with
            | refl => omega
            | step hf' _ _ => rw [hf] at hf'; cases hf'
          | false =>
            have h1 := hr.le hs
            have h2 := sub_lt th hq hm
            rw [← e] at h2
            omega
    · rw [if_neg c2] at h
      have hxy : holeS x.name = false ∧ holeS y.name = false := by
        unfold swapT at c2
        split at c2
        · rename_i hc; exact absurd hc.1 c2
        · rename_i hc
          have h1 : holeS x.name = false := (Bool.not_eq_true _).mp c2
          refine ⟨h1, ?_⟩
          cases h2 : holeS y.name with
          | false => rfl
          | true => exact absurd ⟨h2, .inl h1⟩ hc
      obtain ⟨hxn, hyn⟩ := hxy
      by_cases c3 : x.name.toList ≠ y.name.toList ∨ x.args.length ≠ y.args.length
      · rw [if_pos c3] at h
        simp at h
        subst h
        refine ⟨.never fun th hs he => ?_, fun h => (by cases h), Nat.le_refl _⟩
        rw [sx th hs, sy th hs, sub_of_not hxn, sub_of_not hyn] at he
        injection he with e1 e2 e3
        rcases c3 with c3 | c3
        · exact c3 (by rw [e1])
        · have := congrArg List.length e3
          simp at this
          exact c3 this
      · rw [if_neg c3] at h
        have hnm : x.name = y.name := str_eq (by
          have : x.name.toList = y.name.toList := by
            by_cases hq : x.name.toList = y.name.toList
            · exact hq
            · exact absurd (.inl hq) c3
          rw [this]; simp)
        have hln : x.args.length = y.args.length := by
          by_cases hq : x.args.length = y.args.length
          · exact hq
          · exact absurd (.inr hq) c3
        have hE : ∀ th, Sat L th → (x.args.map (sub th) = y.args.map (sub th) ↔ sub th a = sub th b) := by
          intro th hs
          rw [sx th hs, sy th hs, sub_of_not hxn, sub_of_not hyn, hnm, not_wf_n wx hxn, not_wf_n wy hyn]
          exact ⟨fun h => by rw [h], fun h => by injection h⟩
        cases hl : oneL (oneT k) L x.args y.args with
        | none => rw [hl] at h; simp at h
        | some pc =>
          rw [hl] at h
          obtain ⟨k1, k2, k3⟩ := oneL_spec (fun L a b out rho h h1 h2 h3 h4 => ih L a b out rho h h1 h2 h3 h4) x.args y.args L pc rho hl hln (args_wf wx) (args_wf wy) hw ha
          obtain ⟨M, c⟩ := pc
          cases c with
          | false =>
            simp at h
            subst h
            exact ⟨k1.iff hE, fun h => (by cases h), k3⟩
          | true =>
            simp only at h k3
            have hsat := k1.sat rfl
            have hch := k2 rfl
            simp only at hsat hch
            have hLM : ∀ th, Sat M th → Sat L th := fun th h => ((hsat th).1 h).1
            have hab : ∀ th, Sat M th → sub th x = sub th y := fun th h => by
              have h1 := (hsat th).1 h
              rw [← sx th h1.1, ← sy th h1.1]
              exact (hE th h1.1).1 h1.2
            have hchA : ∀ n t, fa? L n = some t → fa? M n ≠ some t → ∀ th, Sat M th → tcnt (th n) < tcnt (sub th a) := by
              intro n t ht hne th hth
              obtain ⟨e, he, hle⟩ := hch n t ht hne th hth
              have := sub_arg_lt th hxn he
              rw [sx th (hLM th hth)]
              omega
            by_cases c4 : holeS v.name = true ∧ holeS z.name = true
            · rw [if_pos c4] at h
              simp at h
              subst h
              have fvx : fa? L v.n = some x := by
                rcases px with ⟨e1, _⟩ | ⟨_, q, _⟩
                · rw [e1, c4.1] at hxn; cases hxn
                · exact q
              have fzy : fa? L z.n = some y := by
                rcases pz with ⟨e1, _⟩ | ⟨_, q, _⟩
                · rw [e1, c4.2] at hyn; cases hyn
                · exact q
              obtain ⟨rho', ha'⟩ := k1.ac rfl
              simp only at ha'
              obtain ⟨si, hsi⟩ := sol_exists ha'
              have hsL := hLM si hsi.sat
              have mvx : fa? M v.n = some x := by
                by_cases hc : fa? M v.n = some x
                · exact hc
                · have h1 := hchA _ _ fvx hc si hsi.sat
                  rw [sx si hsL, ← hsL _ _ fvx] at h1
                  omega
              have mzy : fa? M z.n = some y := by
                by_cases hc : fa? M z.n = some y
                · exact hc
                · have h1 := hchA _ _ fzy hc si hsi.sat
                  rw [sx si hsL, hab si hsi.sat, ← hsL _ _ fzy] at h1
                  omega
              have hne : v.n ≠ z.n := fun e => c1 ⟨c4.1, c4.2, e⟩
              have heq : ∀ th, Sat M th → th v.n = th z.n := fun th hth => by rw [hLM th hth _ _ fvx, hLM th hth _ _ fzy, hab th hth]
              obtain ⟨s1, s2, s3⟩ := one_share ha' mvx mzy hyn c4.2 rfl hne heq
              have hM := fa_set (L := M) (n := v.n) z (by rw [mvx]; rfl)
              refine ⟨⟨fun h => (by cases h), fun _ n t ht => ?_, fun _ => s1, fun _ th => ?_, fun _ hj n t ht hh => ?_, fun _ hlen si hs => ?_⟩, fun _ n t ht hnt th hth => ?_, by simp only; rw [setF_len]; exact k3⟩
              · simp only at ht
                rw [hM] at ht
                by_cases e : n = v.n
                · rw [if_pos e] at ht; obtain rfl := Option.some.inj ht; exact wz
                · rw [if_neg e] at ht; exact k1.wf rfl n t ht
              · simp only
                rw [s2 th, hsat th]
                exact ⟨fun q => ⟨q.1, (hE th q.1).1 q.2⟩, fun q => ⟨q.1, (hE th q.1).2 q.2⟩⟩
              · simp only at ht
                rw [hM] at ht
                by_cases e : n = v.n
                · rw [if_pos e] at ht
                  obtain rfl := Option.some.inj ht
                  refine .inr fun th hth => ?_
                  rw [hLM th ((s2 th).1 hth) _ _ fzy]
                  exact sub_name hyn
                · rw [if_neg e] at ht
                  rcases k1.jm rfl hj n t ht hh with q | q
                  · exact .inl q
                  · exact .inr fun th hth => q th ((s2 th).1 hth)
              · simp only at hlen ⊢
                rw [setF_len] at hlen
                exact s3 si (k1.same rfl hlen si hs)
              · simp only at hnt hth
                have hthM := (s2 th).1 hth
                refine ⟨a, by simp, ?_⟩
                by_cases e : n = v.n
                · subst e
                  rw [sv th (hLM th hthM), sub_of_hole c4.1]
                  exact Nat.le_refl _
                · rw [hM, if_neg e] at hnt
                  exact Nat.le_of_lt (hchA n t ht hnt th hthM)
            · rw [if_neg c4] at h
              simp at h
              subst h
              exact ⟨k1.iff hE, fun _ n t ht hne th hth => ⟨a, by simp, Nat.le_of_lt (hchA n t ht hne th hth)⟩, k3⟩
end Go.Proofs.YticjpeefhppjoaaDoor
