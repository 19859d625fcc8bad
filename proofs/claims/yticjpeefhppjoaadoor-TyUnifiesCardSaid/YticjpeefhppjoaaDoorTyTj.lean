/- Making two types one comes to an end. -/
import Derived.Test.YticjpeefhppjoaaDoorTyTi
namespace Go.Proofs.YticjpeefhppjoaaDoor

theorem filter_lt {α : Type} {p q : α → Bool} : ∀ {l : List α} {a : α}, a ∈ l → p a = true → q a = false → (∀ x, q x = true → p x = true) → (l.filter q).length < (l.filter p).length := by
  have le : ∀ (l : List α), (∀ x, q x = true → p x = true) → (l.filter q).length ≤ (l.filter p).length := by
    intro l h
    induction l with
    | nil => exact Nat.le_refl _
    | cons b r ih =>
      rw [List.filter_cons, List.filter_cons]
      cases hq : q b with
      | true => rw [h b hq]; simp; exact ih
      | false => cases p b <;> simp <;> omega
  intro l
  induction l with
  | nil => intro a h; simp at h
  | cons b r ih =>
    intro a h hp hq hi
    rw [List.filter_cons, List.filter_cons]
    rcases List.mem_cons.1 h with rfl | h
    · rw [hp, hq]
      have := le r hi
      simp
      omega
    · have := ih h hp hq hi
      cases hqb : q b with
      | true => rw [hi b hqb]; simp; exact this
      | false => cases p b <;> simp <;> omega
theorem fa_key {L : List Fa} {n : Int} {t : Ty} (h : fa? L n = some t) : ∃ f ∈ L, f.n = n ∧ f.ty = t := by
  induction L with
  | nil => simp [fa?] at h
  | cons f r ih =>
    simp only [fa?] at h
    by_cases e : f.n = n
    · rw [if_pos e] at h; exact ⟨f, by simp, e, Option.some.inj h⟩
    · rw [if_neg e] at h
      obtain ⟨g, hg, h1, h2⟩ := ih h
      exact ⟨g, by simp [hg], h1, h2⟩
/-- How many facts a hole may still be walked by. -/
def wayN (L : List Fa) (rho : Int → Nat) (t : Ty) : Nat := if holeS t.name = true then (L.filter fun f => decide (rho f.n ≤ rho t.n)).length else 0
theorem wayN_le (L : List Fa) (rho : Int → Nat) (t : Ty) : wayN L rho t ≤ L.length := by
  unfold wayN
  split
  · exact List.length_filter_le _ _
  · exact Nat.zero_le _
theorem wayN_lt {L : List Fa} {rho : Int → Nat} (ha : Ac L rho) {s : Str} {n : Int} {l : List Ty} (hs : holeS s = true) {x : Ty} (hf : fa? L n = some x) : wayN L rho x < wayN L rho (.mk s n l) := by
  obtain ⟨f, hfm, hfn, _⟩ := fa_key hf
  unfold wayN
  rw [if_pos (show holeS (Ty.mk s n l).name = true from hs)]
  by_cases hx : holeS x.name = true
  · rw [if_pos hx]
    have hr := ha n x hf x.n (by rw [allT_of_hole hx]; simp)
    refine filter_lt hfm ?_ ?_ ?_
    · simp only [decide_eq_true_eq]; rw [hfn]; exact Nat.le_refl _
    · simp only [decide_eq_false_iff_not]; rw [hfn]; omega
    · intro g hg
      simp only [decide_eq_true_eq] at hg ⊢
      show rho g.n ≤ rho n
      omega
  · rw [if_neg hx]
    refine List.length_pos_iff.2 fun h => ?_
    have : f ∈ L.filter fun f => decide (rho f.n ≤ rho (Ty.mk s n l).n) := List.mem_filter.2 ⟨hfm, by simp only [decide_eq_true_eq]; rw [hfn]; exact Nat.le_refl _⟩
    rw [h] at this
    simp at this
theorem walk_total {L : List Fa} {rho : Int → Nat} (ha : Ac L rho) : ∀ (k : Nat) (t : Ty), wayN L rho t < k → ∃ r, walkT L k t = some r
  | 0, t, h => by omega
  | k + 1, .mk s n l, h => by
    simp only [walkT]
    by_cases hs : holeS s = true
    · rw [if_pos hs]
      cases hf : fa? L n with
      | none => exact ⟨_, rfl⟩
      | some x =>
        have := wayN_lt (l := l) ha hs hf
        exact walk_total ha k x (by omega)
    · rw [if_neg hs]; exact ⟨_, rfl⟩
theorem root_total {L : List Fa} {rho : Int → Nat} (ha : Ac L rho) : ∀ (k : Nat) (t : Ty), wayN L rho t < k → ∃ r, rootT L k t = some r
  | 0, t, h => by omega
  | k + 1, .mk s n l, h => by
    simp only [rootT]
    by_cases hs : holeS s = true
    · rw [if_pos hs]
      cases hf : fa? L n with
      | none => exact ⟨_, rfl⟩
      | some x =>
        simp only
        by_cases hx : holeS x.name = true
        · rw [if_pos hx]
          have := wayN_lt (l := l) ha hs hf
          exact root_total ha k x (by omega)
        · rw [if_neg hx]; exact ⟨_, rfl⟩
    · rw [if_neg hs]; exact ⟨_, rfl⟩

/-- Is a hole in a type: that comes to an end. -/
theorem within_total {L : List Fa} {n : Int} : ∀ (k : Nat) (t : Ty) (seen : List Int), L.length < k + seen.length → seen.Nodup → (∀ x ∈ seen, (fa? L x).isSome = true) → ∃ out, withinP L n k t seen = some out ∧ (out.2 = false → out.1.Nodup ∧ (∀ x ∈ out.1, (fa? L x).isSome = true) ∧ seen.length ≤ out.1.length) := by
  intro k
  induction k with
  | zero =>
    intro t seen h hn hd
    have := nodup_len seen (L.map (·.n)) hn fun x hx => fa_dom (hd x hx)
    simp at this
    omega
  | succ k ih =>
    intro t seen h hn hd
    rw [withinP]
    have : ∀ (hs : List Int) (seen : List Int), L.length < k + 1 + seen.length → seen.Nodup → (∀ x ∈ seen, (fa? L x).isSome = true) → ∃ out, wStep (withinP L n k) L n hs seen = some out ∧ (out.2 = false → out.1.Nodup ∧ (∀ x ∈ out.1, (fa? L x).isSome = true) ∧ seen.length ≤ out.1.length) := by
      intro hs
      induction hs with
      | nil => intro seen h hn hd; exact ⟨(seen, false), rfl, fun _ => ⟨hn, hd, Nat.le_refl _⟩⟩
      | cons a r ihr =>
        intro seen h hn hd
        simp only [wStep]
        by_cases h1 : a = n
        · rw [if_pos h1]; exact ⟨_, rfl, fun h => by cases h⟩
        · rw [if_neg h1]
          cases hf : fa? L a with
          | none => exact ihr seen h hn hd
          | some x =>
            simp only
            by_cases h2 : a ∈ seen
            · rw [if_pos h2]; exact ihr seen h hn hd
            · rw [if_neg h2]
              obtain ⟨⟨S, b⟩, ho, hq⟩ := ih x (a :: seen) (by simp only [List.length_cons]; omega) (List.nodup_cons.2 ⟨h2, hn⟩) (fun y hy => by
                rcases List.mem_cons.1 hy with rfl | hy
                · rw [hf]; rfl
                · exact hd y hy)
              rw [ho]
              cases b with
              | true => exact ⟨_, rfl, fun h => by cases h⟩
              | false =>
                obtain ⟨q1, q2, q3⟩ := hq rfl
                simp only [List.length_cons] at q3
                obtain ⟨out, r1, r2⟩ := ihr S (by omega) q1 q2
                exact ⟨out, r1, fun h => ⟨(r2 h).1, (r2 h).2.1, by have := (r2 h).2.2; omega⟩⟩
    exact this _ seen h hn hd

/-! ### More fuel changes nothing -/
theorem oneL_mono {f g : List Fa → Ty → Ty → Option (List Fa × Bool)} (h : ∀ L a b out, f L a b = some out → g L a b = some out) : ∀ (l q : List Ty) (L : List Fa) (out : List Fa × Bool), oneL f L l q = some out → oneL g L l q = some out := by
  intro l
  induction l with
  | nil => intro q L out ho; simp only [oneL] at ho ⊢; exact ho
  | cons a r ih =>
    intro q L out ho
    cases q with
    | nil => simp only [oneL] at ho ⊢; exact ho
    | cons b q =>
      obtain ⟨o, h1⟩ := oneL_some ho
      have h2 := h _ _ _ _ h1
      simp only [oneL, h1] at ho
      simp only [oneL, h2]
      obtain ⟨M, c⟩ := o
      cases c
      · exact ho
      · exact ih q M out ho
theorem oneT_succ : ∀ (k : Nat) (L : List Fa) (a b : Ty) (out : List Fa × Bool), oneT k L a b = some out → oneT (k + 1) L a b = some out := by
  intro k
  induction k with
  | zero => intro L a b out h; simp [oneT] at h
  | succ k ih =>
    intro L a b out h
    rw [oneT] at h ⊢
    cases hv : rootT L (L.length + 1) a with
    | none => rw [hv] at h; simp at h
    | some v =>
    cases hz : rootT L (L.length + 1) b with
    | none => rw [hv, hz] at h; simp at h
    | some z =>
    rw [hv, hz] at h
    simp only at h ⊢
    by_cases c1 : holeS v.name = true ∧ holeS z.name = true ∧ v.n = z.n
    · rw [if_pos c1] at h ⊢; exact h
    rw [if_neg c1] at h ⊢
    cases hx : walkT L (L.length + 1) v with
    | none => rw [hx] at h; simp at h
    | some x =>
    cases hy : walkT L (L.length + 1) z with
    | none => rw [hx, hy] at h; simp at h
    | some y =>
    rw [hx, hy] at h
    simp only at h ⊢
    by_cases c2 : holeS (swapT x y).1.name = true
    · rw [if_pos c2] at h ⊢; exact h
    rw [if_neg c2] at h ⊢
    by_cases c3 : x.name.toList ≠ y.name.toList ∨ x.args.length ≠ y.args.length
    · rw [if_pos c3] at h ⊢; exact h
    rw [if_neg c3] at h ⊢
    cases hl : oneL (oneT k) L x.args y.args with
    | none => rw [hl] at h; simp at h
    | some p =>
      rw [hl] at h
      rw [oneL_mono ih _ _ _ _ hl]
      exact h
theorem oneT_mono {k j : Nat} (hkj : k ≤ j) {L : List Fa} {a b : Ty} {out : List Fa × Bool} (h : oneT k L a b = some out) : oneT j L a b = some out := by
  induction hkj with
  | refl => exact h
  | step _ ih => exact oneT_succ _ _ _ _ _ ih

/-! ### Facts are of holes of some list, one of each -/
structure InU (U : List Int) (L : List Fa) : Prop where
  key : ∀ f ∈ L, f.n ∈ U
  nodup : (L.map (·.n)).Nodup
  all : ∀ n t, fa? L n = some t → ∀ m ∈ allT t, m ∈ U
theorem InU.len {U : List Int} {L : List Fa} (h : InU U L) : L.length ≤ U.length := by
  have := nodup_len (L.map (·.n)) U h.nodup fun x hx => by obtain ⟨f, hf, rfl⟩ := List.mem_map.1 hx; exact h.key f hf
  simpa using this
theorem rootT_in {U : List Int} {L : List Fa} (hL : InU U L) : ∀ (k : Nat) (e r : Ty), rootT L k e = some r → (∀ m ∈ allT e, m ∈ U) → ∀ m ∈ allT r, m ∈ U
  | 0, e, r, h, _ => by simp [rootT] at h
  | k + 1, .mk s n l, r, h, he => by
    simp only [rootT] at h
    by_cases hh : holeS s = true
    · rw [if_pos hh] at h
      cases hf : fa? L n with
      | none => rw [hf] at h; simp at h; rw [← h]; exact he
      | some x =>
        rw [hf] at h
        simp only at h
        by_cases hx : holeS x.name = true
        · rw [if_pos hx] at h; exact rootT_in hL k x r h (hL.all n x hf)
        · rw [if_neg hx] at h; simp at h; rw [← h]; exact he
    · rw [if_neg hh] at h; simp at h; rw [← h]; exact he
theorem walkT_in {U : List Int} {L : List Fa} (hL : InU U L) : ∀ (k : Nat) (e r : Ty), walkT L k e = some r → (∀ m ∈ allT e, m ∈ U) → ∀ m ∈ allT r, m ∈ U
  | 0, e, r, h, _ => by simp [walkT] at h
  | k + 1, .mk s n l, r, h, he => by
    simp only [walkT] at h
    by_cases hh : holeS s = true
    · rw [if_pos hh] at h
      cases hf : fa? L n with
      | none => rw [hf] at h; simp at h; rw [← h]; exact he
      | some x => rw [hf] at h; exact walkT_in hL k x r h (hL.all n x hf)
    · rw [if_neg hh] at h; simp at h; rw [← h]; exact he
theorem fa_none_key {L : List Fa} {n : Int} (h : fa? L n = none) : n ∉ L.map (·.n) := by
  induction L with
  | nil => simp
  | cons f r ih =>
    simp only [fa?] at h
    by_cases e : f.n = n
    · rw [if_pos e] at h; cases h
    · rw [if_neg e] at h
      intro hm
      rcases List.mem_cons.1 hm with hm | hm
      · exact e hm.symm
      · exact ih h hm
theorem setF_keys (L : List Fa) (n : Int) (t : Ty) : (setF L n t).map (·.n) = L.map (·.n) := by
  induction L with
  | nil => rfl
  | cons f r ih =>
    unfold setF
    by_cases e : f.n = n
    · rw [if_pos e]; simp [e]
    · rw [if_neg e]; simp [ih]
theorem oneL_in {U : List Int} {f : List Fa → Ty → Ty → Option (List Fa × Bool)} (hf : ∀ L a b out, f L a b = some out → InU U L → (∀ m ∈ allT a, m ∈ U) → (∀ m ∈ allT b, m ∈ U) → InU U out.1) : ∀ (l q : List Ty) (L : List Fa) (out : List Fa × Bool), oneL f L l q = some out → InU U L → (∀ e ∈ l, ∀ m ∈ allT e, m ∈ U) → (∀ e ∈ q, ∀ m ∈ allT e, m ∈ U) → InU U out.1 := by
  intro l
  induction l with
  | nil => intro q L out h hL _ _; simp [oneL] at h; subst h; exact hL
  | cons a r ih =>
    intro q L out h hL h1 h2
    cases q with
    | nil => simp [oneL] at h; subst h; exact hL
    | cons b q =>
      obtain ⟨⟨M, c⟩, ho⟩ := oneL_some h
      have hM := hf _ _ _ _ ho hL (h1 a (by simp)) (h2 b (by simp))
      cases c with
      | false => rw [oneL_false h ho]; exact hM
      | true => exact ih q M out (oneL_true h ho) hM (fun e he => h1 e (by simp [he])) (fun e he => h2 e (by simp [he]))
theorem args_in {U : List Int} {t : Ty} (h : ∀ m ∈ allT t, m ∈ U) (hn : holeS t.name = false) : ∀ e ∈ t.args, ∀ m ∈ allT e, m ∈ U := fun e he m hm => h m (by rw [allT_of_not hn]; exact List.mem_flatMap.2 ⟨e, he, hm⟩)
theorem one_in {U : List Int} : ∀ (k : Nat) (L : List Fa) (a b : Ty) (out : List Fa × Bool), oneT k L a b = some out → InU U L → (∀ m ∈ allT a, m ∈ U) → (∀ m ∈ allT b, m ∈ U) → InU U out.1 := by
  intro k
  induction k with
  | zero => intro L a b out h; simp [oneT] at h
  | succ k ih =>
    intro L a b out h hL h1 h2
    rw [oneT] at h
    cases hv : rootT L (L.length + 1) a with
    | none => rw [hv] at h; simp at h
    | some v =>
    cases hz : rootT L (L.length + 1) b with
    | none => rw [hv, hz] at h; simp at h
    | some z =>
    rw [hv, hz] at h
    simp only at h
    by_cases c1 : holeS v.name = true ∧ holeS z.name = true ∧ v.n = z.n
    · rw [if_pos c1] at h; simp at h; subst h; exact hL
    rw [if_neg c1] at h
    cases hx : walkT L (L.length + 1) v with
    | none => rw [hx] at h; simp at h
    | some x =>
    cases hy : walkT L (L.length + 1) z with
    | none => rw [hx, hy] at h; simp at h
    | some y =>
    rw [hx, hy] at h
    simp only at h
    have vi := rootT_in hL _ _ _ hv h1
    have zi := rootT_in hL _ _ _ hz h2
    have xi := walkT_in hL _ _ _ hx vi
    have yi := walkT_in hL _ _ _ hy zi
    by_cases c2 : holeS (swapT x y).1.name = true
    · rw [if_pos c2] at h
      obtain ⟨p, q, hpq⟩ : ∃ p q, swapT x y = (p, q) := ⟨_, _, rfl⟩
      rw [hpq] at h c2
      simp only at h c2
      have hp : fa? L p.n = none ∧ (∀ m ∈ allT p, m ∈ U) ∧ ∀ m ∈ allT q, m ∈ U := by
        unfold swapT at hpq
        split at hpq
        · simp only [Prod.mk.injEq] at hpq
          obtain ⟨rfl, rfl⟩ := hpq
          exact ⟨walkT_none _ _ _ hy c2, yi, xi⟩
        · simp only [Prod.mk.injEq] at hpq
          obtain ⟨rfl, rfl⟩ := hpq
          exact ⟨walkT_none _ _ _ hx c2, xi, yi⟩
      cases hwi : withinP L p.n (L.length + 1) q [] with
      | none => rw [hwi] at h; simp at h
      | some sb =>
        rw [hwi] at h
        obtain ⟨S, c⟩ := sb
        cases c with
        | true => simp at h; subst h; exact hL
        | false =>
          simp at h
          subst h
          refine ⟨fun f hf => ?_, ?_, fun n t ht m hm => ?_⟩
          · rcases List.mem_append.1 hf with hf | hf
            · exact hL.key f hf
            · simp at hf; subst hf; exact hp.2.1 p.n (by rw [allT_of_hole c2]; simp)
          · simp only [List.map_append, List.map_cons, List.map_nil]
            exact List.nodup_append.2 ⟨hL.nodup, by simp, fun x hx y hy => by simp at hy; subst hy; intro e; subst e; exact fa_none_key hp.1 hx⟩
          · simp only at ht
            rw [fa_snoc_if q hp.1] at ht
            by_cases e : n = p.n
            · rw [if_pos e] at ht; obtain rfl := Option.some.inj ht; exact hp.2.2 m hm
            · rw [if_neg e] at ht; exact hL.all n t ht m hm
    · rw [if_neg c2] at h
      by_cases c3 : x.name.toList ≠ y.name.toList ∨ x.args.length ≠ y.args.length
      · rw [if_pos c3] at h; simp at h; subst h; exact hL
      rw [if_neg c3] at h
      have hxn : holeS x.name = false ∧ holeS y.name = false := by
        unfold swapT at c2
        split at c2
        · rename_i hc; exact absurd hc.1 c2
        · rename_i hc
          have h1 : holeS x.name = false := (Bool.not_eq_true _).mp c2
          refine ⟨h1, ?_⟩
          cases h2 : holeS y.name with
          | false => rfl
          | true => exact absurd ⟨h2, .inl h1⟩ hc
      cases hl : oneL (oneT k) L x.args y.args with
      | none => rw [hl] at h; simp at h
      | some p =>
        rw [hl] at h
        have hM := oneL_in ih _ _ _ _ hl hL (args_in xi hxn.1) (args_in yi hxn.2)
        have hok := oneL_ok (oneT_ok k) _ _ _ _ hl
        obtain ⟨M, c⟩ := p
        cases c with
        | false => simp at h; subst h; exact hM
        | true =>
          simp only at h hM hok
          by_cases c4 : holeS v.name = true ∧ holeS z.name = true
          · rw [if_pos c4] at h
            simp at h
            subst h
            have hvs := hok.2.2 _ (walkT_some hx c4.1 hxn.1)
            refine ⟨fun f hf => ?_, by simp only; rw [setF_keys]; exact hM.nodup, fun n t ht m hm => ?_⟩
            · have : f.n ∈ (setF M v.n z).map (·.n) := List.mem_map.2 ⟨f, hf, rfl⟩
              rw [setF_keys] at this
              obtain ⟨g, hg, e⟩ := List.mem_map.1 this
              rw [← e]
              exact hM.key g hg
            · simp only at ht
              rw [fa_set z hvs] at ht
              by_cases e : n = v.n
              · rw [if_pos e] at ht; obtain rfl := Option.some.inj ht; exact zi m hm
              · rw [if_neg e] at ht; exact hM.all n t ht m hm
          · rw [if_neg c4] at h; simp at h; subst h; exact hM
end Go.Proofs.YticjpeefhppjoaaDoor
