/- What facts say: types with all facts in them, in plain words. -/
import Derived.Test.YticjpeefhppjoaaDoorTyPl
import Derived.Test.YticjpeefhppjoaaDoorTyUn
namespace Go.Proofs.YticjpeefhppjoaaDoor

/-- A type that may be, of some depth. -/
def Wf (e : Ty) : Prop := ∃ d, sndT e d = true
theorem Wf.open {s : Str} {n : Int} {l : List Ty} (h : Wf (.mk s n l)) : (holeS s = true → l = []) ∧ (holeS s = false → n = 0) ∧ ∀ e ∈ l, Wf e := by
  obtain ⟨d, h⟩ := h
  obtain ⟨_, _, h1, h2, h3⟩ := snd_open h
  exact ⟨fun h => (h1 h).2, h2, fun e he => ⟨d - 1, h3 e he⟩⟩
/-- A type where each hole is what th says. -/
def sub (th : Int → Ty) : Ty → Ty
  | .mk s n l => if holeS s = true then th n else .mk s n (subL th l)
where subL (th : Int → Ty) : List Ty → List Ty
  | [] => []
  | e :: r => sub th e :: subL th r
theorem subL_map (th : Int → Ty) (l : List Ty) : sub.subL th l = l.map (sub th) := by
  induction l with
  | nil => rfl
  | cons e r ih => simp only [sub.subL, List.map_cons, ih]
theorem sub_mk (th : Int → Ty) (s : Str) (n : Int) (l : List Ty) : sub th (.mk s n l) = if holeS s = true then th n else .mk s n (l.map (sub th)) := by rw [sub, subL_map]
theorem sub_of_hole {th : Int → Ty} {t : Ty} (h : holeS t.name = true) : sub th t = th t.n := by
  obtain ⟨s, n, l⟩ := t
  rw [sub_mk, if_pos (show holeS s = true from h)]
  rfl
theorem sub_hole (th : Int → Ty) (n : Int) : sub th (holeT n) = th n := sub_of_hole holeS_nil
theorem sub_of_not {th : Int → Ty} {t : Ty} (h : holeS t.name = false) : sub th t = .mk t.name t.n (t.args.map (sub th)) := by
  obtain ⟨s, n, l⟩ := t
  rw [sub_mk, if_neg (by rw [show holeS s = false from h]; simp)]
  rfl
theorem sub_congr {f g : Int → Ty} : ∀ e : Ty, (∀ n ∈ allT e, f n = g n) → sub f e = sub g e := by
  refine Ty.ind fun s n l ih h => ?_
  rw [sub_mk, sub_mk]
  rw [allT_mk] at h
  by_cases hs : holeS s = true
  · rw [if_pos hs] at h ⊢
    rw [if_pos hs, h n (by simp)]
  · rw [if_neg hs] at h ⊢
    rw [if_neg hs]
    congr 1
    exact List.map_congr_left fun e he => ih e he fun n hn => h n (List.mem_flatMap.2 ⟨e, he, hn⟩)
theorem sub_sub (f g : Int → Ty) : ∀ e : Ty, sub f (sub g e) = sub (fun n => sub f (g n)) e := by
  refine Ty.ind fun s n l ih => ?_
  rw [sub_mk, sub_mk]
  by_cases hs : holeS s = true
  · rw [if_pos hs, if_pos hs]
  · rw [if_neg hs, if_neg hs, sub_mk, if_neg hs, List.map_map]
    congr 1
    exact List.map_congr_left fun e he => ih e he
theorem allT_of_hole {t : Ty} (h : holeS t.name = true) : allT t = [t.n] := by
  obtain ⟨s, n, l⟩ := t
  rw [allT_mk, if_pos (show holeS s = true from h)]
  rfl
theorem allT_of_not {t : Ty} (h : holeS t.name = false) : allT t = t.args.flatMap allT := by
  obtain ⟨s, n, l⟩ := t
  rw [allT_mk, if_neg (by rw [show holeS s = false from h]; simp)]
  rfl
theorem cnt_args (t : Ty) : tcnt t = 1 + tcnt.cntL t.args := by cases t; simp only [tcnt, Ty.args]
/-- What a hole in a type is is no greater than what the type is. -/
theorem sub_le (th : Int → Ty) : ∀ (e : Ty), ∀ n ∈ allT e, tcnt (th n) ≤ tcnt (sub th e) := by
  refine Ty.ind fun s n l ih m hm => ?_
  rw [allT_mk] at hm
  rw [sub_mk]
  by_cases hs : holeS s = true
  · rw [if_pos hs] at hm ⊢
    simp at hm
    subst hm
    exact Nat.le_refl _
  · rw [if_neg hs] at hm ⊢
    obtain ⟨e, he, hm⟩ := List.mem_flatMap.1 hm
    have h1 := ih e he m hm
    have h2 := tcntL_mem (List.mem_map.2 ⟨e, he, rfl⟩ : sub th e ∈ l.map (sub th))
    simp only [tcnt]
    omega
theorem sub_arg_lt (th : Int → Ty) {t e : Ty} (h : holeS t.name = false) (he : e ∈ t.args) : tcnt (sub th e) < tcnt (sub th t) := by
  rw [sub_of_not h]
  have h2 := tcntL_mem (List.mem_map.2 ⟨e, he, rfl⟩ : sub th e ∈ t.args.map (sub th))
  simp only [tcnt]
  omega
theorem sub_lt (th : Int → Ty) {t : Ty} (h : holeS t.name = false) {n : Int} (hn : n ∈ allT t) : tcnt (th n) < tcnt (sub th t) := by
  rw [allT_of_not h] at hn
  obtain ⟨e, he, hn⟩ := List.mem_flatMap.1 hn
  exact Nat.lt_of_le_of_lt (sub_le th e n hn) (sub_arg_lt th h he)

/-- What holes are obeys facts. -/
def Sat (L : List Fa) (th : Int → Ty) : Prop := ∀ n t, fa? L n = some t → th n = sub th t
/-- Facts go round nowhere. -/
def Ac (L : List Fa) (rho : Int → Nat) : Prop := ∀ n t, fa? L n = some t → ∀ m ∈ allT t, rho m < rho n
/-- The holes that facts tell, fully; other ones are themselves. -/
def Sol (L : List Fa) (si : Int → Ty) : Prop := ∀ n, si n = match fa? L n with | some t => sub si t | none => holeT n
theorem Sol.some {L : List Fa} {si : Int → Ty} (h : Sol L si) {n : Int} {t : Ty} (ht : fa? L n = .some t) : si n = sub si t := by rw [h n, ht]
theorem Sol.none {L : List Fa} {si : Int → Ty} (h : Sol L si) {n : Int} (ht : fa? L n = .none) : si n = holeT n := by rw [h n, ht]
theorem Sol.sat {L : List Fa} {si : Int → Ty} (h : Sol L si) : Sat L si := fun _ _ ht => h.some ht
def appH (L : List Fa) : Nat → Int → Ty
  | 0, n => holeT n
  | k + 1, n => match fa? L n with
    | some t => sub (appH L k) t
    | none => holeT n
theorem appH_stable {L : List Fa} {rho : Int → Nat} (h : Ac L rho) : ∀ (k : Nat) (n : Int), rho n < k → appH L k n = appH L (rho n + 1) n := by
  intro k
  induction k using Nat.strongRecOn with
  | _ k ih =>
  intro n hn
  obtain ⟨j, rfl⟩ : ∃ j, k = j + 1 := ⟨k - 1, by omega⟩
  simp only [appH]
  cases hf : fa? L n with
  | none => rfl
  | some t =>
    refine sub_congr t fun m hm => ?_
    have hr := h n t hf m hm
    rw [ih j (by omega) m (by omega)]
    rcases Nat.lt_or_ge (rho n) (j + 1) with h1 | h1
    · exact (ih (rho n) (by omega) m hr).symm
    · omega
theorem sol_exists {L : List Fa} {rho : Int → Nat} (h : Ac L rho) : ∃ si, Sol L si := by
  refine ⟨fun n => appH L (rho n + 1) n, fun n => ?_⟩
  simp only [appH]
  cases hf : fa? L n with
  | none => rfl
  | some t => exact sub_congr t fun m hm => appH_stable h _ m (h n t hf m hm)
/-- What obeys facts is what they say of each hole, further. -/
theorem Sat.inst {L : List Fa} {rho : Int → Nat} {si th : Int → Ty} (ha : Ac L rho) (hs : Sol L si) (h : Sat L th) : ∀ n, th n = sub th (si n) := by
  have : ∀ (k : Nat) (n : Int), rho n < k → th n = sub th (si n) := by
    intro k
    induction k with
    | zero => intro n hn; omega
    | succ k ih =>
      intro n hn
      cases hf : fa? L n with
      | none => rw [hs.none hf, sub_hole]
      | some t =>
        rw [hs.some hf, sub_sub, h n t hf]
        exact sub_congr t fun m hm => ih m (by have := ha n t hf m hm; omega)
  intro n
  exact this (rho n + 1) n (by omega)
theorem sat_of_inst {L : List Fa} {si th : Int → Ty} (hs : Sol L si) (h : ∀ n, th n = sub th (si n)) : Sat L th := fun n t hf => by
  rw [h n, hs.some hf, sub_sub]
  exact sub_congr t fun m _ => (h m).symm

/-- From a hole to one that is in what it is. -/
inductive Reach (L : List Fa) : Int → Int → Prop where
  | refl (n : Int) : Reach L n n
  | step {n m k : Int} {t : Ty} : fa? L n = some t → m ∈ allT t → Reach L m k → Reach L n k
theorem Reach.le {L : List Fa} {th : Int → Ty} (hs : Sat L th) {n m : Int} (h : Reach L n m) : tcnt (th m) ≤ tcnt (th n) := by
  induction h with
  | refl n => exact Nat.le_refl _
  | step hf hm _ ih =>
    rw [hs _ _ hf]
    exact Nat.le_trans ih (sub_le th _ _ hm)

theorem foldr_max_le {f : Int → Nat} : ∀ {l : List Int} {m : Int}, m ∈ l → f m ≤ l.foldr (fun x a => max (f x) a) 0
  | a :: l, m, h => by
    rw [List.foldr_cons]
    rcases List.mem_cons.1 h with rfl | h
    · exact Nat.le_max_left _ _
    · exact Nat.le_trans (foldr_max_le h) (Nat.le_max_right _ _)
open Classical in
/-- A fact of a hole that is not reached from what it says. -/
theorem ac_set {L M : List Fa} {rho : Int → Nat} {n : Int} {t : Ty} (ha : Ac L rho) (hM : ∀ m, fa? M m = if m = n then some t else fa? L m) (hr : ∀ m ∈ allT t, ¬ Reach L m n) : ∃ rho', Ac M rho' := by
  refine ⟨fun k => rho k + if Reach L k n then ((allT t).foldr (fun x a => max (rho x) a) 0 + 1) else 0, fun k u hk m hm => ?_⟩
  rw [hM] at hk
  by_cases he : k = n
  · subst he
    rw [if_pos rfl] at hk
    obtain rfl := Option.some.inj hk
    have h1 := foldr_max_le (f := rho) hm
    simp only
    rw [if_neg (hr m hm), if_pos (Reach.refl k)]
    omega
  · rw [if_neg he] at hk
    have h1 := ha k u hk m hm
    simp only
    by_cases h2 : Reach L m n
    · rw [if_pos h2, if_pos (Reach.step hk hm h2)]; omega
    · rw [if_neg h2]; omega

/-! ### Is a hole in a type? -/
theorem within_true {L : List Fa} {n : Int} : ∀ (k : Nat) (t : Ty) (seen S : List Int), withinP L n k t seen = some (S, true) → ∃ m ∈ allT t, Reach L m n := by
  intro k
  induction k with
  | zero => intro t seen S h; simp [withinP] at h
  | succ k ih =>
    intro t seen S h
    rw [withinP] at h
    have : ∀ (hs : List Int) (seen S : List Int), wStep (withinP L n k) L n hs seen = some (S, true) → ∃ m ∈ hs, Reach L m n := by
      intro hs
      induction hs with
      | nil => intro seen S h; simp [wStep] at h
      | cons a r ihr =>
        intro seen S h
        simp only [wStep] at h
        by_cases h1 : a = n
        · exact ⟨a, by simp, by rw [h1]; exact Reach.refl n⟩
        · rw [if_neg h1] at h
          cases hf : fa? L a with
          | none =>
            rw [hf] at h
            obtain ⟨m, hm, hr⟩ := ihr _ _ h
            exact ⟨m, by simp [hm], hr⟩
          | some x =>
            rw [hf] at h
            simp only at h
            by_cases h2 : a ∈ seen
            · rw [if_pos h2] at h
              obtain ⟨m, hm, hr⟩ := ihr _ _ h
              exact ⟨m, by simp [hm], hr⟩
            · rw [if_neg h2] at h
              cases hw : withinP L n k x (a :: seen) with
              | none => rw [hw] at h; simp at h
              | some p =>
                rw [hw] at h
                obtain ⟨S1, b⟩ := p
                cases b
                · obtain ⟨m, hm, hr⟩ := ihr _ _ h
                  exact ⟨m, by simp [hm], hr⟩
                · obtain ⟨m, hm, hr⟩ := ih x _ _ hw
                  exact ⟨a, by simp, Reach.step hf hm hr⟩
    exact this _ _ _ h
def SeenOk (L : List Fa) (n : Int) (S : List Int) (h : Int) : Prop := h ≠ n ∧ ((fa? L h).isSome = true → h ∈ S)
theorem within_false {L : List Fa} {n : Int} : ∀ (k : Nat) (t : Ty) (seen S : List Int), withinP L n k t seen = some (S, false) → (∀ x ∈ seen, x ∈ S) ∧ (∀ h ∈ allT t, SeenOk L n S h) ∧ ∀ m ∈ S, m ∉ seen → ∀ x, fa? L m = some x → ∀ h ∈ allT x, SeenOk L n S h := by
  intro k
  induction k with
  | zero => intro t seen S h; simp [withinP] at h
  | succ k ih =>
    intro t seen S h
    rw [withinP] at h
    have : ∀ (hs : List Int) (seen S : List Int), wStep (withinP L n k) L n hs seen = some (S, false) → (∀ x ∈ seen, x ∈ S) ∧ (∀ h ∈ hs, SeenOk L n S h) ∧ ∀ m ∈ S, m ∉ seen → ∀ x, fa? L m = some x → ∀ h ∈ allT x, SeenOk L n S h := by
      intro hs
      induction hs with
      | nil =>
        intro seen S h
        simp [wStep] at h
        subst h
        exact ⟨fun _ h => h, by simp, fun m h1 h2 => absurd h1 h2⟩
      | cons a r ihr =>
        intro seen S h
        simp only [wStep] at h
        by_cases h1 : a = n
        · rw [if_pos h1] at h; simp at h
        · rw [if_neg h1] at h
          cases hf : fa? L a with
          | none =>
            rw [hf] at h
            obtain ⟨q1, q2, q3⟩ := ihr _ _ h
            refine ⟨q1, fun x hx => ?_, q3⟩
            rcases List.mem_cons.1 hx with rfl | hx
            · exact ⟨h1, fun h => by rw [hf] at h; cases h⟩
            · exact q2 x hx
          | some x =>
            rw [hf] at h
            simp only at h
            by_cases h2 : a ∈ seen
            · rw [if_pos h2] at h
              obtain ⟨q1, q2, q3⟩ := ihr _ _ h
              refine ⟨q1, fun y hy => ?_, q3⟩
              rcases List.mem_cons.1 hy with rfl | hy
              · exact ⟨h1, fun _ => q1 _ h2⟩
              · exact q2 y hy
            · rw [if_neg h2] at h
              cases hw : withinP L n k x (a :: seen) with
              | none => rw [hw] at h; simp at h
              | some p =>
                rw [hw] at h
                obtain ⟨S1, b⟩ := p
                cases b
                · obtain ⟨q1, q2, q3⟩ := ihr _ _ h
                  obtain ⟨r1, r2, r3⟩ := ih x _ _ hw
                  have up : ∀ y, SeenOk L n S1 y → SeenOk L n S y := fun y hy => ⟨hy.1, fun h => q1 _ (hy.2 h)⟩
                  refine ⟨fun y hy => q1 y (r1 y (by simp [hy])), fun y hy => ?_, fun m hm hms y hy z hz => ?_⟩
                  · rcases List.mem_cons.1 hy with rfl | hy
                    · exact ⟨h1, fun _ => q1 _ (r1 _ (by simp))⟩
                    · exact q2 y hy
                  · by_cases hm1 : m ∈ S1
                    · by_cases hma : m = a
                      · subst hma
                        rw [hf] at hy
                        obtain rfl := Option.some.inj hy
                        exact up z (r2 z hz)
                      · exact up z (r3 m hm1 (by simp [hma, hms]) y hy z hz)
                    · exact q3 m hm hm1 y hy z hz
                · simp at h
    exact this _ _ _ h
/-- Behind 'no': that hole is not reached. -/
theorem within_not {L : List Fa} {n : Int} {k : Nat} {t : Ty} {S : List Int} (h : withinP L n k t [] = some (S, false)) : ∀ m ∈ allT t, ¬ Reach L m n := by
  obtain ⟨_, h2, h3⟩ := within_false k t [] S h
  have : ∀ m k, Reach L m k → SeenOk L n S m → k ≠ n := by
    intro m k hr
    induction hr with
    | refl m => intro h; exact h.1
    | step hf hm _ ih => intro h; exact ih (h3 _ (h.2 (by rw [hf]; rfl)) (by simp) _ hf _ hm)
  intro m hm hr
  exact this m n hr (h2 m hm) rfl
end Go.Proofs.YticjpeefhppjoaaDoor
