/- Two types are always made one, or shown not to be; what is told does not hang on the way. -/
import Derived.Test.YticjpeefhppjoaaDoorTyTj
namespace Go.Proofs.YticjpeefhppjoaaDoor

theorem oneL_total {x y : List Ty} {L : List Fa} {si : Int → Ty} {U : List Int}
    (hel : ∀ (M : List Fa) (rho : Int → Nat) (e e' : Ty), e ∈ x → e' ∈ y → FWf M → Ac M rho → InU U M → L.length ≤ M.length → (M.length = L.length → Sol M si) → ∃ k out, oneT k M e e' = some out)
    (hwx : ∀ e ∈ x, Wf e) (hwy : ∀ e ∈ y, Wf e) (hix : ∀ e ∈ x, ∀ m ∈ allT e, m ∈ U) (hiy : ∀ e ∈ y, ∀ m ∈ allT e, m ∈ U) :
    ∀ (l q : List Ty) (M : List Fa) (rho : Int → Nat), (∀ e ∈ l, e ∈ x) → (∀ e ∈ q, e ∈ y) → FWf M → Ac M rho → InU U M → L.length ≤ M.length → (M.length = L.length → Sol M si) → ∃ k out, oneL (oneT k) M l q = some out := by
  intro l
  induction l with
  | nil => intro q M rho _ _ _ _ _ _ _; exact ⟨0, (M, true), by simp [oneL]⟩
  | cons a r ih =>
    intro q M rho hl hq hw ha hi hlen hsol
    cases q with
    | nil => exact ⟨0, (M, true), by simp [oneL]⟩
    | cons b q =>
      obtain ⟨k1, ⟨M1, c⟩, h1⟩ := hel M rho a b (hl a (by simp)) (hq b (by simp)) hw ha hi hlen hsol
      cases c with
      | false => exact ⟨k1, (M1, false), by simp only [oneL, h1]⟩
      | true =>
        obtain ⟨s1, _, s3⟩ := one_spec k1 M a b _ rho h1 (hwx a (hl a (by simp))) (hwy b (hq b (by simp))) hw ha
        have hi1 := one_in k1 M a b _ h1 hi (hix a (hl a (by simp))) (hiy b (hq b (by simp)))
        obtain ⟨rho1, ha1⟩ := s1.ac rfl
        simp only at s3
        obtain ⟨k2, out, h2⟩ := ih q M1 rho1 (fun e he => hl e (by simp [he])) (fun e he => hq e (by simp [he])) (s1.wf rfl) ha1 hi1 (by omega) (fun e => s1.same rfl (by simp only; omega) si (hsol (by omega)))
        refine ⟨max k1 k2, out, ?_⟩
        have e1 := oneT_mono (Nat.le_max_left k1 k2) h1
        simp only [oneL, e1]
        exact oneL_mono (fun L a b out h => oneT_mono (Nat.le_max_right k1 k2) h) _ _ _ _ h2

/-- Two types are made one, or shown not to be. -/
theorem one_total {U : List Int} : ∀ (u s : Nat) (L : List Fa) (a b : Ty) (rho : Int → Nat) (si : Int → Ty), U.length ≤ L.length + u → tcnt (sub si a) ≤ s → Wf a → Wf b → FWf L → Ac L rho → Sol L si → InU U L → (∀ m ∈ allT a, m ∈ U) → (∀ m ∈ allT b, m ∈ U) → ∃ k out, oneT k L a b = some out := by
  intro u
  induction u using Nat.strongRecOn with
  | _ u ihu =>
  intro s
  induction s using Nat.strongRecOn with
  | _ s ihs =>
  intro L a b rho si hu hs hwa hwb hw ha hsol hi hia hib
  obtain ⟨v, hv⟩ := root_total ha (L.length + 1) a (by have := wayN_le L rho a; omega)
  obtain ⟨z, hz⟩ := root_total ha (L.length + 1) b (by have := wayN_le L rho b; omega)
  obtain ⟨x, hx⟩ := walk_total ha (L.length + 1) v (by have := wayN_le L rho v; omega)
  obtain ⟨y, hy⟩ := walk_total ha (L.length + 1) z (by have := wayN_le L rho z; omega)
  by_cases c1 : holeS v.name = true ∧ holeS z.name = true ∧ v.n = z.n
  · exact ⟨1, (L, true), by rw [oneT, hv, hz]; simp only; rw [if_pos c1]⟩
  by_cases c2 : holeS (swapT x y).1.name = true
  · obtain ⟨⟨S, c⟩, ho, _⟩ := within_total (L := L) (n := (swapT x y).1.n) (L.length + 1) (swapT x y).2 [] (by simp) List.nodup_nil (by simp)
    cases c with
    | true => exact ⟨1, (L, false), by rw [oneT, hv, hz]; simp only; rw [if_neg c1, hx, hy]; simp only; rw [if_pos c2, ho]⟩
    | false => exact ⟨1, (L ++ [⟨(swapT x y).1.n, (swapT x y).2⟩], true), by rw [oneT, hv, hz]; simp only; rw [if_neg c1, hx, hy]; simp only; rw [if_pos c2, ho]⟩
  by_cases c3 : x.name.toList ≠ y.name.toList ∨ x.args.length ≠ y.args.length
  · exact ⟨1, (L, false), by rw [oneT, hv, hz]; simp only; rw [if_neg c1, hx, hy]; simp only; rw [if_neg c2, if_pos c3]⟩
  have hxy : holeS x.name = false ∧ holeS y.name = false := by
    unfold swapT at c2
    split at c2
    · rename_i hc; exact absurd hc.1 c2
    · rename_i hc
      have h1 : holeS x.name = false := (Bool.not_eq_true _).mp c2
      refine ⟨h1, ?_⟩
      cases h2 : holeS y.name with
      | false => rfl
      | true => exact absurd ⟨h2, .inl h1⟩ hc
  have wx := walkT_wf hw _ _ _ hx (rootT_wf hw _ _ _ hv hwa)
  have wy := walkT_wf hw _ _ _ hy (rootT_wf hw _ _ _ hz hwb)
  have ix := args_in (walkT_in hi _ _ _ hx (rootT_in hi _ _ _ hv hia)) hxy.1
  have iy := args_in (walkT_in hi _ _ _ hy (rootT_in hi _ _ _ hz hib)) hxy.2
  have hax : sub si a = sub si x := (rootT_sat hsol.sat _ _ _ hv).trans (walkT_sat hsol.sat _ _ _ hx)
  obtain ⟨k, p, hp⟩ := oneL_total (x := x.args) (y := y.args) (L := L) (si := si) (U := U) (fun M rho' e e' he he' hwM haM hiM hlen hsM => by
    by_cases hl : M.length = L.length
    · have hlt := sub_arg_lt si hxy.1 he
      rw [← hax] at hlt
      exact ihs (tcnt (sub si e)) (by omega) M e e' rho' si (by omega) (Nat.le_refl _) (args_wf wx e he) (args_wf wy e' he') hwM haM (hsM hl) hiM (ix e he) (iy e' he')
    · obtain ⟨si', hsi'⟩ := sol_exists haM
      have := hiM.len
      exact ihu (u - 1) (by omega) _ M e e' rho' si' (by omega) (Nat.le_refl _) (args_wf wx e he) (args_wf wy e' he') hwM haM hsi' hiM (ix e he) (iy e' he'))
    (args_wf wx) (args_wf wy) ix iy x.args y.args L rho (fun _ h => h) (fun _ h => h) hw ha hi (Nat.le_refl _) (fun _ => hsol)
  obtain ⟨M, c⟩ := p
  cases c with
  | false => exact ⟨k + 1, (M, false), by rw [oneT, hv, hz]; simp only; rw [if_neg c1, hx, hy]; simp only; rw [if_neg c2, if_neg c3, hp]⟩
  | true =>
    by_cases c4 : holeS v.name = true ∧ holeS z.name = true
    · exact ⟨k + 1, (setF M v.n z, true), by rw [oneT, hv, hz]; simp only; rw [if_neg c1, hx, hy]; simp only; rw [if_neg c2, if_neg c3, hp]; simp only; rw [if_pos c4]⟩
    · exact ⟨k + 1, (M, true), by rw [oneT, hv, hz]; simp only; rw [if_neg c1, hx, hy]; simp only; rw [if_neg c2, if_neg c3, hp]; simp only; rw [if_neg c4]⟩

/-! ### What is told does not hang on the way -/
theorem sol_hole {L : List Fa} {rho : Int → Nat} {si : Int → Ty} (ha : Ac L rho) (hs : Sol L si) : ∀ n, holeS (si n).name = true → si n = holeT (si n).n ∧ fa? L (si n).n = none := by
  have : ∀ (k : Nat) (n : Int), rho n < k → holeS (si n).name = true → si n = holeT (si n).n ∧ fa? L (si n).n = none := by
    intro k
    induction k with
    | zero => intro n hn; omega
    | succ k ih =>
      intro n hn hh
      cases hf : fa? L n with
      | none =>
        have e := hs.none hf
        rw [e]
        exact ⟨rfl, hf⟩
      | some t =>
        have e := hs.some hf
        cases ht : holeS t.name with
        | true =>
          rw [sub_of_hole ht] at e
          rw [e] at hh ⊢
          exact ih t.n (by have := ha n t hf t.n (by rw [allT_of_hole ht]; simp); omega) hh
        | false =>
          rw [e, sub_name ht] at hh
          cases hh
  intro n
  exact this (rho n + 1) n (by omega)
theorem sol_min {L : List Fa} {rho : Int → Nat} {si : Int → Ty} (ha : Ac L rho) (hs : Sol L si) (hj : Jm L) : ∀ n, holeS (si n).name = true → (si n).n ≤ n := by
  have : ∀ (k : Nat) (n : Int), rho n < k → holeS (si n).name = true → (si n).n ≤ n := by
    intro k
    induction k with
    | zero => intro n hn; omega
    | succ k ih =>
      intro n hn hh
      cases hf : fa? L n with
      | none => rw [hs.none hf]; exact Int.le_refl _
      | some t =>
        have e := hs.some hf
        cases ht : holeS t.name with
        | true =>
          rw [sub_of_hole ht] at e
          rw [e] at hh ⊢
          have h1 := ih t.n (by have := ha n t hf t.n (by rw [allT_of_hole ht]; simp); omega) hh
          rcases hj n t hf ht with h2 | h2
          · omega
          · rw [h2 si hs.sat] at hh; cases hh
        | false =>
          rw [e, sub_name ht] at hh
          cases hh
  intro n
  exact this (rho n + 1) n (by omega)
theorem allT_sub (th : Int → Ty) : ∀ e : Ty, allT (sub th e) = (allT e).flatMap fun n => allT (th n) := by
  refine Ty.ind fun s n l ih => ?_
  rw [sub_mk, allT_mk]
  by_cases h : holeS s = true
  · rw [if_pos h, if_pos h]; simp
  · rw [if_neg h, if_neg h, allT_mk, if_neg h]
    induction l with
    | nil => rfl
    | cons e r ihl =>
      simp only [List.map_cons, List.flatMap_cons, List.flatMap_append]
      rw [ih e (by simp), ihl fun x hx => ih x (by simp [hx])]
/-- The holes that are left have no facts. -/
theorem sol_left {L : List Fa} {rho : Int → Nat} {si : Int → Ty} (ha : Ac L rho) (hs : Sol L si) : ∀ n, ∀ m ∈ allT (si n), fa? L m = none := by
  have : ∀ (k : Nat) (n : Int), rho n < k → ∀ m ∈ allT (si n), fa? L m = none := by
    intro k
    induction k with
    | zero => intro n hn; omega
    | succ k ih =>
      intro n hn m hm
      cases hf : fa? L n with
      | none =>
        rw [hs.none hf, holeT, allT_mk, if_pos holeS_nil] at hm
        simp at hm
        subst hm
        exact hf
      | some t =>
        rw [hs.some hf, allT_sub] at hm
        obtain ⟨j, hj, hm⟩ := List.mem_flatMap.1 hm
        exact ih j (by have := ha n t hf j hj; omega) m hm
  intro n
  exact this (rho n + 1) n (by omega)
/-- Facts that say the same tell the same of each hole. -/
theorem sol_unique {L M : List Fa} {rho tau : Int → Nat} {si ti : Int → Ty} (ha : Ac L rho) (hs : Sol L si) (hj : Jm L) (hb : Ac M tau) (ht : Sol M ti) (hk : Jm M) (h : ∀ th, Sat L th ↔ Sat M th) : si = ti := by
  have h1 : ∀ n, si n = sub si (ti n) := Sat.inst hb ht ((h si).1 hs.sat)
  have h2 : ∀ n, ti n = sub ti (si n) := Sat.inst ha hs ((h ti).2 ht.sat)
  have h3 : ∀ n, si n = sub si (si n) := Sat.inst ha hs hs.sat
  have hfix : ∀ m, si m = holeT m → ti m = holeT m := by
    intro m hm
    have e := h1 m
    cases hh : holeS (ti m).name with
    | false =>
      rw [hm] at e
      have := sub_name (th := si) hh
      rw [← e, show holeS (holeT m).name = true from holeS_nil] at this
      cases this
    | true =>
      obtain ⟨q1, _⟩ := sol_hole hb ht m hh
      have q2 := sol_min hb ht hk m hh
      rw [sub_of_hole hh, hm] at e
      have q3 := sol_min ha hs hj (ti m).n (by rw [← e]; exact holeS_nil)
      rw [← e] at q3
      have q4 : m ≤ (ti m).n := q3
      rw [q1]
      congr 1
      omega
  funext n
  rw [h2 n]
  rw [h3 n]
  rw [← h3 n]
  exact (h3 n).trans (sub_congr _ fun m hm => by
    have e := hs.none (sol_left ha hs n m hm)
    rw [e, hfix m e])
end Go.Proofs.YticjpeefhppjoaaDoor
