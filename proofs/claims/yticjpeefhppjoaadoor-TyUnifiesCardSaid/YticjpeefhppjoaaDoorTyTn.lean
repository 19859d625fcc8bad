/- What is told by unifying: types that may be; facts that make types one are further. -/
import Derived.Test.YticjpeefhppjoaaDoorTyTm
namespace Go.Proofs.YticjpeefhppjoaaDoor
open Go.RowKit

/-- A type that may be, whatever its depth. -/
def Wh : Ty → Prop
  | .mk s n l => s.size ≤ 20 ∧ (holeS s = true → 0 ≤ n ∧ l = []) ∧ (holeS s = false → n = 0) ∧ WhL l
where WhL : List Ty → Prop
  | [] => True
  | e :: r => Wh e ∧ WhL r
theorem whL_all (l : List Ty) : Wh.WhL l ↔ ∀ e ∈ l, Wh e := by
  induction l with
  | nil => simp [Wh.WhL]
  | cons e r ih => simp only [Wh.WhL, ih, List.mem_cons, forall_eq_or_imp]
theorem headT_iff (s : Str) (n : Int) (l : List Ty) : headT s n l.length = true ↔ s.size ≤ 20 ∧ (holeS s = true → 0 ≤ n ∧ l = []) ∧ (holeS s = false → n = 0) := by
  rw [holeS_size]
  simp only [headT, Bool.and_eq_true, decide_eq_true_eq]
  by_cases h : s.size = 0
  · simp [h]
  · simp [h]
theorem snd_iff : ∀ (e : Ty) (d : Int), sndT e d = true ↔ Wh e ∧ (tdep e : Int) ≤ d := by
  refine Ty.ind fun s n l ih d => ?_
  simp only [sndT, Bool.and_eq_true, decide_eq_true_eq, sndT_all, List.all_eq_true, headT_iff, Wh, whL_all, tdep]
  constructor
  · rintro ⟨⟨h1, h2, h3, h4⟩, h5⟩
    refine ⟨⟨h2, h3, h4, fun e he => ((ih e he _).1 (h5 e he)).1⟩, ?_⟩
    have : tdep.tdepL l ≤ (d - 1).toNat := depL_le.2 fun e he => by have := ((ih e he _).1 (h5 e he)).2; omega
    omega
  · rintro ⟨⟨h2, h3, h4, h5⟩, h6⟩
    refine ⟨⟨by omega, h2, h3, h4⟩, fun e he => (ih e he _).2 ⟨h5 e he, ?_⟩⟩
    have := depL_le.1 (Nat.le_refl _) e he
    omega
theorem Wf.wh {e : Ty} (h : Wf e) : Wh e := by obtain ⟨d, h⟩ := h; exact ((snd_iff e d).1 h).1
theorem Wh.open {s : Str} {n : Int} {l : List Ty} (h : Wh (.mk s n l)) : s.size ≤ 20 ∧ (holeS s = true → 0 ≤ n ∧ l = []) ∧ (holeS s = false → n = 0) ∧ ∀ e ∈ l, Wh e := by
  simp only [Wh, whL_all] at h; exact h
theorem Wh.shut {s : Str} {n : Int} {l : List Ty} (h1 : s.size ≤ 20) (h2 : holeS s = true → 0 ≤ n ∧ l = []) (h3 : holeS s = false → n = 0) (h4 : ∀ e ∈ l, Wh e) : Wh (.mk s n l) := by
  simp only [Wh, whL_all]; exact ⟨h1, h2, h3, h4⟩
theorem Wh.hole {n : Int} (h : 0 ≤ n) : Wh (holeT n) := Wh.shut (show (0 : Nat) ≤ 20 by omega) (fun _ => ⟨h, rfl⟩) (fun h => by rw [holeS_nil] at h; cases h) (fun _ h => by simp at h)
theorem chk_iff (e : Ty) : chkT e = true ↔ Wh e ∧ fitT e = true := by
  simp only [chkT, fitT, Bool.and_eq_true, decide_eq_true_eq, snd_iff]
  constructor
  · rintro ⟨h1, h2, h3⟩; exact ⟨h2, by omega, h1⟩
  · rintro ⟨h1, h2, h3⟩; exact ⟨h3, h1, by omega⟩
theorem wh_sub {th : Int → Ty} : ∀ e : Ty, Wh e → (∀ n ∈ allT e, Wh (th n)) → Wh (sub th e) := by
  refine Ty.ind fun s n l ih h ht => ?_
  obtain ⟨h1, h2, h3, h4⟩ := h.open
  rw [allT_mk] at ht
  rw [sub_mk]
  by_cases hs : holeS s = true
  · rw [if_pos hs] at ht ⊢
    exact ht n (by simp)
  · rw [if_neg hs] at ht ⊢
    refine Wh.shut h1 (fun h => absurd h hs) h3 fun e he => ?_
    obtain ⟨x, hx, rfl⟩ := List.mem_map.1 he
    exact ih x hx (h4 x hx) fun m hm => ht m (List.mem_flatMap.2 ⟨x, hx, hm⟩)
theorem wh_nonneg : ∀ e : Ty, Wh e → ∀ n ∈ allT e, 0 ≤ n := by
  refine Ty.ind fun s n l ih h m hm => ?_
  obtain ⟨_, h2, _, h4⟩ := h.open
  rw [allT_mk] at hm
  by_cases hs : holeS s = true
  · rw [if_pos hs] at hm; simp at hm; subst hm; exact (h2 hs).1
  · rw [if_neg hs] at hm
    obtain ⟨e, he, hm⟩ := List.mem_flatMap.1 hm
    exact ih e he (h4 e he) m hm
theorem sol_wh {L : List Fa} {rho : Int → Nat} {si : Int → Ty} (ha : Ac L rho) (hs : Sol L si) (hw : FWf L) : ∀ n, 0 ≤ n → Wh (si n) := by
  have : ∀ (k : Nat) (n : Int), rho n < k → 0 ≤ n → Wh (si n) := by
    intro k
    induction k with
    | zero => intro n hn; omega
    | succ k ih =>
      intro n hn h0
      cases hf : fa? L n with
      | none => rw [hs.none hf]; exact Wh.hole h0
      | some t =>
        rw [hs.some hf]
        have hwt := (hw n t hf).wh
        exact wh_sub t hwt fun m hm => ih m (by have := ha n t hf m hm; omega) (wh_nonneg t hwt m hm)
  intro n
  exact this (rho n + 1) n (by omega)
/-- A type with more in its places is no less. -/
theorem le_sub {th : Int → Ty} : ∀ e : Ty, Wh e → tcnt e ≤ tcnt (sub th e) ∧ tdep e ≤ tdep (sub th e) := by
  have c1 : ∀ t : Ty, 1 ≤ tcnt t := tcnt_pos
  have d1 : ∀ t : Ty, 1 ≤ tdep t := fun t => by cases t; simp only [tdep]; omega
  refine Ty.ind fun s n l ih h => ?_
  obtain ⟨_, h2, _, h4⟩ := h.open
  rw [sub_mk]
  by_cases hs : holeS s = true
  · rw [if_pos hs, (h2 hs).2]
    have := c1 (th n)
    have := d1 (th n)
    simp only [tcnt, tcnt.cntL, tdep, tdep.tdepL]
    omega
  · rw [if_neg hs]
    have hc : tcnt.cntL l ≤ tcnt.cntL (l.map (sub th)) := by
      clear h2 h d1
      induction l with
      | nil => exact Nat.le_refl _
      | cons a r ihl =>
        simp only [List.map_cons, tcnt.cntL]
        have e1 := (ih a (by simp) (h4 a (by simp))).1
        have e2 := ihl (fun x hx => ih x (by simp [hx])) (fun x hx => h4 x (by simp [hx]))
        omega
    have hd : tdep.tdepL l ≤ tdep.tdepL (l.map (sub th)) := depL_le.2 fun e he => Nat.le_trans (ih e he (h4 e he)).2 (depL_le.1 (Nat.le_refl _) _ (List.mem_map.2 ⟨e, he, rfl⟩))
    simp only [tcnt, tdep]
    omega
/-- What facts say of each hole. -/
def thF (L : List Fa) (n : Int) : Ty := (fa? L n).getD (holeT n)
theorem put_sub (L : List Fa) : ∀ e : Ty, Wh e → putT L e = sub (thF L) e := by
  refine Ty.ind fun s n l ih h => ?_
  obtain ⟨_, _, h3, h4⟩ := h.open
  rw [putT, sub_mk]
  by_cases hs : holeS s = true
  · rw [if_pos hs, if_pos hs]; rfl
  · rw [if_neg hs, if_neg hs, putL_map, h3 (by simpa using hs)]
    congr 1
    exact List.map_congr_left fun e he => ih e he (h4 e he)
theorem chk_wh {e : Ty} (h : chkT e = true) : Wh e := ((chk_iff e).1 h).1
theorem apply_sub {L : List Fa} {e : Ty} (he : chkT e = true) (hL : L.all goodF = true) : applyT L e = sub (thF L) e := by
  rw [applyT, if_pos (by rw [he, hL]; rfl), put_sub L e (chk_wh he)]

/-! ### Facts that make types one are further than what is told -/
theorem MguOf.inst {E : (Int → Ty) → Prop} {si th : Int → Ty} {K : List Int} (h : MguOf E si K) (he : E th) : ∀ n, th n = sub th (si n) := by
  obtain ⟨L, rho, ha, hs, _, _, hE, _⟩ := h.facts
  exact Sat.inst ha hs ((hE th).2 he)
theorem MguOf.wh {E : (Int → Ty) → Prop} {si : Int → Ty} {K : List Int} (h : MguOf E si K) {n : Int} (hn : 0 ≤ n) : Wh (si n) := by
  obtain ⟨L, rho, ha, hs, _, hw, _, _⟩ := h.facts
  exact sol_wh ha hs hw n hn
theorem MguOf.left {E : (Int → Ty) → Prop} {si : Int → Ty} {K : List Int} (h : MguOf E si K) (n : Int) : ∀ m ∈ allT (si n), m ∉ K := by
  obtain ⟨L, rho, ha, hs, _, _, _, hk⟩ := h.facts
  intro m hm hK
  have := sol_left ha hs n m hm
  rw [(hk m), this] at hK
  cases hK
theorem thF_fit {L : List Fa} (hL : L.all goodF = true) (n : Int) : tcnt (thF L n) ≤ 2000 ∧ tdep (thF L n) ≤ 60 := by
  unfold thF
  cases hf : fa? L n with
  | none => exact ⟨by simp [holeT, tcnt, tcnt.cntL], by simp [holeT, tdep, tdep.tdepL]⟩
  | some t =>
    obtain ⟨f, hfm, _, rfl⟩ := fa_key hf
    have := List.all_eq_true.1 hL f hfm
    simp only [goodF, Bool.and_eq_true] at this
    have h := ((chk_iff _).1 this.1).2
    simp only [fitT, Bool.and_eq_true, decide_eq_true_eq] at h
    exact ⟨h.2, h.1⟩
/-- Where some facts make two types one, what is told is not too great, and says no more. -/
theorem Ans.least {a b : Ty} (ha : chkT a = true) (hb : chkT b = true) {r : Option (List Fa)} (h : Ans a b r) {L : List Fa} (hL : L.all goodF = true) (he : applyT L a = applyT L b) : ∃ F, r = some F ∧ ∀ f ∈ F, chkT f.ty = true ∧ chkT (holeT f.n) = true ∧ applyT L f.ty = applyT L (holeT f.n) := by
  rw [apply_sub ha hL, apply_sub hb hL] at he
  rcases h.sem with ⟨_, h2⟩ | ⟨si, K, h1, hK, h3⟩
  · exact absurd he (h2 _)
  · have hno : ∀ n ∈ K, 0 ≤ n := fun n hn => by
      rcases List.mem_append.1 (hK n hn) with q | q
      · exact wh_nonneg a (chk_wh ha) n q
      · exact wh_nonneg b (chk_wh hb) n q
    have hfit : ∀ n ∈ K, fitT (si n) = true := by
      intro n hn
      have e := h1.inst he n
      obtain ⟨q1, q2⟩ := le_sub (th := thF L) (si n) (h1.wh (hno n hn))
      rw [← e] at q1 q2
      obtain ⟨q3, q4⟩ := thF_fit hL n
      simp only [fitT, Bool.and_eq_true, decide_eq_true_eq]
      omega
    refine ⟨K.map fun n => ⟨n, si n⟩, ?_, fun f hf => ?_⟩
    · rw [h3, toldF, if_pos (List.all_eq_true.2 hfit)]
    · obtain ⟨n, hn, rfl⟩ := List.mem_map.1 hf
      have c1 : chkT (si n) = true := (chk_iff _).2 ⟨h1.wh (hno n hn), hfit n hn⟩
      have c2 : chkT (holeT n) = true := (chk_iff _).2 ⟨Wh.hole (hno n hn), by simp [fitT, holeT, tcnt, tcnt.cntL, tdep, tdep.tdepL]⟩
      refine ⟨c1, c2, ?_⟩
      simp only
      rw [apply_sub c1 hL, apply_sub c2 hL, sub_hole]
      exact (h1.inst he n).symm
theorem fa_map (si : Int → Ty) (K : List Int) (n : Int) : fa? (K.map fun n => ⟨n, si n⟩) n = if n ∈ K then some (si n) else none := by
  induction K with
  | nil => simp [fa?]
  | cons a r ih =>
    simp only [List.map_cons, fa?, ih]
    by_cases e : a = n
    · subst e; simp
    · have : ¬ n = a := fun h => e h.symm
      simp [e, this]
/-- With what is told in them both types are the same; no hole of which there is a fact is left; facts are of holes of both, rising. -/
theorem Ans.one {a b : Ty} (ha : chkT a = true) (hb : chkT b = true) {F : List Fa} (h : Ans a b (some F)) : applyT F a = applyT F b ∧ (∀ f ∈ F, chkT f.ty = true ∧ f.n ∉ allT (applyT F a) ∧ (f.n ∈ allT a ∨ f.n ∈ allT b)) ∧ F.Pairwise (fun f g => f.n < g.n) := by
  rcases h.sem with ⟨h1, _⟩ | ⟨si, K, h1, hK, h3⟩
  · cases h1
  · have hno : ∀ n ∈ K, 0 ≤ n := fun n hn => by
      rcases List.mem_append.1 (hK n hn) with q | q
      · exact wh_nonneg a (chk_wh ha) n q
      · exact wh_nonneg b (chk_wh hb) n q
    unfold toldF at h3
    split at h3
    · rename_i hfit
      obtain rfl := Option.some.inj h3
      have hfit' := List.all_eq_true.1 hfit
      have hgood : (K.map fun n => (⟨n, si n⟩ : Fa)).all goodF = true := List.all_eq_true.2 fun f hf => by
        obtain ⟨n, hn, rfl⟩ := List.mem_map.1 hf
        simp only [goodF, Bool.and_eq_true, decide_eq_true_eq]
        exact ⟨(chk_iff _).2 ⟨h1.wh (hno n hn), hfit' n hn⟩, hno n hn⟩
      have hth : thF (K.map fun n => ⟨n, si n⟩) = si := by
        funext n
        unfold thF
        rw [fa_map]
        by_cases hn : n ∈ K
        · rw [if_pos hn]; rfl
        · rw [if_neg hn]
          have := (not_congr (h1.dom n)).1 hn
          exact (Classical.not_not.1 this).symm
      rw [apply_sub ha hgood, apply_sub hb hgood, hth]
      refine ⟨h1.holds, fun f hf => ?_, ?_⟩
      · obtain ⟨n, hn, rfl⟩ := List.mem_map.1 hf
        refine ⟨(chk_iff _).2 ⟨h1.wh (hno n hn), hfit' n hn⟩, fun hm => ?_, List.mem_append.1 (hK n hn)⟩
        rw [allT_sub] at hm
        obtain ⟨j, _, hm⟩ := List.mem_flatMap.1 hm
        exact h1.left j n hm hn
      · rw [List.pairwise_map]
        exact h1.rising
    · cases h3
end Go.Proofs.YticjpeefhppjoaaDoor
