/- What unifying two types answers, in plain words. -/
import Derived.Test.YticjpeefhppjoaaDoorTyTk
namespace Go.Proofs.YticjpeefhppjoaaDoor
open Go.RowKit

/-- How deep a type is. -/
def tdep : Ty → Nat
  | .mk _ _ l => 1 + tdepL l
where tdepL : List Ty → Nat
  | [] => 0
  | e :: r => max (tdep e) (tdepL r)
theorem depL_le {l : List Ty} {d : Nat} : tdep.tdepL l ≤ d ↔ ∀ e ∈ l, tdep e ≤ d := by
  induction l with
  | nil => simp [tdep.tdepL]
  | cons a r ih =>
    simp only [tdep.tdepL]
    constructor
    · intro h e he
      rcases List.mem_cons.1 he with rfl | he
      · omega
      · exact ih.1 (by omega) e he
    · intro h
      have h1 := h a (by simp)
      have h2 := ih.2 fun e he => h e (by simp [he])
      omega
def fitT (t : Ty) : Bool := decide (tdep t ≤ 60) && decide (tcnt t ≤ 2000)

theorem fullL_spec {L : List Fa} {si : Int → Ty} {d : Nat}
    (hd : ∀ (t : Ty) (left : Int), Wf t → 0 ≤ left → ∃ out, fullP L d t left = some out ∧ (0 ≤ out.2 ↔ tdep (sub si t) ≤ d ∧ (tcnt (sub si t) : Int) ≤ left) ∧ (0 ≤ out.2 → out.1 = sub si t ∧ out.2 = left - tcnt (sub si t))) :
    ∀ (l : List Ty) (left : Int) (acc : List Ty), (∀ e ∈ l, Wf e) → -1 ≤ left → ∃ out, fullL (fullP L d) l left acc = some out ∧ (0 ≤ out.2 ↔ 0 ≤ left ∧ (∀ e ∈ l, tdep (sub si e) ≤ d) ∧ (tcnt.cntL (l.map (sub si)) : Int) ≤ left) ∧ (0 ≤ out.2 → out.1 = acc ++ l.map (sub si) ∧ out.2 = left - tcnt.cntL (l.map (sub si))) := by
  intro l
  induction l with
  | nil =>
    intro left acc _ hl
    refine ⟨(acc, left), by simp [fullL], ?_, fun h => ?_⟩
    · simp [tcnt.cntL]
    · simp [tcnt.cntL]
  | cons a r ih =>
    intro left acc hw hl
    by_cases h0 : left < 0
    · refine ⟨(acc, left), by simp only [fullL]; rw [if_pos h0], ?_, fun h => ?_⟩
      · constructor
        · intro h; simp only at h; omega
        · intro h; omega
      · simp only at h; omega
    · obtain ⟨p, hp, hi, hv⟩ := hd a left (hw a (by simp)) (by omega)
      have hle := fullP_le L d a left p hp (by omega)
      obtain ⟨out, ho, hoi, hov⟩ := ih p.2 (acc ++ [p.1]) (fun e he => hw e (by simp [he])) hle.1
      refine ⟨out, by simp only [fullL]; rw [if_neg h0, hp]; exact ho, ?_, fun h => ?_⟩
      · rw [hoi]
        simp only [List.map_cons, tcnt.cntL]
        constructor
        · rintro ⟨h1, h2, h3⟩
          obtain ⟨e1, e2⟩ := hv h1
          have h4 := hi.1 h1
          refine ⟨by omega, fun e he => ?_, by omega⟩
          rcases List.mem_cons.1 he with rfl | he
          · exact h4.1
          · exact h2 e he
        · rintro ⟨h1, h2, h3⟩
          have h4 := hi.2 ⟨h2 a (by simp), by omega⟩
          obtain ⟨e1, e2⟩ := hv h4
          exact ⟨h4, fun e he => h2 e (by simp [he]), by omega⟩
      · obtain ⟨q1, q2⟩ := hov h
        have h1 := (hoi.1 h).1
        obtain ⟨e1, e2⟩ := hv h1
        simp only [List.map_cons, tcnt.cntL]
        refine ⟨by rw [q1, e1]; simp, by omega⟩
/-- A type with all facts in it: if it is not too great. -/
theorem full_spec {L : List Fa} {rho : Int → Nat} {si : Int → Ty} (ha : Ac L rho) (hs : Sol L si) (hw : FWf L) : ∀ (d : Nat) (t : Ty) (left : Int), Wf t → 0 ≤ left → ∃ out, fullP L d t left = some out ∧ (0 ≤ out.2 ↔ tdep (sub si t) ≤ d ∧ (tcnt (sub si t) : Int) ≤ left) ∧ (0 ≤ out.2 → out.1 = sub si t ∧ out.2 = left - tcnt (sub si t)) := by
  have dpos : ∀ t : Ty, 1 ≤ tdep t := fun t => by cases t; simp only [tdep]; omega
  intro d
  induction d with
  | zero =>
    intro t left hwt h0
    obtain ⟨x, hx⟩ := walk_total ha (L.length + 1) t (by have := wayN_le L rho t; omega)
    refine ⟨_, by rw [fullP, hx], ?_, fun h => ?_⟩
    · constructor
      · intro h; simp only at h; omega
      · intro h; have := dpos (sub si t); omega
    · simp only at h; omega
  | succ d ih =>
    intro t left hwt h0
    obtain ⟨x, hx⟩ := walk_total ha (L.length + 1) t (by have := wayN_le L rho t; omega)
    have wx := walkT_wf hw _ _ _ hx hwt
    rw [walkT_sat hs.sat _ _ _ hx]
    obtain ⟨out, ho, hi, hv⟩ := fullL_spec (L := L) (si := si) (d := d) ih x.args (left - 1) [] (args_wf wx) (by omega)
    refine ⟨_, by rw [fullP, hx]; simp only; rw [ho], ?_⟩
    simp only
    cases hh : holeS x.name with
    | true =>
      have e1 := sub_of_hole (th := si) hh
      have e2 := hs.none (walkT_none _ _ _ hx hh)
      have e3 : x.args = [] := by obtain ⟨s, n, l⟩ := x; exact wx.open.1 hh
      rw [e1, e2]
      rw [e3] at hi hv
      have c1 : tcnt (holeT x.n) = 1 := by simp [holeT, tcnt, tcnt.cntL]
      have c2 : tdep (holeT x.n) = 1 := by simp [holeT, tdep, tdep.tdepL]
      rw [c1, c2]
      simp only [List.map_nil, tcnt.cntL, List.not_mem_nil] at hi hv
      refine ⟨?_, fun h => ?_⟩
      · rw [hi]
        constructor
        · intro h; exact ⟨by omega, by omega⟩
        · intro h; exact ⟨by omega, fun _ h => h.elim, by omega⟩
      · obtain ⟨q1, q2⟩ := hv h
        refine ⟨?_, by omega⟩
        rw [q1, holeS_eq (s := x.name) hh]
        rfl
    | false =>
      have e1 := sub_of_not (th := si) hh
      rw [e1]
      simp only [tdep, tcnt]
      refine ⟨?_, fun h => ?_⟩
      · rw [hi]
        constructor
        · rintro ⟨h1, h2, h3⟩
          have := depL_le.2 (fun e (he : e ∈ x.args.map (sub si)) => by obtain ⟨a, ha, rfl⟩ := List.mem_map.1 he; exact h2 a ha)
          exact ⟨by omega, by omega⟩
        · rintro ⟨h1, h2⟩
          have := depL_le.1 (show tdep.tdepL (x.args.map (sub si)) ≤ d by omega)
          exact ⟨by omega, fun e he => this _ (List.mem_map.2 ⟨e, he, rfl⟩), by omega⟩
      · obtain ⟨q1, q2⟩ := hv h
        exact ⟨by rw [q1]; rfl, by omega⟩

theorem outA_spec {L : List Fa} {rho : Int → Nat} {si : Int → Ty} (ha : Ac L rho) (hs : Sol L si) (hw : FWf L) : ∀ (K : List Int) (acc : List Fa), (∀ n ∈ K, 0 ≤ n) → outA L K acc = some (if (K.all fun n => fitT (si n)) = true then some (acc ++ K.map fun n => ⟨n, si n⟩) else none) := by
  intro K
  induction K with
  | nil => intro acc _; simp [outA]
  | cons n r ih =>
    intro acc h0
    obtain ⟨out, ho, hi, hv⟩ := full_spec ha hs hw 60 (holeT n) 2000 ⟨1, sndT_hole (h0 n (by simp)) (by omega)⟩ (by omega)
    rw [sub_hole] at hi hv
    simp only [outA, ho]
    obtain ⟨t, y⟩ := out
    simp only at hi hv ⊢
    have hfit : fitT (si n) = decide (0 ≤ y) := by
      unfold fitT
      by_cases h : 0 ≤ y
      · have := hi.1 h
        rw [decide_eq_true h, decide_eq_true this.1, decide_eq_true (by omega)]; rfl
      · rw [decide_eq_false h]
        by_cases h1 : tdep (si n) ≤ 60
        · rw [decide_eq_true h1, decide_eq_false (fun h2 => h (hi.2 ⟨h1, by omega⟩))]; rfl
        · rw [decide_eq_false h1]; rfl
    rw [List.all_cons, hfit]
    by_cases h : y < 0
    · rw [if_pos h, decide_eq_false (by omega)]
      simp
    · rw [if_neg h, decide_eq_true (by omega), Bool.true_and, ih _ fun m hm => h0 m (by simp [hm])]
      rw [(hv (by omega)).1]
      congr 1
      simp

theorem insert_rising : ∀ (K : List Int) (x : Int), K.Pairwise (· < ·) → x ∉ K → ∃ J : List Int, J.Pairwise (· < ·) ∧ ∀ y, y ∈ J ↔ y = x ∨ y ∈ K
  | [], x, _, _ => ⟨[x], by simp, by simp⟩
  | a :: r, x, h, hx => by
    obtain ⟨h1, h2⟩ := List.pairwise_cons.1 h
    by_cases hlt : x < a
    · refine ⟨x :: a :: r, List.pairwise_cons.2 ⟨fun y hy => ?_, h⟩, by simp⟩
      rcases List.mem_cons.1 hy with rfl | hy
      · exact hlt
      · have := h1 y hy; omega
    · obtain ⟨J, hJ, hm⟩ := insert_rising r x h2 (fun h => hx (by simp [h]))
      refine ⟨a :: J, List.pairwise_cons.2 ⟨fun y hy => ?_, hJ⟩, fun y => ?_⟩
      · rcases (hm y).1 hy with rfl | hy
        · have : y ≠ a := fun e => hx (by rw [e]; simp)
          omega
        · exact h1 y hy
      · simp only [List.mem_cons, hm]
        constructor
        · rintro (h | h | h) <;> simp [h]
        · rintro (h | h | h) <;> simp [h]
theorem rising_exists : ∀ l : List Int, ∃ K : List Int, K.Pairwise (· < ·) ∧ ∀ y, y ∈ K ↔ y ∈ l
  | [] => ⟨[], by simp, by simp⟩
  | a :: r => by
    obtain ⟨K, h1, h2⟩ := rising_exists r
    by_cases h : a ∈ K
    · refine ⟨K, h1, fun y => ?_⟩
      rw [List.mem_cons, h2]
      constructor
      · exact fun h => .inr h
      · rintro (rfl | h3)
        · exact (h2 _).1 h
        · exact h3
    · obtain ⟨J, h3, h4⟩ := insert_rising K a h1 h
      exact ⟨J, h3, fun y => by rw [h4, h2, List.mem_cons]⟩

/-- The least that makes E hold: what each hole is, the holes that are told of. -/
structure MguOf (E : (Int → Ty) → Prop) (si : Int → Ty) (K : List Int) : Prop where
  facts : ∃ L rho, Ac L rho ∧ Sol L si ∧ Jm L ∧ FWf L ∧ (∀ th, Sat L th ↔ E th) ∧ ∀ n, n ∈ K ↔ (fa? L n).isSome = true
  rising : K.Pairwise (· < ·)
theorem MguOf.dom {E : (Int → Ty) → Prop} {si : Int → Ty} {K : List Int} (h : MguOf E si K) (n : Int) : n ∈ K ↔ si n ≠ holeT n := by
  obtain ⟨L, rho, ha, hs, _, _, _, hk⟩ := h.facts
  rw [hk]
  constructor
  · intro h1 e
    have hh : holeS (si n).name = true := by rw [e]; exact holeS_nil
    have h2 := (sol_hole ha hs n hh).2
    rw [e, show (holeT n).n = n from rfl] at h2
    rw [h2] at h1
    cases h1
  · intro h1
    cases hf : fa? L n with
    | some t => rfl
    | none => exact absurd (hs.none hf) h1
theorem MguOf.unique {E F : (Int → Ty) → Prop} {si ti : Int → Ty} {K J : List Int} (h : MguOf E si K) (k : MguOf F ti J) (he : ∀ th, E th ↔ F th) : si = ti ∧ K = J := by
  have e : si = ti := by
    obtain ⟨L, rho, ha, hs, hj, _, hE, _⟩ := h.facts
    obtain ⟨M, tau, hb, ht, hk, _, hF, _⟩ := k.facts
    exact sol_unique ha hs hj hb ht hk fun th => (hE th).trans ((he th).trans (hF th).symm)
  subst e
  exact ⟨rfl, rising_unique _ _ h.rising k.rising fun n => by rw [h.dom, k.dom]⟩
/-- What is told where two types can be made one. -/
def toldF (si : Int → Ty) (K : List Int) : Option (List Fa) := if (K.all fun n => fitT (si n)) = true then some (K.map fun n => ⟨n, si n⟩) else none

theorem chk_wf {e : Ty} (h : chkT e = true) : Wf e := ⟨60, chk_snd h⟩
/-- What unifying two types that may be answers. -/
theorem uni_sem {a b : Ty} (ha : chkT a = true) (hb : chkT b = true) (h64 : ∀ m ∈ allT a ++ allT b, In64 m) : ∃ fuel r, UniP fuel a b r ∧ ((r = none ∧ ∀ th, sub th a ≠ sub th b) ∨ ∃ si K, MguOf (fun th => sub th a = sub th b) si K ∧ (∀ n ∈ K, n ∈ allT a ++ allT b) ∧ r = toldF si K) := by
  have hno : ∀ m ∈ allT a ++ allT b, 0 ≤ m := fun m hm => by
    rcases List.mem_append.1 hm with h | h
    · exact all_nonneg a 60 (chk_snd ha) m h
    · exact all_nonneg b 60 (chk_snd hb) m h
  have hin : InU (allT a ++ allT b) [] := ⟨by simp, by simp, fun n t h => by simp [fa?] at h⟩
  have hac : Ac [] (fun _ => 0) := fun n t h => by simp [fa?] at h
  have hsol : Sol [] holeT := fun n => rfl
  have hfw : FWf [] := fun n t h => by simp [fa?] at h
  have ia : ∀ m ∈ allT a, m ∈ allT a ++ allT b := fun m h => List.mem_append.2 (.inl h)
  have ib : ∀ m ∈ allT b, m ∈ allT a ++ allT b := fun m h => List.mem_append.2 (.inr h)
  obtain ⟨k, ⟨L, c⟩, ho⟩ := one_total (U := allT a ++ allT b) (allT a ++ allT b).length (tcnt (sub holeT a)) [] a b (fun _ => 0) holeT (by simp) (Nat.le_refl _) (chk_wf ha) (chk_wf hb) hfw hac hsol hin ia ib
  obtain ⟨hok, _, _⟩ := one_spec k [] a b _ _ ho (chk_wf ha) (chk_wf hb) hfw hac
  have hi := one_in k [] a b _ ho hin ia ib
  have hlen : L.length ≤ 1000000 := by
    have h1 := hi.len
    have h2 := allT_len a
    have h3 := allT_len b
    have h4 := chk_cnt ha
    have h5 := chk_cnt hb
    simp only [List.length_append] at h1
    omega
  cases c with
  | false =>
    refine ⟨k, none, .inr ⟨by rw [ha, hb]; rfl, .inl ⟨⟨L, ho, hlen⟩, rfl⟩⟩, .inl ⟨rfl, fun th => hok.no rfl th fun n t h => by simp [fa?] at h⟩⟩
  | true =>
    obtain ⟨rho, hacL⟩ := hok.ac rfl
    obtain ⟨si, hsi⟩ := sol_exists hacL
    obtain ⟨K, hK1, hK2⟩ := rising_exists (L.map (·.n))
    have hkey : ∀ n, n ∈ K ↔ (fa? L n).isSome = true := by
      intro n
      rw [hK2]
      constructor
      · intro h
        cases hf : fa? L n with
        | some t => rfl
        | none => exact absurd h (fa_none_key hf)
      · exact fa_dom
    have hKU : ∀ n ∈ K, n ∈ allT a ++ allT b := fun n hn => by
      obtain ⟨f, hf, rfl⟩ := List.mem_map.1 ((hK2 n).1 hn)
      exact hi.key f hf
    have hout := outA_spec hacL hsi (hok.wf rfl) K [] fun n hn => hno n (hKU n hn)
    refine ⟨k, toldF si K, .inr ⟨by rw [ha, hb]; rfl, .inr ⟨L, K, ho, hlen, hK1, fun n hn => h64 n (hKU n hn), fun n _ => hkey n, by rw [hout]; simp [toldF]⟩⟩, .inr ⟨si, K, ⟨⟨L, rho, hacL, hsi, hok.jm rfl (fun n t h => by simp [fa?] at h), hok.wf rfl, fun th => ?_, hkey⟩, hK1⟩, hKU, rfl⟩⟩
    have := hok.sat rfl th
    simp only at this
    rw [this]
    exact ⟨fun h => h.2, fun h => ⟨fun n t h => by simp [fa?] at h, h⟩⟩
end Go.Proofs.YticjpeefhppjoaaDoor
