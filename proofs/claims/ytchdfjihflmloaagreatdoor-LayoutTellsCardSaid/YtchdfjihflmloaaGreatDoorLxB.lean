/- Tokens of texts, one behind the other, in plain words. -/
import Derived.Test.YtchdfjihflmloaaGreatDoorLxA
namespace Go.Proofs.YtchdfjihflmloaaGreatDoor

/-! ### A line's end stops a token -/
theorem head_append {p : UInt8 → Bool} {x b : Bs} (hx : x ≠ []) : headB p (x ++ b) = headB p x := by
  cases x with
  | nil => exact absurd rfl hx
  | cons a r => rfl
/-- What a text may go on with, so that a token ends. -/
def stopB (b : Bs) : Prop := b = [] ∨ b.head? = some 10 ∨ b.head? = some 32
theorem stop_head {b : Bs} (h : stopB b) : ∀ c, b.head? = some c → dgB c = false ∧ ptB c = false := by
  intro c hc
  rcases h with rfl | h | h
  · cases hc
  · rw [h] at hc; cases hc; exact ⟨by decide, by decide⟩
  · rw [h] at hc; cases hc; exact ⟨by decide, by decide⟩
theorem takeWhile_stop {p : UInt8 → Bool} {x b : Bs} (h : ∀ c, b.head? = some c → p c = false) : (x ++ b).takeWhile p = x.takeWhile p := by
  induction x with
  | nil =>
    cases b with
    | nil => rfl
    | cons c r => simp [h c rfl]
  | cons a r ih =>
    simp only [List.cons_append, List.takeWhile_cons, ih]
theorem prefix_stop {s x b : Bs} (hs : s ∈ signsL) (hx : x ≠ []) (hb : stopB b) : s.isPrefixOf (x ++ b) = s.isPrefixOf x := by
  have h2 : ∀ c, b.head? = some c → c ≠ 45 ∧ c ≠ 61 ∧ c ≠ 62 := by
    intro c hc
    rcases hb with rfl | h | h
    · cases hc
    · rw [h] at hc; cases hc; exact ⟨by decide, by decide, by decide⟩
    · rw [h] at hc; cases hc; exact ⟨by decide, by decide, by decide⟩
  cases x with
  | nil => exact absurd rfl hx
  | cons a r =>
    cases r with
    | cons c q =>
      simp only [signsL, List.mem_cons, List.not_mem_nil, or_false] at hs
      rcases hs with rfl | rfl | rfl | rfl | rfl | rfl | rfl | rfl | rfl | rfl | rfl | rfl | rfl | rfl | rfl | rfl <;> simp [List.isPrefixOf]
    | nil =>
      cases b with
      | nil => rfl
      | cons c q =>
        have h3 := h2 c rfl
        simp only [signsL, List.mem_cons, List.not_mem_nil, or_false] at hs
        rcases hs with rfl | rfl | rfl | rfl | rfl | rfl | rfl | rfl | rfl | rfl | rfl | rfl | rfl | rfl | rfl | rfl <;> simp [List.isPrefixOf] <;> (first | (intro _ e; exact absurd e.symm h3.1) | (intro _ e; exact absurd e.symm h3.2.1) | (intro _ e; exact absurd e.symm h3.2.2) | skip)
theorem find_congr {α : Type} {p q : α → Bool} : ∀ {l : List α}, (∀ x ∈ l, p x = q x) → l.find? p = l.find? q
  | [], _ => rfl
  | a :: r, h => by
    rw [List.find?_cons, List.find?_cons, h a (by simp), find_congr fun x hx => h x (by simp [hx])]
theorem tokF_stop {x b : Bs} (hx : x ≠ []) (hb : stopB b) : tokF (x ++ b) = tokF x := by
  unfold tokF
  rw [head_append hx, head_append hx, takeWhile_stop fun c hc => (stop_head hb c hc).1, takeWhile_stop fun c hc => (stop_head hb c hc).2, find_congr fun s hs => prefix_stop hs hx hb]
theorem takeWhile_prefix (p : UInt8 → Bool) (l : Bs) : l.takeWhile p <+: l := List.takeWhile_prefix p
/-- A token is what its text begins with. -/
theorem tokF_prefix {l : Bs} {k : Int} {t : Bs} {n : Nat} (h : tokF l = some (k, t, n)) : t <+: l := by
  unfold tokF at h
  split at h
  · split at h
    · simp only [Option.some.injEq, Prod.mk.injEq] at h
      rw [← h.2.1]; exact List.takeWhile_prefix _
    · cases h
  · split at h
    · cases hk : wordK (l.takeWhile ptB) with
      | none => rw [hk] at h; cases h
      | some q =>
        rw [hk] at h
        simp only [Option.map_some, Option.some.injEq, Prod.mk.injEq] at h
        rw [← h.2.1]; exact List.takeWhile_prefix _
    · cases hf : signsL.find? fun s => s.isPrefixOf l with
      | none => rw [hf] at h; cases h
      | some s =>
        rw [hf] at h
        simp only [Option.map_some, Option.some.injEq, Prod.mk.injEq] at h
        rw [← h.2.1]
        have := List.find?_some hf
        exact List.isPrefixOf_iff_prefix.1 this
theorem headB_prefix {p : UInt8 → Bool} {t l : Bs} (ht : t ≠ []) (h : t <+: l) : headB p t = headB p l := by
  obtain ⟨r, rfl⟩ := h
  rw [head_append ht]
theorem takeWhile_self (p : UInt8 → Bool) (l : Bs) : (l.takeWhile p).takeWhile p = l.takeWhile p := by
  induction l with
  | nil => rfl
  | cons a r ih =>
    simp only [List.takeWhile_cons]
    split
    · simp only [List.takeWhile_cons]
      rw [if_pos ‹_›, ih]
    · rfl
/-- The longest sign stays the longest one, alone. -/
theorem sign_self {l s : Bs} (h : signsL.find? (fun s => s.isPrefixOf l) = some s) : signsL.find? (fun u => u.isPrefixOf s) = some s := by
  have hs := List.mem_of_find?_eq_some h
  simp only [signsL, List.mem_cons, List.not_mem_nil, or_false] at hs
  rcases hs with rfl | rfl | rfl | rfl | rfl | rfl | rfl | rfl | rfl | rfl | rfl | rfl | rfl | rfl | rfl | rfl <;> rfl
/-- A token, alone, is that token. -/
theorem tokF_self {l : Bs} {k : Int} {t : Bs} {n : Nat} (h : tokF l = some (k, t, n)) : tokF t = some (k, t, n) := by
  have hp := tokF_prefix h
  have hn := tokF_ne h
  unfold tokF at h ⊢
  rw [headB_prefix hn hp, headB_prefix hn hp]
  split at h
  · rw [if_pos ‹_›]
    split at h
    · simp only [Option.some.injEq, Prod.mk.injEq] at h
      obtain ⟨rfl, rfl, rfl⟩ := h
      rw [takeWhile_self, if_pos ‹_›]
    · cases h
  · rw [if_neg ‹_›]
    split at h
    · rw [if_pos ‹_›]
      cases hk : wordK (l.takeWhile ptB) with
      | none => rw [hk] at h; cases h
      | some q =>
        rw [hk] at h
        simp only [Option.map_some, Option.some.injEq, Prod.mk.injEq] at h
        obtain ⟨rfl, rfl, rfl⟩ := h
        rw [takeWhile_self, hk]; rfl
    · rw [if_neg ‹_›]
      cases hf : signsL.find? fun s => s.isPrefixOf l with
      | none => rw [hf] at h; cases h
      | some s =>
        rw [hf] at h
        simp only [Option.map_some, Option.some.injEq, Prod.mk.injEq] at h
        obtain ⟨rfl, rfl, rfl⟩ := h
        rw [sign_self hf]; rfl
/-- No comment begins in a token. -/
theorem tokAt_tok {l : Bs} {k : Int} {t : Bs} {n : Nat} (hl : tokAt l) (h : tokF l = some (k, t, n)) {b : Bs} (hb : stopB b) : tokAt (t ++ b) := by
  have hp := tokF_prefix h
  have hn := tokF_ne h
  obtain ⟨h0, h1, h2, h3⟩ := hl
  obtain ⟨r, rfl⟩ := hp
  cases t with
  | nil => exact absurd rfl hn
  | cons a q =>
    refine ⟨by simp, by simpa using h1, by simpa using h2, ?_⟩
    cases q with
    | cons c u => unfold comB at h3 ⊢; simpa using h3
    | nil =>
      cases b with
      | nil => unfold comB; simp
      | cons c u =>
        have : c ≠ 45 := by
          rcases hb with h | h | h
          · cases h
          · simp at h; subst h; decide
          · simp at h; subst h; decide
        unfold comB
        simp [this]

/-! ### Moved down -/
def Tk.down (d : Int) (t : Tk) : Tk := { t with line := t.line + d }
def Res.down (d : Int) : Res → Res
  | .ok l => .ok (l.map (Tk.down d))
  | .bad a b => .bad (a + d) b
theorem down_pre (d : Int) (t : Tk) (r : Res) : (Res.pre [t] r).down d = Res.pre [t.down d] (r.down d) := by
  cases r <;> rfl
/-- The three ways at a place. -/
theorem at_cases (l : Bs) : l = [] ∨ (∃ r, l = 10 :: r) ∨ (∃ r, l = 32 :: r) ∨ comB l = true ∨ tokAt l := by
  cases l with
  | nil => exact .inl rfl
  | cons b r =>
    by_cases h1 : b = 10
    · exact .inr (.inl ⟨r, by rw [h1]⟩)
    · by_cases h2 : b = 32
      · exact .inr (.inr (.inl ⟨r, by rw [h2]⟩))
      · cases h3 : comB (b :: r) with
        | true => exact .inr (.inr (.inr (.inl rfl)))
        | false => exact .inr (.inr (.inr (.inr ⟨by simp, by simpa using h1, by simpa using h2, h3⟩)))
theorem com_lt {l : Bs} (h : comB l = true) : (l.dropWhile (· != 10)).length < l.length := by
  cases l with
  | nil => simp [comB] at h
  | cons b r =>
    have h2 := (comB_cons b r).1 h
    rw [List.dropWhile_cons, if_pos (by rw [h2.1]; decide)]
    have := dropWhile_le (· != 10) r
    simp only [List.length_cons]; omega
theorem tok_lt {l : Bs} {k : Int} {t : Bs} {n : Nat} (hl : tokAt l) (h : tokF l = some (k, t, n)) : (l.drop t.length).length < l.length := drop_lt hl.1 (tokF_ne h)
theorem lexF_down (d : Int) : ∀ (m : Nat) (l : Bs) (line col : Int) (cnt : Nat), l.length ≤ m → lexF (line + d) col cnt l = (lexF line col cnt l).down d := by
  intro m
  induction m with
  | zero =>
    intro l line col cnt h
    have : l = [] := List.length_eq_zero_iff.1 (by omega)
    subst this
    rw [lexF_nil, lexF_nil]; rfl
  | succ m ih =>
    intro l line col cnt h
    rcases at_cases l with rfl | ⟨r, rfl⟩ | ⟨r, rfl⟩ | hc | ht
    · rw [lexF_nil, lexF_nil]; rfl
    · rw [lexF_nl, lexF_nl, show line + d + 1 = line + 1 + d by omega]
      exact ih r _ _ _ (by simp at h; omega)
    · rw [lexF_sp, lexF_sp]
      exact ih r _ _ _ (by simp at h; omega)
    · rw [lexF_com _ _ _ hc, lexF_com _ _ _ hc]
      exact ih _ _ _ _ (by have := com_lt hc; omega)
    · rw [lexF_tok _ _ _ ht, lexF_tok _ _ _ ht]
      cases hf : tokF l with
      | none => rfl
      | some p =>
        obtain ⟨k, t, n⟩ := p
        simp only
        split
        · rfl
        · rw [ih _ line _ _ (by have := tok_lt ht hf; omega), down_pre]
          rfl

/-! ### One text behind another one -/
theorem pre_pre (a b : List Tk) (r : Res) : Res.pre a (Res.pre b r) = Res.pre (a ++ b) r := by
  cases r <;> simp [Res.pre]
def nls (l : Bs) : Nat := l.count 10
theorem takeWhile_no {l : Bs} {p : UInt8 → Bool} (h : p 10 = false) : (10 : UInt8) ∉ l.takeWhile p := by
  induction l with
  | nil => simp
  | cons b r ih =>
    rw [List.takeWhile_cons]
    split
    · intro hm
      rcases List.mem_cons.1 hm with e | hm
      · subst e; rename_i h2; rw [h] at h2; cases h2
      · exact ih hm
    · simp
theorem tokF_no {l : Bs} {k : Int} {t : Bs} {n : Nat} (h : tokF l = some (k, t, n)) : (10 : UInt8) ∉ t := by
  unfold tokF at h
  split at h
  · split at h
    · simp only [Option.some.injEq, Prod.mk.injEq] at h
      rw [← h.2.1]; exact takeWhile_no (by decide)
    · cases h
  · split at h
    · cases hk : wordK (l.takeWhile ptB) with
      | none => rw [hk] at h; cases h
      | some q =>
        rw [hk] at h
        simp only [Option.map_some, Option.some.injEq, Prod.mk.injEq] at h
        rw [← h.2.1]; exact takeWhile_no (by decide)
    · cases hf : signsL.find? fun s => s.isPrefixOf l with
      | none => rw [hf] at h; cases h
      | some s =>
        rw [hf] at h
        simp only [Option.map_some, Option.some.injEq, Prod.mk.injEq] at h
        rw [← h.2.1]
        exact (by decide : ∀ s ∈ signsL, (10 : UInt8) ∉ s) s (List.mem_of_find?_eq_some hf)
theorem nls_drop {l t : Bs} (h : t <+: l) (hn : (10 : UInt8) ∉ t) : nls (l.drop t.length) = nls l := by
  obtain ⟨r, rfl⟩ := h
  unfold nls
  rw [List.drop_left, List.count_append, List.count_eq_zero.2 hn, Nat.zero_add]
theorem nls_com (l : Bs) : nls (l.dropWhile (· != 10)) = nls l := by
  induction l with
  | nil => rfl
  | cons b r ih =>
    rw [List.dropWhile_cons]
    split
    · rw [ih]
      unfold nls
      rw [List.count_cons_of_ne (by rename_i h; simpa using h)]
    · rfl
theorem com_append {a b : Bs} (h : comB a = true) : comB (a ++ b) = true := by
  cases a with
  | nil => simp [comB] at h
  | cons x r =>
    cases r with
    | nil => simp [comB] at h
    | cons y q => unfold comB at h ⊢; simpa using h
theorem dropWhile_nl (a b : Bs) : (a ++ 10 :: b).dropWhile (· != 10) = a.dropWhile (· != 10) ++ 10 :: b := by
  induction a with
  | nil => simp
  | cons x r ih =>
    rw [List.cons_append, List.dropWhile_cons, List.dropWhile_cons]
    split
    · exact ih
    · rfl
theorem tokAt_append {a : Bs} (b : Bs) (h : tokAt a) : tokAt (a ++ 10 :: b) := by
  obtain ⟨h0, h1, h2, h3⟩ := h
  cases a with
  | nil => exact absurd rfl h0
  | cons x r =>
    refine ⟨by simp, by simpa using h1, by simpa using h2, ?_⟩
    cases r with
    | nil => unfold comB; simp
    | cons y q => unfold comB at h3 ⊢; simpa using h3
/-- What stands behind a line's end is told behind what stands ahead. -/
theorem lexF_join (b : Bs) : ∀ (m : Nat) (a : Bs) (line col : Int) (cnt : Nat), a.length ≤ m → lexF line col cnt (a ++ 10 :: b) = match lexF line col cnt a with
    | .bad x y => .bad x y
    | .ok ts => Res.pre ts (lexF (line + nls a + 1) 1 (cnt + ts.length) b) := by
  have empty : ∀ (line col : Int) (cnt : Nat), lexF line col cnt ([] ++ 10 :: b) = match lexF line col cnt [] with
    | .bad x y => .bad x y
    | .ok ts => Res.pre ts (lexF (line + nls [] + 1) 1 (cnt + ts.length) b) := by
    intro line col cnt
    rw [lexF_nil, List.nil_append, lexF_nl]
    simp only [nls, List.count_nil, List.length_nil, Nat.add_zero]
    rw [show line + ((0 : Nat) : Int) + 1 = line + 1 by omega]
    cases lexF (line + 1) 1 cnt b <;> rfl
  intro m
  induction m with
  | zero =>
    intro a line col cnt h
    have : a = [] := List.length_eq_zero_iff.1 (by omega)
    subst this
    exact empty line col cnt
  | succ m ih =>
    intro a line col cnt h
    rcases at_cases a with rfl | ⟨r, rfl⟩ | ⟨r, rfl⟩ | hc | ht
    · exact empty line col cnt
    · rw [List.cons_append, lexF_nl, lexF_nl, ih r _ _ _ (by simp at h; omega)]
      have : nls (10 :: r) = nls r + 1 := by unfold nls; simp
      rw [this, show line + 1 + (nls r : Int) + 1 = line + ((nls r + 1 : Nat) : Int) + 1 by omega]
    · rw [List.cons_append, lexF_sp, lexF_sp, ih r _ _ _ (by simp at h; omega)]
      have : nls (32 :: r) = nls r := by unfold nls; simp
      rw [this]
    · rw [lexF_com _ _ _ (com_append hc), lexF_com _ _ _ hc, dropWhile_nl, ih _ _ _ _ (by have := com_lt hc; omega), nls_com]
    · rw [lexF_tok _ _ _ (tokAt_append b ht), lexF_tok _ _ _ ht, tokF_stop ht.1 (.inr (.inl rfl))]
      cases hf : tokF a with
      | none => rfl
      | some p =>
        obtain ⟨k, t, n⟩ := p
        simp only
        split
        · rfl
        · have hp := tokF_prefix hf
          have hl : t.length ≤ a.length := hp.length_le
          rw [List.drop_append_of_le_length hl, ih _ _ _ _ (by have := tok_lt ht hf; omega), nls_drop hp (tokF_no hf)]
          cases lexF line (col + t.length) (cnt + 1) (a.drop t.length) with
          | bad x y => rfl
          | ok ts =>
            simp only [Res.pre, List.singleton_append]
            rw [show cnt + 1 + ts.length = cnt + (⟨k, t, (n : Int), line, col⟩ :: ts : List Tk).length by simp; omega]
            cases lexF (line + nls a + 1) 1 (cnt + (⟨k, t, (n : Int), line, col⟩ :: ts : List Tk).length) b <;> simp
end Go.Proofs.YtchdfjihflmloaaGreatDoor
