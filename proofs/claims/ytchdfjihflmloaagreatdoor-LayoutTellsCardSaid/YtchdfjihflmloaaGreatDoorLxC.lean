/- Tokens: how many, where they stand, and what their texts say, in plain words. -/
import Derived.Test.YtchdfjihflmloaaGreatDoorLxB
namespace Go.Proofs.YtchdfjihflmloaaGreatDoor

/-! ### How many -/
theorem lexF_len : ∀ (m : Nat) (l : Bs) (line col : Int) (cnt : Nat) (ms : List Tk), l.length ≤ m → cnt ≤ 2000 → lexF line col cnt l = .ok ms → cnt + ms.length ≤ 2000 := by
  intro m
  induction m with
  | zero =>
    intro l line col cnt ms h hc he
    have : l = [] := List.length_eq_zero_iff.1 (by omega)
    subst this
    rw [lexF_nil] at he; cases he; simpa using hc
  | succ m ih =>
    intro l line col cnt ms h hc he
    rcases at_cases l with rfl | ⟨r, rfl⟩ | ⟨r, rfl⟩ | hcm | ht
    · rw [lexF_nil] at he; cases he; simpa using hc
    · rw [lexF_nl] at he; exact ih r _ _ _ _ (by simp at h; omega) hc he
    · rw [lexF_sp] at he; exact ih r _ _ _ _ (by simp at h; omega) hc he
    · rw [lexF_com _ _ _ hcm] at he; exact ih _ _ _ _ _ (by have := com_lt hcm; omega) hc he
    · rw [lexF_tok _ _ _ ht] at he
      cases hf : tokF l with
      | none => rw [hf] at he; cases he
      | some p =>
        obtain ⟨k, t, n⟩ := p
        rw [hf] at he
        simp only at he
        split at he
        · cases he
        · cases hr : lexF line (col + t.length) (cnt + 1) (l.drop t.length) with
          | bad x y => rw [hr] at he; cases he
          | ok ts =>
            rw [hr] at he
            simp only [Res.pre, Res.ok.injEq] at he
            have := ih _ _ _ _ _ (by have := tok_lt ht hf; omega) (by omega) hr
            rw [← he]; simp; omega
/-- Behind other tokens the same ones are told, if they are not too many. -/
theorem lexF_cnt : ∀ (m : Nat) (l : Bs) (line col : Int) (c d : Nat), l.length ≤ m → c ≤ d → d ≤ 2000 →
    (∀ ms, lexF line col c l = .ok ms → (d + ms.length ≤ 2000 → lexF line col d l = .ok ms) ∧ (2000 < d + ms.length → ∃ x y, lexF line col d l = .bad x y)) ∧ (∀ x y, lexF line col c l = .bad x y → ∃ x y, lexF line col d l = .bad x y) := by
  intro m
  induction m with
  | zero =>
    intro l line col c d h hcd hd
    have : l = [] := List.length_eq_zero_iff.1 (by omega)
    subst this
    rw [lexF_nil, lexF_nil]
    refine ⟨fun ms he => ?_, fun x y he => by cases he⟩
    cases he
    exact ⟨fun _ => rfl, fun h => by simp at h; omega⟩
  | succ m ih =>
    intro l line col c d h hcd hd
    rcases at_cases l with rfl | ⟨r, rfl⟩ | ⟨r, rfl⟩ | hcm | ht
    · rw [lexF_nil, lexF_nil]
      refine ⟨fun ms he => ?_, fun x y he => by cases he⟩
      cases he
      exact ⟨fun _ => rfl, fun h => by simp at h; omega⟩
    · rw [lexF_nl, lexF_nl]; exact ih r _ _ _ _ (by simp at h; omega) hcd hd
    · rw [lexF_sp, lexF_sp]; exact ih r _ _ _ _ (by simp at h; omega) hcd hd
    · rw [lexF_com _ _ _ hcm, lexF_com _ _ _ hcm]; exact ih _ _ _ _ _ (by have := com_lt hcm; omega) hcd hd
    · rw [lexF_tok _ _ _ ht, lexF_tok _ _ _ ht]
      cases hf : tokF l with
      | none => exact ⟨fun ms he => (nomatch he), fun x y _ => ⟨_, _, rfl⟩⟩
      | some p =>
        obtain ⟨k, t, n⟩ := p
        simp only
        by_cases h1 : 2000 ≤ c
        · rw [if_pos h1, if_pos (by omega)]
          exact ⟨fun ms he => (nomatch he), fun x y _ => ⟨_, _, rfl⟩⟩
        · rw [if_neg h1]
          by_cases h2 : 2000 ≤ d
          · rw [if_pos h2]
            refine ⟨fun ms he => ?_, fun x y _ => ⟨_, _, rfl⟩⟩
            refine ⟨fun h3 => ?_, fun _ => ⟨_, _, rfl⟩⟩
            cases hr : lexF line (col + t.length) (c + 1) (l.drop t.length) with
            | bad x y => rw [hr] at he; cases he
            | ok ts =>
              rw [hr] at he
              simp only [Res.pre, Res.ok.injEq] at he
              rw [← he] at h3; simp at h3; omega
          · rw [if_neg h2]
            obtain ⟨i1, i2⟩ := ih (l.drop t.length) line (col + t.length) (c + 1) (d + 1) (by have := tok_lt ht hf; omega) (by omega) (by omega)
            constructor
            · intro ms he
              cases hr : lexF line (col + t.length) (c + 1) (l.drop t.length) with
              | bad x y => rw [hr] at he; cases he
              | ok ts =>
                rw [hr] at he
                simp only [Res.pre, Res.ok.injEq] at he
                obtain ⟨j1, j2⟩ := i1 ts hr
                rw [← he]
                constructor
                · intro h3
                  rw [j1 (by simp at h3; omega)]; rfl
                · intro h3
                  obtain ⟨x, y, hb⟩ := j2 (by simp at h3; omega)
                  rw [hb]; exact ⟨_, _, rfl⟩
            · intro x y he
              cases hr : lexF line (col + t.length) (c + 1) (l.drop t.length) with
              | ok ts => rw [hr] at he; cases he
              | bad x' y' =>
                obtain ⟨x, y, hb⟩ := i2 x' y' hr
                rw [hb]; exact ⟨_, _, rfl⟩

/-! ### What each token is -/
/-- A token that is one of itself. -/
def Gd (k : Int) (t : Bs) (n : Int) : Prop := ∃ m : Nat, tokF t = some (k, t, m) ∧ n = m ∧ tokAt t
theorem lexF_gd : ∀ (m : Nat) (l : Bs) (line col : Int) (cnt : Nat) (ms : List Tk), l.length ≤ m → lexF line col cnt l = .ok ms → ∀ t ∈ ms, Gd t.kind t.text t.num := by
  intro m
  induction m with
  | zero =>
    intro l line col cnt ms h he
    have : l = [] := List.length_eq_zero_iff.1 (by omega)
    subst this
    rw [lexF_nil] at he; cases he; intro t ht; cases ht
  | succ m ih =>
    intro l line col cnt ms h he
    rcases at_cases l with rfl | ⟨r, rfl⟩ | ⟨r, rfl⟩ | hcm | ht
    · rw [lexF_nil] at he; cases he; intro t ht; cases ht
    · rw [lexF_nl] at he; exact ih r _ _ _ _ (by simp at h; omega) he
    · rw [lexF_sp] at he; exact ih r _ _ _ _ (by simp at h; omega) he
    · rw [lexF_com _ _ _ hcm] at he; exact ih _ _ _ _ _ (by have := com_lt hcm; omega) he
    · rw [lexF_tok _ _ _ ht] at he
      cases hf : tokF l with
      | none => rw [hf] at he; cases he
      | some p =>
        obtain ⟨k, t, n⟩ := p
        rw [hf] at he
        simp only at he
        split at he
        · cases he
        · cases hr : lexF line (col + t.length) (cnt + 1) (l.drop t.length) with
          | bad x y => rw [hr] at he; cases he
          | ok ts =>
            rw [hr] at he
            simp only [Res.pre, Res.ok.injEq] at he
            rw [← he]
            intro u hu
            rcases List.mem_cons.1 hu with rfl | hu
            · refine ⟨n, tokF_self hf, rfl, ?_⟩
              have := tokAt_tok ht hf (b := []) (.inl rfl)
              rwa [List.append_nil] at this
            · exact ih _ _ _ _ _ (by have := tok_lt ht hf; omega) hr u hu
/-- Each token stands behind the one ahead. -/
def Chain : Int → Int → List Tk → Prop
  | _, _, [] => True
  | line, col, t :: r => (line < t.line ∨ line = t.line ∧ col ≤ t.col) ∧ Chain t.line (t.col + t.text.length) r
theorem Chain.weak {line col line' col' : Int} {ms : List Tk} (h : Chain line' col' ms) (hl : line < line' ∨ line = line' ∧ col ≤ col') : Chain line col ms := by
  cases ms with
  | nil => trivial
  | cons t r =>
    refine ⟨?_, h.2⟩
    have := h.1
    omega
theorem lexF_chain : ∀ (m : Nat) (l : Bs) (line col : Int) (cnt : Nat) (ms : List Tk), l.length ≤ m → lexF line col cnt l = .ok ms → Chain line col ms := by
  intro m
  induction m with
  | zero =>
    intro l line col cnt ms h he
    have : l = [] := List.length_eq_zero_iff.1 (by omega)
    subst this
    rw [lexF_nil] at he; cases he; trivial
  | succ m ih =>
    intro l line col cnt ms h he
    rcases at_cases l with rfl | ⟨r, rfl⟩ | ⟨r, rfl⟩ | hcm | ht
    · rw [lexF_nil] at he; cases he; trivial
    · rw [lexF_nl] at he; exact (ih r _ _ _ _ (by simp at h; omega) he).weak (by omega)
    · rw [lexF_sp] at he; exact (ih r _ _ _ _ (by simp at h; omega) he).weak (by omega)
    · rw [lexF_com _ _ _ hcm] at he; exact ih _ _ _ _ _ (by have := com_lt hcm; omega) he
    · rw [lexF_tok _ _ _ ht] at he
      cases hf : tokF l with
      | none => rw [hf] at he; cases he
      | some p =>
        obtain ⟨k, t, n⟩ := p
        rw [hf] at he
        simp only at he
        split at he
        · cases he
        · cases hr : lexF line (col + t.length) (cnt + 1) (l.drop t.length) with
          | bad x y => rw [hr] at he; cases he
          | ok ts =>
            rw [hr] at he
            simp only [Res.pre, Res.ok.injEq] at he
            rw [← he]
            exact ⟨.inr ⟨rfl, Int.le_refl _⟩, ih _ _ _ _ _ (by have := tok_lt ht hf; omega) hr⟩
theorem Chain.at {line col : Int} : ∀ {ms : List Tk}, Chain line col ms → ∀ i (h : i + 1 < ms.length), ms[i].line < ms[i + 1].line ∨ ms[i].line = ms[i + 1].line ∧ ms[i].col + ms[i].text.length ≤ ms[i + 1].col
  | [], _, i, h => by simp at h
  | [t], _, i, h => by simp at h
  | t :: u :: r, hc, 0, h => hc.2.1
  | t :: u :: r, hc, i + 1, h => Chain.at (ms := u :: r) hc.2 i (by simpa using h)

/-! ### Tokens with gaps between -/
def gapB (g : Bs) : Prop := ∀ b ∈ g, b = 10 ∨ b = 32
theorem lexF_gap (rest : Bs) (cnt : Nat) : ∀ (g : Bs) (line col : Int), gapB g → ∃ line' col', lexF line col cnt (g ++ rest) = lexF line' col' cnt rest ∧ ((10 : UInt8) ∉ g → line' = line)
  | [], line, col, _ => ⟨line, col, rfl, fun _ => rfl⟩
  | b :: g, line, col, h => by
    have hg : gapB g := fun c hc => h c (by simp [hc])
    rcases h b (by simp) with rfl | rfl
    · obtain ⟨l', c', e, _⟩ := lexF_gap rest cnt g (line + 1) 1 hg
      exact ⟨l', c', by rw [List.cons_append, lexF_nl]; exact e, fun hn => absurd (by simp) hn⟩
    · obtain ⟨l', c', e, h2⟩ := lexF_gap rest cnt g line (col + 1) hg
      exact ⟨l', c', by rw [List.cons_append, lexF_sp]; exact e, fun hn => h2 fun hm => hn (by simp [hm])⟩
theorem lexF_one {k : Int} {t : Bs} {n : Int} (h : Gd k t n) {rest : Bs} (hr : stopB rest) (line col : Int) {cnt : Nat} (hc : cnt < 2000) : lexF line col cnt (t ++ rest) = Res.pre [⟨k, t, n, line, col⟩] (lexF line (col + t.length) (cnt + 1) rest) := by
  obtain ⟨m, hf, rfl, ht⟩ := h
  rw [lexF_tok _ _ _ (tokAt_tok ht hf hr), tokF_stop ht.1 hr, hf]
  simp only
  rw [if_neg (by omega), List.drop_left]
/-- The same tokens, wherever they stand. -/
def sameT : List Tk → List Tk → Prop
  | [], [] => True
  | a :: r, b :: q => a.kind = b.kind ∧ a.text = b.text ∧ a.num = b.num ∧ sameT r q
  | _, _ => False
/-- A list of tokens, each with a gap behind. -/
def spacedL : List (Tk × Bs) → Bs
  | [] => []
  | p :: r => p.1.text ++ (p.2 ++ spacedL r)
/-- All gaps but the last one are gaps. -/
def gapsOk : List (Tk × Bs) → Prop
  | [] => True
  | p :: r => gapB p.2 ∧ (p.2 ≠ [] ∨ r = []) ∧ gapsOk r
theorem stop_gap {g : Bs} {p : List (Tk × Bs)} (hg : gapB g) (h : g ≠ [] ∨ p = []) : stopB (g ++ spacedL p) := by
  cases g with
  | nil =>
    rcases h with h | rfl
    · exact absurd rfl h
    · exact .inl rfl
  | cons b r =>
    rcases hg b (by simp) with rfl | rfl
    · exact .inr (.inl rfl)
    · exact .inr (.inr rfl)
theorem lexF_spaced : ∀ (ps : List (Tk × Bs)) (line col : Int) (cnt : Nat), (∀ p ∈ ps, Gd p.1.kind p.1.text p.1.num) → gapsOk ps → cnt + ps.length ≤ 2000 → ∃ ms, lexF line col cnt (spacedL ps) = .ok ms ∧ sameT ms (ps.map (·.1)) ∧ ((∀ p ∈ ps, (10 : UInt8) ∉ p.2) → ∀ t ∈ ms, t.line = line)
  | [], line, col, cnt, _, _, _ => ⟨[], lexF_nil _ _ _, trivial, fun _ t ht => by cases ht⟩
  | p :: r, line, col, cnt, hg, hk, hc => by
    obtain ⟨h1, h2, h3⟩ := hk
    have e := lexF_one (hg p (by simp)) (stop_gap h1 h2) line col (cnt := cnt) (by simp at hc; omega)
    obtain ⟨l', c', e2, hl⟩ := lexF_gap (spacedL r) (cnt + 1) p.2 line (col + p.1.text.length) h1
    obtain ⟨ms, e3, hs, hn⟩ := lexF_spaced r l' c' (cnt + 1) (fun q hq => hg q (by simp [hq])) h3 (by simp at hc; omega)
    refine ⟨⟨p.1.kind, p.1.text, p.1.num, line, col⟩ :: ms, ?_, ⟨rfl, rfl, rfl, hs⟩, fun hall t ht => ?_⟩
    · rw [spacedL, e, e2, e3]; rfl
    · rcases List.mem_cons.1 ht with rfl | ht
      · rfl
      · rw [hn (fun q hq => hall q (by simp [hq])) t ht]
        exact hl (hall p (by simp))
/-- Texts with a byte 32 between. -/
def joinL : List Bs → Bs
  | [] => []
  | [a] => a
  | a :: b :: r => a ++ 32 :: joinL (b :: r)
def gapsJ : List Tk → List (Tk × Bs)
  | [] => []
  | [t] => [(t, [])]
  | t :: u :: r => (t, [32]) :: gapsJ (u :: r)
theorem gapsJ_spec : ∀ (ts : List Tk), spacedL (gapsJ ts) = joinL (ts.map (·.text)) ∧ gapsOk (gapsJ ts) ∧ (gapsJ ts).map (·.1) = ts ∧ (gapsJ ts).length = ts.length ∧ ∀ p ∈ gapsJ ts, (10 : UInt8) ∉ p.2
  | [] => ⟨rfl, trivial, rfl, rfl, fun p hp => by cases hp⟩
  | [t] => ⟨by simp [gapsJ, spacedL, joinL], ⟨fun b hb => by simp at hb, .inr rfl, trivial⟩, rfl, rfl, fun p hp => by simp [gapsJ] at hp; subst hp; simp⟩
  | t :: u :: r => by
    obtain ⟨h1, h2, h3, h4, h5⟩ := gapsJ_spec (u :: r)
    refine ⟨?_, ⟨fun b hb => by simp at hb; exact .inr hb, .inl (by simp), h2⟩, ?_, ?_, ?_⟩
    · rw [gapsJ, spacedL, h1]; simp [joinL]
    · rw [gapsJ, List.map_cons, h3]
    · rw [gapsJ, List.length_cons, h4]; rfl
    · intro p hp
      rw [gapsJ] at hp
      rcases List.mem_cons.1 hp with rfl | hp
      · simp
      · exact h5 p hp
/-- A text of tokens has these, in one line. -/
theorem lexF_back {ts : List Tk} (hg : ∀ t ∈ ts, Gd t.kind t.text t.num) (hl : ts.length ≤ 2000) : ∃ ms, lexF 1 1 0 (joinL (ts.map (·.text))) = .ok ms ∧ sameT ms ts ∧ ∀ t ∈ ms, t.line = 1 := by
  obtain ⟨h1, h2, h3, h4, h5⟩ := gapsJ_spec ts
  obtain ⟨ms, e, hs, hn⟩ := lexF_spaced (gapsJ ts) 1 1 0 (fun p hp => by
    have : p.1 ∈ (gapsJ ts).map (·.1) := List.mem_map.2 ⟨p, hp, rfl⟩
    rw [h3] at this
    exact hg _ this) h2 (by rw [h4]; omega)
  rw [h1] at e
  rw [h3] at hs
  exact ⟨ms, e, hs, hn h5⟩
theorem sameT_at : ∀ {a b : List Tk}, sameT a b → a.length = b.length ∧ ∀ i (h : i < a.length) (h' : i < b.length), a[i].kind = b[i].kind ∧ a[i].text = b[i].text ∧ a[i].num = b[i].num
  | [], [], _ => ⟨rfl, fun i h => by simp at h⟩
  | [], _ :: _, h => h.elim
  | _ :: _, [], h => h.elim
  | x :: r, y :: q, h => by
    obtain ⟨h1, h2, h3, h4⟩ := h
    obtain ⟨i1, i2⟩ := sameT_at h4
    refine ⟨by simp [i1], fun i hi hi' => ?_⟩
    cases i with
    | zero => exact ⟨h1, h2, h3⟩
    | succ i => exact i2 i (by simpa using hi) (by simpa using hi')

/-! ### Gaps ahead and behind; two texts; one token -/
theorem lexF_nls (src : Bs) (cnt : Nat) : ∀ (n : Nat) (line : Int), lexF line 1 cnt (List.replicate n 10 ++ src) = lexF (line + n) 1 cnt src
  | 0, line => by simp
  | n + 1, line => by
    rw [List.replicate_succ, List.cons_append, lexF_nl, lexF_nls src cnt n]
    rw [show line + 1 + (n : Int) = line + ((n + 1 : Nat) : Int) by omega]
theorem lexF_gaps (src : Bs) (n : Nat) : lexF 1 1 0 (List.replicate n 10 ++ (src ++ [10, 32, 32, 45, 45, 63, 10, 32, 32])) = (lexF 1 1 0 src).down n := by
  rw [lexF_nls, lexF_join [32, 32, 45, 45, 63, 10, 32, 32] _ _ _ _ _ (Nat.le_refl _), lexF_down n _ _ _ _ _ (Nat.le_refl _)]
  have e : ∀ (line col : Int) (c : Nat), lexF line col c [32, 32, 45, 45, 63, 10, 32, 32] = .ok [] := by
    intro line col c
    rw [lexF_sp, lexF_sp, lexF_com _ _ _ (by decide)]
    rw [show ([45, 45, 63, 10, 32, 32] : Bs).dropWhile (· != 10) = [10, 32, 32] by decide, lexF_nl, lexF_sp, lexF_sp, lexF_nil]
  cases lexF 1 1 0 src with
  | bad x y => rfl
  | ok ts => simp only [Res.down, e, Res.pre, List.append_nil]
theorem lexF_alone {k : Int} {t : Bs} {n : Int} (h : Gd k t n) : lexF 1 1 0 t = .ok [⟨k, t, n, 1, 1⟩] := by
  have := lexF_one h (rest := []) (.inl rfl) 1 1 (cnt := 0) (by omega)
  rw [List.append_nil, lexF_nil] at this
  exact this
theorem tokAt_head {p : UInt8 → Bool} {t : Bs} (h : headB p t = true) (h1 : p 10 = false) (h2 : p 32 = false) (h3 : p 45 = false) : tokAt t := by
  cases t with
  | nil => simp [headB] at h
  | cons b r =>
    simp [headB] at h
    refine ⟨by simp, ?_, ?_, ?_⟩
    · simp; rintro rfl; rw [h1] at h; cases h
    · simp; rintro rfl; rw [h2] at h; cases h
    · cases hc : comB (b :: r) with
      | false => rfl
      | true =>
        have := ((comB_cons b r).1 hc).1
        subst this; rw [h3] at h; cases h
theorem takeWhile_all {p : UInt8 → Bool} {t : Bs} (h : t.all p = true) : t.takeWhile p = t := by
  induction t with
  | nil => rfl
  | cons b r ih =>
    simp only [List.all_cons, Bool.and_eq_true] at h
    rw [List.takeWhile_cons, if_pos h.1, ih h.2]
theorem gd_digits {d : Bs} (hne : d ≠ []) (h : d.all dgB = true) (hm : numL d ≤ maxI) : Gd 1 d (numL d) := by
  have hh : headB dgB d = true := by
    cases d with
    | nil => exact absurd rfl hne
    | cons b r => simp only [List.all_cons, Bool.and_eq_true] at h; simp [headB, h.1]
  refine ⟨numL d, ?_, rfl, tokAt_head hh (by decide) (by decide) (by decide)⟩
  unfold tokF
  rw [if_pos hh, takeWhile_all h, if_pos hm]
theorem head_of {p : UInt8 → Bool} {s : Bs} (h : headB p s = true) : ∃ b r, s = b :: r ∧ p b = true := by
  cases s with
  | nil => simp [headB] at h
  | cons b r => exact ⟨b, r, rfl, by simpa [headB] using h⟩
theorem sml_dig {b : UInt8} (h : smB b = true) : dgB b = false ∧ ptB b = true ∧ grB b = false := by
  unfold ptB; rw [h]
  unfold smB at h
  unfold dgB grB
  simp at h ⊢
  omega
theorem grt_dig {b : UInt8} (h : grB b = true) : dgB b = false ∧ ptB b = true ∧ smB b = false := by
  unfold ptB; rw [h]
  unfold grB at h
  unfold dgB smB
  simp at h ⊢
  omega
theorem words_sml : ∀ s ∈ wordsL, headB smB s = true := by decide
theorem con_word {s : Bs} (h : cnB s = true) : wdB s = false ∧ nmB s = false := by
  unfold cnB at h
  rw [Bool.and_eq_true] at h
  obtain ⟨b, r, rfl, hb⟩ := head_of h.2
  have hs : headB smB (b :: r) = false := by simp [headB, (grt_dig hb).2.2]
  constructor
  · cases hw : wdB (b :: r) with
    | false => rfl
    | true =>
      have := words_sml _ (List.contains_iff_mem.1 hw)
      rw [hs] at this; cases this
  · unfold nmB; rw [hs]; simp
theorem gd_word {s : Bs} {k : Int} (hp : ptsB s = true) (hd : headB dgB s = false) (hk : wordK s = some k) : Gd k s 0 := by
  unfold ptsB at hp
  rw [Bool.and_eq_true, Bool.and_eq_true] at hp
  obtain ⟨⟨h1, _⟩, h3⟩ := hp
  have hh : headB ptB s = true := by
    cases s with
    | nil => simp at h1
    | cons b r => simp only [List.all_cons, Bool.and_eq_true] at h3; simp [headB, h3.1]
  refine ⟨0, ?_, rfl, tokAt_head hh (by decide) (by decide) (by decide)⟩
  unfold tokF
  rw [if_neg (by rw [hd]; simp), if_pos hh, takeWhile_all h3, hk]; rfl
theorem gd_name {s : Bs} (h : nmB s = true) : Gd 2 s 0 := by
  have h' := h
  unfold nmB at h
  rw [Bool.and_eq_true, Bool.and_eq_true] at h
  obtain ⟨⟨h1, h2⟩, h3⟩ := h
  refine gd_word h1 ?_ ?_
  · obtain ⟨b, r, rfl, hb⟩ := head_of h2; simp [headB, (sml_dig hb).1]
  · unfold wordK; rw [if_neg (by simpa using h3), if_pos h']
theorem gd_con {s : Bs} (h : cnB s = true) : Gd 3 s 0 := by
  have hw := con_word h
  have h' := h
  unfold cnB at h
  rw [Bool.and_eq_true] at h
  refine gd_word h.1 ?_ ?_
  · obtain ⟨b, r, rfl, hb⟩ := head_of h.2; simp [headB, (grt_dig hb).1]
  · unfold wordK; rw [hw.1, hw.2, h']; simp
theorem signs_prt : ∀ s ∈ signsL, headB ptB s = false := by decide
/-- A text is one of the three at most. -/
theorem one_kind (s : Bs) : ¬ (keyB s = true ∧ nmB s = true) ∧ ¬ (keyB s = true ∧ cnB s = true) ∧ ¬ (nmB s = true ∧ cnB s = true) := by
  have key : ∀ b r, ptB b = true → s = b :: r → signB s = false := by
    rintro b r hb rfl
    cases hs : signB (b :: r) with
    | false => rfl
    | true =>
      have := signs_prt _ (List.contains_iff_mem.1 hs)
      simp [headB, hb] at this
  refine ⟨fun ⟨h1, h2⟩ => ?_, fun ⟨h1, h2⟩ => ?_, fun ⟨h1, h2⟩ => by rw [(con_word h2).2] at h1; cases h1⟩
  · unfold nmB at h2
    rw [Bool.and_eq_true, Bool.and_eq_true] at h2
    obtain ⟨b, r, hs, hb⟩ := head_of h2.1.2
    unfold keyB at h1
    rw [key b r (sml_dig hb).2.1 hs, Bool.or_false] at h1
    rw [h1] at h2; simp at h2
  · have hw := (con_word h2).1
    unfold cnB at h2
    rw [Bool.and_eq_true] at h2
    obtain ⟨b, r, hs, hb⟩ := head_of h2.2
    unfold keyB at h1
    rw [key b r (grt_dig hb).2.1 hs, Bool.or_false, hw] at h1
    cases h1
end Go.Proofs.YtchdfjihflmloaaGreatDoor
