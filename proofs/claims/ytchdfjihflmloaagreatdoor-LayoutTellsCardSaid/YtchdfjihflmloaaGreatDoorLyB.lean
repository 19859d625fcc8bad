/- What lines stand for: what is kept, what stays, how many lines, in plain words. -/
import Derived.Test.YtchdfjihflmloaaGreatDoorLyA
namespace Go.Proofs.YtchdfjihflmloaaGreatDoor

/-! ### What is kept: without brackets -/
/-- None of the brackets, and no ;. -/
def freeT (t : Tk) : Bool := !(keyT t pOpen || keyT t pShut || keyT t bOpen || keyT t bShut || keyT t semiT)
/-- What was not put. -/
def ownT (t : Tk) : Bool := !(keyT t bOpen || keyT t bShut || keyT t semiT)
theorem own_mk (s : Bs) (t : Tk) (hs : s = bOpen ∨ s = bShut ∨ s = semiT) : ownT (mkT s t) = false := by
  unfold ownT
  rw [keyT_mk, keyT_mk, keyT_mk]
  rcases hs with rfl | rfl | rfl <;> decide
theorem free_own {t : Tk} (h : freeT t = true) : ownT t = true ∧ keyT t pOpen = false ∧ keyT t pShut = false ∧ keyT t bOpen = false ∧ keyT t bShut = false ∧ keyT t semiT = false := by
  unfold freeT at h
  unfold ownT
  simp at h
  obtain ⟨⟨⟨⟨h1, h2⟩, h3⟩, h4⟩, h5⟩ := h
  rw [h1, h2, h3, h4, h5]; simp
/-- Curly brackets, counted; none: one too many is shut. -/
def depB : Nat → List Tk → Option Nat
  | d, [] => some d
  | d, t :: r => if keyT t bOpen = true then depB (d + 1) r else if keyT t bShut = true then (if d = 0 then none else depB (d - 1) r) else depB d r
theorem depB_append : ∀ (a b : List Tk) (d : Nat), depB d (a ++ b) = (depB d a).bind fun q => depB q b
  | [], b, d => rfl
  | t :: r, b, d => by
    rw [List.cons_append, depB, depB]
    split
    · exact depB_append r b _
    · split
      · split
        · rfl
        · exact depB_append r b _
      · exact depB_append r b _
theorem dep_shut (e : Tk) (p : Int → Bool) : ∀ st : List Int, depB st.length (List.replicate (shutW p st).1 (mkT bShut e)) = some (shutW p st).2.length
  | [] => rfl
  | c :: r => by
    rw [shutW]
    split
    · rw [List.replicate_succ, depB, keyT_mk, keyT_mk, if_neg (by decide), if_pos (by decide), if_neg (by simp), List.length_cons, Nat.add_sub_cancel]
      exact dep_shut e p r
    · rfl
theorem filter_shut (e : Tk) (n : Nat) : (List.replicate n (mkT bShut e)).filter ownT = [] := by
  rw [List.filter_replicate, if_neg (by rw [own_mk _ _ (.inr (.inl rfl))]; simp)]
theorem shutW_pos {p : Int → Bool} : ∀ {st : List Int}, (∀ c ∈ st, 0 < c) → ∀ c ∈ (shutW p st).2, 0 < c
  | [], h, c, hc => by cases hc
  | a :: r, h, c, hc => by
    rw [shutW] at hc
    split at hc
    · exact shutW_pos (fun c hc => h c (by simp [hc])) c hc
    · exact h c hc
theorem shutW_all : ∀ {st : List Int}, (∀ c ∈ st, 0 < c) → (shutW (fun _ => true) st).2 = []
  | [], _ => rfl
  | a :: r, h => by
    rw [shutW, if_pos ⟨h a (by simp), rfl⟩]
    exact shutW_all fun c hc => h c (by simp [hc])
theorem ahead_keep (prev : Option Tk) (fresh : Bool) {t : Tk} (ht : freeT t = true) {st : List Int} (hst : ∀ c ∈ st, 0 < c) :
    (aheadS prev fresh t st).1.filter ownT = [] ∧ depB st.length (aheadS prev fresh t st).1 = some (aheadS prev fresh t st).2.length ∧ ∀ c ∈ (aheadS prev fresh t st).2, 0 < c := by
  have hf := free_own ht
  unfold aheadS
  cases prev with
  | none =>
    simp only
    rw [if_neg (by rw [hf.2.2.2.1]; simp)]
    refine ⟨by simp [own_mk bOpen t (.inl rfl)], ?_, fun c hc => ?_⟩
    · rw [depB, keyT_mk, if_pos (by decide), depB]; rfl
    · rcases List.mem_cons.1 hc with rfl | hc
      · omega
      · exact hst c hc
  | some p =>
    simp only
    split
    · unfold lineS
      simp only
      refine ⟨?_, ?_, shutW_pos hst⟩
      · rw [List.filter_append, filter_shut]
        split
        · simp [own_mk semiT t (.inr (.inr rfl))]
        · rfl
      · rw [depB_append, dep_shut]
        simp only [Option.bind_some]
        split
        · rw [depB, keyT_mk, keyT_mk, if_neg (by decide), if_neg (by decide), depB]
        · rfl
    · exact ⟨rfl, rfl, hst⟩
theorem dep_one (t : Tk) (d : Nat) (h1 : keyT t bOpen = false) (h2 : keyT t bShut = false) : depB d [t] = some d := by
  rw [depB, if_neg (by rw [h1]; simp), if_neg (by rw [h2]; simp), depB]
theorem beh_keep {t : Tk} (ht : freeT t = true) (next : Option Tk) {st : List Int} (hst : ∀ c ∈ st, 0 < c) :
    (behS t next st).1.filter ownT = [] ∧ depB st.length (behS t next st).1 = some (behS t next st).2.1.length ∧ ∀ c ∈ (behS t next st).2.1, 0 < c := by
  have hf := free_own ht
  have two : [mkT bOpen t, mkT bShut t].filter ownT = [] ∧ depB st.length [mkT bOpen t, mkT bShut t] = some st.length := by
    constructor
    · simp [own_mk bOpen t (.inl rfl), own_mk bShut t (.inr (.inl rfl))]
    · rw [depB, keyT_mk, if_pos (by decide), depB, keyT_mk, keyT_mk, if_neg (by decide), if_pos (by decide), if_neg (by omega), depB]; rfl
  unfold behS
  rw [if_neg (by rw [hf.2.1]; simp), if_neg (by rw [hf.2.2.2.1]; simp)]
  split
  · cases next with
    | none => exact ⟨two.1, two.2, hst⟩
    | some u =>
      simp only
      split
      · exact ⟨rfl, rfl, hst⟩
      · split
        · rename_i hc
          refine ⟨by simp [own_mk bOpen u (.inl rfl)], ?_, fun c hc' => ?_⟩
          · rw [depB, keyT_mk, if_pos (by decide), depB]; rfl
          · have := colS_nonneg st
            rcases List.mem_cons.1 hc' with rfl | hc'
            · omega
            · exact hst c hc'
        · exact ⟨two.1, two.2, hst⟩
  · exact ⟨rfl, rfl, hst⟩
theorem lay_keep : ∀ (l : List Tk) (prev : Option Tk) (fresh : Bool) (st : List Int), (∀ t ∈ l, freeT t = true) → (∀ c ∈ st, 0 < c) → (prev = none → st = []) → ∃ m, layS prev fresh st l = .ok m ∧ m.filter ownT = l ∧ depB st.length m = some 0
  | [], prev, fresh, st, _, hst, hp => by
    rw [layS]
    cases prev with
    | none => rw [hp rfl]; exact ⟨[], rfl, rfl, rfl⟩
    | some e =>
      simp only [endS]
      rw [if_pos (shutW_all hst)]
      refine ⟨_, rfl, filter_shut _ _, ?_⟩
      rw [dep_shut, shutW_all hst]; rfl
  | t :: r, prev, fresh, st, hl, hst, hp => by
    have ht := hl t (by simp)
    have hf := free_own ht
    obtain ⟨a1, a2, a3⟩ := ahead_keep prev fresh ht hst
    have hfit : fitS t (aheadS prev fresh t st).2 = some ([], (aheadS prev fresh t st).2) := by
      unfold fitS
      rw [if_neg (by rw [hf.2.2.1]; simp), if_neg (by rw [hf.2.2.2.2.1]; simp)]
    obtain ⟨b1, b2, b3⟩ := beh_keep ht r.head? a3
    obtain ⟨q, h1, h2, h3⟩ := lay_keep r (some t) (behS t r.head? (aheadS prev fresh t st).2).2.2 (behS t r.head? (aheadS prev fresh t st).2).2.1 (fun u hu => hl u (by simp [hu])) b3 (fun h => (nomatch h))
    rw [layS, hfit]
    simp only
    rw [h1]
    refine ⟨_, rfl, ?_, ?_⟩
    · rw [List.nil_append, List.filter_append, List.filter_append, a1, List.filter_cons, if_pos hf.1, b1, h2]; rfl
    · rw [List.nil_append, List.append_assoc, depB_append, a2]
      simp only [Option.bind_some]
      have e : t :: (behS t r.head? (aheadS prev fresh t st).2).1 ++ q = [t] ++ ((behS t r.head? (aheadS prev fresh t st).2).1 ++ q) := by simp
      rw [e, depB_append, dep_one t _ hf.2.2.2.1 hf.2.2.2.2.1]
      simp only [Option.bind_some]
      rw [depB_append, b2]
      simp only [Option.bind_some]
      exact h3

/-! ### What has its brackets -/
def plainL : List Tk → Prop
  | [] => True
  | t :: r => (blockT t = true → ∃ u, r.head? = some u ∧ keyT u bOpen = true) ∧ plainL r
theorem shutW_none {p : Int → Bool} {st : List Int} (h : ∀ c ∈ st, ¬ 0 < c) : shutW p st = (0, st) := by
  cases st with
  | nil => rfl
  | cons c r => rw [shutW, if_neg (fun hc => h c (by simp) hc.1)]
theorem lay_plain : ∀ (l : List Tk) (prev : Option Tk) (fresh : Bool) (st : List Int) (m : List Tk), plainL l → (∀ c ∈ st, ¬ 0 < c) → (prev = none → l ≠ [] ∧ ∀ t, l.head? = some t → keyT t bOpen = true) → layS prev fresh st l = .ok m → m = l
  | [], prev, fresh, st, m, _, hst, hp, h => by
    rw [layS] at h
    cases prev with
    | none => exact absurd rfl (hp rfl).1
    | some e =>
      simp only [endS, shutW_none hst] at h
      split at h
      · simp only [Res.ok.injEq] at h
        rw [← h]; rfl
      · cases h
  | t :: r, prev, fresh, st, m, hl, hst, hp, h => by
    obtain ⟨o2, s2, q, h1, h2, rfl⟩ := layS_cons h
    have ha : aheadS prev fresh t st = ([], st) := by
      unfold aheadS
      cases prev with
      | none => simp only; rw [if_pos ((hp rfl).2 t rfl)]
      | some p =>
        simp only
        split
        · unfold lineS
          rw [shutW_none hst]
          simp only [List.replicate_zero, List.nil_append]
          rw [if_neg]
          rintro ⟨h3, h4⟩
          cases st with
          | nil => cases h3
          | cons c r' =>
            simp at h3
            exact hst c (by simp) (by omega)
        · rfl
    rw [ha] at h1 ⊢
    simp only at h1 ⊢
    have hs2 : o2 = [] ∧ ∀ c ∈ s2, ¬ 0 < c := by
      unfold fitS at h1
      rw [shutW_none hst] at h1
      split at h1
      · cases st with
        | nil => cases h1
        | cons c r' =>
          simp only at h1
          split at h1
          · simp only [Option.some.injEq, Prod.mk.injEq] at h1
            obtain ⟨rfl, rfl⟩ := h1
            exact ⟨rfl, fun c' hc' => hst c' (by simp [hc'])⟩
          · cases h1
      · split at h1
        · cases st with
          | nil => cases h1
          | cons c r' =>
            simp only at h1
            split at h1
            · simp only [Option.some.injEq, Prod.mk.injEq] at h1
              obtain ⟨rfl, rfl⟩ := h1
              exact ⟨rfl, fun c' hc' => hst c' (by simp [hc'])⟩
            · cases h1
        · simp only [Option.some.injEq, Prod.mk.injEq] at h1
          obtain ⟨rfl, rfl⟩ := h1
          exact ⟨rfl, hst⟩
    obtain ⟨rfl, hs3⟩ := hs2
    have hb : (behS t r.head? s2).1 = [] ∧ ∀ c ∈ (behS t r.head? s2).2.1, ¬ 0 < c := by
      unfold behS
      split
      · exact ⟨rfl, fun c hc => by
          rcases List.mem_cons.1 hc with rfl | hc
          · omega
          · exact hs3 c hc⟩
      · split
        · exact ⟨rfl, fun c hc => by
            rcases List.mem_cons.1 hc with rfl | hc
            · omega
            · exact hs3 c hc⟩
        · split
          · rename_i hbt
            obtain ⟨u, hu, hk⟩ := hl.1 hbt
            rw [hu]
            simp only
            rw [if_pos hk]
            exact ⟨rfl, hs3⟩
          · exact ⟨rfl, hs3⟩
    rw [hb.1]
    rw [lay_plain r (some t) _ _ q hl.2 hb.2 (fun h => (nomatch h)) h2]
    simp

/-! ### Lines -/
/-- The tokens of lines: x in a column, y behind it. -/
def xT (c line : Int) : Tk := ⟨2, [120], 0, line, c⟩
def yT (c line : Int) : Tk := ⟨2, [121], 0, line, c + 2⟩
/-- Lines from a number on: each with its column. -/
def linesT : Int → List Int → List Tk
  | _, [] => []
  | n, c :: r => xT c n :: yT c n :: linesT (n + 1) r
/-- What they stand for, behind the first one. -/
def linesO (b : Int) : Int → List Int → List Tk
  | _, [] => []
  | n, c :: r => (if c = b then [mkT semiT (xT c n)] else []) ++ (xT c n :: yT c n :: linesO b (n + 1) r)
theorem xy_key (c n : Int) (s : Bs) : keyT (xT c n) s = false ∧ keyT (yT c n) s = false ∧ blockT (xT c n) = false ∧ blockT (yT c n) = false := by
  refine ⟨?_, ?_, ?_, ?_⟩ <;> simp [keyT, blockT, xT, yT]
theorem plain_fit {t : Tk} (h : ∀ s, keyT t s = false) (st : List Int) : fitS t st = some ([], st) := by
  unfold fitS
  rw [if_neg (by rw [h]; simp), if_neg (by rw [h]; simp)]
theorem plain_beh {t : Tk} (h : ∀ s, keyT t s = false) (h2 : blockT t = false) (next : Option Tk) (st : List Int) : behS t next st = ([], st, false) := by
  unfold behS
  rw [if_neg (by rw [h]; simp), if_neg (by rw [h]; simp), if_neg (by rw [h2]; simp)]
theorem lay_lines (b : Int) (hb : 0 < b) : ∀ (cs : List Int) (n : Int) (p : Tk), (∀ c ∈ cs, b ≤ c) → p.line < n → layS (some p) false [b] (linesT n cs) = .ok (linesO b n cs ++ [mkT bShut ((linesT n cs).getLast?.getD p)])
  | [], n, p, _, _ => by
    have e1 : shutW (fun _ => true) [b] = (1, []) := by rw [shutW, if_pos ⟨hb, rfl⟩]; rfl
    rw [linesT, layS]
    simp only [endS, e1]
    simp [linesO]
  | c :: r, n, p, hc, hp => by
    have hx := fun s => (xy_key c n s).1
    have hy := fun s => (xy_key c n s).2.1
    have hcb := hc c (by simp)
    have hsx : shutW (fun e => decide ((xT c n).col < e)) [b] = (0, [b]) := by
      have : (xT c n).col = c := rfl
      rw [shutW, if_neg]
      rintro ⟨_, h⟩
      rw [this] at h
      simp at h; omega
    have ha : aheadS (some p) false (xT c n) [b] = ((if c = b then [mkT semiT (xT c n)] else []), [b]) := by
      unfold aheadS
      simp only
      rw [if_pos ⟨by simp, hp⟩]
      unfold lineS
      rw [hsx]
      have e : (xT c n).col = c := rfl
      rw [e]
      simp only [List.replicate_zero, List.nil_append, List.head?_cons, Option.some.injEq]
      by_cases h : c = b
      · rw [if_pos ⟨h.symm, by omega⟩, if_pos h]
      · rw [if_neg (fun q => h q.1.symm), if_neg h]
    have ha2 : aheadS (some (xT c n)) false (yT c n) [b] = ([], [b]) := by
      unfold aheadS
      simp only
      rw [if_neg (by simp [xT, yT])]
    rw [linesT, layS, ha]
    simp only
    rw [plain_fit hx]
    simp only
    rw [plain_beh hx (xy_key c n []).2.2.1]
    simp only
    rw [layS, ha2]
    simp only
    rw [plain_fit hy]
    simp only
    rw [plain_beh hy (xy_key c n []).2.2.2]
    simp only
    rw [lay_lines b hb r (n + 1) (yT c n) (fun d hd => hc d (by simp [hd])) (by show n < n + 1; omega)]
    have hl : (xT c n :: yT c n :: linesT (n + 1) r).getLast?.getD p = (linesT (n + 1) r).getLast?.getD (yT c n) := by
      cases linesT (n + 1) r with
      | nil => rfl
      | cons u q => rw [List.getLast?_cons_cons, List.getLast?_cons_cons]; simp [List.getLast?_cons]
    rw [hl]
    simp [Res.pre, linesO]
/-- All lines, the first one in column b. -/
theorem layF_lines (b : Int) (hb : 1 ≤ b) (cs : List Int) (hc : ∀ c ∈ cs, b ≤ c) : layF (linesT 1 (b :: cs)) = .ok (mkT bOpen (xT b 1) :: xT b 1 :: yT b 1 :: (linesO b 2 cs ++ [mkT bShut ((linesT 2 cs).getLast?.getD (yT b 1))])) := by
  have hx := fun s => (xy_key b 1 s).1
  have hy := fun s => (xy_key b 1 s).2.1
  unfold layF
  have ha : aheadS none true (xT b 1) [] = ([mkT bOpen (xT b 1)], [b]) := by
    unfold aheadS
    simp only
    rw [if_neg (by rw [hx]; simp)]
    have : max (xT b 1).col 1 = b := by show max b 1 = b; omega
    rw [this]
  have ha2 : aheadS (some (xT b 1)) false (yT b 1) [b] = ([], [b]) := by
    unfold aheadS
    simp only
    rw [if_neg (by simp [xT, yT])]
  rw [linesT, layS, ha]
  simp only
  rw [plain_fit hx]
  simp only
  rw [plain_beh hx (xy_key b 1 []).2.2.1]
  simp only
  rw [layS, ha2]
  simp only
  rw [plain_fit hy]
  simp only
  rw [plain_beh hy (xy_key b 1 []).2.2.2]
  simp only
  rw [show (1 : Int) + 1 = 2 from rfl, lay_lines b (by omega) cs 2 (yT b 1) hc (by show (1 : Int) < 2; omega)]
  simp [Res.pre]
theorem linesO_len (b : Int) : ∀ (cs : List Int) (n : Int), (linesO b n cs).length = 2 * cs.length + (cs.filter fun c => decide (c = b)).length
  | [], n => rfl
  | c :: r, n => by
    rw [linesO, List.filter_cons]
    have := linesO_len b r (n + 1)
    by_cases h : c = b
    · rw [if_pos h, if_pos (by simpa using h)]; simp [this]; omega
    · rw [if_neg h, if_neg (by simpa using h)]; simp [this]; omega
theorem linesO_semi (b : Int) : ∀ (cs : List Int) (n : Int), ((linesO b n cs).filter fun t => keyT t semiT).length = (cs.filter fun c => decide (c = b)).length
  | [], n => rfl
  | c :: r, n => by
    have ih := linesO_semi b r (n + 1)
    have e2 : ((xT c n :: yT c n :: linesO b (n + 1) r).filter fun t => keyT t semiT).length = (r.filter fun c => decide (c = b)).length := by
      rw [List.filter_cons_of_neg (by rw [(xy_key c n semiT).1]; simp), List.filter_cons_of_neg (by rw [(xy_key c n semiT).2.1]; simp)]
      exact ih
    rw [linesO, List.filter_append, List.length_append, e2]
    by_cases h : c = b
    · rw [if_pos h, List.filter_cons_of_pos (by rw [keyT_mk]; decide), List.filter_cons_of_pos (by simpa using h), List.filter_nil]
      simp; omega
    · rw [if_neg h, List.filter_cons_of_neg (by simpa using h)]
      simp
theorem linesT_len : ∀ (cs : List Int) (n : Int), (linesT n cs).length = 2 * cs.length
  | [], n => rfl
  | c :: r, n => by rw [linesT]; simp [linesT_len r (n + 1)]; omega
end Go.Proofs.YtchdfjihflmloaaGreatDoor
