/- Tokens of a text, in plain words: no program in sight. -/
namespace Go.Proofs.YtchdfjihflmloaaGreatDoor

abbrev Bs := List UInt8
def dgB (b : UInt8) : Bool := decide (48 ≤ b.toNat) && decide (b.toNat ≤ 57)
def smB (b : UInt8) : Bool := decide (97 ≤ b.toNat) && decide (b.toNat ≤ 122)
def grB (b : UInt8) : Bool := decide (65 ≤ b.toNat) && decide (b.toNat ≤ 90)
def ptB (b : UInt8) : Bool := dgB b || smB b || grB b
/-- case, of, let, in, do, dos, if, then, else, data -/
def wordsL : List Bs := [[99, 97, 115, 101], [111, 102], [108, 101, 116], [105, 110], [100, 111], [100, 111, 115], [105, 102], [116, 104, 101, 110], [101, 108, 115, 101], [100, 97, 116, 97]]
/-- The signs, the longer ones first. -/
def signsL : List Bs := [[45, 62], [60, 45], [61, 61], [61], [60], [43], [45], [42], [47], [92], [40], [41], [123], [125], [59], [124]]
def wdB (s : Bs) : Bool := wordsL.contains s
def signB (s : Bs) : Bool := signsL.contains s
def keyB (s : Bs) : Bool := wdB s || signB s
def ptsB (s : Bs) : Bool := decide (1 ≤ s.length) && decide (s.length ≤ 20) && s.all ptB
def headB (p : UInt8 → Bool) (s : Bs) : Bool := (s.head?.map p).getD false
def nmB (s : Bs) : Bool := ptsB s && headB smB s && !wdB s
def cnB (s : Bs) : Bool := ptsB s && headB grB s
def numL (s : Bs) : Nat := s.foldl (fun n b => 10 * n + (b.toNat - 48)) 0
def maxI : Nat := 9223372036854775807
/-- The token of letters and digits: its kind. -/
def wordK (s : Bs) : Option Int := if wdB s = true then some 4 else if nmB s = true then some 2 else if cnB s = true then some 3 else none
/-- What a text begins with: its kind, its bytes, its number. -/
def tokF (l : Bs) : Option (Int × Bs × Nat) :=
  if headB dgB l = true then (if numL (l.takeWhile dgB) ≤ maxI then some (1, l.takeWhile dgB, numL (l.takeWhile dgB)) else none)
  else if headB ptB l = true then (wordK (l.takeWhile ptB)).map fun k => (k, l.takeWhile ptB, 0)
  else (signsL.find? fun s => s.isPrefixOf l).map fun s => (4, s, 0)

structure Tk where
  kind : Int
  text : Bs
  num : Int
  line : Int
  col : Int
inductive Res where
  | ok (l : List Tk)
  | bad (line col : Int)
def Res.pre (ts : List Tk) : Res → Res
  | .ok l => .ok (ts ++ l)
  | .bad a b => .bad a b

theorem headB_take {p : UInt8 → Bool} {l : Bs} (h : headB p l = true) : l.takeWhile p ≠ [] := by
  cases l with
  | nil => simp [headB] at h
  | cons b r => simp [headB] at h; simp [List.takeWhile, h]
theorem signs_ne : ∀ s ∈ signsL, s ≠ [] := by decide
theorem tokF_ne {l : Bs} {k : Int} {t : Bs} {n : Nat} (h : tokF l = some (k, t, n)) : t ≠ [] := by
  unfold tokF at h
  split at h
  · split at h
    · simp only [Option.some.injEq, Prod.mk.injEq] at h
      rw [← h.2.1]; exact headB_take ‹_›
    · cases h
  · split at h
    · cases hk : wordK (l.takeWhile ptB) with
      | none => rw [hk] at h; cases h
      | some q =>
        rw [hk] at h
        simp only [Option.map_some, Option.some.injEq, Prod.mk.injEq] at h
        rw [← h.2.1]; exact headB_take ‹_›
    · cases hf : signsL.find? fun s => s.isPrefixOf l with
      | none => rw [hf] at h; cases h
      | some s =>
        rw [hf] at h
        simp only [Option.map_some, Option.some.injEq, Prod.mk.injEq] at h
        rw [← h.2.1]
        exact signs_ne s (List.mem_of_find?_eq_some hf)

theorem drop_lt {l t : Bs} (hl : l ≠ []) (ht : t ≠ []) : (l.drop t.length).length < l.length := by
  have h1 := List.length_pos_iff.2 hl
  have h2 := List.length_pos_iff.2 ht
  rw [List.length_drop]; omega
theorem dropWhile_le (p : UInt8 → Bool) (l : Bs) : (l.dropWhile p).length ≤ l.length := by
  induction l with
  | nil => exact Nat.le_refl _
  | cons b r ih =>
    simp only [List.dropWhile_cons]
    split
    · simp only [List.length_cons]; omega
    · exact Nat.le_refl _
/-- The tokens of a text from a place on, behind so many. -/
def lexF (line col : Int) (cnt : Nat) (l : Bs) : Res :=
  match l with
  | [] => .ok []
  | b :: r =>
    if b = 10 then lexF (line + 1) 1 cnt r
    else if b = 32 then lexF line (col + 1) cnt r
    else if b = 45 ∧ r.head? = some 45 then lexF line col cnt (r.dropWhile (· != 10))
    else match h : tokF (b :: r) with
      | none => .bad line col
      | some (k, t, n) => if 2000 ≤ cnt then .bad line col else Res.pre [⟨k, t, n, line, col⟩] (lexF line (col + t.length) (cnt + 1) ((b :: r).drop t.length))
termination_by l.length
decreasing_by
  · simp
  · simp
  · have := dropWhile_le (· != 10) r
    simp only [List.length_cons]; omega
  · exact drop_lt (by simp) (tokF_ne h)

theorem lexF_nil (line col : Int) (cnt : Nat) : lexF line col cnt [] = .ok [] := by rw [lexF]
theorem lexF_nl (line col : Int) (cnt : Nat) (r : Bs) : lexF line col cnt (10 :: r) = lexF (line + 1) 1 cnt r := by rw [lexF]; simp
theorem lexF_sp (line col : Int) (cnt : Nat) (r : Bs) : lexF line col cnt (32 :: r) = lexF line (col + 1) cnt r := by rw [lexF]; simp
/-- Does a comment stand there? -/
def comB (l : Bs) : Bool := decide (l.take 2 = [45, 45])
theorem comB_cons (b : UInt8) (r : Bs) : comB (b :: r) = true ↔ b = 45 ∧ r.head? = some 45 := by
  unfold comB
  cases r with
  | nil => simp
  | cons c q => simp
theorem lexF_com {l : Bs} (line col : Int) (cnt : Nat) (h : comB l = true) : lexF line col cnt l = lexF line col cnt (l.dropWhile (· != 10)) := by
  cases l with
  | nil => simp [comB] at h
  | cons b r =>
    have h2 := (comB_cons b r).1 h
    rw [lexF]
    rw [if_neg (by rw [h2.1]; decide), if_neg (by rw [h2.1]; decide), if_pos h2]
    have : (b :: r).dropWhile (· != 10) = r.dropWhile (· != 10) := by rw [List.dropWhile_cons, if_pos (by rw [h2.1]; decide)]
    rw [this]
/-- A byte that is neither a gap nor begins a comment. -/
def tokAt (l : Bs) : Prop := l ≠ [] ∧ l.head? ≠ some 10 ∧ l.head? ≠ some 32 ∧ comB l = false
theorem lexF_tok {l : Bs} (line col : Int) (cnt : Nat) (h : tokAt l) : lexF line col cnt l = match tokF l with
    | none => .bad line col
    | some (k, t, n) => if 2000 ≤ cnt then .bad line col else Res.pre [⟨k, t, n, line, col⟩] (lexF line (col + t.length) (cnt + 1) (l.drop t.length)) := by
  obtain ⟨h0, h1, h2, h3⟩ := h
  cases l with
  | nil => exact absurd rfl h0
  | cons b r =>
    simp at h1 h2
    have h4 : ¬ (b = 45 ∧ r.head? = some 45) := fun h => by rw [(comB_cons b r).2 h] at h3; cases h3
    rw [lexF, if_neg h1, if_neg h2, if_neg h4]
    cases tokF (b :: r) <;> rfl
end Go.Proofs.YtchdfjihflmloaaGreatDoor
