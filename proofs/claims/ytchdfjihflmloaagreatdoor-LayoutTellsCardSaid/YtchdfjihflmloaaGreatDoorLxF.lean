/- Tokens of known texts: reckoned. -/
import Derived.Test.YtchdfjihflmloaaGreatDoorLxB
namespace Go.Proofs.YtchdfjihflmloaaGreatDoor

/-- lexF, by steps. -/
def lexN : Nat → Int → Int → Nat → Bs → Res
  | 0, _, _, _, _ => .ok []
  | _ + 1, _, _, _, [] => .ok []
  | f + 1, line, col, cnt, b :: r =>
    if b = 10 then lexN f (line + 1) 1 cnt r
    else if b = 32 then lexN f line (col + 1) cnt r
    else if comB (b :: r) = true then lexN f line col cnt ((b :: r).dropWhile (· != 10))
    else match tokF (b :: r) with
      | none => .bad line col
      | some (k, t, n) => if 2000 ≤ cnt then .bad line col else Res.pre [⟨k, t, n, line, col⟩] (lexN f line (col + t.length) (cnt + 1) ((b :: r).drop t.length))
theorem lexN_eq : ∀ (f : Nat) (l : Bs) (line col : Int) (cnt : Nat), l.length ≤ f → lexN f line col cnt l = lexF line col cnt l
  | 0, l, line, col, cnt, h => by
    have : l = [] := List.length_eq_zero_iff.1 (by omega)
    subst this
    rw [lexF_nil]; rfl
  | f + 1, [], line, col, cnt, h => by rw [lexF_nil]; rfl
  | f + 1, b :: r, line, col, cnt, h => by
    rw [lexN]
    by_cases h1 : b = 10
    · rw [if_pos h1, h1, lexF_nl]; exact lexN_eq f r _ _ _ (by simp at h; omega)
    · rw [if_neg h1]
      by_cases h2 : b = 32
      · rw [if_pos h2, h2, lexF_sp]; exact lexN_eq f r _ _ _ (by simp at h; omega)
      · rw [if_neg h2]
        cases h3 : comB (b :: r) with
        | true =>
          rw [if_pos rfl, lexF_com _ _ _ h3]
          exact lexN_eq f _ _ _ _ (by have := com_lt h3; omega)
        | false =>
          have ht : tokAt (b :: r) := ⟨by simp, by simpa using h1, by simpa using h2, h3⟩
          rw [if_neg (by simp), lexF_tok _ _ _ ht]
          cases hf : tokF (b :: r) with
          | none => rfl
          | some p =>
            obtain ⟨k, t, n⟩ := p
            simp only
            split
            · rfl
            · rw [lexN_eq f _ _ _ _ (by have := tok_lt ht hf; omega)]
/-- f = \x->12, a comment, B in line 3 -/
def text1 : Bs := [102, 32, 61, 32, 92, 120, 45, 62, 49, 50, 10, 32, 45, 45, 32, 97, 10, 32, 66]
def text2 : Bs := [97, 10, 32, 32, 63]
theorem lex1 : lexF 1 1 0 text1 = .ok [⟨2, [102], 0, 1, 1⟩, ⟨4, [61], 0, 1, 3⟩, ⟨4, [92], 0, 1, 5⟩, ⟨2, [120], 0, 1, 6⟩, ⟨4, [45, 62], 0, 1, 7⟩, ⟨1, [49, 50], 12, 1, 9⟩, ⟨3, [66], 0, 3, 2⟩] := by
  rw [← lexN_eq 19 _ _ _ _ (by decide)]; rfl
theorem lex2 : lexF 1 1 0 text2 = .bad 2 3 := by
  rw [← lexN_eq 5 _ _ _ _ (by decide)]; rfl
end Go.Proofs.YtchdfjihflmloaaGreatDoor
