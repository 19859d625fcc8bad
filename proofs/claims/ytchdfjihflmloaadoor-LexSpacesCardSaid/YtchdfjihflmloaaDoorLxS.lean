/- Tokens with gaps behind, told by bytes, in plain words. -/
import Derived.Test.YtchdfjihflmloaaDoorLxG
namespace Go.Proofs.YtchdfjihflmloaaDoor

/-- The gap that a byte tells. -/
def gapX (x : UInt8) : Bs := List.replicate (x.toNat % 4) (if 99 < x.toNat then 10 else 32)
def psG (g : Nat → UInt8) : Nat → List Tk → List (Tk × Bs)
  | _, [] => []
  | i, t :: r => (t, 32 :: gapX (g i)) :: psG g (i + 1) r
theorem psG_snoc (g : Nat → UInt8) : ∀ (l : List Tk) (i : Nat) (t : Tk), psG g i (l ++ [t]) = psG g i l ++ [(t, 32 :: gapX (g (i + l.length)))]
  | [], i, t => rfl
  | a :: r, i, t => by
    rw [List.cons_append, psG, psG, psG_snoc g r (i + 1) t, List.cons_append, List.length_cons]
    rw [show i + 1 + r.length = i + (r.length + 1) by omega]
theorem psG_fst (g : Nat → UInt8) : ∀ (l : List Tk) (i : Nat), (psG g i l).map (·.1) = l
  | [], _ => rfl
  | a :: r, i => by rw [psG, List.map_cons, psG_fst g r]
theorem psG_len (g : Nat → UInt8) (l : List Tk) (i : Nat) : (psG g i l).length = l.length := by
  have := congrArg List.length (psG_fst g l i)
  rw [List.length_map] at this; exact this
theorem gapX_ok (x : UInt8) : gapB (32 :: gapX x) := by
  intro b hb
  rcases List.mem_cons.1 hb with rfl | hb
  · exact .inr rfl
  · unfold gapX at hb
    have := List.eq_of_mem_replicate hb
    split at this
    · exact .inl this
    · exact .inr this
theorem psG_ok (g : Nat → UInt8) : ∀ (l : List Tk) (i : Nat), gapsOk (psG g i l)
  | [], _ => trivial
  | a :: r, i => ⟨gapX_ok _, .inl (by simp), psG_ok g r (i + 1)⟩
theorem spacedL_snoc : ∀ (l : List (Tk × Bs)) (p : Tk × Bs), spacedL (l ++ [p]) = spacedL l ++ (p.1.text ++ p.2)
  | [], p => by simp [spacedL]
  | a :: r, p => by rw [List.cons_append, spacedL, spacedL, spacedL_snoc r p]; simp
def spG (g : Nat → UInt8) (l : List Tk) : Bs := spacedL (psG g 0 l)
theorem spG_succ (g : Nat → UInt8) (l : List Tk) (k : Nat) (h : k < l.length) : spG g (l.take (k + 1)) = spG g (l.take k) ++ l[k].text ++ [32] ++ gapX (g k) := by
  unfold spG
  rw [List.take_succ_eq_append_getElem h, psG_snoc, spacedL_snoc, List.length_take, Nat.min_eq_left (by omega), Nat.zero_add]
  simp
theorem gapX_len (x : UInt8) : (gapX x).length ≤ 3 := by unfold gapX; rw [List.length_replicate]; omega
theorem spG_len (g : Nat → UInt8) : ∀ (l : List Tk) (i : Nat), (spacedL (psG g i l)).length ≤ sumL l + 4 * l.length
  | [], _ => by simp [psG, spacedL]
  | a :: r, i => by
    have h := spG_len g r (i + 1)
    have h2 := gapX_len (g i)
    rw [psG, spacedL]
    simp only [List.length_append, List.length_cons, sumL, List.map_cons, List.sum_cons] at h ⊢
    omega
theorem sumL_take (l : List Tk) (k : Nat) : sumL (l.take k) ≤ sumL l := by
  have h : sumL l = sumL (l.take k) + sumL (l.drop k) := by
    unfold sumL
    rw [← List.sum_append, ← List.map_append, List.take_append_drop]
  omega
theorem spG_take (g : Nat → UInt8) (l : List Tk) (k : Nat) : (spG g (l.take k)).length ≤ sumL l + 4 * l.length := by
  have h := spG_len g (l.take k) 0
  have h2 := sumL_take l k
  rw [List.length_take] at h
  unfold spG
  omega
end Go.Proofs.YtchdfjihflmloaaDoor
