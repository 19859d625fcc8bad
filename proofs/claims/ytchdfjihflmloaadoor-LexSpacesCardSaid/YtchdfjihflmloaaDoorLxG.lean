/- How many bytes tokens have, and where they stand at most, in plain words. -/
import Derived.Test.YtchdfjihflmloaaDoorLxC
namespace Go.Proofs.YtchdfjihflmloaaDoor

def sumL (ms : List Tk) : Nat := (ms.map fun t => t.text.length).sum
theorem lexF_bd : ∀ (m : Nat) (l : Bs) (line col : Int) (cnt : Nat) (ms : List Tk), l.length ≤ m → 1 ≤ col → lexF line col cnt l = .ok ms →
    sumL ms ≤ l.length ∧ ∀ t ∈ ms, line ≤ t.line ∧ t.line ≤ line + l.length ∧ 1 ≤ t.col ∧ t.col + t.text.length ≤ col + l.length ∧ 1 ≤ t.text.length := by
  intro m
  induction m with
  | zero =>
    intro l line col cnt ms h hcol he
    have : l = [] := List.length_eq_zero_iff.1 (by omega)
    subst this
    rw [lexF_nil] at he; cases he
    exact ⟨by simp [sumL], fun t ht => by cases ht⟩
  | succ m ih =>
    intro l line col cnt ms h hcol he
    rcases at_cases l with rfl | ⟨r, rfl⟩ | ⟨r, rfl⟩ | hcm | ht
    · rw [lexF_nil] at he; cases he
      exact ⟨by simp [sumL], fun t ht => by cases ht⟩
    · rw [lexF_nl] at he
      obtain ⟨h1, h2⟩ := ih r _ _ _ _ (by simp at h; omega) (by omega) he
      refine ⟨by simp only [List.length_cons]; omega, fun t ht => ?_⟩
      have := h2 t ht
      simp only [List.length_cons]
      omega
    · rw [lexF_sp] at he
      obtain ⟨h1, h2⟩ := ih r _ _ _ _ (by simp at h; omega) (by omega) he
      refine ⟨by simp only [List.length_cons]; omega, fun t ht => ?_⟩
      have := h2 t ht
      simp only [List.length_cons]
      omega
    · rw [lexF_com _ _ _ hcm] at he
      have hl := com_lt hcm
      obtain ⟨h1, h2⟩ := ih _ _ _ _ _ (by omega) hcol he
      refine ⟨by omega, fun t ht => ?_⟩
      have := h2 t ht
      omega
    · rw [lexF_tok _ _ _ ht] at he
      cases hf : tokF l with
      | none => rw [hf] at he; cases he
      | some p =>
        obtain ⟨k, t, n⟩ := p
        rw [hf] at he
        simp only at he
        have hp := (tokF_prefix hf).length_le
        have hn := List.length_pos_iff.2 (tokF_ne hf)
        split at he
        · cases he
        · cases hr : lexF line (col + t.length) (cnt + 1) (l.drop t.length) with
          | bad x y => rw [hr] at he; cases he
          | ok ts =>
            rw [hr] at he
            simp only [Res.pre, Res.ok.injEq] at he
            have hd : (l.drop t.length).length = l.length - t.length := List.length_drop
            obtain ⟨h1, h2⟩ := ih _ _ _ _ _ (by omega) (by omega) hr
            rw [← he]
            refine ⟨?_, fun u hu => ?_⟩
            · simp only [sumL, List.singleton_append, List.map_cons, List.sum_cons] at h1 ⊢
              omega
            · rcases List.mem_cons.1 hu with rfl | hu
              · simp only; omega
              · have := h2 u hu
                omega
theorem lexF_bad : ∀ (m : Nat) (l : Bs) (line col : Int) (cnt : Nat) (x y : Int), l.length ≤ m → 1 ≤ col → lexF line col cnt l = .bad x y → line ≤ x ∧ x ≤ line + l.length ∧ 1 ≤ y ∧ y ≤ col + l.length := by
  intro m
  induction m with
  | zero =>
    intro l line col cnt x y h hcol he
    have : l = [] := List.length_eq_zero_iff.1 (by omega)
    subst this
    rw [lexF_nil] at he; cases he
  | succ m ih =>
    intro l line col cnt x y h hcol he
    rcases at_cases l with rfl | ⟨r, rfl⟩ | ⟨r, rfl⟩ | hcm | ht
    · rw [lexF_nil] at he; cases he
    · rw [lexF_nl] at he
      have := ih r _ _ _ _ _ (by simp at h; omega) (by omega) he
      simp only [List.length_cons]
      omega
    · rw [lexF_sp] at he
      have := ih r _ _ _ _ _ (by simp at h; omega) (by omega) he
      simp only [List.length_cons]
      omega
    · rw [lexF_com _ _ _ hcm] at he
      have hl := com_lt hcm
      have := ih _ _ _ _ _ _ (by omega) hcol he
      omega
    · rw [lexF_tok _ _ _ ht] at he
      cases hf : tokF l with
      | none =>
        rw [hf] at he
        simp only [Res.bad.injEq] at he
        omega
      | some p =>
        obtain ⟨k, t, n⟩ := p
        rw [hf] at he
        simp only at he
        have hp := (tokF_prefix hf).length_le
        have hn := List.length_pos_iff.2 (tokF_ne hf)
        split at he
        · simp only [Res.bad.injEq] at he
          omega
        · cases hr : lexF line (col + t.length) (cnt + 1) (l.drop t.length) with
          | bad a b =>
            rw [hr] at he
            simp only [Res.pre, Res.bad.injEq] at he
            have hd : (l.drop t.length).length = l.length - t.length := List.length_drop
            have := ih _ _ _ _ _ _ (by omega) (by omega) hr
            omega
          | ok ts => rw [hr] at he; cases he
theorem joinL_sum : ∀ (l : List Bs), (joinL l).length ≤ (l.map List.length).sum + l.length
  | [] => by simp [joinL]
  | [a] => by simp [joinL]
  | a :: b :: r => by
    have h2 := joinL_sum (b :: r)
    show (a ++ 32 :: joinL (b :: r)).length ≤ _
    simp only [List.length_append, List.length_cons, List.map_cons, List.sum_cons] at h2 ⊢
    omega
theorem join_sum (ms : List Tk) : (joinL (ms.map (·.text))).length ≤ sumL ms + ms.length := by
  have := joinL_sum (ms.map (·.text))
  rw [List.map_map, List.length_map] at this
  exact this
end Go.Proofs.YtchdfjihflmloaaDoor
