/- Two texts, one in lines behind the other, in plain words. -/
import Derived.Test.YtchdfjihflmloaaDoorLxG
namespace Go.Proofs.YtchdfjihflmloaaDoor

def badR (r : Res) : Prop := ∃ x y, r = .bad x y
theorem joins_bad {a b : Bs} {x y : Int} (h : lexF 1 1 0 a = .bad x y) : lexF 1 1 0 (a ++ 10 :: b) = .bad x y := by
  rw [lexF_join b a.length a 1 1 0 (Nat.le_refl _), h]
theorem joins_to {a b : Bs} {ts : List Tk} (h : lexF 1 1 0 a = .ok ts) : lexF 1 1 0 (a ++ 10 :: b) = Res.pre ts ((lexF 1 1 ts.length b).down ((nls a + 1 : Nat) : Int)) := by
  rw [lexF_join b a.length a 1 1 0 (Nat.le_refl _), h]
  simp only [Nat.zero_add]
  rw [show (1 : Int) + (nls a : Int) + 1 = 1 + ((nls a + 1 : Nat) : Int) by omega, lexF_down _ b.length b _ _ _ (Nat.le_refl _)]
theorem joins_bad2 {a b : Bs} {ts : List Tk} {x y : Int} (h : lexF 1 1 0 a = .ok ts) (h2 : lexF 1 1 0 b = .bad x y) : badR (lexF 1 1 0 (a ++ 10 :: b)) := by
  have hl := lexF_len a.length a 1 1 0 ts (Nat.le_refl _) (by omega) h
  obtain ⟨p, q, hp⟩ := (lexF_cnt b.length b 1 1 0 ts.length (Nat.le_refl _) (by omega) (by omega)).2 x y h2
  rw [joins_to h, hp]
  exact ⟨_, _, rfl⟩
theorem joins_ok {a b : Bs} {ts ms : List Tk} (h : lexF 1 1 0 a = .ok ts) (h2 : lexF 1 1 0 b = .ok ms) (hl : ts.length + ms.length ≤ 2000) : lexF 1 1 0 (a ++ 10 :: b) = .ok (ts ++ ms.map (Tk.down ((nls a + 1 : Nat) : Int))) := by
  rw [joins_to h, ((lexF_cnt b.length b 1 1 0 ts.length (Nat.le_refl _) (by omega) (by omega)).1 ms h2).1 hl]
  rfl
theorem joins_many {a b : Bs} {ts ms : List Tk} (h : lexF 1 1 0 a = .ok ts) (h2 : lexF 1 1 0 b = .ok ms) (hl : 2000 < ts.length + ms.length) : badR (lexF 1 1 0 (a ++ 10 :: b)) := by
  have hl1 := lexF_len a.length a 1 1 0 ts (Nat.le_refl _) (by omega) h
  obtain ⟨p, q, hp⟩ := ((lexF_cnt b.length b 1 1 0 ts.length (Nat.le_refl _) (by omega) (by omega)).1 ms h2).2 hl
  rw [joins_to h, hp]
  exact ⟨_, _, rfl⟩
theorem nls_take (l : Bs) (k : Nat) (h : k < l.length) : nls (l.take (k + 1)) = nls (l.take k) + if l[k] = 10 then 1 else 0 := by
  unfold nls
  rw [List.take_succ_eq_append_getElem h, List.count_append]
  congr 1
  by_cases h10 : l[k] = 10
  · rw [if_pos h10, h10]; rfl
  · rw [if_neg h10, List.count_eq_zero]
    simpa using fun e => h10 e.symm
theorem nls_le (l : Bs) : nls l ≤ l.length := List.count_le_length
end Go.Proofs.YtchdfjihflmloaaDoor
