/- Where the texts of a tree's parts are in its own. -/
import Derived.Test.YtpdfeadajgokkaaDoorTx
namespace Go.Proofs.YtpdfeadajgokkaaDoor

/-- Texts, one behind the other, in a text. -/
inductive Ins : List UInt8 → List (List UInt8) → Prop
  | nil (s : List UInt8) : Ins s []
  | cons (x t s : List UInt8) (ts : List (List UInt8)) (h : Ins s ts) : Ins (x ++ (t ++ s)) (t :: ts)
theorem Ins.pre {s : List UInt8} {ts : List (List UInt8)} (h : Ins s ts) (x : List UInt8) : Ins (x ++ s) ts := by
  cases h with
  | nil => exact .nil _
  | cons y t s ts h => rw [← List.append_assoc]; exact .cons _ _ _ _ h
theorem Ins.post {s : List UInt8} {ts : List (List UInt8)} (h : Ins s ts) (x : List UInt8) : Ins (s ++ x) ts := by
  induction h with
  | nil => exact .nil _
  | cons y t s ts h ih => rw [List.append_assoc, List.append_assoc]; exact .cons _ _ _ _ ih
theorem Ins.app {s s' : List UInt8} {ts ts' : List (List UInt8)} (h : Ins s ts) (h' : Ins s' ts') : Ins (s ++ s') (ts ++ ts') := by
  induction h with
  | nil => exact h'.pre _
  | cons y t s ts h ih => rw [List.append_assoc, List.append_assoc]; exact .cons _ _ _ _ ih
theorem Ins.self (t : List UInt8) : Ins t [t] := by simpa using Ins.cons [] t [] [] (.nil _)
theorem Ins.tail {s t : List UInt8} {ts : List (List UInt8)} (h : Ins s (t :: ts)) : Ins s ts := by
  cases h with | cons y t s ts h => exact (h.pre _).pre _
theorem Ins.open {s t : List UInt8} {ts : List (List UInt8)} (h : Ins s (t :: ts)) : ∃ x r, s = x ++ (t ++ r) ∧ Ins r ts := by
  cases h with | cons y t s ts h => exact ⟨_, _, rfl, h⟩

theorem ins_atom (e : Ex) : Ins (atomE e) [textE e] := by
  rcases atom_cases e with h | h <;> rw [h]
  · exact .self _
  · exact ((Ins.self _).post _).pre _
theorem ins_seq (r : List Ex) : Ins (seqT (r.map textE)) (r.map textE) := by
  induction r with
  | nil => exact .nil _
  | cons x r ih =>
    cases r with
    | nil => simpa only [List.map_cons, List.map_nil, seq_one] using Ins.self _
    | cons y r =>
      simp only [List.map_cons, seq_cons] at ih ⊢
      exact Ins.app (ts := [textE x]) (.self _) (ih.pre _)

theorem text_ins {e : Ex} (h : Snd e) : Ins (textE e) (e.kids.map textE) := by
  cases h with
  | int _ => exact .nil _
  | var _ => exact .nil _
  | con _ => exact .nil _
  | lam _ _ _ => rw [tx_lam]; exact (((Ins.self _).pre _).pre _).pre [92]
  | app _ _ _ _ => rw [tx_app]; exact Ins.app (ins_atom _) ((ins_atom _).pre [32])
  | lt _ _ _ _ _ => rw [tx_let]; exact ((((Ins.self _).app (ts' := [_]) ((Ins.self _).pre _)).pre _).pre _).pre _
  | @cs a r _ _ _ _ _ => rw [tx_case]; exact (Ins.app (ts := [_]) (.self _) (((ins_seq r).post _).pre _)).pre _
  | alt _ _ _ _ => rw [tx_alt]; exact (((Ins.self _).pre _).pre _).pre _
  | op _ _ _ _ _ => rw [tx_op]; exact Ins.app (ins_atom _) ((((ins_atom _).pre [32]).pre _).pre [32])
  | iff _ _ _ _ _ _ => rw [tx_if]; exact (Ins.app (ts := [_]) (.self _) ((Ins.app (ts := [_]) (.self _) ((Ins.self _).pre _)).pre _)).pre _
  | blk h _ _ _ _ =>
    rcases h with rfl | rfl
    · rw [tx_do]; exact ((ins_seq _).post _).pre _
    · rw [tx_dos]; exact ((ins_seq _).post _).pre _
  | bind _ _ _ => rw [tx_bind]; exact ((Ins.self _).pre _).pre _

/-- From a place on: the next text is at p, and no later than that the loop finds it. -/
theorem ins_step {s t : List UInt8} {ts : List (List UInt8)} {at' : Nat} (h0 : at' ≤ s.length) (h : Ins (s.drop at') (t :: ts)) : ∃ p, at' ≤ p ∧ p + t.length ≤ s.length ∧ (s.drop p).take t.length = t ∧ ∀ q, q ≤ p + t.length → Ins (s.drop q) ts := by
  obtain ⟨x, r, hx, hr⟩ := h.open
  have hl := congrArg List.length hx
  simp only [List.length_drop, List.length_append] at hl
  have hp : s.drop (at' + x.length) = t ++ r := by rw [← List.drop_drop, hx, List.drop_left]
  have hq : s.drop (at' + x.length + t.length) = r := by rw [← List.drop_drop, hp, List.drop_left]
  refine ⟨at' + x.length, by omega, by omega, by rw [hp, List.take_left], fun q hq' => ?_⟩
  have := List.take_append_drop (at' + x.length + t.length - q) (s.drop q)
  rw [List.drop_drop, show q + (at' + x.length + t.length - q) = at' + x.length + t.length from by omega, hq] at this
  rw [← this]
  exact hr.pre _
end Go.Proofs.YtpdfeadajgokkaaDoor
