/- Tokens in memory: rows of five cells each. -/
import Derived.Test.YtchdfjihflmloaaGreatDoorBase
import Derived.Test.YtchdfjihflmloaaGreatDoorLxA
import Derived.Test.YtchdfjihflmloaaGreatDoorProg
namespace Go.Proofs.YtchdfjihflmloaaGreatDoor
open Go.RowKit

def tS (l : Bs) : Str := ⟨l.toArray⟩
def bS (s : Str) : Bs := s.data.toList
theorem tS_bS (s : Str) : tS (bS s) = s := rfl
theorem bS_tS (l : Bs) : bS (tS l) = l := rfl
theorem tS_size (l : Bs) : (tS l).size = l.length := rfl
/-- The cells of a token. -/
def tkC (t : Tk) : List Value := [.int .i64 t.kind, .string (tS t.text), .int .i64 t.num, .int .i64 t.line, .int .i64 t.col]
def tkV (t : Tk) : Value := .agg #[.int .i64 t.kind, .string (tS t.text), .int .i64 t.num, .int .i64 t.line, .int .i64 t.col]
def TkRow (w : World) (a : Option Addr) (l : List Tk) : Prop :=
  l = [] ∨ ∃ b off, a = some ⟨b, off, none⟩ ∧ ∀ i (h : i < l.length), w.cell? ⟨b, off + i * 5, none⟩ = some (.int .i64 l[i].kind) ∧ w.cell? ⟨b, off + i * 5 + 1, none⟩ = some (.string (tS l[i].text)) ∧ w.cell? ⟨b, off + i * 5 + 2, none⟩ = some (.int .i64 l[i].num) ∧ w.cell? ⟨b, off + i * 5 + 3, none⟩ = some (.int .i64 l[i].line) ∧ w.cell? ⟨b, off + i * 5 + 4, none⟩ = some (.int .i64 l[i].col)
theorem TkRow.keeps {w W : World} {a : Option Addr} {l : List Tk} (h : TkRow w a l) (hk : Keeps w W) : TkRow W a l := by
  rcases h with h | ⟨b, off, ha, h⟩
  · exact .inl h
  · refine .inr ⟨b, off, ha, fun i hi => ?_⟩
    obtain ⟨h0, h1, h2, h3, h4⟩ := h i hi
    exact ⟨hk _ _ h0, hk _ _ h1, hk _ _ h2, hk _ _ h3, hk _ _ h4⟩
theorem TkRow.at {w : World} {a : Option Addr} {l : List Tk} (h : TkRow w a l) (hne : l ≠ []) : ∃ b off, a = some ⟨b, off, none⟩ ∧ ∀ i (h : i < l.length), w.cell? ⟨b, off + i * 5, none⟩ = some (.int .i64 l[i].kind) ∧ w.cell? ⟨b, off + i * 5 + 1, none⟩ = some (.string (tS l[i].text)) ∧ w.cell? ⟨b, off + i * 5 + 2, none⟩ = some (.int .i64 l[i].num) ∧ w.cell? ⟨b, off + i * 5 + 3, none⟩ = some (.int .i64 l[i].line) ∧ w.cell? ⟨b, off + i * 5 + 4, none⟩ = some (.int .i64 l[i].col) := by
  rcases h with h | h
  · exact (hne h).elim
  · exact h
/-- A value is a slice of tokens. -/
def TkSl (w : World) (v : Value) (l : List Tk) : Prop := ∃ a c, v = .slice a l.length c ∧ ((a = none → c = 0) ∧ l.length ≤ c) ∧ TkRow w a l
theorem TkSl.nil (w : World) : TkSl w (.slice none 0 0) [] := ⟨none, 0, rfl, ⟨fun _ => rfl, Nat.le_refl _⟩, .inl rfl⟩
theorem TkSl.keeps {w W : World} {v : Value} {l : List Tk} (h : TkSl w v l) (hk : Keeps w W) : TkSl W v l := by
  obtain ⟨a, c, h1, h2, h3⟩ := h
  exact ⟨a, c, h1, h2, h3.keeps hk⟩
theorem TkSl.open {w : World} {v : Value} {l : List Tk} (h : TkSl w v l) : ∃ a c, v = .slice a l.length c := by
  obtain ⟨a, c, h1, _⟩ := h
  exact ⟨a, c, h1⟩
theorem TkSl.at {w : World} {a : Option Addr} {m c : Nat} {l : List Tk} (h : TkSl w (.slice a m c) l) : m = l.length ∧ ((a = none → c = 0) ∧ l.length ≤ c) ∧ TkRow w a l := by
  obtain ⟨a', c', h1, h2, h3⟩ := h
  simp only [Value.slice.injEq] at h1
  obtain ⟨rfl, rfl, rfl⟩ := h1
  exact ⟨rfl, h2, h3⟩

/-! ### Rows that the call owns -/
def tkCs (l : List Tk) : List Value := l.flatMap tkC
theorem tkCs_len (l : List Tk) : (tkCs l).length = l.length * 5 := by
  induction l with
  | nil => rfl
  | cons t r ih => unfold tkCs at ih ⊢; rw [List.flatMap_cons, List.length_append, ih]; simp [tkC]; omega
theorem tkCs_append (a b : List Tk) : tkCs (a ++ b) = tkCs a ++ tkCs b := by unfold tkCs; rw [List.flatMap_append]
theorem tkCs_at : ∀ (l : List Tk) (i : Nat) (h : i < l.length) (j : Nat), j < 5 → (tkCs l)[i * 5 + j]? = (tkC l[i])[j]?
  | t :: r, 0, _, j, hj => by
    unfold tkCs
    rw [List.flatMap_cons, List.getElem?_append_left (by simp [tkC]; omega)]
    simp
  | t :: r, i + 1, h, j, hj => by
    have ih := tkCs_at r i (by simpa using h) j hj
    unfold tkCs at ih ⊢
    rw [List.flatMap_cons, List.getElem?_append_right (by simp [tkC]; omega)]
    have : (i + 1) * 5 + j - (tkC t).length = i * 5 + j := by simp [tkC]; omega
    rw [this, ih]
    rfl
theorem tkCs_one (l : List Tk) : ∀ u ∈ tkCs l, u.oneCell' = true := by
  intro u hu
  unfold tkCs at hu
  obtain ⟨t, _, ht⟩ := List.mem_flatMap.1 hu
  simp only [tkC, List.mem_cons, List.not_mem_nil, or_false] at ht
  rcases ht with rfl | rfl | rfl | rfl | rfl <;> rfl
theorem addr_plus (b off j : Nat) : (⟨b, off, none⟩ : Addr).add j = ⟨b, off + j, none⟩ := by unfold Addr.add; split <;> simp_all
/-- A row of tokens, cell by cell. -/
theorem TkRow.cells {w : World} {a : Option Addr} {l : List Tk} (h : TkRow w a l) : ∀ ad, a = some ad → ∀ j u, (tkCs l)[j]? = some u → w.cell? (ad.add j) = some u := by
  intro ad had j u hu
  have hj : j < l.length * 5 := by
    have := (List.getElem?_eq_some_iff.1 hu).1
    rw [tkCs_len] at this; exact this
  have hne : l ≠ [] := by rintro rfl; simp at hj
  obtain ⟨b, off, rfl, hc⟩ := h.at hne
  simp only [Option.some.injEq] at had
  subst had
  obtain ⟨c0, c1, c2, c3, c4⟩ := hc (j / 5) (by omega)
  rw [addr_plus]
  have e := tkCs_at l (j / 5) (by omega) (j % 5) (by omega)
  rw [show j / 5 * 5 + j % 5 = j by omega, hu] at e
  have hr : j % 5 = 0 ∨ j % 5 = 1 ∨ j % 5 = 2 ∨ j % 5 = 3 ∨ j % 5 = 4 := by omega
  rcases hr with h0 | h0 | h0 | h0 | h0 <;> rw [h0] at e <;> simp only [tkC, List.getElem?_cons_zero, List.getElem?_cons_succ, Option.some.injEq] at e <;> subst e
  · rw [show off + j = off + j / 5 * 5 by omega]; exact c0
  · rw [show off + j = off + j / 5 * 5 + 1 by omega]; exact c1
  · rw [show off + j = off + j / 5 * 5 + 2 by omega]; exact c2
  · rw [show off + j = off + j / 5 * 5 + 3 by omega]; exact c3
  · rw [show off + j = off + j / 5 * 5 + 4 by omega]; exact c4
theorem tk_own_form {w : World} {base : Nat} {e : TypeId} {size n : Nat} {v : Value} {xs : List Value} (h : w.ownsRow base e size v n xs) : ∃ a c, v = .slice a n c ∧ ((a = none → c = 0) ∧ n ≤ c) := by
  obtain ⟨_, ⟨rfl, rfl⟩ | ⟨g, cap, cur, rfl, _, _, hn, _⟩⟩ := h
  · exact ⟨none, 0, rfl, fun _ => rfl, Nat.le_refl _⟩
  · exact ⟨_, cap, rfl, (fun h => by cases h), hn⟩
/-- A row of tokens that is owned lies there. -/
theorem TkSl.own {w : World} {base : Nat} {v : Value} {l : List Tk} (h : w.ownsRow base 34 5 v l.length (tkCs l)) : TkSl w v l := by
  obtain ⟨a, c, rfl, ha⟩ := tk_own_form h
  refine ⟨a, c, rfl, ha, ?_⟩
  obtain ⟨hlen, h2 | ⟨g, cap, cur, hv, hb, hh, hnc, _, hsz, htk⟩⟩ := h
  · exact .inl (List.length_eq_zero_iff.1 h2.2)
  · simp only [Value.slice.injEq, true_and] at hv
    obtain ⟨rfl, rfl⟩ := hv
    refine .inr ⟨g, 0, rfl, fun i hi => ?_⟩
    have cell : ∀ j x, j < 5 → (tkC l[i])[j]? = some x → w.cell? ⟨g, 0 + i * 5 + j, none⟩ = some x := by
      intro j x hj5 hj
      rw [← tkCs_at l i hi j hj5, ← htk] at hj
      have hj' : cur[i * 5 + j]? = some x := by
        rw [List.getElem?_take] at hj
        split at hj
        · simpa using hj
        · cases hj
      simp [World.cell?, hh, hj']
    exact ⟨cell 0 _ (by omega) rfl, cell 1 _ (by omega) rfl, cell 2 _ (by omega) rfl, cell 3 _ (by omega) rfl, cell 4 _ (by omega) rfl⟩
theorem cell_five_new {w : World} {B : Nat} (hB : w.heap.size = B) (t : Tk) (ty : TypeId) : ∀ j v, (tkC t)[j]? = some v → (w.alloc (.cells (tkC t).toArray ty)).cell? ((⟨B, 0, none⟩ : Addr).add j) = some v := by
  subst hB
  intro j v hj
  rw [addr_plus, Nat.zero_add, World.cell?_alloc_at _ _ _ _ rfl]
  simpa using hj
theorem Tryz.infoTk : (Tryz.prog.info? 34).map (fun i => (i.zero, i.size, i.bytes)) = some (some (.agg #[.int .i64 0, .string ⟨#[]⟩, .int .i64 0, .int .i64 0, .int .i64 0]), 5, 48) := by kernel_rfl
end Go.Proofs.YtchdfjihflmloaaGreatDoor
