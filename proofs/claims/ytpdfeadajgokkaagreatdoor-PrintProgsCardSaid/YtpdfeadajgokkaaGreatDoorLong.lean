/- How long a tree's text is; brackets fit; where its parts' texts are. -/
import Derived.Test.YtpdfeadajgokkaaGreatDoorTx
import Derived.Test.YtpdfeadajgokkaaGreatDoorShort
namespace Go.Proofs.YtpdfeadajgokkaaGreatDoor

theorem short_open {k : Int} {s : Str} {n : Int} {l : List Str} {ks : List Ex} (h : shortB (.mk k s n l ks) = true) : s.size ≤ 100 ∧ l.length ≤ 40 ∧ (∀ x ∈ l, x.size ≤ 100) ∧ ∀ e ∈ ks, shortB e = true := by
  rw [shortB, shortL_all] at h
  simpa [and_assoc] using h
theorem num_open {k : Int} {s : Str} {n : Int} {l : List Str} {ks : List Ex} (h : NumOk (.mk k s n l ks)) : (-9223372036854775808 ≤ n ∧ n ≤ 9223372036854775807) ∧ ∀ e ∈ ks, NumOk e := by
  cases h with | mk h hk => exact ⟨h, hk⟩
theorem bs_len (s : Str) : (bs s).length = s.size := by rw [Lib.size_eq]; rfl
theorem atom_le (e : Ex) : (atomE e).length ≤ (textE e).length + 2 := by
  rcases atom_cases e with h | h <;> rw [h] <;> simp
theorem seq_le' (r : List Ex) (h : ∀ e ∈ r, (textE e).length + 3 ≤ 4900 * cnt e) : (seqT (r.map textE)).length ≤ 4900 * cnt.cntL r := by
  induction r with
  | nil => simp [seqT, Lib.join_nil]
  | cons x r ih =>
    have h1 := h x (by simp)
    have h2 := ih fun y hy => h y (by simp [hy])
    have := cnt_pos x
    cases r with
    | nil => simp only [List.map_cons, List.map_nil, seq_one, cnt.cntL]; omega
    | cons y r =>
      simp only [List.map_cons, seq_cons, List.length_append, List.length_cons, List.length_nil, cnt.cntL] at h2 ⊢
      omega

theorem text_le : ∀ {e : Ex}, Snd e → shortB e = true → NumOk e → (textE e).length + 3 ≤ 4900 * cnt e := by
  intro e h
  induction h with
  | @int n h0 =>
    intro hs hn
    have := Lib.itoa_length_le n (num_open hn).1.1 (num_open hn).1.2
    rw [tx_int]; simp only [cnt, cnt.cntL]; omega
  | @var s h =>
    intro hs _; have := (short_open hs).1
    rw [tx_var, bs_len]; simp only [cnt, cnt.cntL]; omega
  | @con s h =>
    intro hs _; have := (short_open hs).1
    rw [tx_con, bs_len]; simp only [cnt, cnt.cntL]; omega
  | @lam x a h _ _ ih =>
    intro hs hn
    obtain ⟨_, _, h3, h4⟩ := short_open hs
    have := ih (h4 _ (by simp)) ((num_open hn).2 _ (by simp))
    have h5 := h3 x (by simp)
    rw [tx_lam]; simp only [List.length_cons, List.length_append, bs_len, List.length_nil, cnt, cnt.cntL]; omega
  | @app a b _ _ _ _ i1 i2 =>
    intro hs hn
    obtain ⟨_, _, h3, h4⟩ := short_open hs
    have := i1 (h4 _ (by simp)) ((num_open hn).2 _ (by simp))
    have := i2 (h4 _ (by simp)) ((num_open hn).2 _ (by simp))
    have := atom_le a; have := atom_le b
    rw [tx_app]; simp only [List.length_cons, List.length_append, List.length_nil, cnt, cnt.cntL]; omega
  | @lt x a b h _ _ _ _ i1 i2 =>
    intro hs hn
    obtain ⟨_, _, h3, h4⟩ := short_open hs
    have := i1 (h4 _ (by simp)) ((num_open hn).2 _ (by simp))
    have := i2 (h4 _ (by simp)) ((num_open hn).2 _ (by simp))
    have h5 := h3 x (by simp)
    rw [tx_let]; simp only [List.length_cons, List.length_append, bs_len, List.length_nil, cnt, cnt.cntL]; omega
  | @cs a r _ _ _ _ _ i1 i2 =>
    intro hs hn
    obtain ⟨_, _, h3, h4⟩ := short_open hs
    have := i1 (h4 _ (by simp)) ((num_open hn).2 _ (by simp))
    have := seq_le' r fun e he => i2 e he (h4 _ (by simp [he])) ((num_open hn).2 _ (by simp [he]))
    rw [tx_case]; simp only [List.length_cons, List.length_append, List.length_nil, cnt, cnt.cntL]; omega
  | @alt c l a h _ _ _ ih =>
    intro hs hn
    obtain ⟨h1, h2, h3, h4⟩ := short_open hs
    have := ih (h4 _ (by simp)) ((num_open hn).2 _ (by simp))
    have := nmT_le l h3
    rw [tx_alt]; simp only [List.length_cons, List.length_append, bs_len, List.length_nil, cnt, cnt.cntL]; omega
  | @op o a b h _ _ _ _ i1 i2 =>
    intro hs hn
    obtain ⟨h1, _, h3, h4⟩ := short_open hs
    have := i1 (h4 _ (by simp)) ((num_open hn).2 _ (by simp))
    have := i2 (h4 _ (by simp)) ((num_open hn).2 _ (by simp))
    have := atom_le a; have := atom_le b
    rw [tx_op]; simp only [List.length_cons, List.length_append, bs_len, List.length_nil, cnt, cnt.cntL]; omega
  | @iff a b c _ _ _ _ _ _ i1 i2 i3 =>
    intro hs hn
    obtain ⟨_, _, h3, h4⟩ := short_open hs
    have := i1 (h4 _ (by simp)) ((num_open hn).2 _ (by simp))
    have := i2 (h4 _ (by simp)) ((num_open hn).2 _ (by simp))
    have := i3 (h4 _ (by simp)) ((num_open hn).2 _ (by simp))
    rw [tx_if]; simp only [List.length_cons, List.length_append, List.length_nil, cnt, cnt.cntL]; omega
  | @blk k r z h _ _ _ _ i1 i2 =>
    intro hs hn
    obtain ⟨_, _, h3, h4⟩ := short_open hs
    have := seq_le' (r ++ [z]) fun e he => by
      rcases List.mem_append.1 he with h | h
      · exact i1 e h (h4 _ he) ((num_open hn).2 _ he)
      · rw [List.mem_singleton] at h; subst h; exact i2 (h4 _ he) ((num_open hn).2 _ he)
    rcases h with rfl | rfl
    · rw [tx_do]; simp only [List.length_cons, List.length_append, List.length_nil, cnt] at this ⊢; omega
    · rw [tx_dos]; simp only [List.length_cons, List.length_append, List.length_nil, cnt] at this ⊢; omega
  | @bind x a h _ _ ih =>
    intro hs hn
    obtain ⟨_, _, h3, h4⟩ := short_open hs
    have := ih (h4 _ (by simp)) ((num_open hn).2 _ (by simp))
    have h5 := h3 x (by simp)
    rw [tx_bind]; simp only [List.length_cons, List.length_append, bs_len, List.length_nil, cnt, cnt.cntL]; omega

/-! A text has at least as many bytes as its tree has parts. -/
theorem name_pos {s : Str} (h : fitB s = true) : 1 ≤ (bs s).length := by
  simp only [fitB, Bool.and_eq_true, decide_eq_true_eq, Lib.toList_data] at h
  exact h.1.1
theorem nameB_fit {s : Str} (h : nameB s = true) : fitB s = true := by simp only [nameB, Bool.and_eq_true] at h; exact h.1.1
theorem conB_fit {s : Str} (h : conB s = true) : fitB s = true := by simp only [conB, Bool.and_eq_true] at h; exact h.1
theorem op_some {s : Str} (h : (doesB s || holdsB s) = true) : bs s ∈ ([[43], [45], [42], [47], [61, 61], [60]] : List (List UInt8)) := by
  simp only [doesB, holdsB, Lib.toList_data, Bool.or_eq_true, List.contains_iff_mem] at h
  show s.data.toList ∈ _
  simp only [List.mem_cons, List.not_mem_nil, or_false] at h ⊢
  simpa only [or_assoc] using h
theorem seq_ge (r : List Ex) (h : ∀ e ∈ r, cnt e ≤ (textE e).length) : cnt.cntL r ≤ (seqT (r.map textE)).length := by
  induction r with
  | nil => simp [cnt.cntL]
  | cons x r ih =>
    have h1 := h x (by simp)
    have h2 := ih fun y hy => h y (by simp [hy])
    cases r with
    | nil => simp only [List.map_cons, List.map_nil, seq_one, cnt.cntL]; omega
    | cons y r =>
      simp only [List.map_cons, seq_cons, List.length_append, List.length_cons, List.length_nil, cnt.cntL] at h2 ⊢
      omega
theorem atom_ge (e : Ex) : (textE e).length ≤ (atomE e).length := by rcases atom_cases e with h | h <;> rw [h] <;> simp <;> omega

theorem text_ge : ∀ {e : Ex}, Snd e → cnt e ≤ (textE e).length := by
  intro e h
  induction h with
  | @int n h0 =>
    rw [tx_int]
    obtain ⟨u, rfl⟩ := Int.eq_ofNat_of_zero_le h0
    have := Lib.nDigits_pos u
    rw [Lib.itoa, if_neg (by omega), Lib.decDigits_length]
    simpa [cnt, cnt.cntL] using this
  | @var s h => rw [tx_var]; have := name_pos (nameB_fit h); simpa [cnt, cnt.cntL] using this
  | @con s h => rw [tx_con]; have := name_pos (conB_fit h); simpa [cnt, cnt.cntL] using this
  | @lam x a h _ _ ih => rw [tx_lam]; simp only [List.length_cons, List.length_append, List.length_nil, cnt, cnt.cntL]; omega
  | @app a b _ _ _ _ i1 i2 => have := atom_ge a; have := atom_ge b; rw [tx_app]; simp only [List.length_cons, List.length_append, List.length_nil, cnt, cnt.cntL]; omega
  | @lt x a b h _ _ _ _ i1 i2 => rw [tx_let]; simp only [List.length_cons, List.length_append, List.length_nil, cnt, cnt.cntL]; omega
  | @cs a r _ _ _ _ _ i1 i2 => have := seq_ge r i2; rw [tx_case]; simp only [List.length_cons, List.length_append, List.length_nil, cnt, cnt.cntL]; omega
  | @alt c l a h _ _ _ ih => rw [tx_alt]; simp only [List.length_cons, List.length_append, List.length_nil, cnt, cnt.cntL]; omega
  | @op o a b h _ _ _ _ i1 i2 => have := atom_ge a; have := atom_ge b; rw [tx_op]; simp only [List.length_cons, List.length_append, List.length_nil, cnt, cnt.cntL]; omega
  | @iff a b c _ _ _ _ _ _ i1 i2 i3 => rw [tx_if]; simp only [List.length_cons, List.length_append, List.length_nil, cnt, cnt.cntL]; omega
  | @blk k r z h _ _ _ _ i1 i2 =>
    have := seq_ge (r ++ [z]) fun e he => by
      rcases List.mem_append.1 he with h | h
      · exact i1 e h
      · rw [List.mem_singleton] at h; subst h; exact i2
    rcases h with rfl | rfl
    · rw [tx_do]; simp only [List.length_cons, List.length_append, List.length_nil, cnt] at this ⊢; omega
    · rw [tx_dos]; simp only [List.length_cons, List.length_append, List.length_nil, cnt] at this ⊢; omega
  | @bind x a h _ _ ih => rw [tx_bind]; simp only [List.length_cons, List.length_append, List.length_nil, cnt, cnt.cntL]; omega

/-! Brackets. -/
inductive Br : List UInt8 → Prop
  | nil : Br []
  | one {x : UInt8} (h : x ≠ 40 ∧ x ≠ 41 ∧ x ≠ 123 ∧ x ≠ 125) : Br [x]
  | app {a b : List UInt8} (ha : Br a) (hb : Br b) : Br (a ++ b)
  | rnd {a : List UInt8} (ha : Br a) : Br (40 :: (a ++ [41]))
  | crl {a : List UInt8} (ha : Br a) : Br (123 :: (a ++ [125]))
theorem Br.all {l : List UInt8} (h : ∀ x ∈ l, x ≠ 40 ∧ x ≠ 41 ∧ x ≠ 123 ∧ x ≠ 125) : Br l := by
  induction l with
  | nil => exact .nil
  | cons x r ih => exact .app (a := [x]) (.one (h x (by simp))) (ih fun y hy => h y (by simp [hy]))
def rc (o c : UInt8) (l : List UInt8) : Int := (l.count o : Int) - l.count c
theorem rc_app (o c : UInt8) (a b : List UInt8) : rc o c (a ++ b) = rc o c a + rc o c b := by simp only [rc, List.count_append]; omega
theorem rc_nil (o c : UInt8) : rc o c [] = 0 := rfl
theorem Br.sum {o c : UInt8} (hoc : (o = 40 ∧ c = 41) ∨ (o = 123 ∧ c = 125)) {l : List UInt8} (h : Br l) : rc o c l = 0 ∧ ∀ n, 0 ≤ rc o c (l.take n) := by
  induction h with
  | nil => exact ⟨rfl, fun n => by simp [rc]⟩
  | @one x h =>
    have h0 : rc o c [x] = 0 := by
      obtain ⟨a1, a2, a3, a4⟩ := h
      rcases hoc with ⟨rfl, rfl⟩ | ⟨rfl, rfl⟩ <;> simp [rc, List.count_cons, a1, a2, a3, a4]
    refine ⟨h0, fun n => ?_⟩
    cases n with
    | zero => simp [rc]
    | succ n => simp [h0]
  | @app a b _ _ i1 i2 =>
    refine ⟨by rw [rc_app, i1.1, i2.1]; rfl, fun n => ?_⟩
    rw [List.take_append, rc_app]
    have := i1.2 n; have := i2.2 (n - a.length); omega
  | @rnd a _ ih =>
    have h1 : ∀ x : List UInt8, rc o c (40 :: x) = rc o c [40] + rc o c x := fun x => rc_app o c [40] x
    have e : 0 ≤ rc o c [40] ∧ rc o c [40] + rc o c [41] = 0 := by rcases hoc with ⟨rfl, rfl⟩ | ⟨rfl, rfl⟩ <;> decide
    refine ⟨by rw [h1, rc_app, ih.1]; omega, fun n => ?_⟩
    cases n with
    | zero => simp [rc]
    | succ n =>
      rw [List.take_succ_cons, h1, List.take_append, rc_app]
      have := ih.2 n
      rcases Nat.eq_zero_or_pos (n - a.length) with h | h
      · rw [h]; simp only [List.take_zero, rc_nil]; omega
      · rw [List.take_of_length_le (l := [41]) (i := n - a.length) (by show 1 ≤ _; omega)]; omega
  | @crl a _ ih =>
    have h1 : ∀ x : List UInt8, rc o c (123 :: x) = rc o c [123] + rc o c x := fun x => rc_app o c [123] x
    have e : 0 ≤ rc o c [123] ∧ rc o c [123] + rc o c [125] = 0 := by rcases hoc with ⟨rfl, rfl⟩ | ⟨rfl, rfl⟩ <;> decide
    refine ⟨by rw [h1, rc_app, ih.1]; omega, fun n => ?_⟩
    cases n with
    | zero => simp [rc]
    | succ n =>
      rw [List.take_succ_cons, h1, List.take_append, rc_app]
      have := ih.2 n
      rcases Nat.eq_zero_or_pos (n - a.length) with h | h
      · rw [h]; simp only [List.take_zero, rc_nil]; omega
      · rw [List.take_of_length_le (l := [125]) (i := n - a.length) (by show 1 ≤ _; omega)]; omega

theorem br_fit {s : Str} (h : fitB s = true) : Br (bs s) := by
  refine Br.all fun x hx => ?_
  simp only [fitB, Bool.and_eq_true, Lib.toList_data, List.all_eq_true] at h
  have := h.2 x hx
  simp only [prtB, digB, smlB, grtB, Bool.or_eq_true, decide_eq_true_eq] at this
  refine ⟨?_, ?_, ?_, ?_⟩ <;> (rintro rfl; revert this; decide)
theorem br_op {s : Str} (h : (doesB s || holdsB s) = true) : Br (bs s) := by
  refine Br.all fun x hx => ?_
  have := op_some h
  simp only [List.mem_cons, List.not_mem_nil, or_false] at this
  rcases this with e | e | e | e | e | e <;> (rw [e] at hx; simp at hx; try rcases hx with rfl | rfl) <;> simp_all
theorem br_dig (u : Nat) : Br (Lib.decDigits u) := by
  induction u using Nat.strongRecOn with
  | ind u ih =>
    rw [Lib.decDigits]
    have hd : ∀ m : Nat, m < 10 → Br [UInt8.ofNat (48 + m)] := by
      intro m hm
      refine .one ?_
      rcases (by omega : m = 0 ∨ m = 1 ∨ m = 2 ∨ m = 3 ∨ m = 4 ∨ m = 5 ∨ m = 6 ∨ m = 7 ∨ m = 8 ∨ m = 9) with rfl | rfl | rfl | rfl | rfl | rfl | rfl | rfl | rfl | rfl <;> decide
    split
    · exact hd u (by omega)
    · exact .app (ih (u / 10) (by omega)) (hd _ (by omega))
theorem br_nm (l : List Str) (h : ∀ x ∈ l, nameB x = true) : Br (nmT l) := by
  induction l with
  | nil => exact .nil
  | cons x r ih => exact .app (a := [32] ++ bs x) (.app (.one (by decide)) (br_fit (nameB_fit (h x (by simp))))) (ih fun y hy => h y (by simp [hy]))
theorem br_seq (r : List Ex) (h : ∀ e ∈ r, Br (textE e)) : Br (seqT (r.map textE)) := by
  induction r with
  | nil => exact .nil
  | cons x r ih =>
    have h1 := h x (by simp)
    have h2 := ih fun y hy => h y (by simp [hy])
    cases r with
    | nil => simpa only [List.map_cons, List.map_nil, seq_one] using h1
    | cons y r =>
      simp only [List.map_cons, seq_cons] at h2 ⊢
      exact .app h1 (.app (.all (by decide)) h2)
theorem br_atom {e : Ex} (h : Br (textE e)) : Br (atomE e) := by
  rcases atom_cases e with h' | h' <;> rw [h']
  · exact h
  · exact .rnd h
theorem br_list (r : List Ex) (h : ∀ e ∈ r, Br (textE e)) : Br ([123, 32] ++ (seqT (r.map textE) ++ [32, 125])) := by
  have : Br (123 :: (([32] ++ (seqT (r.map textE) ++ [32])) ++ [125])) := .crl (.app (.one (by decide)) (.app (br_seq r h) (.one (by decide))))
  simpa using this
theorem text_br : ∀ {e : Ex}, Snd e → Br (textE e) := by
  intro e h
  induction h with
  | @int n h0 =>
    rw [tx_int]
    obtain ⟨u, rfl⟩ := Int.eq_ofNat_of_zero_le h0
    rw [Lib.itoa, if_neg (by omega)]; exact br_dig _
  | @var s h => rw [tx_var]; exact br_fit (nameB_fit h)
  | @con s h => rw [tx_con]; exact br_fit (conB_fit h)
  | @lam x a h _ _ ih => rw [tx_lam]; exact .app (a := [92]) (.one (by decide)) (.app (br_fit (nameB_fit h)) (.app (.all (by decide)) ih))
  | @app a b _ _ _ _ i1 i2 => rw [tx_app]; exact .app (br_atom i1) (.app (a := [32]) (.one (by decide)) (br_atom i2))
  | @lt x a b h _ _ _ _ i1 i2 => rw [tx_let]; exact .app (.all (by decide)) (.app (br_fit (nameB_fit h)) (.app (.all (by decide)) (.app i1 (.app (.all (by decide)) i2))))
  | @cs a r _ _ _ _ _ i1 i2 =>
    rw [tx_case]
    have : Br ([99, 97, 115, 101, 32] ++ (textE a ++ ([32, 111, 102, 32] ++ ([123, 32] ++ (seqT (r.map textE) ++ [32, 125]))))) := .app (.all (by decide)) (.app i1 (.app (.all (by decide)) (br_list r i2)))
    simpa using this
  | @alt c l a h hl _ _ ih =>
    rw [tx_alt]
    simp only [namesB, Bool.and_eq_true, List.all_eq_true] at hl
    exact .app (br_fit (conB_fit h)) (.app (br_nm l hl.1) (.app (.all (by decide)) ih))
  | @op o a b h _ _ _ _ i1 i2 => rw [tx_op]; exact .app (br_atom i1) (.app (a := [32]) (.one (by decide)) (.app (br_op h) (.app (a := [32]) (.one (by decide)) (br_atom i2))))
  | @iff a b c _ _ _ _ _ _ i1 i2 i3 => rw [tx_if]; exact .app (.all (by decide)) (.app i1 (.app (.all (by decide)) (.app i2 (.app (.all (by decide)) i3))))
  | @blk k r z h _ _ _ _ i1 i2 =>
    have hl := br_list (r ++ [z]) fun e he => by
      rcases List.mem_append.1 he with h | h
      · exact i1 e h
      · rw [List.mem_singleton] at h; subst h; exact i2
    rcases h with rfl | rfl
    · rw [tx_do]
      have : Br ([100, 111, 32] ++ ([123, 32] ++ (seqT ((r ++ [z]).map textE) ++ [32, 125]))) := .app (.all (by decide)) hl
      simpa using this
    · rw [tx_dos]
      have : Br ([100, 111, 115, 32] ++ ([123, 32] ++ (seqT ((r ++ [z]).map textE) ++ [32, 125]))) := .app (.all (by decide)) hl
      simpa using this
  | @bind x a h _ _ ih => rw [tx_bind]; exact .app (br_fit (nameB_fit h)) (.app (.all (by decide)) ih)
end Go.Proofs.YtpdfeadajgokkaaGreatDoor
