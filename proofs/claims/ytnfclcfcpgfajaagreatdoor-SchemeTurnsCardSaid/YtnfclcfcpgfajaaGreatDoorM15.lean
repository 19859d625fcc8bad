/- A part of the proof that parser laws hold: texts of the walk and of its plain laws, made small. -/
import Derived.Test.YtnfclcfcpgfajaaGreatDoorM14
import Derived.OrdersIn
set_option linter.unusedVariables false
set_option linter.unusedSimpArgs false
/- Regions that draw their order: bits, who is ahead of whom, and names. -/
namespace Go.Proofs.YtnfclcfcpgfajaaGreatDoor.Ev
open Go Go.RowKit

theorem bitOf_eq (m t : Nat) : bitOf m t = m.testBit t := by
  have h : bitOf m t = Nat.beq ((m >>> t) &&& 1) 1 := rfl
  rw [h, Nat.testBit_eq_decide_div_mod_eq, Nat.and_one_is_mod, Nat.shiftRight_eq_div_pow]
  cases hc : Nat.beq (m / 2 ^ t % 2) 1 with
  | true => rw [beq_t hc]; rfl
  | false =>
    have : m / 2 ^ t % 2 ≠ 1 := fun e => by rw [e] at hc; cases hc
    simp [this]
theorem bitOf_lor (a b j : Nat) : bitOf (Nat.lor a b) j = (bitOf a j || bitOf b j) := by
  rw [bitOf_eq, bitOf_eq, bitOf_eq]
  exact Nat.testBit_or a b j
theorem bitOf_one (i j : Nat) : bitOf (Nat.shiftLeft 1 i) j = decide (j = i) := by
  rw [bitOf_eq]
  have h : Nat.shiftLeft 1 i = 2 ^ i := by
    show 1 <<< i = 2 ^ i
    rw [Nat.shiftLeft_eq, Nat.one_mul]
  rw [h, Nat.testBit_two_pow]
  by_cases e : i = j
  · subst e; simp
  · simp [e, Ne.symm e]
theorem bitOf_add (a i j : Nat) : bitOf (Nat.lor a (Nat.shiftLeft 1 i)) j = (bitOf a j || decide (j = i)) := by rw [bitOf_lor, bitOf_one]
theorem bitOf_zero (j : Nat) : bitOf 0 j = false := by rw [bitOf_eq]; exact Nat.zero_testBit j
theorem rdy_iff {dm : Nat} {d : Cd} : isRdy dm d = true ↔ ∀ j, bitOf d.m j = true → bitOf dm j = true := by
  unfold isRdy
  constructor
  · intro h j hj
    have e : d.m &&& dm = d.m := beq_t h
    rw [bitOf_eq] at hj ⊢
    rw [← e, Nat.testBit_and, Bool.and_eq_true] at hj
    exact hj.2
  · intro h
    have e : d.m &&& dm = d.m := by
      apply Nat.eq_of_testBit_eq
      intro j
      rw [Nat.testBit_and]
      cases hj : d.m.testBit j with
      | false => rfl
      | true =>
        have := h j (by rw [bitOf_eq]; exact hj)
        rw [bitOf_eq] at this
        rw [this]
        rfl
    have e' : Nat.land d.m dm = d.m := e
    rw [e']
    exact Nat.beq_refl _
theorem bit_low {m i j : Nat} (h : m < 2 ^ i) (hj : bitOf m j = true) : j < i := by
  rw [bitOf_eq] at hj
  have := Nat.ge_two_pow_of_testBit hj
  rcases Nat.lt_or_ge j i with hlt | hge
  · exact hlt
  · have h2 : 2 ^ i ≤ 2 ^ j := Nat.pow_le_pow_right (by omega) hge
    omega
theorem lowM_get : ∀ {l : List Nat} {i : Nat}, lowM l i = true → ∀ j m, l[j]? = some m → m < 2 ^ (i + j)
  | [], _, _, j, m, h => by simp at h
  | x :: l, i, h, j, m, hm => by
    obtain ⟨h1, h2⟩ := nb_t (show nb (Nat.ble (Nat.succ x) (Nat.shiftLeft 1 i)) (lowM l (Nat.succ i)) = true from h)
    cases j with
    | zero =>
      cases hm
      have h3 : x < Nat.shiftLeft 1 i := ble_t h1
      have h4 : Nat.shiftLeft 1 i = 2 ^ i := by
        show 1 <<< i = 2 ^ i
        rw [Nat.shiftLeft_eq, Nat.one_mul]
      rw [h4] at h3
      exact h3
    | succ j =>
      have := lowM_get h2 j m (by simpa using hm)
      rw [show i + (j + 1) = Nat.succ i + j by omega]
      exact this
/-! ### Who is ahead of whom -/
theorem maskFold (acc : List Nat) (j : Nat) : ∀ (l : List Edge) (s : Nat), bitOf (l.foldl (fun s e => bi (Region.binds .any e) (Nat.lor (Nat.lor s (Nat.shiftLeft 1 e.on)) (acc.getD e.on 0)) s) s) j = true ↔ bitOf s j = true ∨ ∃ e ∈ l, Region.binds .any e = true ∧ (e.on = j ∨ bitOf (acc.getD e.on 0) j = true)
  | [], s => by simp
  | e :: l, s => by
    rw [List.foldl_cons, maskFold acc j l]
    cases hb : Region.binds .any e with
    | false =>
      rw [bi_f]
      constructor
      · rintro (h | ⟨e', h1, h2⟩)
        · exact .inl h
        · exact .inr ⟨e', List.mem_cons_of_mem _ h1, h2⟩
      · rintro (h | ⟨e', h1, h2, h3⟩)
        · exact .inl h
        · rcases List.mem_cons.1 h1 with rfl | h1
          · rw [hb] at h2; cases h2
          · exact .inr ⟨e', h1, h2, h3⟩
    | true =>
      rw [bi_t, bitOf_lor, bitOf_add]
      constructor
      · rintro (h | ⟨e', h1, h2⟩)
        · rw [Bool.or_eq_true, Bool.or_eq_true] at h
          rcases h with h | h
          · rcases h with h | h
            · exact .inl h
            · exact .inr ⟨e, by simp, hb, .inl (of_decide_eq_true h).symm⟩
          · exact .inr ⟨e, by simp, hb, .inr h⟩
        · exact .inr ⟨e', List.mem_cons_of_mem _ h1, h2⟩
      · rintro (h | ⟨e', h1, h2, h3⟩)
        · exact .inl (by rw [h]; rfl)
        · rcases List.mem_cons.1 h1 with rfl | h1
          · rcases h3 with h3 | h3
            · exact .inl (by rw [h3]; simp)
            · exact .inl (by rw [h3]; simp)
          · exact .inr ⟨e', h1, h2, h3⟩
theorem mask_iff (acc : List Nat) (o : Oper) (j : Nat) : bitOf (maskOf acc o) j = true ↔ ∃ e ∈ o.after, Region.binds .any e = true ∧ (e.on = j ∨ bitOf (acc.getD e.on 0) j = true) := by
  unfold maskOf
  rw [maskFold, bitOf_zero]
  simp
theorem masks_app : ∀ (l : List Oper) (acc : List Nat), (masks l acc).length = acc.length + l.length ∧ (masks l acc).take acc.length = acc
  | [], acc => by simp [masks]
  | o :: l, acc => by
    have h := masks_app l (acc ++ [maskOf acc o])
    rw [List.length_append] at h
    refine ⟨by rw [masks, h.1]; simp; omega, ?_⟩
    have h2 := h.2
    rw [masks]
    have h3 : ((masks l (acc ++ [maskOf acc o])).take (acc.length + [maskOf acc o].length)).take acc.length = (acc ++ [maskOf acc o]).take acc.length := by rw [h2]
    rw [List.take_take] at h3
    simpa using h3
theorem masks_get : ∀ (l : List Oper) (acc : List Nat) (i : Nat) (o : Oper), l[i]? = some o → (masks l acc)[acc.length + i]? = some (maskOf ((masks l acc).take (acc.length + i)) o)
  | [], acc, i, o, h => by simp at h
  | x :: l, acc, i, o, h => by
    have ha := masks_app l (acc ++ [maskOf acc x])
    cases i with
    | zero =>
      have hxo : x = o := by simpa using h
      subst hxo
      have h2 := ha.2
      have e1 : (masks l (acc ++ [maskOf acc x])).take acc.length = acc := by
        have := (masks_app (x :: l) acc).2
        rwa [masks] at this
      show (masks l (acc ++ [maskOf acc x]))[acc.length]? = some (maskOf ((masks l (acc ++ [maskOf acc x])).take acc.length) x)
      rw [e1]
      have h3 : ((masks l (acc ++ [maskOf acc x])).take (acc ++ [maskOf acc x]).length)[acc.length]? = (acc ++ [maskOf acc x])[acc.length]? := by rw [h2]
      rw [List.getElem?_take, if_pos (by simp)] at h3
      rw [h3]
      simp
    | succ i =>
      have := masks_get l (acc ++ [maskOf acc x]) i o (by simpa using h)
      rw [List.length_append, List.length_singleton] at this
      rw [masks, show acc.length + (i + 1) = acc.length + 1 + i by omega]
      exact this
/-- The bits of one operation. -/
theorem masks_bit {l : List Oper} {i : Nat} {o : Oper} (ho : l[i]? = some o) (j : Nat) : bitOf ((masks l []).getD i 0) j = true ↔ ∃ e ∈ o.after, Region.binds .any e = true ∧ (e.on = j ∨ (e.on < i ∧ bitOf ((masks l []).getD e.on 0) j = true)) := by
  have h := masks_get l [] i o ho
  simp only [List.length_nil, Nat.zero_add] at h
  rw [List.getD_eq_getElem?_getD, h, Option.getD_some, mask_iff]
  have key : ∀ k, bitOf (((masks l []).take i).getD k 0) j = true ↔ k < i ∧ bitOf ((masks l []).getD k 0) j = true := fun k => by
    rw [List.getD_eq_getElem?_getD, List.getElem?_take]
    by_cases hk : k < i
    · rw [if_pos hk, ← List.getD_eq_getElem?_getD]; simp [hk]
    · rw [if_neg hk]; simp [hk, bitOf_zero]
  constructor
  · rintro ⟨e, h1, h2, h3⟩
    exact ⟨e, h1, h2, h3.imp_right (key _).1⟩
  · rintro ⟨e, h1, h2, h3⟩
    exact ⟨e, h1, h2, h3.imp_right (key _).2⟩
/-- What is closed under those directly ahead is closed under all those ahead. -/
theorem masks_closed {l : List Oper} {f : Nat → Prop} (hf : ∀ j, f j → ∀ o, l[j]? = some o → ∀ e ∈ o.after, Region.binds .any e = true → f e.on) :
    ∀ (i : Nat) (o : Oper), l[i]? = some o → (∀ e ∈ o.after, Region.binds .any e = true → f e.on) → ∀ j, bitOf ((masks l []).getD i 0) j = true → f j := by
  intro i
  induction i using Nat.strongRecOn with
  | _ i ih =>
    intro o ho hd j hj
    obtain ⟨e, h1, h2, h3⟩ := (masks_bit ho j).1 hj
    rcases h3 with rfl | ⟨h3, h4⟩
    · exact hd e h1 h2
    · cases hl : l[e.on]? with
      | none =>
        have hlen : (masks l []).length = l.length := by have := (masks_app l []).1; simpa using this
        have : l.length ≤ e.on := List.getElem?_eq_none_iff.1 hl
        rw [List.getD_eq_getElem?_getD, List.getElem?_eq_none_iff.2 (by omega)] at h4
        simp [bitOf_zero] at h4
      | some o' => exact ih e.on h3 o' hl (fun e' g1 g2 => hf e.on (hd e h1 h2) o' hl e' g1 g2) j h4
/-! ### Names -/
theorem namesOk_low {ops : Array Oper} {ms : List Nat} (h : namesOk ops ms = true) {i j : Nat} (hj : bitOf (ms.getD i 0) j = true) : j < i := by
  have h1 := (nb_t h).1
  cases hm : ms[i]? with
  | none =>
    rw [List.getD_eq_getElem?_getD, hm] at hj
    simp [bitOf_zero] at hj
  | some m =>
    rw [List.getD_eq_getElem?_getD, hm] at hj
    have := lowM_get h1 i m hm
    rw [Nat.zero_add] at this
    exact bit_low this hj
theorem namesOk_ahead {ops : Array Oper} {ms : List Nat} (h : namesOk ops ms = true) {i j : Nat} {o w : Oper} {t : Tmp} (ho : ops[j]? = some o) (hw : ops[i]? = some w) (ht : t ∈ names ops o) (hd : w.dst = some t) (hij : i ≠ j) : bitOf (ms.getD j 0) i = true ∨ bitOf (ms.getD i 0) j = true := by
  have h1 := (nb_t h).2
  unfold namesAll at h1
  rw [List.all_eq_true] at h1
  have h2 := h1 (o, j) (by rw [List.mk_mem_zipIdx_iff_getElem?]; simpa using ho)
  simp only [List.all_eq_true] at h2
  have h3 := h2 t ht (w, i) (by rw [List.mk_mem_zipIdx_iff_getElem?]; simpa using hw)
  have hb : Nat.beq i j = false := by
    cases hq : Nat.beq i j with
    | true => exact absurd (beq_t hq) hij
    | false => rfl
  simp only [hb, bi_f, hd, Nat.beq_refl, bi_t, Bool.or_eq_true] at h3
  rw [bitOf_eq, bitOf_eq]
  exact h3
/-- The last of those who write a name, among some. -/
def posP (p : Nat → Bool) (t : Tmp) : List (Nat × Option Tmp) → Option Ref
  | [] => none
  | (i, d) :: l => if d = some t ∧ p i = true then some (.v i) else posP p t l
theorem posD_eq (t : Tmp) (m : Nat) : ∀ l, posD t m l = posP (bitOf m) t l
  | [] => rfl
  | (i, d) :: l => by
    show bi (nb (match d with
      | some u => Nat.beq u t
      | none => false) (bitOf m i)) (some (.v i)) (posD t m l) = if d = some t ∧ bitOf m i = true then some (.v i) else posP (bitOf m) t l
    rw [posD_eq t m l, bi_eq]
    congr 1
    rw [nb_eq, Bool.and_eq_true]
    cases d with
    | none => simp
    | some u =>
      simp only [Option.some.injEq, eq_iff_iff]
      constructor
      · rintro ⟨h1, h2⟩; exact ⟨beq_t h1, h2⟩
      · rintro ⟨rfl, h2⟩; exact ⟨Nat.beq_refl _, h2⟩
theorem posP_cons (p : Nat → Bool) (t : Tmp) (i : Nat) (d : Option Tmp) (l : List (Nat × Option Tmp)) : posP p t ((i, d) :: l) = if d = some t ∧ p i = true then some (.v i) else posP p t l := rfl
theorem posP_congr {p q : Nat → Bool} {t : Tmp} : ∀ {l : List (Nat × Option Tmp)}, (∀ i, (i, some t) ∈ l → p i = q i) → posP p t l = posP q t l
  | [], _ => rfl
  | (i, d) :: l, h => by
    rw [posP_cons, posP_cons, posP_congr (l := l) fun i hi => h i (List.mem_cons_of_mem _ hi)]
    by_cases hd : d = some t
    · subst hd
      rw [h i (by simp)]
    · rw [if_neg (fun x => hd x.1), if_neg (fun x => hd x.1)]
theorem posP_skip {p : Nat → Bool} {t : Tmp} : ∀ {l m : List (Nat × Option Tmp)}, (∀ i, (i, some t) ∈ l → p i = false) → posP p t (l ++ m) = posP p t m
  | [], _, _ => rfl
  | (i, d) :: l, m, h => by
    rw [List.cons_append, posP_cons, posP_skip (l := l) fun i hi => h i (List.mem_cons_of_mem _ hi), if_neg]
    rintro ⟨rfl, h2⟩
    rw [h i (by simp)] at h2
    cases h2
theorem posP_mem {p : Nat → Bool} {t : Tmp} : ∀ {l : List (Nat × Option Tmp)} {r : Ref}, posP p t l = some r → ∃ i, r = .v i ∧ (i, some t) ∈ l ∧ p i = true
  | [], r, h => by cases h
  | (i, d) :: l, r, h => by
    rw [posP_cons] at h
    split at h
    · rename_i hc
      cases h
      exact ⟨i, rfl, by rw [hc.1]; simp, hc.2⟩
    · obtain ⟨i', h1, h2, h3⟩ := posP_mem h
      exact ⟨i', h1, List.mem_cons_of_mem _ h2, h3⟩
end Go.Proofs.YtnfclcfcpgfajaaGreatDoor.Ev

/- What is one to the letter; what an operation that makes a block makes. -/
namespace Go.Proofs.YtnfclcfcpgfajaaGreatDoor.Ev
open Go Go.RowKit

theorem eqAll_eq {f : Value → Value → Bool} (hf : ∀ a b, f a b = true → a = b) : ∀ {l m : List Value}, eqAll f l m = true → l = m
  | [], [], _ => rfl
  | [], _ :: _, h => by cases h
  | _ :: _, [], h => by cases h
  | a :: l, b :: m, h => by
    obtain ⟨h1, h2⟩ := nb_t (show nb (f a b) (eqAll f l m) = true from h)
    rw [hf a b h1, eqAll_eq hf h2]
theorem eqAddr_eq {a b : Option Addr} (h : eqAddr a b = true) : a = b := by
  cases a with
  | none => cases b with
    | none => rfl
    | some b => cases h
  | some a => cases b with
    | none => cases h
    | some b =>
      obtain ⟨h1, h2⟩ := nb_t (show nb (eqA a b) (nb a.spot.isNone b.spot.isNone) = true from h)
      obtain ⟨h3, h4⟩ := nb_t (show nb (Nat.beq a.block b.block) (Nat.beq a.off b.off) = true from h1)
      obtain ⟨h5, h6⟩ := nb_t h2
      obtain ⟨ab, ao, as⟩ := a
      obtain ⟨bb, bo, bs⟩ := b
      have e1 : ab = bb := beq_t h3
      have e2 : ao = bo := beq_t h4
      have e3 : as = none := Option.isNone_iff_eq_none.1 h5
      have e4 : bs = none := Option.isNone_iff_eq_none.1 h6
      rw [e1, e2, e3, e4]
theorem same_eq : ∀ (n : Nat) (a b : Value), same n a b = true → a = b
  | 0, _, _, h => by cases h
  | n + 1, a, b, h => by
    have ih := same_eq n
    cases a with
    | bool x => cases b with
      | bool y =>
        have h1 : beqB x y = true := h
        rw [beqB_eq] at h1
        rw [eq_of_beq h1]
      | _ => cases h
    | int k i => cases b with
      | int l j =>
        obtain ⟨h1, h2⟩ := nb_t (show nb (Nat.beq (kNum k) (kNum l)) (ieq i j) = true from h)
        rw [ieq_eq] at h2
        rw [kNum_inj h1, of_decide_eq_true h2]
      | _ => cases h
    | string s => cases b with
      | string t =>
        have h1 : eqBytes s.data.toList t.data.toList = true := h
        rw [eqBytes_eq] at h1
        congr 1
        apply ByteArray.ext
        apply Array.toList_inj.1
        exact eq_of_beq h1
      | _ => cases h
    | pointer x => cases b with
      | pointer y => rw [eqAddr_eq (show eqAddr x y = true from h)]
      | _ => cases h
    | slice x n c => cases b with
      | slice y m d =>
        obtain ⟨h1, h2⟩ := nb_t (show nb (eqAddr x y) (nb (Nat.beq n m) (Nat.beq c d)) = true from h)
        obtain ⟨h3, h4⟩ := nb_t h2
        rw [eqAddr_eq h1, beq_t h3, beq_t h4]
      | _ => cases h
    | map x => cases b with
      | map y =>
        cases x with
        | none => cases y with
          | none => rfl
          | some y => cases h
        | some x => cases y with
          | none => cases h
          | some y => rw [beq_t (show Nat.beq x y = true from h)]
      | _ => cases h
    | nilFunc => cases b with
      | nilFunc => rfl
      | _ => cases h
    | nilIface => cases b with
      | nilIface => rfl
      | _ => cases h
    | func f a c => cases b with
      | func g b d =>
        obtain ⟨h1, h2⟩ := nb_t (show nb (decide (f = g)) (nb (eqAll (same n) a.toList b.toList) (eqAll (same n) c.toList d.toList)) = true from h)
        obtain ⟨h3, h4⟩ := nb_t h2
        rw [of_decide_eq_true h1, Array.toList_inj.1 (eqAll_eq ih h3), Array.toList_inj.1 (eqAll_eq ih h4)]
      | _ => cases h
    | iface t v => cases b with
      | iface u w =>
        obtain ⟨h1, h2⟩ := nb_t (show nb (Nat.beq t u) (same n v w) = true from h)
        rw [beq_t h1, ih _ _ h2]
      | _ => cases h
    | agg a => cases b with
      | agg b => rw [Array.toList_inj.1 (eqAll_eq ih (show eqAll (same n) a.toList b.toList = true from h))]
      | _ => cases h
    | tuple a => cases b with
      | tuple b => rw [Array.toList_inj.1 (eqAll_eq ih (show eqAll (same n) a.toList b.toList = true from h))]
      | _ => cases h
    | _ => cases b <;> cases h
theorem sameOb_eq {a b : Ob} (h : sameOb a b = true) : a = b := by
  cases a with
  | row a t f x => cases b with
    | row c u g y =>
      obtain ⟨h1, h2⟩ := nb_t (show nb (Nat.beq t u) (nb (Nat.beq f g) (nb (Nat.beq x y) (eqAll (same 20) a c))) = true from h)
      obtain ⟨h3, h4⟩ := nb_t h2
      obtain ⟨h5, h6⟩ := nb_t h4
      rw [beq_t h1, beq_t h3, beq_t h5, eqAll_eq (same_eq 20) h6]
    | _ => cases h
  | map es c => cases b with
    | map fs d =>
      obtain ⟨h1, h2⟩ := nb_t (show nb (nb es.isEmpty fs.isEmpty) (nb (Nat.beq c 0) (Nat.beq d 0)) = true from h)
      obtain ⟨h3, h4⟩ := nb_t h1
      obtain ⟨h5, h6⟩ := nb_t h2
      rw [List.isEmpty_iff.1 h3, List.isEmpty_iff.1 h4, beq_t h5, beq_t h6]
    | _ => cases h
  | _ => cases h
section
variable {P : Program}
theorem nRow_mk {e : TypeId} {mk0 : Nat → Value} {z : Option (List Value)} {b : Ob} {mk : Nat → Value} (h : nRow e mk0 z = some (b, mk)) : mk = mk0 := by
  cases z with
  | none => cases h
  | some cs => cases h; rfl
/-- The block of what is made. -/
theorem make_blk {o : Oper} {f : (Operand → Value) → Mk} {ev : Operand → Value} {b : Ob} {mk : Nat → Value} (ha : actOf P o = .make f) (hf : f ev = some (b, mk)) : ∀ u, blkOf (mk u) = some u := by
  obtain ⟨dst, op, type, p, after, guard⟩ := o
  cases op <;> simp only [actOf] at ha <;> (try cases ha)
  case alloc e => rw [nRow_mk hf]; exact fun _ => rfl
  case box e x =>
    simp only [nBox] at hf
    split at hf
    · obtain ⟨_, h⟩ := bi_some hf; cases h; exact fun _ => rfl
    · cases hf
  case buildSlice t len parts =>
    simp only [nSlice] at hf
    split at hf
    · obtain ⟨_, h⟩ := bi_some hf; rw [nRow_mk h]; exact fun _ => rfl
    · cases hf
  case convert src dst x =>
    cases hcv : cvOf P src dst <;> simp only [hcv, convAct] at ha <;> cases ha
    simp only [nBytes] at hf
    split at hf
    · obtain ⟨_, h⟩ := bi_some hf; cases h; exact fun _ => rfl
    · cases hf
  case makeMap t r =>
    simp only [nMake] at hf
    split at hf
    · cases hf; exact fun _ => rfl
    · split at hf
      · obtain ⟨_, h⟩ := bi_some hf; cases h; exact fun _ => rfl
      · cases hf
  case makeSlice t l c =>
    simp only [nMakeSl] at hf
    split at hf
    · obtain ⟨l0, c0, _, _, g0⟩ := two_some hf
      obtain ⟨_, h⟩ := bi_some g0; cases h; exact fun _ => rfl
    · cases hf
  case makeFunc fn _ _ => cases fn <;> cases ha
  case call c =>
    cases hc : c.callee with
    | value g => simp only [callAct, hc] at ha; cases ha
    | invoke _ _ => simp only [callAct, hc] at ha; cases ha
    | builtin b =>
      simp only [callAct, hc] at ha
      exact (aBuiltin_make ha).elim
  case defer c => cases hc : c.callee <;> simp only [hc] at ha <;> cases ha
/-- What was made is still as it was made. -/
theorem stillN_some {S : St} {v : Value} {m : Mk} (h : stillN S v m = true) {o : Ob} {mk : Nat → Value} (hm : m = some (o, mk)) {u : Nat} (hv : v = mk u) (hb : blkOf (mk u) = some u) : S.h.get u = some o := by
  subst hm
  have h1 : (match blkOf v with
    | some b => obIs o (S.h.get b)
    | none => false) = true := h
  rw [hv, hb] at h1
  have h2 : obIs o (S.h.get u) = true := h1
  cases ho : S.h.get u with
  | none => rw [ho] at h2; cases h2
  | some o' =>
    rw [ho] at h2
    rw [sameOb_eq (show sameOb o o' = true from h2)]
theorem stillR_some {v : Value} {o : Option Value} (h : stillR v o = true) : o = some v := by
  cases o with
  | none => cases h
  | some w => rw [same_eq 20 w v h]
end
end Go.Proofs.YtnfclcfcpgfajaaGreatDoor.Ev

/- Regions that draw their order: what the evaluator keeps on its way. -/
namespace Go.Proofs.YtnfclcfcpgfajaaGreatDoor.Ev
open Go Go.RowKit

/-- Who writes which name, the last first. -/
def dsOf (L : List Oper) : Nat → List (Nat × Option Tmp)
  | 0 => []
  | i + 1 => (i, (L[i]?).bind (·.dst)) :: dsOf L i
theorem dsOf_mem {L : List Oper} {j : Nat} {t : Tmp} : ∀ {i : Nat}, (j, some t) ∈ dsOf L i → j < i ∧ ∃ o, L[j]? = some o ∧ o.dst = some t
  | 0, h => by cases h
  | i + 1, h => by
    rcases List.mem_cons.1 h with h | h
    · simp only [Prod.mk.injEq] at h
      obtain ⟨rfl, h⟩ := h
      cases ho : L[j]? with
      | none => rw [ho] at h; cases h
      | some o => rw [ho] at h; exact ⟨by omega, o, rfl, h.symm⟩
    · obtain ⟨h1, h2⟩ := dsOf_mem h
      exact ⟨by omega, h2⟩
theorem dsOf_has {L : List Oper} {j : Nat} {o : Oper} {t : Tmp} (ho : L[j]? = some o) (hd : o.dst = some t) : ∀ {i : Nat}, j < i → (j, some t) ∈ dsOf L i
  | 0, h => by omega
  | i + 1, h => by
    by_cases e : j = i
    · subst e
      simp [dsOf, ho, hd]
    · exact List.mem_cons_of_mem _ (dsOf_has ho hd (by omega))
theorem dsOf_split (L : List Oper) {i : Nat} : ∀ {n : Nat}, i ≤ n → ∃ l, dsOf L n = l ++ dsOf L i ∧ ∀ j d, (j, d) ∈ l → i ≤ j
  | 0, h => ⟨[], by rw [show i = 0 by omega]; rfl, fun j d h => by cases h⟩
  | n + 1, h => by
    by_cases e : i = n + 1
    · exact ⟨[], by rw [e]; rfl, fun j d h => by cases h⟩
    · obtain ⟨l, h1, h2⟩ := dsOf_split L (n := n) (i := i) (by omega)
      refine ⟨(n, (L[n]?).bind (·.dst)) :: l, by rw [dsOf, h1]; rfl, fun j d hj => ?_⟩
      rcases List.mem_cons.1 hj with hj | hj
      · simp only [Prod.mk.injEq] at hj
        omega
      · exact h2 j d hj
section
variable (P : Program) (lv : Nat) (ops : Array Oper)
noncomputable def msOf : List Nat := masks ops.toList []
/-- An operation, made ready. -/
noncomputable def cdOf (i : Nat) (o : Oper) : Cd := ⟨i, (msOf ops).getD i 0, o, guardT ops o, actOf P o, refD P lv ((msOf ops).getD i 0) (dsOf ops.toList i)⟩
def CdOk (d : Cd) : Prop := ∃ o, ops[d.i]? = some o ∧ d = cdOf P lv ops d.i o
end
section
variable {P : Program} {lv : Nat} {ops : Array Oper} {t : Tr Value} {M : Nat}
theorem compD_all : ∀ (l : List Oper) (i : Nat), (∀ k, l[k]? = ops.toList[i + k]?) → (∀ d ∈ compD P lv ops (msOf ops) l i (dsOf ops.toList i), CdOk P lv ops d) ∧ (compD P lv ops (msOf ops) l i (dsOf ops.toList i)).map (·.i) = List.range' i l.length
  | [], i, _ => ⟨(fun d h => by cases h), rfl⟩
  | o :: l, i, h => by
    have h0 : ops.toList[i]? = some o := by have := h 0; simpa using this.symm
    have hd : (i, o.dst) :: dsOf ops.toList i = dsOf ops.toList (i + 1) := by rw [dsOf, h0]; rfl
    have e : compD P lv ops (msOf ops) (o :: l) i (dsOf ops.toList i) = cdOf P lv ops i o :: compD P lv ops (msOf ops) l (i + 1) (dsOf ops.toList (i + 1)) := by
      rw [← hd]; rfl
    obtain ⟨h1, h2⟩ := compD_all l (i + 1) (fun k => by
      have := h (k + 1)
      rw [List.getElem?_cons_succ] at this
      rw [this, show i + (k + 1) = i + 1 + k by omega])
    rw [e]
    refine ⟨fun d hm => ?_, ?_⟩
    · rcases List.mem_cons.1 hm with rfl | hm
      · exact ⟨o, by rw [← Array.getElem?_toList]; exact h0, rfl⟩
      · exact h1 d hm
    · rw [List.map_cons, h2, List.length_cons, List.range'_succ]
      rfl
theorem refD_v {m : Nat} {ds : List (Nat × Option Tmp)} {x : Operand} {j : Nat} (h : refD P lv m ds x = .v j) : bitOf m j = true ∧ ∃ t, x = .tmp t ∧ (j, some t) ∈ ds := by
  cases x with
  | tmp t =>
    have h1 : baseRef lv t (posD t m ds) = .v j := h
    have h2 := base_v h1
    rw [posD_eq] at h2
    obtain ⟨i, h3, h4, h5⟩ := posP_mem h2
    cases h3
    exact ⟨h5, t, rfl, h4⟩
  | const v => cases h
  | global g => cases h
  | func f => cases h
theorem didV_cons (i : Nat) (D : Did) (l : List Did) : didV i (D :: l) = if D.d.i = i then D.v else didV i l := by
  show bi (Nat.beq D.d.i i) D.v (didV i l) = _
  rw [bi_eq]
  by_cases h : D.d.i = i
  · subst h; simp
  · simp [h]
theorem didV_mem : ∀ {l : List Did} {D : Did}, (l.map (·.d.i)).Nodup → D ∈ l → didV D.d.i l = D.v
  | [], D, _, hm => by cases hm
  | E :: l, D, hn, hm => by
    rw [List.map_cons, List.nodup_cons] at hn
    rw [didV_cons]
    rcases List.mem_cons.1 hm with rfl | hm
    · rw [if_pos rfl]
    · rw [if_neg (fun e => hn.1 (by rw [e]; exact List.mem_map.2 ⟨D, hm, rfl⟩))]
      exact didV_mem hn.2 hm
theorem gd_cons {did : List Did} {D : Did} {r : Ref} (h : r ≠ .v D.d.i) : gd t (D :: did) r = gd t did r := by
  cases r with
  | v j =>
    show didV j (D :: did) = didV j did
    rw [didV_cons, if_neg (fun e => h (by rw [e]))]
  | b x => rfl
  | k v => rfl
/-- How what was done came about. -/
def Just (t : Tr Value) (M : Nat) (did : List Did) (S : St) (D : Did) : Prop :=
  (D.k = 0 ∧ gOk (evD t did D.d) D.d.g = true ∧ wantE (evD t did D.d) D.d.g = false ∧ D.v = undef) ∨
  (D.k = 1 ∧ wantE (evD t did D.d) D.d.g = true ∧ ∃ f, D.d.a = .look f) ∨
  (D.k = 2 ∧ wantE (evD t did D.d) D.d.g = true ∧ ∃ f o mk u, D.d.a = .make f ∧ f (evD t did D.d) = some (o, mk) ∧ D.v = mk u ∧ M ≤ u ∧ u < S.nx) ∨ D.k = 3
/-- What holds of what was done and of what is left. -/
structure EvI (P : Program) (lv : Nat) (ops : Array Oper) (t : Tr Value) (M : Nat) (did : List Did) (dm : Nat) (pend : List Cd) (S : St) : Prop where
  dcd : ∀ D ∈ did, CdOk P lv ops D.d
  pcd : ∀ d ∈ pend, CdOk P lv ops d
  cover : ∀ i, i < ops.size → (∃ D ∈ did, D.d.i = i) ∨ ∃ d ∈ pend, d.i = i
  pnd : (pend.map (·.i)).Nodup
  dnd : (did.map (·.d.i)).Nodup
  disj : ∀ d ∈ pend, ∀ D ∈ did, D.d.i ≠ d.i
  dm_ : ∀ j, bitOf dm j = true ↔ ∃ D ∈ did, D.d.i = j
  rdy : ∀ D ∈ did, ∀ j, bitOf D.d.m j = true → bitOf dm j = true
  just : ∀ D ∈ did, Just t M did S D
  dist : ∀ D ∈ did, ∀ E ∈ did, D.k = 2 → E.k = 2 → blkOf D.v = blkOf E.v → D.d.i = E.d.i
  ord : did.Pairwise fun D E => bitOf E.d.m D.d.i ≠ true
theorem EvI.perm {did : List Did} {dm : Nat} {p q : List Cd} {S : St} (h : EvI P lv ops t M did dm p S) (hp : p.Perm q) : EvI P lv ops t M did dm q S :=
  { h with
    pcd := fun d hd => h.pcd d (hp.mem_iff.2 hd)
    cover := fun i hi => (h.cover i hi).imp_right fun ⟨d, h1, h2⟩ => ⟨d, hp.mem_iff.1 h1, h2⟩
    pnd := (hp.map _).nodup_iff.1 h.pnd
    disj := fun d hd => h.disj d (hp.mem_iff.2 hd) }
theorem EvI.start (S : St) : EvI P lv ops t M [] 0 (compD P lv ops (msOf ops) ops.toList 0 []) S := by
  obtain ⟨h1, h2⟩ := compD_all (P := P) (lv := lv) (ops := ops) ops.toList 0 (fun k => by rw [Nat.zero_add])
  refine ⟨fun D h => (by cases h), h1, fun i hi => .inr ?_, ?_, (by simp), fun d _ D h => (by cases h), fun j => ?_, fun D h => (by cases h), fun D h => (by cases h), fun D h => (by cases h), .nil⟩
  · have : i ∈ (compD P lv ops (msOf ops) ops.toList 0 (dsOf ops.toList 0)).map (·.i) := by
      rw [h2, List.mem_range'_1]
      simpa using hi
    obtain ⟨d, g1, g2⟩ := List.mem_map.1 this
    exact ⟨d, g1, g2⟩
  · show ((compD P lv ops (msOf ops) ops.toList 0 (dsOf ops.toList 0)).map (·.i)).Nodup
    rw [h2]
    exact List.nodup_range'
  · rw [bitOf_zero]
    constructor
    · intro h; cases h
    · rintro ⟨D, h, _⟩; cases h
/-- What is done later changes nothing of what was done. -/
theorem evD_cons {did : List Did} {E : Did} {d : Cd} (hd : CdOk P lv ops d) (hm : bitOf d.m E.d.i ≠ true) : evD t (E :: did) d = evD t did d := by
  funext x
  obtain ⟨o, _, hc⟩ := hd
  unfold evD
  refine gd_cons fun hr => hm ?_
  rw [hc] at hr ⊢
  exact (refD_v hr).1
theorem Just.cons {did : List Did} {S S' : St} {D E : Did} (h : Just t M did S D) (hd : CdOk P lv ops D.d) (hm : bitOf D.d.m E.d.i ≠ true) (hn : S.nx ≤ S'.nx) : Just t M (E :: did) S' D := by
  unfold Just
  rw [evD_cons hd hm]
  rcases h with h | h | ⟨h1, h2, f, o, mk, u, h3, h4, h5, h6, h7⟩ | h
  · exact .inl h
  · exact .inr (.inl h)
  · exact .inr (.inr (.inl ⟨h1, h2, f, o, mk, u, h3, h4, h5, h6, by omega⟩))
  · exact .inr (.inr (.inr h))
theorem Just.blk {did : List Did} {S : St} {D : Did} (h : Just t M did S D) (hd : CdOk P lv ops D.d) (hk : D.k = 2) : ∃ u, blkOf D.v = some u ∧ M ≤ u ∧ u < S.nx := by
  rcases h with h | h | ⟨h1, h2, f, o, mk, u, h3, h4, h5, h6, h7⟩ | h
  · have := h.1; omega
  · have := h.1; omega
  · obtain ⟨o', _, hc⟩ := hd
    rw [hc] at h3
    exact ⟨u, by rw [h5]; exact make_blk h3 h4 u, h6, h7⟩
  · omega
/-- One more is done. -/
theorem EvI.add {did : List Did} {dm : Nat} {d : Cd} {rest : List Cd} {S S' : St} (h : EvI P lv ops t M did dm (d :: rest) S) {v : Value} {k : Nat} (hr : isRdy dm d = true) (hn : S.nx ≤ S'.nx) (hj : Just t M did S' ⟨d, v, k⟩) (hu : k = 2 → blkOf v = some S.nx) :
    EvI P lv ops t M (⟨d, v, k⟩ :: did) (Nat.lor dm (Nat.shiftLeft 1 d.i)) rest S' := by
  have hno : bitOf dm d.i ≠ true := fun hb => by
    obtain ⟨D, h1, h2⟩ := (h.dm_ d.i).1 hb
    exact h.disj d (by simp) D h1 h2
  have hr' := rdy_iff.1 hr
  have hcd := h.pcd d (by simp)
  have hn1 := h.pnd
  rw [List.map_cons, List.nodup_cons] at hn1
  have hold : ∀ D ∈ did, D.k = 2 → blkOf D.v ≠ some S.nx := fun D hD hk he => by
    obtain ⟨u, g1, _, g3⟩ := (h.just D hD).blk (h.dcd D hD) hk
    rw [he] at g1
    cases g1
    omega
  refine ⟨fun D hD => ?_, fun e he => h.pcd e (List.mem_cons_of_mem _ he), fun i hi => ?_, hn1.2, ?_, fun e he D hD => ?_, fun j => ?_, fun D hD j hj => ?_, fun D hD => ?_, fun D hD E hE k1 k2 e => ?_, .cons (fun E hE hb => hno (h.rdy E hE _ hb)) h.ord⟩
  · rcases List.mem_cons.1 hD with rfl | hD
    · exact hcd
    · exact h.dcd D hD
  · rcases h.cover i hi with ⟨D, h1, h2⟩ | ⟨e, h1, h2⟩
    · exact .inl ⟨D, List.mem_cons_of_mem _ h1, h2⟩
    · rcases List.mem_cons.1 h1 with rfl | h1
      · exact .inl ⟨_, List.mem_cons_self .., h2⟩
      · exact .inr ⟨e, h1, h2⟩
  · rw [List.map_cons, List.nodup_cons]
    refine ⟨fun hm => ?_, h.dnd⟩
    obtain ⟨D, h1, h2⟩ := List.mem_map.1 hm
    exact h.disj d (by simp) D h1 h2
  · rcases List.mem_cons.1 hD with rfl | hD
    · exact fun e2 => hn1.1 (List.mem_map.2 ⟨e, he, e2.symm⟩)
    · exact h.disj e (List.mem_cons_of_mem _ he) D hD
  · rw [bitOf_add, Bool.or_eq_true, h.dm_ j]
    constructor
    · rintro (⟨D, h1, h2⟩ | h1)
      · exact ⟨D, List.mem_cons_of_mem _ h1, h2⟩
      · exact ⟨_, List.mem_cons_self .., (of_decide_eq_true h1).symm⟩
    · rintro ⟨D, h1, h2⟩
      rcases List.mem_cons.1 h1 with rfl | h1
      · exact .inr (decide_eq_true h2.symm)
      · exact .inl ⟨D, h1, h2⟩
  · rw [bitOf_add, Bool.or_eq_true]
    rcases List.mem_cons.1 hD with rfl | hD
    · exact .inl (hr' j hj)
    · exact .inl (h.rdy D hD j hj)
  · rcases List.mem_cons.1 hD with rfl | hD
    · have e := evD_cons (t := t) (did := did) (E := ⟨d, v, k⟩) hcd (fun hb => hno (hr' _ hb))
      unfold Just at hj ⊢
      rw [e]
      exact hj
    · exact (h.just D hD).cons (h.dcd D hD) (fun hb => hno (h.rdy D hD _ hb)) hn
  · rcases List.mem_cons.1 hD with rfl | hD <;> rcases List.mem_cons.1 hE with rfl | hE
    · rfl
    · exact absurd (e.symm.trans (hu k1)) (hold E hE k2)
    · exact absurd (e.trans (hu k2)) (hold D hD k1)
    · exact h.dist D hD E hE k1 k2 e
end
end Go.Proofs.YtnfclcfcpgfajaaGreatDoor.Ev

/- A pass over a region's operations. -/
namespace Go.Proofs.YtnfclcfcpgfajaaGreatDoor.Ev
open Go Go.RowKit
section
variable {P : Program} {lv : Nat} {ops : Array Oper} {t : Tr Value} {M : Nat}

/-- What a pass leaves. -/
structure Grow (P : Program) (s s' : Sw) : Prop where
  mem : ∀ D ∈ s.did, D ∈ s'.did
  new : ∀ D ∈ s'.did, D ∈ s.did ∨ (D.k ≠ 3 ∧ ∀ u, blkOf D.v = some u → D.k = 2 → s.S.nx ≤ u)
  nx : s.S.nx ≤ s'.S.nx
  sim : ∀ ρ W, Sim P ρ s.S W → Sim P ρ s'.S W
theorem Grow.refl (s : Sw) : Grow P s s := ⟨fun _ h => h, fun _ h => .inl h, Nat.le_refl _, fun _ _ h => h⟩
theorem Grow.trans {s s' s'' : Sw} (h : Grow P s s') (k : Grow P s' s'') : Grow P s s'' where
  mem := fun D hD => k.mem D (h.mem D hD)
  new := fun D hD => by
    rcases k.new D hD with h1 | h1
    · exact h.new D h1
    · exact .inr ⟨h1.1, fun u hu hk => Nat.le_trans h.nx (h1.2 u hu hk)⟩
  nx := Nat.le_trans h.nx k.nx
  sim := fun ρ W hS => k.sim ρ W (h.sim ρ W hS)
theorem swStep_ok {s s' : Sw} {d : Cd} {l : List Cd} (h : EvI P lv ops t M s.did s.dm (s.pend ++ d :: l) s.S) (hM : M ≤ s.S.nx) (hs : swStep t s d = some s') : EvI P lv ops t M s'.did s'.dm (s'.pend ++ l) s'.S ∧ Grow P s s' := by
  have hp : (s.pend ++ d :: l).Perm (d :: (s.pend ++ l)) := List.perm_middle
  have h1 := h.perm hp
  have keep : ∀ {s'}, s' = s.keep d → EvI P lv ops t M s'.did s'.dm (s'.pend ++ l) s'.S ∧ Grow P s s' := fun e => by
    subst e
    exact ⟨h1, ⟨fun _ h => h, fun _ h => .inl h, Nat.le_refl _, fun _ _ h => h⟩⟩
  obtain ⟨o, ho, hc⟩ := h1.pcd d (by simp)
  have hact : d.a = actOf P o := by rw [hc]; rfl
  unfold swStep at hs
  cases hr : isRdy s.dm d with
  | false =>
    rw [hr, bi_f] at hs
    cases hs
    exact keep rfl
  | true =>
    rw [hr, bi_t] at hs
    obtain ⟨hg, hs⟩ := bi_some hs
    cases hw : wantE (evD t s.did d) d.g with
    | false =>
      rw [hw, bi_f] at hs
      cases hs
      exact ⟨h1.add hr (Nat.le_refl _) (.inl ⟨rfl, hg, hw, rfl⟩) (fun h => by cases h), ⟨fun _ h => List.mem_cons_of_mem _ h, fun D hD => by
        rcases List.mem_cons.1 hD with rfl | hD
        · exact .inr ⟨by simp, fun u _ hk => by cases hk⟩
        · exact .inl hD, Nat.le_refl _, fun _ _ h => h⟩⟩
    | true =>
      rw [hw, bi_t] at hs
      cases ha : d.a with
      | look f =>
        rw [ha] at hs
        have hs' : swR s d (f s.S (evD t s.did d)) = some s' := hs
        cases hf : f s.S (evD t s.did d) with
        | none => rw [hf] at hs'; cases hs'
        | some v =>
          rw [hf] at hs'
          cases hs'
          exact ⟨h1.add hr (Nat.le_refl _) (.inr (.inl ⟨rfl, hw, f, ha⟩)) (fun h => by cases h), ⟨fun _ h => List.mem_cons_of_mem _ h, fun D hD => by
            rcases List.mem_cons.1 hD with rfl | hD
            · exact .inr ⟨by simp, fun u _ hk => by cases hk⟩
            · exact .inl hD, Nat.le_refl _, fun _ _ h => h⟩⟩
      | make f =>
        rw [ha] at hs
        have hs' : swN s d (f (evD t s.did d)) = some s' := hs
        cases hf : f (evD t s.did d) with
        | none => rw [hf] at hs'; cases hs'
        | some p =>
          obtain ⟨b, mk⟩ := p
          rw [hf] at hs'
          cases hs'
          have hb := make_blk (hact ▸ ha) hf s.S.nx
          have hal := make_alone (hact ▸ ha) hf
          have hnx : (s.S.new b).nx = s.S.nx + 1 := St.new_nx _ _
          refine ⟨h1.add (S' := s.S.new b) hr (by omega) (.inr (.inr (.inl ⟨rfl, hw, f, b, mk, s.S.nx, ha, hf, rfl, hM, by omega⟩))) (fun _ => hb), ⟨fun _ h => List.mem_cons_of_mem _ h, fun D hD => ?_, by show s.S.nx ≤ (s.S.new b).nx; omega, fun ρ W hS => hS.new_ hal⟩⟩
          rcases List.mem_cons.1 hD with rfl | hD
          · refine .inr ⟨by simp, fun u hu _ => ?_⟩
            have hu' : blkOf (mk s.S.nx) = some u := hu
            rw [hb] at hu'
            cases hu'
            exact Nat.le_refl _
          · exact .inl hD
      | write f => rw [ha] at hs; cases hs; exact keep rfl
      | call f xs => rw [ha] at hs; cases hs; exact keep rfl
      | defer f xs => rw [ha] at hs; cases hs; exact keep rfl
      | bad => rw [ha] at hs; cases hs; exact keep rfl
theorem sweep_ok : ∀ {l : List Cd} {s s' : Sw}, EvI P lv ops t M s.did s.dm (s.pend ++ l) s.S → M ≤ s.S.nx → sweep t l s = some s' → EvI P lv ops t M s'.did s'.dm s'.pend s'.S ∧ Grow P s s'
  | [], s, s', h, _, hs => by
    cases hs
    rw [List.append_nil] at h
    exact ⟨h.perm (List.reverse_perm _).symm, ⟨fun _ h => h, fun _ h => .inl h, Nat.le_refl _, fun _ _ h => h⟩⟩
  | d :: l, s, s', h, hM, hs => by
    have hs1 : (match swStep t s d with
      | some s => sweep t l s
      | none => none) = some s' := hs
    cases hq : swStep t s d with
    | none => rw [hq] at hs1; cases hs1
    | some s1 =>
      rw [hq] at hs1
      obtain ⟨h1, g1⟩ := swStep_ok h hM hq
      obtain ⟨h2, g2⟩ := sweep_ok h1 (Nat.le_trans hM g1.nx) hs1
      exact ⟨h2, g1.trans g2⟩
end
end Go.Proofs.YtnfclcfcpgfajaaGreatDoor.Ev

/- Regions that draw their order: what the machine keeps on its way, beside the evaluator. -/
namespace Go.Proofs.YtnfclcfcpgfajaaGreatDoor.Ev
open Go Go.RowKit
section
variable {P : Program} {lv nt N M : Nat} {ops : Array Oper} {t : Tr Value} {ρ0 : Ro} {W0 : World}

/-- What is known of the machine while a region is under way: f: what is done. -/
structure ReI (P : Program) (lv nt N : Nat) (ops : Array Oper) (t : Tr Value) (ρ0 : Ro) (W0 : World) (did : List Did) (anc : Nat) (dl : List Deferred) (S : St) (f : Nat → Bool) (ρ : Ro) (a : Go.Act) (w : World) : Prop where
  sub : ∀ j, f j = true → ∃ D ∈ did, D.d.i = j
  cl : ∀ j, f j = true → ∀ o, ops[j]? = some o → ∀ e ∈ o.after, Region.binds .any e = true → f e.on = true
  anc : ∀ j, bitOf anc j = true → f j = true
  k3 : ∀ D ∈ did, D.k = 3 → f D.d.i = true
  st : StR P N ρ0 W0 ρ S w
  un : ∀ D ∈ did, D.k = 2 → f D.d.i = false → ∀ u, blkOf D.v = some u → ρ.at_ u = none
  fr : ∀ x, VR ρ (gd t did (baseRef lv x (posP f x (dsOf ops.toList ops.size)))) (a.tmps.getD x undef)
  sz : a.tmps.size = nt
  dl : DlR ρ dl a.defers
theorem tl {i : Nat} : ops.toList[i]? = ops[i]? := Array.getElem?_toList
/-- Those ahead of what is done are done. -/
theorem closed_all {f : Nat → Bool} (cl : ∀ j, f j = true → ∀ o, ops[j]? = some o → ∀ e ∈ o.after, Region.binds .any e = true → f e.on = true) {i : Nat} {o : Oper} (ho : ops[i]? = some o) (hd : ∀ e ∈ o.after, Region.binds .any e = true → f e.on = true) : ∀ j, bitOf ((msOf ops).getD i 0) j = true → f j = true :=
  masks_closed (l := ops.toList) (f := fun j => f j = true) (fun j hj o' ho' => cl j hj o' (by rw [← tl]; exact ho')) i o (by rw [tl]; exact ho) hd
/-- The last who wrote a name, seen from an operation that is about to be done. -/
theorem pos_eq (hn : namesOk ops (msOf ops) = true) {f : Nat → Bool} (hs : ∀ j, f j = true → ∃ o, ops[j]? = some o) (cl : ∀ j, f j = true → ∀ o, ops[j]? = some o → ∀ e ∈ o.after, Region.binds .any e = true → f e.on = true) {i : Nat} {o : Oper} (ho : ops[i]? = some o)
    (hd : ∀ e ∈ o.after, Region.binds .any e = true → f e.on = true) (hf : f i = false) {x : Tmp} (hx : x ∈ names ops o) : posP f x (dsOf ops.toList ops.size) = posD x ((msOf ops).getD i 0) (dsOf ops.toList i) := by
  have hlt : i < ops.size := (Array.getElem?_eq_some_iff.1 ho).1
  have hcl := closed_all cl ho hd
  have key : ∀ j, (j, some x) ∈ dsOf ops.toList ops.size → f j = bitOf ((msOf ops).getD i 0) j := fun j hj => by
    obtain ⟨_, w, hw, hdw⟩ := dsOf_mem hj
    rw [tl] at hw
    by_cases e : j = i
    · subst e
      rw [hf]
      cases hb : bitOf ((msOf ops).getD j 0) j with
      | false => rfl
      | true => have := namesOk_low hn hb; omega
    · rcases namesOk_ahead hn ho hw hx hdw e with h1 | h1
      · rw [h1]; exact hcl j h1
      · cases hfj : f j with
        | true =>
          have := closed_all cl hw (cl j hfj w hw) i h1
          rw [hf] at this
          cases this
        | false =>
          cases hb : bitOf ((msOf ops).getD i 0) j with
          | false => rfl
          | true => rw [hcl j hb] at hfj; cases hfj
  obtain ⟨l, h1, h2⟩ := dsOf_split ops.toList (i := i) (n := ops.size) (by omega)
  rw [posP_congr key, h1, posP_skip fun j hj => ?_, posD_eq]
  have hij := h2 j _ hj
  cases hb : bitOf ((msOf ops).getD i 0) j with
  | false => rfl
  | true => have := namesOk_low hn hb; omega
/-- What an operation that is about to be done looks at. -/
theorem ReI.ev (hn : namesOk ops (msOf ops) = true) {did : List Did} {anc : Nat} {dl : List Deferred} {S : St} {f : Nat → Bool} {ρ : Ro} {a : Go.Act} {w : World} (h : ReI P lv nt N ops t ρ0 W0 did anc dl S f ρ a w) (hdc : ∀ D ∈ did, CdOk P lv ops D.d) {i : Nat} {o : Oper} (ho : ops[i]? = some o)
    (hd : ∀ e ∈ o.after, Region.binds .any e = true → f e.on = true) (hf : f i = false) {x : Operand} (hx : ∀ y, x = .tmp y → y ∈ names ops o) : VR ρ (evD t did (cdOf P lv ops i o) x) (a.eval x) := by
  cases x with
  | tmp y =>
    have hs : ∀ j, f j = true → ∃ o, ops[j]? = some o := fun j hj => by
      obtain ⟨D, h1, h2⟩ := h.sub j hj
      obtain ⟨o', h3, _⟩ := hdc D h1
      rw [h2] at h3
      exact ⟨o', h3⟩
    have := h.fr y
    rw [pos_eq hn hs h.cl ho hd hf (hx y rfl)] at this
    exact this
  | const v =>
    show VR ρ (gd t did (.k (bi (plain v) v Top))) v
    show VR ρ (bi (plain v) v Top) v
    cases hp : plain v with
    | true => exact plain_flat hp
    | false => exact .ofTop
  | global g => exact .ofTop
  | func g => exact .func_op
/-- The frame behind an operation. -/
theorem ReI.put (hn : namesOk ops (msOf ops) = true) {did did' : List Did} {anc : Nat} {dl : List Deferred} {S : St} {f f' : Nat → Bool} {ρ σ : Ro} {a : Go.Act} {w : World} (h : ReI P lv nt N ops t ρ0 W0 did anc dl S f ρ a w) (hdc : ∀ D ∈ did, CdOk P lv ops D.d) {i : Nat} {o : Oper} (ho : ops[i]? = some o)
    (hd : ∀ e ∈ o.after, Region.binds .any e = true → f e.on = true) (hf : f i = false) (hf' : ∀ j, f' j = (f j || decide (j = i))) (hdst : ∀ d, o.dst = some d → d < nt) (hle : ρ.Le σ) {v' : Value} (hv : VR σ (didV i did') v') (hst : ∀ j, f j = true → didV j did' = didV j did) :
    ∀ x, VR σ (gd t did' (baseRef lv x (posP f' x (dsOf ops.toList ops.size)))) ((a.put o.dst v').tmps.getD x undef) := by
  intro x
  have hlt : i < ops.size := (Array.getElem?_eq_some_iff.1 ho).1
  by_cases hx : o.dst = some x
  · have hxn : x ∈ names ops o := by
      unfold names
      rw [hx]
      simp
    have e1 : posP f' x (dsOf ops.toList ops.size) = some (.v i) := by
      obtain ⟨l, h1, h2⟩ := dsOf_split ops.toList (i := i + 1) (n := ops.size) (by omega)
      rw [h1, posP_skip fun j hj => ?_]
      · show posP f' x ((i, (ops.toList[i]?).bind (·.dst)) :: dsOf ops.toList i) = _
        rw [posP_cons, tl, ho, if_pos ⟨hx, by rw [hf']; simp⟩]
      · have hij := h2 j _ hj
        have hm : (j, some x) ∈ dsOf ops.toList ops.size := by rw [h1]; exact List.mem_append_left _ hj
        obtain ⟨_, w, hw, hdw⟩ := dsOf_mem hm
        rw [tl] at hw
        rw [hf']
        have hne : j ≠ i := by omega
        rw [decide_eq_false hne, Bool.or_false]
        cases hfj : f j with
        | false => rfl
        | true =>
          rcases namesOk_ahead hn ho hw hxn hdw hne with g | g
          · have := namesOk_low hn g; omega
          · have := closed_all h.cl hw (h.cl j hfj w hw) i g
            rw [hf] at this
            cases this
    rw [e1, hx, put_getD a x v' x (by rw [h.sz]; exact hdst x hx), if_pos rfl]
    exact hv
  · have e1 : posP f' x (dsOf ops.toList ops.size) = posP f x (dsOf ops.toList ops.size) := posP_congr fun j hj => by
      obtain ⟨_, w, hw, hdw⟩ := dsOf_mem hj
      rw [tl] at hw
      have hne : j ≠ i := fun e => by
        subst e
        rw [ho] at hw
        cases hw
        exact hx hdw
      rw [hf', decide_eq_false hne, Bool.or_false]
    have e2 : (a.put o.dst v').tmps.getD x undef = a.tmps.getD x undef := by
      cases hdo : o.dst with
      | none => rfl
      | some d => rw [put_getD a d v' x (by rw [h.sz]; exact hdst d hdo), if_neg (fun e => hx (by rw [hdo, e]))]
    have e3 : gd t did' (baseRef lv x (posP f x (dsOf ops.toList ops.size))) = gd t did (baseRef lv x (posP f x (dsOf ops.toList ops.size))) := by
      cases hp : posP f x (dsOf ops.toList ops.size) with
      | none =>
        show gd t did' (bi (bitOf lv x) (.b x) (.k Top)) = gd t did (bi (bitOf lv x) (.b x) (.k Top))
        cases bitOf lv x <;> rfl
      | some r =>
        obtain ⟨j, rfl, _, hj⟩ := posP_mem hp
        exact hst j hj
    rw [e1, e2, e3]
    exact (h.fr x).le hle
end
end Go.Proofs.YtnfclcfcpgfajaaGreatDoor.Ev

/- Regions that draw their order: an operation that the evaluator has done already. -/
namespace Go.Proofs.YtnfclcfcpgfajaaGreatDoor.Ev
open Go Go.RowKit
section
variable {P : Program} {lv nt N M : Nat} {ops : Array Oper} {t : Tr Value} {ρ0 : Ro} {W0 : World}

/-- One operation more is done. -/
theorem ReI.next (hn : namesOk ops (msOf ops) = true) {did did' : List Did} {anc anc' : Nat} {dl dl' : List Deferred} {S S' : St} {f f' : Nat → Bool} {ρ σ : Ro} {a a' : Go.Act} {w w' : World} (h : ReI P lv nt N ops t ρ0 W0 did anc dl S f ρ a w) (hdc : ∀ D ∈ did, CdOk P lv ops D.d) {i : Nat} {o : Oper} (ho : ops[i]? = some o)
    (hd : ∀ e ∈ o.after, Region.binds .any e = true → f e.on = true) (hf : f i = false) (hf' : ∀ j, f' j = (f j || decide (j = i))) (hdst : ∀ d, o.dst = some d → d < nt)
    (hsub : ∀ D ∈ did, D ∈ did') (hi : ∃ D ∈ did', D.d.i = i) (hanc : ∀ j, bitOf anc' j = true → f' j = true) (hk3 : ∀ D ∈ did', D.k = 3 → f' D.d.i = true) (hle : ρ.Le σ) (hst : StR P N ρ0 W0 σ S' w')
    (hun : ∀ D ∈ did', D.k = 2 → f' D.d.i = false → ∀ u, blkOf D.v = some u → σ.at_ u = none) {v' : Value} (hv : VR σ (didV i did') v') (hkeep : ∀ j, f j = true → didV j did' = didV j did) (hdl : DlR σ dl' a'.defers) (ha : a'.tmps = (a.put o.dst v').tmps) :
    ReI P lv nt N ops t ρ0 W0 did' anc' dl' S' f' σ a' w' := by
  have hff : ∀ j, f j = true → f' j = true := fun j hj => by rw [hf', hj]; rfl
  refine ⟨fun j hj => ?_, fun j hj o' ho' e he hb => ?_, hanc, hk3, hst, hun, ?_, by rw [ha, (put_size _ _ _).1]; exact h.sz, hdl⟩
  · rw [hf', Bool.or_eq_true] at hj
    rcases hj with hj | hj
    · obtain ⟨D, h1, h2⟩ := h.sub j hj
      exact ⟨D, hsub D h1, h2⟩
    · rw [of_decide_eq_true hj]
      exact hi
  · rw [hf', Bool.or_eq_true] at hj
    rcases hj with hj | hj
    · exact hff _ (h.cl j hj o' ho' e he hb)
    · rw [of_decide_eq_true hj, ho] at ho'
      cases ho'
      exact hff _ (hd e he hb)
  · rw [ha]
    exact h.put hn hdc ho hd hf hf' hdst hle hv hkeep
theorem gOk_of_want {ev : Operand → Value} {g : Option (Operand × Bool)} (h : wantE ev g = true) : gOk ev g = true := by
  cases g with
  | none => rfl
  | some p =>
    have h1 : wantV p.2 (ev p.1) = true := h
    show (!isTop (ev p.1)) = true
    cases hv : ev p.1 with
    | bool b => rfl
    | _ => rw [hv] at h1; cases h1
theorem names_op {o : Oper} {y : Tmp} (h : Operand.tmp y ∈ o.op.operands) : y ∈ names ops o := by
  unfold names
  refine List.mem_append_left _ (List.mem_append_left _ (List.mem_filterMap.2 ⟨.tmp y, by simpa using h, rfl⟩))
theorem names_guard {o : Oper} {y : Tmp} {b : Bool} (h : guardT ops o = some (.tmp y, b)) : y ∈ names ops o := by
  unfold guardT at h
  unfold names
  cases hg : o.guard with
  | none => rw [hg] at h; cases h
  | some q =>
    obtain ⟨j, w⟩ := q
    rw [hg] at h
    have h' : (match dstAt ops j with
      | some t => some (Operand.tmp t, w)
      | none => some (.const Top, w)) = some (.tmp y, b) := h
    cases hd : dstAt ops j with
    | none => rw [hd] at h'; cases h'
    | some t =>
      rw [hd] at h'
      cases h'
      simp [hd]
/-- The guard, there and here. -/
theorem ReI.want (hn : namesOk ops (msOf ops) = true) {did : List Did} {anc : Nat} {dl : List Deferred} {S : St} {f : Nat → Bool} {ρ : Ro} {a : Go.Act} {w : World} (h : ReI P lv nt N ops t ρ0 W0 did anc dl S f ρ a w) (hdc : ∀ D ∈ did, CdOk P lv ops D.d) {i : Nat} {o : Oper} (ho : ops[i]? = some o)
    (hd : ∀ e ∈ o.after, Region.binds .any e = true → f e.on = true) (hf : f i = false) (hdst : ∀ o ∈ ops.toList, ∀ d, o.dst = some d → d < nt) (hg : gOk (evD t did (cdOf P lv ops i o)) (guardT ops o) = true) :
    Region.wanted o (yielded ops a.tmps) = wantE (evD t did (cdOf P lv ops i o)) (guardT ops o) :=
  wanted_sound (fun y b hy => h.ev hn hdc ho hd hf fun z hz => by cases hz; exact names_guard hy) rfl hg fun j y hj => by
    rw [h.sz]
    unfold dstAt at hj
    cases ho' : ops[j]? with
    | none => rw [ho'] at hj; cases hj
    | some o' =>
      rw [ho'] at hj
      exact hdst o' (List.mem_of_getElem? (by rw [tl]; exact ho')) y hj
theorem still_mem {S : St} {all : List Did} {anc : Nat} : ∀ {l : List Did}, still S t all anc l = true → ∀ D ∈ l, bitOf anc D.d.i = true ∨ still1 S t all D = true
  | [], _, D, h => by cases h
  | E :: l, hs, D, h => by
    obtain ⟨h1, h2⟩ := nb_t (show nb (bitOf anc E.d.i || still1 S t all E) (still S t all anc l) = true from hs)
    rcases List.mem_cons.1 h with rfl | h
    · simpa using h1
    · exact still_mem h2 D h
theorem look_nodefer {o : Oper} (h : (∃ f, actOf P o = .look f) ∨ ∃ f, actOf P o = .make f) : ∀ c, o.op ≠ .defer c := by
  intro c hc
  rcases act_defer (P := P) hc with h1 | ⟨g, _, h1⟩
  · rcases h with ⟨f, h⟩ | ⟨f, h⟩ <;> rw [h1] at h <;> cases h
  · rcases h with ⟨f, h⟩ | ⟨f, h⟩ <;> rw [h1] at h <;> cases h
/-- An operation that the evaluator has done already: whenever it is done. -/
theorem old_step (hz : ZeroOk P) (hn : namesOk ops (msOf ops) = true) {F : Fence} {n : Nat} (hF : Wide F) {did : List Did} {dm anc : Nat} {pend : List Cd} {dl : List Deferred} {S : St} (hI : EvI P lv ops t M did dm pend S) (hNM : N ≤ M) (hlow : lowB ≤ M) (hstill : still S t did anc did = true) (hdst : ∀ o ∈ ops.toList, ∀ d, o.dst = some d → d < nt)
    {f : Nat → Bool} {ρ : Ro} {a : Go.Act} {w : World} (h : ReI P lv nt N ops t ρ0 W0 did anc dl S f ρ a w) {D : Did} (hD : D ∈ did) (hf : f D.d.i = false) (hd : ∀ o, ops[D.d.i]? = some o → ∀ e ∈ o.after, Region.binds .any e = true → f e.on = true) {Q : Exit → Go.Act → World → Prop} {K : Go.Act → World → Prop}
    (hK : ∀ f' ρ' a' w', (∀ j, f' j = (f j || decide (j = D.d.i))) → ReI P lv nt N ops t ρ0 W0 did anc dl S f' ρ' a' w' → K a' w') : wpOpIn F n P ops Q D.d.i K a w := by
  obtain ⟨o, ho, hc⟩ := hI.dcd D hD
  have hd' := hd o ho
  have hmem : o ∈ ops.toList := List.mem_of_getElem? (by rw [tl]; exact ho)
  have hact : D.d.a = actOf P o := by rw [hc]; rfl
  have hg : D.d.g = guardT ops o := by rw [hc]; rfl
  have hev : ∀ x ∈ o.op.operands, VR ρ (evD t did D.d x) (a.eval x) := fun x hx => by
    rw [hc]
    exact h.ev hn hI.dcd ho hd' hf fun y hy => by subst hy; exact names_op hx
  have hwant : gOk (evD t did D.d) D.d.g = true → Region.wanted o (yielded ops a.tmps) = wantE (evD t did D.d) D.d.g := fun hg' => by
    rw [hg, hc] at hg' ⊢
    exact h.want hn hI.dcd ho hd' hf hdst hg'
  have hvi : didV D.d.i did = D.v := didV_mem hI.dnd hD
  have hnanc : bitOf anc D.d.i = false := by
    cases hb : bitOf anc D.d.i with
    | false => rfl
    | true => rw [h.anc _ hb] at hf; cases hf
  have fin : ∀ {σ : Ro} {w' : World} {v' : Value}, ρ.Le σ → StR P N ρ0 W0 σ S w' → (∀ E ∈ did, E.k = 2 → f E.d.i = false → E.d.i ≠ D.d.i → ∀ u, blkOf E.v = some u → ρ.at_ u = none → σ.at_ u = none) → VR σ D.v v' → K (a.put o.dst v') w' := fun {σ w' v'} hle hst hun hv => by
    refine hK (fun j => f j || decide (j = D.d.i)) σ _ _ (fun j => rfl) (h.next hn hI.dcd ho hd' hf (fun j => rfl) (hdst o hmem) (fun _ h => h) ⟨D, hD, rfl⟩ (fun j hj => by rw [h.anc j hj]; rfl) (fun E hE hk => by rw [h.k3 E hE hk]; rfl) hle hst (fun E hE hk hfE u hu => ?_) (by rw [hvi]; exact hv) (fun _ _ => rfl) (by rw [(put_size _ _ _).2]; exact h.dl.le hle) rfl)
    rw [Bool.or_eq_false_iff] at hfE
    exact hun E hE hk hfE.1 (of_decide_eq_false hfE.2) u hu (h.un E hE hk hfE.1 u hu)
  unfold wpOpIn
  simp only [ho]
  have hst1 := (still_mem hstill D hD).resolve_left (by rw [hnanc]; simp)
  rcases hI.just D hD with ⟨k0, g0, w0, v0⟩ | ⟨k1, w1, g, ha⟩ | ⟨k2, w2, g, ob, mk, u, ha, hg2, hv2, hu1, hu2⟩ | k3
  · rw [hwant g0, w0, if_neg (by simp)]
    refine ⟨fun f _ => hF.fn f, fin (Ro.Le.refl ρ) h.st (fun _ _ _ _ _ _ _ hu => hu) ?_⟩
    rw [v0]
    exact VR.undef
  · rw [hwant (gOk_of_want w1), w1, if_pos rfl]
    refine ⟨fun f _ => hF.fn f, ?_⟩
    have ha' : actOf P o = .look g := hact ▸ ha
    rw [Oper.semAt_eq _ _ _ (look_nodefer (.inl ⟨g, ha'⟩))]
    have hs : stillA S (evD t did D.d) D.v D.d.a = true := by
      have h1 : (Nat.beq D.k 0 || stillA S (evD t did D.d) D.v D.d.a) = true := hst1
      rw [k1] at h1
      exact h1
    rw [ha] at hs
    have hr : g S (evD t did D.d) = some D.v := stillR_some hs
    exact (look_sound h.st.sim ha' hr hev).upon F n o a K Q hF fun v' W' σ q1 q2 q3 q4 =>
      fin q3.le (h.st.step q2 q3 q4) (fun E hE hk _ _ u hu hun => by
        obtain ⟨u', e1, _, e2⟩ := (hI.just E hE).blk (hI.dcd E hE) hk
        rw [hu] at e1
        cases e1
        cases hs : σ.at_ u with
        | none => rfl
        | some p => have := q3.fresh u hun (by rw [hs]; simp); omega) q1
  · rw [hwant (gOk_of_want w2), w2, if_pos rfl]
    refine ⟨fun f _ => hF.fn f, ?_⟩
    have ha' : actOf P o = .make g := hact ▸ ha
    rw [Oper.semAt_eq _ _ _ (look_nodefer (.inr ⟨g, ha'⟩))]
    have hs : stillA S (evD t did D.d) D.v D.d.a = true := by
      have h1 : (Nat.beq D.k 0 || stillA S (evD t did D.d) D.v D.d.a) = true := hst1
      rw [k2] at h1
      exact h1
    rw [ha] at hs
    have hb := make_blk ha' hg2 u
    have hob := stillN_some (show stillN S D.v (g (evD t did D.d)) = true from hs) hg2 hv2 hb
    have hun := h.un D hD k2 hf u (by rw [hv2]; exact hb)
    obtain ⟨v', W', σ, q1, q2, q3, q4, _, q5⟩ := make_sound h.st.sim ha' hg2 hev hz hun (Nat.le_trans hlow hu1) hob
    rw [q1]
    refine fin q4.le ⟨q3, h.st.ext.trans (q4.mono (Nat.le_trans hNM hu1)), h.st.nx⟩ (fun E hE hk _ hne u' hu' hn' => ?_) (by rw [hv2]; exact q2)
    have hne' : u' ≠ u := fun e => by
      subst e
      exact hne (hI.dist E hE D hD hk k2 (by rw [hu', hv2, hb]))
    rw [q5 u' hne']
    exact hn'
  · rw [h.k3 D hD k3] at hf
    cases hf
end
end Go.Proofs.YtnfclcfcpgfajaaGreatDoor.Ev

/- Regions that draw their order: all the orders of one stretch. -/
namespace Go.Proofs.YtnfclcfcpgfajaaGreatDoor.Ev
open Go Go.RowKit
section
variable {P : Program} {lv nt N M : Nat} {ops : Array Oper} {t : Tr Value} {ρ0 : Ro} {W0 : World}

/-- So many are not done yet. -/
def unE (listed : Array Bool) : Nat := (listed.toList.filter (fun b => !b)).length
theorem unE_list : ∀ (l : List Bool) (i : Nat), l[i]? = some false → ((l.set i true).filter (fun b => !b)).length + 1 = (l.filter (fun b => !b)).length
  | [], i, h => by simp at h
  | b :: r, 0, h => by simp at h; subst h; simp
  | b :: r, i + 1, h => by
    have := unE_list r i (by simpa using h)
    cases b <;> simp <;> omega
theorem unE_zero (listed : Array Bool) (h : unE listed = 0) (i : Nat) (hi : i < listed.size) : listed.getD i false = true := by
  have h1 : listed.toList.filter (fun b => !b) = [] := List.length_eq_zero_iff.1 h
  rw [List.filter_eq_nil_iff] at h1
  have h2 := h1 (listed.toList[i]'(by simpa using hi)) (List.getElem_mem _)
  simp at h2
  simp [hi, h2]
/-- From here on all goes well, in every order. -/
def Goes (F : Fence) (n : Nat) (P : Program) (ops : Array Oper) (Q : Exit → Go.Act → World → Prop) (f : Nat → Bool) (a : Go.Act) (w : World) : Prop :=
  ∀ (fuel : Nat) (listed : Array Bool), listed.size = ops.size → (∀ j, listed.getD j false = f j) → unE listed ≤ fuel → wpAnyIn F n P .any ops Q fuel listed a w
/-- One stretch: what the evaluator has done may be done in any order; what it has not done is next. -/
theorem stretch (hz : ZeroOk P) (hn : namesOk ops (msOf ops) = true) {F : Fence} {n : Nat} (hF : Wide F) {did : List Did} {dm anc : Nat} {pend : List Cd} {dl : List Deferred} {S : St} (hI : EvI P lv ops t M did dm pend S) (hNM : N ≤ M) (hlow : lowB ≤ M) (hstill : still S t did anc did = true) (hdst : ∀ o ∈ ops.toList, ∀ d, o.dst = some d → d < nt)
    {Q : Exit → Go.Act → World → Prop}
    (hw : ∀ (f f' : Nat → Bool) (ρ : Ro) (a : Go.Act) (w : World) (d : Cd) (o : Oper), ReI P lv nt N ops t ρ0 W0 did anc dl S f ρ a w → d ∈ pend → ops[d.i]? = some o → f d.i = false → (∀ e ∈ o.after, Region.binds .any e = true → f e.on = true) → (∀ j, f' j = (f j || decide (j = d.i))) → wpOpIn F n P ops Q d.i (Goes F n P ops Q f') a w)
    (hend : pend = [] → ∀ (f : Nat → Bool) (ρ : Ro) (a : Go.Act) (w : World), ReI P lv nt N ops t ρ0 W0 did anc dl S f ρ a w → (∀ i, i < ops.size → f i = true) → Q .normal a w) :
    ∀ (f : Nat → Bool) (ρ : Ro) (a : Go.Act) (w : World), ReI P lv nt N ops t ρ0 W0 did anc dl S f ρ a w → Goes F n P ops Q f a w := by
  have hfin : ∀ (f : Nat → Bool) (ρ : Ro) (a : Go.Act) (w : World), ReI P lv nt N ops t ρ0 W0 did anc dl S f ρ a w → (∀ i, i < ops.size → f i = true) → Q .normal a w := fun f ρ a w h hall => by
    refine hend ?_ f ρ a w h hall
    cases hp : pend with
    | nil => rfl
    | cons d rest =>
      exfalso
      have hd : d ∈ pend := by rw [hp]; simp
      obtain ⟨o, ho, _⟩ := hI.pcd d hd
      obtain ⟨D, h1, h2⟩ := h.sub d.i (hall d.i (Array.getElem?_eq_some_iff.1 ho).1)
      exact hI.disj d hd D h1 h2
  have hdlow : ∀ (i : Nat) (o : Oper), ops[i]? = some o → ∀ e ∈ o.after, Region.binds .any e = true → e.on < i := fun i o ho e he hb =>
    namesOk_low hn ((masks_bit (l := ops.toList) (i := i) (o := o) (by rw [tl]; exact ho) e.on).2 ⟨e, he, hb, .inl rfl⟩)
  have hall : ∀ (listed : Array Bool), listed.size = ops.size → Region.ready .any ops listed = [] → ∀ i, i < ops.size → listed.getD i false = true := by
    intro listed hs hr i
    induction i using Nat.strongRecOn with
    | _ i ih =>
    intro hi
    cases hb : listed.getD i false with
    | true => rfl
    | false =>
      exfalso
      have ho : ops[i]? = some ops[i] := by simp [hi]
      have : i ∈ Region.ready .any ops listed := by
        rw [mem_ready]
        refine ⟨?_, ops[i], ho, fun e he hbd => ?_⟩
        · have hi' : i < listed.size := by omega
          simp [hi'] at hb ⊢
          exact hb
        · have hl := hdlow i ops[i] ho e he hbd
          exact ih e.on hl (by omega)
      rw [hr] at this
      cases this
  have main : ∀ (fuel : Nat) (f : Nat → Bool) (ρ : Ro) (a : Go.Act) (w : World) (listed : Array Bool), ReI P lv nt N ops t ρ0 W0 did anc dl S f ρ a w → listed.size = ops.size → (∀ j, listed.getD j false = f j) → unE listed ≤ fuel → wpAnyIn F n P .any ops Q fuel listed a w := by
    intro fuel
    induction fuel with
    | zero =>
      intro f ρ a w listed h hs hf hu
      have ha := unE_zero listed (by omega)
      refine ⟨?_, hfin f ρ a w h fun i hi => by rw [← hf]; exact ha i (by omega)⟩
      apply List.eq_nil_iff_forall_not_mem.2
      intro i hi
      have h1 := (mem_ready.1 hi).1
      obtain ⟨o, ho, _⟩ := (mem_ready.1 hi).2
      have hlt : i < listed.size := by rw [hs]; exact (Array.getElem?_eq_some_iff.1 ho).1
      have h2 := ha i hlt
      simp [hlt] at h1 h2
      rw [h1] at h2
      cases h2
    | succ fuel ih =>
      intro f ρ a w listed h hs hf hu
      refine ⟨fun hr => hfin f ρ a w h fun i hi => by rw [← hf]; exact hall listed hs hr i hi, fun i hi => ?_⟩
      obtain ⟨h1, o, ho, hdep⟩ := mem_ready.1 hi
      have hlt : i < ops.size := (Array.getElem?_eq_some_iff.1 ho).1
      have hlt' : i < listed.size := by omega
      have hfi : f i = false := by rw [← hf]; simp [hlt'] at h1 ⊢; exact h1
      have hd : ∀ e ∈ o.after, Region.binds .any e = true → f e.on = true := fun e he hb => by rw [← hf]; exact hdep e he hb
      have hu' : unE (listed.setIfInBounds i true) ≤ fuel := by
        have hg : listed.toList[i]? = some false := by
          rw [← hf] at hfi
          simp [hlt'] at hfi
          simp [hlt', hfi]
        have := unE_list listed.toList i hg
        unfold unE at hu ⊢
        rw [Array.toList_setIfInBounds]
        omega
      have hl' : ∀ (f' : Nat → Bool), (∀ j, f' j = (f j || decide (j = i))) → ∀ j, (listed.setIfInBounds i true).getD j false = f' j := fun f' hf' j => by
        rw [hf']
        by_cases hij : i = j
        · subst hij; simp [hlt']
        · rw [getD_set_ne false hij, hf, decide_eq_false (Ne.symm hij), Bool.or_false]
      rcases hI.cover i hlt with ⟨D, hD, rfl⟩ | ⟨d, hd', rfl⟩
      · exact old_step hz hn hF hI hNM hlow hstill hdst h hD hfi (fun o' ho' => by rw [ho] at ho'; cases ho'; exact hd) fun f' ρ' a' w' hf' h' => ih f' ρ' a' w' _ h' (by simp [hs]) (hl' f' hf') hu'
      · exact wpOpIn_mono (fun a' w' hg => hg fuel _ (by simp [hs]) (hl' _ fun _ => rfl) hu') (hw f (fun j => f j || decide (j = d.i)) ρ a w d o h hd' ho hfi hd fun _ => rfl)
  exact fun f ρ a w h fuel listed hs hf hu => main fuel f ρ a w listed h hs hf hu
/-! ### The end of a region -/
theorem putAll_get {n : Nat} : ∀ {did : List Did} {t' : Tr Value}, putAll lv n t did = some t' → ∀ x, bitOf lv x = true → (∃ l D m, did = l ++ D :: m ∧ D.d.o.dst = some x ∧ (∀ E ∈ l, E.d.o.dst ≠ some x) ∧ t'.get x = some D.v ∧ x < n) ∨ ((∀ D ∈ did, D.d.o.dst ≠ some x) ∧ t'.get x = t.get x)
  | [], t', h, x, _ => by cases h; exact .inr ⟨(fun D hD => by cases hD), rfl⟩
  | D :: did, t', h, x, hx => by
    have h1 : (match putAll lv n t did with
      | some t => (match D.d.o.dst with
        | some x => bi (bitOf lv x) (bi (Nat.ble (Nat.succ x) n) (some (t.put x D.v)) none) (some t)
        | none => some t)
      | none => none) = some t' := h
    cases hp : putAll lv n t did with
    | none => rw [hp] at h1; cases h1
    | some t1 =>
      rw [hp] at h1
      have h2 : (match D.d.o.dst with
        | some x => bi (bitOf lv x) (bi (Nat.ble (Nat.succ x) n) (some (t1.put x D.v)) none) (some t1)
        | none => some t1) = some t' := h1
      have skip : D.d.o.dst ≠ some x → t'.get x = t1.get x → (∃ l E m, D :: did = l ++ E :: m ∧ E.d.o.dst = some x ∧ (∀ E ∈ l, E.d.o.dst ≠ some x) ∧ t'.get x = some E.v ∧ x < n) ∨ ((∀ D' ∈ D :: did, D'.d.o.dst ≠ some x) ∧ t'.get x = t.get x) := fun hne he => by
        rcases putAll_get hp x hx with ⟨l, E, m, g1, g2, g3, g4, g5⟩ | ⟨g1, g2⟩
        · refine .inl ⟨D :: l, E, m, by rw [g1]; rfl, g2, fun E' hE' => ?_, by rw [he]; exact g4, g5⟩
          rcases List.mem_cons.1 hE' with rfl | hE'
          · exact hne
          · exact g3 E' hE'
        · refine .inr ⟨fun E' hE' => ?_, by rw [he]; exact g2⟩
          rcases List.mem_cons.1 hE' with rfl | hE'
          · exact hne
          · exact g1 E' hE'
      cases hd : D.d.o.dst with
      | none =>
        rw [hd] at h2
        cases h2
        exact skip (by rw [hd]; simp) rfl
      | some y =>
        rw [hd] at h2
        have h3 : bi (bitOf lv y) (bi (Nat.ble (Nat.succ y) n) (some (t1.put y D.v)) none) (some t1) = some t' := h2
        by_cases hxy : x = y
        · subst hxy
          rw [hx, bi_t] at h3
          obtain ⟨h4, h5⟩ := bi_some h3
          cases h5
          exact .inl ⟨[], D, did, rfl, hd, (fun E hE => by cases hE), by rw [Tr.get_put, if_pos rfl], ble_t h4⟩
        · refine skip (by rw [hd]; simpa using Ne.symm hxy) ?_
          cases hb : bitOf lv y with
          | false => rw [hb, bi_f] at h3; cases h3; rfl
          | true =>
            rw [hb, bi_t] at h3
            obtain ⟨_, h5⟩ := bi_some h3
            cases h5
            rw [Tr.get_put, if_neg hxy]
theorem posP_top {L : List Oper} {p : Nat → Bool} {x : Tmp} {i : Nat} (hp : p i = true) : ∀ {n : Nat}, (i, some x) ∈ dsOf L n → ∃ j, posP p x (dsOf L n) = some (.v j) ∧ i ≤ j
  | 0, h => by cases h
  | n + 1, h => by
    show ∃ j, posP p x ((n, (L[n]?).bind (·.dst)) :: dsOf L n) = some (.v j) ∧ i ≤ j
    rw [posP_cons]
    have hlt := (dsOf_mem h).1
    split
    · exact ⟨n, rfl, by omega⟩
    · rename_i hc
      rcases List.mem_cons.1 h with h | h
      · simp only [Prod.mk.injEq] at h
        obtain ⟨rfl, h⟩ := h
        exact absurd ⟨h.symm, hp⟩ hc
      · exact posP_top hp h
/-- The frame behind a region. -/
theorem ReI.frame (hn : namesOk ops (msOf ops) = true) {did : List Did} {dm anc : Nat} {dl : List Deferred} {S S0 : St} (hI : EvI P lv ops t M did dm [] S0) {f : Nat → Bool} {ρ : Ro} {a : Go.Act} {w : World} (h : ReI P lv nt N ops t ρ0 W0 did anc dl S f ρ a w) (hall : ∀ i, i < ops.size → f i = true)
    (h0 : ∀ x v, bitOf lv x = true → t.get x = some v → x < nt) {t' : Tr Value} (hp : putAll lv nt t did = some t') : FrR ρ nt lv t' a.tmps := by
  refine ⟨h.sz, fun x v hx hv => ?_⟩
  have main : x < nt → VR ρ v (a.tmps.getD x undef) → ∃ w, a.tmps[x]? = some w ∧ VR ρ v w := fun hlt hr => by
    rw [Array.getD_eq_getD_getElem?] at hr
    have hsz : x < a.tmps.size := by rw [h.sz]; exact hlt
    have : a.tmps[x]? = some a.tmps[x] := by simp [hsz]
    rw [this] at hr
    exact ⟨_, this, hr⟩
  have hfr := h.fr x
  have hop : ∀ D ∈ did, ops[D.d.i]? = some D.d.o := fun D hD => by
    obtain ⟨o, ho, hc⟩ := hI.dcd D hD
    rw [ho, hc]
    rfl
  rcases putAll_get hp x hx with ⟨l, D, m, g1, g2, g3, g4, g5⟩ | ⟨g1, g2⟩
  · rw [hv] at g4
    cases g4
    have hD : D ∈ did := by rw [g1]; simp
    have ho := hop D hD
    have hlt := (Array.getElem?_eq_some_iff.1 ho).1
    obtain ⟨j, e1, e2⟩ := posP_top (L := ops.toList) (p := f) (x := x) (i := D.d.i) (hall _ hlt) (dsOf_has (by rw [tl]; exact ho) g2 hlt)
    have ej : j = D.d.i := by
      obtain ⟨i', e3, e4, _⟩ := posP_mem e1
      cases e3
      obtain ⟨hj, o', ho', hd'⟩ := dsOf_mem e4
      rw [tl] at ho'
      obtain ⟨E, hE, rfl⟩ := (hI.cover j hj).resolve_right (fun ⟨d, hd, _⟩ => by cases hd)
      have hoE := hop E hE
      rw [ho'] at hoE
      cases hoE
      apply Classical.byContradiction
      intro hne
      have hEm : E ∈ m := by
        rw [g1] at hE
        rcases List.mem_append.1 hE with hE | hE
        · exact absurd hd' (g3 E hE)
        · rcases List.mem_cons.1 hE with rfl | hE
          · exact absurd rfl hne
          · exact hE
      have hord : bitOf E.d.m D.d.i ≠ true := by
        have := hI.ord
        rw [g1, List.pairwise_append] at this
        exact (List.pairwise_cons.1 this.2.1).1 E hEm
      have hm : E.d.m = (msOf ops).getD E.d.i 0 := by
        obtain ⟨o, ho, hc⟩ := hI.dcd E hE
        rw [hc]
        rfl
      rcases namesOk_ahead hn ho ho' (t := x) (by unfold names; rw [g2]; simp) hd' hne with q | q
      · have := namesOk_low hn q; omega
      · exact hord (by rw [hm]; exact q)
    rw [e1, ej] at hfr
    have hfr' : VR ρ (didV D.d.i did) (a.tmps.getD x undef) := hfr
    rw [didV_mem hI.dnd hD] at hfr'
    exact main g5 hfr'
  · rw [g2] at hv
    have e1 : posP f x (dsOf ops.toList ops.size) = none := by
      cases hq : posP f x (dsOf ops.toList ops.size) with
      | none => rfl
      | some r =>
        obtain ⟨j, _, e4, _⟩ := posP_mem hq
        obtain ⟨hj, o', ho', hd'⟩ := dsOf_mem e4
        rw [tl] at ho'
        obtain ⟨E, hE, rfl⟩ := (hI.cover j hj).resolve_right (fun ⟨d, hd, _⟩ => by cases hd)
        have hoE := hop E hE
        rw [ho'] at hoE
        cases hoE
        exact absurd hd' (g1 E hE)
    rw [e1] at hfr
    have hfr' : VR ρ (gd t did (bi (bitOf lv x) (.b x) (.k Top))) (a.tmps.getD x undef) := hfr
    rw [hx, bi_t] at hfr'
    have hfr2 : VR ρ (orTop (t.get x)) (a.tmps.getD x undef) := hfr'
    rw [hv] at hfr2
    exact main (h0 x v hx hv) hfr2
end
end Go.Proofs.YtnfclcfcpgfajaaGreatDoor.Ev

/- Regions that draw their order: two writes to two blocks. -/
namespace Go.Proofs.YtnfclcfcpgfajaaGreatDoor.Ev
open Go Go.RowKit
section
variable {P : Program} {lv nt N M : Nat} {ops : Array Oper} {t : Tr Value} {ρ0 : Ro} {W0 : World}

theorem taintL_quiet {but lo hi : Nat} : ∀ {l : List Nat} {h : Tr Ob}, quietL h but lo hi l = true → taintL but lo hi h l = h
  | [], h, _ => rfl
  | m :: l, h, hq => by
    obtain ⟨h1, h2⟩ := nb_t (show nb (Nat.beq m but || !sees lo hi (h.get m)) (quietL h but lo hi l) = true from hq)
    show taintL but lo hi (bi (nb (!Nat.beq m but) (sees lo hi (h.get m))) (h.del m) h) l = h
    have e : nb (!Nat.beq m but) (sees lo hi (h.get m)) = false := by
      rw [nb_eq]
      cases h3 : Nat.beq m but <;> cases h4 : sees lo hi (h.get m) <;> simp_all
    rw [e, bi_f]
    exact taintL_quiet h2
/-- A write that no other block sees is a write. -/
theorem storeQ_some {S S' : St} {b off : Nat} {vs : List Value} (h : storeQ S b off vs = some S') : storeV S b off vs = some S' ∧ ∃ o, S' = S.set b o ∧ storeQR S b off vs (S.h.get b) = some (S.set b o) ∧ ∃ cs ty fam base, S.h.get b = some (.row cs ty fam base) ∧ o = .row (setL off vs cs) ty fam base := by
  unfold storeQ at h
  unfold storeV
  cases ho : S.h.get b with
  | none => rw [ho] at h; cases h
  | some o =>
    rw [ho] at h
    cases o with
    | row cs ty fam base =>
      obtain ⟨h1, h2⟩ := bi_some (show bi (nb (nb (Nat.ble (Nat.add off (lenV vs)) (lenV cs)) (allL oneV vs)) (nb (Nat.ble lowB b) (Nat.beq fam 0 || (match S.fam.get fam with
        | some l => quietL S.h b (Nat.add base off) (Nat.add (Nat.add base off) (lenV vs)) l
        | none => false)))) (some (S.set b (.row (setL off vs cs) ty fam base))) none = some S' from h)
      cases h2
      obtain ⟨h3, h4⟩ := nb_t h1
      obtain ⟨h5, h6⟩ := nb_t h3
      obtain ⟨h7, h8⟩ := nb_t h4
      refine ⟨?_, _, rfl, h, cs, ty, fam, base, rfl, rfl⟩
      show bi (nb (Nat.ble (Nat.add off (lenV vs)) (lenV cs)) (nb (Nat.ble lowB b) (allL oneV vs))) (some ((taint S fam b (Nat.add base off) (Nat.add (Nat.add base off) (lenV vs))).set b (.row (setL off vs cs) ty fam base))) none = _
      rw [h5, h6, h7]
      have e : taint S fam b (Nat.add base off) (Nat.add (Nat.add base off) (lenV vs)) = S := by
        unfold taint
        cases hz : Nat.beq fam 0 with
        | true => rfl
        | false =>
          rw [bi_f]
          rw [hz, Bool.false_or] at h8
          cases hf : S.fam.get fam with
          | none => simp [hf] at h8
          | some l =>
            rw [hf] at h8
            show St.mk (taintL b (Nat.add base off) (Nat.add (Nat.add base off) (lenV vs)) S.h l) S.nx S.fam S.nf = S
            rw [taintL_quiet h8]
      rw [e]
      rfl
    | _ => cases h
/-- Two states that say the same. -/
theorem Sim.congr {ρ : Ro} {S S' : St} {W : World} (h : Sim P ρ S W) (h1 : ∀ k, S'.h.get k = S.h.get k) (h2 : S'.nx = S.nx) (h3 : S'.fam = S.fam) (h4 : S'.nf = S.nf) : Sim P ρ S' W := by
  refine ⟨?_, ?_, ?_, ?_, ?_, h.base, h.glob, by rw [h4]; exact h.nf, by rw [h2]; exact h.nx⟩
  · rw [h2]; exact h.low
  · rw [h2]; intro b o hb; rw [h1] at hb; exact h.new b o hb
  · intro b o B sh hb; rw [h1] at hb; exact h.ob b o B sh hb
  · intro b b' o o' B sh sh' hne hb hb'; rw [h1] at hb hb'; exact h.fam b b' o o' B sh sh' hne hb hb'
  · rw [h3, h4]; intro b cs ty f base hb; rw [h1] at hb; exact h.mem b cs ty f base hb
/-- In either order: the same. -/
theorem two_same {S S1 S2 S3 S4 : St} {a b oa ob : Nat} {va vb : List Value} (hne : a ≠ b) (h1 : storeQ S a oa va = some S1) (h2 : storeQ S b ob vb = some S2) (h3 : storeQ S1 b ob vb = some S3) (h4 : storeQ S2 a oa va = some S4) :
    (∀ k, S3.h.get k = S4.h.get k) ∧ S3.nx = S4.nx ∧ S3.fam = S4.fam ∧ S3.nf = S4.nf ∧ S1.nx = S.nx ∧ S2.nx = S.nx ∧ S3.nx = S.nx := by
  obtain ⟨_, o1, rfl, _, cs1, ty1, f1, b1, g1, rfl⟩ := storeQ_some h1
  obtain ⟨_, o2, rfl, _, cs2, ty2, f2, b2, g2, rfl⟩ := storeQ_some h2
  obtain ⟨_, o3, rfl, _, cs3, ty3, f3, b3, g3, rfl⟩ := storeQ_some h3
  obtain ⟨_, o4, rfl, _, cs4, ty4, f4, b4, g4, rfl⟩ := storeQ_some h4
  rw [St.set_h, if_neg (Ne.symm hne), g2] at g3
  rw [St.set_h, if_neg hne, g1] at g4
  cases g3
  cases g4
  refine ⟨fun k => ?_, by simp only [St.set_nx], by simp only [(St.set_fam _ _ _).1], by simp only [(St.set_fam _ _ _).2], by simp only [St.set_nx], by simp only [St.set_nx], by simp only [St.set_nx]⟩
  rw [St.set_h, St.set_h, St.set_h, St.set_h]
  by_cases e1 : k = a
  · subst e1; simp [hne]
  · by_cases e2 : k = b
    · subst e2; simp [Ne.symm hne]
    · simp [e1, e2]
/-- The two writes of a region. -/
theorem two_some_ {S : St} {did : List Did} {d e : Cd} {p : St × St × St} (h : twoStores P S t did d e = some p) : ∃ t1 a1 x1 n1 t2 a2 x2 n2 aa ab S4, d.o.op = .store t1 a1 x1 ∧ d.o.dst = none ∧ d.o.guard = none ∧ sizeT P t1 = some n1 ∧ e.o.op = .store t2 a2 x2 ∧ e.o.dst = none ∧ e.o.guard = none ∧ sizeT P t2 = some n2 ∧
    evD t did d a1 = .pointer (some aa) ∧ evD t did e a2 = .pointer (some ab) ∧ ofSize (evD t did d x1) n1 = true ∧ ofSize (evD t did e x2) n2 = true ∧ aa.block ≠ ab.block ∧ storeQ S aa.block aa.off (cellsL (evD t did d x1)) = some p.1 ∧ storeQ S ab.block ab.off (cellsL (evD t did e x2)) = some p.2.1 ∧
    storeQ p.1 ab.block ab.off (cellsL (evD t did e x2)) = some p.2.2 ∧ storeQ p.2.1 aa.block aa.off (cellsL (evD t did d x1)) = some S4 := by
  unfold twoStores at h
  have hso : ∀ (o : Oper) (t1 : TypeId) (a1 x1 : Operand) (n : Option Nat), o.op = .store t1 a1 x1 → storeOf P o = some n → o.dst = none ∧ o.guard = none ∧ sizeT P t1 = n := fun o t1 a1 x1 n ho hs => by
    unfold storeOf at hs
    rw [ho] at hs
    cases hd : o.dst with
    | some y => rw [hd] at hs; cases hs
    | none =>
      cases hg : o.guard with
      | some y => rw [hd, hg] at hs; cases hs
      | none => rw [hd, hg] at hs; cases hs; exact ⟨rfl, rfl, rfl⟩
  cases hd : d.o.op with
  | store t1 a1 x1 =>
    cases he : e.o.op with
    | store t2 a2 x2 =>
      simp only [hd, he] at h
      unfold twoS1 at h
      cases ha : addrOf (evD t did d a1) with
      | none => simp only [ha] at h; cases h
      | some aa =>
        cases hb : addrOf (evD t did e a2) with
        | none => simp only [ha, hb] at h; cases h
        | some ab =>
          cases hs1 : storeOf P d.o with
          | none => simp only [ha, hb, hs1] at h; cases h
          | some n1 =>
            cases hs2 : storeOf P e.o with
            | none => simp only [ha, hb, hs1, hs2] at h; cases n1 <;> cases h
            | some n2 =>
              cases n1 with
              | none => simp only [ha, hb, hs1, hs2] at h; cases h
              | some n1 =>
                cases n2 with
                | none => simp only [ha, hb, hs1, hs2] at h; cases h
                | some n2 =>
                  simp only [ha, hb, hs1, hs2] at h
                  obtain ⟨c1, c2⟩ := bi_some h
                  obtain ⟨c3, c4⟩ := nb_t c1
                  obtain ⟨c5, c6⟩ := nb_t c4
                  obtain ⟨d1, d2, d3⟩ := hso _ _ _ _ _ hd hs1
                  obtain ⟨d4, d5, d6⟩ := hso _ _ _ _ _ he hs2
                  have pa : evD t did d a1 = .pointer (some aa) := by
                    cases hv : evD t did d a1 with
                    | pointer y => rw [hv] at ha; rw [show y = some aa from ha]
                    | _ => rw [hv] at ha; cases ha
                  have pb : evD t did e a2 = .pointer (some ab) := by
                    cases hv : evD t did e a2 with
                    | pointer y => rw [hv] at hb; rw [show y = some ab from hb]
                    | _ => rw [hv] at hb; cases hb
                  have hne : aa.block ≠ ab.block := fun e => by
                    rw [e, Nat.beq_refl] at c6
                    cases c6
                  cases q1 : storeQ S aa.block aa.off (cellsL (evD t did d x1)) with
                  | none => rw [q1] at c2; cases c2
                  | some S1 =>
                    cases q2 : storeQ S ab.block ab.off (cellsL (evD t did e x2)) with
                    | none => rw [q1, q2] at c2; cases c2
                    | some S2 =>
                      rw [q1, q2] at c2
                      have c7 : (match storeQ S1 ab.block ab.off (cellsL (evD t did e x2)), storeQ S2 aa.block aa.off (cellsL (evD t did d x1)) with
                        | some S3, some _ => some (S1, S2, S3)
                        | _, _ => none) = some p := c2
                      cases q3 : storeQ S1 ab.block ab.off (cellsL (evD t did e x2)) with
                      | none => rw [q3] at c7; cases c7
                      | some S3 =>
                        cases q4 : storeQ S2 aa.block aa.off (cellsL (evD t did d x1)) with
                        | none => rw [q3, q4] at c7; cases c7
                        | some S4 =>
                          rw [q3, q4] at c7
                          cases c7
                          exact ⟨t1, a1, x1, n1, t2, a2, x2, n2, aa, ab, S4, rfl, d1, d2, d3, rfl, d4, d5, d6, pa, pb, c3, c5, hne, (by first | rfl | exact q1), (by first | rfl | exact q2), q3, q4⟩
    | _ => simp only [hd, he] at h; cases h
  | _ => simp only [hd] at h; cases h
end
end Go.Proofs.YtnfclcfcpgfajaaGreatDoor.Ev
