/- The reference's 'Sound' and 'Check', whole. -/
import Derived.Test.YtpdfeadajgokkaaGreatDoorSoundT
namespace Go.Proofs.YtpdfeadajgokkaaGreatDoor
open Go.RowKit

def allP (p : Ex → Bool) : Ex → Bool
  | .mk k s n l ks => p (.mk k s n l ks) && allPL p ks
where allPL (p : Ex → Bool) : List Ex → Bool
  | [] => true
  | e :: r => allP p e && allPL p r

theorem allPL_all (p : Ex → Bool) (l : List Ex) : allP.allPL p l = l.all (allP p) := by
  induction l with
  | nil => rfl
  | cons e r ih => simp only [allP.allPL, List.all_cons, ih]

def namedB (k : Int) (s : Str) : Bool := if k = 2 then nameB s else if k = 3 ∨ k = 8 then conB s else if k = 9 then doesB s || holdsB s else s.toList.isEmpty
def namesK (k : Int) : Int := if k = 8 then -1 else if k = 4 ∨ k = 6 ∨ k = 13 then 1 else 0
def kidsK (k : Int) : Int := if k = 7 ∨ k = 11 ∨ k = 12 then -1 else if k = 10 then 3 else if k = 5 ∨ k = 6 ∨ k = 9 then 2 else if k = 4 ∨ k = 8 ∨ k = 13 then 1 else 0
def mayAt (k : Int) (i len : Nat) (j : Int) : Bool := ((j == 8) == (k == 7 && decide (0 < i))) && !(j == 13 && !((k == 11 || k == 12) && decide (i + 1 < len)))
def belowB (k : Int) (ks : List Ex) : Bool := ks.zipIdx.all (fun x => mayAt k x.2 ks.length x.1.kind) && (!(k == 7) || decide (1 < ks.length))
def sndQ : Ex → Bool
  | .mk k s n l ks => decide (1 ≤ k ∧ k ≤ 13) && namedB k s && namesB l && belowB k ks && (if k = 1 then decide (0 ≤ n) else n == 0) && decide (namesK k < 0 ∨ (l.length : Int) = namesK k) && decide (kidsK k = ks.length ∨ (kidsK k < 0 ∧ 0 < ks.length))

/-- Words: of a tree that is sound, and all of its parts. -/
def sndR (e : Ex) : Bool := allP sndQ e

def manyK (k : Int) : Int := if k = 5 ∨ k = 6 ∨ k = 9 then 2 else if k = 10 then 3 else 1
def restB (k : Int) (s : Str) (l : List Str) : Bool := if k = 4 ∨ k = 6 ∨ k = 13 then decide ((l.length : Int) = 1) && namesB l else if k = 8 then namesB l && conB s else if k = 9 then doesB s || holdsB s else true
def sndBody (snd : Ex → Bool) (k : Int) (s : Str) (n : Int) (l : List Str) (ks : List Ex) : Bool :=
  plainB k s n l && decide (1 ≤ k) && decide (k ≤ 13) &&
    (if k ≤ 3 then leafB k s n ks else if k = 7 then waysB snd ks else if k = 11 ∨ k = 12 then blockB snd ks
     else decide ((ks.length : Int) = manyK k) && (ks.all fun e => snd e && mayK e.kind 0) && restB k s l)

theorem below_plain (ks : List Ex) {k : Int} (h7 : k ≠ 7) (h11 : k ≠ 11) (h12 : k ≠ 12) : belowB k ks = ks.all fun e => mayK e.kind 0 := by
  have h : ∀ i len j, mayAt k i len j = mayK j 0 := by
    intro i len j
    rw [mayAt, mayK, beq_eq_false_iff_ne.2 h7, beq_eq_false_iff_ne.2 h11, beq_eq_false_iff_ne.2 h12]
    by_cases h8 : j = 8
    · subst h8; rfl
    · by_cases h13 : j = 13
      · subst h13; rfl
      · rw [beq_eq_false_iff_ne.2 h8, beq_eq_false_iff_ne.2 h13]; rfl
  rw [belowB, beq_eq_false_iff_ne.2 h7]
  simp only [h, Bool.not_false, Bool.true_or, Bool.and_true]
  rw [Bool.eq_iff_iff, List.all_eq_true, List.all_eq_true]
  constructor
  · intro g e he
    obtain ⟨i, hi, rfl⟩ := List.getElem_of_mem he
    exact g (ks[i], i) (by rw [List.mem_zipIdx_iff_getElem?]; simp [hi])
  · intro g x hx
    exact g _ (List.fst_mem_of_mem_zipIdx hx)

theorem all_and (l : List Ex) (p q : Ex → Bool) : (l.all fun e => p e && q e) = (l.all p && l.all q) := by
  induction l with
  | nil => rfl
  | cons e r ih => simp only [List.all_cons, ih]; cases p e <;> cases q e <;> simp

theorem zipIdx_all {ks : List Ex} {p : Nat → Ex → Bool} : (ks.zipIdx.all fun x => p x.2 x.1) = true ↔ ∀ i (h : i < ks.length), p i ks[i] = true := by
  rw [List.all_eq_true]
  constructor
  · intro g i hi
    exact g (ks[i], i) (by rw [List.mem_zipIdx_iff_getElem?]; simp [hi])
  · intro g x hx
    rw [List.mem_zipIdx_iff_getElem?] at hx
    obtain ⟨h, e⟩ := List.getElem?_eq_some_iff.1 hx
    rw [← e]; exact g _ h

theorem below_case (ks : List Ex) : belowB 7 ks = (decide (2 ≤ ks.length) && (ks.head?.all fun e => !(e.kind == 8 || e.kind == 13)) && ((ks.drop 1).all fun e => e.kind == 8)) := by
  rw [belowB, Bool.eq_iff_iff]
  simp only [Bool.and_eq_true, decide_eq_true_eq, zipIdx_all (p := fun i e => mayAt 7 i ks.length e.kind)]
  cases ks with
  | nil => simp
  | cons e r =>
    simp only [List.head?_cons, Option.all_some, List.drop_one, List.tail_cons, List.length_cons]
    constructor
    · rintro ⟨h1, h2⟩
      have h2 : 1 < r.length + 1 := by simpa using h2
      refine ⟨⟨by omega, ?_⟩, ?_⟩
      · have := h1 0 (by simp)
        simp only [mayAt, List.getElem_cons_zero] at this
        revert this
        by_cases h8 : e.kind = 8
        · rw [h8]; simp
        · by_cases h13 : e.kind = 13
          · rw [h13]; simp
          · simp [h8, h13]
      · rw [List.all_eq_true]
        intro x hx
        obtain ⟨i, hi, rfl⟩ := List.getElem_of_mem hx
        have := h1 (i + 1) (by simpa using hi)
        simp only [mayAt, List.getElem_cons_succ] at this
        revert this
        by_cases h8 : r[i].kind = 8
        · rw [h8]; simp
        · simp [h8]
    · rintro ⟨⟨h1, h2⟩, h3⟩
      refine ⟨?_, by simp; omega⟩
      intro i hi
      rw [List.all_eq_true] at h3
      cases i with
      | zero =>
        simp only [mayAt, List.getElem_cons_zero]
        revert h2
        by_cases h8 : e.kind = 8
        · rw [h8]; simp
        · by_cases h13 : e.kind = 13
          · rw [h13]; simp
          · simp [h8, h13]
      | succ i =>
        have := h3 r[i] (List.getElem_mem _)
        simp only [mayAt, List.getElem_cons_succ]
        have h8 : r[i].kind = 8 := by simpa using this
        rw [h8]; simp

theorem below_do (ks : List Ex) {k : Int} (hk : k = 11 ∨ k = 12) (hne : ks ≠ []) : belowB k ks = ((ks.getLast?.all fun e => !(e.kind == 13)) && ks.all fun e => mayK e.kind 13) := by
  have h7 : (k == 7) = false := by rcases hk with rfl | rfl <;> rfl
  have h11 : (k == 11 || k == 12) = true := by rcases hk with rfl | rfl <;> rfl
  have hpos : 0 < ks.length := by cases ks with | nil => exact (hne rfl).elim | cons => simp
  have hla : ks.getLast? = some (ks[ks.length - 1]'(by omega)) := by rw [List.getLast?_eq_getElem?, List.getElem?_eq_getElem]
  rw [belowB, Bool.eq_iff_iff]
  simp only [Bool.and_eq_true, decide_eq_true_eq, zipIdx_all (p := fun i e => mayAt k i ks.length e.kind), hla, Option.all_some]
  simp only [mayAt, h7, h11, Bool.false_and, Bool.not_false, Bool.true_or, and_true, Bool.true_and, List.all_eq_true, mayK]
  constructor
  · intro h
    refine ⟨?_, ?_⟩
    · have := h (ks.length - 1) (by omega)
      rw [decide_eq_false (by omega)] at this
      revert this
      by_cases h13 : (ks[ks.length - 1]'(by omega)).kind = 13
      · rw [h13]; simp
      · simp [h13]
    · intro x hx
      obtain ⟨i, hi, rfl⟩ := List.getElem_of_mem hx
      have := h i hi
      revert this
      by_cases h8 : ks[i].kind = 8
      · rw [h8]; simp
      · by_cases h13 : ks[i].kind = 13
        · rw [h13]; simp
        · simp [h8, h13]
  · rintro ⟨h1, h2⟩ i hi
    have := h2 _ (List.getElem_mem hi)
    by_cases h13 : ks[i].kind = 13
    · have hlt : i + 1 < ks.length := by
        rcases Nat.lt_or_ge (i + 1) ks.length with h | h
        · exact h
        · have e : i = ks.length - 1 := by omega
          subst e
          rw [h13] at h1; simp at h1
      rw [h13, decide_eq_true hlt]; rfl
    · have h8 : ks[i].kind ≠ 8 := by
        intro h8; rw [h8] at this; simp at this
      simp [h8, h13]

theorem below_do_iff (ks : List Ex) {k : Int} (hk : k = 11 ∨ k = 12) (hne : ks ≠ []) : belowB k ks = true ↔ (Option.all (fun e => !e.kind == 13) ks.getLast? = true ∧ ∀ x, x ∈ ks → mayK x.kind 13 = true) := by
  rw [below_do ks hk hne, Bool.and_eq_true, List.all_eq_true]

theorem ways_may (ks : List Ex) (h : Option.all (fun e => !e.kind == 8 && !e.kind == 13) ks.head? = true) (h' : ∀ x, x ∈ ks.tail → x.kind = 8) : ∀ x, x ∈ ks → mayK x.kind 8 = true := by
  cases ks with
  | nil => intro x hx; simp at hx
  | cons e r =>
    intro x hx
    rcases List.mem_cons.1 hx with rfl | hx
    · simp only [List.head?_cons, Option.all_some, Bool.and_eq_true, Bool.not_eq_true'] at h
      rw [mayK, h.1, h.2]; rfl
    · rw [h' x hx]; rfl

theorem namesB_nil : namesB [] = true := rfl

theorem len0 {l : List Str} : ((l.length : Int) = 0) ↔ l = [] := by
  constructor
  · intro h; exact List.length_eq_zero_iff.1 (by omega)
  · rintro rfl; rfl
theorem klen0 {l : List Ex} : ((l.length : Int) = 0) ↔ l = [] := by
  constructor
  · intro h; exact List.length_eq_zero_iff.1 (by omega)
  · rintro rfl; rfl

theorem sndR_body (k : Int) (s : Str) (n : Int) (l : List Str) (ks : List Ex) : sndR (.mk k s n l ks) = sndBody sndR k s n l ks := by
  have hL : allP.allPL sndQ ks = ks.all sndR := allPL_all _ _
  have hn := namesB_nil
  rw [sndR, allP, hL, sndQ, sndBody]
  rcases kind_cases k with rfl | rfl | rfl | rfl | rfl | rfl | rfl | rfl | rfl | rfl | rfl | rfl | rfl | h
  case' inr.inr.inr.inr.inr.inr.inr.inr.inr.inr.inr.inr.inr => rw [decide_eq_false (p := 1 ≤ k ∧ k ≤ 13) (by omega)]; rcases h with h | h; · rw [decide_eq_false (p := 1 ≤ k) (by omega)]; simp
  case' inr.inr.inr.inr.inr.inr.inr.inr.inr.inr.inr.inr.inr => rw [decide_eq_false (p := k ≤ 13) (by omega)]; simp
  all_goals rw [Bool.eq_iff_iff]
  all_goals simp [namedB, namesK, kidsK, plainB, namedK, boundK, manyK, restB, leafB, waysB, blockB, below_plain, below_case, all_and, len0, klen0]
  all_goals have hz : (0 = (ks.length : Int)) ↔ ks = [] := by rw [← klen0]; omega
  all_goals have hz' : 0 < ks.length ↔ ¬ ks = [] := by rw [← klen0]; omega
  all_goals have hd11 := fun h : ks ≠ [] => below_do_iff ks (k := 11) (.inl rfl) h
  all_goals have hd12 := fun h : ks ≠ [] => below_do_iff ks (k := 12) (.inr rfl) h
  all_goals have hw := ways_may ks
  all_goals clear hL
  all_goals (by_cases hl0 : l = [] <;> by_cases hk0 : ks = [] <;> first | (subst hl0 hk0; simp_all; done) | (subst hl0; simp_all; done) | (subst hk0; simp_all; done) | (simp_all; done) | skip)
  all_goals first | grind | skip

theorem sndBody_plain {snd : Ex → Bool} {k : Int} {s : Str} {n : Int} {l : List Str} {ks : List Ex} (h : plainB k s n l = false) : sndBody snd k s n l ks = false := by
  rw [sndBody, h]; rfl

set_option maxHeartbeats 1600000 in
theorem r04_Sound_leaf (k : Int) (hk : k = 1 ∨ k = 2 ∨ k = 3) (s : Str) (n : Int) (l : List Str) (ks : List Ex) (w : World) (a1 a2 : Option Addr) (c1 c2 : Nat) (hls : l.length ≤ lenMax) (hks : ks.length ≤ lenMax) (hl : StrRow w a1 l) (hr : ExRow w a2 ks)
    (ih : ∀ e ∈ ks, ∀ v w, IsEx w v e → Calls Tryz.prog 37 #[v] w fun r w' => r = .returned (.bool (sndR e)) ∧ Below w.heap.size w w')
    (hp' : Hid (plainB k s n l = true)) :
    Calls Tryz.prog 37 #[.agg #[.int .i64 k, .string s, .int .i64 n, .slice a1 l.length c1, .slice a2 ks.length c2]] w fun r w' => r = .returned (.bool (sndBody sndR k s n l ks)) ∧ Below w.heap.size w w' := by
  have hB0 : Below (w.heap.size + 1) (w.alloc (.cells #[.int .i64 k, .string s, .int .i64 n, .slice a1 l.length c1, .slice a2 ks.length c2] 40)) (w.alloc (.cells #[.int .i64 k, .string s, .int .i64 n, .slice a1 l.length c1, .slice a2 ks.length c2] 40)) := Below.refl _ _
  rcases hk with rfl | rfl | rfl
  all_goals
    go_enter Tryz.func37, Tryz.ntmps37
    go_wp2_with fail
    refine (r04_plain _ s n a1 a2 c1 c2 _ l _ hls).mono ?_
    rintro e w1 ⟨rfl, hB1⟩
    rw [hp'.out]
    have hB1 := hB0.trans (hB1.mono (by simp))
    obtain ⟨b0, b1, b2, b3, b4⟩ := box5 hB1
    go_wp2_with fail
    refine (r04_leaf _ s n a1 a2 c1 c2 _ ks _ hks).mono ?_
    rintro e w2 ⟨rfl, hB2⟩
    go_wp2_with fail
    go_ret
    exact ⟨ret_bool (by simp [sndBody, hp'.out]), below_box (hB1.trans (hB2.mono (size_box hB1)))⟩

set_option maxHeartbeats 1600000 in
theorem r04_Sound_ways (k : Int) (hk : k = 7) (s : Str) (n : Int) (l : List Str) (ks : List Ex) (w : World) (a1 a2 : Option Addr) (c1 c2 : Nat) (hls : l.length ≤ lenMax) (hks : ks.length ≤ lenMax) (hl : StrRow w a1 l) (hr : ExRow w a2 ks)
    (ih : ∀ e ∈ ks, ∀ v w, IsEx w v e → Calls Tryz.prog 37 #[v] w fun r w' => r = .returned (.bool (sndR e)) ∧ Below w.heap.size w w')
    (hp' : Hid (plainB k s n l = true)) :
    Calls Tryz.prog 37 #[.agg #[.int .i64 k, .string s, .int .i64 n, .slice a1 l.length c1, .slice a2 ks.length c2]] w fun r w' => r = .returned (.bool (sndBody sndR k s n l ks)) ∧ Below w.heap.size w w' := by
  have hB0 : Below (w.heap.size + 1) (w.alloc (.cells #[.int .i64 k, .string s, .int .i64 n, .slice a1 l.length c1, .slice a2 ks.length c2] 40)) (w.alloc (.cells #[.int .i64 k, .string s, .int .i64 n, .slice a1 l.length c1, .slice a2 ks.length c2] 40)) := Below.refl _ _
  subst hk
  go_enter Tryz.func37, Tryz.ntmps37
  go_wp2_with fail
  refine (r04_plain _ s n a1 a2 c1 c2 _ l _ hls).mono ?_
  rintro e w1 ⟨rfl, hB1⟩
  rw [hp'.out]
  have hB1 := hB0.trans (hB1.mono (by simp))
  obtain ⟨b0, b1, b2, b3, b4⟩ := box5 hB1
  go_wp2_with fail
  refine (r04_ways sndR _ s n a1 a2 c1 c2 _ ks _ hks (hr.keeps (keeps_box hB1)) ih).mono ?_
  rintro e w2 ⟨rfl, hB2⟩
  go_wp2_with fail
  go_ret
  exact ⟨ret_bool (by simp [sndBody, hp'.out]), below_box (hB1.trans (hB2.mono (size_box hB1)))⟩

set_option maxHeartbeats 1600000 in
theorem r04_Sound_block (k : Int) (hk : k = 11 ∨ k = 12) (s : Str) (n : Int) (l : List Str) (ks : List Ex) (w : World) (a1 a2 : Option Addr) (c1 c2 : Nat) (hls : l.length ≤ lenMax) (hks : ks.length ≤ lenMax) (hl : StrRow w a1 l) (hr : ExRow w a2 ks)
    (ih : ∀ e ∈ ks, ∀ v w, IsEx w v e → Calls Tryz.prog 37 #[v] w fun r w' => r = .returned (.bool (sndR e)) ∧ Below w.heap.size w w')
    (hp' : Hid (plainB k s n l = true)) :
    Calls Tryz.prog 37 #[.agg #[.int .i64 k, .string s, .int .i64 n, .slice a1 l.length c1, .slice a2 ks.length c2]] w fun r w' => r = .returned (.bool (sndBody sndR k s n l ks)) ∧ Below w.heap.size w w' := by
  have hB0 : Below (w.heap.size + 1) (w.alloc (.cells #[.int .i64 k, .string s, .int .i64 n, .slice a1 l.length c1, .slice a2 ks.length c2] 40)) (w.alloc (.cells #[.int .i64 k, .string s, .int .i64 n, .slice a1 l.length c1, .slice a2 ks.length c2] 40)) := Below.refl _ _
  rcases hk with rfl | rfl
  all_goals
    go_enter Tryz.func37, Tryz.ntmps37
    go_wp2_with fail
    refine (r04_plain _ s n a1 a2 c1 c2 _ l _ hls).mono ?_
    rintro e w1 ⟨rfl, hB1⟩
    rw [hp'.out]
    have hB1 := hB0.trans (hB1.mono (by simp))
    obtain ⟨b0, b1, b2, b3, b4⟩ := box5 hB1
    go_wp2_with fail
    refine (r04_block sndR _ s n a1 a2 c1 c2 _ ks _ hks (hr.keeps (keeps_box hB1)) ih).mono ?_
    rintro e w2 ⟨rfl, hB2⟩
    go_wp2_with fail
    go_ret
    exact ⟨ret_bool (by simp [sndBody, hp'.out]), below_box (hB1.trans (hB2.mono (size_box hB1)))⟩

set_option maxHeartbeats 1600000 in
theorem r04_Sound_many (k : Int) (hk : k = 4 ∨ k = 5 ∨ k = 6 ∨ k = 8 ∨ k = 9 ∨ k = 10 ∨ k = 13) (s : Str) (n : Int) (l : List Str) (ks : List Ex) (w : World) (a1 a2 : Option Addr) (c1 c2 : Nat) (hls : l.length ≤ lenMax) (hks : ks.length ≤ lenMax) (hl : StrRow w a1 l) (hr : ExRow w a2 ks)
    (ih : ∀ e ∈ ks, ∀ v w, IsEx w v e → Calls Tryz.prog 37 #[v] w fun r w' => r = .returned (.bool (sndR e)) ∧ Below w.heap.size w w')
    (hm : ((ks.length : Int) != manyK k) = true) (hp' : Hid (plainB k s n l = true)) :
    Calls Tryz.prog 37 #[.agg #[.int .i64 k, .string s, .int .i64 n, .slice a1 l.length c1, .slice a2 ks.length c2]] w fun r w' => r = .returned (.bool (sndBody sndR k s n l ks)) ∧ Below w.heap.size w w' := by
  have hB0 : Below (w.heap.size + 1) (w.alloc (.cells #[.int .i64 k, .string s, .int .i64 n, .slice a1 l.length c1, .slice a2 ks.length c2] 40)) (w.alloc (.cells #[.int .i64 k, .string s, .int .i64 n, .slice a1 l.length c1, .slice a2 ks.length c2] 40)) := Below.refl _ _
  unfold lenMax at hks
  have hx : Hid (sndBody sndR k s n l ks = false) := by
    unfold Hid
    have hm' : decide ((ks.length : Int) = manyK k) = false := by rw [decide_eq_false_iff_not]; simpa using hm
    rcases hk with rfl | rfl | rfl | rfl | rfl | rfl | rfl <;> simp [sndBody, hm']
  rcases hk with rfl | rfl | rfl | rfl | rfl | rfl | rfl
  all_goals first | change (_ != (1 : Int)) = _ at hm | change (_ != (2 : Int)) = _ at hm | change (_ != (3 : Int)) = _ at hm
  all_goals
    go_enter Tryz.func37, Tryz.ntmps37
    go_wp2_with fail
    refine (r04_plain _ s n a1 a2 c1 c2 _ l _ hls).mono ?_
    rintro e w1 ⟨rfl, hB1⟩
    rw [hp'.out]
    have hB1 := hB0.trans (hB1.mono (by simp))
    obtain ⟨b0, b1, b2, b3, b4⟩ := box5 hB1
    go_wp2_with fail
    go_ret
    exact ⟨ret_bool hx.out.symm, below_box hB1⟩

set_option maxHeartbeats 1600000 in
theorem r04_Sound_plain (k : Int) (hk : k = 5 ∨ k = 10) (s : Str) (n : Int) (l : List Str) (ks : List Ex) (w : World) (a1 a2 : Option Addr) (c1 c2 : Nat) (hls : l.length ≤ lenMax) (hks : ks.length ≤ lenMax) (hl : StrRow w a1 l) (hr : ExRow w a2 ks)
    (ih : ∀ e ∈ ks, ∀ v w, IsEx w v e → Calls Tryz.prog 37 #[v] w fun r w' => r = .returned (.bool (sndR e)) ∧ Below w.heap.size w w')
    (hm : ((ks.length : Int) != manyK k) = false) (hp' : Hid (plainB k s n l = true)) :
    Calls Tryz.prog 37 #[.agg #[.int .i64 k, .string s, .int .i64 n, .slice a1 l.length c1, .slice a2 ks.length c2]] w fun r w' => r = .returned (.bool (sndBody sndR k s n l ks)) ∧ Below w.heap.size w w' := by
  have hB0 : Below (w.heap.size + 1) (w.alloc (.cells #[.int .i64 k, .string s, .int .i64 n, .slice a1 l.length c1, .slice a2 ks.length c2] 40)) (w.alloc (.cells #[.int .i64 k, .string s, .int .i64 n, .slice a1 l.length c1, .slice a2 ks.length c2] 40)) := Below.refl _ _
  have hks0 : ks.length ≤ 140737488355328 := hks
  have hm' : Hid (decide ((ks.length : Int) = manyK k) = true) := by unfold Hid; rw [decide_eq_true_iff]; simpa using hm
  cases hkd : (ks.all fun e => sndR e && mayK e.kind 0)
  · have hx : Hid (sndBody sndR k s n l ks = false) := by
      unfold Hid
      rcases hk with rfl | rfl <;> simp [sndBody, hkd]
    have hkd' := Lib.hid hkd
    clear hkd
    rcases hk with rfl | rfl
    all_goals first | change (_ != (1 : Int)) = _ at hm | change (_ != (2 : Int)) = _ at hm | change (_ != (3 : Int)) = _ at hm
    all_goals
      go_enter Tryz.func37, Tryz.ntmps37
      go_wp2_with fail
      refine (r04_plain _ s n a1 a2 c1 c2 _ l _ hls).mono ?_
      rintro e w1 ⟨rfl, hB1⟩
      rw [hp'.out]
      have hB1 := hB0.trans (hB1.mono (by simp))
      obtain ⟨b0, b1, b2, b3, b4⟩ := box5 hB1
      go_wp2_with fail
      refine (r04_kids sndR _ ks _ 0 _ hks (hr.keeps (keeps_box hB1)) ih).mono ?_
      rintro e w2 ⟨rfl, hB2⟩
      have hB2 := hB1.trans (hB2.mono (size_box hB1))
      clear b0 b1 b2 b3 b4
      obtain ⟨b0, b1, b2, b3, b4⟩ := box5 hB2
      have hz2 := size_box hB2
      rw [hkd'.out]
      go_wp2_with fail
      go_ret
      exact ⟨ret_bool hx.out.symm, below_box hB2⟩
  · have hkd' := Lib.hid hkd
    clear hkd
    rcases hk with rfl | rfl
    all_goals first | change (_ != (1 : Int)) = _ at hm | change (_ != (2 : Int)) = _ at hm | change (_ != (3 : Int)) = _ at hm
    all_goals
      go_enter Tryz.func37, Tryz.ntmps37
      go_wp2_with fail
      refine (r04_plain _ s n a1 a2 c1 c2 _ l _ hls).mono ?_
      rintro e w1 ⟨rfl, hB1⟩
      rw [hp'.out]
      have hB1 := hB0.trans (hB1.mono (by simp))
      obtain ⟨b0, b1, b2, b3, b4⟩ := box5 hB1
      go_wp2_with fail
      refine (r04_kids sndR _ ks _ 0 _ hks (hr.keeps (keeps_box hB1)) ih).mono ?_
      rintro e w2 ⟨rfl, hB2⟩
      have hB2 := hB1.trans (hB2.mono (size_box hB1))
      clear b0 b1 b2 b3 b4
      obtain ⟨b0, b1, b2, b3, b4⟩ := box5 hB2
      have hz2 := size_box hB2
      rw [hkd'.out]
      go_wp2_with fail
      go_ret
      exact ⟨ret_bool (by simp [sndBody, hp'.out, hkd'.out, hm'.out, restB]), below_box hB2⟩

set_option maxHeartbeats 1600000 in
theorem r04_Sound_names1 (k : Int) (hk : k = 4 ∨ k = 6 ∨ k = 13) (s : Str) (n : Int) (l : List Str) (ks : List Ex) (w : World) (a1 a2 : Option Addr) (c1 c2 : Nat) (hls : l.length ≤ lenMax) (hks : ks.length ≤ lenMax) (hl : StrRow w a1 l) (hr : ExRow w a2 ks)
    (ih : ∀ e ∈ ks, ∀ v w, IsEx w v e → Calls Tryz.prog 37 #[v] w fun r w' => r = .returned (.bool (sndR e)) ∧ Below w.heap.size w w')
    (hm : ((ks.length : Int) != manyK k) = false) (hp' : Hid (plainB k s n l = true)) :
    Calls Tryz.prog 37 #[.agg #[.int .i64 k, .string s, .int .i64 n, .slice a1 l.length c1, .slice a2 ks.length c2]] w fun r w' => r = .returned (.bool (sndBody sndR k s n l ks)) ∧ Below w.heap.size w w' := by
  have hB0 : Below (w.heap.size + 1) (w.alloc (.cells #[.int .i64 k, .string s, .int .i64 n, .slice a1 l.length c1, .slice a2 ks.length c2] 40)) (w.alloc (.cells #[.int .i64 k, .string s, .int .i64 n, .slice a1 l.length c1, .slice a2 ks.length c2] 40)) := Below.refl _ _
  have hks0 : ks.length ≤ 140737488355328 := hks
  have hm' : Hid (decide ((ks.length : Int) = manyK k) = true) := by unfold Hid; rw [decide_eq_true_iff]; simpa using hm
  cases hkd : (ks.all fun e => sndR e && mayK e.kind 0)
  · have hx : Hid (sndBody sndR k s n l ks = false) := by
      unfold Hid
      rcases hk with rfl | rfl | rfl <;> simp [sndBody, hkd]
    have hkd' := Lib.hid hkd
    clear hkd
    rcases hk with rfl | rfl | rfl
    all_goals first | change (_ != (1 : Int)) = _ at hm | change (_ != (2 : Int)) = _ at hm | change (_ != (3 : Int)) = _ at hm
    all_goals
      go_enter Tryz.func37, Tryz.ntmps37
      go_wp2_with fail
      refine (r04_plain _ s n a1 a2 c1 c2 _ l _ hls).mono ?_
      rintro e w1 ⟨rfl, hB1⟩
      rw [hp'.out]
      have hB1 := hB0.trans (hB1.mono (by simp))
      obtain ⟨b0, b1, b2, b3, b4⟩ := box5 hB1
      go_wp2_with fail
      refine (r04_kids sndR _ ks _ 0 _ hks (hr.keeps (keeps_box hB1)) ih).mono ?_
      rintro e w2 ⟨rfl, hB2⟩
      have hB2 := hB1.trans (hB2.mono (size_box hB1))
      clear b0 b1 b2 b3 b4
      obtain ⟨b0, b1, b2, b3, b4⟩ := box5 hB2
      have hz2 := size_box hB2
      rw [hkd'.out]
      go_wp2_with fail
      go_ret
      exact ⟨ret_bool hx.out.symm, below_box hB2⟩
  · have hkd' := Lib.hid hkd
    clear hkd
    rcases hk with rfl | rfl | rfl
    all_goals first | change (_ != (1 : Int)) = _ at hm | change (_ != (2 : Int)) = _ at hm | change (_ != (3 : Int)) = _ at hm
    all_goals
      go_enter Tryz.func37, Tryz.ntmps37
      go_wp2_with fail
      refine (r04_plain _ s n a1 a2 c1 c2 _ l _ hls).mono ?_
      rintro e w1 ⟨rfl, hB1⟩
      rw [hp'.out]
      have hB1 := hB0.trans (hB1.mono (by simp))
      obtain ⟨b0, b1, b2, b3, b4⟩ := box5 hB1
      go_wp2_with fail
      refine (r04_kids sndR _ ks _ 0 _ hks (hr.keeps (keeps_box hB1)) ih).mono ?_
      rintro e w2 ⟨rfl, hB2⟩
      have hB2 := hB1.trans (hB2.mono (size_box hB1))
      clear b0 b1 b2 b3 b4
      obtain ⟨b0, b1, b2, b3, b4⟩ := box5 hB2
      have hz2 := size_box hB2
      rw [hkd'.out]
      go_wp2_with fail
      refine (r04_names a1 l c1 1 _ hls (hl.keeps (keeps_box hB2))).mono ?_
      rintro e w3 ⟨rfl, hB3⟩
      go_wp2_with fail
      go_ret
      exact ⟨ret_bool (by simp [sndBody, hp'.out, hkd'.out, hm'.out, restB]), below_box (hB2.trans (hB3.mono hz2))⟩

set_option maxHeartbeats 1600000 in
theorem r04_Sound_alt (k : Int) (hk : k = 8) (s : Str) (n : Int) (l : List Str) (ks : List Ex) (w : World) (a1 a2 : Option Addr) (c1 c2 : Nat) (hls : l.length ≤ lenMax) (hks : ks.length ≤ lenMax) (hl : StrRow w a1 l) (hr : ExRow w a2 ks)
    (ih : ∀ e ∈ ks, ∀ v w, IsEx w v e → Calls Tryz.prog 37 #[v] w fun r w' => r = .returned (.bool (sndR e)) ∧ Below w.heap.size w w')
    (hm : ((ks.length : Int) != manyK k) = false) (hp' : Hid (plainB k s n l = true)) :
    Calls Tryz.prog 37 #[.agg #[.int .i64 k, .string s, .int .i64 n, .slice a1 l.length c1, .slice a2 ks.length c2]] w fun r w' => r = .returned (.bool (sndBody sndR k s n l ks)) ∧ Below w.heap.size w w' := by
  have hB0 : Below (w.heap.size + 1) (w.alloc (.cells #[.int .i64 k, .string s, .int .i64 n, .slice a1 l.length c1, .slice a2 ks.length c2] 40)) (w.alloc (.cells #[.int .i64 k, .string s, .int .i64 n, .slice a1 l.length c1, .slice a2 ks.length c2] 40)) := Below.refl _ _
  have hks0 : ks.length ≤ 140737488355328 := hks
  have hm' : Hid (decide ((ks.length : Int) = manyK k) = true) := by unfold Hid; rw [decide_eq_true_iff]; simpa using hm
  cases hkd : (ks.all fun e => sndR e && mayK e.kind 0)
  · have hx : Hid (sndBody sndR k s n l ks = false) := by
      unfold Hid
      rcases hk with rfl <;> simp [sndBody, hkd]
    have hkd' := Lib.hid hkd
    clear hkd
    rcases hk with rfl
    all_goals first | change (_ != (1 : Int)) = _ at hm | change (_ != (2 : Int)) = _ at hm | change (_ != (3 : Int)) = _ at hm
    all_goals
      go_enter Tryz.func37, Tryz.ntmps37
      go_wp2_with fail
      refine (r04_plain _ s n a1 a2 c1 c2 _ l _ hls).mono ?_
      rintro e w1 ⟨rfl, hB1⟩
      rw [hp'.out]
      have hB1 := hB0.trans (hB1.mono (by simp))
      obtain ⟨b0, b1, b2, b3, b4⟩ := box5 hB1
      go_wp2_with fail
      refine (r04_kids sndR _ ks _ 0 _ hks (hr.keeps (keeps_box hB1)) ih).mono ?_
      rintro e w2 ⟨rfl, hB2⟩
      have hB2 := hB1.trans (hB2.mono (size_box hB1))
      clear b0 b1 b2 b3 b4
      obtain ⟨b0, b1, b2, b3, b4⟩ := box5 hB2
      have hz2 := size_box hB2
      rw [hkd'.out]
      go_wp2_with fail
      go_ret
      exact ⟨ret_bool hx.out.symm, below_box hB2⟩
  · have hkd' := Lib.hid hkd
    clear hkd
    rcases hk with rfl
    all_goals first | change (_ != (1 : Int)) = _ at hm | change (_ != (2 : Int)) = _ at hm | change (_ != (3 : Int)) = _ at hm
    all_goals
      go_enter Tryz.func37, Tryz.ntmps37
      go_wp2_with fail
      refine (r04_plain _ s n a1 a2 c1 c2 _ l _ hls).mono ?_
      rintro e w1 ⟨rfl, hB1⟩
      rw [hp'.out]
      have hB1 := hB0.trans (hB1.mono (by simp))
      obtain ⟨b0, b1, b2, b3, b4⟩ := box5 hB1
      go_wp2_with fail
      refine (r04_kids sndR _ ks _ 0 _ hks (hr.keeps (keeps_box hB1)) ih).mono ?_
      rintro e w2 ⟨rfl, hB2⟩
      have hB2 := hB1.trans (hB2.mono (size_box hB1))
      clear b0 b1 b2 b3 b4
      obtain ⟨b0, b1, b2, b3, b4⟩ := box5 hB2
      have hz2 := size_box hB2
      rw [hkd'.out]
      go_wp2_with fail
      cases hn : namesB l
      · have hn' := Lib.hid hn
        clear hn
        refine (r04_names a1 l c1 (-1) _ hls (hl.keeps (keeps_box hB2))).mono ?_
        rintro e w3 ⟨rfl, hB3⟩
        rw [hn'.out, Bool.and_false]
        go_wp2_with fail
        go_ret
        exact ⟨ret_bool (by simp [sndBody, hp'.out, hkd'.out, hm'.out, restB, hn'.out]), below_box (hB2.trans (hB3.mono hz2))⟩
      · have hn' := Lib.hid hn
        clear hn
        refine (r04_names a1 l c1 (-1) _ hls (hl.keeps (keeps_box hB2))).mono ?_
        rintro e w3 ⟨rfl, hB3⟩
        rw [hn'.out, Bool.and_true, decide_eq_true (p := (-1 : Int) < 0) (by omega), Bool.true_or]
        have hB3 := hB2.trans (hB3.mono hz2)
        clear b0 b1 b2 b3 b4
        obtain ⟨b0, b1, b2, b3, b4⟩ := box5 hB3
        go_wp2_with fail
        refine (r02_Con _ _).mono ?_
        rintro e w4 ⟨rfl, hB4⟩
        go_wp2_with fail
        go_ret
        exact ⟨ret_bool (by simp [sndBody, hp'.out, hkd'.out, hm'.out, restB, hn'.out]), below_box (hB3.trans (hB4.mono (size_box hB3)))⟩

set_option maxHeartbeats 1600000 in
theorem r04_Sound_op (k : Int) (hk : k = 9) (s : Str) (n : Int) (l : List Str) (ks : List Ex) (w : World) (a1 a2 : Option Addr) (c1 c2 : Nat) (hls : l.length ≤ lenMax) (hks : ks.length ≤ lenMax) (hl : StrRow w a1 l) (hr : ExRow w a2 ks)
    (ih : ∀ e ∈ ks, ∀ v w, IsEx w v e → Calls Tryz.prog 37 #[v] w fun r w' => r = .returned (.bool (sndR e)) ∧ Below w.heap.size w w')
    (hm : ((ks.length : Int) != manyK k) = false) (hp' : Hid (plainB k s n l = true)) :
    Calls Tryz.prog 37 #[.agg #[.int .i64 k, .string s, .int .i64 n, .slice a1 l.length c1, .slice a2 ks.length c2]] w fun r w' => r = .returned (.bool (sndBody sndR k s n l ks)) ∧ Below w.heap.size w w' := by
  have hB0 : Below (w.heap.size + 1) (w.alloc (.cells #[.int .i64 k, .string s, .int .i64 n, .slice a1 l.length c1, .slice a2 ks.length c2] 40)) (w.alloc (.cells #[.int .i64 k, .string s, .int .i64 n, .slice a1 l.length c1, .slice a2 ks.length c2] 40)) := Below.refl _ _
  have hks0 : ks.length ≤ 140737488355328 := hks
  have hm' : Hid (decide ((ks.length : Int) = manyK k) = true) := by unfold Hid; rw [decide_eq_true_iff]; simpa using hm
  cases hkd : (ks.all fun e => sndR e && mayK e.kind 0)
  · have hx : Hid (sndBody sndR k s n l ks = false) := by
      unfold Hid
      rcases hk with rfl <;> simp [sndBody, hkd]
    have hkd' := Lib.hid hkd
    clear hkd
    rcases hk with rfl
    all_goals first | change (_ != (1 : Int)) = _ at hm | change (_ != (2 : Int)) = _ at hm | change (_ != (3 : Int)) = _ at hm
    all_goals
      go_enter Tryz.func37, Tryz.ntmps37
      go_wp2_with fail
      refine (r04_plain _ s n a1 a2 c1 c2 _ l _ hls).mono ?_
      rintro e w1 ⟨rfl, hB1⟩
      rw [hp'.out]
      have hB1 := hB0.trans (hB1.mono (by simp))
      obtain ⟨b0, b1, b2, b3, b4⟩ := box5 hB1
      go_wp2_with fail
      refine (r04_kids sndR _ ks _ 0 _ hks (hr.keeps (keeps_box hB1)) ih).mono ?_
      rintro e w2 ⟨rfl, hB2⟩
      have hB2 := hB1.trans (hB2.mono (size_box hB1))
      clear b0 b1 b2 b3 b4
      obtain ⟨b0, b1, b2, b3, b4⟩ := box5 hB2
      have hz2 := size_box hB2
      rw [hkd'.out]
      go_wp2_with fail
      refine (r01_Is _ _).mono ?_
      rintro e w3 ⟨rfl, rfl⟩
      go_wp2_with fail
      go_ret
      exact ⟨ret_bool hx.out.symm, below_box hB2⟩
  · have hkd' := Lib.hid hkd
    clear hkd
    rcases hk with rfl
    all_goals first | change (_ != (1 : Int)) = _ at hm | change (_ != (2 : Int)) = _ at hm | change (_ != (3 : Int)) = _ at hm
    all_goals
      go_enter Tryz.func37, Tryz.ntmps37
      go_wp2_with fail
      refine (r04_plain _ s n a1 a2 c1 c2 _ l _ hls).mono ?_
      rintro e w1 ⟨rfl, hB1⟩
      rw [hp'.out]
      have hB1 := hB0.trans (hB1.mono (by simp))
      obtain ⟨b0, b1, b2, b3, b4⟩ := box5 hB1
      go_wp2_with fail
      refine (r04_kids sndR _ ks _ 0 _ hks (hr.keeps (keeps_box hB1)) ih).mono ?_
      rintro e w2 ⟨rfl, hB2⟩
      have hB2 := hB1.trans (hB2.mono (size_box hB1))
      clear b0 b1 b2 b3 b4
      obtain ⟨b0, b1, b2, b3, b4⟩ := box5 hB2
      have hz2 := size_box hB2
      rw [hkd'.out]
      go_wp2_with fail
      cases hd : doesB s
      all_goals
        have hd' := Lib.hid hd
        clear hd
        refine (r01_Is _ _).mono ?_
        rintro e w3 ⟨rfl, rfl⟩
        rw [hd'.out]
        go_wp2_with fail
        go_ret
        exact ⟨ret_bool (by simp [sndBody, hp'.out, hkd'.out, hm'.out, restB, hd'.out]), below_box hB2⟩

set_option maxHeartbeats 1600000 in
theorem r04_Sound : ∀ (e : Ex) (v : Value) (w : World), IsEx w v e → Calls Tryz.prog 37 #[v] w fun r w' => r = .returned (.bool (sndR e)) ∧ Below w.heap.size w w' := by
  refine Ex.ind fun k s n l ks ih v w hv => ?_
  obtain ⟨a1, c1, a2, c2, rfl, _, _, hs, hls, hks, hl, hr⟩ := hv.open
  have hbody := Lib.hid (sndR_body k s n l ks)
  have hB0 : Below (w.heap.size + 1) (w.alloc (.cells #[.int .i64 k, .string s, .int .i64 n, .slice a1 l.length c1, .slice a2 ks.length c2] 40)) (w.alloc (.cells #[.int .i64 k, .string s, .int .i64 n, .slice a1 l.length c1, .slice a2 ks.length c2] 40)) := Below.refl _ _
  cases hp : plainB k s n l
  · have hx := Lib.hid (hbody.out.trans (sndBody_plain hp))
    clear hbody
    have hp' := Lib.hid hp
    clear hp
    go_enter Tryz.func37, Tryz.ntmps37
    go_wp2_with fail
    refine (r04_plain k s n a1 a2 c1 c2 _ l _ hls).mono ?_
    rintro e w1 ⟨rfl, hB1⟩
    rw [hp'.out]
    go_wp2_with fail
    go_ret
    exact ⟨ret_bool hx.out.symm, below_box (hB0.trans (hB1.mono (by simp)))⟩
  · have hp' := Lib.hid hp
    clear hp
    rw [hbody.out]
    clear hbody
    by_cases h13 : k < 1 ∨ 13 < k
    · have hx : Hid (sndBody sndR k s n l ks = false) := by
        unfold Hid; rw [sndBody]
        rcases h13 with h | h
        · rw [decide_eq_false (p := 1 ≤ k) (by omega)]; simp
        · rw [decide_eq_false (p := k ≤ 13) (by omega)]; simp
      rcases h13 with h | h
      all_goals
        go_enter Tryz.func37, Tryz.ntmps37
        go_wp2_with fail
        refine (r04_plain _ s n a1 a2 c1 c2 _ l _ hls).mono ?_
        rintro e w1 ⟨rfl, hB1⟩
        rw [hp'.out]
        have hB1 := hB0.trans (hB1.mono (by simp))
        obtain ⟨b0, b1, b2, b3, b4⟩ := box5 hB1
        go_wp2_with fail
        go_ret
        exact ⟨ret_bool hx.out.symm, below_box hB1⟩
    by_cases hk : k = 1 ∨ k = 2 ∨ k = 3
    · exact r04_Sound_leaf k hk s n l ks w a1 a2 c1 c2 hls hks hl hr ih hp'
    by_cases hk : k = 7
    · exact r04_Sound_ways k hk s n l ks w a1 a2 c1 c2 hls hks hl hr ih hp'
    by_cases hk : k = 11 ∨ k = 12
    · exact r04_Sound_block k hk s n l ks w a1 a2 c1 c2 hls hks hl hr ih hp'
    cases hm : ((ks.length : Int) != manyK k)
    · by_cases hk : k = 5 ∨ k = 10
      · exact r04_Sound_plain k hk s n l ks w a1 a2 c1 c2 hls hks hl hr ih hm hp'
      by_cases hk : k = 4 ∨ k = 6 ∨ k = 13
      · exact r04_Sound_names1 k hk s n l ks w a1 a2 c1 c2 hls hks hl hr ih hm hp'
      by_cases hk : k = 8
      · exact r04_Sound_alt k hk s n l ks w a1 a2 c1 c2 hls hks hl hr ih hm hp'
      exact r04_Sound_op k (by omega) s n l ks w a1 a2 c1 c2 hls hks hl hr ih hm hp'
    · exact r04_Sound_many k (by omega) s n l ks w a1 a2 c1 c2 hls hks hl hr ih hm hp'

def chkB (e : Ex) : Bool := decide (cnt e ≤ 1000) && decide (dep e ≤ 30) && !(e.kind == 8 || e.kind == 13) && sndR e

set_option maxHeartbeats 400000 in
theorem r04_Check (e : Ex) (v : Value) (w : World) (hv : IsEx w v e) :
    Calls Tryz.prog 16 #[v] w fun r w' => r = .returned (.bool (chkB e)) ∧ Below w.heap.size w w' := by
  have hv0 := hv
  cases e with
  | mk kd s nm ls ks =>
  obtain ⟨a1, c1, a2, c2, rfl, _⟩ := hv.open
  have hB0 : Below (w.heap.size + 1) (w.alloc (.cells #[.int .i64 kd, .string s, .int .i64 nm, .slice a1 ls.length c1, .slice a2 ks.length c2] 40)) (w.alloc (.cells #[.int .i64 kd, .string s, .int .i64 nm, .slice a1 ls.length c1, .slice a2 ks.length c2] 40)) := Below.refl _ _
  by_cases h1 : cnt (.mk kd s nm ls ks) ≤ 1000
  · by_cases h2 : dep (.mk kd s nm ls ks) ≤ 30
    · rcases show (kd = 8 ∨ kd = 13) ∨ ((kd == 8) = false ∧ (kd == 13) = false) by simp only [beq_eq_false_iff_ne]; omega with h813 | ⟨h8, h13⟩
      · have hx : Hid (chkB (.mk kd s nm ls ks) = false) := by unfold Hid; rcases h813 with rfl | rfl <;> simp [chkB, Ex.kind]
        rcases h813 with rfl | rfl
        all_goals
          go_enter Tryz.func16, Tryz.ntmps16
          go_wp2_with fail
          refine (r04_size _ _ _ _ (hv.keeps (keeps_box hB0)) (by omega) (by omega)).mono ?_
          rintro e w1 ⟨rfl, hB1⟩
          have hB1 := hB0.trans (hB1.mono (by simp))
          obtain ⟨b0, b1, b2, b3, b4⟩ := box5 hB1
          go_wp2_with fail
          refine (r04_Depth _ _ _ _ (hv.keeps (keeps_box hB1)) (by omega) (by omega)).mono ?_
          rintro e w2 ⟨rfl, hB2⟩
          have hB2 := hB1.trans (hB2.mono (size_box hB1))
          clear b0 b1 b2 b3 b4
          obtain ⟨b0, b1, b2, b3, b4⟩ := box5 hB2
          go_wp2_with fail
          go_ret
          exact ⟨ret_bool hx.out.symm, below_box hB2⟩
      · go_enter Tryz.func16, Tryz.ntmps16
        go_wp2_with fail
        refine (r04_size _ _ _ _ (hv.keeps (keeps_box hB0)) (by omega) (by omega)).mono ?_
        rintro e w1 ⟨rfl, hB1⟩
        have hB1 := hB0.trans (hB1.mono (by simp))
        obtain ⟨b0, b1, b2, b3, b4⟩ := box5 hB1
        go_wp2_with fail
        refine (r04_Depth _ _ _ _ (hv.keeps (keeps_box hB1)) (by omega) (by omega)).mono ?_
        rintro e w2 ⟨rfl, hB2⟩
        have hB2 := hB1.trans (hB2.mono (size_box hB1))
        clear b0 b1 b2 b3 b4
        obtain ⟨b0, b1, b2, b3, b4⟩ := box5 hB2
        go_wp2_with fail
        refine (r04_Sound _ _ _ (hv.keeps (keeps_box hB2))).mono ?_
        rintro e w3 ⟨rfl, hB3⟩
        go_wp2_with fail
        go_ret
        exact ⟨ret_bool (by rw [chkB, decide_eq_true h1, decide_eq_true h2, Ex.kind, h8, h13]; rfl), below_box (hB2.trans (hB3.mono (size_box hB2)))⟩
    · go_enter Tryz.func16, Tryz.ntmps16
      go_wp2_with fail
      refine (r04_size _ _ _ _ (hv.keeps (keeps_box hB0)) (by omega) (by omega)).mono ?_
      rintro e w1 ⟨rfl, hB1⟩
      have hB1 := hB0.trans (hB1.mono (by simp))
      obtain ⟨b0, b1, b2, b3, b4⟩ := box5 hB1
      go_wp2_with fail
      refine (r04_Depth _ _ _ _ (hv.keeps (keeps_box hB1)) (by omega) (by omega)).mono ?_
      rintro e w2 ⟨rfl, hB2⟩
      go_wp2_with fail
      go_ret
      exact ⟨ret_bool (by rw [chkB, decide_eq_false h2, Bool.and_false]; rfl), below_box (hB1.trans (hB2.mono (size_box hB1)))⟩
  · go_enter Tryz.func16, Tryz.ntmps16
    go_wp2_with fail
    refine (r04_size _ _ _ _ (hv.keeps (keeps_box hB0)) (by omega) (by omega)).mono ?_
    rintro e w1 ⟨rfl, hB1⟩
    go_wp2_with fail
    go_ret
    exact ⟨ret_bool (by rw [chkB, decide_eq_false h1]; rfl), below_box (hB0.trans (hB1.mono (by simp)))⟩
end Go.Proofs.YtpdfeadajgokkaaGreatDoor
