/- The reference's Unify, walked: facts, put where they belong. -/
import Derived.Test.YticjpeefhppjoaaDoorTyVe
import Derived.Test.YticjpeefhppjoaaDoorTyTn
import Derived.BigQuiet
import Derived.Deep.QuietTactic
namespace Go.Proofs.YticjpeefhppjoaaDoor
open Go.RowKit

theorem elem_fact : Tryd.prog.elem 32 = 34 := by kernel_rfl
theorem und_fact : Tryd.prog.underlying 32 = some (.slice (Tryd.prog.elem 32)) := by rw [elem_fact]; exact Tryd.underlying32
theorem size_fact (w : World) : (sizeOf (Tryd.prog.elem 32)).run Tryd.prog w = .ok 4 w := by rw [elem_fact, Tryd.sizeOf34]
theorem own_le {w : World} {base : Nat} {e : TypeId} {size n oc : Nat} {oa : Option Addr} {cs : List Value} (h : w.ownsRow base e size (.slice oa n oc) n cs) : (oa = none ∧ n = 0 ∧ oc = 0) ∨ ∃ g, oa = some ⟨g, 0, none⟩ ∧ base ≤ g ∧ n ≤ oc := by
  obtain ⟨_, ⟨h, h2⟩ | ⟨g, cap, cur, hv, hb, hh, hnc, _⟩⟩ := h
  · simp only [Value.slice.injEq] at h
    exact .inl ⟨h.1, h2, h.2.2⟩
  · simp only [Value.slice.injEq] at hv
    exact .inr ⟨g, hv.1, hb, by omega⟩
/-- A row that is owned, to a place. -/
theorem own_to {w : World} {base n oc : Nat} {oa : Option Addr} {cs : List Value} (h : w.ownsRow base 34 4 (.slice oa n oc) n cs) {j : Nat} (hj : j ≤ n) :
    ∃ sa sc, (∀ W, (Instr.slice 32 (.slice oa n oc) none (some (.int .i64 (j : Int))) none).run Tryd.prog W = .ok (.slice sa j sc) W) ∧ (sa = none → j = 0 ∧ sc = 0) ∧ ∀ ad, sa = some ad → ∀ i u, (cs.take (j * 4))[i]? = some u → w.cell? (ad.add i) = some u := by
  rcases own_le h with ⟨rfl, rfl, rfl⟩ | ⟨g, rfl, _, hc⟩
  · obtain rfl : j = 0 := by omega
    refine ⟨none, 0, fun W => ?_, fun _ => ⟨rfl, rfl⟩, fun _ h => (nomatch h)⟩
    rw [run_slice_h (P := Tryd.prog) (w := W) _ _ _ _ und_fact _ _ (by omega) (by omega), size_fact]; rfl
  · refine ⟨some ⟨g, 0, none⟩, oc, fun W => ?_, fun h => (nomatch h), fun ad had i u hu => ?_⟩
    · rw [run_slice_h (P := Tryd.prog) (w := W) _ _ _ _ und_fact _ _ (by omega) (by omega), size_fact]
      simp [Result.andThen, sliced, addr_add]
    · simp only [Option.some.injEq] at had
      subst had
      rw [addr_add, Nat.zero_add]
      have hu' : cs[i]? = some u := by
        rw [List.getElem?_take] at hu
        split at hu
        · exact hu
        · cases hu
      exact (own_cell h hu').1
/-- A row that is owned, from a place on. -/
theorem own_from {w : World} {base n oc : Nat} {oa : Option Addr} {cs : List Value} (h : w.ownsRow base 34 4 (.slice oa n oc) n cs) {j : Nat} (hj : j ≤ n) :
    ∃ sa sc, (∀ W, (Instr.slice 32 (.slice oa n oc) (some (.int .i64 (j : Int))) none none).run Tryd.prog W = .ok (.slice sa (n - j) sc) W) ∧ (sa = none → n - j = 0 ∧ sc = 0) ∧ ∀ ad, sa = some ad → ∀ i u, (cs.drop (j * 4))[i]? = some u → w.cell? (ad.add i) = some u := by
  rcases own_le h with ⟨rfl, rfl, rfl⟩ | ⟨g, rfl, _, hc⟩
  · obtain rfl : j = 0 := by omega
    refine ⟨none, 0, fun W => ?_, fun _ => ⟨rfl, rfl⟩, fun _ h => (nomatch h)⟩
    rw [run_slice_l (P := Tryd.prog) (w := W) _ _ _ _ und_fact _ _ (by omega) (by omega), size_fact]; rfl
  · refine ⟨some (if oc = j then ⟨g, 0, none⟩ else ⟨g, j * 4, none⟩), oc - j, fun W => ?_, fun h => (nomatch h), fun ad had i u hu => ?_⟩
    · rw [run_slice_l (P := Tryd.prog) (w := W) _ _ _ _ und_fact _ _ (by omega) (by omega), size_fact]
      by_cases he : oc = j <;> simp [Result.andThen, sliced, he, addr_add]
    · simp only [Option.some.injEq] at had
      rw [List.getElem?_drop] at hu
      have hl : cs.length = n * 4 := h.1
      have hlt := (List.getElem?_eq_some_iff.1 hu).1
      have hne : ¬ oc = j := by omega
      rw [if_neg hne] at had
      subst had
      rw [addr_add]
      exact (own_cell h hu).1

theorem FaCells.one {X : Nat → Prop} {w : World} {cs : List Value} {es : List Fa} (h : FaCells X w cs es) (hl : cs.length = es.length * 4) : ∀ u ∈ cs, u.oneCell' = true := by
  intro u hu
  obtain ⟨m, hm, rfl⟩ := List.getElem_of_mem hu
  obtain ⟨v0, v1, v2, v3, c0, c1, c2, c3, x1, x2, x3, hv, _, ht⟩ := h (m / 4) (by omega)
  obtain ⟨a, c, hf⟩ := ht.form
  simp only [Value.agg.injEq, Array.mk.injEq, List.cons.injEq, and_true] at hv hf
  obtain ⟨rfl, rfl, rfl, rfl⟩ := hv
  obtain ⟨rfl, rfl, rfl⟩ := hf
  have key : ∀ (k : Nat) (v : Value), cs[k]? = some v → m = k → v.oneCell' = true → cs[m].oneCell' = true := by
    rintro k v hk rfl hv
    rw [List.getElem?_eq_getElem hm] at hk
    rw [Option.some.inj hk]; exact hv
  have hr : m % 4 = 0 ∨ m % 4 = 1 ∨ m % 4 = 2 ∨ m % 4 = 3 := by omega
  rcases hr with e | e | e | e
  · exact key _ _ c0 (by omega) rfl
  · exact key _ _ c1 (by omega) rfl
  · exact key _ _ c2 (by omega) rfl
  · exact key _ _ c3 (by omega) rfl

theorem FaCells.append {X : Nat → Prop} {w : World} {cs cs' : List Value} {es es' : List Fa} (h : FaCells X w cs es) (hl : cs.length = es.length * 4) (h' : FaCells X w cs' es') : FaCells X w (cs ++ cs') (es ++ es') := by
  intro i hi
  by_cases hlt : i < es.length
  · obtain ⟨v0, v1, v2, v3, c0, c1, c2, c3, hx⟩ := h i hlt
    refine ⟨v0, v1, v2, v3, ?_, ?_, ?_, ?_, ?_⟩
    · rw [List.getElem?_append_left (by omega)]; exact c0
    · rw [List.getElem?_append_left (by omega)]; exact c1
    · rw [List.getElem?_append_left (by omega)]; exact c2
    · rw [List.getElem?_append_left (by omega)]; exact c3
    · rw [List.getElem_append_left hlt]; exact hx
  · rw [List.length_append] at hi
    obtain ⟨v0, v1, v2, v3, c0, c1, c2, c3, hx⟩ := h' (i - es.length) (by omega)
    refine ⟨v0, v1, v2, v3, ?_, ?_, ?_, ?_, ?_⟩
    · rw [List.getElem?_append_right (by omega), hl, show i * 4 - es.length * 4 = (i - es.length) * 4 by omega]; exact c0
    · rw [List.getElem?_append_right (by omega), hl, show i * 4 + 1 - es.length * 4 = (i - es.length) * 4 + 1 by omega]; exact c1
    · rw [List.getElem?_append_right (by omega), hl, show i * 4 + 2 - es.length * 4 = (i - es.length) * 4 + 2 by omega]; exact c2
    · rw [List.getElem?_append_right (by omega), hl, show i * 4 + 3 - es.length * 4 = (i - es.length) * 4 + 3 by omega]; exact c3
    · rw [List.getElem_append_right (by omega)]; exact hx
theorem FaCells.takes {X : Nat → Prop} {w : World} {cs : List Value} {es : List Fa} (h : FaCells X w cs es) (j : Nat) : FaCells X w (cs.take (j * 4)) (es.take j) := by
  intro i hi
  have hi' : i < j ∧ i < es.length := by simp at hi; omega
  obtain ⟨v0, v1, v2, v3, c0, c1, c2, c3, hx⟩ := h i hi'.2
  refine ⟨v0, v1, v2, v3, ?_, ?_, ?_, ?_, ?_⟩
  · rw [List.getElem?_take, if_pos (by omega)]; exact c0
  · rw [List.getElem?_take, if_pos (by omega)]; exact c1
  · rw [List.getElem?_take, if_pos (by omega)]; exact c2
  · rw [List.getElem?_take, if_pos (by omega)]; exact c3
  · rw [List.getElem_take]; exact hx
theorem FaCells.drops {X : Nat → Prop} {w : World} {cs : List Value} {es : List Fa} (h : FaCells X w cs es) (j : Nat) : FaCells X w (cs.drop (j * 4)) (es.drop j) := by
  intro i hi
  have hi' : j + i < es.length := by simp at hi; omega
  obtain ⟨v0, v1, v2, v3, c0, c1, c2, c3, hx⟩ := h (j + i) hi'
  refine ⟨v0, v1, v2, v3, ?_, ?_, ?_, ?_, ?_⟩
  · rw [List.getElem?_drop, show j * 4 + i * 4 = (j + i) * 4 by omega]; exact c0
  · rw [List.getElem?_drop, show j * 4 + (i * 4 + 1) = (j + i) * 4 + 1 by omega]; exact c1
  · rw [List.getElem?_drop, show j * 4 + (i * 4 + 2) = (j + i) * 4 + 2 by omega]; exact c2
  · rw [List.getElem?_drop, show j * 4 + (i * 4 + 3) = (j + i) * 4 + 3 by omega]; exact c3
  · rw [List.getElem_drop]; exact hx
theorem FaCells.single {X : Nat → Prop} {w : World} {u0 u1 u2 u3 : Value} {e : Fa} (he : FaX X w (.agg #[u0, u1, u2, u3]) e) : FaCells X w [u0, u1, u2, u3] [e] := by
  intro i hi
  have h0 : i = 0 := by simp at hi; omega
  subst h0
  exact ⟨u0, u1, u2, u3, rfl, rfl, rfl, rfl, he⟩
theorem FaCells.insert {X : Nat → Prop} {w : World} {cs : List Value} {es : List Fa} {u0 u1 u2 u3 : Value} {e : Fa} (h : FaCells X w cs es) (hl : cs.length = es.length * 4) {j : Nat} (hj : j ≤ es.length) (he : FaX X w (.agg #[u0, u1, u2, u3]) e) : FaCells X w (cs.take (j * 4) ++ [u0, u1, u2, u3] ++ cs.drop (j * 4)) (es.take j ++ [e] ++ es.drop j) := by
  refine FaCells.append (FaCells.append (h.takes j) ?_ (FaCells.single he)) ?_ (h.drops j)
  · rw [List.length_take, List.length_take]; omega
  · rw [List.length_append, List.length_append, List.length_take, List.length_take]
    simp only [List.length_cons, List.length_nil]; omega
theorem own_base {w : World} {base base' : Nat} {e : TypeId} {size n : Nat} {v : Value} {cs : List Value} (h : w.ownsRow base e size v n cs) (hb : base' ≤ base) : w.ownsRow base' e size v n cs := by
  obtain ⟨hl, h | ⟨g, cap, cur, hv, hg, rest⟩⟩ := h
  · exact ⟨hl, .inl h⟩
  · exact ⟨hl, .inr ⟨g, cap, cur, hv, by omega, rest⟩⟩

/-- Facts put where they belong: what was told so far. -/
structure Ins (si : Int → Ty) (L : List Fa) (i : Nat) (es : List Fa) : Prop where
  len : es.length = i
  rising : (es.map (·.n)).Pairwise (· < ·)
  mem : ∀ n, n ∈ es.map (·.n) ↔ n ∈ (L.take i).map (·.n)
  vals : ∀ f ∈ es, f.ty = si f.n ∧ fitT (si f.n) = true
theorem Ins.zero (si : Int → Ty) (L : List Fa) : Ins si L 0 [] := ⟨rfl, List.Pairwise.nil, fun n => by simp, fun f h => by simp at h⟩
theorem rising_insert {ms : List Int} {n : Int} {j : Nat} (h : ms.Pairwise (· < ·)) (hn : n ∉ ms) (h1 : ∀ k (hk : k < ms.length), k < j → ms[k] < n) (h2 : ∀ (hj : j < ms.length), ¬ ms[j] < n) : (ms.take j ++ [n] ++ ms.drop j).Pairwise (· < ·) := by
  have hp := List.pairwise_iff_getElem.1 h
  rw [List.append_assoc, List.pairwise_append]
  refine ⟨h.sublist (List.take_sublist _ _), ?_, ?_⟩
  · rw [List.singleton_append, List.pairwise_cons]
    refine ⟨fun y hy => ?_, h.sublist (List.drop_sublist _ _)⟩
    obtain ⟨k, hk, rfl⟩ := List.getElem_of_mem hy
    have hk' : j + k < ms.length := by simp at hk; omega
    rw [List.getElem_drop]
    have hj := h2 (by omega)
    have hne : ms[j + k] ≠ n := fun e => hn (by rw [← e]; exact List.getElem_mem _)
    have hle : ms[j]'(by omega) ≤ ms[j + k] := by
      by_cases h0 : k = 0
      · subst h0; exact Int.le_refl _
      · exact Int.le_of_lt (hp j (j + k) (by omega) hk' (by omega))
    omega
  · intro x hx y hy
    obtain ⟨k, hk, rfl⟩ := List.getElem_of_mem hx
    have hk1 : k < j ∧ k < ms.length := by simp at hk; omega
    rw [List.getElem_take]
    rcases List.mem_append.1 hy with hy | hy
    · simp at hy; subst hy; exact h1 k hk1.2 hk1.1
    · obtain ⟨m, hm, rfl⟩ := List.getElem_of_mem hy
      have hm' : j + m < ms.length := by simp at hm; omega
      rw [List.getElem_drop]
      exact hp k (j + m) hk1.2 hm' (by omega)
theorem Ins.next {si : Int → Ty} {L : List Fa} {i : Nat} {es : List Fa} (h : Ins si L i es) (hi : i < L.length) (hnd : (L.map (·.n)).Nodup) (hf : fitT (si L[i].n) = true) {j : Nat} (h1 : ∀ k (hk : k < es.length), k < j → es[k].n < L[i].n) (h2 : ∀ (hj : j < es.length), ¬ es[j].n < L[i].n) (hj : j ≤ es.length) :
    Ins si L (i + 1) (es.take j ++ [⟨L[i].n, si L[i].n⟩] ++ es.drop j) := by
  have hmem : L[i].n ∉ es.map (·.n) := by
    rw [h.mem]
    intro hm
    rw [List.mem_map] at hm
    obtain ⟨f, hf, e⟩ := hm
    obtain ⟨k, hk, rfl⟩ := List.getElem_of_mem hf
    have hk' : k < i ∧ k < L.length := by simp at hk; omega
    rw [List.getElem_take] at e
    have := List.pairwise_iff_getElem.1 hnd k i (by simp; omega) (by simpa using hi) hk'.1
    simp at this
    exact this e
  refine ⟨?_, ?_, fun n => ?_, fun f hf' => ?_⟩
  · have := h.len
    simp; omega
  · have := rising_insert (n := L[i].n) (j := j) h.rising hmem (fun k hk hkj => by simpa using h1 k (by simpa using hk) hkj) (fun hj => by simpa using h2 (by simpa using hj))
    simpa [List.map_append, List.map_take, List.map_drop] using this
  · have e1 : es.map (·.n) = (es.take j).map (·.n) ++ (es.drop j).map (·.n) := by rw [← List.map_append, List.take_append_drop]
    rw [List.take_succ_eq_append_getElem hi, List.map_append, List.map_append, List.map_append]
    simp only [List.mem_append, List.map_cons, List.map_nil, List.mem_singleton]
    rw [← h.mem n, e1, List.mem_append]
    constructor
    · rintro ((h | h) | h)
      · exact .inl (.inl h)
      · exact .inr h
      · exact .inl (.inr h)
    · rintro ((h | h) | h)
      · exact .inl (.inl h)
      · exact .inr h
      · exact .inl (.inr h)
  · simp only [List.mem_append, List.mem_singleton] at hf'
    rcases hf' with (h' | h') | h'
    · exact h.vals f (List.mem_of_mem_take h')
    · subst h'; exact ⟨rfl, hf⟩
    · exact h.vals f (List.mem_of_mem_drop h')
theorem Ins.done {si : Int → Ty} {L : List Fa} {es : List Fa} (h : Ins si L L.length es) {K : List Int} (hK : K.Pairwise (· < ·)) (hk : ∀ n, n ∈ K ↔ n ∈ L.map (·.n)) : toldF si K = some es := by
  have e : es.map (·.n) = K := rising_unique _ _ h.rising hK fun n => by rw [h.mem, hk, List.take_length]
  unfold toldF
  rw [if_pos, ← e, List.map_map]
  · congr 1
    have : ∀ f ∈ es, ((fun n => (⟨n, si n⟩ : Fa)) ∘ (·.n)) f = f := fun f hf => by
      obtain ⟨n, t⟩ := f
      have := (h.vals _ hf).1
      simp only at this
      simp [this]
    rw [List.map_congr_left this, List.map_id']
  · rw [List.all_eq_true, ← e]
    intro n hn
    obtain ⟨f, hf, rfl⟩ := List.mem_map.1 hn
    exact (h.vals f hf).2
theorem toldF_none {si : Int → Ty} {K : List Int} {n : Int} (hn : n ∈ K) (h : fitT (si n) = false) : toldF si K = none := by
  unfold toldF
  rw [if_neg]
  intro ha
  rw [List.all_eq_true] at ha
  rw [ha n hn] at h; cases h
theorem fitT_iff (t : Ty) : fitT t = true ↔ fitsT 60 2000 t := by
  unfold fitT fitsT
  rw [Bool.and_eq_true, decide_eq_true_eq, decide_eq_true_eq]
  omega
theorem fa_nodup {L : List Fa} (h : (L.map (·.n)).Nodup) {i : Nat} (hi : i < L.length) : fa? L L[i].n = some L[i].ty := by
  refine fa_some hi (fun j hj e => ?_) rfl
  have := List.pairwise_iff_getElem.1 h j i (by simp; omega) (by simpa using hi) hj
  simp at this
  exact this e

/-- What unifying answers, as the reference reckons it. -/
theorem uni_ref {fuel : Nat} {a b : Ty} {r : Option (List Fa)} (h : UniP fuel a b r) (hc : (chkT a && chkT b) = true) (h64 : ∀ m ∈ allT a ++ allT b, In64 m) : InU (allT a ++ allT b) [] ∧ (allT a ++ allT b).length ≤ 4000 ∧ ∃ L c, oneT fuel [] a b = some (L, c) ∧ ((c = false ∧ r = none) ∨ (c = true ∧ L.length ≤ 4000 ∧ (L.map (·.n)).Nodup ∧ ∃ (rho : Int → Nat) (si : Int → Ty) (K : List Int), Ac L rho ∧ Sol L si ∧ FWf L ∧ K.Pairwise (· < ·) ∧ (∀ n, n ∈ K ↔ n ∈ L.map (·.n)) ∧ r = toldF si K)) := by
  have hin : InU (allT a ++ allT b) [] := ⟨by simp, by simp, fun n t h => by simp [fa?] at h⟩
  rw [Bool.and_eq_true] at hc
  have hlen : (allT a ++ allT b).length ≤ 4000 := by
    have h2 := allT_len a
    have h3 := allT_len b
    have h4 := chk_cnt hc.1
    have h5 := chk_cnt hc.2
    rw [List.length_append]; omega
  refine ⟨hin, hlen, ?_⟩
  rcases h with ⟨h, _⟩ | ⟨_, ⟨⟨L, ho, _⟩, hr⟩ | ⟨L, K, ho, hl, hK, hK64, hkey, hout⟩⟩
  · rw [hc.1, hc.2] at h; cases h
  · exact ⟨L, false, ho, .inl ⟨rfl, hr⟩⟩
  · refine ⟨L, true, ho, .inr ⟨rfl, ?_⟩⟩
    have hac : Ac [] (fun _ => 0) := fun n t h => by simp [fa?] at h
    have hfw : FWf [] := fun n t h => by simp [fa?] at h
    obtain ⟨hok, _, _⟩ := one_spec fuel [] a b _ _ ho (chk_wf hc.1) (chk_wf hc.2) hfw hac
    have hi := one_in fuel [] a b _ ho hin (fun m h => List.mem_append.2 (.inl h)) (fun m h => List.mem_append.2 (.inr h))
    obtain ⟨rho, hacL⟩ := hok.ac rfl
    obtain ⟨si, hsi⟩ := sol_exists hacL
    have hkk : ∀ n, n ∈ K ↔ n ∈ L.map (·.n) := by
      intro n
      constructor
      · intro hn
        exact fa_dom ((hkey n (hK64 n hn)).1 hn)
      · intro hn
        have hU : n ∈ allT a ++ allT b := by
          obtain ⟨f, hf, rfl⟩ := List.mem_map.1 hn
          exact hi.key f hf
        refine (hkey n (h64 n hU)).2 ?_
        cases hf : fa? L n with
        | some t => rfl
        | none => exact absurd hn (fa_none_key hf)
    have hno : ∀ n ∈ K, 0 ≤ n := fun n hn => by
      obtain ⟨f, hf, rfl⟩ := List.mem_map.1 ((hkk n).1 hn)
      rcases List.mem_append.1 (hi.key f hf) with h | h
      · exact all_nonneg a 60 (chk_snd hc.1) _ h
      · exact all_nonneg b 60 (chk_snd hc.2) _ h
    have hout2 := outA_spec hacL hsi (hok.wf rfl) K [] hno
    rw [hout] at hout2
    refine ⟨by have := hi.len; simp only at this; omega, hi.nodup, rho, si, K, hacL, hsi, hok.wf rfl, hK, hkk, ?_⟩
    have := Option.some.inj hout2
    rw [this]; simp [toldF]
end Go.Proofs.YticjpeefhppjoaaDoor
