/- Rows of facts, copied, and written anew; the reference's same. -/
import Derived.Test.YticjpeefhppjoaaDoorTyVb
import Derived.Test.YticjpeefhppjoaaDoorTyF
import Derived.Test.YticjpeefhppjoaaDoorTyUn
import Derived.Laws.AppendOwnNone
import Derived.Deep.DeepMust
namespace Go.Proofs.YticjpeefhppjoaaDoor
open Go.RowKit

theorem addr_add (b off j : Nat) : (⟨b, off, none⟩ : Addr).add j = ⟨b, off + j, none⟩ := by unfold Addr.add; split <;> simp_all
/-- The cells of a row of facts. -/
theorem FaRow.cells {w : World} {a : Option Addr} {L : List Fa} (h : FaRow (fun _ => False) w a L) : ∃ cs : List Value, cs.length = L.length * 4 ∧ FaCells (fun _ => False) w cs L ∧ (∀ ad, a = some ad → ∀ j u, cs[j]? = some u → w.cell? (ad.add j) = some u) ∧ ∀ u ∈ cs, u.oneCell' = true := by
  by_cases hne : L = []
  · subst hne
    exact ⟨[], rfl, fun i hi => by simp at hi, fun _ _ j u hj => by simp at hj, fun u hu => by simp at hu⟩
  · obtain ⟨b, off, rfl, hat⟩ := h.at hne
    have hc : ∀ j, j < L.length * 4 → ∃ u, w.cell? ⟨b, off + j, none⟩ = some u ∧ u.oneCell' = true := by
      intro j hj
      obtain ⟨a1, c1, g0, g1, g2, g3, _, _⟩ := hat (j / 4) (by omega)
      have hm : j % 4 = 0 ∨ j % 4 = 1 ∨ j % 4 = 2 ∨ j % 4 = 3 := by omega
      rcases hm with e | e | e | e
      · rw [show off + j = off + j / 4 * 4 by omega]; exact ⟨_, g0, rfl⟩
      · rw [show off + j = off + j / 4 * 4 + 1 by omega]; exact ⟨_, g1, rfl⟩
      · rw [show off + j = off + j / 4 * 4 + 2 by omega]; exact ⟨_, g2, rfl⟩
      · rw [show off + j = off + j / 4 * 4 + 3 by omega]; exact ⟨_, g3, rfl⟩
    have hget : ∀ j u, w.cell? ⟨b, off + j, none⟩ = some u → j < L.length * 4 → ((List.range (L.length * 4)).map fun j => (w.cell? ⟨b, off + j, none⟩).getD undef)[j]? = some u := by
      intro j u hu hj
      simp [hj, hu]
    refine ⟨(List.range (L.length * 4)).map fun j => (w.cell? ⟨b, off + j, none⟩).getD undef, by simp, fun i hi => ?_, fun ad had j u hj => ?_, fun u hu => ?_⟩
    · obtain ⟨a1, c1, g0, g1, g2, g3, ge, hn⟩ := hat i hi
      exact ⟨_, _, _, _, hget _ _ g0 (by omega), hget _ _ g1 (by omega), hget _ _ g2 (by omega), hget _ _ g3 (by omega), _, _, _, rfl, hn, ge⟩
    · simp only [Option.some.injEq] at had
      subst had
      rw [addr_add]
      have hj' : j < L.length * 4 := by
        have := (List.getElem?_eq_some_iff.1 hj).1
        simpa using this
      obtain ⟨u', hu', _⟩ := hc j hj'
      rw [hget j u' hu' hj'] at hj
      rw [hu', ← hj]
    · obtain ⟨j, hj, rfl⟩ := List.mem_map.1 hu
      obtain ⟨u', hu', h1⟩ := hc j (by simpa using hj)
      rw [hu']; exact h1

theorem wpList_append_own_src {P : Program} {w : World} {ops : Array Oper} {rest : List Oper} {o : Oper} {a : Act} {Q : Exit → Act → World → Prop} (hgd : o.guard = none) (s x : Operand) (t : TypeId)
    (ho : o.op = .call { callee := .builtin .append, args := #[s, x], argTypes := #[t, t] })
    (base : Nat) (e : TypeId) (i : TypeInfo) (z : Value) (size bytes : Nat) (ht : P.underlying t = some (.slice e)) (hi : P.info? e = some i) (hz : i.zero = some z)
    (hsize : i.size = size) (hby : i.bytes = bytes) (hzs : z.cells.size = size) (hsz : 0 < size)
    (v : Value) (n : Nat) (xs : List Value) (hs : a.eval s = v) (hown : w.ownsRow base e size v n xs)
    (sa : Option Addr) (m c : Nat) (news : List Value) (hx : a.eval x = .slice sa m c) (hnil : sa = none → m = 0 ∧ c = 0) (hl : news.length = m * size) (hnews : ∀ ad, sa = some ad → ∀ j u, news[j]? = some u → w.cell? (ad.add j) = some u) (h1 : ∀ u ∈ news, u.oneCell' = true)
    (h63 : n + m ≤ maxLen) (hbytes : (n + m) * bytes ≤ 140737488355328) (hbase : base ≤ w.heap.size)
    (h : ∀ v' w', w'.ownsRow base e size v' (n + m) (xs ++ news) → w.grownBy w' v.ownBlock → (v'.ownBlock = v.ownBlock ∨ v'.ownBlock = some w.heap.size) → wpList P ops Q rest (a.put o.dst v') w') :
    wpList P ops Q (o :: rest) a w := by
  cases sa with
  | none =>
    obtain ⟨rfl, rfl⟩ := hnil rfl
    obtain rfl : news = [] := List.eq_nil_of_length_eq_zero (by simpa using hl)
    exact wpList_append_own_none hgd s x t ho base e i size ht hi v n xs hs hown hx (h v w (by simpa using hown) ⟨rfl, rfl, rfl, Nat.le_refl _, fun _ _ _ => rfl⟩ (.inl rfl))
  | some ad => exact wpList_append_own_at w hgd s x t ho base e i z size bytes ht hi hz hsize hby hzs hsz v n xs hs hown ad m c news hx hl (hnews ad rfl) h1 h63 hbytes hbase fun v' w' q1 q2 _ q4 => h v' w' q1 q2 q4

theorem run_append_own_src {P : Program} (w : World) (base : Nat) (t ty e : TypeId) (i : TypeInfo) (z : Value) (size bytes : Nat) (ht : P.underlying t = some (.slice e)) (hi : P.info? e = some i) (hz : i.zero = some z)
    (hsize : i.size = size) (hby : i.bytes = bytes) (hzs : z.cells.size = size) (hsz : 0 < size)
    (v : Value) (n : Nat) (xs : List Value) (hown : w.ownsRow base e size v n xs)
    (sa : Option Addr) (m c : Nat) (news : List Value) (hnil : sa = none → m = 0 ∧ c = 0) (hl : news.length = m * size) (hnews : ∀ ad, sa = some ad → ∀ j u, news[j]? = some u → w.cell? (ad.add j) = some u) (h1 : ∀ u ∈ news, u.oneCell' = true)
    (h63 : n + m ≤ maxLen) (hbytes : (n + m) * bytes ≤ 140737488355328) (hbase : base ≤ w.heap.size) :
    ∃ v' w', (Builtin.append_ #[t, t] ty #[v, .slice sa m c]).run P w = .ok v' w' ∧ w'.ownsRow base e size v' (n + m) (xs ++ news) ∧ w.grownBy w' v.ownBlock ∧ (v'.ownBlock = v.ownBlock ∨ v'.ownBlock = some w.heap.size) := by
  cases sa with
  | none =>
    obtain ⟨rfl, rfl⟩ := hnil rfl
    obtain rfl : news = [] := List.eq_nil_of_length_eq_zero (by simpa using hl)
    exact ⟨v, w, run_append_owned_none (P := P) (w := w) base t ty e i size ht hi v n xs hown, by simpa using hown, ⟨rfl, rfl, rfl, Nat.le_refl _, fun _ _ _ => rfl⟩, .inl rfl⟩
  | some ad =>
    obtain ⟨v', w', q0, q1, q2, _, q4⟩ := run_append_own_at (P := P) w base t ty e i z size bytes ht hi hz hsize hby hzs hsz v n xs hown ad m c news hl (hnews ad rfl) h1 h63 hbytes hbase
    exact ⟨v', w', q0, q1, q2, q4⟩

theorem wanted_run {c : Prop} [Decidable c] {A B : Prop} (hc : c) (h : A) : if c then A else B := by rw [if_pos hc]; exact h
theorem wp_append_run {P : Program} {w w' : World} {o : Oper} {a : Act} {K : Act → World → Prop} {Q : Exit → Act → World → Prop} (s x : Operand) (t : TypeId) (v v' : Value) (sa : Option Addr) (m c : Nat)
    (ho : o.op = .call { callee := .builtin .append, args := #[s, x], argTypes := #[t, t] }) (hs : a.eval s = v) (hx : a.eval x = .slice sa m c)
    (hr : (Builtin.append_ #[t, t] o.type #[v, .slice sa m c]).run P w = .ok v' w') (h : K (a.put o.dst v') w') : Oper.wp P o a w K Q := by
  unfold Oper.wp execOp
  simp only [ho, resolve, invoke, builtin, Sem.run_bind, Sem.run_pure, Result.andThen_ok, List.map_toArray, List.map_cons, List.map_nil, hs, hx, hr]
  exact h

/-- An empty slice of the call's own. -/
theorem own_empty (w : World) (e : TypeId) (size : Nat) {base : Nat} (hb : base ≤ w.heap.size) : (w.alloc (.cells #[] e)).ownsRow base e size (.slice (some ⟨w.heap.size, 0, none⟩) 0 0) 0 [] := by
  refine ⟨by simp, .inr ⟨w.heap.size, 0, #[], rfl, hb, ?_, Nat.le_refl _, by simp [maxLen], by simp, by simp⟩⟩
  simp only [World.alloc]; simp
/-- A cell of a row that is owned, written anew. -/
theorem own_set {w : World} {base : Nat} {e : TypeId} {size : Nat} {g cap n : Nat} {xs : List Value} (h : w.ownsRow base e size (.slice (some ⟨g, 0, none⟩) n cap) n xs) {o : Nat} (ho : o < n * size) (u : Value) : (w.setCell ⟨g, o, none⟩ u).ownsRow base e size (.slice (some ⟨g, 0, none⟩) n cap) n (xs.set o u) := by
  obtain ⟨hl, ⟨h, _⟩ | ⟨g', cap', cur, hv, hb, hh, hnc, hcm, hsz, htk⟩⟩ := h
  · simp at h
  simp only [Value.slice.injEq, Option.some.injEq, Addr.mk.injEq, and_true, true_and] at hv
  obtain ⟨rfl, rfl⟩ := hv
  have hn : n * size ≤ cap * size := Nat.mul_le_mul_right _ hnc
  refine ⟨by simpa using hl, .inr ⟨g, cap, cur.setIfInBounds o u, rfl, hb, ?_, hnc, hcm, by simpa using hsz, ?_⟩⟩
  · simp [World.setCell, Array.getElem?_modify, hh]
  · rw [← htk]
    simp [List.take_set]
theorem own_cell {w : World} {base : Nat} {e : TypeId} {size : Nat} {g cap n : Nat} {xs : List Value} (h : w.ownsRow base e size (.slice (some ⟨g, 0, none⟩) n cap) n xs) {o : Nat} {u : Value} (ho : xs[o]? = some u) : w.cell? ⟨g, o, none⟩ = some u ∧ w.frozen? ⟨g, o, none⟩ = false := by
  obtain ⟨hl, ⟨h, _⟩ | ⟨g', cap', cur, hv, hb, hh, hnc, hcm, hsz, htk⟩⟩ := h
  · simp at h
  simp only [Value.slice.injEq, Option.some.injEq, Addr.mk.injEq, and_true, true_and] at hv
  obtain ⟨rfl, rfl⟩ := hv
  refine ⟨?_, by simp [World.frozen?, hh]⟩
  rw [← htk, List.getElem?_take] at ho
  split at ho
  · simp only [Array.getElem?_toList] at ho
    simp [World.cell?, hh, ho]
  · cases ho
/-- A row of facts that is owned, as a slice. -/
theorem FaSl.own {w V : World} {base : Nat} {v : Value} {cs : List Value} {L : List Fa} (h : FaCells (fun _ => False) w cs L) (hB : Below w.heap.size w V) (ho : V.ownsRow base 34 4 v L.length cs) : FaSl V v L := by
  obtain ⟨a, c, rfl, hc, hr⟩ := (h.later (Y := fun _ => False) (KeepsBut.of_below hB) (fun _ _ h => h)).row (X := fun _ => False) ho (fun _ h => h.elim) (fun _ h => h.elim)
  exact ⟨a, c, rfl, hc, hr⟩
theorem FaSl.keeps {w V : World} {v : Value} {L : List Fa} (h : FaSl w v L) (hk : Keeps w V) : FaSl V v L := by
  obtain ⟨a, c, h1, h2, h3⟩ := h
  exact ⟨a, c, h1, h2, h3.keeps hk⟩

theorem FaSl.open {w : World} {v : Value} {L : List Fa} (h : FaSl w v L) : ∃ a c, v = .slice a L.length c ∧ (a = none → c = 0) := by
  obtain ⟨a, c, h1, h2, _⟩ := h
  exact ⟨a, c, h1, h2⟩
theorem FaSl.at {w : World} {a : Option Addr} {m c : Nat} {L : List Fa} (h : FaSl w (.slice a m c) L) : m = L.length ∧ (a = none → c = 0) ∧ FaRow (fun _ => False) w a L := by
  obtain ⟨a', c', h1, h2, h3⟩ := h
  simp only [Value.slice.injEq] at h1
  obtain ⟨rfl, rfl, rfl⟩ := h1
  exact ⟨rfl, h2, h3⟩
theorem own_some {w : World} {base : Nat} {e : TypeId} {size n : Nat} {a : Option Addr} {c : Nat} {xs : List Value} (h : w.ownsRow base e size (.slice a n c) n xs) (hn : n ≠ 0) : ∃ g, a = some ⟨g, 0, none⟩ ∧ base ≤ g := by
  obtain ⟨_, ⟨_, h⟩ | ⟨g, cap, cur, hv, hb, _⟩⟩ := h
  · exact absurd h hn
  · simp only [Value.slice.injEq] at hv
    exact ⟨g, hv.1, hb⟩

/-- The first fact of a hole, and its place. -/
def FactA (L : List Fa) (n i : Int) : Prop := (i = -1 ∧ fa? L n = none) ∨ ∃ (k : Nat) (h : k < L.length), i = k ∧ L[k].n = n ∧ ∀ j (hj : j < k), L[j].n ≠ n
set_option maxHeartbeats 400000 in
theorem r08_factA (X : Nat → Prop) (L : List Fa) (a : Option Addr) (c : Nat) (n : Int) (w : World) (hl : L.length ≤ lenMax) (hr : FaRow X w a L) :
    Calls Tryd.prog 55 #[.slice a L.length c, .int .i64 n] w fun r w' => (∃ i, r = .returned (.int .i64 i) ∧ FactA L n i) ∧ Below w.heap.size w w' := by
  unfold lenMax at hl
  go_enter Tryd.func55, Tryd.ntmps55
  go_wp2_with fail
  go_loop [5] (fun i => ∃ k : Nat, k ≤ L.length ∧ i = .int .i64 k ∧ Hid (∀ j (hj : j < k) (hl : j < L.length), L[j].n ≠ n)) (fun i => L.length - (intOf i).toNat)
  case atStart => exact ⟨0, by omega, rfl, fun j hj => by omega⟩
  case round =>
    obtain ⟨k, hk, rfl, hall⟩ := hrel
    by_cases h1 : k < L.length
    · obtain ⟨b, off, rfl, hat⟩ := hr.at (by rintro rfl; simp at h1)
      obtain ⟨a1, c1, g0, g1, g2, g3, ge, hn⟩ := hat k h1
      clear hat ge
      by_cases h2 : L[k].n = n
      · have hf := Lib.hid h2
        have h3 : (L[k].n == n) = true := by rw [beq_iff_eq]; exact h2
        clear h2
        go_wp2_with fail
        go_ret
        exact ⟨⟨_, rfl, .inr ⟨k, h1, rfl, hf.out, fun j hj => hall.out j hj (by omega)⟩⟩, Below.refl _ _⟩
      · have h3 : (L[k].n == n) = false := by rw [beq_eq_false_iff_ne]; exact h2
        have h2' := Lib.hid h2
        clear h2
        go_wp2_with fail
        go_round
        case rel => exact ⟨k + 1, by omega, by go_num, fun j hj hl => by
          rcases Nat.lt_or_ge j k with h | h
          · exact hall.out j h hl
          · obtain rfl : j = k := by omega
            exact h2'.out⟩
        case measure => simp [intOf]; omega
    · have hf := Lib.hid (fa_none (L := L) (n := n) (fun j hj => hall.out j (by omega) hj))
      go_wp2_with fail
      go_ret
      exact ⟨⟨-1, rfl, .inl ⟨rfl, hf.out⟩⟩, Below.refl _ _⟩

theorem setF_none {L : List Fa} {n : Int} (t : Ty) (h : fa? L n = none) : setF L n t = L := by
  induction L with
  | nil => rfl
  | cons f r ih =>
    rw [fa?] at h
    by_cases e : f.n = n
    · rw [if_pos e] at h; cases h
    · rw [if_neg e] at h; rw [setF, if_neg e, ih h]
theorem setF_at : ∀ {L : List Fa} {n : Int} (t : Ty) {k : Nat} (hk : k < L.length), L[k].n = n → (∀ j (hj : j < k), L[j].n ≠ n) → setF L n t = L.set k ⟨n, t⟩
  | f :: r, n, t, 0, hk, h, _ => by rw [setF, if_pos (show f.n = n from h)]; rfl
  | f :: r, n, t, k + 1, hk, h, hj => by
    rw [setF, if_neg (show ¬ f.n = n from hj 0 (by omega)), setF_at (L := r) t (k := k) (by simpa using hk) h fun j h => hj (j + 1) (by omega)]
    rfl
theorem FaCells.set {X : Nat → Prop} {w : World} {cs : List Value} {es : List Fa} {u0 u1 u2 u3 : Value} {e : Fa} (h : FaCells X w cs es) (hl : cs.length = es.length * 4) {k : Nat} (hk : k < es.length) (he : FaX X w (.agg #[u0, u1, u2, u3]) e) : FaCells X w ((((cs.set (k * 4) u0).set (k * 4 + 1) u1).set (k * 4 + 2) u2).set (k * 4 + 3) u3) (es.set k e) := by
  intro i hi
  have hi' : i < es.length := by simpa using hi
  by_cases e1 : i = k
  · subst e1
    refine ⟨u0, u1, u2, u3, ?_, ?_, ?_, ?_, ?_⟩
    · simp [List.getElem?_set]; omega
    · simp [List.getElem?_set]; omega
    · simp [List.getElem?_set]; omega
    · simp [List.getElem?_set]; omega
    · simpa using he
  · obtain ⟨v0, v1, v2, v3, c0, c1, c2, c3, hx⟩ := h i hi'
    have hne : ∀ j r, r < 4 → j < 4 → i * 4 + j ≠ k * 4 + r := fun j r _ _ => by omega
    refine ⟨v0, v1, v2, v3, ?_, ?_, ?_, ?_, ?_⟩
    · rw [List.getElem?_set_ne (by omega), List.getElem?_set_ne (by omega), List.getElem?_set_ne (by omega), List.getElem?_set_ne (by omega)]; exact c0
    · rw [List.getElem?_set_ne (by omega), List.getElem?_set_ne (by omega), List.getElem?_set_ne (by omega), List.getElem?_set_ne (by omega)]; exact c1
    · rw [List.getElem?_set_ne (by omega), List.getElem?_set_ne (by omega), List.getElem?_set_ne (by omega), List.getElem?_set_ne (by omega)]; exact c2
    · rw [List.getElem?_set_ne (by omega), List.getElem?_set_ne (by omega), List.getElem?_set_ne (by omega), List.getElem?_set_ne (by omega)]; exact c3
    · rw [List.getElem_set_ne (fun h => e1 h.symm)]; exact hx

set_option maxHeartbeats 4000000 in
set_option maxRecDepth 100000 in
theorem r08_same (L : List Fa) (n : Int) (t : Ty) (aL : Option Addr) (cL : Nat) (vt : Value) (w : World) (hLl : L.length ≤ 90000) (hn : In64 n) (hnil : aL = none → cL = 0) (hm : FaRow (fun _ => False) w aL L) (hv : IsTy w vt t) :
    Calls Tryd.prog 72 #[.slice aL L.length cL, .int .i64 n, vt] w fun r w' => (∃ u, r = .returned u ∧ FaSl w' u (setF L n t)) ∧ Below w.heap.size w w' := by
  obtain ⟨s, tn, tl⟩ := t
  have hv0 := Lib.hid hv
  obtain ⟨a1, c1, rfl, _, _, _⟩ := hv.open
  obtain ⟨cs, hcl, hcs, hnews, hone⟩ := hm.cells
  obtain ⟨W1, hW1⟩ : ∃ W, w.alloc (.cells #[.string s, .int .i64 tn, .slice a1 tl.length c1] 24) = W := ⟨_, rfl⟩
  have hb1 : Below w.heap.size w W1 := by rw [← hW1]; exact (Below.refl _ w).alloc (Nat.le_refl _) _
  have hz1 : W1.heap.size = w.heap.size + 1 := by rw [← hW1]; simp
  have hx1 : BoxT W1 w.heap.size (.string s) (.int .i64 tn) (.slice a1 tl.length c1) := by rw [← hW1]; exact new_block (Below.refl _ _)
  have hown0 : (W1.alloc (.cells #[] 34)).ownsRow W1.heap.size 34 4 (.slice (some ⟨W1.heap.size, 0, none⟩) 0 0) 0 [] := own_empty W1 _ _ (Nat.le_refl _)
  rw [hz1] at hown0
  have hba : Below w.heap.size w (W1.alloc (.cells #[] 34)) := hb1.alloc (by omega) _
  have hnews' : ∀ ad, aL = some ad → ∀ j u, cs[j]? = some u → (W1.alloc (.cells #[] 34)).cell? (ad.add j) = some u := fun ad h j u hj => Keeps.of_below hba _ _ (hnews ad h j u hj)
  have hnil' : aL = none → L.length = 0 ∧ cL = 0 := fun h => ⟨by
    rcases hm with h' | ⟨b, off, h', _⟩
    · rw [h']; rfl
    · rw [h] at h'; exact absurd h' (by simp), hnil h⟩
  obtain ⟨i0, hi, hz0, hz1', hz2'⟩ := info_of Tryd.infoFa
  have hown0' := Lib.hid hown0
  have hnewsH := Lib.hid hnews'
  have hnilH := Lib.hid hnil'
  have honeH := Lib.hid hone
  have hclH := Lib.hid hcl
  have hcsH := Lib.hid hcs
  have hbaH := Lib.hid hba
  have hW1' := Lib.hid hW1
  have hx1' := Lib.hid hx1
  have hb1' := Lib.hid hb1
  clear hv hm hW1 hown0 hnews hnews' hnil hnil' hone hcl hcs hba hx1 hb1
  go_enter Tryd.func72, Tryd.ntmps72
  go_wp2_with (first | (at_builtin; rw [hW1'.out]; go_must ((refine wpList_append_own_src rfl _ _ 32 rfl (w.heap.size + 1) 34 i0 (.agg #[.int .i64 0, .string ⟨#[]⟩, .int .i64 0, .slice none 0 0]) 4 56 Tryd.underlying32 hi hz0 hz1' hz2' rfl (by decide) (.slice (some ⟨w.heap.size + 1, 0, none⟩) 0 0) _ _ rfl hown0'.out aL L.length cL cs rfl hnilH.out hclH.out hnewsH.out honeH.out (by unfold maxLen; omega) (by omega) (by simp <;> omega) ?_); intro v2 w3 hown2 hg2 hob; have hB2 := Lib.hid (hbaH.out.grown hg2 (by simp <;> omega) (fun q e => by have := (ownBlock_ge hown0'.out e).1; omega)); rw [Nat.zero_add, List.nil_append] at hown2; obtain ⟨va, vc, rfl, _⟩ := ownsRow_form hown2; have hown2' := Lib.hid hown2; have hx3 := Lib.hid (show BoxT w3 w.heap.size (.string s) (.int .i64 tn) (.slice a1 tl.length c1) from (hg2.block _ (by simp; omega) (fun e => by have := (ownBlock_ge hown0'.out e.symm).1; omega)).trans (hx1'.out.below ((Below.refl W1.heap.size W1).alloc (Nat.le_refl _) _) (by omega))); have hfa := Lib.hid (FaSl.own hcsH.out hB2.out hown2); clear hown2 hg2 hob)) | fail)
  refine (r08_factA (fun _ => False) L va vc n w3 (by unfold lenMax; omega) hfa.out.at.2.2).mono ?_
  rintro e V ⟨⟨i, rfl, hi⟩, hBV⟩
  have hV := Lib.hid hBV
  have hB3 := Lib.hid (hB2.out.trans (hBV.mono hB2.out.size))
  have hownV := Lib.hid (ownsRow_heap hown2'.out (fun g hg => hBV.block g (ownBlock_ge hown2'.out hg).2))
  have hx := hx3.out.below hBV hx3.out.lt
  rcases hi with ⟨rfl, hf⟩ | ⟨k, hk, rfl, hkn, hkj⟩
  · have hsf : Hid (setF L n (.mk s tn tl) = L) := setF_none _ hf
    clear hf
    go_wp2_with fail
    go_ret
    exact ⟨⟨_, rfl, by rw [hsf.out]; exact hfa.out.keeps (Keeps.of_below hV.out)⟩, hB3.out⟩
  · have hsf : Hid (setF L n (.mk s tn tl) = L.set k ⟨n, .mk s tn tl⟩) := setF_at _ hk hkn hkj
    obtain ⟨b0, b1, b2⟩ := hx.cells
    obtain ⟨g, hg, hgb⟩ := own_some hownV.out (by omega)
    subst hg
    obtain ⟨v0, v1, v2, v3, c0, c1, c2, c3, _⟩ := hcsH.out k hk
    obtain ⟨p0, f0⟩ := own_cell hownV.out c0
    obtain ⟨p1, f1⟩ := own_cell hownV.out c1
    obtain ⟨p2, f2⟩ := own_cell hownV.out c2
    obtain ⟨p3, f3⟩ := own_cell hownV.out c3
    have hki : (k : Int) < (L.length : Int) := by omega
    have hk0 : decide ((0 : Int) ≤ (k : Int)) = true := by simp
    clear hkn hkj c0 c1 c2 c3 hBV hx
    go_wp2_with fail
    go_ret
    have hgw : w.heap.size ≤ g := by omega
    have hU := own_set (own_set (own_set (own_set hownV.out (o := k * 4) (by omega) (.int .i64 n)) (o := k * 4 + 1) (by omega) (.string s)) (o := k * 4 + 2) (by omega) (.int .i64 tn)) (o := k * 4 + 3) (by omega) (.slice a1 tl.length c1)
    have hBU := (((hB3.out.setCell (p := ⟨g, k * 4, none⟩) hgw (.int .i64 n)).setCell (p := ⟨g, k * 4 + 1, none⟩) hgw (.string s)).setCell (p := ⟨g, k * 4 + 2, none⟩) hgw (.int .i64 tn)).setCell (p := ⟨g, k * 4 + 3, none⟩) hgw (.slice a1 tl.length c1)
    have hlen : (L.set k ⟨n, .mk s tn tl⟩).length = L.length := by simp
    refine ⟨⟨_, rfl, ?_⟩, hBU⟩
    rw [hsf.out]
    refine FaSl.own (base := w.heap.size + 1) (FaCells.set hcsH.out hclH.out hk (e := ⟨n, .mk s tn tl⟩) ⟨_, _, _, rfl, hn, hv0.out⟩) hBU ?_
    rw [hlen]
    exact hU
end Go.Proofs.YticjpeefhppjoaaDoor
