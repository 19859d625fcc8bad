/- Lists of numbers in memory; a type's holes by the reference. -/
import Derived.Test.YticjpeefhppjoaaDoorTyK
import Derived.Laws.AppendOwnNone
import Derived.Deep.DeepMust
namespace Go.Proofs.YticjpeefhppjoaaDoor
open Go.RowKit

/-- A slice of numbers; nil where there is none. -/
def IntSl (w : World) (v : Value) (l : List Int) : Prop :=
  (l = [] ∧ v = .slice none 0 0) ∨ (l ≠ [] ∧ ∃ b off c, v = .slice (some ⟨b, off, none⟩) l.length c ∧ ∀ i (h : i < l.length), w.cell? ⟨b, off + i, none⟩ = some (.int .i64 l[i]))
theorem IntSl.keeps {w W : World} {v : Value} {l : List Int} (h : IntSl w v l) (hk : Keeps w W) : IntSl W v l := by
  rcases h with h | ⟨h, b, off, c, hv, hc⟩
  · exact .inl h
  · exact .inr ⟨h, b, off, c, hv, fun i hi => hk _ _ (hc i hi)⟩
theorem IntSl.form {w : World} {v : Value} {l : List Int} (h : IntSl w v l) : ∃ a c, v = .slice a l.length c := by
  rcases h with ⟨rfl, h⟩ | ⟨_, b, off, c, hv, _⟩
  · exact ⟨none, 0, h⟩
  · exact ⟨_, c, hv⟩
theorem IntSl.at {w : World} {a : Option Addr} {m c : Nat} {l : List Int} (h : IntSl w (.slice a m c) l) : m = l.length ∧ (l ≠ [] → ∃ b off, a = some ⟨b, off, none⟩ ∧ ∀ i (h : i < l.length), w.cell? ⟨b, off + i, none⟩ = some (.int .i64 l[i])) := by
  rcases h with ⟨rfl, h⟩ | ⟨h, b, off, c, hv, hc⟩
  · simp only [Value.slice.injEq] at h
    exact ⟨h.2.1, fun h => (h rfl).elim⟩
  · simp only [Value.slice.injEq] at hv
    exact ⟨hv.2.1, fun _ => ⟨b, off, hv.1, hc⟩⟩
/-- A row of numbers that is owned lies there. -/
theorem IntSl.of_own {w : World} {base : Nat} {v : Value} {l : List Int} (h : w.ownsRow base 3 1 v l.length (l.map (Value.int .i64))) (hne : l ≠ []) : IntSl w v l := by
  obtain ⟨hlen, h2 | ⟨g, cap, cur, hv, hb, hh, hnc, _, hsz, htk⟩⟩ := h
  · exact (hne (List.length_eq_zero_iff.1 h2.2)).elim
  · refine .inr ⟨hne, g, 0, cap, hv, fun i hi => ?_⟩
    have hj : (l.map (Value.int .i64))[i]? = some (.int .i64 l[i]) := by simp [hi]
    rw [← htk] at hj
    have hj' : cur[i]? = some (.int .i64 l[i]) := by
      rw [List.getElem?_take] at hj
      split at hj
      · simpa using hj
      · cases hj
    simp [World.cell?, hh, hj']

theorem cell_one_new' {w : World} {B : Nat} (hB : w.heap.size = B) (x : Value) (t : TypeId) : ∀ j u, [x][j]? = some u → (w.alloc (.cells #[x] t)).cell? ((⟨B, 0, none⟩ : Addr).add j) = some u := by
  subst hB; exact cell_one_new w x t
theorem Tryd.infoInt : (Tryd.prog.info? 3).map (fun i => (i.zero, i.size, i.bytes)) = some (some (.int .i64 0), 1, 8) := by kernel_rfl

/-- A number, if it is not there. -/
def addI (l : List Int) (n : Int) : List Int := if n ∈ l then l else l ++ [n]
theorem addI_ne (l : List Int) (n : Int) : addI l n ≠ [] := by
  unfold addI
  by_cases h : n ∈ l
  · rw [if_pos h]; intro e; rw [e] at h; simp at h
  · rw [if_neg h]; simp
theorem addI_len (l : List Int) (n : Int) : (addI l n).length ≤ l.length + 1 := by
  unfold addI; split <;> simp

set_option maxHeartbeats 1600000 in
set_option maxRecDepth 100000 in
theorem r08_add (v : Value) (l : List Int) (n : Int) (w : World) (hv : IntSl w v l) (hl : l.length ≤ 100000) :
    Calls Tryd.prog 53 #[v, .int .i64 n] w fun r w' => (∃ u, r = .returned u ∧ IntSl w' u (addI l n)) ∧ Below w.heap.size w w' := by
  have hv0 := Lib.hid hv
  obtain ⟨a, c, rfl⟩ := hv.form
  have hat := Lib.hid hv.at.2
  clear hv
  go_enter Tryd.func53, Tryd.ntmps53
  go_wp2_with fail
  go_loop [5] (fun i => ∃ k : Nat, k ≤ l.length ∧ i = .int .i64 k ∧ Hid (∀ j (hj : j < k) (hl : j < l.length), l[j] ≠ n)) (fun i => l.length - (intOf i).toNat)
  case atStart => exact ⟨0, by omega, rfl, fun j hj => by omega⟩
  case round =>
    obtain ⟨k, hk, rfl, hall⟩ := hrel
    by_cases h1 : k < l.length
    · obtain ⟨b, off, rfl, hc⟩ := hat.out (by rintro rfl; simp at h1)
      have g0 := hc k h1
      clear hc
      by_cases h2 : l[k] = n
      · have h3 : (l[k] == n) = true := by rw [beq_iff_eq]; exact h2
        have hr : Hid (addI l n = l) := by unfold Hid addI; rw [if_pos (by rw [← h2]; exact List.getElem_mem h1)]
        clear h2
        go_wp2_with fail
        go_ret
        exact ⟨⟨_, rfl, by rw [hr.out]; exact hv0.out⟩, Below.refl _ _⟩
      · have h3 : (l[k] == n) = false := by rw [beq_eq_false_iff_ne]; exact h2
        have h2' := Lib.hid h2
        clear h2
        go_wp2_with fail
        go_round
        case rel => exact ⟨k + 1, by omega, by go_num, fun j hj hl => by
          rcases Nat.lt_or_ge j k with h | h
          · exact hall.out j h hl
          · obtain rfl : j = k := by omega
            exact h2'.out⟩
        case measure => simp [intOf]; omega
    · have hr : Hid (addI l n = l ++ [n]) := by
        unfold Hid addI
        rw [if_neg]
        intro hm
        obtain ⟨j, hj, e⟩ := List.getElem_of_mem hm
        exact hall.out j (by omega) hj e
      obtain ⟨i0, hi, hz0, hz1, hz2⟩ := info_of Tryd.infoInt
      have hown0 : (w.alloc (.cells #[] 3)).ownsRow w.heap.size 3 1 (.slice (some ⟨w.heap.size, 0, none⟩) 0 0) 0 [] := by
        refine ⟨rfl, .inr ⟨w.heap.size, 0, #[], rfl, Nat.le_refl _, ?_, Nat.le_refl _, by simp [maxLen], rfl, rfl⟩⟩
        simp only [World.alloc]; simp
      have hown0' := Lib.hid hown0
      clear hown0
      rcases hv0.out with ⟨rfl, hv⟩ | ⟨hne, b, off, c2, hv, hc⟩
      · simp only [Value.slice.injEq] at hv
        obtain ⟨rfl, _, rfl⟩ := hv
        simp only [List.length_nil, List.nil_append] at *
        go_wp2_with (at_builtin; first
          | (refine wpList_append_own_none rfl _ _ 27 rfl w.heap.size 3 i0 1 Tryd.underlying27 hi _ _ _ rfl hown0'.out rfl ?_)
          | (go_must ((refine wpList_append_own_at _ rfl _ _ 27 rfl w.heap.size 3 i0 (.int .i64 0) 1 8 Tryd.underlying27 hi hz0 hz1 hz2 rfl (by decide) _ _ _ rfl (hown0'.out.alloc _) ⟨w.heap.size + 1, 0, none⟩ 1 1 [.int .i64 n] rfl rfl (cell_one_new' (by simp) _ _) (by simp [Value.oneCell']) (by unfold maxLen; omega) (by omega) (by simp <;> omega) ?_); intro v2 w3 hown2 hg2 _ _; have hB3 := Lib.hid ((((Below.refl w.heap.size w).alloc (Nat.le_refl _) _).alloc (by simp <;> omega) _).grown hg2 (by simp <;> omega) (fun q e => (ownBlock_ge hown0'.out e).1)); have hown2' := Lib.hid hown2; clear hown2 hg2)))
        go_ret
        refine ⟨⟨_, rfl, ?_⟩, hB3.out⟩
        rw [hr.out]
        exact IntSl.of_own hown2'.out (by simp)
      · simp only [Value.slice.injEq] at hv
        obtain ⟨rfl, _, rfl⟩ := hv
        have hcells : Hid (∀ j u, (l.map (Value.int .i64))[j]? = some u → (w.alloc (.cells #[] 3)).cell? ((⟨b, off, none⟩ : Addr).add j) = some u) := by
          intro j u hj
          simp only [List.getElem?_map, Option.map_eq_some_iff] at hj
          obtain ⟨y, hy, rfl⟩ := hj
          obtain ⟨hj', rfl⟩ := List.getElem?_eq_some_iff.1 hy
          rw [show (⟨b, off, none⟩ : Addr).add j = ⟨b, off + j, none⟩ from by unfold Addr.add; split <;> simp_all]
          exact Keeps.of_below ((Below.refl w.heap.size w).alloc (Nat.le_refl _) _) _ _ (hc j hj')
        have hz := cell_block (hc 0 (List.length_pos_iff.2 hne))
        clear hc hat hv0
        go_wp2_with (at_builtin; first
          | ((refine wpList_append_own_at _ rfl _ _ 27 rfl w.heap.size 3 i0 (.int .i64 0) 1 8 Tryd.underlying27 hi hz0 hz1 hz2 rfl (by decide) _ _ _ rfl hown0'.out ⟨b, off, none⟩ l.length _ (l.map (Value.int .i64)) rfl (by simp) hcells.out (by simp [Value.oneCell']) (by unfold maxLen; omega) (by omega) (by simp) ?_); intro v2 w3 hown2 hg2 _ hob; have hB2 := Lib.hid (((Below.refl w.heap.size w).alloc (Nat.le_refl _) (.cells #[] 3)).grown hg2 (by simp) (fun q e => (ownBlock_ge hown0'.out e).1)); rw [Nat.zero_add, List.nil_append] at hown2; obtain ⟨va, vc, rfl, _⟩ := ownsRow_form hown2; have hown2' := Lib.hid hown2; have hz3 : w.heap.size ≤ w3.heap.size := hB2.out.size; clear hown2 hg2 hob)
          | (go_must ((refine wpList_append_own_at _ rfl _ _ 27 rfl w.heap.size 3 i0 (.int .i64 0) 1 8 Tryd.underlying27 hi hz0 hz1 hz2 rfl (by decide) _ _ _ rfl (hown2'.out.alloc _) ⟨w3.heap.size, 0, none⟩ 1 1 [.int .i64 n] rfl rfl (cell_one_new _ _ _) (by simp [Value.oneCell']) (by unfold maxLen; omega) (by omega) (by simp <;> omega) ?_); intro v4 w4 hown4 hg4 _ _; have hB4 := Lib.hid ((hB2.out.alloc hz3 _).grown hg4 (by simp <;> omega) (fun q e => (ownBlock_ge hown2'.out e).1)); have hown4' := Lib.hid hown4; clear hown4 hg4)))
        go_ret
        refine ⟨⟨_, rfl, ?_⟩, hB4.out⟩
        rw [hr.out]
        have := hown4'.out
        exact IntSl.of_own (base := w.heap.size) (by simpa using this) (by simp)
end Go.Proofs.YticjpeefhppjoaaDoor
