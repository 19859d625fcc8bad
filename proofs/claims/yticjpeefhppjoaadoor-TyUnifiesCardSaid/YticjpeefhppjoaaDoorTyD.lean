/- The library's IndexFunc, ContainsFunc, Backward at facts; the program's closure within Apply. -/
import Derived.Test.YticjpeefhppjoaaDoorTyE
import Derived.Test.YticjpeefhppjoaaDoorTyN
namespace Go.Proofs.YticjpeefhppjoaaDoor
open Go.RowKit Go.Shelf
attribute [local go_sem] Oper.semAt_some

def idxI {α : Type} (p : α → Bool) : List α → Int
  | [] => -1
  | e :: r => if p e then 0 else if idxI p r < 0 then -1 else idxI p r + 1
theorem idxI_ge {α : Type} (p : α → Bool) : ∀ l, -1 ≤ idxI p l
  | [] => by simp [idxI]
  | e :: r => by have := idxI_ge p r; unfold idxI; split <;> (try split) <;> omega
theorem idxI_any {α : Type} (p : α → Bool) : ∀ l, decide (0 ≤ idxI p l) = l.any p
  | [] => by simp [idxI]
  | e :: r => by
    have ih := idxI_any p r
    have hg := idxI_ge p r
    rw [List.any_cons, ← ih, idxI]
    cases h : p e
    · simp only [Bool.false_eq_true, if_false, Bool.false_or]
      split
      · rw [decide_eq_false (by omega), decide_eq_false (by omega)]
      · rw [decide_eq_true (by omega), decide_eq_true (by omega)]
    · simp
theorem idxI_at {α : Type} {p : α → Bool} : ∀ {l : List α} {k : Nat} (hk : k < l.length) (_ : ∀ j (hj : j < k), p (l[j]'(by omega)) = false) (_ : p l[k] = true), idxI p l = k
  | e :: r, 0, _, _, h => by simp at h; simp [idxI, h]
  | e :: r, k + 1, hk, hn, h => by
    have h0 := hn 0 (by omega)
    simp at h0
    have := idxI_at (l := r) (k := k) (by simpa using hk) (fun j hj => by simpa using hn (j + 1) (by omega)) (by simpa using h)
    rw [idxI, h0, this]; simp; omega
theorem idxI_none {α : Type} {p : α → Bool} : ∀ {l : List α} (_ : ∀ j (hj : j < l.length), p l[j] = false), idxI p l = -1
  | [], _ => rfl
  | e :: r, h => by
    have h0 := h 0 (by simp)
    simp at h0
    have := idxI_none (l := r) (fun j hj => by have := h (j + 1) (by simpa using hj); simpa using this)
    rw [idxI, h0, this]; simp

set_option maxHeartbeats 800000 in
theorem index_Fact (a : Option Addr) (l : List Fa) (cap g : Nat) (lb : Array Value) (p : Fa → Bool) (w : World) (hl : l.length ≤ lenMax) (hr : FaRow (fun _ => False) w a l)
    (hp : ∀ e ∈ l, ∀ v W, Below w.heap.size w W → FaX (fun _ => False) W v e → Calls Tryd.prog g (#[v] ++ lb) W fun r W' => r = .returned (.bool (p e)) ∧ Below W.heap.size W W')
    (henter : ∀ args w, (callFunc g args).run Tryd.prog w = .ok (.enter g args) w) :
    Calls Tryd.prog 60 #[.slice a l.length cap, .func (.func g) #[] lb] w fun r w' => r = .returned (.int .i64 (idxI p l)) ∧ Below w.heap.size w w' := by
  unfold lenMax at hl
  have hp' := Lib.hid hp
  clear hp
  go_enter Tryd.func60, Tryd.ntmps60
  go_wp2_with fail
  go_loopw [8] (fun i wr => ∃ k : Nat, k ≤ l.length ∧ i = .int .i64 k ∧ Hid (∀ j (hj : j < k) (hl : j < l.length), p l[j] = false) ∧ Below w.heap.size w wr) (fun i _ => l.length - (intOf i).toNat)
  case atStart => exact ⟨0, by omega, rfl, fun j hj => by omega, Below.refl _ _⟩
  case round =>
    obtain ⟨k, hk, rfl, hall, hB⟩ := hrel
    by_cases h1 : k < l.length
    · obtain ⟨b, off, rfl, harg⟩ := (hr.keeps (Keeps.of_below hB)).at (by rintro rfl; simp at h1)
      obtain ⟨a2, c2, g0, g1, g2, g3, ge, gn⟩ := harg k h1
      have hcall := Lib.hid (hp'.out _ (List.getElem_mem h1) _ _ hB ⟨_, _, _, rfl, gn, ge⟩)
      clear harg ge
      cases h3 : p l[k]
      · rw [h3] at hcall
        have h3' := Lib.hid h3
        clear h3
        go_wp2_with fail
        refine hcall.out.mono ?_
        rintro e w1 ⟨rfl, hB1⟩
        have hB1' := hB.trans (hB1.mono hB.size)
        clear hB1
        go_wp2_with fail
        go_roundw
        case rel => exact ⟨k + 1, by omega, by go_num, fun j hj hl => by
          rcases Nat.lt_or_ge j k with h | h
          · exact hall.out j h hl
          · obtain rfl : j = k := by omega
            exact h3'.out, hB1'⟩
        case measure => simp [intOf]; omega
      · rw [h3] at hcall
        have h3' := Lib.hid h3
        clear h3
        go_wp2_with fail
        refine hcall.out.mono ?_
        rintro e w1 ⟨rfl, hB1⟩
        have hB1' := hB.trans (hB1.mono hB.size)
        clear hB1
        go_wp2_with fail
        go_ret
        exact ⟨ret_int (idxI_at h1 (fun j hj => hall.out j hj (by omega)) h3'.out).symm, hB1'⟩
    · go_wp2_with fail
      go_ret
      exact ⟨ret_int (idxI_none fun j hj => hall.out j (by omega) hj).symm, hB⟩

theorem contains_Fact (a : Option Addr) (l : List Fa) (cap g : Nat) (lb : Array Value) (p : Fa → Bool) (w : World) (hl : l.length ≤ lenMax) (hr : FaRow (fun _ => False) w a l)
    (hp : ∀ e ∈ l, ∀ v W, Below w.heap.size w W → FaX (fun _ => False) W v e → Calls Tryd.prog g (#[v] ++ lb) W fun r W' => r = .returned (.bool (p e)) ∧ Below W.heap.size W W')
    (henter : ∀ args w, (callFunc g args).run Tryd.prog w = .ok (.enter g args) w) :
    Calls Tryd.prog 41 #[.slice a l.length cap, .func (.func g) #[] lb] w fun r w' => r = .returned (.bool (l.any p)) ∧ Below w.heap.size w w' := by
  have h := Lib.hid (index_Fact a l cap g lb p w hl hr hp henter)
  clear hp hr
  go_enter Tryd.func41, Tryd.ntmps41
  go_wp2_with fail
  refine h.out.mono ?_
  rintro e w1 ⟨rfl, hB⟩
  go_wp2_with fail
  go_ret
  exact ⟨ret_bool (idxI_any p l), hB⟩

/-- The box of a struct of four cells. -/
theorem box4 {w wr : World} {v0 v1 v2 v3 : Value} {t : TypeId} (h : Below (w.heap.size + 1) (w.alloc (.cells #[v0, v1, v2, v3] t)) wr) :
    wr.cell? ⟨w.heap.size, 0, none⟩ = some v0 ∧ wr.cell? ⟨w.heap.size, 1, none⟩ = some v1 ∧ wr.cell? ⟨w.heap.size, 2, none⟩ = some v2 ∧ wr.cell? ⟨w.heap.size, 3, none⟩ = some v3 := by
  refine ⟨?_, ?_, ?_, ?_⟩ <;> (rw [h.cell (by simp), World.cell?_alloc_at _ _ _ _ rfl]; rfl)

set_option maxHeartbeats 800000 in
/-- The closure within Apply: a fact that may not be. -/
theorem ty_bad (f : Fa) (v : Value) (w : World) (hf : FaX (fun _ => False) w v f) : Calls Tryd.prog 40 #[v] w fun r w' => r = .returned (.bool (!goodF f)) ∧ Below w.heap.size w w' := by
  obtain ⟨v1, v2, v3, rfl, hn, he⟩ := hf
  obtain ⟨a1, c1, hv⟩ := he.form
  simp only [Value.agg.injEq, Array.mk.injEq, List.cons.injEq, and_true] at hv
  obtain ⟨rfl, rfl, rfl⟩ := hv
  have hB0 : Below (w.heap.size + 1) (w.alloc (.cells #[.int .i64 f.n, .string f.ty.name, .int .i64 f.ty.n, .slice a1 f.ty.args.length c1] 34)) (w.alloc (.cells #[.int .i64 f.n, .string f.ty.name, .int .i64 f.ty.n, .slice a1 f.ty.args.length c1] 34)) := Below.refl _ _
  have hbw : Below w.heap.size w (w.alloc (.cells #[.int .i64 f.n, .string f.ty.name, .int .i64 f.ty.n, .slice a1 f.ty.args.length c1] 34)) := (Below.refl _ _).alloc (Nat.le_refl _) _
  obtain ⟨k0, k1, k2, k3⟩ := box4 hB0
  have hc := Lib.hid (ty_Check _ _ _ (he.below hbw))
  have hbw' := Lib.hid hbw
  have hg : Hid (goodF f = (chkT f.ty && decide (0 ≤ f.n))) := rfl
  obtain ⟨m, hm⟩ : ∃ m, chkT f.ty = m := ⟨_, rfl⟩
  obtain ⟨p, hp⟩ : ∃ p, f.n = p := ⟨_, rfl⟩
  rw [hm] at hc hg
  rw [hp] at hg hc k0 k1 k2 k3 hbw' ⊢
  clear hm hp he hn hB0 hbw
  by_cases h0 : p < 0
  · have hT : Hid (goodF f = false) := by unfold Hid; rw [hg.out, decide_eq_false (by omega), Bool.and_false]
    clear hg
    go_enter Tryd.func40, Tryd.ntmps40
    go_wp2_with fail
    go_ret
    exact ⟨ret_bool (by rw [hT.out]; rfl), hbw'.out⟩
  · have hT : Hid (goodF f = m) := by unfold Hid; rw [hg.out, decide_eq_true (by omega), Bool.and_true]
    clear hg
    go_enter Tryd.func40, Tryd.ntmps40
    go_wp2_with fail
    refine hc.out.mono ?_
    rintro e V ⟨rfl, hBV⟩
    go_wp2_with fail
    go_ret
    exact ⟨ret_bool (by rw [hT.out]), hbw'.out.trans (hBV.mono (by simp))⟩

set_option maxHeartbeats 400000 in
theorem backward_Fact (v : Value) (w : World) (hv : ∃ a n c, v = .slice a n c) : Calls Tryd.prog 42 #[v] w fun r w' => r = .returned (.func (.func 61) #[] #[.pointer (some ⟨w.heap.size, 0, none⟩)]) ∧ w' = w.alloc (.cells #[v] 32) := by
  obtain ⟨a, n, c, rfl⟩ := hv
  have hmf : ∀ (fn : Fn) (first cap : Array Value) (w : World), (Instr.makeFunc fn first cap).run Tryd.prog w = .ok (.func fn first cap) w := fun _ _ _ _ => rfl
  go_enter Tryd.func42, Tryd.ntmps42
  go_wp2_with fail
  go_ret
  exact ⟨rfl, rfl⟩

/-- Places in a list of facts. -/
abbrev Ix (L : List Fa) := { j : Nat // j < L.length }
def revIx (n : Nat) : List Nat := (List.range n).reverse
theorem revIx_succ (n : Nat) : revIx (n + 1) = n :: revIx n := by unfold revIx; rw [List.range_succ]; simp

set_option maxHeartbeats 1000000 in
/-- Backward's closure gives the facts, the last one first. -/
theorem back_stops (n0 : Nat) (L : List Fa) (hl : L.length ≤ lenMax) (fv : Nat → Value) (a : Option Addr) (c : Nat) (w : World) (Bt : Nat) (Kp : World → World → Prop) (hKp : ∀ A, Kp A A) (hKt : ∀ {A B C : World}, Kp A B → Kp B C → Kp A C)
    (hB : ∀ W V, Below w.heap.size w W → Kp W V → V.cell? ⟨Bt, 0, none⟩ = some (.slice a L.length c) ∧ (L ≠ [] → ∃ b off, a = some ⟨b, off, none⟩ ∧ ∀ i, i < L.length → ∃ v0 v1 v2 v3, fv i = .agg #[v0, v1, v2, v3] ∧ V.cell? ⟨b, off + i * 4, none⟩ = some v0 ∧ V.cell? ⟨b, off + i * 4 + 1, none⟩ = some v1 ∧ V.cell? ⟨b, off + i * 4 + 2, none⟩ = some v2 ∧ V.cell? ⟨b, off + i * 4 + 3, none⟩ = some v3)) :
    SeqStopsK Fence.wide n0 Tryd.prog 61 #[.pointer (some ⟨Bt, 0, none⟩)] (fun x : Ix L => #[.int .i64 (x.1 : Nat), fv x.1]) Kp (fun ys => ys.map (·.1) = revIx L.length) (fun _ => True) L.length w := by
  intro l J Jx W hW hJ hJx hY h0
  have hdd : ∀ k : Nat, (Fence.wide.depth.isSome = true → 1 ≤ k) := fun k h => by cases h
  unfold lenMax at hl
  have hB' := Lib.hid (fun V => hB W V hW)
  clear hB
  obtain ⟨k0, _⟩ := hB'.out W (hKp W)
  refine callsIn_of_wp Tryd.func61 rfl trivial ?_ rfl
  simp only [Tryd.ntmps61, List.size_toArray, List.length_cons, List.length_nil, Nat.reduceAdd, Nat.reduceSub, Array.replicate_succ, Array.replicate_zero, List.push_toArray, List.append_toArray, List.nil_append, List.cons_append]
  gi_wp2_with fail
  gi_loopw [3] (fun i wr => ∃ (k : Nat) (ys : List (Ix L)), k ≤ L.length ∧ i = .int .i64 ((k : Int) - 1) ∧ Hid (ys.map (·.1) ++ revIx k = revIx L.length) ∧ J ys wr ∧ Kp W wr) (fun i _ => (intOf i + 1).toNat)
  case atStart => exact ⟨L.length, [], by omega, by go_num, rfl, h0, hKp W⟩
  case round =>
    clear k0
    obtain ⟨k, ys, hk, rfl, hys, hJr, hKr⟩ := hrel
    obtain ⟨k0, hat⟩ := hB'.out wr hKr
    by_cases h1 : 0 < k
    · obtain ⟨j, rfl⟩ : ∃ j, k = j + 1 := ⟨k - 1, by omega⟩
      have hne : L ≠ [] := by rintro rfl; simp at hk
      obtain ⟨b, off, rfl, hat2⟩ := hat hne
      obtain ⟨v0, v1, v2, v3, hfv, g0, g1, g2, g3⟩ := hat2 j (by omega)
      clear hat hat2 hne
      have hlen : ys.length < L.length := by
        have h4 := congrArg List.length hys.out
        rw [List.length_append, List.length_map] at h4
        simp only [revIx, List.length_reverse, List.length_range] at h4
        omega
      obtain ⟨fn, tmps, assign, body, hy, hR⟩ := YieldAt.any (n0 - 1) (hY ys ⟨j, by omega⟩ wr hJr hlen)
      simp only [hfv] at hy
      have e1 : ((j + 1 : Nat) : Int) - 1 = (j : Int) := by omega
      rw [e1]
      have hyj : Hid ((ys ++ [(⟨j, by omega⟩ : Ix L)]).map (·.1) ++ revIx j = revIx L.length) := by
        unfold Hid
        rw [← hys.out, revIx_succ]; simp
      clear hfv e1
      gi_wp2_with fail
      refine ⟨hdd _, ?_⟩
      refine hR.mono ?_
      clear hR
      rintro e W1 (⟨rfl, hJ1, hK1⟩ | ⟨rfl, hJx⟩)
      · gi_wp2_with fail
        refine ⟨⟨j, _, by omega, by go_num, hyj, hJ1, hKt hKr hK1⟩, by simp [intOf]⟩
      · gi_wp2_with fail
        refine bodyPost_ret (results_none rfl _ _ _) rfl ?_
        exact ⟨⟨_, rfl⟩, .inr ⟨_, trivial, hJx⟩⟩
    · obtain rfl : k = 0 := by omega
      clear hat
      have hye : Hid (ys.map (·.1) = revIx L.length) := by
        have := hys.out
        unfold Hid
        simpa [revIx] using this
      gi_wp2_with fail
      go_end0
      exact ⟨⟨_, rfl⟩, .inl ⟨ys, hye.out, hJr⟩⟩
end Go.Proofs.YticjpeefhppjoaaDoor
