/- A part of the proof that parser laws hold: texts of the walk and of its plain laws, made small. -/
import Derived.Test.YtnfclcfcpgfajaaGreatDoorM19
import Derived.Test.YtnfclcfcpgfajaaGreatDoorM20
import Derived.RangeFuncNested
import Derived.RangeFuncBound
import Derived.RangeFuncCalls
import Derived.RangeFuncLeaves
import Derived.Shelf.Abstract
import Derived.Shelf.RegionOpen
import Derived.OwnWalkIn
import Derived.TacticsInMore
import Derived.LoopNIn
import Derived.LoopIn
set_option linter.unusedVariables false
set_option linter.unusedSimpArgs false
/- The holes of a type, handed to a loop's round one by one. -/
namespace Go.Proofs.YtnfclcfcpgfajaaGreatDoor
open Go.RowKit Go.Shelf
attribute [local go_sem] Oper.semAt_some

theorem KeepsBut.keeps {X : Nat → Prop} {w W : World} (h : KeepsBut X w W) (hX : ∀ b, X b → w.heap.size ≤ b) : Keeps w W := fun a v hv => h.2 a v (fun hx => by have := hX _ hx; have := cell_block hv; omega) hv

abbrev N64 := { n : Int // In64 n }
/-- A type's holes, as often as they stand there. -/
def allT : Ty → List Int
  | .mk s n args => if holeS s = true then [n] else allL args
where allL : List Ty → List Int
  | [] => []
  | e :: r => allT e ++ allL r
theorem allL_append (a b : List Ty) : allT.allL (a ++ b) = allT.allL a ++ allT.allL b := by
  induction a with
  | nil => rfl
  | cons e r ih => simp only [List.cons_append, allT.allL, ih, List.append_assoc]
theorem allL_succ (args : List Ty) (k : Nat) (h : k < args.length) : allT.allL (args.take (k + 1)) = allT.allL (args.take k) ++ allT args[k] := by
  rw [List.take_succ_eq_append_getElem h, allL_append]; simp [allT.allL]
theorem allL_prefix (args : List Ty) (k : Nat) : allT.allL (args.take k) <+: allT.allL args := by
  have h : allT.allL args = allT.allL (args.take k) ++ allT.allL (args.drop k) := by rw [← allL_append, List.take_append_drop]
  exact ⟨_, h.symm⟩

set_option maxRecDepth 100000 in
set_option maxHeartbeats 2000000 in
theorem ty_each (w₀ : World) (l N : Nat) (X : Nat → Prop) (J Jx : List N64 → World → Prop) (B : Nat) (hJ : AbidesFrom B J)
    (hY : ∀ m pre (x : N64) W, J pre W → pre.length < N → YieldAt Fence.wide m Tryz.prog l #[.int .i64 x.1] W fun e W' =>
      (e = .returned (.bool true) ∧ J (pre ++ [x]) W' ∧ KeepsBut X W W') ∨ (e = .returned (.bool false) ∧ Jx (pre ++ [x]) W')) :
    ∀ (e : Ty) (v : Value) (n : Nat) (pre : List N64) (W : World), IsTy w₀ v e → (∀ b, X b → w₀.heap.size ≤ b) → KeepsBut X w₀ W → J pre W → pre.length + (allT e).length ≤ N →
      CallsIn Fence.wide n Tryz.prog 135 #[v, .func (.yield l) #[] #[]] W fun r W' =>
        (r = .returned (.bool true) ∧ ∃ ys : List N64, ys.map (·.1) = allT e ∧ J (pre ++ ys) W' ∧ KeepsBut X W W') ∨
        (r = .returned (.bool false) ∧ ∃ ys : List N64, ys.map (·.1) <+: allT e ∧ Jx (pre ++ ys) W') := by
  have hdd : ∀ k : Nat, (Fence.wide.depth.isSome = true → 1 ≤ k) := fun k h => by cases h
  refine Ty.ind fun s nm args ih v n pre W hv hX hk hJ0 hN => ?_
  obtain ⟨a1, c1, rfl, _, hn64, hs, hls, hr⟩ := hv.open
  unfold lenMax at hls
  refine callsIn_of_wp Tryz.func135 rfl trivial ?_ rfl
  simp only [Tryz.ntmps135, List.size_toArray, List.length_cons, List.length_nil, Nat.reduceAdd, Nat.reduceSub, Array.replicate_succ, Array.replicate_zero, List.push_toArray, List.append_toArray, List.nil_append, List.cons_append]
  have hB0 : Below (W.heap.size + 1) (W.alloc (.cells #[.string s, .int .i64 nm, .slice a1 args.length c1] 25)) (W.alloc (.cells #[.string s, .int .i64 nm, .slice a1 args.length c1] 25)) := Below.refl _ _
  obtain ⟨k0, k1, k2⟩ := box3 hB0
  have hole := Lib.hid (ty_hole s nm a1 args.length c1 (W.alloc (.cells #[.string s, .int .i64 nm, .slice a1 args.length c1] 25)))
  cases hq : holeS s
  case true =>
    have hall : Hid (allT (.mk s nm args) = [nm]) := by unfold Hid; rw [allT, if_pos hq]
    rw [hall.out] at hN
    rw [hq] at hole
    clear hq
    gi_wp2_with fail
    refine ⟨trivial, hdd _, callsIn_wide.2 (hole.out.mono ?_)⟩
    rintro e V ⟨rfl, hBV⟩
    have hC := hB0.trans (hBV.mono (by simp))
    have hWV := below_box hC
    clear k0 k1 k2
    obtain ⟨k0, k1, k2⟩ := box3 hC
    obtain ⟨fn, tmps, assign, body, hy, hR⟩ := hY (n - 1) pre ⟨nm, hn64⟩ V (abides_below hJ hJ0 hWV) (by simp at hN; omega)
    gi_wp2_with fail
    refine ⟨hdd _, ?_⟩
    refine hR.mono ?_
    clear hR
    rintro e W1 (⟨rfl, hJ1, hK1⟩ | ⟨rfl, hJx⟩)
    · gi_wp2_with fail
      go_ret
      exact .inl ⟨rfl, [⟨nm, hn64⟩], by rw [hall.out]; rfl, hJ1, (KeepsBut.of_below hWV).trans hK1⟩
    · gi_wp2_with fail
      go_ret
      exact .inr ⟨rfl, [⟨nm, hn64⟩], by rw [hall.out]; exact List.prefix_refl _, hJx⟩
  case false =>
    have hall : Hid (allT (.mk s nm args) = allT.allL args) := by unfold Hid; rw [allT, if_neg (by rw [hq]; simp)]
    rw [hall.out] at hN
    have hN' := Lib.hid hN
    rw [hq] at hole
    clear hq hN
    gi_wp2_with fail
    refine ⟨trivial, hdd _, callsIn_wide.2 (hole.out.mono ?_)⟩
    rintro e V ⟨rfl, hBV⟩
    have hC := hB0.trans (hBV.mono (by simp))
    have hWV := below_box hC
    clear k0 k1 k2
    obtain ⟨k0, k1, k2⟩ := box3 hC
    have hkV : KeepsBut X w₀ V := hk.trans (KeepsBut.of_below hWV)
    gi_wp2_with fail
    gi_loopw [16] (fun i wr => ∃ (k : Nat) (ys : List N64), k ≤ args.length ∧ i = .int .i64 k ∧ Hid (ys.map (·.1) = allT.allL (args.take k)) ∧ J (pre ++ ys) wr ∧ KeepsBut X V wr) (fun i _ => args.length - (intOf i).toNat)
    case atStart => exact ⟨0, [], by omega, rfl, rfl, by simpa using abides_below hJ hJ0 hWV, KeepsBut.refl _ _⟩
    case round =>
      clear k0 k1 k2
      obtain ⟨k, ys, hkl, rfl, hys, hJr, hKr⟩ := hrel
      by_cases h1 : k < args.length
      · have hK0 : Keeps w₀ wr := (hkV.trans hKr).keeps fun b hb => hX b hb
        obtain ⟨b, off, rfl, hkid⟩ := hr.arg (by rintro rfl; simp at h1)
        obtain ⟨a2, c2, g0, g1, g2, ge⟩ := hkid k h1
        clear hkid
        replace g0 := hK0 _ _ g0
        replace g1 := hK0 _ _ g1
        replace g2 := hK0 _ _ g2
        have hBr : Below wr.heap.size wr (wr.alloc (.cells #[.string args[k].name, .int .i64 args[k].n, .slice a2 args[k].args.length c2] 25)) := (Below.refl _ _).alloc (Nat.le_refl _) _
        have hlen : pre.length + (ys.length + (allT args[k]).length) ≤ N := by
          have h4 := congrArg List.length hys.out
          rw [List.length_map] at h4
          have h3 := (allL_prefix args (k + 1)).length_le
          rw [allL_succ _ _ h1, List.length_append] at h3
          have := hN'.out
          omega
        have step := Lib.hid (ih _ (List.getElem_mem h1) _ (n - 1) (pre ++ ys) _ ge hX ((hkV.trans hKr).trans (KeepsBut.of_below hBr)) (abides_below hJ hJr hBr) (by simp only [List.length_append]; omega))
        have hsucc := Lib.hid (allL_succ args k h1)
        clear hlen ge
        gi_wp2_with fail
        refine ⟨trivial, hdd _, ?_⟩
        refine step.out.mono ?_
        clear step
        rintro e W2 (⟨rfl, zs, hz, hJ2, hK2⟩ | ⟨rfl, zs, hz, hJx⟩)
        · gi_wp2_with fail
          refine ⟨⟨k + 1, ys ++ zs, by omega, by go_num, by unfold Hid; rw [hsucc.out, List.map_append, hys.out, hz], by rw [← List.append_assoc]; exact hJ2, (hKr.trans (KeepsBut.of_below hBr)).trans hK2⟩, by simp [intOf]; omega⟩
        · gi_wp2_with fail
          go_ret
          refine .inr ⟨rfl, ys ++ zs, ?_, by rw [← List.append_assoc]; exact hJx⟩
          rw [hall.out]
          obtain ⟨q, hq⟩ := hz
          obtain ⟨q2, hq2⟩ := allL_prefix args (k + 1)
          rw [hsucc.out] at hq2
          exact ⟨q ++ q2, by rw [← hq2, ← hq, List.map_append, hys.out]; simp⟩
      · have e : k = args.length := by omega
        have hye : Hid (ys.map (·.1) = allT (.mk s nm args)) := by
          unfold Hid
          rw [hall.out, hys.out, e, List.take_length]
        clear e
        gi_wp2_with fail
        go_ret
        exact .inl ⟨rfl, ys, hye.out, hJr, (KeepsBut.of_below hWV).trans hKr⟩

set_option maxHeartbeats 400000 in
theorem ty_all (v0 v1 v2 : Value) (w : World) : Calls Tryz.prog 74 #[.agg #[v0, v1, v2]] w fun r w' => r = .returned (.func (.func 134) #[] #[.pointer (some ⟨w.heap.size, 0, none⟩)]) ∧ w' = w.alloc (.cells #[v0, v1, v2] 25) := by
  have hmf : ∀ (fn : Fn) (first cap : Array Value) (w : World), (Instr.makeFunc fn first cap).run Tryz.prog w = .ok (.func fn first cap) w := fun _ _ _ _ => rfl
  go_enter Tryz.func74, Tryz.ntmps74
  go_wp2_with fail
  go_ret
  exact ⟨rfl, rfl⟩

set_option maxHeartbeats 1000000 in
/-- The closure that 'all' hands back gives a type's holes, in their order. -/
theorem all_stops (w₀ : World) (n : Nat) (X : Nat → Prop) (v : Value) (e : Ty) (hv : IsTy w₀ v e) (w : World) (Bt : Nat) (hX : ∀ b, X b → w₀.heap.size ≤ b) (hk : ∀ W, Below w.heap.size w W → KeepsBut X w₀ W)
    (hB : ∀ W, Below w.heap.size w W → ∃ v0 v1 v2, v = .agg #[v0, v1, v2] ∧ W.cell? ⟨Bt, 0, none⟩ = some v0 ∧ W.cell? ⟨Bt, 1, none⟩ = some v1 ∧ W.cell? ⟨Bt, 2, none⟩ = some v2) :
    SeqStopsK Fence.wide n Tryz.prog 134 #[.pointer (some ⟨Bt, 0, none⟩)] (fun x : N64 => #[.int .i64 x.1]) (KeepsBut X) (fun ys => ys.map (·.1) = allT e) (fun ys => ys.map (·.1) <+: allT e) (allT e).length w := by
  intro l J Jx W hW hJ hJx hY h0
  have hdd : ∀ k : Nat, (Fence.wide.depth.isSome = true → 1 ≤ k) := fun k h => by cases h
  obtain ⟨v0, v1, v2, rfl, c0, c1, c2⟩ := hB W hW
  have hall := Lib.hid (ty_each w₀ l (allT e).length X J Jx W.heap.size hJ (fun m pre x W hj hl => YieldAt.any m (hY pre x W hj hl)) e _ (n - 1) [] W hv hX (hk W hW) h0 (by simp))
  refine callsIn_of_wp Tryz.func134 rfl trivial ?_ rfl
  simp only [Tryz.ntmps134, List.size_toArray, List.length_cons, List.length_nil, Nat.reduceAdd, Nat.reduceSub, Array.replicate_succ, Array.replicate_zero, List.push_toArray, List.append_toArray, List.nil_append, List.cons_append]
  clear hB hk hY hX
  gi_wp2_with fail
  refine ⟨trivial, hdd _, ?_⟩
  refine hall.out.mono ?_
  rintro e W1 (⟨rfl, ys, hys, hJ1, _⟩ | ⟨rfl, ys, hys, hJ1⟩)
  · gi_wp2_with fail
    go_end0
    exact ⟨⟨_, rfl⟩, .inl ⟨_, hys, by simpa using hJ1⟩⟩
  · gi_wp2_with fail
    go_end0
    exact ⟨⟨_, rfl⟩, .inr ⟨_, hys, by simpa using hJ1⟩⟩
end Go.Proofs.YtnfclcfcpgfajaaGreatDoor

/- The library's IndexFunc, ContainsFunc, Backward at facts; the program's closure within Apply. -/
namespace Go.Proofs.YtnfclcfcpgfajaaGreatDoor
open Go.RowKit Go.Shelf
attribute [local go_sem] Oper.semAt_some

def idxI {α : Type} (p : α → Bool) : List α → Int
  | [] => -1
  | e :: r => if p e then 0 else if idxI p r < 0 then -1 else idxI p r + 1
theorem idxI_ge {α : Type} (p : α → Bool) : ∀ l, -1 ≤ idxI p l
  | [] => by simp [idxI]
  | e :: r => by have := idxI_ge p r; unfold idxI; split <;> (try split) <;> omega
theorem idxI_any {α : Type} (p : α → Bool) : ∀ l, decide (0 ≤ idxI p l) = l.any p
  | [] => by simp [idxI]
  | e :: r => by
    have ih := idxI_any p r
    have hg := idxI_ge p r
    rw [List.any_cons, ← ih, idxI]
    cases h : p e
    · simp only [Bool.false_eq_true, if_false, Bool.false_or]
      split
      · rw [decide_eq_false (by omega), decide_eq_false (by omega)]
      · rw [decide_eq_true (by omega), decide_eq_true (by omega)]
    · simp
theorem idxI_at {α : Type} {p : α → Bool} : ∀ {l : List α} {k : Nat} (hk : k < l.length) (_ : ∀ j (hj : j < k), p (l[j]'(by omega)) = false) (_ : p l[k] = true), idxI p l = k
  | e :: r, 0, _, _, h => by simp at h; simp [idxI, h]
  | e :: r, k + 1, hk, hn, h => by
    have h0 := hn 0 (by omega)
    simp at h0
    have := idxI_at (l := r) (k := k) (by simpa using hk) (fun j hj => by simpa using hn (j + 1) (by omega)) (by simpa using h)
    rw [idxI, h0, this]; simp; omega
theorem idxI_none {α : Type} {p : α → Bool} : ∀ {l : List α} (_ : ∀ j (hj : j < l.length), p l[j] = false), idxI p l = -1
  | [], _ => rfl
  | e :: r, h => by
    have h0 := h 0 (by simp)
    simp at h0
    have := idxI_none (l := r) (fun j hj => by have := h (j + 1) (by simpa using hj); simpa using this)
    rw [idxI, h0, this]; simp

set_option maxHeartbeats 800000 in
theorem index_Fact (a : Option Addr) (l : List Fa) (cap g : Nat) (lb : Array Value) (p : Fa → Bool) (w : World) (hl : l.length ≤ lenMax) (hr : FaRow (fun _ => False) w a l)
    (hp : ∀ e ∈ l, ∀ v W, Below w.heap.size w W → FaX (fun _ => False) W v e → Calls Tryz.prog g (#[v] ++ lb) W fun r W' => r = .returned (.bool (p e)) ∧ Below W.heap.size W W')
    (henter : ∀ args w, (callFunc g args).run Tryz.prog w = .ok (.enter g args) w) :
    Calls Tryz.prog 178 #[.slice a l.length cap, .func (.func g) #[] lb] w fun r w' => r = .returned (.int .i64 (idxI p l)) ∧ Below w.heap.size w w' := by
  unfold lenMax at hl
  have hp' := Lib.hid hp
  clear hp
  go_enter Tryz.func178, Tryz.ntmps178
  go_wp2_with fail
  go_loopw [8] (fun i wr => ∃ k : Nat, k ≤ l.length ∧ i = .int .i64 k ∧ Hid (∀ j (hj : j < k) (hl : j < l.length), p l[j] = false) ∧ Below w.heap.size w wr) (fun i _ => l.length - (intOf i).toNat)
  case atStart => exact ⟨0, by omega, rfl, fun j hj => by omega, Below.refl _ _⟩
  case round =>
    obtain ⟨k, hk, rfl, hall, hB⟩ := hrel
    by_cases h1 : k < l.length
    · obtain ⟨b, off, rfl, harg⟩ := (hr.keeps (Keeps.of_below hB)).at (by rintro rfl; simp at h1)
      obtain ⟨a2, c2, g0, g1, g2, g3, ge, gn⟩ := harg k h1
      have hcall := Lib.hid (hp'.out _ (List.getElem_mem h1) _ _ hB ⟨_, _, _, rfl, gn, ge⟩)
      clear harg ge
      cases h3 : p l[k]
      · rw [h3] at hcall
        have h3' := Lib.hid h3
        clear h3
        go_wp2_with fail
        refine hcall.out.mono ?_
        rintro e w1 ⟨rfl, hB1⟩
        have hB1' := hB.trans (hB1.mono hB.size)
        clear hB1
        go_wp2_with fail
        go_roundw
        case rel => exact ⟨k + 1, by omega, by go_num, fun j hj hl => by
          rcases Nat.lt_or_ge j k with h | h
          · exact hall.out j h hl
          · obtain rfl : j = k := by omega
            exact h3'.out, hB1'⟩
        case measure => simp [intOf]; omega
      · rw [h3] at hcall
        have h3' := Lib.hid h3
        clear h3
        go_wp2_with fail
        refine hcall.out.mono ?_
        rintro e w1 ⟨rfl, hB1⟩
        have hB1' := hB.trans (hB1.mono hB.size)
        clear hB1
        go_wp2_with fail
        go_ret
        exact ⟨ret_int (idxI_at h1 (fun j hj => hall.out j hj (by omega)) h3'.out).symm, hB1'⟩
    · go_wp2_with fail
      go_ret
      exact ⟨ret_int (idxI_none fun j hj => hall.out j (by omega) hj).symm, hB⟩

theorem contains_Fact (a : Option Addr) (l : List Fa) (cap g : Nat) (lb : Array Value) (p : Fa → Bool) (w : World) (hl : l.length ≤ lenMax) (hr : FaRow (fun _ => False) w a l)
    (hp : ∀ e ∈ l, ∀ v W, Below w.heap.size w W → FaX (fun _ => False) W v e → Calls Tryz.prog g (#[v] ++ lb) W fun r W' => r = .returned (.bool (p e)) ∧ Below W.heap.size W W')
    (henter : ∀ args w, (callFunc g args).run Tryz.prog w = .ok (.enter g args) w) :
    Calls Tryz.prog 102 #[.slice a l.length cap, .func (.func g) #[] lb] w fun r w' => r = .returned (.bool (l.any p)) ∧ Below w.heap.size w w' := by
  have h := Lib.hid (index_Fact a l cap g lb p w hl hr hp henter)
  clear hp hr
  go_enter Tryz.func102, Tryz.ntmps102
  go_wp2_with fail
  refine h.out.mono ?_
  rintro e w1 ⟨rfl, hB⟩
  go_wp2_with fail
  go_ret
  exact ⟨ret_bool (idxI_any p l), hB⟩

/-- The box of a struct of four cells. -/
theorem box4 {w wr : World} {v0 v1 v2 v3 : Value} {t : TypeId} (h : Below (w.heap.size + 1) (w.alloc (.cells #[v0, v1, v2, v3] t)) wr) :
    wr.cell? ⟨w.heap.size, 0, none⟩ = some v0 ∧ wr.cell? ⟨w.heap.size, 1, none⟩ = some v1 ∧ wr.cell? ⟨w.heap.size, 2, none⟩ = some v2 ∧ wr.cell? ⟨w.heap.size, 3, none⟩ = some v3 := by
  refine ⟨?_, ?_, ?_, ?_⟩ <;> (rw [h.cell (by simp), World.cell?_alloc_at _ _ _ _ rfl]; rfl)

set_option maxHeartbeats 800000 in
/-- The closure within Apply: a fact that may not be. -/
theorem ty_bad (f : Fa) (v : Value) (w : World) (hf : FaX (fun _ => False) w v f) : Calls Tryz.prog 101 #[v] w fun r w' => r = .returned (.bool (!goodF f)) ∧ Below w.heap.size w w' := by
  obtain ⟨v1, v2, v3, rfl, hn, he⟩ := hf
  obtain ⟨a1, c1, hv⟩ := he.form
  simp only [Value.agg.injEq, Array.mk.injEq, List.cons.injEq, and_true] at hv
  obtain ⟨rfl, rfl, rfl⟩ := hv
  have hB0 : Below (w.heap.size + 1) (w.alloc (.cells #[.int .i64 f.n, .string f.ty.name, .int .i64 f.ty.n, .slice a1 f.ty.args.length c1] 68)) (w.alloc (.cells #[.int .i64 f.n, .string f.ty.name, .int .i64 f.ty.n, .slice a1 f.ty.args.length c1] 68)) := Below.refl _ _
  have hbw : Below w.heap.size w (w.alloc (.cells #[.int .i64 f.n, .string f.ty.name, .int .i64 f.ty.n, .slice a1 f.ty.args.length c1] 68)) := (Below.refl _ _).alloc (Nat.le_refl _) _
  obtain ⟨k0, k1, k2, k3⟩ := box4 hB0
  have hc := Lib.hid (ty_Check _ _ _ (he.below hbw))
  have hbw' := Lib.hid hbw
  have hg : Hid (goodF f = (chkT f.ty && decide (0 ≤ f.n))) := rfl
  obtain ⟨m, hm⟩ : ∃ m, chkT f.ty = m := ⟨_, rfl⟩
  obtain ⟨p, hp⟩ : ∃ p, f.n = p := ⟨_, rfl⟩
  rw [hm] at hc hg
  rw [hp] at hg hc k0 k1 k2 k3 hbw' ⊢
  clear hm hp he hn hB0 hbw
  by_cases h0 : p < 0
  · have hT : Hid (goodF f = false) := by unfold Hid; rw [hg.out, decide_eq_false (by omega), Bool.and_false]
    clear hg
    go_enter Tryz.func101, Tryz.ntmps101
    go_wp2_with fail
    go_ret
    exact ⟨ret_bool (by rw [hT.out]; rfl), hbw'.out⟩
  · have hT : Hid (goodF f = m) := by unfold Hid; rw [hg.out, decide_eq_true (by omega), Bool.and_true]
    clear hg
    go_enter Tryz.func101, Tryz.ntmps101
    go_wp2_with fail
    refine hc.out.mono ?_
    rintro e V ⟨rfl, hBV⟩
    go_wp2_with fail
    go_ret
    exact ⟨ret_bool (by rw [hT.out]), hbw'.out.trans (hBV.mono (by simp))⟩

set_option maxHeartbeats 400000 in
theorem backward_Fact (v : Value) (w : World) (hv : ∃ a n c, v = .slice a n c) : Calls Tryz.prog 103 #[v] w fun r w' => r = .returned (.func (.func 179) #[] #[.pointer (some ⟨w.heap.size, 0, none⟩)]) ∧ w' = w.alloc (.cells #[v] 64) := by
  obtain ⟨a, n, c, rfl⟩ := hv
  have hmf : ∀ (fn : Fn) (first cap : Array Value) (w : World), (Instr.makeFunc fn first cap).run Tryz.prog w = .ok (.func fn first cap) w := fun _ _ _ _ => rfl
  go_enter Tryz.func103, Tryz.ntmps103
  go_wp2_with fail
  go_ret
  exact ⟨rfl, rfl⟩

/-- Places in a list of facts. -/
abbrev Ix (L : List Fa) := { j : Nat // j < L.length }
def revIx (n : Nat) : List Nat := (List.range n).reverse
theorem revIx_succ (n : Nat) : revIx (n + 1) = n :: revIx n := by unfold revIx; rw [List.range_succ]; simp

set_option maxHeartbeats 1000000 in
/-- Backward's closure gives the facts, the last one first. -/
theorem back_stops (n0 : Nat) (L : List Fa) (hl : L.length ≤ lenMax) (fv : Nat → Value) (a : Option Addr) (c : Nat) (w : World) (Bt : Nat) (Kp : World → World → Prop) (hKp : ∀ A, Kp A A) (hKt : ∀ {A B C : World}, Kp A B → Kp B C → Kp A C)
    (hB : ∀ W V, Below w.heap.size w W → Kp W V → V.cell? ⟨Bt, 0, none⟩ = some (.slice a L.length c) ∧ (L ≠ [] → ∃ b off, a = some ⟨b, off, none⟩ ∧ ∀ i, i < L.length → ∃ v0 v1 v2 v3, fv i = .agg #[v0, v1, v2, v3] ∧ V.cell? ⟨b, off + i * 4, none⟩ = some v0 ∧ V.cell? ⟨b, off + i * 4 + 1, none⟩ = some v1 ∧ V.cell? ⟨b, off + i * 4 + 2, none⟩ = some v2 ∧ V.cell? ⟨b, off + i * 4 + 3, none⟩ = some v3)) :
    SeqStopsK Fence.wide n0 Tryz.prog 179 #[.pointer (some ⟨Bt, 0, none⟩)] (fun x : Ix L => #[.int .i64 (x.1 : Nat), fv x.1]) Kp (fun ys => ys.map (·.1) = revIx L.length) (fun _ => True) L.length w := by
  intro l J Jx W hW hJ hJx hY h0
  have hdd : ∀ k : Nat, (Fence.wide.depth.isSome = true → 1 ≤ k) := fun k h => by cases h
  unfold lenMax at hl
  have hB' := Lib.hid (fun V => hB W V hW)
  clear hB
  obtain ⟨k0, _⟩ := hB'.out W (hKp W)
  refine callsIn_of_wp Tryz.func179 rfl trivial ?_ rfl
  simp only [Tryz.ntmps179, List.size_toArray, List.length_cons, List.length_nil, Nat.reduceAdd, Nat.reduceSub, Array.replicate_succ, Array.replicate_zero, List.push_toArray, List.append_toArray, List.nil_append, List.cons_append]
  gi_wp2_with fail
  gi_loopw [3] (fun i wr => ∃ (k : Nat) (ys : List (Ix L)), k ≤ L.length ∧ i = .int .i64 ((k : Int) - 1) ∧ Hid (ys.map (·.1) ++ revIx k = revIx L.length) ∧ J ys wr ∧ Kp W wr) (fun i _ => (intOf i + 1).toNat)
  case atStart => exact ⟨L.length, [], by omega, by go_num, rfl, h0, hKp W⟩
  case round =>
    clear k0
    obtain ⟨k, ys, hk, rfl, hys, hJr, hKr⟩ := hrel
    obtain ⟨k0, hat⟩ := hB'.out wr hKr
    by_cases h1 : 0 < k
    · obtain ⟨j, rfl⟩ : ∃ j, k = j + 1 := ⟨k - 1, by omega⟩
      have hne : L ≠ [] := by rintro rfl; simp at hk
      obtain ⟨b, off, rfl, hat2⟩ := hat hne
      obtain ⟨v0, v1, v2, v3, hfv, g0, g1, g2, g3⟩ := hat2 j (by omega)
      clear hat hat2 hne
      have hlen : ys.length < L.length := by
        have h4 := congrArg List.length hys.out
        rw [List.length_append, List.length_map] at h4
        simp only [revIx, List.length_reverse, List.length_range] at h4
        omega
      obtain ⟨fn, tmps, assign, body, hy, hR⟩ := YieldAt.any (n0 - 1) (hY ys ⟨j, by omega⟩ wr hJr hlen)
      simp only [hfv] at hy
      have e1 : ((j + 1 : Nat) : Int) - 1 = (j : Int) := by omega
      rw [e1]
      have hyj : Hid ((ys ++ [(⟨j, by omega⟩ : Ix L)]).map (·.1) ++ revIx j = revIx L.length) := by
        unfold Hid
        rw [← hys.out, revIx_succ]; simp
      clear hfv e1
      gi_wp2_with fail
      refine ⟨hdd _, ?_⟩
      refine hR.mono ?_
      clear hR
      rintro e W1 (⟨rfl, hJ1, hK1⟩ | ⟨rfl, hJx⟩)
      · gi_wp2_with fail
        refine ⟨⟨j, _, by omega, by go_num, hyj, hJ1, hKt hKr hK1⟩, by simp [intOf]⟩
      · gi_wp2_with fail
        refine bodyPost_ret (results_none rfl _ _ _) rfl ?_
        exact ⟨⟨_, rfl⟩, .inr ⟨_, trivial, hJx⟩⟩
    · obtain rfl : k = 0 := by omega
      clear hat
      have hye : Hid (ys.map (·.1) = revIx L.length) := by
        have := hys.out
        unfold Hid
        simpa [revIx] using this
      gi_wp2_with fail
      go_end0
      exact ⟨⟨_, rfl⟩, .inl ⟨ys, hye.out, hJr⟩⟩
end Go.Proofs.YtnfclcfcpgfajaaGreatDoor
