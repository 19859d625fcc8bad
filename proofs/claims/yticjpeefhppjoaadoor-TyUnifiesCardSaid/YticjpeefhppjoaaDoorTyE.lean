/- The holes of a type, handed to a loop's round one by one. -/
import Derived.Test.YticjpeefhppjoaaDoorTyM
import Derived.RangeFuncNested
import Derived.RangeFuncBound
import Derived.RangeFuncCalls
import Derived.RangeFuncLeaves
import Derived.Shelf.Abstract
import Derived.Shelf.RegionOpen
import Derived.OwnWalkIn
import Derived.TacticsInMore
import Derived.LoopNIn
import Derived.LoopIn
namespace Go.Proofs.YticjpeefhppjoaaDoor
open Go.RowKit Go.Shelf
attribute [local go_sem] Oper.semAt_some

theorem grown_of_below {W W' : World} (h : Below W.heap.size W W') : W.grownBy W' none := ⟨h.os, h.tape, h.output, h.size, fun k hk _ => h.block k hk⟩
theorem abides_below {β : Type} {B : Nat} {J : β → World → Prop} (hJ : AbidesFrom B J) {s : β} {W W' : World} (h : J s W) (hb : Below W.heap.size W W') : J s W' :=
  hJ s W W' none h (grown_of_below hb) (fun r e => by cases e)
theorem room_none {F : Fence} (hd : F.depth = none) (k : Nat) : F.room k := fun d h => by rw [hd] at h; cases h
theorem RoundIn.any {m m' : Nat} {P : Program} {l : Nat} {f : FuncId} {tmps : Array Value} {assign body : Code} {w : World} {R : Ending → World → Prop}
    (h : RoundIn Fence.wide m P l f tmps assign body w R) : RoundIn Fence.wide m' P l f tmps assign body w R := ⟨h.1, fun c cs _ => h.2 c cs (room_none rfl _)⟩
theorem YieldAt.any {m : Nat} (m' : Nat) {P : Program} {l : Nat} {args : Array Value} {W : World} {R : Ending → World → Prop} (h : YieldAt Fence.wide m P l args W R) : YieldAt Fence.wide m' P l args W R := by
  obtain ⟨fn, tmps, assign, body, hy, hR⟩ := h
  exact ⟨fn, tmps, assign, body, hy, RoundIn.any hR⟩
theorem KeepsBut.keeps {X : Nat → Prop} {w W : World} (h : KeepsBut X w W) (hX : ∀ b, X b → w.heap.size ≤ b) : Keeps w W := fun a v hv => h.2 a v (fun hx => by have := hX _ hx; have := cell_block hv; omega) hv

abbrev N64 := { n : Int // In64 n }
/-- A type's holes, as often as they stand there. -/
def allT : Ty → List Int
  | .mk s n args => if holeS s = true then [n] else allL args
where allL : List Ty → List Int
  | [] => []
  | e :: r => allT e ++ allL r
theorem allL_append (a b : List Ty) : allT.allL (a ++ b) = allT.allL a ++ allT.allL b := by
  induction a with
  | nil => rfl
  | cons e r ih => simp only [List.cons_append, allT.allL, ih, List.append_assoc]
theorem allL_succ (args : List Ty) (k : Nat) (h : k < args.length) : allT.allL (args.take (k + 1)) = allT.allL (args.take k) ++ allT args[k] := by
  rw [List.take_succ_eq_append_getElem h, allL_append]; simp [allT.allL]
theorem allL_prefix (args : List Ty) (k : Nat) : allT.allL (args.take k) <+: allT.allL args := by
  have h : allT.allL args = allT.allL (args.take k) ++ allT.allL (args.drop k) := by rw [← allL_append, List.take_append_drop]
  exact ⟨_, h.symm⟩

set_option maxRecDepth 100000 in
set_option maxHeartbeats 2000000 in
theorem ty_each (w₀ : World) (l N : Nat) (X : Nat → Prop) (J Jx : List N64 → World → Prop) (B : Nat) (hJ : AbidesFrom B J)
    (hY : ∀ m pre (x : N64) W, J pre W → pre.length < N → YieldAt Fence.wide m Tryd.prog l #[.int .i64 x.1] W fun e W' =>
      (e = .returned (.bool true) ∧ J (pre ++ [x]) W' ∧ KeepsBut X W W') ∨ (e = .returned (.bool false) ∧ Jx (pre ++ [x]) W')) :
    ∀ (e : Ty) (v : Value) (n : Nat) (pre : List N64) (W : World), IsTy w₀ v e → (∀ b, X b → w₀.heap.size ≤ b) → KeepsBut X w₀ W → J pre W → pre.length + (allT e).length ≤ N →
      CallsIn Fence.wide n Tryd.prog 51 #[v, .func (.yield l) #[] #[]] W fun r W' =>
        (r = .returned (.bool true) ∧ ∃ ys : List N64, ys.map (·.1) = allT e ∧ J (pre ++ ys) W' ∧ KeepsBut X W W') ∨
        (r = .returned (.bool false) ∧ ∃ ys : List N64, ys.map (·.1) <+: allT e ∧ Jx (pre ++ ys) W') := by
  have hdd : ∀ k : Nat, (Fence.wide.depth.isSome = true → 1 ≤ k) := fun k h => by cases h
  refine Ty.ind fun s nm args ih v n pre W hv hX hk hJ0 hN => ?_
  obtain ⟨a1, c1, rfl, _, hn64, hs, hls, hr⟩ := hv.open
  unfold lenMax at hls
  refine callsIn_of_wp Tryd.func51 rfl trivial ?_ rfl
  simp only [Tryd.ntmps51, List.size_toArray, List.length_cons, List.length_nil, Nat.reduceAdd, Nat.reduceSub, Array.replicate_succ, Array.replicate_zero, List.push_toArray, List.append_toArray, List.nil_append, List.cons_append]
  have hB0 : Below (W.heap.size + 1) (W.alloc (.cells #[.string s, .int .i64 nm, .slice a1 args.length c1] 24)) (W.alloc (.cells #[.string s, .int .i64 nm, .slice a1 args.length c1] 24)) := Below.refl _ _
  obtain ⟨k0, k1, k2⟩ := box3 hB0
  have hole := Lib.hid (ty_hole s nm a1 args.length c1 (W.alloc (.cells #[.string s, .int .i64 nm, .slice a1 args.length c1] 24)))
  cases hq : holeS s
  case true =>
    have hall : Hid (allT (.mk s nm args) = [nm]) := by unfold Hid; rw [allT, if_pos hq]
    rw [hall.out] at hN
    rw [hq] at hole
    clear hq
    gi_wp2_with fail
    refine ⟨trivial, hdd _, callsIn_wide.2 (hole.out.mono ?_)⟩
    rintro e V ⟨rfl, hBV⟩
    have hC := hB0.trans (hBV.mono (by simp))
    have hWV := below_box hC
    clear k0 k1 k2
    obtain ⟨k0, k1, k2⟩ := box3 hC
    obtain ⟨fn, tmps, assign, body, hy, hR⟩ := hY (n - 1) pre ⟨nm, hn64⟩ V (abides_below hJ hJ0 hWV) (by simp at hN; omega)
    gi_wp2_with fail
    refine ⟨hdd _, ?_⟩
    refine hR.mono ?_
    clear hR
    rintro e W1 (⟨rfl, hJ1, hK1⟩ | ⟨rfl, hJx⟩)
    · gi_wp2_with fail
      go_ret
      exact .inl ⟨rfl, [⟨nm, hn64⟩], by rw [hall.out]; rfl, hJ1, (KeepsBut.of_below hWV).trans hK1⟩
    · gi_wp2_with fail
      go_ret
      exact .inr ⟨rfl, [⟨nm, hn64⟩], by rw [hall.out]; exact List.prefix_refl _, hJx⟩
  case false =>
    have hall : Hid (allT (.mk s nm args) = allT.allL args) := by unfold Hid; rw [allT, if_neg (by rw [hq]; simp)]
    rw [hall.out] at hN
    have hN' := Lib.hid hN
    rw [hq] at hole
    clear hq hN
    gi_wp2_with fail
    refine ⟨trivial, hdd _, callsIn_wide.2 (hole.out.mono ?_)⟩
    rintro e V ⟨rfl, hBV⟩
    have hC := hB0.trans (hBV.mono (by simp))
    have hWV := below_box hC
    clear k0 k1 k2
    obtain ⟨k0, k1, k2⟩ := box3 hC
    have hkV : KeepsBut X w₀ V := hk.trans (KeepsBut.of_below hWV)
    gi_wp2_with fail
    gi_loopw [16] (fun i wr => ∃ (k : Nat) (ys : List N64), k ≤ args.length ∧ i = .int .i64 k ∧ Hid (ys.map (·.1) = allT.allL (args.take k)) ∧ J (pre ++ ys) wr ∧ KeepsBut X V wr) (fun i _ => args.length - (intOf i).toNat)
    case atStart => exact ⟨0, [], by omega, rfl, rfl, by simpa using abides_below hJ hJ0 hWV, KeepsBut.refl _ _⟩
    case round =>
      clear k0 k1 k2
      obtain ⟨k, ys, hkl, rfl, hys, hJr, hKr⟩ := hrel
      by_cases h1 : k < args.length
      · have hK0 : Keeps w₀ wr := (hkV.trans hKr).keeps fun b hb => hX b hb
        obtain ⟨b, off, rfl, hkid⟩ := hr.arg (by rintro rfl; simp at h1)
        obtain ⟨a2, c2, g0, g1, g2, ge⟩ := hkid k h1
        clear hkid
        replace g0 := hK0 _ _ g0
        replace g1 := hK0 _ _ g1
        replace g2 := hK0 _ _ g2
        have hBr : Below wr.heap.size wr (wr.alloc (.cells #[.string args[k].name, .int .i64 args[k].n, .slice a2 args[k].args.length c2] 24)) := (Below.refl _ _).alloc (Nat.le_refl _) _
        have hlen : pre.length + (ys.length + (allT args[k]).length) ≤ N := by
          have h4 := congrArg List.length hys.out
          rw [List.length_map] at h4
          have h3 := (allL_prefix args (k + 1)).length_le
          rw [allL_succ _ _ h1, List.length_append] at h3
          have := hN'.out
          omega
        have step := Lib.hid (ih _ (List.getElem_mem h1) _ (n - 1) (pre ++ ys) _ ge hX ((hkV.trans hKr).trans (KeepsBut.of_below hBr)) (abides_below hJ hJr hBr) (by simp only [List.length_append]; omega))
        have hsucc := Lib.hid (allL_succ args k h1)
        clear hlen ge
        gi_wp2_with fail
        refine ⟨trivial, hdd _, ?_⟩
        refine step.out.mono ?_
        clear step
        rintro e W2 (⟨rfl, zs, hz, hJ2, hK2⟩ | ⟨rfl, zs, hz, hJx⟩)
        · gi_wp2_with fail
          refine ⟨⟨k + 1, ys ++ zs, by omega, by go_num, by unfold Hid; rw [hsucc.out, List.map_append, hys.out, hz], by rw [← List.append_assoc]; exact hJ2, (hKr.trans (KeepsBut.of_below hBr)).trans hK2⟩, by simp [intOf]; omega⟩
        · gi_wp2_with fail
          go_ret
          refine .inr ⟨rfl, ys ++ zs, ?_, by rw [← List.append_assoc]; exact hJx⟩
          rw [hall.out]
          obtain ⟨q, hq⟩ := hz
          obtain ⟨q2, hq2⟩ := allL_prefix args (k + 1)
          rw [hsucc.out] at hq2
          exact ⟨q ++ q2, by rw [← hq2, ← hq, List.map_append, hys.out]; simp⟩
      · have e : k = args.length := by omega
        have hye : Hid (ys.map (·.1) = allT (.mk s nm args)) := by
          unfold Hid
          rw [hall.out, hys.out, e, List.take_length]
        clear e
        gi_wp2_with fail
        go_ret
        exact .inl ⟨rfl, ys, hye.out, hJr, (KeepsBut.of_below hWV).trans hKr⟩

set_option maxHeartbeats 400000 in
theorem ty_all (v0 v1 v2 : Value) (w : World) : Calls Tryd.prog 32 #[.agg #[v0, v1, v2]] w fun r w' => r = .returned (.func (.func 50) #[] #[.pointer (some ⟨w.heap.size, 0, none⟩)]) ∧ w' = w.alloc (.cells #[v0, v1, v2] 24) := by
  have hmf : ∀ (fn : Fn) (first cap : Array Value) (w : World), (Instr.makeFunc fn first cap).run Tryd.prog w = .ok (.func fn first cap) w := fun _ _ _ _ => rfl
  go_enter Tryd.func32, Tryd.ntmps32
  go_wp2_with fail
  go_ret
  exact ⟨rfl, rfl⟩

set_option maxHeartbeats 1000000 in
/-- The closure that 'all' hands back gives a type's holes, in their order. -/
theorem all_stops (w₀ : World) (n : Nat) (X : Nat → Prop) (v : Value) (e : Ty) (hv : IsTy w₀ v e) (w : World) (Bt : Nat) (hX : ∀ b, X b → w₀.heap.size ≤ b) (hk : ∀ W, Below w.heap.size w W → KeepsBut X w₀ W)
    (hB : ∀ W, Below w.heap.size w W → ∃ v0 v1 v2, v = .agg #[v0, v1, v2] ∧ W.cell? ⟨Bt, 0, none⟩ = some v0 ∧ W.cell? ⟨Bt, 1, none⟩ = some v1 ∧ W.cell? ⟨Bt, 2, none⟩ = some v2) :
    SeqStopsK Fence.wide n Tryd.prog 50 #[.pointer (some ⟨Bt, 0, none⟩)] (fun x : N64 => #[.int .i64 x.1]) (KeepsBut X) (fun ys => ys.map (·.1) = allT e) (fun ys => ys.map (·.1) <+: allT e) (allT e).length w := by
  intro l J Jx W hW hJ hJx hY h0
  have hdd : ∀ k : Nat, (Fence.wide.depth.isSome = true → 1 ≤ k) := fun k h => by cases h
  obtain ⟨v0, v1, v2, rfl, c0, c1, c2⟩ := hB W hW
  have hall := Lib.hid (ty_each w₀ l (allT e).length X J Jx W.heap.size hJ (fun m pre x W hj hl => YieldAt.any m (hY pre x W hj hl)) e _ (n - 1) [] W hv hX (hk W hW) h0 (by simp))
  refine callsIn_of_wp Tryd.func50 rfl trivial ?_ rfl
  simp only [Tryd.ntmps50, List.size_toArray, List.length_cons, List.length_nil, Nat.reduceAdd, Nat.reduceSub, Array.replicate_succ, Array.replicate_zero, List.push_toArray, List.append_toArray, List.nil_append, List.cons_append]
  clear hB hk hY hX
  gi_wp2_with fail
  refine ⟨trivial, hdd _, ?_⟩
  refine hall.out.mono ?_
  rintro e W1 (⟨rfl, ys, hys, hJ1, _⟩ | ⟨rfl, ys, hys, hJ1⟩)
  · gi_wp2_with fail
    go_end0
    exact ⟨⟨_, rfl⟩, .inl ⟨_, hys, by simpa using hJ1⟩⟩
  · gi_wp2_with fail
    go_end0
    exact ⟨⟨_, rfl⟩, .inr ⟨_, hys, by simpa using hJ1⟩⟩
end Go.Proofs.YticjpeefhppjoaaDoor
