/- A part of the proof that parser laws hold: texts of the walk and of its plain laws, made small. -/
import Derived.Test.YtnfclcfcpgfajaaGreatDoorM00
import Derived.Test.YtnfclcfcpgfajaaGreatDoorProg
set_option linter.unusedVariables false
set_option linter.unusedSimpArgs false
/- Types by the reference: how many parts, how deep, short names, may one be, is it the same. -/
namespace Go.Proofs.YtnfclcfcpgfajaaGreatDoor
open Go.RowKit

def tcnt : Ty → Nat
  | .mk _ _ l => 1 + cntL l
where cntL : List Ty → Nat
  | [] => 0
  | e :: r => tcnt e + cntL r
theorem tcntL_append (a b : List Ty) : tcnt.cntL (a ++ b) = tcnt.cntL a + tcnt.cntL b := by
  induction a with
  | nil => simp [tcnt.cntL]
  | cons e r ih => simp only [List.cons_append, tcnt.cntL, ih]; omega
theorem tcntL_take_succ (l : List Ty) (k : Nat) (h : k < l.length) : tcnt.cntL (l.take (k + 1)) = tcnt.cntL (l.take k) + tcnt l[k] := by
  rw [List.take_succ_eq_append_getElem h, tcntL_append]; simp [tcnt.cntL]
theorem tcntL_take_le (l : List Ty) (k : Nat) : tcnt.cntL (l.take k) ≤ tcnt.cntL l := by
  have h : tcnt.cntL l = tcnt.cntL (l.take k ++ l.drop k) := by rw [List.take_append_drop]
  rw [h, tcntL_append]; omega
theorem tcntL_mem {l : List Ty} {e : Ty} (h : e ∈ l) : tcnt e ≤ tcnt.cntL l := by
  induction l with
  | nil => simp at h
  | cons x r ih =>
    simp only [tcnt.cntL]
    rcases List.mem_cons.1 h with rfl | h
    · omega
    · have := ih h; omega
theorem tcnt_pos (e : Ty) : 1 ≤ tcnt e := by cases e; simp only [tcnt]; omega

theorem tcntL_len (l : List Ty) : l.length ≤ tcnt.cntL l := by
  induction l with
  | nil => simp
  | cons x r ih => have := tcnt_pos x; simp only [tcnt.cntL, List.length_cons]; omega

set_option maxHeartbeats 400000 in
theorem r08_parts : ∀ (e : Ty) (v : Value) (most : Int) (w : World), IsTy w v e → 0 ≤ most → most ≤ 1000000 →
    Calls Tryz.prog 46 #[v, .int .i64 most] w fun r w' => r = .returned (.int .i64 (min (tcnt e : Int) (most + 1))) ∧ Below w.heap.size w w' := by
  refine Ty.ind fun s n l ih v most w hv h0 hmm => ?_
  obtain ⟨a1, c1, rfl, _, _, hs, hl, hr⟩ := hv.open
  unfold lenMax at hl
  go_enter Tryz.func46, Tryz.ntmps46
  go_wp2_with fail
  go_loopw [5, 6] (fun c i wr => ∃ (k : Nat) (m : Int), k ≤ l.length ∧ i = .int .i64 k ∧ c = .int .i64 m ∧ 1 ≤ m ∧ m ≤ most + 1 ∧ Hid (m = min (1 + tcnt.cntL (l.take k) : Int) (most + 1)) ∧ Below (w.heap.size+1) (w.alloc (.cells #[.string s, .int .i64 n, .slice a1 l.length c1] 25)) wr) (fun _ i _ => l.length - (intOf i).toNat)
  case atStart => exact ⟨0, 1, by omega, rfl, rfl, by omega, by omega, by unfold Hid; simp [tcnt.cntL]; omega, Below.refl _ _⟩
  case round =>
    obtain ⟨k, m, hk, rfl, rfl, hm1, hm2, hm, hB⟩ := hrel
    obtain ⟨b0, b1, b2⟩ := box3 hB
    have hz := size_box hB
    by_cases h1 : k < l.length
    · by_cases h2 : m ≤ most
      · obtain ⟨b, off, rfl, hkid⟩ := (hr.keeps (keeps_box hB)).arg (by rintro rfl; simp at h1)
        obtain ⟨a1, c1, g0, g1, g2, ge⟩ := hkid k h1
        go_wp2_with fail
        refine (ih _ (List.getElem_mem h1) _ _ _ ge (by omega) (by omega)).mono ?_
        rintro e w1 ⟨rfl, hB1⟩
        go_wp2_with fail
        go_roundw
        case rel => exact ⟨k + 1, _, by omega, by go_num, rfl, by omega, by omega, by have := hm.out; unfold Hid; rw [tcntL_take_succ _ _ h1]; omega, hB.trans (hB1.mono hz)⟩
        case measure => simp [intOf]; omega
      · have e : m = most + 1 := by omega
        have e' := Lib.hid e
        clear e
        go_wp2_with fail
        go_ret
        have := hm.out
        refine ⟨ret_int ?_, below_box hB⟩
        have h3 := tcntL_take_le l k
        have := e'.out
        simp only [tcnt]; omega
    · have e : k = l.length := by omega
      have e' := Lib.hid e
      clear e
      go_wp2_with fail
      go_ret
      have := hm.out
      rw [e'.out, List.take_length] at this
      refine ⟨ret_int ?_, below_box hB⟩
      simp only [tcnt]; omega

/-- Whether all of a list are so, and each part of these, is asked one by one. -/
theorem all_take {α : Type} {p : α → Bool} {l : List α} (h : ∀ j (hj : j < l.length), p l[j] = true) : l.all p = true := by
  rw [List.all_eq_true]
  intro x hx
  obtain ⟨j, hj, rfl⟩ := List.getElem_of_mem hx
  exact h j hj
theorem all_not {α : Type} {p : α → Bool} {l : List α} {k : Nat} (hk : k < l.length) (h : p l[k] = false) : l.all p = false := by
  rw [List.all_eq_false]
  exact ⟨_, List.getElem_mem hk, by rw [h]; simp⟩

def deepB : Ty → Int → Bool
  | .mk _ _ l, most => decide (0 < most) && deepL l (most - 1)
where deepL : List Ty → Int → Bool
  | [], _ => true
  | e :: r, most => deepB e most && deepL r most
theorem deepL_all (l : List Ty) (most : Int) : deepB.deepL l most = l.all fun e => deepB e most := by
  induction l with
  | nil => rfl
  | cons e r ih => simp only [deepB.deepL, List.all_cons, ih]
def shortT : Ty → Bool
  | .mk s _ l => decide (s.size ≤ 50) && shortL l
where shortL : List Ty → Bool
  | [] => true
  | e :: r => shortT e && shortL r
theorem shortT_all (l : List Ty) : shortT.shortL l = l.all shortT := by
  induction l with
  | nil => rfl
  | cons e r ih => simp only [shortT.shortL, List.all_cons, ih]
/-- A hole that may be, or what has a name. -/
def headT (s : Str) (n : Int) (m : Nat) : Bool := decide (s.size ≤ 20) && (if s.size = 0 then decide (0 ≤ n) && decide (m = 0) else decide (n = 0))
def sndT : Ty → Int → Bool
  | .mk s n l, most => decide (0 < most) && headT s n l.length && sndL l (most - 1)
where sndL : List Ty → Int → Bool
  | [], _ => true
  | e :: r, most => sndT e most && sndL r most
theorem sndT_all (l : List Ty) (most : Int) : sndT.sndL l most = l.all fun e => sndT e most := by
  induction l with
  | nil => rfl
  | cons e r ih => simp only [sndT.sndL, List.all_cons, ih]
def chkT (e : Ty) : Bool := decide (tcnt e ≤ 2000) && sndT e 60
def fewT (e : Ty) : Bool := decide (tcnt e ≤ 300) && deepB e 70 && shortT e

set_option maxHeartbeats 400000 in
theorem r08_deep : ∀ (e : Ty) (v : Value) (most : Int) (w : World), IsTy w v e → -1000 ≤ most → most ≤ 1000 →
    Calls Tryz.prog 47 #[v, .int .i64 most] w fun r w' => r = .returned (.bool (deepB e most)) ∧ Below w.heap.size w w' := by
  refine Ty.ind fun s n l ih v most w hv h0 h9 => ?_
  obtain ⟨a1, c1, rfl, _, _, hs, hl, hr⟩ := hv.open
  unfold lenMax at hs hl
  have hB0 : Below (w.heap.size + 1) (w.alloc (.cells #[.string s, .int .i64 n, .slice a1 l.length c1] 25)) (w.alloc (.cells #[.string s, .int .i64 n, .slice a1 l.length c1] 25)) := Below.refl _ _
  by_cases hm : most ≤ 0
  · go_enter Tryz.func47, Tryz.ntmps47
    go_wp2_with fail
    go_ret
    exact ⟨ret_bool (by rw [deepB, decide_eq_false (by omega)]; rfl), below_box hB0⟩
  go_enter Tryz.func47, Tryz.ntmps47
  go_wp2_with fail
  go_loopw [5] (fun i wr => ∃ k : Nat, k ≤ l.length ∧ i = .int .i64 k ∧ Hid (∀ j (hj : j < k) (hl : j < l.length), deepB l[j] (most - 1) = true) ∧ Below (w.heap.size+1) (w.alloc (.cells #[.string s, .int .i64 n, .slice a1 l.length c1] 25)) wr) (fun i _ => l.length - (intOf i).toNat)
  case atStart => exact ⟨0, by omega, rfl, fun j hj => by omega, Below.refl _ _⟩
  case round =>
    obtain ⟨k, hk, rfl, hall, hB⟩ := hrel
    obtain ⟨q0, q1, q2⟩ := box3 hB
    have hz := size_box hB
    by_cases h1 : k < l.length
    · obtain ⟨b, off, rfl, harg⟩ := (hr.keeps (keeps_box hB)).arg (by rintro rfl; simp at h1)
      obtain ⟨a2, c2, g0, g1, g2, ge⟩ := harg k h1
      have hcall := Lib.hid (ih _ (List.getElem_mem h1) _ (most - 1) wr ge (by omega) (by omega))
      clear ge harg
      cases h3 : deepB l[k] (most - 1)
      · rw [h3] at hcall
        have h3' := Lib.hid h3
        clear h3
        go_wp2_with fail
        refine hcall.out.mono ?_
        rintro e w1 ⟨rfl, hB1⟩
        go_wp2_with fail
        go_ret
        exact ⟨ret_bool (by rw [deepB, deepL_all, all_not h1 h3'.out, Bool.and_false]), below_box (hB.trans (hB1.mono hz))⟩
      · rw [h3] at hcall
        have h3' := Lib.hid h3
        clear h3
        go_wp2_with fail
        refine hcall.out.mono ?_
        rintro e w1 ⟨rfl, hB1⟩
        have hB1' := hB.trans (hB1.mono hz)
        clear hB1
        go_wp2_with fail
        go_roundw
        case rel => exact ⟨k + 1, by omega, by go_num, fun j hj hl => by
          rcases Nat.lt_or_ge j k with h | h
          · exact hall.out j h hl
          · obtain rfl : j = k := by omega
            exact h3'.out, hB1'⟩
        case measure => simp [intOf]; omega
    · go_wp2_with fail
      go_ret
      exact ⟨ret_bool (by rw [deepB, deepL_all, all_take (fun j hj => hall.out j (by omega) hj), decide_eq_true (by omega)]; rfl), below_box hB⟩

set_option maxHeartbeats 400000 in
theorem r08_short : ∀ (e : Ty) (v : Value) (w : World), IsTy w v e →
    Calls Tryz.prog 48 #[v] w fun r w' => r = .returned (.bool (shortT e)) ∧ Below w.heap.size w w' := by
  refine Ty.ind fun s n l ih v w hv => ?_
  obtain ⟨a1, c1, rfl, _, _, hs, hl, hr⟩ := hv.open
  unfold lenMax at hs hl
  have hB0 : Below (w.heap.size + 1) (w.alloc (.cells #[.string s, .int .i64 n, .slice a1 l.length c1] 25)) (w.alloc (.cells #[.string s, .int .i64 n, .slice a1 l.length c1] 25)) := Below.refl _ _
  by_cases hm : 50 < s.size
  · go_enter Tryz.func48, Tryz.ntmps48
    go_wp2_with fail
    go_ret
    exact ⟨ret_bool (by rw [shortT, decide_eq_false (by omega)]; rfl), below_box hB0⟩
  go_enter Tryz.func48, Tryz.ntmps48
  go_wp2_with fail
  go_loopw [3] (fun i wr => ∃ k : Nat, k ≤ l.length ∧ i = .int .i64 k ∧ Hid (∀ j (hj : j < k) (hl : j < l.length), shortT l[j] = true) ∧ Below (w.heap.size+1) (w.alloc (.cells #[.string s, .int .i64 n, .slice a1 l.length c1] 25)) wr) (fun i _ => l.length - (intOf i).toNat)
  case atStart => exact ⟨0, by omega, rfl, fun j hj => by omega, Below.refl _ _⟩
  case round =>
    obtain ⟨k, hk, rfl, hall, hB⟩ := hrel
    obtain ⟨q0, q1, q2⟩ := box3 hB
    have hz := size_box hB
    by_cases h1 : k < l.length
    · obtain ⟨b, off, rfl, harg⟩ := (hr.keeps (keeps_box hB)).arg (by rintro rfl; simp at h1)
      obtain ⟨a2, c2, g0, g1, g2, ge⟩ := harg k h1
      have hcall := Lib.hid (ih _ (List.getElem_mem h1) _ wr ge)
      clear ge harg
      cases h3 : shortT l[k]
      · rw [h3] at hcall
        have h3' := Lib.hid h3
        clear h3
        go_wp2_with fail
        refine hcall.out.mono ?_
        rintro e w1 ⟨rfl, hB1⟩
        go_wp2_with fail
        go_ret
        exact ⟨ret_bool (by rw [shortT, shortT_all, all_not h1 h3'.out, Bool.and_false]), below_box (hB.trans (hB1.mono hz))⟩
      · rw [h3] at hcall
        have h3' := Lib.hid h3
        clear h3
        go_wp2_with fail
        refine hcall.out.mono ?_
        rintro e w1 ⟨rfl, hB1⟩
        have hB1' := hB.trans (hB1.mono hz)
        clear hB1
        go_wp2_with fail
        go_roundw
        case rel => exact ⟨k + 1, by omega, by go_num, fun j hj hl => by
          rcases Nat.lt_or_ge j k with h | h
          · exact hall.out j h hl
          · obtain rfl : j = k := by omega
            exact h3'.out, hB1'⟩
        case measure => simp [intOf]; omega
    · go_wp2_with fail
      go_ret
      exact ⟨ret_bool (by rw [shortT, shortT_all, all_take (fun j hj => hall.out j (by omega) hj), decide_eq_true (by omega)]; rfl), below_box hB⟩
end Go.Proofs.YtnfclcfcpgfajaaGreatDoor
