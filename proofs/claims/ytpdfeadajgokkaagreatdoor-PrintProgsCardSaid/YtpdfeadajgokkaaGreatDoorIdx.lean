/- The library's IndexFunc and ContainsFunc, for whatever predicate that changes nothing of what there was. -/
import Derived.Test.YtpdfeadajgokkaaGreatDoorTypes
import Derived.Test.YtpdfeadajgokkaaGreatDoorProg
namespace Go.Proofs.YtpdfeadajgokkaaGreatDoor
open Go.RowKit

def idxI {α : Type} (p : α → Bool) : List α → Int
  | [] => -1
  | e :: r => if p e then 0 else if idxI p r < 0 then -1 else idxI p r + 1
theorem idxI_ge {α : Type} (p : α → Bool) : ∀ l, -1 ≤ idxI p l
  | [] => by simp [idxI]
  | e :: r => by have := idxI_ge p r; unfold idxI; split <;> (try split) <;> omega
theorem idxI_any {α : Type} (p : α → Bool) : ∀ l, decide (0 ≤ idxI p l) = l.any p
  | [] => by simp [idxI]
  | e :: r => by
    have ih := idxI_any p r
    have hg := idxI_ge p r
    rw [List.any_cons, ← ih, idxI]
    cases h : p e
    · simp only [Bool.false_eq_true, if_false, Bool.false_or]
      split
      · rw [decide_eq_false (by omega), decide_eq_false (by omega)]
      · rw [decide_eq_true (by omega), decide_eq_true (by omega)]
    · simp
theorem idxI_at {α : Type} {p : α → Bool} : ∀ {l : List α} {k : Nat} (hk : k < l.length) (_ : ∀ j (hj : j < k), p (l[j]'(by omega)) = false) (_ : p l[k] = true), idxI p l = k
  | e :: r, 0, _, _, h => by simp at h; simp [idxI, h]
  | e :: r, k + 1, hk, hn, h => by
    have h0 := hn 0 (by omega)
    simp at h0
    have := idxI_at (l := r) (k := k) (by simpa using hk) (fun j hj => by simpa using hn (j + 1) (by omega)) (by simpa using h)
    rw [idxI, h0, this]; simp; omega
theorem idxI_none {α : Type} {p : α → Bool} : ∀ {l : List α} (_ : ∀ j (hj : j < l.length), p l[j] = false), idxI p l = -1
  | [], _ => rfl
  | e :: r, h => by
    have h0 := h 0 (by simp)
    simp at h0
    have := idxI_none (l := r) (fun j hj => by have := h (j + 1) (by simpa using hj); simpa using this)
    rw [idxI, h0, this]; simp

set_option maxHeartbeats 800000 in
theorem index_Sig (a : Option Addr) (l : List Sg) (cap g : Nat) (lb : Array Value) (p : Sg → Bool) (w : World) (hl : l.length ≤ lenMax) (hr : SgRow w a l)
    (hp : ∀ e ∈ l, ∀ v W, Below w.heap.size w W → IsSg W v e → Calls Tryz.prog g (#[v] ++ lb) W fun r W' => r = .returned (.bool (p e)) ∧ Below W.heap.size W W')
    (henter : ∀ args w, (callFunc g args).run Tryz.prog w = .ok (.enter g args) w) :
    Calls Tryz.prog 103 #[.slice a l.length cap, .func (.func g) #[] lb] w fun r w' => r = .returned (.int .i64 (idxI p l)) ∧ Below w.heap.size w w' := by
  unfold lenMax at hl
  have hp' := Lib.hid hp
  clear hp
  go_enter Tryz.func103, Tryz.ntmps103
  go_wp2_with fail
  go_loopw [8] (fun i wr => ∃ k : Nat, k ≤ l.length ∧ i = .int .i64 k ∧ Hid (∀ j (hj : j < k) (hl : j < l.length), p l[j] = false) ∧ Below w.heap.size w wr) (fun i _ => l.length - (intOf i).toNat)
  case atStart => exact ⟨0, by omega, rfl, fun j hj => by omega, Below.refl _ _⟩
  case round =>
    obtain ⟨k, hk, rfl, hall, hB⟩ := hrel
    by_cases h1 : k < l.length
    · obtain ⟨b, off, rfl, harg⟩ := (hr.keeps (Keeps.of_below hB)).arg (by rintro rfl; simp at h1)
      obtain ⟨a2, c2, g0, g1, ge⟩ := harg k h1
      have hcall := Lib.hid (hp'.out _ (List.getElem_mem h1) _ _ hB ge)
      clear harg ge
      cases h3 : p l[k]
      · rw [h3] at hcall
        have h3' := Lib.hid h3
        clear h3
        go_wp2_with fail
        refine hcall.out.mono ?_
        rintro e w1 ⟨rfl, hB1⟩
        have hB1' := hB.trans (hB1.mono hB.size)
        clear hB1
        go_wp2_with fail
        go_roundw
        case rel => exact ⟨k + 1, by omega, by go_num, fun j hj hl => by
          rcases Nat.lt_or_ge j k with h | h
          · exact hall.out j h hl
          · obtain rfl : j = k := by omega
            exact h3'.out, hB1'⟩
        case measure => simp [intOf]; omega
      · rw [h3] at hcall
        have h3' := Lib.hid h3
        clear h3
        go_wp2_with fail
        refine hcall.out.mono ?_
        rintro e w1 ⟨rfl, hB1⟩
        have hB1' := hB.trans (hB1.mono hB.size)
        clear hB1
        go_wp2_with fail
        go_ret
        exact ⟨ret_int (idxI_at h1 (fun j hj => hall.out j hj (by omega)) h3'.out).symm, hB1'⟩
    · go_wp2_with fail
      go_ret
      exact ⟨ret_int (idxI_none fun j hj => hall.out j (by omega) hj).symm, hB⟩

theorem contains_Sig (a : Option Addr) (l : List Sg) (cap g : Nat) (lb : Array Value) (p : Sg → Bool) (w : World) (hl : l.length ≤ lenMax) (hr : SgRow w a l)
    (hp : ∀ e ∈ l, ∀ v W, Below w.heap.size w W → IsSg W v e → Calls Tryz.prog g (#[v] ++ lb) W fun r W' => r = .returned (.bool (p e)) ∧ Below W.heap.size W W')
    (henter : ∀ args w, (callFunc g args).run Tryz.prog w = .ok (.enter g args) w) :
    Calls Tryz.prog 77 #[.slice a l.length cap, .func (.func g) #[] lb] w fun r w' => r = .returned (.bool (l.any p)) ∧ Below w.heap.size w w' := by
  have h := Lib.hid (index_Sig a l cap g lb p w hl hr hp henter)
  clear hp hr
  go_enter Tryz.func77, Tryz.ntmps77
  go_wp2_with fail
  refine h.out.mono ?_
  rintro e w1 ⟨rfl, hB⟩
  go_wp2_with fail
  go_ret
  exact ⟨ret_bool (idxI_any p l), hB⟩

set_option maxHeartbeats 800000 in
theorem index_Form (a : Option Addr) (l : List Sg) (cap g : Nat) (lb : Array Value) (p : Sg → Bool) (w : World) (hl : l.length ≤ lenMax) (hr : SgRow w a l)
    (hp : ∀ e ∈ l, ∀ v W, Below w.heap.size w W → IsSg W v e → Calls Tryz.prog g (#[v] ++ lb) W fun r W' => r = .returned (.bool (p e)) ∧ Below W.heap.size W W')
    (henter : ∀ args w, (callFunc g args).run Tryz.prog w = .ok (.enter g args) w) :
    Calls Tryz.prog 80 #[.slice a l.length cap, .func (.func g) #[] lb] w fun r w' => r = .returned (.int .i64 (idxI p l)) ∧ Below w.heap.size w w' := by
  unfold lenMax at hl
  have hp' := Lib.hid hp
  clear hp
  go_enter Tryz.func80, Tryz.ntmps80
  go_wp2_with fail
  go_loopw [8] (fun i wr => ∃ k : Nat, k ≤ l.length ∧ i = .int .i64 k ∧ Hid (∀ j (hj : j < k) (hl : j < l.length), p l[j] = false) ∧ Below w.heap.size w wr) (fun i _ => l.length - (intOf i).toNat)
  case atStart => exact ⟨0, by omega, rfl, fun j hj => by omega, Below.refl _ _⟩
  case round =>
    obtain ⟨k, hk, rfl, hall, hB⟩ := hrel
    by_cases h1 : k < l.length
    · obtain ⟨b, off, rfl, harg⟩ := (hr.keeps (Keeps.of_below hB)).arg (by rintro rfl; simp at h1)
      obtain ⟨a2, c2, g0, g1, ge⟩ := harg k h1
      have hcall := Lib.hid (hp'.out _ (List.getElem_mem h1) _ _ hB ge)
      clear harg ge
      cases h3 : p l[k]
      · rw [h3] at hcall
        have h3' := Lib.hid h3
        clear h3
        go_wp2_with fail
        refine hcall.out.mono ?_
        rintro e w1 ⟨rfl, hB1⟩
        have hB1' := hB.trans (hB1.mono hB.size)
        clear hB1
        go_wp2_with fail
        go_roundw
        case rel => exact ⟨k + 1, by omega, by go_num, fun j hj hl => by
          rcases Nat.lt_or_ge j k with h | h
          · exact hall.out j h hl
          · obtain rfl : j = k := by omega
            exact h3'.out, hB1'⟩
        case measure => simp [intOf]; omega
      · rw [h3] at hcall
        have h3' := Lib.hid h3
        clear h3
        go_wp2_with fail
        refine hcall.out.mono ?_
        rintro e w1 ⟨rfl, hB1⟩
        have hB1' := hB.trans (hB1.mono hB.size)
        clear hB1
        go_wp2_with fail
        go_ret
        exact ⟨ret_int (idxI_at h1 (fun j hj => hall.out j hj (by omega)) h3'.out).symm, hB1'⟩
    · go_wp2_with fail
      go_ret
      exact ⟨ret_int (idxI_none fun j hj => hall.out j (by omega) hj).symm, hB⟩

theorem contains_Form (a : Option Addr) (l : List Sg) (cap g : Nat) (lb : Array Value) (p : Sg → Bool) (w : World) (hl : l.length ≤ lenMax) (hr : SgRow w a l)
    (hp : ∀ e ∈ l, ∀ v W, Below w.heap.size w W → IsSg W v e → Calls Tryz.prog g (#[v] ++ lb) W fun r W' => r = .returned (.bool (p e)) ∧ Below W.heap.size W W')
    (henter : ∀ args w, (callFunc g args).run Tryz.prog w = .ok (.enter g args) w) :
    Calls Tryz.prog 43 #[.slice a l.length cap, .func (.func g) #[] lb] w fun r w' => r = .returned (.bool (l.any p)) ∧ Below w.heap.size w w' := by
  have h := Lib.hid (index_Form a l cap g lb p w hl hr hp henter)
  clear hp hr
  go_enter Tryz.func43, Tryz.ntmps43
  go_wp2_with fail
  refine h.out.mono ?_
  rintro e w1 ⟨rfl, hB⟩
  go_wp2_with fail
  go_ret
  exact ⟨ret_bool (idxI_any p l), hB⟩

set_option maxHeartbeats 800000 in
theorem index_Data (a : Option Addr) (l : List Dt) (cap g : Nat) (lb : Array Value) (p : Dt → Bool) (w : World) (hl : l.length ≤ lenMax) (hr : DtRow w a l)
    (hp : ∀ e ∈ l, ∀ v W, Below w.heap.size w W → IsDt W v e → Calls Tryz.prog g (#[v] ++ lb) W fun r W' => r = .returned (.bool (p e)) ∧ Below W.heap.size W W')
    (henter : ∀ args w, (callFunc g args).run Tryz.prog w = .ok (.enter g args) w) :
    Calls Tryz.prog 83 #[.slice a l.length cap, .func (.func g) #[] lb] w fun r w' => r = .returned (.int .i64 (idxI p l)) ∧ Below w.heap.size w w' := by
  unfold lenMax at hl
  have hp' := Lib.hid hp
  clear hp
  go_enter Tryz.func83, Tryz.ntmps83
  go_wp2_with fail
  go_loopw [8] (fun i wr => ∃ k : Nat, k ≤ l.length ∧ i = .int .i64 k ∧ Hid (∀ j (hj : j < k) (hl : j < l.length), p l[j] = false) ∧ Below w.heap.size w wr) (fun i _ => l.length - (intOf i).toNat)
  case atStart => exact ⟨0, by omega, rfl, fun j hj => by omega, Below.refl _ _⟩
  case round =>
    obtain ⟨k, hk, rfl, hall, hB⟩ := hrel
    by_cases h1 : k < l.length
    · obtain ⟨b, off, rfl, harg⟩ := (hr.keeps (Keeps.of_below hB)).at (by rintro rfl; simp at h1)
      obtain ⟨a1, c1, a2, c2, g0, g1, g2, ge⟩ := harg k h1
      have hcall := Lib.hid (hp'.out _ (List.getElem_mem h1) _ _ hB ge)
      clear harg ge
      cases h3 : p l[k]
      · rw [h3] at hcall
        have h3' := Lib.hid h3
        clear h3
        go_wp2_with fail
        refine hcall.out.mono ?_
        rintro e w1 ⟨rfl, hB1⟩
        have hB1' := hB.trans (hB1.mono hB.size)
        clear hB1
        go_wp2_with fail
        go_roundw
        case rel => exact ⟨k + 1, by omega, by go_num, fun j hj hl => by
          rcases Nat.lt_or_ge j k with h | h
          · exact hall.out j h hl
          · obtain rfl : j = k := by omega
            exact h3'.out, hB1'⟩
        case measure => simp [intOf]; omega
      · rw [h3] at hcall
        have h3' := Lib.hid h3
        clear h3
        go_wp2_with fail
        refine hcall.out.mono ?_
        rintro e w1 ⟨rfl, hB1⟩
        have hB1' := hB.trans (hB1.mono hB.size)
        clear hB1
        go_wp2_with fail
        go_ret
        exact ⟨ret_int (idxI_at h1 (fun j hj => hall.out j hj (by omega)) h3'.out).symm, hB1'⟩
    · go_wp2_with fail
      go_ret
      exact ⟨ret_int (idxI_none fun j hj => hall.out j (by omega) hj).symm, hB⟩

theorem contains_Data (a : Option Addr) (l : List Dt) (cap g : Nat) (lb : Array Value) (p : Dt → Bool) (w : World) (hl : l.length ≤ lenMax) (hr : DtRow w a l)
    (hp : ∀ e ∈ l, ∀ v W, Below w.heap.size w W → IsDt W v e → Calls Tryz.prog g (#[v] ++ lb) W fun r W' => r = .returned (.bool (p e)) ∧ Below W.heap.size W W')
    (henter : ∀ args w, (callFunc g args).run Tryz.prog w = .ok (.enter g args) w) :
    Calls Tryz.prog 46 #[.slice a l.length cap, .func (.func g) #[] lb] w fun r w' => r = .returned (.bool (l.any p)) ∧ Below w.heap.size w w' := by
  have h := Lib.hid (index_Data a l cap g lb p w hl hr hp henter)
  clear hp hr
  go_enter Tryz.func46, Tryz.ntmps46
  go_wp2_with fail
  refine h.out.mono ?_
  rintro e w1 ⟨rfl, hB⟩
  go_wp2_with fail
  go_ret
  exact ⟨ret_bool (idxI_any p l), hB⟩

set_option maxHeartbeats 800000 in
theorem index_Def (a : Option Addr) (l : List Df) (cap g : Nat) (lb : Array Value) (p : Df → Bool) (w : World) (hl : l.length ≤ lenMax) (hr : DfRow w a l)
    (hp : ∀ e ∈ l, ∀ v W, Below w.heap.size w W → IsDf W v e → Calls Tryz.prog g (#[v] ++ lb) W fun r W' => r = .returned (.bool (p e)) ∧ Below W.heap.size W W')
    (henter : ∀ args w, (callFunc g args).run Tryz.prog w = .ok (.enter g args) w) :
    Calls Tryz.prog 84 #[.slice a l.length cap, .func (.func g) #[] lb] w fun r w' => r = .returned (.int .i64 (idxI p l)) ∧ Below w.heap.size w w' := by
  unfold lenMax at hl
  have hp' := Lib.hid hp
  clear hp
  go_enter Tryz.func84, Tryz.ntmps84
  go_wp2_with fail
  go_loopw [8] (fun i wr => ∃ k : Nat, k ≤ l.length ∧ i = .int .i64 k ∧ Hid (∀ j (hj : j < k) (hl : j < l.length), p l[j] = false) ∧ Below w.heap.size w wr) (fun i _ => l.length - (intOf i).toNat)
  case atStart => exact ⟨0, by omega, rfl, fun j hj => by omega, Below.refl _ _⟩
  case round =>
    obtain ⟨k, hk, rfl, hall, hB⟩ := hrel
    by_cases h1 : k < l.length
    · obtain ⟨b, off, rfl, harg⟩ := (hr.keeps (Keeps.of_below hB)).at (by rintro rfl; simp at h1)
      obtain ⟨a1, c1, a2, c2, g0, g1, g2, g3, g4, g5, ge⟩ := harg k h1
      have hcall := Lib.hid (hp'.out _ (List.getElem_mem h1) _ _ hB ge)
      clear harg ge
      cases h3 : p l[k]
      · rw [h3] at hcall
        have h3' := Lib.hid h3
        clear h3
        go_wp2_with fail
        refine hcall.out.mono ?_
        rintro e w1 ⟨rfl, hB1⟩
        have hB1' := hB.trans (hB1.mono hB.size)
        clear hB1
        go_wp2_with fail
        go_roundw
        case rel => exact ⟨k + 1, by omega, by go_num, fun j hj hl => by
          rcases Nat.lt_or_ge j k with h | h
          · exact hall.out j h hl
          · obtain rfl : j = k := by omega
            exact h3'.out, hB1'⟩
        case measure => simp [intOf]; omega
      · rw [h3] at hcall
        have h3' := Lib.hid h3
        clear h3
        go_wp2_with fail
        refine hcall.out.mono ?_
        rintro e w1 ⟨rfl, hB1⟩
        have hB1' := hB.trans (hB1.mono hB.size)
        clear hB1
        go_wp2_with fail
        go_ret
        exact ⟨ret_int (idxI_at h1 (fun j hj => hall.out j hj (by omega)) h3'.out).symm, hB1'⟩
    · go_wp2_with fail
      go_ret
      exact ⟨ret_int (idxI_none fun j hj => hall.out j (by omega) hj).symm, hB⟩

theorem contains_Def (a : Option Addr) (l : List Df) (cap g : Nat) (lb : Array Value) (p : Df → Bool) (w : World) (hl : l.length ≤ lenMax) (hr : DfRow w a l)
    (hp : ∀ e ∈ l, ∀ v W, Below w.heap.size w W → IsDf W v e → Calls Tryz.prog g (#[v] ++ lb) W fun r W' => r = .returned (.bool (p e)) ∧ Below W.heap.size W W')
    (henter : ∀ args w, (callFunc g args).run Tryz.prog w = .ok (.enter g args) w) :
    Calls Tryz.prog 47 #[.slice a l.length cap, .func (.func g) #[] lb] w fun r w' => r = .returned (.bool (l.any p)) ∧ Below w.heap.size w w' := by
  have h := Lib.hid (index_Def a l cap g lb p w hl hr hp henter)
  clear hp hr
  go_enter Tryz.func47, Tryz.ntmps47
  go_wp2_with fail
  refine h.out.mono ?_
  rintro e w1 ⟨rfl, hB⟩
  go_wp2_with fail
  go_ret
  exact ⟨ret_bool (idxI_any p l), hB⟩
end Go.Proofs.YtpdfeadajgokkaaGreatDoor
