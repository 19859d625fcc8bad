/- Byte classes, words and names: what the walks say, in the plain texts' words; a number's digits by the reference. -/
import Derived.Test.YtchdfjihflmloaaDoorLexK
import Derived.Test.YtchdfjihflmloaaDoorTok
import Derived.Test.YtchdfjihflmloaaDoorLxE
namespace Go.Proofs.YtchdfjihflmloaaDoor
open Go.RowKit

theorem toL (s : Str) : s.toList = bS s := Lib.toList_data s
theorem dig_eq (b : UInt8) : digB b = dgB b := by unfold digB dgB; rw [Bool.decide_and]
theorem sml_eq (b : UInt8) : smlB b = smB b := by unfold smlB smB; rw [Bool.decide_and]
theorem grt_eq (b : UInt8) : grtB b = grB b := by unfold grtB grB; rw [Bool.decide_and]
theorem prt_eq (b : UInt8) : prtB b = ptB b := by unfold prtB ptB; rw [dig_eq, sml_eq, grt_eq]
theorem prt_fun : prtB = ptB := funext prt_eq
theorem dig_fun : digB = dgB := funext dig_eq
theorem word_eq (s : Str) : wordB s = wdB (bS s) := by unfold wordB wdB; rw [toL]; rfl
theorem head_eq (p q : UInt8 → Bool) (hpq : ∀ b, p b = q b) (l : Bs) : l.head?.any p = headB q l := by
  cases l with
  | nil => rfl
  | cons b r => simp [headB, hpq]
theorem fit_eq (s : Str) : fitB s = ptsB (bS s) := by unfold fitB ptsB; rw [toL, prt_fun, Bool.decide_and]
theorem name_eq (s : Str) : nameB s = nmB (bS s) := by unfold nameB nmB; rw [fit_eq, word_eq, toL, head_eq _ _ sml_eq]
theorem con_eq (s : Str) : conB s = cnB (bS s) := by unfold conB cnB; rw [fit_eq, toL, head_eq _ _ grt_eq]
theorem bS_len (s : Str) : (bS s).length = s.size := rfl
theorem bS_get (s : Str) (i : Nat) (h : i < s.size) : s[i] = (bS s)[i]'h := rfl
theorem numL_snoc (l : Bs) (b : UInt8) : numL (l ++ [b]) = 10 * numL l + (b.toNat - 48) := by unfold numL; rw [List.foldl_append]; rfl
theorem numL_take (l : Bs) (k : Nat) (h : k < l.length) : numL (l.take (k + 1)) = 10 * numL (l.take k) + (l[k].toNat - 48) := by
  rw [List.take_succ_eq_append_getElem h, numL_snoc]
theorem numL_le (l : Bs) (k : Nat) : numL (l.take k) ≤ numL l := by
  have e : l = l.take k ++ l.drop k := (List.take_append_drop k l).symm
  have : numL l = numFrom (numL (l.take k)) (l.drop k) := by
    conv => lhs; rw [e]
    unfold numL numFrom; rw [List.foldl_append]
  rw [this]; exact numFrom_ge _ _
theorem ret_ib {a b : Int} {c d : Bool} (h : a = b) (h' : c = d) : Ending.returned (.tuple #[.int .i64 a, .bool c]) = .returned (.tuple #[.int .i64 b, .bool d]) := by rw [h, h']

set_option maxHeartbeats 800000 in
theorem r02_number (s : Str) (w : World) (hd : (bS s).all dgB = true) (hl : s.size ≤ lenMax) : Calls Tryd.prog 62 #[.string s] w fun r w' => r = .returned (.tuple #[.int .i64 (if numL (bS s) ≤ maxI then (numL (bS s) : Int) else 0), .bool (decide (numL (bS s) ≤ maxI))]) ∧ w = w' := by
  unfold lenMax at hl
  have hd' := Lib.hid hd
  obtain ⟨rx, hrx⟩ : ∃ x, (if numL (bS s) ≤ maxI then (numL (bS s) : Int) else 0) = x := ⟨_, rfl⟩
  obtain ⟨ry, hry⟩ : ∃ x, decide (numL (bS s) ≤ maxI) = x := ⟨_, rfl⟩
  rw [hrx, hry]
  have hrx' := Lib.hid hrx
  have hry' := Lib.hid hry
  clear hd hrx hry
  go_enter Tryd.func62, Tryd.ntmps62
  go_wp2_with fail
  go_loop [4, 5, 6] (fun n i _ => ∃ (k : Nat) (m : Int), k ≤ s.size ∧ i = .int .i64 k ∧ n = .int .i64 m ∧ Hid (m = numL ((bS s).take k)) ∧ 0 ≤ m ∧ Hid (numL ((bS s).take k) ≤ maxI)) (fun _ i _ => s.size - (intOf i).toNat)
  case atStart => exact ⟨0, 0, by omega, rfl, rfl, by unfold Hid; simp [numL], by omega, by unfold Hid; simp [numL]⟩
  case round =>
    obtain ⟨k, m, hk, rfl, rfl, hm, hm0, hmx⟩ := hrel
    by_cases h1 : k < s.size
    · have hbg := bS_get s k h1
      have hdg : 48 ≤ s[k].toNat ∧ s[k].toNat ≤ 57 := by
        have h := List.all_eq_true.1 hd'.out _ (List.getElem_mem (l := bS s) h1)
        rw [← hbg] at h
        unfold dgB at h
        simpa using h
      obtain ⟨d, hdd⟩ : ∃ d : Int, (s[k].toNat : Int) - 48 = d := ⟨_, rfl⟩
      have hd0 : 0 ≤ d ∧ d ≤ 9 := by omega
      have hst : Hid ((numL ((bS s).take (k + 1)) : Int) = 10 * m + d) := by
        unfold Hid
        have h2 := numL_take (bS s) k h1
        rw [h2, hm.out, ← hdd, hbg]
        have : (bS s)[k].toNat = s[k].toNat := by rw [hbg]
        omega
      have hm9 : m ≤ 9223372036854775807 := by have := hmx.out; rw [hm.out]; unfold maxI at this; omega
      have hlt := numL_le (bS s) (k + 1)
      have hlt' := Lib.hid hlt
      clear hbg hlt
      by_cases hroom : (9223372036854775807 - d) / 10 < m
      · have hbig : Hid (¬ numL (bS s) ≤ maxI) := by
          unfold Hid
          have := hst.out; have := hlt'.out
          unfold maxI
          omega
        go_wp2_with fail
        go_ret2
        exact ⟨ret_ib (by rw [← hrx'.out, if_neg hbig.out]) (by rw [← hry'.out, decide_eq_false hbig.out]), rfl⟩
      · have hok : Hid (numL ((bS s).take (k + 1)) ≤ maxI) := by
          unfold Hid
          have := hst.out
          unfold maxI
          omega
        go_wp2_with fail
        go_round
        case rel => exact ⟨k + 1, 10 * m + d, by omega, by go_num, rfl, hst.out.symm, by omega, hok⟩
        case measure => simp [intOf]; omega
    · have e : (bS s).take k = bS s := List.take_of_length_le (by rw [bS_len]; omega)
      have hok : Hid (numL (bS s) ≤ maxI ∧ m = numL (bS s)) := by
        unfold Hid
        have h2 := hmx.out; have h3 := hm.out
        rw [e] at h2 h3
        exact ⟨h2, h3⟩
      clear e
      go_wp2_with fail
      go_ret2
      exact ⟨ret_ib (by rw [← hrx'.out, if_pos hok.out.1]; exact hok.out.2) (by rw [← hry'.out, decide_eq_true hok.out.1]), rfl⟩
end Go.Proofs.YtchdfjihflmloaaDoor
