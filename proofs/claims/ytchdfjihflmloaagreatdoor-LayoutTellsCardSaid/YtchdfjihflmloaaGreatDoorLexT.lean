/- Byte classes, words and names: what the walks say, in the plain texts' words; a number's digits by the reference. -/
import Derived.Test.YtchdfjihflmloaaGreatDoorLexK
import Derived.Test.YtchdfjihflmloaaGreatDoorTok
import Derived.Test.YtchdfjihflmloaaGreatDoorLxE
namespace Go.Proofs.YtchdfjihflmloaaGreatDoor
open Go.RowKit

theorem toL (s : Str) : s.toList = bS s := Lib.toList_data s
theorem dig_eq (b : UInt8) : digB b = dgB b := by unfold digB dgB; rw [Bool.decide_and]
theorem sml_eq (b : UInt8) : smlB b = smB b := by unfold smlB smB; rw [Bool.decide_and]
theorem grt_eq (b : UInt8) : grtB b = grB b := by unfold grtB grB; rw [Bool.decide_and]
theorem prt_eq (b : UInt8) : prtB b = ptB b := by unfold prtB ptB; rw [dig_eq, sml_eq, grt_eq]
theorem prt_fun : prtB = ptB := funext prt_eq
theorem dig_fun : digB = dgB := funext dig_eq
theorem word_eq (s : Str) : wordB s = wdB (bS s) := by unfold wordB wdB; rw [toL]; rfl
theorem head_eq (p q : UInt8 → Bool) (hpq : ∀ b, p b = q b) (l : Bs) : l.head?.any p = headB q l := by
  cases l with
  | nil => rfl
  | cons b r => simp [headB, hpq]
theorem fit_eq (s : Str) : fitB s = ptsB (bS s) := by unfold fitB ptsB; rw [toL, prt_fun, Bool.decide_and]
theorem name_eq (s : Str) : nameB s = nmB (bS s) := by unfold nameB nmB; rw [fit_eq, word_eq, toL, head_eq _ _ sml_eq]
theorem con_eq (s : Str) : conB s = cnB (bS s) := by unfold conB cnB; rw [fit_eq, toL, head_eq _ _ grt_eq]
theorem bS_len (s : Str) : (bS s).length = s.size := rfl
theorem bS_get (s : Str) (i : Nat) (h : i < s.size) : s[i] = (bS s)[i]'h := rfl
theorem numL_snoc (l : Bs) (b : UInt8) : numL (l ++ [b]) = 10 * numL l + (b.toNat - 48) := by unfold numL; rw [List.foldl_append]; rfl
theorem numL_take (l : Bs) (k : Nat) (h : k < l.length) : numL (l.take (k + 1)) = 10 * numL (l.take k) + (l[k].toNat - 48) := by
  rw [List.take_succ_eq_append_getElem h, numL_snoc]
theorem numL_le (l : Bs) (k : Nat) : numL (l.take k) ≤ numL l := by
  have e : l = l.take k ++ l.drop k := (List.take_append_drop k l).symm
  have : numL l = numFrom (numL (l.take k)) (l.drop k) := by
    conv => lhs; rw [e]
    unfold numL numFrom; rw [List.foldl_append]
  rw [this]; exact numFrom_ge _ _
theorem ret_ib {a b : Int} {c d : Bool} (h : a = b) (h' : c = d) : Ending.returned (.tuple #[.int .i64 a, .bool c]) = .returned (.tuple #[.int .i64 b, .bool d]) := by rw [h, h']

end Go.Proofs.YtchdfjihflmloaaGreatDoor
