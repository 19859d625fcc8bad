/- lex.sign, walked. -/
import Derived.Test.YtchdfjihflmloaaGreatDoorLexX
import Derived.Test.YtchdfjihflmloaaGreatDoorShelf
namespace Go.Proofs.YtchdfjihflmloaaGreatDoor
open Go.RowKit

def numsB (l : Bs) : List Int := l.map fun b => (b.toNat : Int)
theorem numsB_len (l : Bs) : (numsB l).length = l.length := by simp [numsB]
theorem numsB_bytes (l : Bs) : Lib.bytesOf (numsB l) = l := by
  unfold Lib.bytesOf numsB
  rw [List.map_map]
  conv => rhs; rw [← List.map_id l]
  apply List.map_congr_left
  intro b _
  simp
theorem ByteRow.inn {w : World} {a : Option Addr} {l : Bs} (h : ByteRow w a l) : Lib.BytesIn w a l.length (numsB l) := by
  rcases h with h | ⟨b, off, rfl, h⟩
  · subst h; exact Lib.BytesIn.nil _ _ _
  · refine Lib.BytesIn.of_cells fun i hi => ?_
    rw [addr_plus, h i hi]
    simp [numsB, List.getD, hi]
theorem ByteRow.keeps {w W : World} {a : Option Addr} {l : Bs} (h : ByteRow w a l) (hk : Keeps w W) : ByteRow W a l := by
  rcases h with h | ⟨b, off, rfl, h⟩
  · exact .inl h
  · exact .inr ⟨b, off, rfl, fun i hi => hk _ _ (h i hi)⟩
/-- Has a slice of bytes this text ahead? -/
theorem has_prefix (a p : Option Addr) (l m : Bs) (c d : Nat) (w : World) (hc : l.length ≤ c) (h : ByteRow w a l) (h2 : ByteRow w p m) : Calls Tryz.prog 30 #[.slice a l.length c, .slice p m.length d] w fun e w' => e = .returned (.bool (m.isPrefixOf l)) ∧ w' = w := by
  have := Tryz.bytes_HasPrefix_all a p l.length c m.length d (numsB l) (numsB m) w (numsB_len l) (numsB_len m) hc h.inn h2.inn
  rw [numsB_bytes, numsB_bytes] at this
  exact this

def dblL : List Bs := [[45, 62], [60, 45], [61, 61]]
def oneL : Bs := [61, 60, 43, 45, 42, 47, 92, 40, 41, 123, 125, 59, 124]
/-- How many bytes the sign ahead has. -/
def signN (l : Bs) : Nat := if dblL.any (fun m => m.isPrefixOf l) then 2 else if (l.head?.map fun b => oneL.contains b).getD false then 1 else 0
theorem index_has (l : Bs) (c : UInt8) : decide ((0 : Int) ≤ Lib.indexByte l c) = l.contains c := by
  induction l with
  | nil => rfl
  | cons b r ih =>
    unfold Lib.indexByte
    rw [List.contains_cons]
    by_cases h : b = c
    · subst h; simp
    · have h2 : (b == c) = false := by simpa using h
      have h3 : (c == b) = false := by simpa using fun e => h e.symm
      rw [h2, h3, Bool.false_or, ← ih]
      have := Lib.indexByte_ge r c
      by_cases h4 : Lib.indexByte r c = -1
      · simp [h4]
      · have h5 : (Lib.indexByte r c == -1) = false := by simpa using h4
        simp only [h5]
        rw [if_neg (by simp), if_neg (by simp), decide_eq_true (by omega), decide_eq_true (by omega)]
theorem signs_dbl : signsL = dblL ++ oneL.map (fun b => [b]) := rfl
theorem dbl_two : ∀ m ∈ dblL, m.length = 2 := by decide
theorem sign_tok (l : Bs) : (signsL.find? fun m => m.isPrefixOf l) = if 0 < signN l then some (l.take (signN l)) else none := by
  rw [signs_dbl, List.find?_append]
  unfold signN
  cases hd : dblL.any (fun m => m.isPrefixOf l)
  · have hn : (dblL.find? fun m => m.isPrefixOf l) = none := by
      rw [List.find?_eq_none]
      intro m hm h
      rw [List.any_eq_false] at hd
      exact hd m hm h
    rw [hn, Option.none_or]
    cases l with
    | nil =>
      have : ((oneL.map (fun b => [b])).find? fun m => m.isPrefixOf ([] : Bs)) = none := by decide
      rw [this]; rfl
    | cons c r =>
      have hp : ∀ (q : Bs), ((q.map (fun b => [b])).find? fun m => m.isPrefixOf (c :: r)) = if q.contains c = true then some [c] else none := by
        intro q
        induction q with
        | nil => rfl
        | cons b q ih =>
          rw [List.map_cons, List.find?_cons, List.contains_cons]
          have hb : ([b] : Bs).isPrefixOf (c :: r) = (b == c) := by simp [List.isPrefixOf]
          rw [hb]
          by_cases h : b = c
          · subst h; simp
          · have h2 : (b == c) = false := by simpa using h
            have h3 : (c == b) = false := by simpa using fun e => h e.symm
            rw [h2, h3, Bool.false_or]
            exact ih
      rw [hp]
      simp only [List.head?_cons, Option.map_some, Option.getD_some]
      by_cases hx : c ∈ oneL
      · simp [hx]
      · simp [hx]
  · rw [List.any_eq_true] at hd
    obtain ⟨m, hm, hp⟩ := hd
    cases hf : dblL.find? fun m => m.isPrefixOf l with
    | none =>
      rw [List.find?_eq_none] at hf
      exact absurd hp (hf m hm)
    | some q =>
      have h1 := dbl_two q (List.mem_of_find?_eq_some hf)
      have h2 := List.find?_some hf
      rw [List.isPrefixOf_iff_prefix, List.prefix_iff_eq_take, h1] at h2
      rw [Option.some_or, if_pos rfl, if_pos (by decide), ← h2]

theorem signN_cons {b : UInt8} {r : Bs} (h : dblL.any (fun m => m.isPrefixOf (b :: r)) = false) : signN (b :: r) = if oneL.contains b = true then 1 else 0 := by unfold signN; rw [h]; rfl
def dblS : List Str := dblL.map tS
theorem ext_byte (b : UInt8) : ((b.toNat : Int).toNat).toUInt8 = b := by simp

set_option maxHeartbeats 2000000 in
theorem lex_sign (a : Option Addr) (l : Bs) (cap : Nat) (w : World) (hl : l.length ≤ 1000000) (hc : l.length ≤ cap) (hr : ByteRow w a l) :
    Calls Tryz.prog 45 #[.slice a l.length cap] w fun r w' => r = .returned (.int .i64 (signN l)) ∧ Below w.heap.size w w' := by
  have hcv := fun (w : World) (s : Str) => Lib.run_convert_string_bytes (P := Tryz.prog) w 9 32 5 s Tryz.underlying9 Tryz.underlying32 Tryz.underlying5
  obtain ⟨L, hL⟩ : ∃ L, dblS = L := ⟨_, rfl⟩
  obtain ⟨W1, hW1⟩ : ∃ W, w.alloc (.cells (dblS.map Value.string).toArray 9) = W := ⟨_, rfl⟩
  have hW1b : w.alloc (.cells #[.string ⟨#[45, 62]⟩, .string ⟨#[60, 45]⟩, .string ⟨#[61, 61]⟩] 9) = W1 := hW1
  have hrow : StrRow W1 (some ⟨w.heap.size, 0, none⟩) L := by rw [← hW1, ← hL]; exact strRow_new w dblS 9 (by decide)
  have hB1 : Below w.heap.size w W1 := by rw [← hW1]; exact (Below.refl _ w).alloc (Nat.le_refl _) _
  have hr1 := hr.keeps (Keeps.of_below hB1)
  have hlen : L.length = 3 := by rw [← hL]; rfl
  have hLk : Hid (∀ k (h : k < L.length) (h2 : k < dblL.length), L[k] = tS dblL[k]) := by
    subst hL
    exact fun k h h2 => List.getElem_map tS
  have hr1' := Lib.hid hr1
  have hB1' := Lib.hid hB1
  have hrow' := Lib.hid hrow
  have hW1' := Lib.hid hW1b
  clear hL hW1 hW1b hrow hB1 hr1 hr
  go_enter Tryz.func45, Tryz.ntmps45
  go_upto_region 2 with (fail)
  rw [hW1'.out]
  go_loopw [7] (fun n W => ∃ k : Nat, k ≤ 3 ∧ n = .int .i64 k ∧ Hid (∀ i (hi : i < k) (hs : i < dblL.length), dblL[i].isPrefixOf l = false) ∧ Hid (Below W1.heap.size W1 W)) (fun n _ => 3 - (intOf n).toNat)
  case atStart => exact ⟨0, by omega, rfl, fun i hi => (by omega), Below.refl _ _⟩
  case round =>
    obtain ⟨k, hk, rfl, hall, hBW⟩ := hrel
    obtain ⟨Wr, rfl⟩ : ∃ W, W = wr := ⟨_, rfl⟩
    by_cases hlt : k < 3
    · have hkL : k < L.length := by omega
      have hki : (k : Int) < 3 := by omega
      rcases hrow'.out with hr | ⟨rb, ro, hra, hr⟩
      · rw [hr] at hlen; simp at hlen
      injection hra with hra
      injection hra with hrb hro
      subst hrb hro
      have hcV := Keeps.of_below hBW.out _ _ (hr k hkL).1
      rw [Nat.zero_add] at hcV
      have hLe : Hid (L[k] = tS (dblL[k]'(by have : dblL.length = 3 := rfl; omega))) := hLk.out k hkL _
      generalize L[k] = m at hcV hLe
      have hbb := below_bytesWorld Wr 5 m
      have hhp := has_prefix a (some ⟨Wr.heap.size, 0, none⟩) l m.toList cap (grownCap Wr m.size 0 5) (Lib.bytesWorld Wr 5 m) hc ((hr1'.out.keeps (Keeps.of_below hBW.out)).keeps (Keeps.of_below hbb)) (byteRow_bytesWorld _ _ _)
      have hsz : m.toList.length = m.size := by rw [Lib.toList_data, Lib.size_eq]
      have hm2 : m.size = 2 := by rw [hLe.out]; exact dbl_two _ (List.getElem_mem _)
      rw [hsz, hm2, toL] at hhp
      have hhp' := Lib.hid hhp
      have hB3 := Lib.hid (hBW.out.trans (hbb.mono hBW.out.size))
      have hpm : Hid (∀ q, bS m = dblL[k]'q) := fun q => by rw [hLe.out, bS_tS]
      clear hr hhp hbb hsz
      cases hp : (bS m).isPrefixOf l
      · have hp' := Lib.hid hp
        rw [hp] at hhp'
        clear hp
        go_wp2_with fail
        refine hhp'.out.mono ?_
        rintro e V ⟨rfl, rfl⟩
        go_wp2_with fail
        go_roundw
        case rel => exact ⟨k + 1, by omega, by go_num, (fun i hi hs => by
          rcases Nat.lt_or_ge i k with h | h
          · exact hall.out i h hs
          · obtain rfl : i = k := by omega
            rw [← hpm.out hs]; exact hp'.out), hB3.out⟩
        case measure => simp [intOf]; omega
      · have hp' := Lib.hid hp
        rw [hp] at hhp'
        clear hp
        go_wp2_with fail
        refine hhp'.out.mono ?_
        rintro e V ⟨rfl, rfl⟩
        go_wp2_with fail
        go_ret
        refine ⟨ret_int ?_, hB1'.out.trans (hB3.out.mono hB1'.out.size)⟩
        have hany : dblL.any (fun m => m.isPrefixOf l) = true := by
          rw [List.any_eq_true]
          have hlt' : k < dblL.length := by have : dblL.length = 3 := rfl; omega
          refine ⟨dblL[k], List.getElem_mem hlt', ?_⟩
          rw [← hpm.out hlt']
          exact hp'.out
        unfold signN
        rw [hany]; rfl
    · have hki : ¬ (k : Int) < 3 := by omega
      have hany : Hid (dblL.any (fun m => m.isPrefixOf l) = false) := by
        unfold Hid
        rw [List.any_eq_false]
        intro m hm
        obtain ⟨i, hi, rfl⟩ := List.getElem_of_mem hm
        rw [hall.out i (by have : dblL.length = 3 := rfl; omega) hi]
        simp
      have hBw := Lib.hid (hB1'.out.trans (hBW.out.mono hB1'.out.size))
      cases l with
      | nil =>
        go_wp2_with fail
        go_ret
        exact ⟨ret_int (by unfold signN; rw [hany.out]; rfl), hBw.out⟩
      | cons b r =>
        rcases hr1'.out.keeps (Keeps.of_below hBW.out) with hx | ⟨rb, ro, rfl, hx⟩
        · cases hx
        have hg := hx 0 (by simp)
        rw [List.getElem_cons_zero, Nat.add_zero] at hg
        have hix := Tryz.strings_IndexByte (tS oneL) (b.toNat : Int) Wr
        rw [show (tS oneL).data.toList = oneL from rfl, ext_byte] at hix
        obtain ⟨x, hx'⟩ : ∃ x, Lib.indexByte oneL b = x := ⟨_, rfl⟩
        rw [hx'] at hix
        have hix' := Lib.hid hix
        have hxc : Hid (decide ((0 : Int) ≤ x) = oneL.contains b) := by unfold Hid; rw [← hx', index_has]
        have hlp : (0 : Int) < ((b :: r).length : Int) := by simp only [List.length_cons]; omega
        clear hx hix hx'
        by_cases hx0 : 0 ≤ x
        · have hcn : Hid (oneL.contains b = true) := by unfold Hid; rw [← hxc.out, decide_eq_true hx0]
          go_wp2_with fail
          refine hix'.out.mono ?_
          rintro e V ⟨rfl, rfl⟩
          go_wp2_with fail
          go_ret
          exact ⟨ret_int (by rw [signN_cons hany.out, hcn.out]; rfl), hBw.out⟩
        · have hcn : Hid (oneL.contains b = false) := by unfold Hid; rw [← hxc.out, decide_eq_false hx0]
          go_wp2_with fail
          refine hix'.out.mono ?_
          rintro e V ⟨rfl, rfl⟩
          go_wp2_with fail
          go_ret
          exact ⟨ret_int (by rw [signN_cons hany.out, hcn.out]; rfl), hBw.out⟩
end Go.Proofs.YtchdfjihflmloaaGreatDoor
