/- The reference's signs, word, token, walked. -/
import Derived.Test.YtchdfjihflmloaaDoorLexT
import Derived.Test.YtchdfjihflmloaaDoorTokB
import Derived.Test.YtchdfjihflmloaaDoorLxF
namespace Go.Proofs.YtchdfjihflmloaaDoor
open Go.RowKit

def signS : List Str := signsL.map tS
theorem hasS_map (l : List Bs) (s : Str) : hasS (l.map tS) s = l.contains (bS s) := by
  unfold hasS
  rw [List.any_map, List.contains_eq_any_beq]
  congr 1
  funext x
  simp only [Function.comp, toL]
  rw [bS_tS]
  rw [Bool.eq_iff_iff, beq_iff_eq, beq_iff_eq]
  exact eq_comm
theorem wordL_map : wordL = wordsL.map tS := rfl

set_option maxHeartbeats 400000 in
theorem r02_signs (w : World) : Calls Tryd.prog 41 #[] w fun r w' => r = .returned (.slice (some ⟨w.heap.size, 0, none⟩) signS.length signS.length) ∧ Below w.heap.size w w' ∧ StrRow w' (some ⟨w.heap.size, 0, none⟩) signS := by
  go_enter Tryd.func41, Tryd.ntmps41
  go_wp2_with fail
  go_ret
  exact ⟨rfl, (Below.refl _ _).alloc (Nat.le_refl _) _, strRow_new w signS 9 (by decide)⟩

/-- What a token's answer is: the token, or that there is none. -/
def TokR (o : Option (Int × Bs × Nat)) (r : Ending) : Prop :=
  match o with
  | some (k, t, n) => r = .returned (.tuple #[.agg #[.int .i64 k, .string (tS t), .int .i64 n, .int .i64 0, .int .i64 0], .bool true])
  | none => ∃ (k n : Int) (s : Str), r = .returned (.tuple #[.agg #[.int .i64 k, .string s, .int .i64 n, .int .i64 0, .int .i64 0], .bool false])
theorem TokR_form {o : Option (Int × Bs × Nat)} {r : Ending} (h : TokR o r) : ∃ (k : Int) (s : Str) (n : Int) (b : Bool), r = .returned (.tuple #[.agg #[.int .i64 k, .string s, .int .i64 n, .int .i64 0, .int .i64 0], .bool b]) ∧ TokR o (.returned (.tuple #[.agg #[.int .i64 k, .string s, .int .i64 n, .int .i64 0, .int .i64 0], .bool b])) := by
  rcases o with _ | ⟨k, t, n⟩
  · obtain ⟨k, n, s, rfl⟩ := h
    exact ⟨_, _, _, _, rfl, ⟨k, n, s, rfl⟩⟩
  · exact ⟨k, tS t, n, true, h, rfl⟩
def tokZ : Value := .agg #[.int .i64 0, .string ⟨#[]⟩, .int .i64 0, .int .i64 0, .int .i64 0]
theorem TokR_some {k : Int} {t : Bs} {n : Nat} {r : Ending} (q : Str) (hq : tS t = q) (h : r = .returned (.tuple #[.agg #[.int .i64 k, .string q, .int .i64 n, .int .i64 0, .int .i64 0], .bool true])) : TokR (some (k, t, n)) r := by subst hq; exact h
theorem set5_fold {P : Program} {fn : Func} {R : Ending → World → Prop} {e : Exit} {a : Act} {w : World} {b : Nat} {x0 x1 x2 x3 x4 : Value} (h : bodyPost P fn R e a (World.set5 w b x0 x1 x2 x3 x4)) : bodyPost P fn R e a (((((w.setCell ⟨b, 0, none⟩ x0).setCell ⟨b, 1, none⟩ x1).setCell ⟨b, 2, none⟩ x2).setCell ⟨b, 3, none⟩ x3).setCell ⟨b, 4, none⟩ x4) := h

set_option maxHeartbeats 800000 in
theorem r02_word (s : Str) (w : World) : Calls Tryd.prog 64 #[.string s] w fun r w' => TokR ((wordK (bS s)).map fun k => (k, bS s, 0)) r ∧ Below w.heap.size w w' := by
  obtain ⟨W1, hW1⟩ : ∃ W, w.alloc (.cells #[.int .i64 0, .string ⟨#[]⟩, .int .i64 0, .int .i64 0, .int .i64 0] 33) = W := ⟨_, rfl⟩
  have hb1 : Below w.heap.size w W1 := by rw [← hW1]; exact (Below.refl _ w).alloc (Nat.le_refl _) _
  have hx1 : Box5 W1 33 w.heap.size (.int .i64 0) (.string ⟨#[]⟩) (.int .i64 0) (.int .i64 0) (.int .i64 0) := by rw [← hW1]; exact blk_new (Below.refl _ _)
  have hW1' := Lib.hid hW1
  have hb1' := Lib.hid hb1
  have hx1' := Lib.hid hx1
  obtain ⟨o, ho⟩ : ∃ o, (wordK (bS s)).map (fun k => (k, bS s, 0)) = o := ⟨_, rfl⟩
  rw [ho]
  have ho' := Lib.hid ho
  clear hW1 hb1 hx1 ho
  go_enter Tryd.func64, Tryd.ntmps64
  go_wp2_with fail
  rw [hW1'.out]
  refine (r02_words W1).mono ?_
  rintro e V1 ⟨rfl, hB1, hrow⟩
  have hB1' := Lib.hid hB1
  have hin := Lib.hid (r02_in _ wordL wordL.length s V1 (by decide) hrow)
  have hh : Hid (hasS wordL s = wdB (bS s)) := by unfold Hid; rw [hasS_wordL, word_eq]
  rw [hh.out] at hin
  clear hB1 hrow
  go_wp2_with fail
  refine hin.out.mono ?_
  rintro e V2 ⟨rfl, rfl⟩
  have hwV := Lib.hid (hb1'.out.trans (hB1'.out.mono hb1'.out.size))
  have hxV := Lib.hid (hx1'.out.below hB1'.out)
  cases hw : wdB (bS s)
  · have hnm := Lib.hid (r02_Name s V1)
    have hn : Hid (nameB s = nmB (bS s)) := name_eq s
    rw [hn.out] at hnm
    have hw' := Lib.hid hw
    clear hw
    go_wp2_with fail
    refine hnm.out.mono ?_
    rintro e V3 ⟨rfl, hB3⟩
    have hwV3 := Lib.hid (hwV.out.trans (hB3.mono hwV.out.size))
    have hxV3 := Lib.hid (hxV.out.below hB3)
    clear hB3
    cases hq : nmB (bS s)
    · have hcn := Lib.hid (r02_Con s V3)
      have hc : Hid (conB s = cnB (bS s)) := con_eq s
      rw [hc.out] at hcn
      have hq' := Lib.hid hq
      clear hq
      go_wp2_with fail
      refine hcn.out.mono ?_
      rintro e V4 ⟨rfl, hB4⟩
      have hwV4 := Lib.hid (hwV3.out.trans (hB4.mono hwV3.out.size))
      have hxV4 := Lib.hid (hxV3.out.below hB4)
      clear hB4
      obtain ⟨⟨q0, q1, q2, q3, q4⟩, qf⟩ := hxV4.out.cells
      have hU := hxV4.out.set (.int .i64 3) (.string s) (.int .i64 0) (.int .i64 0) (.int .i64 0)
      have hU' := Lib.hid hU
      clear hU
      go_wp2_with fail
      refine set5_fold ?_
      refine bodyPost_ret (results_tok rfl _ _ rfl rfl hU'.out.1.cells.1) rfl ⟨?_, hwV4.out.trans (hU'.out.2.below.mono (by have := hwV4.out.size; omega))⟩
      rw [← ho'.out]
      unfold wordK
      rw [if_neg (by rw [hw'.out]; simp), if_neg (by rw [hq'.out]; simp)]
      cases cnB (bS s)
      · exact ⟨_, _, _, rfl⟩
      · rfl
    · have hq' := Lib.hid hq
      clear hq
      obtain ⟨⟨q0, q1, q2, q3, q4⟩, qf⟩ := hxV3.out.cells
      have hU' := Lib.hid (hxV3.out.set (.int .i64 2) (.string s) (.int .i64 0) (.int .i64 0) (.int .i64 0))
      go_wp2_with fail
      refine set5_fold ?_
      refine bodyPost_ret (results_tok rfl _ _ rfl rfl hU'.out.1.cells.1) rfl ⟨?_, hwV3.out.trans (hU'.out.2.below.mono (by have := hwV3.out.size; omega))⟩
      rw [← ho'.out]
      unfold wordK
      rw [if_neg (by rw [hw'.out]; simp), if_pos hq'.out]
      rfl
  · have hw' := Lib.hid hw
    clear hw
    obtain ⟨⟨q0, q1, q2, q3, q4⟩, qf⟩ := hxV.out.cells
    have hU' := Lib.hid (hxV.out.set (.int .i64 4) (.string s) (.int .i64 0) (.int .i64 0) (.int .i64 0))
    go_wp2_with fail
    refine set5_fold ?_
    refine bodyPost_ret (results_tok rfl _ _ rfl rfl hU'.out.1.cells.1) rfl ⟨?_, hwV.out.trans (hU'.out.2.below.mono (by have := hwV.out.size; omega))⟩
    rw [← ho'.out]
    unfold wordK
    rw [if_pos hw'.out]
    rfl

theorem take_run (p : UInt8 → Bool) (l : Bs) : l.take (runN p l) = l.takeWhile p := by
  unfold runN
  exact (List.prefix_iff_eq_take.1 (List.takeWhile_prefix p)).symm
theorem ext_take (s : Str) (k : Nat) : s.extract 0 k = tS ((bS s).take k) := by
  rw [← tS_bS (s.extract 0 k)]
  unfold bS
  rw [ByteArray.data_extract]
  simp
theorem str_at (s : Str) (k : Nat) (h : k < s.size) : (bS s)[k]'h = s[k] := rfl
theorem head_at {p : UInt8 → Bool} {s : Str} (h : 0 < s.size) : headB p (bS s) = p s[0] := by
  have h' : 0 < (bS s).length := h
  unfold headB
  rw [List.head?_eq_getElem?, List.getElem?_eq_getElem h']
  rfl
theorem all_take_run (p : UInt8 → Bool) (l : Bs) : (l.takeWhile p).all p = true := List.all_takeWhile

theorem pre_eq {m s : Str} (h : m.size ≤ s.size) : ((s.extract 0 m.size).toList == m.toList) = (bS m).isPrefixOf (bS s) := by
  rw [Bool.eq_iff_iff, beq_iff_eq, List.isPrefixOf_iff_prefix, List.prefix_iff_eq_take, toL, toL, ext_take, bS_tS]
  exact eq_comm
theorem pre_long {m s : Str} (h : ¬ m.size ≤ s.size) : (bS m).isPrefixOf (bS s) = false := by
  rw [← Bool.not_eq_true, List.isPrefixOf_iff_prefix]
  intro hp
  exact h hp.length_le
theorem find_first {α : Type} {p : α → Bool} : ∀ (l : List α) (k : Nat) (h : k < l.length), (∀ j (hj : j < k) (hl : j < l.length), p l[j] = false) → p l[k] = true → l.find? p = some l[k]
  | [], k, h, _, _ => absurd h (Nat.not_lt_zero _)
  | a :: l, 0, _, _, h2 => by rw [List.find?_cons]; simp only [List.getElem_cons_zero] at h2 ⊢; rw [h2]
  | a :: l, k + 1, h, h1, h2 => by
    have h0 : p a = false := h1 0 (by omega) (by simp)
    rw [List.find?_cons, h0]
    exact find_first l k (by simpa using h) (fun j hj hl => h1 (j + 1) (by omega) (by simpa using hl)) h2
theorem find_no {α : Type} {p : α → Bool} (l : List α) (h : ∀ j (hl : j < l.length), p l[j] = false) : l.find? p = none := by
  rw [List.find?_eq_none]
  intro x hx
  obtain ⟨j, hj, rfl⟩ := List.getElem_of_mem hx
  rw [h j hj]; simp

set_option maxHeartbeats 4000000 in
set_option maxRecDepth 100000 in
theorem r02_token (s : Str) (w : World) (h0 : 0 < s.size) (hl : s.size ≤ lenMax) : Calls Tryd.prog 33 #[.string s] w fun r w' => TokR (tokF (bS s)) r ∧ Below w.heap.size w w' := by
  unfold lenMax at hl
  obtain ⟨W1, hW1⟩ : ∃ W, w.alloc (.cells #[.int .i64 0, .string ⟨#[]⟩, .int .i64 0, .int .i64 0, .int .i64 0] 33) = W := ⟨_, rfl⟩
  have hb1 : Below w.heap.size w W1 := by rw [← hW1]; exact (Below.refl _ w).alloc (Nat.le_refl _) _
  have hx1 : Box5 W1 33 w.heap.size (.int .i64 0) (.string ⟨#[]⟩) (.int .i64 0) (.int .i64 0) (.int .i64 0) := by rw [← hW1]; exact blk_new (Below.refl _ _)
  have hW1' := Lib.hid hW1
  have hb1' := Lib.hid hb1
  have hx1' := Lib.hid hx1
  obtain ⟨o, ho⟩ : ∃ o, tokF (bS s) = o := ⟨_, rfl⟩
  rw [ho]
  have ho' := Lib.hid ho
  have hdg := Lib.hid (fun (b : UInt8) (V : World) => r02_digit b V)
  have hpt := Lib.hid (fun (b : UInt8) (V : World) => r02_part b V)
  rw [dig_fun] at hdg
  rw [prt_fun] at hpt
  have h0i : (0 : Int) < (s.size : Int) := by omega
  clear hW1 hb1 hx1 ho
  go_enter Tryd.func33, Tryd.ntmps33
  cases hd0 : dgB s[0]
  case true =>
    have hc := hdg.out s[0] W1
    rw [hd0] at hc
    have hc' := Lib.hid hc
    have hd0' := Lib.hid hd0
    clear hd0 hc
    go_wp2_with fail
    rw [hW1'.out]
    go_wp2_with fail
    refine hc'.out.mono ?_
    rintro e V ⟨rfl, rfl⟩
    go_wp2_with fail
    go_loop [4] (fun n => ∃ k : Nat, k ≤ s.size ∧ n = .int .i64 k ∧ Hid (∀ i (hi : i < k) (hs : i < s.size), dgB s[i] = true)) (fun n => s.size - (intOf n).toNat)
    case atStart => exact ⟨0, by omega, rfl, fun i hi => by omega⟩
    case round =>
      obtain ⟨k, hk, rfl, hall⟩ := hrel
      have hexit : (k = s.size ∨ ∃ h : k < s.size, dgB s[k] = false) ∨ ∃ h : k < s.size, dgB s[k] = true := by
        by_cases h : k < s.size
        · cases hq : dgB s[k]
          · exact .inl (.inr ⟨h, hq⟩)
          · exact .inr ⟨h, hq⟩
        · exact .inl (.inl (by omega))
      rcases hexit with hex | ⟨hlt, hq⟩
      · have hrun : Hid (runN dgB (bS s) = k) := by
          unfold Hid
          rcases hex with e | ⟨h, hq⟩
          · subst e; exact runN_all fun i hi => hall.out i hi hi
          · exact runN_take h (fun i hi => hall.out i hi (by omega)) hq
        have hnum := r02_number (tS ((bS s).takeWhile dgB)) W1 (all_take_run dgB (bS s)) (by
          have := (List.takeWhile_prefix dgB (l := bS s)).length_le
          have h2 : (tS ((bS s).takeWhile dgB)).size = ((bS s).takeWhile dgB).length := rfl
          rw [h2]; unfold lenMax; rw [bS_len] at this; omega)
        rw [← take_run, hrun.out, ← ext_take] at hnum
        obtain ⟨nn, hnn⟩ : ∃ x, (if numL ((bS s).take k) ≤ maxI then (numL ((bS s).take k) : Int) else 0) = x := ⟨_, rfl⟩
        obtain ⟨ob, hob⟩ : ∃ x, decide (numL ((bS s).take k) ≤ maxI) = x := ⟨_, rfl⟩
        rw [ext_take, bS_tS, hnn, hob, ← ext_take] at hnum
        have hnum' := Lib.hid hnum
        have hnn' := Lib.hid hnn
        have hob' := Lib.hid hob
        clear hnum hnn hob
        rcases hex with e | ⟨hlt, hq⟩
        · subst e
          have hnum := hnum'.out
          rw [ByteArray.extract_zero_size] at hnum
          have hnum2 := Lib.hid hnum
          clear hnum
          go_wp2_with fail
          (with_reducible refine hnum2.out.mono ?_)
          rintro e V ⟨rfl, rfl⟩
          obtain ⟨⟨q0, q1, q2, q3, q4⟩, qf⟩ := hx1'.out.cells
          have hU' := Lib.hid (hx1'.out.set (.int .i64 1) (.string s) (.int .i64 nn) (.int .i64 0) (.int .i64 0))
          go_wp2_with fail
          refine set5_fold ?_
          refine bodyPost_ret (results_tok rfl _ _ rfl rfl hU'.out.1.cells.1) rfl ⟨?_, hb1'.out.trans (hU'.out.2.below.mono (by omega))⟩
          have htw : (bS s).takeWhile dgB = (bS s).take s.size := by rw [← take_run, hrun.out]
          rw [← ho'.out]
          unfold tokF
          rw [if_pos (by rw [head_at h0]; exact hd0'.out), htw]
          by_cases hM : numL ((bS s).take s.size) ≤ maxI
          · rw [if_pos hM, ← hob'.out, decide_eq_true hM, ← hnn'.out, if_pos hM]; exact TokR_some s (by rw [← ext_take, ByteArray.extract_zero_size]) rfl
          · rw [if_neg hM, ← hob'.out, decide_eq_false hM]; exact ⟨_, _, _, rfl⟩
        · have hki : (k : Int) ≤ (s.size : Int) := by omega
          have hc := hdg.out s[k] W1
          rw [hq] at hc
          have hc' := Lib.hid hc
          clear hq hc
          go_wp2_with fail
          refine hc'.out.mono ?_
          rintro e V ⟨rfl, rfl⟩
          go_wp2_with fail
          refine hnum'.out.mono ?_
          rintro e V ⟨rfl, rfl⟩
          obtain ⟨⟨q0, q1, q2, q3, q4⟩, qf⟩ := hx1'.out.cells
          have hU' := Lib.hid (hx1'.out.set (.int .i64 1) (.string (s.extract 0 k)) (.int .i64 nn) (.int .i64 0) (.int .i64 0))
          go_wp2_with fail
          refine set5_fold ?_
          refine bodyPost_ret (results_tok rfl _ _ rfl rfl hU'.out.1.cells.1) rfl ⟨?_, hb1'.out.trans (hU'.out.2.below.mono (by omega))⟩
          have htw : (bS s).takeWhile dgB = (bS s).take k := by rw [← take_run, hrun.out]
          rw [← ho'.out]
          unfold tokF
          rw [if_pos (by rw [head_at h0]; exact hd0'.out), htw]
          by_cases hM : numL ((bS s).take k) ≤ maxI
          · rw [if_pos hM, ← hob'.out, decide_eq_true hM, ← hnn'.out, if_pos hM]; exact TokR_some _ (ext_take s k).symm rfl
          · rw [if_neg hM, ← hob'.out, decide_eq_false hM]; exact ⟨_, _, _, rfl⟩
      · have hc := hdg.out s[k] W1
        rw [hq] at hc
        have hc' := Lib.hid hc
        have hq' := Lib.hid hq
        clear hq hc
        go_wp2_with fail
        refine hc'.out.mono ?_
        rintro e V ⟨rfl, rfl⟩
        go_wp2_with fail
        go_round
        case rel => exact ⟨k + 1, by omega, by go_num, fun i hi hs => by
          rcases Nat.lt_or_ge i k with h | h
          · exact hall.out i h hs
          · obtain rfl : i = k := by omega
            exact hq'.out⟩
        case measure => simp [intOf]; omega
  case false =>
    have hc := hdg.out s[0] W1
    rw [hd0] at hc
    have hc' := Lib.hid hc
    have hd0' := Lib.hid hd0
    clear hd0 hc
    cases hp0 : ptB s[0]
    case true =>
      have hc2 := hpt.out s[0] W1
      rw [hp0] at hc2
      have hc2' := Lib.hid hc2
      have hp0' := Lib.hid hp0
      clear hp0 hc2
      go_wp2_with fail
      rw [hW1'.out]
      go_wp2_with fail
      refine hc'.out.mono ?_
      rintro e V ⟨rfl, rfl⟩
      go_wp2_with fail
      refine hc2'.out.mono ?_
      rintro e V ⟨rfl, rfl⟩
      go_wp2_with fail
      go_loop [4] (fun n => ∃ k : Nat, k ≤ s.size ∧ n = .int .i64 k ∧ Hid (∀ i (hi : i < k) (hs : i < s.size), ptB s[i] = true)) (fun n => s.size - (intOf n).toNat)
      case atStart => exact ⟨0, by omega, rfl, fun i hi => by omega⟩
      case round =>
        obtain ⟨k, hk, rfl, hall⟩ := hrel
        have hexit : (k = s.size ∨ ∃ h : k < s.size, ptB s[k] = false) ∨ ∃ h : k < s.size, ptB s[k] = true := by
          by_cases h : k < s.size
          · cases hq : ptB s[k]
            · exact .inl (.inr ⟨h, hq⟩)
            · exact .inr ⟨h, hq⟩
          · exact .inl (.inl (by omega))
        rcases hexit with hex | ⟨hlt, hq⟩
        · have hrun : Hid (runN ptB (bS s) = k) := by
            unfold Hid
            rcases hex with e | ⟨h, hq⟩
            · subst e; exact runN_all fun i hi => hall.out i hi hi
            · exact runN_take h (fun i hi => hall.out i hi (by omega)) hq
          have htw : (bS s).takeWhile ptB = (bS s).take k := by rw [← take_run, hrun.out]
          have ho2 : Hid ((wordK (bS (s.extract 0 k))).map (fun q => (q, bS (s.extract 0 k), 0)) = o) := by
            unfold Hid
            rw [← ho'.out, ext_take, bS_tS]
            unfold tokF
            rw [if_neg (by rw [head_at h0, hd0'.out]; simp), if_pos (by rw [head_at h0]; exact hp0'.out), htw]
          have hnum := r02_word (s.extract 0 k) W1
          rw [ho2.out] at hnum
          have hnum' := Lib.hid hnum
          clear hnum
          rcases hex with e | ⟨hlt, hq⟩
          · subst e
            have hnum := hnum'.out
            rw [ByteArray.extract_zero_size] at hnum
            have hnum2 := Lib.hid hnum
            clear hnum
            go_wp2_with fail
            (with_reducible refine hnum2.out.mono ?_)
            rintro e V ⟨hR, hB⟩
            have hwV := Lib.hid (hb1'.out.trans (hB.mono hb1'.out.size))
            have hxV := Lib.hid (hx1'.out.below hB)
            clear hB
            obtain ⟨vk, vs, vn, vb, rfl, hR⟩ := TokR_form hR
            have hR' := Lib.hid hR
            clear hR
            obtain ⟨⟨q0, q1, q2, q3, q4⟩, qf⟩ := hxV.out.cells
            have hU' := Lib.hid (hxV.out.set (.int .i64 vk) (.string vs) (.int .i64 vn) (.int .i64 0) (.int .i64 0))
            go_wp2_with fail
            refine set5_fold ?_
            refine bodyPost_ret (results_tok rfl _ _ rfl rfl hU'.out.1.cells.1) rfl ⟨?_, hwV.out.trans (hU'.out.2.below.mono (by have := hwV.out.size; omega))⟩
            exact hR'.out
          · have hki : (k : Int) ≤ (s.size : Int) := by omega
            have hc := hpt.out s[k] W1
            rw [hq] at hc
            have hc' := Lib.hid hc
            clear hq hc
            go_wp2_with fail
            refine hc'.out.mono ?_
            rintro e V ⟨rfl, rfl⟩
            go_wp2_with fail
            (with_reducible refine hnum'.out.mono ?_)
            rintro e V ⟨hR, hB⟩
            have hwV := Lib.hid (hb1'.out.trans (hB.mono hb1'.out.size))
            have hxV := Lib.hid (hx1'.out.below hB)
            clear hB
            obtain ⟨vk, vs, vn, vb, rfl, hR⟩ := TokR_form hR
            have hR' := Lib.hid hR
            clear hR
            obtain ⟨⟨q0, q1, q2, q3, q4⟩, qf⟩ := hxV.out.cells
            have hU' := Lib.hid (hxV.out.set (.int .i64 vk) (.string vs) (.int .i64 vn) (.int .i64 0) (.int .i64 0))
            go_wp2_with fail
            refine set5_fold ?_
            refine bodyPost_ret (results_tok rfl _ _ rfl rfl hU'.out.1.cells.1) rfl ⟨?_, hwV.out.trans (hU'.out.2.below.mono (by have := hwV.out.size; omega))⟩
            exact hR'.out
        · have hc := hpt.out s[k] W1
          rw [hq] at hc
          have hc' := Lib.hid hc
          have hq' := Lib.hid hq
          clear hq hc
          go_wp2_with fail
          refine hc'.out.mono ?_
          rintro e V ⟨rfl, rfl⟩
          go_wp2_with fail
          go_round
          case rel => exact ⟨k + 1, by omega, by go_num, fun i hi hs => by
            rcases Nat.lt_or_ge i k with h | h
            · exact hall.out i h hs
            · obtain rfl : i = k := by omega
              exact hq'.out⟩
          case measure => simp [intOf]; omega
    case false =>
      have hc2 := hpt.out s[0] W1
      rw [hp0] at hc2
      have hc2' := Lib.hid hc2
      have hp0' := Lib.hid hp0
      clear hp0 hc2
      obtain ⟨L, hL⟩ : ∃ L, signS = L := ⟨_, rfl⟩
      have hsg := r02_signs W1
      rw [hL] at hsg
      have hsg' := Lib.hid hsg
      have hlen : L.length = 16 := by rw [← hL]; rfl
      have hLk : Hid (∀ k (h : k < L.length) (h2 : k < signsL.length), L[k] = tS signsL[k]) := by
        subst hL
        exact fun k h h2 => List.getElem_map tS
      have hon : Hid ((signsL.find? fun m => m.isPrefixOf (bS s)).map (fun m => (4, m, 0)) = o) := by
        unfold Hid
        rw [← ho'.out]
        unfold tokF
        rw [if_neg (by rw [head_at h0, hd0'.out]; simp), if_neg (by rw [head_at h0, hp0'.out]; simp)]
      clear hsg hL
      go_wp2_with fail
      rw [hW1'.out]
      go_wp2_with fail
      refine hc'.out.mono ?_
      rintro e V ⟨rfl, rfl⟩
      go_wp2_with fail
      refine hc2'.out.mono ?_
      rintro e V ⟨rfl, rfl⟩
      go_wp2_with fail
      refine hsg'.out.mono ?_
      rintro e V ⟨rfl, hB1, hrow⟩
      have hwV := Lib.hid (hb1'.out.trans (hB1.mono hb1'.out.size))
      have hxV := Lib.hid (hx1'.out.below hB1)
      have hrow' := Lib.hid hrow
      clear hB1 hrow
      rw [hlen]
      go_wp2_with fail
      go_loopw [8] (fun n W => ∃ k : Nat, k ≤ 16 ∧ n = .int .i64 k ∧ Hid (∀ i (hi : i < k) (hs : i < signsL.length), signsL[i].isPrefixOf (bS s) = false) ∧ Below V.heap.size V W) (fun n _ => 16 - (intOf n).toNat)
      case atStart => exact ⟨0, by omega, rfl, fun i hi => (by omega), Below.refl _ _⟩
      case round =>
        obtain ⟨k, hk, rfl, hall, hBW⟩ := hrel
        have hBW' := Lib.hid hBW
        clear hBW
        by_cases hlt : k < 16
        · have hkL : k < L.length := by omega
          rcases hrow'.out with hr | ⟨rb, ro, hra, hr⟩
          · rw [hr] at hlen; simp at hlen
          injection hra with hra
          injection hra with hrb hro
          subst hrb hro
          have hcV := Keeps.of_below hBW'.out _ _ (hr k hkL).1
          rw [Nat.zero_add] at hcV
          have hLs := (hr k hkL).2
          unfold lenMax at hLs
          have hLs2 : ((L[k]).size : Int) ≤ 140737488355328 := by omega
          have hLe : Hid (L[k] = tS (signsL[k]'(by have : signsL.length = 16 := rfl; omega))) := hLk.out k hkL _
          generalize L[k] = m at hcV hLs hLs2 hLe
          clear hr hLs
          by_cases hsz : m.size ≤ s.size
          · have hdz : decide ((m.size : Int) ≤ (s.size : Int)) = true := by rw [decide_eq_true_eq]; omega
            have hmi : (m.size : Int) ≤ (s.size : Int) := by omega
            have hpe : Hid (((s.extract 0 m.size).toList == m.toList) = (bS m).isPrefixOf (bS s)) := pre_eq hsz
            cases hp : ((s.extract 0 m.size).toList == m.toList)
            · go_wp2_with fail
              go_quiet (fail)
              go_wp2_with fail
              go_roundw
              case rel => exact ⟨k + 1, by omega, by go_num, fun i hi hs => by
                  rcases Nat.lt_or_ge i k with h | h
                  · exact hall.out i h hs
                  · obtain rfl : i = k := by omega
                    have := hpe.out
                    rw [hp, hLe.out, bS_tS] at this
                    exact this.symm, below_drewN' hBW'.out _⟩
              case measure => simp [intOf]; omega
            · have hbn := fun n => hxV.out.below (below_drewN' hBW'.out n)
              have hD0 := fun n => (hbn n).cells.1.1
              have hD1 := fun n => (hbn n).cells.1.2.1
              have hD2 := fun n => (hbn n).cells.1.2.2.1
              have hD3 := fun n => (hbn n).cells.1.2.2.2.1
              have hD4 := fun n => (hbn n).cells.1.2.2.2.2
              have hDf := fun n => (hbn n).cells.2
              have hDm := fun n => Keeps.of_below (below_drewN' (Below.refl wr.heap.size wr) n) _ _ hcV
              have hU' := Lib.hid (fun n => (hbn n).set (.int .i64 4) (.string m) (.int .i64 0) (.int .i64 0) (.int .i64 0))
              have hbn' := Lib.hid hbn
              clear hbn
              go_wp2_with fail
              go_quiet (fail)
              go_wp2_with fail
              refine set5_fold ?_
              refine bodyPost_ret (results_tok rfl _ _ rfl rfl (hU'.out _).1.cells.1) rfl ⟨?_, (hwV.out.trans ((below_drewN' hBW'.out _).mono hwV.out.size)).trans ((hU'.out _).2.below.mono (by have := hwV.out.size; omega))⟩
              rw [← hon.out, find_first signsL k (by have : signsL.length = 16 := rfl; omega) (fun j hj hl => hall.out j hj hl) (by
                have := hpe.out
                rw [hp, hLe.out, bS_tS] at this
                exact this.symm)]
              exact TokR_some m hLe.out.symm rfl
          · have hdz : decide ((m.size : Int) ≤ (s.size : Int)) = false := by rw [decide_eq_false_iff_not]; omega
            go_wp2_with fail
            go_quiet (fail)
            go_wp2_with fail
            go_roundw
            case rel => exact ⟨k + 1, by omega, by go_num, fun i hi hs => by
                rcases Nat.lt_or_ge i k with h | h
                · exact hall.out i h hs
                · obtain rfl : i = k := by omega
                  have := pre_long hsz
                  rw [hLe.out, bS_tS] at this
                  exact this, below_drewN' hBW'.out _⟩
            case measure => simp [intOf]; omega
        · obtain ⟨⟨q0, q1, q2, q3, q4⟩, qf⟩ := (hxV.out.below hBW'.out).cells
          have hU' := Lib.hid ((hxV.out.below hBW'.out).set (.int .i64 0) (.string ⟨#[]⟩) (.int .i64 0) (.int .i64 0) (.int .i64 0))
          go_wp2_with fail
          refine set5_fold ?_
          refine bodyPost_ret (results_tok rfl _ _ rfl rfl hU'.out.1.cells.1) rfl ⟨?_, (hwV.out.trans (hBW'.out.mono hwV.out.size)).trans (hU'.out.2.below.mono (by have := hwV.out.size; omega))⟩
          rw [← hon.out, find_no _ (fun j hj => hall.out j (by have : signsL.length = 16 := rfl; omega) hj)]
          exact ⟨_, _, _, rfl⟩
end Go.Proofs.YtchdfjihflmloaaDoor
