/- lex.token, walked. -/
import Derived.Test.YtchdfjihflmloaaGreatDoorLexY
import Derived.Test.YtchdfjihflmloaaGreatDoorLxE
namespace Go.Proofs.YtchdfjihflmloaaGreatDoor
open Go.RowKit

theorem ByteRow.take {w : World} {a : Option Addr} {l : Bs} (h : ByteRow w a l) (n : Nat) : ByteRow w a (l.take n) := by
  rcases h with h | ⟨b, off, rfl, h⟩
  · subst h; exact .inl (by simp)
  · refine .inr ⟨b, off, rfl, fun i hi => ?_⟩
    rw [List.length_take] at hi
    rw [h i (by omega), List.getElem_take]
theorem Box5.put2 {w : World} {t : TypeId} {b : Nat} {x0 x1 x2 x3 x4 : Value} (h : Box5 w t b x0 x1 x2 x3 x4) (y : Value) : Box5 (w.setCell ⟨b, 2, none⟩ y) t b x0 x1 y x3 x4 ∧ OneSet b w (w.setCell ⟨b, 2, none⟩ y) := by
  unfold Box5 at h
  exact ⟨by unfold Box5; simp [World.setCell, Array.getElem?_modify, h], OneSet.cell _ _ _ _⟩
/-- ErrRange is laid. -/
def RngOk (w : World) : Prop := ∃ te pe, w.cell? ⟨2, 0, none⟩ = some (.iface te pe)
theorem RngOk.keeps {w W : World} (h : RngOk w) (hk : Keeps w W) : RngOk W := by
  obtain ⟨te, pe, h⟩ := h
  exact ⟨te, pe, hk _ _ h⟩
theorem answers_digit (w : World) : Answers Tryz.prog 39 #[] dgB w := fun W x _ => by rw [← dig_fun]; exact lex_digit x W
theorem enters_digit (args : Array Value) (w : World) : (callFunc 39 args).run Tryz.prog w = .ok (.enter 39 args) w := Tryz.call39 args w
theorem runN_pos {p : UInt8 → Bool} {l : Bs} : 0 < runN p l ↔ headB p l = true := by
  cases l with
  | nil => simp [runN, headB]
  | cons b r =>
    cases h : p b
    · simp [runN, headB, List.takeWhile_cons, h]
    · simp [runN, headB, List.takeWhile_cons, h]
theorem signN_le (l : Bs) : signN l ≤ l.length := by
  unfold signN
  split
  · rename_i h
    rw [List.any_eq_true] at h
    obtain ⟨m, hm, hp⟩ := h
    rw [List.isPrefixOf_iff_prefix] at hp
    have := hp.length_le
    rw [dbl_two m hm] at this
    exact this
  · split
    · cases l with
      | nil => rename_i h; simp at h
      | cons b r => simp
    · exact Nat.zero_le _
theorem runN_le (p : UInt8 → Bool) (l : Bs) : runN p l ≤ l.length := by unfold runN; exact (List.takeWhile_prefix p).length_le

/-- ParseInt at a run of digits. -/
theorem call_digits (l : Bs) (hd : l.all dgB = true) (hne : l ≠ []) (hl : l.length ≤ 1000000) (w : World) (hE : RngOk w) : Calls Tryz.prog 40 #[.string (tS l), .int .i64 10, .int .i64 64] w fun e w' => ∃ ev : Value, ∃ x : Int, e = .returned (.tuple #[.int .i64 x, ev]) ∧ (numL l ≤ maxI → x = numL l ∧ ev = .nilIface) ∧ (¬ numL l ≤ maxI → ∃ t p, ev = .iface t p) ∧ Below w.heap.size w w' := by
  obtain ⟨te, pe, hE⟩ := hE
  have ha := atoi_digits hne hd
  have hsz : (tS l).size = l.length := rfl
  have hdt : (tS l).data.toList = l := rfl
  by_cases h : numL l ≤ maxI
  · rw [if_pos h] at ha
    refine (Tryz.strconv_ParseInt_10_at64_ok (tS l) (by rw [hsz]; omega) (numL l : Int) (by rw [hdt]; exact ha) w).mono ?_
    rintro e w' ⟨rfl, hw⟩
    refine ⟨_, _, rfl, fun _ => ⟨rfl, rfl⟩, fun h2 => absurd h h2, ?_⟩
    rcases hw with rfl | ⟨t, rfl⟩
    · exact Below.refl _ _
    · exact below_bytesWorld _ _ _
  · rw [if_neg h] at ha
    refine (Tryz.strconv_ParseInt_10_at64_range (tS l) (by rw [hsz]; omega) (by rw [hdt]; exact ha) (.iface te pe) w hE (.inr ⟨te, pe, rfl⟩)).mono ?_
    rintro e w' ⟨N, rfl, hN, hc, hB⟩
    exact ⟨_, _, rfl, fun h2 => absurd h2 h, fun _ => ⟨_, _, rfl⟩, hB⟩

set_option maxHeartbeats 4000000 in
set_option maxRecDepth 100000 in
theorem lex_token (a : Option Addr) (l : Bs) (cap : Nat) (w : World) (hl : l.length ≤ 1000000) (hc : l.length ≤ cap) (hr : ByteRow w a l) (hE : RngOk w) :
    Calls Tryz.prog 31 #[.slice a l.length cap] w fun r w' => TokR (tokF l) r ∧ Below w.heap.size w w' := by
  obtain ⟨W1, hW1⟩ : ∃ W, w.alloc (.cells #[.int .i64 0, .string ⟨#[]⟩, .int .i64 0, .int .i64 0, .int .i64 0] 34) = W := ⟨_, rfl⟩
  have hb1 : Below w.heap.size w W1 := by rw [← hW1]; exact (Below.refl _ w).alloc (Nat.le_refl _) _
  have hx1 : Box5 W1 34 w.heap.size (.int .i64 0) (.string ⟨#[]⟩) (.int .i64 0) (.int .i64 0) (.int .i64 0) := by rw [← hW1]; exact blk_new (Below.refl _ _)
  have hr1 := Lib.hid (hr.keeps (Keeps.of_below hb1))
  have hE1 := Lib.hid (hE.keeps (Keeps.of_below hb1))
  have hW1' := Lib.hid hW1
  have hb1' := Lib.hid hb1
  have hx1' := Lib.hid hx1
  obtain ⟨o, ho⟩ : ∃ o, tokF l = o := ⟨_, rfl⟩
  rw [ho]
  have ho' := Lib.hid ho
  have hrun1 := lex_run a l cap 39 #[] dgB W1 (by unfold lenMax; omega) hr1.out (answers_digit _) enters_digit
  obtain ⟨n, hn⟩ : ∃ n, runN dgB l = n := ⟨_, rfl⟩
  rw [hn] at hrun1
  have hrun1' := Lib.hid hrun1
  have hn' := Lib.hid hn
  have hnl : n ≤ l.length := by rw [← hn]; exact runN_le _ _
  have hpos := runN_pos (p := dgB) (l := l)
  rw [hn] at hpos
  have hpos' := Lib.hid hpos
  clear hW1 hb1 hx1 ho hr hE hrun1 hn hpos
  go_enter Tryz.func31, Tryz.ntmps31
  go_upto_region 1 with (fail)
  rw [hW1'.out]
  go_upto_region 2 with ((with_reducible refine hrun1'.out.mono ?_); rintro e V ⟨rfl, rfl⟩)
  by_cases hn0 : 0 < n
  · have hn0i : (0 : Int) < (n : Int) := by omega
    have hni : (n : Int) ≤ (cap : Int) := by omega
    have htl : (l.take n).length = n := by rw [List.length_take]; omega
    have hcv := fun (W : World) (c : Nat) (h : ByteRow W a (l.take n)) => conv_row W a (l.take n) c h
    rw [htl] at hcv
    have hcv1 := fun c => hcv W1 c (hr1.out.take n)
    have htw : Hid (l.takeWhile dgB = l.take n) := by unfold Hid; rw [← take_run, hn'.out]
    clear hcv htl
    obtain ⟨S, hS⟩ : ∃ S, tS (l.take n) = S := ⟨_, rfl⟩
    rw [hS] at hcv1
    obtain ⟨W2, hW2⟩ : ∃ W, World.set5 W1 w.heap.size (.int .i64 1) (.string S) (.int .i64 0) (.int .i64 0) (.int .i64 0) = W := ⟨_, rfl⟩
    have hU := hx1'.out.set (.int .i64 1) (.string S) (.int .i64 0) (.int .i64 0) (.int .i64 0)
    rw [hW2] at hU
    unfold World.set5 at hW2
    have hW2' := Lib.hid hW2
    have hpar := call_digits (l.take n) (by rw [← htw.out]; exact all_take_run _ _) (by intro e; have := congrArg List.length e; rw [List.length_take, List.length_nil] at this; omega) (by rw [List.length_take]; omega) W2 (by
      obtain ⟨te, pe, h⟩ := hE1.out
      refine ⟨te, pe, ?_⟩
      by_cases h2 : (2 : Nat) = w.heap.size
      · have hc := hx1'.out.cells.1.1
        rw [← h2, h] at hc; cases hc
      · unfold World.cell? at h ⊢
        rw [hU.2.other 2 h2]; exact h)
    rw [hS] at hpar
    have hpar' := Lib.hid hpar
    have hU' := Lib.hid hU
    have hbW2 := Lib.hid (hb1'.out.trans hU.2.below)
    obtain ⟨⟨q0, q1, q2, q3, q4⟩, qf⟩ := hx1'.out.cells
    obtain ⟨⟨p0, p1, p2, p3, p4⟩, pf⟩ := hU.1.cells
    have hto : Hid (o = if numL (l.take n) ≤ maxI then some (1, l.take n, numL (l.take n)) else none) := by
      unfold Hid
      rw [← ho'.out]
      unfold tokF
      rw [if_pos (hpos'.out.1 hn0), htw.out]
    have hS' := Lib.hid hS
    clear hW2 hU hpar hS
    go_upto_region 4 with (fail)
    rw [hW2'.out]
    go_wp2_with fail
    refine hpar'.out.mono ?_
    rintro e V ⟨ev, x, rfl, hok, hbad, hB⟩
    have hbV := Lib.hid (hbW2.out.trans (hB.mono hbW2.out.size))
    have hxV := Lib.hid (hU'.out.1.below hB)
    have hUx := hxV.out.put2 (.int .i64 x)
    have hUx' := Lib.hid hUx
    clear q0 q1 q2 q3 q4 qf p0 p1 p2 p3 p4 pf hB
    obtain ⟨⟨q0, q1, q2, q3, q4⟩, qf⟩ := hxV.out.cells
    obtain ⟨V2, hV2⟩ : ∃ W, V.setCell ⟨w.heap.size, 2, none⟩ (.int .i64 x) = W := ⟨_, rfl⟩
    rw [hV2] at hUx
    obtain ⟨⟨p0, p1, p2, p3, p4⟩, pf⟩ := hUx.1.cells
    have hUx' := Lib.hid hUx
    have hV2' := Lib.hid hV2
    clear hUx hV2
    have hfs := hUx'.out.1.set (.int .i64 1) (.string S) (.int .i64 x) (.int .i64 0) (.int .i64 0)
    have hfin := Lib.hid (hfs.1.below (Below.refl _ _).drew)
    have hfb := Lib.hid (((hbV.out.trans (hUx'.out.2.below.mono (Nat.le_refl _))).trans hfs.2.below).drew)
    clear hfs
    by_cases hM : numL (l.take n) ≤ maxI
    · obtain ⟨rfl, rfl⟩ := hok hM
      clear hok hbad
      go_upto_region 6 with (fail)
      rw [hV2'.out]
      go_region
      go_wp2_with fail
      refine bodyPost_ret (results_tok rfl _ _ rfl rfl hfin.out.cells.1) rfl ⟨?_, hfb.out⟩
      rw [hto.out, if_pos hM]
      exact TokR_some S hS'.out rfl
    · obtain ⟨te, pe, rfl⟩ := hbad hM
      clear hok hbad
      go_upto_region 6 with (fail)
      rw [hV2'.out]
      go_region
      go_wp2_with fail
      refine bodyPost_ret (results_tok rfl _ _ rfl rfl hfin.out.cells.1) rfl ⟨?_, hfb.out⟩
      rw [hto.out, if_neg hM]
      exact ⟨_, _, _, rfl⟩
  · have hn00 : n = 0 := by omega
    subst hn00
    have hd0 : Hid (headB dgB l = false) := by
      unfold Hid
      rw [← Bool.not_eq_true]
      exact fun h => hn0 (hpos'.out.2 h)
    have hrun2 := lex_run a l cap 41 #[] ptB W1 (by unfold lenMax; omega) hr1.out (by rw [← prt_fun]; exact answers_part _) enters_part
    obtain ⟨n, hn⟩ : ∃ n, runN ptB l = n := ⟨_, rfl⟩
    rw [hn] at hrun2
    have hrun2' := Lib.hid hrun2
    have hnp : n ≤ l.length := by rw [← hn]; exact runN_le _ _
    have hpos := runN_pos (p := ptB) (l := l)
    rw [hn] at hpos
    have hn2' := Lib.hid hn
    have hpos2' := Lib.hid hpos
    clear hrun2 hn hpos hn0 hnl hpos' hn' hrun1'
    go_upto_region 8 with ((with_reducible refine hrun2'.out.mono ?_); rintro e V ⟨rfl, rfl⟩)
    by_cases hn0 : 0 < n
    · have hn0i : (0 : Int) < (n : Int) := by omega
      have hni : (n : Int) ≤ (cap : Int) := by omega
      have htl : (l.take n).length = n := by rw [List.length_take]; omega
      have hcv := fun (W : World) (c : Nat) (h : ByteRow W a (l.take n)) => conv_row W a (l.take n) c h
      rw [htl] at hcv
      have hcv1 := fun c => hcv W1 c (hr1.out.take n)
      have htw : Hid (l.takeWhile ptB = l.take n) := by unfold Hid; rw [← take_run, hn2'.out]
      have hto : Hid (o = (wordK (l.take n)).map fun k => (k, l.take n, 0)) := by
        unfold Hid
        rw [← ho'.out]
        unfold tokF
        rw [if_neg (by rw [hd0.out]; simp), if_pos (hpos2'.out.1 hn0), htw.out]
      clear hcv htl
      have hto2 : Hid (o = (wordK (bS (tS (l.take n)))).map fun k => (k, bS (tS (l.take n)), 0)) := hto.out
      obtain ⟨S, hS⟩ : ∃ S, tS (l.take n) = S := ⟨_, rfl⟩
      rw [hS] at hcv1 hto2
      clear hS hto
      have hkw : Hid (wordB S = wdB (bS S)) := word_eq S
      have hkn : Hid (nameB S = nmB (bS S)) := name_eq S
      have hkc : Hid (conB S = cnB (bS S)) := con_eq S
      have hwd := lex_word S W1
      have hnm := lex_Name S W1
      rw [hkw.out] at hwd
      rw [hkn.out] at hnm
      have hwd' := Lib.hid hwd
      have hnm' := Lib.hid hnm
      obtain ⟨⟨q0, q1, q2, q3, q4⟩, qf⟩ := hx1'.out.cells
      clear hwd hnm
      go_upto_region 10 with (fail)
      cases hw : wdB (bS S)
      · rw [hw] at hwd'
        have hw' := Lib.hid hw
        clear hw
        go_wp2_with fail
        refine hwd'.out.mono ?_
        rintro e V ⟨rfl, rfl⟩
        cases hm : nmB (bS S)
        · rw [hm] at hnm'
          have hm' := Lib.hid hm
          clear hm
          go_wp2_with fail
          refine hnm'.out.mono ?_
          rintro e V ⟨rfl, hB⟩
          have hcn := lex_Con S V
          rw [hkc.out] at hcn
          have hcn' := Lib.hid hcn
          have hwV := Lib.hid (hb1'.out.trans (hB.mono hb1'.out.size))
          have hxV := Lib.hid (hx1'.out.below hB)
          clear hB hcn q0 q1 q2 q3 q4 qf
          go_wp2_with fail
          refine hcn'.out.mono ?_
          rintro e V2 ⟨rfl, hB⟩
          have hwV2 := Lib.hid (hwV.out.trans (hB.mono hwV.out.size))
          have hxV2 := Lib.hid (hxV.out.below hB)
          clear hB
          obtain ⟨⟨q0, q1, q2, q3, q4⟩, qf⟩ := hxV2.out.cells
          have hU' := Lib.hid (hxV2.out.set (.int .i64 3) (.string S) (.int .i64 0) (.int .i64 0) (.int .i64 0))
          go_wp2_with fail
          refine set5_fold ?_
          refine bodyPost_ret (results_tok rfl _ _ rfl rfl hU'.out.1.cells.1) rfl ⟨?_, hwV2.out.trans (hU'.out.2.below.mono (by have := hwV2.out.size; omega))⟩
          rw [hto2.out]
          unfold wordK
          rw [if_neg (by rw [hw'.out]; simp), if_neg (by rw [hm'.out]; simp)]
          cases cnB (bS S)
          · exact ⟨_, _, _, rfl⟩
          · rfl
        · rw [hm] at hnm'
          have hm' := Lib.hid hm
          clear hm
          go_wp2_with fail
          refine hnm'.out.mono ?_
          rintro e V ⟨rfl, hB⟩
          have hwV := Lib.hid (hb1'.out.trans (hB.mono hb1'.out.size))
          have hxV := Lib.hid (hx1'.out.below hB)
          clear hB q0 q1 q2 q3 q4 qf
          obtain ⟨⟨q0, q1, q2, q3, q4⟩, qf⟩ := hxV.out.cells
          have hU' := Lib.hid (hxV.out.set (.int .i64 2) (.string S) (.int .i64 0) (.int .i64 0) (.int .i64 0))
          go_wp2_with fail
          refine set5_fold ?_
          refine bodyPost_ret (results_tok rfl _ _ rfl rfl hU'.out.1.cells.1) rfl ⟨?_, hwV.out.trans (hU'.out.2.below.mono (by have := hwV.out.size; omega))⟩
          rw [hto2.out]
          unfold wordK
          rw [if_neg (by rw [hw'.out]; simp), if_pos hm'.out]
          rfl
      · rw [hw] at hwd'
        have hw' := Lib.hid hw
        clear hw
        have hU' := Lib.hid (hx1'.out.set (.int .i64 4) (.string S) (.int .i64 0) (.int .i64 0) (.int .i64 0))
        go_wp2_with fail
        refine hwd'.out.mono ?_
        rintro e V ⟨rfl, rfl⟩
        go_wp2_with fail
        refine set5_fold ?_
        refine bodyPost_ret (results_tok rfl _ _ rfl rfl hU'.out.1.cells.1) rfl ⟨?_, hb1'.out.trans (hU'.out.2.below.mono (by omega))⟩
        rw [hto2.out]
        unfold wordK
        rw [if_pos hw'.out]
        rfl
    · have hn00 : n = 0 := by omega
      subst hn00
      have hp0 : Hid (headB ptB l = false) := by
        unfold Hid
        rw [← Bool.not_eq_true]
        exact fun h => hn0 (hpos2'.out.2 h)
      have hsg := Lib.hid (lex_sign a l cap W1 hl hc hr1.out)
      have hto : Hid (o = (if 0 < signN l then some (l.take (signN l)) else none).map fun s => (4, s, 0)) := by
        unfold Hid
        rw [← ho'.out, ← sign_tok]
        unfold tokF
        rw [if_neg (by rw [hd0.out]; simp), if_neg (by rw [hp0.out]; simp)]
      go_upto_region 16 with ((with_reducible refine hsg.out.mono ?_); rintro e V ⟨rfl, hB⟩)
      have hsl := signN_le l
      have hni : (signN l : Int) ≤ (cap : Int) := by omega
      have hwV := Lib.hid (hb1'.out.trans (hB.mono hb1'.out.size))
      have hxV := Lib.hid (hx1'.out.below hB)
      have htl : (l.take (signN l)).length = signN l := by rw [List.length_take]; omega
      have hcv1 := conv_row V a (l.take (signN l)) cap ((hr1.out.keeps (Keeps.of_below hB)).take _)
      rw [htl] at hcv1
      obtain ⟨S, hS⟩ : ∃ S, tS (l.take (signN l)) = S := ⟨_, rfl⟩
      rw [hS] at hcv1
      have hS' := Lib.hid hS
      obtain ⟨n, hn⟩ : ∃ n, signN l = n := ⟨_, rfl⟩
      rw [hn] at hto hsl hni hcv1 hS'
      rw [hn]
      clear hB htl hS hn hsg hn0
      obtain ⟨⟨q0, q1, q2, q3, q4⟩, qf⟩ := hxV.out.cells
      have hU' := Lib.hid (hxV.out.set (.int .i64 4) (.string S) (.int .i64 0) (.int .i64 0) (.int .i64 0))
      by_cases hn0 : 0 < n
      · have hn0i : (0 : Int) < (n : Int) := by omega
        go_wp2_with fail
        refine set5_fold ?_
        refine bodyPost_ret (results_tok rfl _ _ rfl rfl hU'.out.1.cells.1) rfl ⟨?_, hwV.out.trans (hU'.out.2.below.mono (by have := hwV.out.size; omega))⟩
        rw [hto.out, if_pos hn0]
        exact TokR_some S hS'.out rfl
      · have hn00 : n = 0 := by omega
        subst hn00
        go_wp2_with fail
        refine set5_fold ?_
        refine bodyPost_ret (results_tok rfl _ _ rfl rfl hU'.out.1.cells.1) rfl ⟨?_, hwV.out.trans (hU'.out.2.below.mono (by have := hwV.out.size; omega))⟩
        rw [hto.out, if_neg hn0]
        exact ⟨_, _, _, rfl⟩
end Go.Proofs.YtchdfjihflmloaaGreatDoor
