/- LayoutKeeps: without what was put the tokens are as they were. -/
import Derived.Test.YtchdfjihflmloaaDoorLayH
import Derived.Test.YtchdfjihflmloaaDoorLexX
namespace Go.Proofs.YtchdfjihflmloaaDoor
open Go.RowKit

theorem free_of {t : Tk} (h1 : keyT t pOpen = false) (h2 : keyT t pShut = false) (h3 : keyT t bOpen = false) (h4 : keyT t bShut = false) (h5 : keyT t semiT = false) : freeT t = true := by
  unfold freeT; rw [h1, h2, h3, h4, h5]; rfl
theorem own_of {t : Tk} (h3 : keyT t bOpen = false) (h4 : keyT t bShut = false) (h5 : keyT t semiT = false) : ownT t = true := by
  unfold ownT; rw [h3, h4, h5]; rfl
theorem take_own {m : List Tk} {k : Nat} {t : Tk} (hlt : k < m.length) (ht : m[k] = t) (h : ownT t = true) : (m.take (k + 1)).filter ownT = (m.take k).filter ownT ++ [t] := by
  rw [List.take_succ_eq_append_getElem hlt, List.filter_append, ht]
  simp [h]
theorem take_not {m : List Tk} {k : Nat} {t : Tk} (hlt : k < m.length) (ht : m[k] = t) (h : ownT t = false) : (m.take (k + 1)).filter ownT = (m.take k).filter ownT := by
  rw [List.take_succ_eq_append_getElem hlt, List.filter_append, ht]
  simp [h]

set_option maxHeartbeats 4000000 in
set_option maxRecDepth 100000 in
theorem layoutKeeps_c (a : Option Addr) (l : List Tk) (cap : Nat) (w : World) (hc : l.length ≤ cap) (ha : a = none → cap = 0) (hrow : TkRow w a l) (hE : RngOk w) (hM : MaxOk w) :
    Calls Tryd.prog 10 #[.slice a l.length cap] w fun e w' => e = .returned (.bool true) ∧ Below w.heap.size w w' := by
  have hup := Lib.hid (lay_awake w hE hM)
  have hrow' := Lib.hid hrow
  have ha' := Lib.hid ha
  clear hE hM hrow ha
  by_cases h5 : 500 < l.length
  · have h5i : (500 : Int) < (l.length : Int) := by omega
    go_enter Tryd.func10, Tryd.ntmps10
    go_wp2_with fail
    refine hup.out.mono ?_
    rintro e V ⟨rfl, hB⟩
    go_wp2_with fail
    go_ret
    exact ⟨rfl, hB⟩
  · have h5i : ¬ (500 : Int) < (l.length : Int) := by omega
    go_enter Tryd.func10, Tryd.ntmps10
    go_wp2_with fail
    refine hup.out.mono ?_
    rintro e V ⟨rfl, hB⟩
    have hbV := Lib.hid hB
    clear hB
    go_wp2_with fail
    go_loopw [4] (fun n W => ∃ k : Nat, k ≤ l.length ∧ n = .int .i64 k ∧ W = V ∧ Hid (∀ i (hi : i < k) (h1 : i < l.length), freeT l[i] = true)) (fun n _ => l.length - (intOf n).toNat)
    case atStart => exact ⟨0, by omega, rfl, rfl, fun i hi => by omega⟩
    case round =>
      obtain ⟨k, hk, rfl, rfl, hall⟩ := hrel
      by_cases hlt : k < l.length
      · have hki : (k : Int) < (l.length : Int) := by omega
        obtain ⟨b, off, rfl, hcell⟩ := (hrow'.out.keeps (Keeps.of_below hbV.out)).at (by rintro rfl; simp at hlt)
        obtain ⟨g0, g1, _, _, _⟩ := hcell k hlt
        obtain ⟨t, ht⟩ : ∃ t, l[k] = t := ⟨_, rfl⟩
        rw [ht] at g0 g1
        have ht' := Lib.hid ht
        clear hcell ht
        by_cases h4 : t.kind = 4
        · have k4 : (t.kind == 4) = true := by simpa using h4
          by_cases c1 : t.text = [123]
          · have f1 := txt_t c1
            clear h4 c1
            go_wp2_with fail
            go_ret
            exact ⟨rfl, hbV.out⟩
          · have f1 := txt_f c1
            by_cases c2 : t.text = [125]
            · have f2 := txt_t c2
              clear h4 c1 c2
              go_wp2_with fail
              go_ret
              exact ⟨rfl, hbV.out⟩
            · have f2 := txt_f c2
              by_cases c3 : t.text = [59]
              · have f3 := txt_t c3
                clear h4 c1 c2 c3
                go_wp2_with fail
                go_ret
                exact ⟨rfl, hbV.out⟩
              · have f3 := txt_f c3
                by_cases c4 : t.text = [40]
                · have f4 := txt_t c4
                  clear h4 c1 c2 c3 c4
                  go_wp2_with fail
                  go_ret
                  exact ⟨rfl, hbV.out⟩
                · have f4 := txt_f c4
                  by_cases c5 : t.text = [41]
                  · have f5 := txt_t c5
                    clear h4 c1 c2 c3 c4 c5
                    go_wp2_with fail
                    go_ret
                    exact ⟨rfl, hbV.out⟩
                  · have f5 := txt_f c5
                    have hfr : Hid (freeT t = true) := free_of (keyT_x c4) (keyT_x c5) (keyT_x c1) (keyT_x c2) (keyT_x c3)
                    clear h4 c1 c2 c3 c4 c5
                    go_wp2_with fail
                    go_roundw
                    case rel => exact ⟨k + 1, by omega, by go_num, trivial, fun i hi h1 => by
                      rcases Nat.lt_or_ge i k with h | h
                      · exact hall.out i h h1
                      · obtain rfl : i = k := by omega
                        rw [ht'.out]; exact hfr.out⟩
                    case measure => simp [intOf]; omega
        · have k4 : (t.kind == 4) = false := by simpa using h4
          have hfr : Hid (freeT t = true) := free_of (keyT_k h4) (keyT_k h4) (keyT_k h4) (keyT_k h4) (keyT_k h4)
          clear h4
          go_wp2_with fail
          go_roundw
          case rel => exact ⟨k + 1, by omega, by go_num, trivial, fun i hi h1 => by
            rcases Nat.lt_or_ge i k with h | h
            · exact hall.out i h h1
            · obtain rfl : i = k := by omega
              rw [ht'.out]; exact hfr.out⟩
          case measure => simp [intOf]; omega
      · obtain rfl : k = l.length := by omega
        obtain ⟨m, hm1, hm2, hm3⟩ := lay_keep l none true [] (fun t ht => by
          obtain ⟨i, hi, rfl⟩ := List.getElem_of_mem ht
          exact hall.out i hi hi) (fun c h => (nomatch h)) (fun _ => rfl)
        have hF : layF l = .ok m := hm1
        have hlay := lay_Layout a l cap wr (by omega) hc ha'.out (hrow'.out.keeps (Keeps.of_below hbV.out))
        rw [hF] at hlay
        have hlay' := Lib.hid hlay
        have hmx : m.length ≤ 2500 := by have := lay_max hF; omega
        have hm2' := Lib.hid hm2
        have hm3' : Hid (depB 0 m = some 0) := hm3
        clear hall hlay hF hm1 hm2 hm3
        go_wp2_with fail
        refine hlay'.out.mono ?_
        rintro e V1 ⟨⟨v, rfl, hv⟩, hB⟩
        obtain ⟨a1, c1, rfl⟩ := hv.open
        obtain ⟨W1, hW1⟩ : ∃ W, V1.alloc (.cells #[.int .i64 0, .int .i64 0] 26) = W := ⟨_, rfl⟩
        have hb1 : Below V1.heap.size V1 W1 := by rw [← hW1]; exact (Below.refl _ _).alloc (Nat.le_refl _) _
        have hp1 : Box2 W1 26 V1.heap.size (.int .i64 0) (.int .i64 0) := by rw [← hW1]; exact blk_new (Below.refl _ _)
        have hbW1 := Lib.hid ((hbV.out.trans (hB.mono hbV.out.size)).trans (hb1.mono (hbV.out.trans (hB.mono hbV.out.size)).size))
        have hS2 := Lib.hid (hv.keeps (Keeps.of_below hb1))
        have hp1' := Lib.hid hp1
        have hW1' := Lib.hid hW1
        clear hW1 hb1 hB hv hp1
        go_upto_region 11 with (fail)
        rw [hW1'.out]
        go_wp2_with fail
        go_loopw [9, 10, 11] (fun v d i W => ∃ (k n : Nat) (R : List Tk) (va : Option Addr) (vc : Nat), k ≤ m.length ∧ i = .int .i64 k ∧ d = .int .i64 n ∧ v = .slice va R.length vc ∧ n ≤ k ∧ R.length ≤ k ∧ Hid (depB n (m.drop k) = some 0) ∧ Hid ((m.take k).filter ownT = R) ∧ Hid (W.ownsRow W1.heap.size 33 5 (.slice va R.length vc) R.length (tkCs R)) ∧ Hid (Below W1.heap.size W1 W)) (fun _ _ i _ => m.length - (intOf i).toNat)
        case atStart => exact ⟨0, 0, [], none, 0, Nat.zero_le _, rfl, rfl, rfl, Nat.le_refl _, Nat.le_refl _, hm3', rfl, ⟨rfl, .inl ⟨rfl, rfl⟩⟩, Below.refl _ _⟩
        case round =>
          obtain ⟨k, n, R, va, vc, hk, rfl, rfl, rfl, hnk, hRk, hdep, hfil, hown, hbW⟩ := hrel
          obtain ⟨Wr, rfl⟩ : ∃ W, W = wr := ⟨_, rfl⟩
          by_cases hlt : k < m.length
          · have hki : (k : Int) < (m.length : Int) := by omega
            obtain ⟨b, off, rfl, hcell⟩ := (hS2.out.keeps (Keeps.of_below hbW.out)).at.2.2.at (by rintro rfl; simp at hlt)
            obtain ⟨g0, g1, g2, g3, g4⟩ := hcell k hlt
            obtain ⟨t, ht⟩ : ∃ t, m[k] = t := ⟨_, rfl⟩
            rw [ht] at g0 g1 g2 g3 g4
            have ht' := Lib.hid ht
            have hde : Hid ((if keyT t bOpen = true then depB (n + 1) (m.drop (k + 1)) else if keyT t bShut = true then (if n = 0 then none else depB (n - 1) (m.drop (k + 1))) else depB n (m.drop (k + 1))) = some 0) := by
              have h := hdep.out
              rw [List.drop_eq_getElem_cons hlt, ht, depB] at h
              exact h
            clear hcell ht hdep
            by_cases h4 : t.kind = 4
            · have k4 : (t.kind != 4) = false := by simpa using h4
              by_cases c1 : t.text = [123]
              · have f1 := txt_t c1
                have f2 := txt_f (x := t.text) (s := [125]) (by rw [c1]; decide)
                have how : Hid (ownT t = false) := by unfold Hid ownT; rw [keyT_t (s := bOpen) h4 c1]; rfl
                have hde' : Hid (depB (n + 1) (m.drop (k + 1)) = some 0) := by have h := hde.out; rw [if_pos (keyT_t (s := bOpen) h4 c1)] at h; exact h
                have hfi : Hid ((m.take (k + 1)).filter ownT = R) := by unfold Hid; rw [take_not hlt ht'.out how.out, hfil.out]
                have hw : IntKind.i64.wrap ((n : Int) + 1) = (n : Int) + 1 := IntWalk.i64_in _ (by omega)
                have hd0 : decide ((n : Int) + 1 < 0) = false := decide_eq_false (by omega)
                have hd1 : ¬ ((n : Int) + 1 < 0) := by omega
                clear h4 c1 hde g2 g3 g4
                go_wp2_with fail
                go_roundw
                case rel => exact ⟨k + 1, n + 1, R, va, vc, by omega, by go_num, by go_num, rfl, by omega, by omega, hde', hfi, hown, hbW⟩
                case measure => simp [intOf]; omega
              · have f1 := txt_f c1
                by_cases c2 : t.text = [125]
                · have f2 := txt_t c2
                  have how : Hid (ownT t = false) := by unfold Hid ownT; rw [keyT_t (s := bShut) h4 c2]; simp
                  have hpp : ∃ n', n = n' + 1 ∧ depB n' (m.drop (k + 1)) = some 0 := by
                    have h := hde.out
                    rw [if_neg (by rw [keyT_x (s := bOpen) c1]; simp), if_pos (keyT_t (s := bShut) h4 c2)] at h
                    cases n with
                    | zero => cases h
                    | succ n' => exact ⟨n', rfl, h⟩
                  obtain ⟨n', rfl, hd⟩ := hpp
                  have hde' := Lib.hid hd
                  have hfi : Hid ((m.take (k + 1)).filter ownT = R) := by unfold Hid; rw [take_not hlt ht'.out how.out, hfil.out]
                  have hw : IntKind.i64.wrap (n' : Int) = (n' : Int) := IntWalk.i64_in _ (by omega)
                  have hd1 : ¬ ((n' : Int) < 0) := by omega
                  clear h4 c1 c2 hde g2 g3 g4 hd
                  go_wp2_with fail
                  go_roundw
                  case rel => exact ⟨k + 1, n', R, va, vc, by omega, by go_num, by go_num, rfl, by omega, by omega, hde', hfi, hown, hbW⟩
                  case measure => simp [intOf]; omega
                · have f2 := txt_f c2
                  by_cases c3 : t.text = [59]
                  · have f3 := txt_t c3
                    have how : Hid (ownT t = false) := by unfold Hid ownT; rw [keyT_t (s := semiT) h4 c3]; simp
                    have hde' : Hid (depB n (m.drop (k + 1)) = some 0) := by have h := hde.out; rw [if_neg (by rw [keyT_x (s := bOpen) c1]; simp), if_neg (by rw [keyT_x (s := bShut) c2]; simp)] at h; exact h
                    have hfi : Hid ((m.take (k + 1)).filter ownT = R) := by unfold Hid; rw [take_not hlt ht'.out how.out, hfil.out]
                    have hd1 : ¬ ((n : Int) < 0) := by omega
                    clear h4 c1 c2 c3 hde g2 g3 g4
                    go_wp2_with fail
                    go_roundw
                    case rel => exact ⟨k + 1, n, R, va, vc, by omega, by go_num, by go_num, rfl, by omega, by omega, hde', hfi, hown, hbW⟩
                    case measure => simp [intOf]; omega
                  · have f3 := txt_f c3
                    have how : Hid (ownT t = true) := own_of (keyT_x c1) (keyT_x c2) (keyT_x c3)
                    have hde' : Hid (depB n (m.drop (k + 1)) = some 0) := by have h := hde.out; rw [if_neg (by rw [keyT_x (s := bOpen) c1]; simp), if_neg (by rw [keyT_x (s := bShut) c2]; simp)] at h; exact h
                    clear h4 c1 c2 c3
                    have hfi : Hid ((m.take (k + 1)).filter ownT = R ++ [t]) := by unfold Hid; rw [take_own hlt ht'.out how.out, hfil.out]
                    have hb2 : Below Wr.heap.size Wr (Wr.alloc (.cells (tkC t).toArray 33)) := (Below.refl _ _).alloc (Nat.le_refl _) _
                    have hown2 := Lib.hid (ownsRow_heap hown.out (w' := Wr.alloc (.cells (tkC t).toArray 33)) fun g hg => hb2.block g (ownBlock_ge hown.out hg).2)
                    have hnews : ∀ ad, some (⟨Wr.heap.size, 0, none⟩ : Addr) = some ad → ∀ j u, (tkC t)[j]? = some u → (Wr.alloc (.cells (tkC t).toArray 33)).cell? (ad.add j) = some u := by
                      intro ad had j v hj
                      cases had
                      exact cell_five_new (w := Wr) rfl t 33 j v hj
                    have hnews' := Lib.hid hnews
                    have hzW := Lib.hid hbW.out.size
                    have hb2' := Lib.hid hb2
                    obtain ⟨i0, hi, hz0, hz1', hz2'⟩ := info_of Tryd.infoTk
                    have hq1 : R.length + 1 ≤ maxLen := by unfold maxLen; omega
                    have hq2 : (R.length + 1) * 48 ≤ 140737488355328 := by omega
                    have hq3 : W1.heap.size ≤ (Wr.alloc (.cells (tkC t).toArray 33)).heap.size := Nat.le_trans hzW.out hb2.size
                    have hq4 : ∀ u ∈ tkC t, u.oneCell' = true := by intro u hu; simp [tkC] at hu; rcases hu with rfl | rfl | rfl | rfl | rfl <;> rfl
                    have hq1' := Lib.hid hq1
                    have hq2' := Lib.hid hq2
                    have hq3' := Lib.hid hq3
                    have hq4' := Lib.hid hq4
                    clear hde hnews hb2 hq1 hq2 hq3 hq4
                    go_wp2_with (at_builtin; go_must (refine wpList_append_own_src rfl (Operand.tmp 92) (Operand.tmp 97) 24 rfl W1.heap.size 33 i0 (.agg #[.int .i64 0, .string ⟨#[]⟩, .int .i64 0, .int .i64 0, .int .i64 0]) 5 48 Tryd.underlying24 hi hz0 hz1' hz2' rfl (by decide) _ _ _ rfl hown2.out (some ⟨Wr.heap.size, 0, none⟩) 1 1 (tkC t) rfl (fun e => (nomatch e)) rfl hnews'.out hq4'.out hq1'.out hq2'.out hq3'.out ?_); intro v2 w3 hown3 hg3 _; have hb3 := Lib.hid ((hbW.out.trans (hb2'.out.mono hzW.out)).grown hg3 hq3'.out (fun q e => (ownBlock_ge hown2.out e).1)); obtain ⟨va2, vc2, rfl, _⟩ := tk_own_form hown3; have hown3' := Lib.hid hown3; clear hown3 hg3)
                    go_roundw
                    case rel => exact ⟨k + 1, n, R ++ [t], va2, vc2, by omega, by go_num, by go_num, by simp, by omega, by simp; omega, hde', hfi, by have h := hown3'.out; unfold Hid; rw [List.length_append, tkCs_append, show tkCs [t] = tkC t by simp [tkCs]]; exact h, hb3⟩
                    case measure => simp [intOf]; omega
            · have k4 : (t.kind != 4) = true := by simpa using h4
              have how : Hid (ownT t = true) := own_of (keyT_k h4) (keyT_k h4) (keyT_k h4)
              have hde' : Hid (depB n (m.drop (k + 1)) = some 0) := by have h := hde.out; rw [if_neg (by rw [keyT_k (s := bOpen) h4]; simp), if_neg (by rw [keyT_k (s := bShut) h4]; simp)] at h; exact h
              clear h4
              have hfi : Hid ((m.take (k + 1)).filter ownT = R ++ [t]) := by unfold Hid; rw [take_own hlt ht'.out how.out, hfil.out]
              have hb2 : Below Wr.heap.size Wr (Wr.alloc (.cells (tkC t).toArray 33)) := (Below.refl _ _).alloc (Nat.le_refl _) _
              have hown2 := Lib.hid (ownsRow_heap hown.out (w' := Wr.alloc (.cells (tkC t).toArray 33)) fun g hg => hb2.block g (ownBlock_ge hown.out hg).2)
              have hnews : ∀ ad, some (⟨Wr.heap.size, 0, none⟩ : Addr) = some ad → ∀ j u, (tkC t)[j]? = some u → (Wr.alloc (.cells (tkC t).toArray 33)).cell? (ad.add j) = some u := by
                intro ad had j v hj
                cases had
                exact cell_five_new (w := Wr) rfl t 33 j v hj
              have hnews' := Lib.hid hnews
              have hzW := Lib.hid hbW.out.size
              have hb2' := Lib.hid hb2
              obtain ⟨i0, hi, hz0, hz1', hz2'⟩ := info_of Tryd.infoTk
              have hq1 : R.length + 1 ≤ maxLen := by unfold maxLen; omega
              have hq2 : (R.length + 1) * 48 ≤ 140737488355328 := by omega
              have hq3 : W1.heap.size ≤ (Wr.alloc (.cells (tkC t).toArray 33)).heap.size := Nat.le_trans hzW.out hb2.size
              have hq4 : ∀ u ∈ tkC t, u.oneCell' = true := by intro u hu; simp [tkC] at hu; rcases hu with rfl | rfl | rfl | rfl | rfl <;> rfl
              have hq1' := Lib.hid hq1
              have hq2' := Lib.hid hq2
              have hq3' := Lib.hid hq3
              have hq4' := Lib.hid hq4
              clear hde hnews hb2 hq1 hq2 hq3 hq4
              go_wp2_with (at_builtin; go_must (refine wpList_append_own_src rfl (Operand.tmp 92) (Operand.tmp 97) 24 rfl W1.heap.size 33 i0 (.agg #[.int .i64 0, .string ⟨#[]⟩, .int .i64 0, .int .i64 0, .int .i64 0]) 5 48 Tryd.underlying24 hi hz0 hz1' hz2' rfl (by decide) _ _ _ rfl hown2.out (some ⟨Wr.heap.size, 0, none⟩) 1 1 (tkC t) rfl (fun e => (nomatch e)) rfl hnews'.out hq4'.out hq1'.out hq2'.out hq3'.out ?_); intro v2 w3 hown3 hg3 _; have hb3 := Lib.hid ((hbW.out.trans (hb2'.out.mono hzW.out)).grown hg3 hq3'.out (fun q e => (ownBlock_ge hown2.out e).1)); obtain ⟨va2, vc2, rfl, _⟩ := tk_own_form hown3; have hown3' := Lib.hid hown3; clear hown3 hg3)
              go_roundw
              case rel => exact ⟨k + 1, n, R ++ [t], va2, vc2, by omega, by go_num, by go_num, by simp, by omega, by simp; omega, hde', hfi, by have h := hown3'.out; unfold Hid; rw [List.length_append, tkCs_append, show tkCs [t] = tkC t by simp [tkCs]]; exact h, hb3⟩
              case measure => simp [intOf]; omega
          · obtain rfl : k = m.length := by omega
            have hR : R = l := by
              have h := hfil.out
              rw [List.take_length, hm2'.out] at h
              exact h.symm
            subst hR
            have hn0 : n = 0 := by
              have h := hdep.out
              rw [List.drop_length, depB] at h
              simpa using h
            subst hn0
            have hsm := r02_Same _ _ R R Wr (TkSl.own hown.out) ⟨a, cap, rfl, ⟨ha'.out, hc⟩, hrow'.out.keeps (Keeps.of_below (hbW1.out.trans (hbW.out.mono hbW1.out.size)))⟩ (by omega) (by omega)
            rw [decide_eq_true rfl] at hsm
            have hsm' := Lib.hid hsm
            have hpW := Lib.hid (hp1'.out.below hbW.out)
            have hbb := Lib.hid (hbW1.out.trans (hbW.out.mono hbW1.out.size))
            clear hsm
            go_wp2_with fail
            refine hsm'.out.mono ?_
            rintro e V3 ⟨rfl, hB⟩
            obtain ⟨⟨e0, e1⟩, _⟩ := (hpW.out.below hB).cells
            have hbV3 := Lib.hid (hbb.out.trans (hB.mono hbb.out.size))
            clear hB
            go_wp2_with fail
            go_ret
            exact ⟨rfl, hbV3.out⟩
theorem layoutKeeps_v (v : Value) (l : List Tk) (w : World) (h : TkSl w v l) (hE : RngOk w) (hM : MaxOk w) :
    Calls Tryd.prog 10 #[v] w fun e w' => e = .returned (.bool true) ∧ Below w.heap.size w w' := by
  obtain ⟨a, c, rfl, ⟨ha, hc⟩, hr⟩ := h
  exact layoutKeeps_c a l c w hc ha hr hE hM
end Go.Proofs.YtchdfjihflmloaaDoor
