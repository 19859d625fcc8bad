/- PrintLong, walked. -/
import Derived.Test.YtpdfeadajgokkaaDoorAwake
import Derived.Test.YtpdfeadajgokkaaDoorLong
namespace Go.Proofs.YtpdfeadajgokkaaDoor
open Go.RowKit

theorem tree_Size (e : Ex) (v : Value) (w : World) (hv : IsEx w v e) : Calls Tryd.prog 9 #[v] w fun r w' => r = .returned (.int .i64 (min (cnt e : Int) 100001)) ∧ Below w.heap.size w w' := by
  have hv0 := hv
  obtain ⟨k, s, n, l, ks⟩ := e
  obtain ⟨a1, c1, a2, c2, rfl, _⟩ := hv.open
  have hB0 : Below (w.heap.size + 1) (w.alloc (.cells #[.int .i64 k, .string s, .int .i64 n, .slice a1 l.length c1, .slice a2 ks.length c2] 25)) (w.alloc (.cells #[.int .i64 k, .string s, .int .i64 n, .slice a1 l.length c1, .slice a2 ks.length c2] 25)) := Below.refl _ _
  have hbw := Lib.hid (below_box hB0)
  have hcall := Lib.hid (tree_size _ _ 100000 _ (hv0.keeps (Keeps.of_below hbw.out)) (by omega) (by omega))
  clear hv hv0 hB0
  go_enter Tryd.func9, Tryd.ntmps9
  go_wp2_with fail
  refine hcall.out.mono ?_
  rintro e w1 ⟨rfl, hB1⟩
  go_wp2_with fail
  go_ret
  exact ⟨rfl, hbw.out.trans (hB1.mono (by simp))⟩

theorem few_open {e : Ex} (h : fewB e = true) : cnt e ≤ 2000 ∧ dep e ≤ 40 ∧ shortB e = true := by
  simpa [fewB, and_assoc] using h
theorem few_len {e : Ex} {w : World} {v : Value} (h : fewB e = true) (hv : IsEx w v e) (hc : chkB e = true) : (textE e).length ≤ 9800000 := by
  have := text_le (chk_snd hc) (few_open h).2.2 hv.numOk
  have := (few_open h).1
  omega
theorem bs_take_succ (s : Str) (k : Nat) (h : k < s.size) : (bs s).take (k + 1) = (bs s).take k ++ [s[k]] := by
  rw [List.take_succ_eq_append_getElem (by rw [bs_len]; exact h)]; rfl
theorem rc_one (o c b : UInt8) : rc o c [b] = (if b = o then 1 else 0) - (if b = c then 1 else 0) := by
  simp only [rc, List.count_cons, List.count_nil, beq_iff_eq]
  split <;> split <;> rfl
theorem byte_eq40 (b : UInt8) : ((b.toNat : Int) == 40) = decide (b = 40) := by
  rw [Bool.eq_iff_iff]; simp [← UInt8.toNat_inj]; omega
theorem byte_eq41 (b : UInt8) : ((b.toNat : Int) == 41) = decide (b = 41) := by
  rw [Bool.eq_iff_iff]; simp [← UInt8.toNat_inj]; omega
theorem byte_eq123 (b : UInt8) : ((b.toNat : Int) == 123) = decide (b = 123) := by
  rw [Bool.eq_iff_iff]; simp [← UInt8.toNat_inj]; omega
theorem byte_eq125 (b : UInt8) : ((b.toNat : Int) == 125) = decide (b = 125) := by
  rw [Bool.eq_iff_iff]; simp [← UInt8.toNat_inj]; omega

set_option maxHeartbeats 4000000 in
set_option maxRecDepth 100000 in
theorem printLong_c (e : Ex) (v : Value) (w : World) (hv : IsExT w v e) : Calls Tryd.prog 4 #[v] w fun r w' => r = .returned (.bool true) ∧ Below w.heap.size w w' := by
  have hv0 := Lib.hid hv
  obtain ⟨k, s, n, l, ks⟩ := e
  obtain ⟨a1, c1, a2, c2, rfl, _⟩ := hv.1.open
  have hB0 : Below (w.heap.size + 1) (w.alloc (.cells #[.int .i64 k, .string s, .int .i64 n, .slice a1 l.length c1, .slice a2 ks.length c2] 25)) (w.alloc (.cells #[.int .i64 k, .string s, .int .i64 n, .slice a1 l.length c1, .slice a2 ks.length c2] 25)) := Below.refl _ _
  have hbw := Lib.hid (below_box hB0)
  have haw := Lib.hid (awake_c _ (hv.2.below hbw.out))
  clear hv hB0
  obtain ⟨e, he⟩ : ∃ e, Ex.mk k s n l ks = e := ⟨_, rfl⟩
  rw [he] at hv0
  have hFw := Lib.hid (fun W (hb : Below w.heap.size w W) => r04_Few e _ W (hv0.out.below hb).1)
  go_enter Tryd.func4, Tryd.ntmps4
  go_wp2_with fail
  refine haw.out.mono ?_
  rintro e w1 ⟨rfl, hB1⟩
  obtain ⟨k0, k1, k2, k3, k4⟩ := box5 (hB1.mono (by simp))
  have hBx1 := Lib.hid (hB1.mono (by simp) : Below (w.heap.size + 1) _ w1)
  have hb1 := Lib.hid (hbw.out.trans (hB1.mono (by simp)))
  clear hB1
  cases hf : fewB e
  · rw [hf] at hFw
    clear hf
    go_wp2_with fail
    refine (hFw.out _ hb1.out).mono ?_
    rintro e w2 ⟨rfl, hB2⟩
    go_wp2_with fail
    go_ret
    exact ⟨rfl, hb1.out.trans (hB2.mono hb1.out.size)⟩
  have hfl := Lib.hid (fun hc => few_len hf hv0.out.1 hc)
  have hf' := Lib.hid hf
  rw [hf] at hFw
  clear hf
  have hXp := Lib.hid (fun W (hb : Below w.heap.size w W) => print_Expr e _ W (hv0.out.below hb) (fun hc => Nat.le_trans (hfl.out hc) (by omega)))
  go_wp2_with fail
  refine (hFw.out _ hb1.out).mono ?_
  rintro e w2 ⟨rfl, hB2⟩
  have hBx2 := Lib.hid (hBx1.out.trans (hB2.mono (size_box hBx1.out)))
  have hb2 := Lib.hid (hb1.out.trans (hB2.mono hb1.out.size))
  clear hB2 k0 k1 k2 k3 k4
  obtain ⟨k0, k1, k2, k3, k4⟩ := box5 hBx2.out
  cases hc : chkB e
  · have hX : Hid (xprS e = ⟨#[]⟩ ∧ xprN e = 40) := ⟨by simp [xprS, hc], by simp [xprN, hc]⟩
    rw [hX.out.1, hX.out.2] at hXp
    clear hc
    go_wp2_with fail
    refine (hXp.out _ hb2.out).mono ?_
    rintro e w3 ⟨rfl, hB3⟩
    go_wp2_with fail
    go_ret
    exact ⟨rfl, hb2.out.trans (hB3.mono hb2.out.size)⟩
  have hsnd := Lib.hid (chk_snd hc)
  have hlen := hfl.out hc
  obtain ⟨S, hS⟩ : ∃ S, mkS (textE e) = S := ⟨_, rfl⟩
  have hT : Hid (textE e = bs S) := by rw [← hS]; rfl
  have hX : Hid (xprS e = S ∧ xprN e = 0) := ⟨by simp [xprS, hc, hS], by simp [xprN, hc]⟩
  have hsz : S.size ≤ 9800000 := by rw [← bs_len, ← hT.out]; exact hlen
  have hge : Hid (cnt e ≤ S.size) := by have := text_ge hsnd.out; rw [hT.out, bs_len] at this; exact this
  have hbr := Lib.hid (text_br hsnd.out)
  rw [hT.out] at hbr
  rw [hX.out.1, hX.out.2] at hXp
  have hcn : Hid (cnt e ≤ 2000) := (few_open hf'.out).1
  clear hc hlen hS
  go_wp2_with fail
  refine (hXp.out _ hb2.out).mono ?_
  rintro e w3 ⟨rfl, hB3⟩
  have hBx3 := Lib.hid (hBx2.out.trans (hB3.mono (size_box hBx2.out)))
  have hb3 := Lib.hid (hb2.out.trans (hB3.mono hb2.out.size))
  clear hB3 k0 k1 k2 k3 k4
  obtain ⟨k0, k1, k2, k3, k4⟩ := box5 hBx3.out
  go_wp2_with fail
  go_loop [6, 7, 8] (fun r c i => ∃ (j : Nat) (x y : Int), j ≤ S.size ∧ i = .int .i64 j ∧ r = .int .i64 x ∧ c = .int .i64 y ∧ 0 ≤ x ∧ x ≤ j ∧ 0 ≤ y ∧ y ≤ j ∧ Hid (x = rc 40 41 ((bs S).take j) ∧ y = rc 123 125 ((bs S).take j))) (fun _ _ i => S.size - (intOf i).toNat)
  case atStart => exact ⟨0, 0, 0, by omega, rfl, rfl, rfl, by omega, by omega, by omega, by omega, ⟨by simp [rc], by simp [rc]⟩⟩
  case round =>
    obtain ⟨j, x, y, hj, rfl, rfl, rfl, hx0, hx1, hy0, hy1, hxy⟩ := hrel
    by_cases h1 : j < S.size
    · have hnx : Hid (0 ≤ rc 40 41 ((bs S).take (j + 1)) ∧ 0 ≤ rc 123 125 ((bs S).take (j + 1)) ∧ rc 40 41 ((bs S).take (j + 1)) = x + ((if S[j] = 40 then 1 else 0) - (if S[j] = 41 then 1 else 0)) ∧ rc 123 125 ((bs S).take (j + 1)) = y + ((if S[j] = 123 then 1 else 0) - (if S[j] = 125 then 1 else 0))) := by
        refine ⟨(Br.sum (.inl ⟨rfl, rfl⟩) hbr.out).2 _, (Br.sum (.inr ⟨rfl, rfl⟩) hbr.out).2 _, ?_, ?_⟩
        · rw [bs_take_succ S j h1, rc_app, rc_one, hxy.out.1]
        · rw [bs_take_succ S j h1, rc_app, rc_one, hxy.out.2]
      by_cases g40 : S[j] = 40
      · have g := g40
        clear g40
        have e40 : ((S[j].toNat : Int) == 40) = true := by rw [byte_eq40]; exact decide_eq_true g
        have e41 : ((S[j].toNat : Int) == 41) = false := by rw [byte_eq41]; exact decide_eq_false (by rw [g]; decide)
        have e123 : ((S[j].toNat : Int) == 123) = false := by rw [byte_eq123]; exact decide_eq_false (by rw [g]; decide)
        have e125 : ((S[j].toNat : Int) == 125) = false := by rw [byte_eq125]; exact decide_eq_false (by rw [g]; decide)
        have hn2 : Hid (x + 1 = rc 40 41 ((bs S).take (j + 1)) ∧ y = rc 123 125 ((bs S).take (j + 1))) ∧ 0 ≤ x + 1 ∧ 0 ≤ y := by
          have := hnx.out
          simp only [g] at this
          simp at this
          unfold Hid
          omega
        obtain ⟨hn2, hn3, hn4⟩ := hn2
        clear g hnx
        go_wp2_with fail
        go_round
        case rel => exact ⟨j + 1, _, _, by omega, by go_num, rfl, rfl, by omega, by omega, by omega, by omega, hn2⟩
        case measure => simp [intOf]; omega
      by_cases g41 : S[j] = 41
      · have g := g41
        clear g41 g40
        have e40 : ((S[j].toNat : Int) == 40) = false := by rw [byte_eq40]; exact decide_eq_false (by rw [g]; decide)
        have e41 : ((S[j].toNat : Int) == 41) = true := by rw [byte_eq41]; exact decide_eq_true g
        have e123 : ((S[j].toNat : Int) == 123) = false := by rw [byte_eq123]; exact decide_eq_false (by rw [g]; decide)
        have e125 : ((S[j].toNat : Int) == 125) = false := by rw [byte_eq125]; exact decide_eq_false (by rw [g]; decide)
        have hn2 : Hid (x - 1 = rc 40 41 ((bs S).take (j + 1)) ∧ y = rc 123 125 ((bs S).take (j + 1))) ∧ 0 ≤ x - 1 ∧ 0 ≤ y := by
          have := hnx.out
          simp only [g] at this
          simp at this
          unfold Hid
          omega
        obtain ⟨hn2, hn3, hn4⟩ := hn2
        clear g hnx
        go_wp2_with fail
        go_round
        case rel => exact ⟨j + 1, _, _, by omega, by go_num, rfl, rfl, by omega, by omega, by omega, by omega, hn2⟩
        case measure => simp [intOf]; omega
      by_cases g123 : S[j] = 123
      · have g := g123
        clear g123 g41 g40
        have e40 : ((S[j].toNat : Int) == 40) = false := by rw [byte_eq40]; exact decide_eq_false (by rw [g]; decide)
        have e41 : ((S[j].toNat : Int) == 41) = false := by rw [byte_eq41]; exact decide_eq_false (by rw [g]; decide)
        have e123 : ((S[j].toNat : Int) == 123) = true := by rw [byte_eq123]; exact decide_eq_true g
        have e125 : ((S[j].toNat : Int) == 125) = false := by rw [byte_eq125]; exact decide_eq_false (by rw [g]; decide)
        have hn2 : Hid (x = rc 40 41 ((bs S).take (j + 1)) ∧ y + 1 = rc 123 125 ((bs S).take (j + 1))) ∧ 0 ≤ x ∧ 0 ≤ y + 1 := by
          have := hnx.out
          simp only [g] at this
          simp at this
          unfold Hid
          omega
        obtain ⟨hn2, hn3, hn4⟩ := hn2
        clear g hnx
        go_wp2_with fail
        go_round
        case rel => exact ⟨j + 1, _, _, by omega, by go_num, rfl, rfl, by omega, by omega, by omega, by omega, hn2⟩
        case measure => simp [intOf]; omega
      by_cases g125 : S[j] = 125
      · have g := g125
        clear g125 g123 g41 g40
        have e40 : ((S[j].toNat : Int) == 40) = false := by rw [byte_eq40]; exact decide_eq_false (by rw [g]; decide)
        have e41 : ((S[j].toNat : Int) == 41) = false := by rw [byte_eq41]; exact decide_eq_false (by rw [g]; decide)
        have e123 : ((S[j].toNat : Int) == 123) = false := by rw [byte_eq123]; exact decide_eq_false (by rw [g]; decide)
        have e125 : ((S[j].toNat : Int) == 125) = true := by rw [byte_eq125]; exact decide_eq_true g
        have hn2 : Hid (x = rc 40 41 ((bs S).take (j + 1)) ∧ y - 1 = rc 123 125 ((bs S).take (j + 1))) ∧ 0 ≤ x ∧ 0 ≤ y - 1 := by
          have := hnx.out
          simp only [g] at this
          simp at this
          unfold Hid
          omega
        obtain ⟨hn2, hn3, hn4⟩ := hn2
        clear g hnx
        go_wp2_with fail
        go_round
        case rel => exact ⟨j + 1, _, _, by omega, by go_num, rfl, rfl, by omega, by omega, by omega, by omega, hn2⟩
        case measure => simp [intOf]; omega
      · have e40 : ((S[j].toNat : Int) == 40) = false := by rw [byte_eq40]; exact decide_eq_false g40
        have e41 : ((S[j].toNat : Int) == 41) = false := by rw [byte_eq41]; exact decide_eq_false g41
        have e123 : ((S[j].toNat : Int) == 123) = false := by rw [byte_eq123]; exact decide_eq_false g123
        have e125 : ((S[j].toNat : Int) == 125) = false := by rw [byte_eq125]; exact decide_eq_false g125
        have hn2 : Hid (x = rc 40 41 ((bs S).take (j + 1)) ∧ y = rc 123 125 ((bs S).take (j + 1))) ∧ 0 ≤ x ∧ 0 ≤ y := by
          have := hnx.out
          simp only [g40, g41, g123, g125] at this
          simp at this
          unfold Hid
          omega
        obtain ⟨hn2, hn3, hn4⟩ := hn2
        clear g40 g41 g123 g125 hnx
        go_wp2_with fail
        go_round
        case rel => exact ⟨j + 1, _, _, by omega, by go_num, rfl, rfl, by omega, by omega, by omega, by omega, hn2⟩
        case measure => simp [intOf]; omega
    · have hz : Hid (x = 0 ∧ y = 0) := by
        have := hxy.out
        rw [List.take_of_length_le (by rw [bs_len]; omega), (Br.sum (.inl ⟨rfl, rfl⟩) hbr.out).1, (Br.sum (.inr ⟨rfl, rfl⟩) hbr.out).1] at this
        exact this
      obtain rfl : x = 0 := hz.out.1
      obtain rfl : y = 0 := hz.out.2
      have hsize := Lib.hid (tree_Size e _ w3 (hv0.out.below hb3.out).1)
      have hle : min (cnt e : Int) 100001 ≤ (S.size : Int) := by have := hge.out; omega
      obtain ⟨m, hm⟩ : ∃ m, min (cnt e : Int) 100001 = m := ⟨_, rfl⟩
      rw [hm] at hsize hle
      clear hm hxy hz
      go_wp2_with fail
      refine hsize.out.mono ?_
      rintro e w4 ⟨rfl, hB4⟩
      go_wp2_with fail
      go_ret
      exact ⟨rfl, hb3.out.trans (hB4.mono hb3.out.size)⟩
end Go.Proofs.YtpdfeadajgokkaaDoor
