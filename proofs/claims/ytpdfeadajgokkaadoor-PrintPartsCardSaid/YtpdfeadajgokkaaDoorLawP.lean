/- PrintParts, walked. -/
import Derived.Test.YtpdfeadajgokkaaDoorLawL
import Derived.Test.YtpdfeadajgokkaaDoorOcc
namespace Go.Proofs.YtpdfeadajgokkaaDoor
open Go.RowKit

theorem kid_len {k : Int} {s : Str} {n : Int} {l : List Str} {ks : List Ex} {e : Ex} {w : World} {v : Value} (h : fewB (.mk k s n l ks) = true) (he : e ∈ ks) (hv : IsEx w v e) (hc : chkB e = true) : (textE e).length ≤ 9800000 := by
  have h1 := few_open h
  have := text_le (chk_snd hc) ((short_open h1.2.2).2.2.2 e he) hv.numOk
  have h2 : cnt e ≤ cnt.cntL ks := by
    clear hv hc h h1 this
    induction ks with
    | nil => simp at he
    | cons x r ih =>
      simp only [cnt.cntL]
      rcases List.mem_cons.1 he with rfl | he
      · omega
      · have := ih he; omega
  have h3 := h1.1
  simp only [cnt] at h3
  omega
/-- The program of two names of one tree. -/
def twice (name : Str) (e : Ex) : Pg := ⟨[], [⟨name, e⟩, ⟨⟨#[109, 97, 105, 110]⟩, e⟩]⟩
theorem twice_T (name : Str) (e : Ex) : progT (twice name e) = [123, 32] ++ bs name ++ [32, 61, 32] ++ textE e ++ [32, 59, 32, 109, 97, 105, 110, 32, 61, 32] ++ textE e ++ [32, 125] := by
  simp [progT, progL, progW, twice, defT, defW, joinSp, Lib.join_cons, Lib.joinTail, bs, mkS]

set_option maxHeartbeats 4000000 in
set_option maxRecDepth 100000 in
theorem printParts_c (e : Ex) (name : Str) (v : Value) (w : World) (hv : IsExT w v e) (hnm : name.size ≤ lenMax) : Calls Tryd.prog 3 #[v, .string name] w fun r w' => r = .returned (.bool true) ∧ Below w.heap.size w w' := by
  have hv0 := Lib.hid hv
  unfold lenMax at hnm
  obtain ⟨k, s, n, l, ks⟩ := e
  obtain ⟨a1, c1, a2, c2, rfl, _, _, _, _, hks, _, hkr⟩ := hv.1.open
  unfold lenMax at hks
  have hB0 : Below (w.heap.size + 1) (w.alloc (.cells #[.int .i64 k, .string s, .int .i64 n, .slice a1 l.length c1, .slice a2 ks.length c2] 25)) (w.alloc (.cells #[.int .i64 k, .string s, .int .i64 n, .slice a1 l.length c1, .slice a2 ks.length c2] 25)) := Below.refl _ _
  have hbw := Lib.hid (below_box hB0)
  have haw := Lib.hid (awake_c _ (hv.2.below hbw.out))
  have ht := Lib.hid hv.2
  have hkr' := Lib.hid hkr
  clear hv hB0 hkr
  obtain ⟨e, he⟩ : ∃ e, Ex.mk k s n l ks = e := ⟨_, rfl⟩
  have hke : Hid (e.kids = ks) := by rw [← he]; rfl
  rw [he] at hv0
  have he' := Lib.hid he
  clear he
  have hFw := Lib.hid (fun W (hb : Below w.heap.size w W) => r04_Few e _ W (hv0.out.below hb).1)
  go_enter Tryd.func3, Tryd.ntmps3
  go_wp2_with fail
  refine haw.out.mono ?_
  rintro e w1 ⟨rfl, hB1⟩
  obtain ⟨k0, k1, k2, k3, k4⟩ := box5 (hB1.mono (by simp))
  have hBx1 := Lib.hid (hB1.mono (by simp) : Below (w.heap.size + 1) _ w1)
  have hb1 := Lib.hid (hbw.out.trans (hB1.mono (by simp)))
  clear hB1
  cases hf : fewB e
  · rw [hf] at hFw
    clear hf
    go_wp2_with fail
    refine (hFw.out _ hb1.out).mono ?_
    rintro e w2 ⟨rfl, hB2⟩
    go_wp2_with fail
    go_ret
    exact ⟨rfl, hb1.out.trans (hB2.mono hb1.out.size)⟩
  have hfl := Lib.hid (fun hc => few_len hf hv0.out.1 hc)
  have hf' := Lib.hid hf
  rw [hf] at hFw
  clear hf
  by_cases hlong : 100 < name.size
  · go_wp2_with fail
    refine (hFw.out _ hb1.out).mono ?_
    rintro e w2 ⟨rfl, hB2⟩
    go_wp2_with fail
    go_ret
    exact ⟨rfl, hb1.out.trans (hB2.mono hb1.out.size)⟩
  have hXp := Lib.hid (fun W (hb : Below w.heap.size w W) => print_Expr e _ W (hv0.out.below hb) (fun hc => Nat.le_trans (hfl.out hc) (by omega)))
  go_wp2_with fail
  refine (hFw.out _ hb1.out).mono ?_
  rintro e w2 ⟨rfl, hB2⟩
  have hBx2 := Lib.hid (hBx1.out.trans (hB2.mono (size_box hBx1.out)))
  have hb2 := Lib.hid (hb1.out.trans (hB2.mono hb1.out.size))
  clear hB2 k0 k1 k2 k3 k4
  obtain ⟨k0, k1, k2, k3, k4⟩ := box5 hBx2.out
  cases hc : chkB e
  · have hX : Hid (xprS e = ⟨#[]⟩ ∧ xprN e = 40) := ⟨by simp [xprS, hc], by simp [xprN, hc]⟩
    rw [hX.out.1, hX.out.2] at hXp
    clear hc
    go_wp2_with fail
    refine (hXp.out _ hb2.out).mono ?_
    rintro e w3 ⟨rfl, hB3⟩
    go_wp2_with fail
    go_ret
    exact ⟨rfl, hb2.out.trans (hB3.mono hb2.out.size)⟩
  have hsnd := Lib.hid (chk_snd hc)
  have hlen := hfl.out hc
  obtain ⟨S, hS⟩ : ∃ S, mkS (textE e) = S := ⟨_, rfl⟩
  have hT : Hid (textE e = bs S) := by rw [← hS]; rfl
  have hX : Hid (xprS e = S ∧ xprN e = 0) := ⟨by simp [xprS, hc, hS], by simp [xprN, hc]⟩
  have hsz : S.size ≤ 9800000 := by rw [← bs_len, ← hT.out]; exact hlen
  have hpos : 0 < S.size := by have := text_ge hsnd.out; have := cnt_pos e; rw [hT.out, bs_len] at *; omega
  rw [hX.out.1, hX.out.2] at hXp
  clear hc hlen hS
  go_wp2_with fail
  refine (hXp.out _ hb2.out).mono ?_
  rintro e w3 ⟨rfl, hB3⟩
  have hBx3 := Lib.hid (hBx2.out.trans (hB3.mono (size_box hBx2.out)))
  have hb3 := Lib.hid (hb2.out.trans (hB3.mono hb2.out.size))
  clear hB3 k0 k1 k2 k3 k4
  obtain ⟨k0, k1, k2, k3, k4⟩ := box5 hBx3.out
  have hTT : Hid ((progT (twice name e)).length ≤ 20000000) := by
    unfold Hid
    rw [twice_T, hT.out]
    simp only [List.length_append, List.length_cons, List.length_nil, bs_len]
    omega
  have hP := Lib.hid (print_Prog (twice name e) (.agg #[.slice none 0 0, .slice (some ⟨w3.heap.size, 0, none⟩) 2 2]) (w3.alloc (.cells #[.string name, .int .i64 k, .string s, .int .i64 n, .slice a1 l.length c1, .slice a2 ks.length c2, .string ⟨#[109, 97, 105, 110]⟩, .int .i64 k, .string s, .int .i64 n, .slice a1 l.length c1, .slice a2 ks.length c2] 33))
    ⟨none, 0, some ⟨w3.heap.size, 0, none⟩, 2, rfl, by simp [twice], by simp [twice, lenMax], .inl rfl, dfRow2 rfl ⟨_, _, _, _, _, rfl, by show _ ≤ _; unfold lenMax; omega, (hv0.out.1.keeps (Keeps.of_below (hb3.out.trans (((Below.refl _ _).alloc (Nat.le_refl _) _).mono hb3.out.size))))⟩ ⟨_, _, _, _, _, rfl, (show (⟨#[109, 97, 105, 110]⟩ : Str).size ≤ lenMax by decide), (hv0.out.1.keeps (Keeps.of_below (hb3.out.trans (((Below.refl _ _).alloc (Nat.le_refl _) _).mono hb3.out.size))))⟩⟩
    (ht.out.below (hb3.out.trans (((Below.refl _ _).alloc (Nat.le_refl _) _).mono hb3.out.size))) (fun _ => by have := hTT.out; omega))
  have hlg : ((100 : Int) < (name.size : Int)) = False := eq_false (by omega)
  obtain ⟨Z, hZ⟩ : ∃ Z, prgS (twice name e) = Z := ⟨_, rfl⟩
  rw [hZ] at hP
  have hin : Hid (Ins ((bs S).drop 0) ((ks.drop 0).map textE)) := by
    have := text_ins hsnd.out
    rw [hT.out, hke.out] at this
    exact this
  cases hp : progB (twice name e)
  case' true =>
    have hcmp : (Z.toList == (⟨#[123, 32]⟩ ++ name ++ ⟨#[32, 61, 32]⟩ ++ S ++ ⟨#[32, 59, 32, 109, 97, 105, 110, 32, 61, 32]⟩ ++ S ++ ⟨#[32, 125]⟩ : ByteArray).toList) = true := by
      rw [← hZ, prgS, if_pos hp, Lib.toList_data, Lib.toList_data, beq_iff_eq]
      show progT (twice name e) = bs _
      rw [twice_T, hT.out]
      simp only [bs_app]
      rfl
    have hN : Hid (prgN (twice name e) = 0) := by unfold Hid; rw [prgN, hp]; rfl
    rw [hN.out] at hP
  case' false =>
    have hN : Hid (prgN (twice name e) = 40) := by unfold Hid; rw [prgN, hp]; rfl
    rw [hN.out] at hP
  all_goals
    clear hp hZ
    go_wp2_with fail
    refine hP.out.mono ?_
    rintro e w4 ⟨rfl, hB4⟩
    have hBx4 : Below (w.heap.size + 1) _ w4 := hBx3.out.trans ((((Below.refl _ _).alloc (Nat.le_refl _) _).trans (hB4.mono (by simp))).mono (size_box hBx3.out))
    clear hB4 k0 k1 k2 k3 k4 hTT hP
    obtain ⟨k0, k1, k2, k3, k4⟩ := box5 hBx4
    go_wp2_with fail
    go_loopw [10, 11] (fun a i wr => ∃ (j at' : Nat), j ≤ ks.length ∧ i = .int .i64 j ∧ a = .int .i64 at' ∧ at' ≤ S.size ∧ Hid (Ins ((bs S).drop at') ((ks.drop j).map textE)) ∧ Below (w.heap.size + 1) (w.alloc (.cells #[.int .i64 k, .string s, .int .i64 n, .slice a1 l.length c1, .slice a2 ks.length c2] 25)) wr) (fun _ i _ => ks.length - (intOf i).toNat)
    case atStart => exact ⟨0, 0, by omega, rfl, rfl, by omega, hin, hBx4⟩
    case round =>
      clear hBx4 k0 k1 k2 k3 k4 hin
      obtain ⟨j, x, hj, rfl, rfl, hx, hins, hB⟩ := hrel
      obtain ⟨k0, k1, k2, k3, k4⟩ := box5 hB
      have hbW := below_box hB
      by_cases h1 : j < ks.length
      · obtain ⟨b, off, rfl, hkid⟩ := (hkr'.out.keeps (Keeps.of_below hbW)).kid (by rintro rfl; simp at h1)
        obtain ⟨a3, c3, a4, c4, g0, g1, g2, g3, g4, ge⟩ := hkid j h1
        have hmem := List.getElem_mem h1
        have hcall := Lib.hid (print_Expr ks[j] _ wr ⟨ge, ht.out.below hbW⟩ (fun hc => Nat.le_trans (kid_len (by rw [he'.out]; exact hf'.out) hmem ge hc) (by omega)))
        have hlk := Lib.hid (fun hc => kid_len (by rw [he'.out]; exact hf'.out) hmem ge hc)
        have hins' : Hid (Ins ((bs S).drop x) (textE ks[j] :: (ks.drop (j + 1)).map textE)) := by
          have := hins.out
          rw [List.drop_eq_getElem_cons h1] at this
          exact this
        clear ge hkid hmem
        cases hc : chkB ks[j]
        · have hX : Hid (xprS ks[j] = ⟨#[]⟩ ∧ xprN ks[j] = 40) := ⟨by simp [xprS, hc], by simp [xprN, hc]⟩
          rw [hX.out.1, hX.out.2] at hcall
          clear hc
          go_wp2_with fail
          refine hcall.out.mono ?_
          rintro e w5 ⟨rfl, hB5⟩
          have hB5' := hB.trans (hB5.mono (size_box hB))
          clear hB5
          go_wp2_with fail
          go_roundw
          case rel => exact ⟨j + 1, x, by omega, by go_num, rfl, hx, hins'.out.tail, hB5'⟩
          case measure => simp [intOf]; omega
        · obtain ⟨K, hK⟩ : ∃ K, mkS (textE ks[j]) = K := ⟨_, rfl⟩
          have hKT : Hid (textE ks[j] = bs K) := by rw [← hK]; rfl
          have hX : Hid (xprS ks[j] = K ∧ xprN ks[j] = 0) := ⟨by simp [xprS, hc, hK], by simp [xprN, hc]⟩
          have hKs : K.size ≤ 9800000 := by rw [← bs_len, ← hKT.out]; exact hlk.out hc
          rw [hX.out.1, hX.out.2] at hcall
          obtain ⟨p, hp1, hp2, hp3, hp4⟩ := ins_step (by rw [bs_len]; exact hx) hins'.out
          rw [hKT.out, bs_len] at hp2 hp3
          rw [bs_len] at hp2
          have hp3' := Lib.hid hp3
          have hp4' := Lib.hid hp4
          clear hc hK hp3 hp4
          go_wp2_with fail
          refine hcall.out.mono ?_
          rintro e w5 ⟨rfl, hB5⟩
          have hB5' := hB.trans (hB5.mono (size_box hB))
          clear hB5
          go_wp2_with fail
          go_loop [10] (fun a => ∃ y : Nat, x ≤ y ∧ y ≤ p ∧ a = .int .i64 y) (fun a => p - (intOf a).toNat)
          case atStart => exact ⟨x, by omega, by omega, rfl⟩
          case round =>
            obtain ⟨y, hy1, hy2, rfl⟩ := hrel
            by_cases heq : ((S.extract y (y + K.size)).toList == K.toList) = true
            · have hat : Hid (Ins ((bs S).drop (y + K.size)) ((ks.drop (j + 1)).map textE)) := hp4'.out _ (by rw [hKT.out, bs_len]; omega)
              go_wp2_with fail
              go_roundw
              case rel => exact ⟨j + 1, y + K.size, by omega, by go_num, by go_num, by omega, hat, hB5'⟩
              case measure => simp [intOf]; omega
            · have hne : y ≠ p := by
                rintro rfl
                refine heq ?_
                rw [beq_iff_eq, Lib.extract_toList, Lib.toList_data, show y + K.size - y = K.size from by omega]
                exact hp3'.out
              have heq' : ((S.extract y (y + K.size)).toList == K.toList) = false := by simpa using heq
              clear heq
              go_wp2_with fail
              go_round
              case rel => exact ⟨y + 1, by omega, by omega, by go_num⟩
              case measure => simp [intOf]; omega
      · go_wp2_with fail
        go_ret
        exact ⟨rfl, hbW⟩
end Go.Proofs.YtpdfeadajgokkaaDoor
