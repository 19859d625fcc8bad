/- LexNames: whether any text is a key word, a sign, a name, a constructor is what the document says; and a text of any tokens. -/
import Derived.Test.YtchdfjihflmloaaDoorLawLexTells
namespace Go.Proofs.YtchdfjihflmloaaDoor
open Go.RowKit

theorem joinL_len : ∀ (l : List Bs), (∀ x ∈ l, x.length ≤ 50) → (joinL l).length ≤ l.length * 51
  | [], _ => by simp [joinL]
  | [a], h => by have := h a (by simp); simp [joinL]; omega
  | a :: b :: r, h => by
    have h1 := h a (by simp)
    have h2 := joinL_len (b :: r) fun x hx => h x (by simp [hx])
    show (a ++ 32 :: joinL (b :: r)).length ≤ _
    simp only [List.length_append, List.length_cons] at h2 ⊢
    omega
theorem textL_len (l : List Tk) (h : ∀ i (hi : i < l.length), l[i].text.length ≤ 50) : (textL l).length ≤ l.length * 51 := by
  unfold textL
  have := joinL_len (l.map (·.text)) fun x hx => by
    obtain ⟨t, ht, rfl⟩ := List.mem_map.1 hx
    obtain ⟨i, hi, rfl⟩ := List.mem_iff_getElem.1 ht
    exact h i hi
  simpa using this

set_option maxHeartbeats 4000000 in
set_option maxRecDepth 100000 in
theorem lexNames_c (s : Str) (v : Value) (l : List Tk) (w : World) (hs : s.size ≤ lenMax) (hv : TkSl w v l) (hl : l.length ≤ lenMax) (hE : RngOk w) (hM : MaxOk w) :
    Calls Tryd.prog 4 #[.string s, v] w fun e w' => e = .returned (.bool true) ∧ Below w.heap.size w w' := by
  have hup := Lib.hid (law_awake w hE hM)
  have hv' := Lib.hid hv
  obtain ⟨a, c, rfl, _, hr⟩ := hv
  have hr' := Lib.hid hr
  unfold lenMax at hl hs
  clear hr hE hM
  by_cases h3 : 300 < l.length
  · have h3i : (300 : Int) < (l.length : Int) := by omega
    go_enter Tryd.func4, Tryd.ntmps4
    go_wp2_with fail
    refine hup.out.mono ?_
    rintro e V ⟨rfl, hB⟩
    go_wp2_with fail
    go_ret
    exact ⟨rfl, hB⟩
  · have h3i : ¬ (300 : Int) < (l.length : Int) := by omega
    by_cases h1 : 100 < s.size
    · have h1i : (100 : Int) < (s.size : Int) := by omega
      go_enter Tryd.func4, Tryd.ntmps4
      go_wp2_with fail
      refine hup.out.mono ?_
      rintro e V ⟨rfl, hB⟩
      go_wp2_with fail
      go_ret
      exact ⟨rfl, hB⟩
    · have h1i : ¬ (100 : Int) < (s.size : Int) := by omega
      go_enter Tryd.func4, Tryd.ntmps4
      go_wp2_with fail
      refine hup.out.mono ?_
      rintro e V ⟨rfl, hB⟩
      have hb := Lib.hid hB
      clear hB
      go_wp2_with fail
      go_loop [6] (fun i => ∃ k : Nat, k ≤ l.length ∧ i = .int .i64 k ∧ Hid (∀ j (hj : j < l.length), j < k → l[j].text.length ≤ 50)) (fun i => l.length - (intOf i).toNat)
      case atStart => exact ⟨0, by omega, rfl, fun j _ h => by omega⟩
      case round =>
        obtain ⟨k, hk, rfl, ht⟩ := hrel
        by_cases h2 : k < l.length
        · obtain ⟨b, off, rfl, hc⟩ := (hr'.out.keeps (Keeps.of_below hb.out)).at (by rintro rfl; simp at h2)
          obtain ⟨g0, g1, g2, g3, g4⟩ := hc k h2
          have hki : (k : Int) < (l.length : Int) := by omega
          have hsz : (tS l[k].text).size = l[k].text.length := rfl
          clear hc
          by_cases h5 : 50 < l[k].text.length
          · have h5i : (50 : Int) < (l[k].text.length : Int) := by omega
            go_wp2_with fail
            go_ret
            exact ⟨rfl, hb.out⟩
          · have h5i : ¬ (50 : Int) < (l[k].text.length : Int) := by omega
            have h5' : Hid (l[k].text.length ≤ 50) := by unfold Hid; omega
            go_wp2_with fail
            go_round
            case rel => exact ⟨k + 1, by omega, by go_num, fun j hj hjk => by
              rcases Nat.lt_or_ge j k with h | h
              · exact ht.out j hj h
              · have : j = k := by omega
                subst this; exact h5'.out⟩
            case measure => simp [intOf]; omega
        · have htl : Hid ((textL l).length ≤ 1000000) := by
            unfold Hid
            have := textL_len l fun i hi => ht.out i hi (by omega)
            omega
          obtain ⟨bk, hbk⟩ : ∃ b, keyB (bS s) = b := ⟨_, rfl⟩
          obtain ⟨bn, hbn⟩ : ∃ b, nameB s = b := ⟨_, rfl⟩
          obtain ⟨bc, hbc⟩ : ∃ b, conB s = b := ⟨_, rfl⟩
          have hone := one_kind (bS s)
          rw [← name_eq, ← con_eq, hbk, hbn, hbc] at hone
          have k1 := fun W => lex_Key s W (by omega)
          have k2 := fun W => lex_Name s W
          have k3 := fun W => lex_Con s W
          have r1 := fun W => r02_Key s W
          have r2 := fun W => r02_Name s W
          have r3 := fun W => r02_Con s W
          rw [hbk] at k1 r1
          rw [hbn] at k2 r2
          rw [hbc] at k3 r3
          have k1' := Lib.hid k1
          have k2' := Lib.hid k2
          have k3' := Lib.hid k3
          have r1' := Lib.hid r1
          have r2' := Lib.hid r2
          have r3' := Lib.hid r3
          have hll : l.length ≤ 1000000 := by omega
          have hki : ¬ (k : Int) < (l.length : Int) := by omega
          clear k1 k2 k3 r1 r2 r3 hbk hbn hbc h2
          cases bk <;> cases bn <;> cases bc
          all_goals first | (exfalso; revert hone; decide) | skip
          all_goals
            clear hone
            go_wp2_with fail
            refine (k1'.out _).mono ?_
            rintro e V1 ⟨rfl, hB⟩
            have hb1 := Lib.hid (hb.out.trans (hB.mono hb.out.size))
            clear hB
            go_wp2_with fail
            refine (k2'.out _).mono ?_
            rintro e V2 ⟨rfl, hB⟩
            have hb2 := Lib.hid (hb1.out.trans (hB.mono hb1.out.size))
            clear hB
            go_wp2_with fail
            refine (k3'.out _).mono ?_
            rintro e V3 ⟨rfl, hB⟩
            have hb3 := Lib.hid (hb2.out.trans (hB.mono hb2.out.size))
            clear hB
            go_wp2_with fail
            refine (r1'.out _).mono ?_
            rintro e V4 ⟨rfl, hB⟩
            have hb4 := Lib.hid (hb3.out.trans (hB.mono hb3.out.size))
            clear hB
            go_wp2_with fail
            refine (r2'.out _).mono ?_
            rintro e V5 ⟨rfl, hB⟩
            have hb5 := Lib.hid (hb4.out.trans (hB.mono hb4.out.size))
            clear hB
            go_wp2_with fail
            refine (r3'.out _).mono ?_
            rintro e V6 ⟨rfl, hB⟩
            have hb6 := Lib.hid (hb5.out.trans (hB.mono hb5.out.size))
            clear hB
            go_wp2_with fail
            refine (lex_Text _ l V6 (hv'.out.keeps (Keeps.of_below hb6.out)) hll htl.out).mono ?_
            rintro e V7 ⟨rfl, hB⟩
            have hb7 := Lib.hid (hb6.out.trans (hB.mono hb6.out.size))
            clear hB
            go_wp2_with fail
            refine (r02_Text _ l V7 (hv'.out.keeps (Keeps.of_below hb7.out)) hll htl.out).mono ?_
            rintro e V8 ⟨rfl, rfl⟩
            go_wp2_with fail
            go_ret
            exact ⟨rfl, hb7.out⟩
end Go.Proofs.YtchdfjihflmloaaDoor
