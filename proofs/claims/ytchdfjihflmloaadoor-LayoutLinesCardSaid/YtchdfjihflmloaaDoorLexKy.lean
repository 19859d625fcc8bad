/- lex.Key, walked. -/
import Derived.Test.YtchdfjihflmloaaDoorLexZ
namespace Go.Proofs.YtchdfjihflmloaaDoor
open Go.RowKit

theorem signs_len : ∀ m ∈ signsL, m ≠ [] ∧ signN m = m.length := by decide
theorem sign_key (t : Bs) : signB t = decide (t ≠ [] ∧ signN t = t.length) := by
  unfold signB
  by_cases h : t ∈ signsL
  · rw [List.contains_iff_mem.2 h, decide_eq_true (signs_len t h)]
  · have h1 : signsL.contains t = false := by rw [← Bool.not_eq_true, List.contains_iff_mem]; exact h
    rw [h1]
    symm
    rw [decide_eq_false_iff_not]
    rintro ⟨h2, h3⟩
    have h4 := sign_tok t
    rw [if_pos (by rw [h3]; exact List.length_pos_iff.2 h2), h3, List.take_length] at h4
    exact h (List.mem_of_find?_eq_some h4)

set_option maxHeartbeats 1600000 in
theorem lex_Key (s : Str) (w : World) (hs : s.size ≤ 1000000) : Calls Tryd.prog 18 #[.string s] w fun r w' => r = .returned (.bool (keyB (bS s))) ∧ Below w.heap.size w w' := by
  have hcv := fun (w : World) (s : Str) => Lib.run_convert_string_bytes (P := Tryd.prog) w 9 22 5 s Tryd.underlying9 Tryd.underlying22 Tryd.underlying5
  have hwd := lex_word s w
  rw [word_eq] at hwd
  have hwd' := Lib.hid hwd
  have hk : Hid (keyB (bS s) = (wdB (bS s) || decide (bS s ≠ [] ∧ signN (bS s) = (bS s).length))) := by unfold Hid keyB; rw [sign_key]
  clear hwd
  go_enter Tryd.func18, Tryd.ntmps18
  cases hx : wdB (bS s)
  · rw [hx] at hwd'
    have hx' := Lib.hid hx
    clear hx
    by_cases h0 : bS s = []
    · have hE : s = ⟨#[]⟩ := by rw [← tS_bS s, h0]; rfl
      subst hE
      go_wp2_with fail
      refine hwd'.out.mono ?_
      rintro e V ⟨rfl, rfl⟩
      go_wp2_with fail
      go_ret
      exact ⟨ret_bool (by rw [hk.out, hx'.out]; rfl), Below.refl _ _⟩
    · have hsg := lex_sign (some ⟨w.heap.size, 0, none⟩) s.toList (grownCap w s.size 0 5) (Lib.bytesWorld w 5 s) (by rw [toL]; exact hs) (by rw [toL]; exact grownCap_ge _ _ _ _) (byteRow_bytesWorld _ _ _)
      have hz : s.toList.length = s.size := by rw [toL]; rfl
      have hne : (s.toList == ([] : List UInt8)) = false := by rw [toL]; simpa using h0
      rw [hz, toL] at hsg
      have hsg' := Lib.hid hsg
      clear hsg hz
      go_wp2_with fail
      refine hwd'.out.mono ?_
      rintro e V ⟨rfl, rfl⟩
      have hbb := Lib.hid (below_bytesWorld w 5 s)
      have hl1 : (bS s).length = s.size := rfl
      have hl1' := Lib.hid hl1
      have h0' := Lib.hid h0
      go_wp2_with fail
      refine hsg'.out.mono ?_
      rintro e V ⟨rfl, hB⟩
      have hBw := Lib.hid (hbb.out.trans (hB.mono hbb.out.size))
      obtain ⟨n, hn⟩ : ∃ n, signN (bS s) = n := ⟨_, rfl⟩
      rw [hn]
      have hn' := Lib.hid hn
      clear hB hn h0 hl1
      by_cases hq : n = s.size
      · have hqi : ((n : Int) == (s.size : Int)) = true := by rw [hq]; simp
        have hq' := Lib.hid hq
        clear hq
        go_wp2_with fail
        go_ret
        exact ⟨ret_bool (by rw [hk.out, hx'.out, hn'.out, hl1'.out, decide_eq_true ⟨h0'.out, hq'.out⟩]; rfl), hBw.out⟩
      · have hqi : ((n : Int) == (s.size : Int)) = false := beq_eq_false_iff_ne.2 (by omega)
        have hq' := Lib.hid hq
        clear hq
        go_wp2_with fail
        go_ret
        exact ⟨ret_bool (by rw [hk.out, hx'.out, hn'.out, hl1'.out, decide_eq_false (fun e => hq'.out e.2)]; rfl), hBw.out⟩
  · rw [hx] at hwd'
    have hx' := Lib.hid hx
    clear hx
    go_wp2_with fail
    refine hwd'.out.mono ?_
    rintro e V ⟨rfl, rfl⟩
    go_wp2_with fail
    go_ret
    exact ⟨ret_bool (by rw [hk.out, hx'.out]; rfl), Below.refl _ _⟩
end Go.Proofs.YtchdfjihflmloaaDoor
