/- A tree's text. -/
import Derived.Test.YtpdfeadajgokkaaGreatDoorTxtA
import Derived.Test.YtpdfeadajgokkaaGreatDoorTxtB
import Derived.Test.YtpdfeadajgokkaaGreatDoorTxtC
import Derived.Test.YtpdfeadajgokkaaGreatDoorTxtD
import Derived.Test.YtpdfeadajgokkaaGreatDoorTxtE
import Derived.Test.YtpdfeadajgokkaaGreatDoorTxtF
namespace Go.Proofs.YtpdfeadajgokkaaGreatDoor
open Go.RowKit

set_option maxHeartbeats 4000000 in
set_option maxRecDepth 100000 in
theorem text_k0 {k : Int} {s : Str} {n : Int} {l : List Str} {ks : List Ex} (ih : ∀ e ∈ ks, OkT e → (textE e).length ≤ 1099511627775 → TextC e) (hok : okB k l ks) (hko : ∀ e ∈ ks, OkT e) (hlen : (textE (.mk k s n l ks)).length ≤ 1099511627775) (h1 : ¬ k = 1) (h4 : ¬ k = 4) (h5 : ¬ k = 5) (h6 : ¬ k = 6) (h7 : ¬ k = 7) (h8 : ¬ k = 8) (h9 : ¬ k = 9) (h10 : ¬ k = 10) (h11 : ¬ k = 11) (h12 : ¬ k = 12) (h13 : ¬ k = 13) : TextC (.mk k s n l ks) := by
  intro v w hv
  obtain ⟨hv1, ht⟩ := hv
  obtain ⟨a1, c1, a2, c2, rfl, _, hn, hs, hls, hks, hl, hr⟩ := hv1.open
  unfold lenMax at hs hls hks
  have hb0 : Below w.heap.size w (w.alloc (.cells #[.int .i64 k, .string s, .int .i64 n, .slice a1 l.length c1, .slice a2 ks.length c2] 40)) := (Below.refl _ _).alloc (Nat.le_refl _) _
  obtain ⟨k0, k1, k2, k3, k4⟩ := box5 (w := w) (v0 := .int .i64 k) (v1 := .string s) (v2 := .int .i64 n) (v3 := .slice a1 l.length c1) (v4 := .slice a2 ks.length c2) (t := 40) (Below.refl _ _)
  have hr1 := hr.keeps (Keeps.of_below hb0)
  have hl1 := hl.keeps (Keeps.of_below hb0)
  have ht1 := ht.below hb0
  have hwz : w.heap.size < (w.alloc (.cells #[.int .i64 k, .string s, .int .i64 n, .slice a1 l.length c1, .slice a2 ks.length c2] 40)).heap.size := by simp
  have hcap := hv1.caps
  clear hv1 hr hl ht
  go_enter Tryz.func34, Tryz.ntmps34
  have ht : textE (.mk k s n l ks) = bs s := by simp [textE, textBody, h1, h4, h5, h6, h7, h8, h9, h10, h11, h12, h13]
  have ht' := Lib.hid ht
  have q1 : (k == 1) = false := by simp [h1]
  have q4 : (k == 4) = false := by simp [h4]
  have q5 : (k == 5) = false := by simp [h5]
  have q6 : (k == 6) = false := by simp [h6]
  have q7 : (k == 7) = false := by simp [h7]
  have q8 : (k == 8) = false := by simp [h8]
  have q9 : (k == 9) = false := by simp [h9]
  have q10 : (k == 10) = false := by simp [h10]
  have q11 : (k == 11) = false := by simp [h11]
  have q12 : (k == 12) = false := by simp [h12]
  have q13 : (k == 13) = false := by simp [h13]
  clear ht hlen ih hko hok
  go_wp2_with fail
  go_ret
  exact ⟨by rw [ht'.out]; rfl, hb0⟩

theorem text_c : ∀ e : Ex, OkT e → (textE e).length ≤ 1099511627775 → TextC e := by
  refine Ex.ind fun k s n l ks ih hok hlen => ?_
  cases hok with
  | mk hok hko =>
  by_cases h1 : k = 1
  · exact text_k1 ih hok hko hlen h1
  by_cases h4 : k = 4
  · exact text_k4 ih hok hko hlen h4
  by_cases h5 : k = 5
  · exact text_k5 ih hok hko hlen h5
  by_cases h6 : k = 6
  · exact text_k6 ih hok hko hlen h6
  by_cases h7 : k = 7
  · exact text_k7 ih hok hko hlen h7
  by_cases h8 : k = 8
  · exact text_k8 ih hok hko hlen h8
  by_cases h9 : k = 9
  · exact text_k9 ih hok hko hlen h9
  by_cases h10 : k = 10
  · exact text_k10 ih hok hko hlen h10
  by_cases h11 : k = 11
  · exact text_k11 ih hok hko hlen h11
  by_cases h12 : k = 12
  · exact text_k12 ih hok hko hlen h12
  by_cases h13 : k = 13
  · exact text_k13 ih hok hko hlen h13
  exact text_k0 ih hok hko hlen h1 h4 h5 h6 h7 h8 h9 h10 h11 h12 h13
end Go.Proofs.YtpdfeadajgokkaaGreatDoor
