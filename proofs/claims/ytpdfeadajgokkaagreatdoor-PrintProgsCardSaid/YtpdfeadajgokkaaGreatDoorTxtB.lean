/- A tree's text, kind by kind. -/
import Derived.Test.YtpdfeadajgokkaaGreatDoorTxtO
namespace Go.Proofs.YtpdfeadajgokkaaGreatDoor
open Go.RowKit

set_option maxHeartbeats 4000000 in
set_option maxRecDepth 100000 in
theorem text_k6 {k : Int} {s : Str} {n : Int} {l : List Str} {ks : List Ex} (ih : ∀ e ∈ ks, OkT e → (textE e).length ≤ 1099511627775 → TextC e) (hok : okB k l ks) (hko : ∀ e ∈ ks, OkT e) (hlen : (textE (.mk k s n l ks)).length ≤ 1099511627775) (h6 : k = 6) : TextC (.mk k s n l ks) := by
  intro v w hv
  obtain ⟨hv1, ht⟩ := hv
  obtain ⟨a1, c1, a2, c2, rfl, _, hn, hs, hls, hks, hl, hr⟩ := hv1.open
  unfold lenMax at hs hls hks
  have hb0 : Below w.heap.size w (w.alloc (.cells #[.int .i64 k, .string s, .int .i64 n, .slice a1 l.length c1, .slice a2 ks.length c2] 40)) := (Below.refl _ _).alloc (Nat.le_refl _) _
  obtain ⟨k0, k1, k2, k3, k4⟩ := box5 (w := w) (v0 := .int .i64 k) (v1 := .string s) (v2 := .int .i64 n) (v3 := .slice a1 l.length c1) (v4 := .slice a2 ks.length c2) (t := 40) (Below.refl _ _)
  have hr1 := hr.keeps (Keeps.of_below hb0)
  have hl1 := hl.keeps (Keeps.of_below hb0)
  have ht1 := ht.below hb0
  have hwz : w.heap.size < (w.alloc (.cells #[.int .i64 k, .string s, .int .i64 n, .slice a1 l.length c1, .slice a2 ks.length c2] 40)).heap.size := by simp
  have hcap := hv1.caps
  clear hv1 hr hl ht
  go_enter Tryz.func34, Tryz.ntmps34
  subst h6
  have hm := hok.2.2.1 rfl
  obtain ⟨b, off, rfl, hkid⟩ := hr1.kid (by rintro rfl; simp at hm)
  obtain ⟨x0, y0, z0, u0, g00, g01, g02, g03, g04, ge0⟩ := hkid 0 (by omega)
  obtain ⟨x1, y1, z1, u1, g10, g11, g12, g13, g14, ge1⟩ := hkid 1 (by omega)
  simp only [Nat.zero_mul, Nat.one_mul, Nat.add_zero, Nat.reduceMul, Nat.reduceAdd, Nat.add_assoc] at g00 g01 g02 g03 g04 g10 g11 g12 g13 g14
  have b0 : 0 < ks.length := by omega
  have d0 : (0 : Int) < (ks.length : Int) := by omega
  have e0 := textL_get ks 0 (by omega)
  have b1 : 1 < ks.length := by omega
  have d1 : (1 : Int) < (ks.length : Int) := by omega
  have e1 := textL_get ks 1 (by omega)
  have hj : joinSp (outs [.str ⟨#[108, 101, 116]⟩, .strs l, .str ⟨#[61]⟩, .ex ks[0], .str ⟨#[105, 110]⟩, .ex ks[1]]) = textE (.mk 6 s n l ks) := by
    simp [outs, Pt.out, joinSp, textE, textBody, mkS, bs_fun, atomE, e0, e1]
  have L0 : (textE ks[0]).length ≤ 1099511627775 := (Nat.le_trans (mem_le (p := mkS (textE ks[0])) (l := outs [.str ⟨#[108, 101, 116]⟩, .strs l, .str ⟨#[61]⟩, .ex ks[0], .str ⟨#[105, 110]⟩, .ex ks[1]]) (by simp [outs, Pt.out])) (by rw [hj]; exact hlen))
  have C0 : TextC ks[0] := ih _ (List.getElem_mem _) (hko _ (List.getElem_mem _)) L0
  have L1 : (textE ks[1]).length ≤ 1099511627775 := (Nat.le_trans (mem_le (p := mkS (textE ks[1])) (l := outs [.str ⟨#[108, 101, 116]⟩, .strs l, .str ⟨#[61]⟩, .ex ks[0], .str ⟨#[105, 110]⟩, .ex ks[1]]) (by simp [outs, Pt.out])) (by rw [hj]; exact hlen))
  have C1 : TextC ks[1] := ih _ (List.getElem_mem _) (hko _ (List.getElem_mem _)) L1
  have hcan : ∀ p ∈ ([.str ⟨#[108, 101, 116]⟩, .strs l, .str ⟨#[61]⟩, .ex ks[0], .str ⟨#[105, 110]⟩, .ex ks[1]] : List Pt), p.can := by
    intro p hp
    simp only [List.mem_cons, List.not_mem_nil, or_false] at hp
    rcases hp with rfl | rfl | rfl | rfl | rfl | rfl
    · trivial
    · trivial
    · trivial
    · exact C0
    · trivial
    · exact C1
  have hcap1 := hcap.1
  have hj' := Lib.hid hj
  have hlen' := Lib.hid hlen
  have hcan' := Lib.hid hcan
  clear hj hlen hcan ih hko hkid
  go_wp2_with fail
  generalize w.alloc (.cells #[.int .i64 6, .string s, .int .i64 n, .slice a1 l.length c1, .slice (some ⟨b, off, none⟩) ks.length c2] 40) = W at *
  refine wp_region_still_tail 16 (by kernel_rfl) (by kernel_rfl) ?_
  simp only [List.take_succ_cons, List.take_zero, List.drop_succ_cons, List.drop_zero]
  change wpStill _ _ W.drew _ _ _
  iterate 16 still_step
  refine wpStill_nil ?_
  change wpList _ _ _ _ _ W.drew
  have hWD : Below W.heap.size W W.drew := (Below.refl _ W).drew
  have hbD : Below w.heap.size w W.drew := hb0.drew
  have hWDs : W.heap.size ≤ W.drew.heap.size := hWD.size
  generalize W.drew = D at hWD hbD hWDs ⊢
  go_wp2_with fail
  refine (print_of_new (textE (.mk 6 s n l ks)) [.str ⟨#[108, 101, 116]⟩, .strs l, .str ⟨#[61]⟩, .ex ks[0], .str ⟨#[105, 110]⟩, .ex ks[1]] [.iface 9 (.string ⟨#[108, 101, 116]⟩), .iface 37 (.slice a1 l.length c1), .iface 9 (.string ⟨#[61]⟩), .iface 40 (.agg #[.int .i64 ks[0].kind, .string ks[0].name, .int .i64 ks[0].num, .slice x0 ks[0].names.length y0, .slice z0 ks[0].kids.length u0]), .iface 9 (.string ⟨#[105, 110]⟩), .iface 40 (.agg #[.int .i64 ks[1].kind, .string ks[1].name, .int .i64 ks[1].num, .slice x1 ks[1].names.length y1, .slice z1 ks[1].kids.length u1])] 20 D 6 rfl (by exact ⟨rfl, ⟨_, _, rfl, hcap1, hls, hl1.keeps (Keeps.of_below (hWD.alloc hWDs _))⟩, rfl, ⟨_, rfl, IsExT.below ⟨ge0, ht1⟩ (hWD.alloc hWDs _)⟩, rfl, ⟨_, rfl, IsExT.below ⟨ge1, ht1⟩ (hWD.alloc hWDs _)⟩, trivial⟩) hcan'.out (by simp [lenMax]) hlen'.out hj'.out).mono ?_
  rintro e w2 ⟨rfl, hB2⟩
  go_wp2_with fail
  go_ret
  exact ⟨rfl, hbD.trans (hB2.mono (by have := hbD.size; omega))⟩

end Go.Proofs.YtpdfeadajgokkaaGreatDoor
