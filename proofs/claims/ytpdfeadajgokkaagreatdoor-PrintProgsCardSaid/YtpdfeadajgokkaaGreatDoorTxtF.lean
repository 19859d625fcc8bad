/- A tree's text, kind by kind. -/
import Derived.Test.YtpdfeadajgokkaaGreatDoorTxtO
namespace Go.Proofs.YtpdfeadajgokkaaGreatDoor
open Go.RowKit

set_option maxHeartbeats 4000000 in
set_option maxRecDepth 100000 in
theorem text_k13 {k : Int} {s : Str} {n : Int} {l : List Str} {ks : List Ex} (ih : ∀ e ∈ ks, OkT e → (textE e).length ≤ 1099511627775 → TextC e) (hok : okB k l ks) (hko : ∀ e ∈ ks, OkT e) (hlen : (textE (.mk k s n l ks)).length ≤ 1099511627775) (h13 : k = 13) : TextC (.mk k s n l ks) := by
  intro v w hv
  obtain ⟨hv1, ht⟩ := hv
  obtain ⟨a1, c1, a2, c2, rfl, _, hn, hs, hls, hks, hl, hr⟩ := hv1.open
  unfold lenMax at hs hls hks
  have hb0 : Below w.heap.size w (w.alloc (.cells #[.int .i64 k, .string s, .int .i64 n, .slice a1 l.length c1, .slice a2 ks.length c2] 40)) := (Below.refl _ _).alloc (Nat.le_refl _) _
  obtain ⟨k0, k1, k2, k3, k4⟩ := box5 (w := w) (v0 := .int .i64 k) (v1 := .string s) (v2 := .int .i64 n) (v3 := .slice a1 l.length c1) (v4 := .slice a2 ks.length c2) (t := 40) (Below.refl _ _)
  have hr1 := hr.keeps (Keeps.of_below hb0)
  have hl1 := hl.keeps (Keeps.of_below hb0)
  have ht1 := ht.below hb0
  have hwz : w.heap.size < (w.alloc (.cells #[.int .i64 k, .string s, .int .i64 n, .slice a1 l.length c1, .slice a2 ks.length c2] 40)).heap.size := by simp
  have hcap := hv1.caps
  clear hv1 hr hl ht
  go_enter Tryz.func34, Tryz.ntmps34
  subst h13
  have hm := hok.2.2.2.2.2.2.2 rfl
  obtain ⟨b, off, rfl, hkid⟩ := hr1.kid (by rintro rfl; simp at hm)
  obtain ⟨x0, y0, z0, u0, g00, g01, g02, g03, g04, ge0⟩ := hkid 0 (by omega)
  simp only [Nat.zero_mul, Nat.one_mul, Nat.add_zero, Nat.reduceMul, Nat.reduceAdd, Nat.add_assoc] at g00 g01 g02 g03 g04
  have b0 : 0 < ks.length := by omega
  have d0 : (0 : Int) < (ks.length : Int) := by omega
  have e0 := textL_get ks 0 (by omega)
  have hj : joinSp (outs [.strs l, .str ⟨#[60, 45]⟩, .ex ks[0]]) = textE (.mk 13 s n l ks) := by
    simp [outs, Pt.out, joinSp, textE, textBody, mkS, bs_fun, atomE, e0]
  have L0 : (textE ks[0]).length ≤ 1099511627775 := (Nat.le_trans (mem_le (p := mkS (textE ks[0])) (l := outs [.strs l, .str ⟨#[60, 45]⟩, .ex ks[0]]) (by simp [outs, Pt.out])) (by rw [hj]; exact hlen))
  have C0 : TextC ks[0] := ih _ (List.getElem_mem _) (hko _ (List.getElem_mem _)) L0
  have hcan : ∀ p ∈ ([.strs l, .str ⟨#[60, 45]⟩, .ex ks[0]] : List Pt), p.can := by
    intro p hp
    simp only [List.mem_cons, List.not_mem_nil, or_false] at hp
    rcases hp with rfl | rfl | rfl
    · trivial
    · trivial
    · exact C0
  have hcap1 := hcap.1
  have hj' := Lib.hid hj
  have hlen' := Lib.hid hlen
  have hcan' := Lib.hid hcan
  clear hj hlen hcan ih hko hkid
  go_wp2_with fail
  generalize w.alloc (.cells #[.int .i64 13, .string s, .int .i64 n, .slice a1 l.length c1, .slice (some ⟨b, off, none⟩) ks.length c2] 40) = W at *
  refine wp_region_still_tail 9 (by kernel_rfl) (by kernel_rfl) ?_
  simp only [List.take_succ_cons, List.take_zero, List.drop_succ_cons, List.drop_zero]
  change wpStill _ _ W.drew _ _ _
  iterate 9 still_step
  refine wpStill_nil ?_
  change wpList _ _ _ _ _ W.drew
  have hWD : Below W.heap.size W W.drew := (Below.refl _ W).drew
  have hbD : Below w.heap.size w W.drew := hb0.drew
  have hWDs : W.heap.size ≤ W.drew.heap.size := hWD.size
  generalize W.drew = D at hWD hbD hWDs ⊢
  go_wp2_with fail
  refine (print_of_new (textE (.mk 13 s n l ks)) [.strs l, .str ⟨#[60, 45]⟩, .ex ks[0]] [.iface 37 (.slice a1 l.length c1), .iface 9 (.string ⟨#[60, 45]⟩), .iface 40 (.agg #[.int .i64 ks[0].kind, .string ks[0].name, .int .i64 ks[0].num, .slice x0 ks[0].names.length y0, .slice z0 ks[0].kids.length u0])] 20 D 3 rfl (by exact ⟨⟨_, _, rfl, hcap1, hls, hl1.keeps (Keeps.of_below (hWD.alloc hWDs _))⟩, rfl, ⟨_, rfl, IsExT.below ⟨ge0, ht1⟩ (hWD.alloc hWDs _)⟩, trivial⟩) hcan'.out (by simp [lenMax]) hlen'.out hj'.out).mono ?_
  rintro e w2 ⟨rfl, hB2⟩
  go_wp2_with fail
  go_ret
  exact ⟨rfl, hbD.trans (hB2.mono (by have := hbD.size; omega))⟩

set_option maxHeartbeats 4000000 in
set_option maxRecDepth 100000 in
theorem text_k11 {k : Int} {s : Str} {n : Int} {l : List Str} {ks : List Ex} (ih : ∀ e ∈ ks, OkT e → (textE e).length ≤ 1099511627775 → TextC e) (hok : okB k l ks) (hko : ∀ e ∈ ks, OkT e) (hlen : (textE (.mk k s n l ks)).length ≤ 1099511627775) (h11 : k = 11) : TextC (.mk k s n l ks) := by
  intro v w hv
  obtain ⟨hv1, ht⟩ := hv
  obtain ⟨a1, c1, a2, c2, rfl, _, hn, hs, hls, hks, hl, hr⟩ := hv1.open
  unfold lenMax at hs hls hks
  have hb0 : Below w.heap.size w (w.alloc (.cells #[.int .i64 k, .string s, .int .i64 n, .slice a1 l.length c1, .slice a2 ks.length c2] 40)) := (Below.refl _ _).alloc (Nat.le_refl _) _
  obtain ⟨k0, k1, k2, k3, k4⟩ := box5 (w := w) (v0 := .int .i64 k) (v1 := .string s) (v2 := .int .i64 n) (v3 := .slice a1 l.length c1) (v4 := .slice a2 ks.length c2) (t := 40) (Below.refl _ _)
  have hr1 := hr.keeps (Keeps.of_below hb0)
  have hl1 := hl.keeps (Keeps.of_below hb0)
  have ht1 := ht.below hb0
  have hwz : w.heap.size < (w.alloc (.cells #[.int .i64 k, .string s, .int .i64 n, .slice a1 l.length c1, .slice a2 ks.length c2] 40)).heap.size := by simp
  have hcap := hv1.caps
  clear hv1 hr hl ht
  go_enter Tryz.func34, Tryz.ntmps34
  subst h11
  obtain ⟨LT, hLT⟩ : ∃ LT, listT (ks.map fun e => (e.kind, textE e)) = LT := ⟨_, rfl⟩
  have hj : joinSp (outs [.str ⟨#[100, 111]⟩, .str (mkS LT)]) = textE (.mk 11 s n l ks) := by
    rw [← hLT]
    simp [outs, Pt.out, joinSp, textE, textBody, mkS, textL_map]
  have hL : LT.length ≤ 1099511627775 := Nat.le_trans (mem_le (p := mkS LT) (l := outs [.str ⟨#[100, 111]⟩, .str (mkS LT)]) (by simp [outs, Pt.out])) (by rw [hj]; exact hlen)
  have hC : ∀ e ∈ ks, TextC e := fun e he => ih e he (hko e he) (Nat.le_trans (join_mem_le (ks.map textE) [32, 59, 32] (List.mem_map.2 ⟨e, he, rfl⟩)) (text_le_list (by rw [hLT]; exact hL)))
  have hcan : ∀ p ∈ ([.str ⟨#[100, 111]⟩, .str (mkS LT)] : List Pt), p.can := by
    intro p hp
    simp only [List.mem_cons, List.not_mem_nil, or_false] at hp
    rcases hp with rfl | rfl <;> trivial
  have hcall := Lib.hid (print_list ks a2 c2 _ hC hr1 ht1 (by rw [hLT]; exact hL))
  rw [hLT] at hcall
  clear hLT
  have hj' := Lib.hid hj
  have hlen' := Lib.hid hlen
  have hcan' := Lib.hid hcan
  clear hj hlen hcan ih hko hC hL
  go_wp2_with fail
  refine hcall.out.mono ?_
  rintro e w1 ⟨rfl, hB1⟩
  have hbD := hb0.trans (hB1.mono (Nat.le_of_lt hwz))
  clear hB1 hcall
  go_wp2_with fail
  refine (print_of_new (textE (.mk 11 s n l ks)) [.str ⟨#[100, 111]⟩, .str (mkS LT)] [.iface 9 (.string ⟨#[100, 111]⟩), .iface 9 (.string (mkS LT))] 20 w1 2 rfl (by exact ⟨rfl, rfl, trivial⟩) hcan'.out (by simp [lenMax]) hlen'.out hj'.out).mono ?_
  rintro e w2 ⟨rfl, hB2⟩
  go_wp2_with fail
  go_ret
  exact ⟨rfl, hbD.trans (hB2.mono (by have := hbD.size; omega))⟩

set_option maxHeartbeats 4000000 in
set_option maxRecDepth 100000 in
theorem text_k12 {k : Int} {s : Str} {n : Int} {l : List Str} {ks : List Ex} (ih : ∀ e ∈ ks, OkT e → (textE e).length ≤ 1099511627775 → TextC e) (hok : okB k l ks) (hko : ∀ e ∈ ks, OkT e) (hlen : (textE (.mk k s n l ks)).length ≤ 1099511627775) (h12 : k = 12) : TextC (.mk k s n l ks) := by
  intro v w hv
  obtain ⟨hv1, ht⟩ := hv
  obtain ⟨a1, c1, a2, c2, rfl, _, hn, hs, hls, hks, hl, hr⟩ := hv1.open
  unfold lenMax at hs hls hks
  have hb0 : Below w.heap.size w (w.alloc (.cells #[.int .i64 k, .string s, .int .i64 n, .slice a1 l.length c1, .slice a2 ks.length c2] 40)) := (Below.refl _ _).alloc (Nat.le_refl _) _
  obtain ⟨k0, k1, k2, k3, k4⟩ := box5 (w := w) (v0 := .int .i64 k) (v1 := .string s) (v2 := .int .i64 n) (v3 := .slice a1 l.length c1) (v4 := .slice a2 ks.length c2) (t := 40) (Below.refl _ _)
  have hr1 := hr.keeps (Keeps.of_below hb0)
  have hl1 := hl.keeps (Keeps.of_below hb0)
  have ht1 := ht.below hb0
  have hwz : w.heap.size < (w.alloc (.cells #[.int .i64 k, .string s, .int .i64 n, .slice a1 l.length c1, .slice a2 ks.length c2] 40)).heap.size := by simp
  have hcap := hv1.caps
  clear hv1 hr hl ht
  go_enter Tryz.func34, Tryz.ntmps34
  subst h12
  obtain ⟨LT, hLT⟩ : ∃ LT, listT (ks.map fun e => (e.kind, textE e)) = LT := ⟨_, rfl⟩
  have hj : joinSp (outs [.str ⟨#[100, 111, 115]⟩, .str (mkS LT)]) = textE (.mk 12 s n l ks) := by
    rw [← hLT]
    simp [outs, Pt.out, joinSp, textE, textBody, mkS, textL_map]
  have hL : LT.length ≤ 1099511627775 := Nat.le_trans (mem_le (p := mkS LT) (l := outs [.str ⟨#[100, 111, 115]⟩, .str (mkS LT)]) (by simp [outs, Pt.out])) (by rw [hj]; exact hlen)
  have hC : ∀ e ∈ ks, TextC e := fun e he => ih e he (hko e he) (Nat.le_trans (join_mem_le (ks.map textE) [32, 59, 32] (List.mem_map.2 ⟨e, he, rfl⟩)) (text_le_list (by rw [hLT]; exact hL)))
  have hcan : ∀ p ∈ ([.str ⟨#[100, 111, 115]⟩, .str (mkS LT)] : List Pt), p.can := by
    intro p hp
    simp only [List.mem_cons, List.not_mem_nil, or_false] at hp
    rcases hp with rfl | rfl <;> trivial
  have hcall := Lib.hid (print_list ks a2 c2 _ hC hr1 ht1 (by rw [hLT]; exact hL))
  rw [hLT] at hcall
  clear hLT
  have hj' := Lib.hid hj
  have hlen' := Lib.hid hlen
  have hcan' := Lib.hid hcan
  clear hj hlen hcan ih hko hC hL
  go_wp2_with fail
  refine hcall.out.mono ?_
  rintro e w1 ⟨rfl, hB1⟩
  have hbD := hb0.trans (hB1.mono (Nat.le_of_lt hwz))
  clear hB1 hcall
  go_wp2_with fail
  refine (print_of_new (textE (.mk 12 s n l ks)) [.str ⟨#[100, 111, 115]⟩, .str (mkS LT)] [.iface 9 (.string ⟨#[100, 111, 115]⟩), .iface 9 (.string (mkS LT))] 20 w1 2 rfl (by exact ⟨rfl, rfl, trivial⟩) hcan'.out (by simp [lenMax]) hlen'.out hj'.out).mono ?_
  rintro e w2 ⟨rfl, hB2⟩
  go_wp2_with fail
  go_ret
  exact ⟨rfl, hbD.trans (hB2.mono (by have := hbD.size; omega))⟩

set_option maxHeartbeats 4000000 in
set_option maxRecDepth 100000 in
theorem text_k1 {k : Int} {s : Str} {n : Int} {l : List Str} {ks : List Ex} (ih : ∀ e ∈ ks, OkT e → (textE e).length ≤ 1099511627775 → TextC e) (hok : okB k l ks) (hko : ∀ e ∈ ks, OkT e) (hlen : (textE (.mk k s n l ks)).length ≤ 1099511627775) (h1 : k = 1) : TextC (.mk k s n l ks) := by
  intro v w hv
  obtain ⟨hv1, ht⟩ := hv
  obtain ⟨a1, c1, a2, c2, rfl, _, hn, hs, hls, hks, hl, hr⟩ := hv1.open
  unfold lenMax at hs hls hks
  have hb0 : Below w.heap.size w (w.alloc (.cells #[.int .i64 k, .string s, .int .i64 n, .slice a1 l.length c1, .slice a2 ks.length c2] 40)) := (Below.refl _ _).alloc (Nat.le_refl _) _
  obtain ⟨k0, k1, k2, k3, k4⟩ := box5 (w := w) (v0 := .int .i64 k) (v1 := .string s) (v2 := .int .i64 n) (v3 := .slice a1 l.length c1) (v4 := .slice a2 ks.length c2) (t := 40) (Below.refl _ _)
  have hr1 := hr.keeps (Keeps.of_below hb0)
  have hl1 := hl.keeps (Keeps.of_below hb0)
  have ht1 := ht.below hb0
  have hwz : w.heap.size < (w.alloc (.cells #[.int .i64 k, .string s, .int .i64 n, .slice a1 l.length c1, .slice a2 ks.length c2] 40)).heap.size := by simp
  have hcap := hv1.caps
  clear hv1 hr hl ht
  go_enter Tryz.func34, Tryz.ntmps34
  subst h1
  go_wp2_with fail
  refine (Tryz.strconv_Itoa n hn.1 hn.2 _ ht1).mono ?_
  rintro e w1 ⟨rfl, d, os, rfl⟩
  go_wp2_with fail
  go_ret
  exact ⟨ret_str (by simp [textE, textBody, mkS]), hb0.trans (Lib.below_grow _ _ (by simp) _ _)⟩

end Go.Proofs.YtpdfeadajgokkaaGreatDoor
