/- A tree's text, kind by kind. -/
import Derived.Test.YtpdfeadajgokkaaGreatDoorTxtO
namespace Go.Proofs.YtpdfeadajgokkaaGreatDoor
open Go.RowKit

set_option maxHeartbeats 4000000 in
set_option maxRecDepth 100000 in
theorem text_k7 {k : Int} {s : Str} {n : Int} {l : List Str} {ks : List Ex} (ih : ∀ e ∈ ks, OkT e → (textE e).length ≤ 1099511627775 → TextC e) (hok : okB k l ks) (hko : ∀ e ∈ ks, OkT e) (hlen : (textE (.mk k s n l ks)).length ≤ 1099511627775) (h7 : k = 7) : TextC (.mk k s n l ks) := by
  intro v w hv
  obtain ⟨hv1, ht⟩ := hv
  obtain ⟨a1, c1, a2, c2, rfl, _, hn, hs, hls, hks, hl, hr⟩ := hv1.open
  unfold lenMax at hs hls hks
  have hb0 : Below w.heap.size w (w.alloc (.cells #[.int .i64 k, .string s, .int .i64 n, .slice a1 l.length c1, .slice a2 ks.length c2] 40)) := (Below.refl _ _).alloc (Nat.le_refl _) _
  obtain ⟨k0, k1, k2, k3, k4⟩ := box5 (w := w) (v0 := .int .i64 k) (v1 := .string s) (v2 := .int .i64 n) (v3 := .slice a1 l.length c1) (v4 := .slice a2 ks.length c2) (t := 40) (Below.refl _ _)
  have hr1 := hr.keeps (Keeps.of_below hb0)
  have hl1 := hl.keeps (Keeps.of_below hb0)
  have ht1 := ht.below hb0
  have hwz : w.heap.size < (w.alloc (.cells #[.int .i64 k, .string s, .int .i64 n, .slice a1 l.length c1, .slice a2 ks.length c2] 40)).heap.size := by simp
  have hcap := hv1.caps
  clear hv1 hr hl ht
  go_enter Tryz.func34, Tryz.ntmps34
  subst h7
  have hm := hok.2.2.2.1 rfl
  obtain ⟨b, off, rfl, hkid⟩ := hr1.kid (by rintro rfl; simp at hm)
  obtain ⟨x0, y0, z0, u0, g00, g01, g02, g03, g04, ge0⟩ := hkid 0 (by omega)
  simp only [Nat.zero_mul, Nat.one_mul, Nat.add_zero, Nat.reduceMul, Nat.reduceAdd, Nat.add_assoc] at g00 g01 g02 g03 g04
  have b0 : 0 < ks.length := by omega
  have d0 : (0 : Int) < (ks.length : Int) := by omega
  have d1 : (1 : Int) ≤ (ks.length : Int) := by omega
  have e0 := textL_get ks 0 (by omega)
  have hrd := row_drop hr1 hcap.2
  obtain ⟨LT, hLT⟩ : ∃ LT, listT ((ks.drop 1).map fun e => (e.kind, textE e)) = LT := ⟨_, rfl⟩
  have hj : joinSp (outs [.str ⟨#[99, 97, 115, 101]⟩, .ex ks[0], .str ⟨#[111, 102]⟩, .str (mkS LT)]) = textE (.mk 7 s n l ks) := by
    rw [← hLT]
    simp [outs, Pt.out, joinSp, textE, textBody, mkS, bs, textL_map, List.getElem?_eq_getElem b0]
  have hL : LT.length ≤ 1099511627775 := Nat.le_trans (mem_le (p := mkS LT) (l := outs [.str ⟨#[99, 97, 115, 101]⟩, .ex ks[0], .str ⟨#[111, 102]⟩, .str (mkS LT)]) (by simp [outs, Pt.out])) (by rw [hj]; exact hlen)
  have hC : ∀ e ∈ ks.drop 1, TextC e := fun e he => ih e (List.mem_of_mem_drop he) (hko e (List.mem_of_mem_drop he)) (Nat.le_trans (join_mem_le ((ks.drop 1).map textE) [32, 59, 32] (List.mem_map.2 ⟨e, he, rfl⟩)) (text_le_list (by rw [hLT]; exact hL)))
  have L0 : (textE ks[0]).length ≤ 1099511627775 := (Nat.le_trans (mem_le (p := mkS (textE ks[0])) (l := outs [.str ⟨#[99, 97, 115, 101]⟩, .ex ks[0], .str ⟨#[111, 102]⟩, .str (mkS LT)]) (by simp [outs, Pt.out])) (by rw [hj]; exact hlen))
  have C0 : TextC ks[0] := ih _ (List.getElem_mem _) (hko _ (List.getElem_mem _)) L0
  have hcan : ∀ p ∈ ([.str ⟨#[99, 97, 115, 101]⟩, .ex ks[0], .str ⟨#[111, 102]⟩, .str (mkS LT)] : List Pt), p.can := by
    intro p hp
    simp only [List.mem_cons, List.not_mem_nil, or_false] at hp
    rcases hp with rfl | rfl | rfl | rfl
    · trivial
    · exact C0
    · trivial
    · trivial
  have hj' := Lib.hid hj
  have hlen' := Lib.hid hlen
  have hcan' := Lib.hid hcan
  clear hj hlen hcan ih hko hkid
  go_wp2_with fail
  generalize w.alloc (.cells #[.int .i64 7, .string s, .int .i64 n, .slice a1 l.length c1, .slice (some ⟨b, off, none⟩) ks.length c2] 40) = W at *
  have hcall : Hid (∀ V : World, Below W.heap.size W V → Calls Tryz.prog 65 #[.slice (if c2 = 1 then some ⟨b, off, none⟩ else some ⟨b, off + 5, none⟩) (ks.length - 1) (c2 - 1)] V fun r w' => r = .returned (.string (mkS LT)) ∧ Below V.heap.size V w') := by
    intro V hb
    have := print_list (ks.drop 1) (if c2 = 1 then some ⟨b, off, none⟩ else some ⟨b, off + 5, none⟩) (c2 - 1) V hC (hrd.keeps (Keeps.of_below hb)) (ht1.below hb) (by rw [hLT]; exact hL)
    rwa [List.length_drop, hLT] at this
  have hWd := Lib.hid ((Below.refl W.heap.size W).drew)
  clear hC hL hrd hcap hLT
  go_region_law (first | (go_simp; go_at_call 65; refine (hcall.out _ hWd.out).mono ?_; rintro e w1 ⟨rfl, hB1⟩; have hbw1 := hWd.out.trans (hB1.mono hWd.out.size); have j4 := Keeps.of_below hbw1 _ _ k4; have j00 := Keeps.of_below hbw1 _ _ g00; have j01 := Keeps.of_below hbw1 _ _ g01; have j02 := Keeps.of_below hbw1 _ _ g02; have j03 := Keeps.of_below hbw1 _ _ g03; have j04 := Keeps.of_below hbw1 _ _ g04; clear hB1) | (go_simp; go_at_call 21; refine (print_of_new (textE (.mk 7 s n l ks)) [.str ⟨#[99, 97, 115, 101]⟩, .ex ks[0], .str ⟨#[111, 102]⟩, .str (mkS LT)] [.iface 9 (.string ⟨#[99, 97, 115, 101]⟩), .iface 40 (.agg #[.int .i64 ks[0].kind, .string ks[0].name, .int .i64 ks[0].num, .slice x0 ks[0].names.length y0, .slice z0 ks[0].kids.length u0]), .iface 9 (.string ⟨#[111, 102]⟩), .iface 9 (.string (mkS LT))] 20 w1 4 rfl (by exact ⟨rfl, ⟨_, rfl, IsExT.below ⟨ge0, ht1⟩ (hbw1.alloc hbw1.size _)⟩, rfl, rfl, trivial⟩) hcan'.out (by simp [lenMax]) hlen'.out hj'.out).mono ?_; rintro e w2 ⟨rfl, hB2⟩))
  all_goals
    go_wp2_with fail
    all_goals
      go_ret
      exact ⟨rfl, hb0.trans ((hbw1.mono (Nat.le_of_lt hwz)).trans (hB2.mono (by have := hbw1.size; omega)))⟩

end Go.Proofs.YtpdfeadajgokkaaGreatDoor
