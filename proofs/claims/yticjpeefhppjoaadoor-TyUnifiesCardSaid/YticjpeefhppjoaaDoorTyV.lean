/- A type's text, by the reference. -/
import Derived.Test.YticjpeefhppjoaaDoorTyT
namespace Go.Proofs.YticjpeefhppjoaaDoor
open Go.RowKit

def TR (e : Ty) : Prop := ∀ (v : Value) (W : World), IsTy W v e → Calls Tryd.prog 39 #[v] W fun r w' => r = .returned (.string (mkS (textT e))) ∧ Below W.heap.size W w'
def AR (e : Ty) : Prop := ∀ (v : Value) (W : World), IsTy W v e → Calls Tryd.prog 59 #[v] W fun r w' => r = .returned (.string (mkS (atomT e))) ∧ Below W.heap.size W w'

set_option maxRecDepth 100000 in
theorem r08_atom (e : Ty) (h : TR e) (hl : (textT e).length ≤ 1099511627775) : AR e := by
  obtain ⟨s, n, l⟩ := e
  intro v w hv
  have hv0 := hv
  obtain ⟨a1, c1, rfl, _, _, hs, hn, hr⟩ := hv.open
  unfold lenMax at hs hn
  have hB0 : Below (w.heap.size + 1) (w.alloc (.cells #[.string s, .int .i64 n, .slice a1 l.length c1] 24)) (w.alloc (.cells #[.string s, .int .i64 n, .slice a1 l.length c1] 24)) := Below.refl _ _
  have hbw := Lib.hid (below_box hB0)
  obtain ⟨k0, k1, k2⟩ := box3 hB0
  obtain ⟨S, hS⟩ : ∃ S, mkS (textT (.mk s n l)) = S := ⟨_, rfl⟩
  have hsz : S.size ≤ 1099511627775 := by rw [← hS, sz_mkS]; exact hl
  have hcall := Lib.hid (h _ _ (TyX.keeps (keeps_box hB0) _ _ hv0))
  rw [hS] at hcall
  by_cases h0 : l.length = 0
  · have hat : Hid (S = mkS (atomT (.mk s n l))) := by unfold Hid; rw [← hS, atomT, Ty.args, h0]; rfl
    have h0' : ((l.length : Int) == 0) = true := by rw [h0]; rfl
    clear hv hv0 hB0 h hl hS hr h0
    go_enter Tryd.func59, Tryd.ntmps59
    go_wp2_with fail
    refine hcall.out.mono ?_
    rintro e w1 ⟨rfl, hB1⟩
    have hb1 := hbw.out.trans (hB1.mono (by simp))
    clear hB1
    go_wp2_with fail
    go_ret
    exact ⟨ret_str hat.out, hb1⟩
  · have hat : Hid (⟨#[40]⟩ ++ S ++ ⟨#[41]⟩ = mkS (atomT (.mk s n l))) := by
      unfold Hid
      refine bs_inj ?_
      have h0b : (l.length == 0) = false := by rw [beq_eq_false_iff_ne]; exact h0
      rw [bs_mkS, atomT, Ty.args, h0b, bs_cat, bs_cat, ← hS]; rfl
    have h0' : ((l.length : Int) == 0) = false := by rw [beq_eq_false_iff_ne]; omega
    clear hv hv0 hB0 h hl hS hr h0
    go_enter Tryd.func59, Tryd.ntmps59
    go_wp2_with fail
    refine hcall.out.mono ?_
    rintro e w1 ⟨rfl, hB1⟩
    have hb1 := hbw.out.trans (hB1.mono (by simp))
    clear hB1
    go_wp2_with fail
    go_ret
    exact ⟨ret_str hat.out, hb1⟩

set_option maxHeartbeats 4000000 in
set_option maxRecDepth 100000 in
theorem r08_text : ∀ (e : Ty) (d : Int), sndT e d = true → tcnt e ≤ 100000 → TR e := by
  refine Ty.ind fun s n l ih d hsnd hcnt v w hv => ?_
  have hlc : l.length ≤ 100000 := by have := tcntL_len l; simp only [tcnt] at hcnt; omega
  have htl : (textT (.mk s n l)).length ≤ 4000000 := by have := textT_len _ d hv hsnd; omega
  obtain ⟨a1, c1, rfl, _, hn64, hs, hl, hr⟩ := hv.open
  unfold lenMax at hl hs
  have hsnd0 := hsnd
  simp only [sndT, sndT_all, Bool.and_eq_true, List.all_eq_true] at hsnd
  obtain ⟨⟨_, hh⟩, ha⟩ := hsnd
  have hcm : ∀ e ∈ l, tcnt e ≤ 100000 := fun e he => by have := tcntL_mem he; simp only [tcnt] at hcnt; omega
  have hat : Hid (∀ e ∈ l, AR e ∧ (IsTy w (.agg #[.string s, .int .i64 n, .slice a1 l.length c1]) (.mk s n l) → (atomT e).length ≤ 4000002)) := fun e he => by
    have hle : (textT e).length ≤ 4000000 := by
      obtain ⟨j, hj, rfl⟩ := List.getElem_of_mem he
      obtain ⟨b, off, _, hat⟩ := hr.arg (by rintro rfl; simp at hj)
      obtain ⟨_, _, _, _, _, ge⟩ := hat j hj
      have := textT_len _ _ ge (ha _ he)
      have := hcm _ he
      omega
    exact ⟨r08_atom e (ih e he _ (ha e he) (hcm e he)) (by omega), fun _ => by have := atomT_len e; omega⟩
  have hB0 : Below (w.heap.size + 1) (w.alloc (.cells #[.string s, .int .i64 n, .slice a1 l.length c1] 24)) (w.alloc (.cells #[.string s, .int .i64 n, .slice a1 l.length c1] 24)) := Below.refl _ _
  have hbw := Lib.hid (below_box hB0)
  obtain ⟨k0, k1, k2⟩ := box3 hB0
  have hH : Hid (∀ V, Below (w.heap.size + 1) (w.alloc (.cells #[.string s, .int .i64 n, .slice a1 l.length c1] 24)) V → Calls Tryd.prog 52 #[.agg #[.string s, .int .i64 n, .slice a1 l.length c1]] V fun r V' => r = .returned (.bool (holeS s)) ∧ Below (w.heap.size + 1) (w.alloc (.cells #[.string s, .int .i64 n, .slice a1 l.length c1] 24)) V') := fun V hV => by
    refine (r08_hole s n a1 l.length c1 V).mono ?_
    rintro r V' ⟨hr, hB⟩
    exact ⟨hr, hV.trans (hB.mono (size_box hV))⟩
  have hv' := Lib.hid hv
  have hr' := Lib.hid hr
  have hT : Hid (textT (.mk s n l) = tyBody s n (l.map atomT)) := by unfold Hid; rw [textT, atomsT_map]
  have htl' := Lib.hid htl
  unfold headT at hh
  simp only [Bool.and_eq_true, decide_eq_true_eq] at hh
  clear hv hr ih htl hcnt hsnd0 ha hcm
  cases hq : holeS s
  case true =>
    have h0 : s.size = 0 := by rw [holeS_size] at hq; simpa using hq
    rw [if_pos h0] at hh
    simp only [Bool.and_eq_true, decide_eq_true_eq] at hh
    have hn0 := hh.2.1
    have hT2 : Hid (textT (.mk s n l) = if n < 26 then [UInt8.ofNat (97 + n.toNat)] else 116 :: Lib.itoa n) := by unfold Hid; rw [hT.out, tyBody, if_pos hq]
    rw [hq] at hH
    clear hq hh hT h0
    obtain ⟨u, rfl⟩ := Int.eq_ofNat_of_zero_le hn0
    by_cases h26 : (u : Int) < 26
    · have hT3 : Hid (mkS (textT (.mk s u l)) = ⟨#[UInt8.ofNat (97 + u)]⟩) := by unfold Hid; rw [hT2.out, if_pos h26]; rfl
      have hu : u < 26 := by omega
      have hz : ((UInt8.ofNat (97 + u)).toNat : Int) = 97 + (u : Int) := by
        rw [UInt8.toNat_ofNat']; omega
      have w4 : IntKind.u8.wrap (97 + (u : Int)) = 97 + (u : Int) := by simp only [IntKind.wrap, IntKind.bits, IntKind.signed]; simp; omega
      have hcv := Lib.hid (fun (V : World) => conv1 (V.alloc (.cells #[.int .u8 (97 + (u : Int))] 5)) V.heap.size (UInt8.ofNat (97 + u)) (by rw [World.cell?_alloc_at _ _ _ _ rfl, hz]; rfl))
      clear hz
      go_enter Tryd.func39, Tryd.ntmps39
      go_wp2_with fail
      refine (hH.out _ hB0).mono ?_
      rintro e w1 ⟨rfl, hC1⟩
      have hcv1 := hcv.out w1
      clear k0 k1 k2
      obtain ⟨k0, k1, k2⟩ := box3 hC1
      go_wp2_with fail
      go_ret
      exact ⟨ret_str (by rw [hT3.out, UInt8.ofNat_add]; rfl), (below_box hC1).alloc (by have := size_box hC1; omega) _⟩
    · have h26' : (26 : Int) ≤ (u : Int) := by omega
      have hcall := Lib.hid (fun (V : World) => r_digits u V (by omega))
      obtain ⟨D, hD⟩ : ∃ D, mkS (Lib.decDigits u) = D := ⟨_, rfl⟩
      have hT3 : Hid ((⟨#[116]⟩ : Str) ++ D = mkS (textT (.mk s u l))) := by
        unfold Hid; rw [hT2.out, if_neg h26, ← hD]
        refine bs_inj ?_
        rw [bs_cat, bs_mkS, bs_mkS, Lib.itoa, if_neg (by omega)]; rfl
      have hDs : D.size ≤ 4000000 := by
        have := htl'.out
        rw [hT2.out, if_neg h26, Lib.itoa, if_neg (by omega)] at this
        simp only [List.length_cons, Int.toNat_natCast] at this
        rw [← hD, sz_mkS]; omega
      rw [hD] at hcall
      clear hD
      go_enter Tryd.func39, Tryd.ntmps39
      go_wp2_with fail
      refine (hH.out _ hB0).mono ?_
      rintro e w1 ⟨rfl, hC1⟩
      clear k0 k1 k2
      obtain ⟨k0, k1, k2⟩ := box3 hC1
      go_wp2_with fail
      refine (hH.out _ hC1).mono ?_
      rintro e w2 ⟨rfl, hC2⟩
      clear k0 k1 k2
      obtain ⟨k0, k1, k2⟩ := box3 hC2
      go_wp2_with fail
      refine (hcall.out _).mono ?_
      rintro e w3 ⟨rfl, hB3⟩
      go_wp2_with fail
      go_ret
      exact ⟨ret_str hT3.out, below_box (hC2.trans (hB3.mono (size_box hC2)))⟩
  case false =>
    rw [hq] at hH
    have hq' := Lib.hid hq
    clear hq hh
    by_cases h2 : (s.toList == [45, 62]) = true ∧ l.length = 2
    · obtain ⟨h3, h4⟩ := h2
      obtain ⟨x, y, rfl⟩ : ∃ x y, l = [x, y] := by
        match l, h4 with
        | [x, y], _ => exact ⟨x, y, rfl⟩
      obtain ⟨b, off, rfl, harg⟩ := hr'.out.arg (by simp)
      obtain ⟨a2, c2, g0, g1, g2, ge⟩ := harg 0 (by simp)
      obtain ⟨a3, c3, g3, g4, g5, ge2⟩ := harg 1 (by simp)
      simp only [List.getElem_cons_zero, List.getElem_cons_succ, Nat.zero_mul, Nat.one_mul, Nat.add_zero, Nat.add_assoc, Nat.reduceAdd] at g0 g1 g2 g3 g4 g5 ge ge2
      have hax := hat.out x (by simp)
      have hay := hat.out y (by simp)
      have hlx := hax.2 hv'.out
      have hly := hay.2 hv'.out
      simp only [List.length_cons, List.length_nil, Nat.zero_add, Nat.reduceAdd] at *
      have hS : Hid (∀ V, Below (w.heap.size + 1) (w.alloc (.cells #[.string s, .int .i64 n, .slice (some ⟨b, off, none⟩) 2 c1] 24)) V → Below (w.heap.size + 1) (w.alloc (.cells #[.string s, .int .i64 n, .slice (some ⟨b, off, none⟩) 2 c1] 24)) V ∧ V.cell? ⟨w.heap.size, 0, none⟩ = some (.string s) ∧ V.cell? ⟨w.heap.size, 1, none⟩ = some (.int .i64 n) ∧ V.cell? ⟨w.heap.size, 2, none⟩ = some (.slice (some ⟨b, off, none⟩) 2 c1) ∧ V.cell? ⟨b, off, none⟩ = some (.string x.name) ∧ V.cell? ⟨b, off + 1, none⟩ = some (.int .i64 x.n) ∧ V.cell? ⟨b, off + 2, none⟩ = some (.slice a2 x.args.length c2) ∧ V.cell? ⟨b, off + 3, none⟩ = some (.string y.name) ∧ V.cell? ⟨b, off + 4, none⟩ = some (.int .i64 y.n) ∧ V.cell? ⟨b, off + 5, none⟩ = some (.slice a3 y.args.length c3)) := by
        intro V hb
        have bx := box3 hb
        have hk := keeps_box hb
        exact ⟨hb, bx.1, bx.2.1, bx.2.2, hk _ _ g0, hk _ _ g1, hk _ _ g2, hk _ _ g3, hk _ _ g4, hk _ _ g5⟩
      obtain ⟨S0, hS0⟩ : ∃ S, mkS (atomT x) = S := ⟨_, rfl⟩
      have z0' : S0.size ≤ 4000002 := by rw [← hS0, sz_mkS]; exact hlx
      have hQ0 : Hid (∀ V, Below (w.heap.size + 1) (w.alloc (.cells #[.string s, .int .i64 n, .slice (some ⟨b, off, none⟩) 2 c1] 24)) V → Calls Tryd.prog 59 #[(.agg #[.string x.name, .int .i64 x.n, .slice a2 x.args.length c2])] V fun r w' => r = .returned (.string S0) ∧ Below (w.heap.size + 1) (w.alloc (.cells #[.string s, .int .i64 n, .slice (some ⟨b, off, none⟩) 2 c1] 24)) w') := by
        intro V hb
        rw [← hS0]
        refine (hax.1 _ V (TyX.keeps (keeps_box hb) _ _ ge)).mono ?_
        rintro r w' ⟨rfl, hB⟩
        exact ⟨rfl, hb.trans (hB.mono (size_box hb))⟩
      obtain ⟨S1, hS1⟩ : ∃ S, mkS (atomT y) = S := ⟨_, rfl⟩
      have z1' : S1.size ≤ 4000002 := by rw [← hS1, sz_mkS]; exact hly
      have hQ1 : Hid (∀ V, Below (w.heap.size + 1) (w.alloc (.cells #[.string s, .int .i64 n, .slice (some ⟨b, off, none⟩) 2 c1] 24)) V → Calls Tryd.prog 59 #[(.agg #[.string y.name, .int .i64 y.n, .slice a3 y.args.length c3])] V fun r w' => r = .returned (.string S1) ∧ Below (w.heap.size + 1) (w.alloc (.cells #[.string s, .int .i64 n, .slice (some ⟨b, off, none⟩) 2 c1] 24)) w') := by
        intro V hb
        rw [← hS1]
        refine (hay.1 _ V (TyX.keeps (keeps_box hb) _ _ ge2)).mono ?_
        rintro r w' ⟨rfl, hB⟩
        exact ⟨rfl, hb.trans (hB.mono (size_box hb))⟩
      have hfin : Hid (S0 ++ (⟨#[32, 45, 62, 32]⟩ : Str) ++ S1 = mkS (textT (.mk s n [x, y]))) := by
        refine bs_inj ?_
        rw [bs_mkS, hT.out, tyBody, if_neg (by rw [hq'.out]; simp), if_pos ⟨h3, rfl⟩]
        simp only [bs_cat, ← hS0, ← hS1, bs_mkS]
        simp [bs]
      obtain ⟨_, k0, k1, k2, _⟩ := hS.out _ (Below.refl _ _)
      have hno1 : ¬ (9223372036854775807 < S0.size + 4) := by omega
      have hno2 : ¬ (9223372036854775807 < S0.size + 4 + S1.size) := by omega
      clear hat harg hax hay hS0 hS1 ge ge2 h4 hT htl' hlx hly
      go_enter Tryd.func39, Tryd.ntmps39
      go_wp2_with fail
      refine (hH.out _ hB0).mono ?_
      rintro e w1 ⟨rfl, hC1⟩
      clear k0 k1 k2
      obtain ⟨k0, k1, k2⟩ := box3 hC1
      go_wp2_with fail
      refine (hH.out _ hC1).mono ?_
      rintro e w2 ⟨rfl, hC2⟩
      clear k0 k1 k2
      obtain ⟨k0, k1, k2⟩ := box3 hC2
      have hst := Lib.hid (hS.out _ hC2)
      have hdr := Lib.hid (hS.out _ hC2.drew)
      go_wp2_with fail
      go_region_held3 (fun V => Below (w.heap.size + 1) (w.alloc (.cells #[.string s, .int .i64 n, .slice (some ⟨b, off, none⟩) 2 c1] 24)) V ∧ V.cell? ⟨w.heap.size, 0, none⟩ = some (.string s) ∧ V.cell? ⟨w.heap.size, 1, none⟩ = some (.int .i64 n) ∧ V.cell? ⟨w.heap.size, 2, none⟩ = some (.slice (some ⟨b, off, none⟩) 2 c1) ∧ V.cell? ⟨b, off, none⟩ = some (.string x.name) ∧ V.cell? ⟨b, off + 1, none⟩ = some (.int .i64 x.n) ∧ V.cell? ⟨b, off + 2, none⟩ = some (.slice a2 x.args.length c2) ∧ V.cell? ⟨b, off + 3, none⟩ = some (.string y.name) ∧ V.cell? ⟨b, off + 4, none⟩ = some (.int .i64 y.n) ∧ V.cell? ⟨b, off + 5, none⟩ = some (.slice a3 y.args.length c3)) ((first | exact hdr.out | exact hst.out | exact hS.out _ (by assumption) | exact hS.out _ (Below.drew (by assumption))))
        (first | (go_at_call 59; (with_reducible refine (hQ0.out _ (by first | assumption | exact Below.drew (by assumption))).mono ?_); rintro e w3 ⟨rfl, hb1⟩) | (go_at_call 59; (with_reducible refine (hQ1.out _ (by first | assumption | exact Below.drew (by assumption))).mono ?_); rintro e w3 ⟨rfl, hb1⟩))
      all_goals
        go_wp2_with fail
        go_ret
        exact ⟨ret_str hfin.out, below_box hb1⟩
    · have hT2 : Hid (textT (.mk s n l) = bs s ++ tyRest (l.map atomT)) := by
        unfold Hid; rw [hT.out, tyBody, if_neg (by rw [hq'.out]; simp), if_neg (fun h => h2 ⟨h.1, by rw [List.length_map] at h; exact h.2⟩)]
      have hsl : Hid (s.size + (tyRest (l.map atomT)).length ≤ 4000000) := by
        have := htl'.out
        rw [hT2.out, List.length_append, bs_len] at this
        exact this
      have hle : Hid (∀ k, k ≤ l.length → (tyRest ((l.take k).map atomT)).length ≤ (tyRest (l.map atomT)).length) := by
        intro k _
        have : tyRest (l.map atomT) = tyRest ((l.take k).map atomT) ++ tyRest ((l.drop k).map atomT) := by
          rw [show tyRest (l.map atomT) = tyRest ((l.take k ++ l.drop k).map atomT) by rw [List.take_append_drop], List.map_append]
          simp only [tyRest, List.flatMap_append]
        rw [this]; simp
      have hq2 : (s.toList == [45, 62]) = false ∨ ((s.toList == [45, 62]) = true ∧ ((l.length : Int) == 2) = false) := by
        cases h : (s.toList == [45, 62])
        · exact .inl rfl
        · refine .inr ⟨rfl, ?_⟩
          rw [beq_eq_false_iff_ne]
          exact fun h' => h2 ⟨h, by omega⟩
      clear h2 hT htl'
      rcases hq2 with h4 | ⟨h4, h5⟩
      all_goals
        go_enter Tryd.func39, Tryd.ntmps39
        go_wp2_with fail
        refine (hH.out _ hB0).mono ?_
        rintro e w1 ⟨rfl, hC1⟩
        clear k0 k1 k2
        obtain ⟨k0, k1, k2⟩ := box3 hC1
        go_wp2_with fail
        refine (hH.out _ hC1).mono ?_
        rintro e w2 ⟨rfl, hC2⟩
        clear k0 k1 k2
        obtain ⟨k0, k1, k2⟩ := box3 hC2
        go_wp2_with fail
        go_loopw [3, 4] (fun z i wr => ∃ (k : Nat) (S : Str), k ≤ l.length ∧ i = .int .i64 k ∧ z = .string S ∧ Hid (S = mkS (bs s ++ tyRest ((l.take k).map atomT))) ∧ Below (w.heap.size + 1) (w.alloc (.cells #[.string s, .int .i64 n, .slice a1 l.length c1] 24)) wr) (fun _ i _ => l.length - (intOf i).toNat)
        case atStart => exact ⟨0, _, by omega, rfl, rfl, by unfold Hid; simp [tyRest]; rfl, hC2⟩
        case round =>
          clear k0 k1 k2 hC1 hC2
          obtain ⟨k, S, hk, rfl, rfl, hS, hB⟩ := hrel
          obtain ⟨k0, k1, k2⟩ := box3 hB
          have hz := size_box hB
          by_cases h1 : k < l.length
          · obtain ⟨b, off, rfl, harg⟩ := (hr'.out.keeps (keeps_box hB)).arg (by rintro rfl; simp at h1)
            obtain ⟨a2, c2, g0, g1, g2, ge⟩ := harg k h1
            obtain ⟨S1, hS1⟩ : ∃ S, mkS (atomT l[k]) = S := ⟨_, rfl⟩
            have hcall := Lib.hid ((hat.out _ (List.getElem_mem h1)).1 _ wr ge)
            rw [hS1] at hcall
            have hn : Hid (S ++ ⟨#[32]⟩ ++ S1 = mkS (bs s ++ tyRest ((l.take (k + 1)).map atomT))) := by
              refine bs_inj ?_
              rw [bs_cat, bs_cat, hS.out, ← hS1, tyRest_succ l k h1]
              simp [bs, mkS]
            have hz1 : S.size + 1 + S1.size ≤ 4000000 := by
              have h1' := hle.out (k + 1) (by omega)
              rw [tyRest_succ l k h1] at h1'
              have h2' := hsl.out
              simp only [List.length_append, List.length_cons] at h1'
              rw [hS.out, ← hS1, sz_mkS, sz_mkS, List.length_append, bs_len]; omega
            have hz2 : S.size + 1 ≤ 4000000 := by omega
            clear hS1 ge harg
            go_wp2_with fail
            refine hcall.out.mono ?_
            rintro e w3 ⟨rfl, hB3⟩
            have hB3' := hB.trans (hB3.mono (hz))
            clear hB3
            go_wp2_with fail
            go_roundw
            case rel => exact ⟨k + 1, _, by omega, by go_num, rfl, hn, hB3'⟩
            case measure => simp [intOf]; omega
          · have e : k = l.length := by omega
            have e' := Lib.hid e
            clear e
            go_wp2_with fail
            go_ret
            exact ⟨ret_str (by rw [hS.out, e'.out, List.take_length, hT2.out]), below_box hB⟩

theorem r08_Text (e : Ty) (v : Value) (w : World) (hv : IsTy w v e) : Calls Tryd.prog 21 #[v] w fun r w' => r = .returned (.string (if chkT e = true then mkS (textT e) else ⟨#[]⟩)) ∧ Below w.heap.size w w' := by
  have hv0 := hv
  obtain ⟨s, n, l⟩ := e
  obtain ⟨a1, c1, rfl, _⟩ := hv.open
  have hB0 : Below (w.heap.size + 1) (w.alloc (.cells #[.string s, .int .i64 n, .slice a1 l.length c1] 24)) (w.alloc (.cells #[.string s, .int .i64 n, .slice a1 l.length c1] 24)) := Below.refl _ _
  obtain ⟨k0, k1, k2⟩ := box3 hB0
  have hc := Lib.hid (r08_Check _ _ _ (hv0.below (below_box hB0)))
  cases hq : chkT (.mk s n l)
  · rw [hq] at hc
    clear hq hv hv0
    go_enter Tryd.func21, Tryd.ntmps21
    go_wp2_with fail
    refine hc.out.mono ?_
    rintro e w1 ⟨rfl, hB1⟩
    go_wp2_with fail
    go_ret
    exact ⟨rfl, below_box (hB1.mono (by simp))⟩
  · have hsnd : sndT (.mk s n l) 60 = true := by simp only [chkT, Bool.and_eq_true] at hq; exact hq.2
    have hcn : tcnt (.mk s n l) ≤ 2000 := by simp only [chkT, Bool.and_eq_true, decide_eq_true_eq] at hq; exact hq.1
    have hh := Lib.hid (fun V (hV : Below (w.heap.size + 1) (w.alloc (.cells #[.string s, .int .i64 n, .slice a1 l.length c1] 24)) V) => r08_text _ 60 hsnd (by omega) _ V (hv0.below (below_box hV)))
    rw [hq] at hc
    clear hq hv hv0 hsnd hcn
    go_enter Tryd.func21, Tryd.ntmps21
    go_wp2_with fail
    refine hc.out.mono ?_
    rintro e w1 ⟨rfl, hB1⟩
    have hC1 := hB1.mono (B' := w.heap.size + 1) (by simp)
    clear hB1 k0 k1 k2
    obtain ⟨k0, k1, k2⟩ := box3 hC1
    go_wp2_with fail
    refine (hh.out _ hC1).mono ?_
    rintro e w2 ⟨rfl, hB2⟩
    go_wp2_with fail
    go_ret
    exact ⟨rfl, below_box (hC1.trans (hB2.mono (size_box hC1)))⟩
end Go.Proofs.YticjpeefhppjoaaDoor
