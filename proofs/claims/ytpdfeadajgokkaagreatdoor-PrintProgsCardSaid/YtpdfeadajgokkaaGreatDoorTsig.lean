/- May a written type, a constructor, a program be? -/
import Derived.Test.YtpdfeadajgokkaaGreatDoorIdx
import Derived.Test.YtpdfeadajgokkaaGreatDoorTreeE
import Derived.Test.YtpdfeadajgokkaaGreatDoorSmall
namespace Go.Proofs.YtpdfeadajgokkaaGreatDoor
open Go.RowKit

def headB (s : Str) (n : Nat) : Bool := conB s || (nameB s && (n : Int) == 0) || (s.toList == [45, 62] && (n : Int) == 2)
/-- Words: of a written type that may be, of at most such a depth. -/
def sigB : Sg → Int → Bool
  | .mk s l, most => decide (0 < most) && decide (l.length ≤ 40) && headB s l.length && sigL l (most - 1)
where sigL : List Sg → Int → Bool
  | [], _ => true
  | e :: r, most => sigB e most && sigL r most
theorem sigL_all (l : List Sg) (most : Int) : sigB.sigL l most = l.all fun e => sigB e most := by
  induction l with
  | nil => rfl
  | cons e r ih => simp only [sigB.sigL, List.all_cons, ih]
theorem any_not {α : Type} (p : α → Bool) (l : List α) : (l.any fun e => !p e) = !(l.all p) := by
  induction l with
  | nil => rfl
  | cons e r ih => simp only [List.any_cons, List.all_cons, ih]; cases p e <;> simp

theorem sig_inner (e : Sg) (most : Int) (h0 : -1000 ≤ most) (h9 : most ≤ 1000) (ih : ∀ (v : Value) (w : World), IsSg w v e → Calls Tryz.prog 76 #[v, .int .i64 (most - 1)] w fun r w' => r = .returned (.bool (sigB e (most - 1))) ∧ Below w.heap.size w w')
    (v : Value) (W : World) (b : Nat) (hb : W.cell? ⟨b, 0, none⟩ = some (.int .i64 most)) (hv : IsSg W v e) :
    Calls Tryz.prog 102 (#[v] ++ #[.pointer (some ⟨b, 0, none⟩)]) W fun r W' => r = .returned (.bool (!sigB e (most - 1))) ∧ Below W.heap.size W W' := by
  have hv0 := hv
  obtain ⟨nm, l⟩ := e
  obtain ⟨a1, c1, rfl, _⟩ := hv.open
  have hB0 : Below W.heap.size W (W.alloc (.cells #[.string nm, .slice a1 l.length c1] 28)) := (Below.refl _ _).alloc (Nat.le_refl _) _
  have hcall := Lib.hid (ih _ _ (IsSg.keeps (Keeps.of_below hB0) _ _ hv0))
  have hb1 := Keeps.of_below hB0 _ _ hb
  have hB0' := Lib.hid hB0
  clear hv hv0 hB0 ih hb
  show Calls Tryz.prog 102 #[.agg #[.string nm, .slice a1 l.length c1], .pointer (some ⟨b, 0, none⟩)] W _
  go_enter Tryz.func102, Tryz.ntmps102
  go_wp2_with fail
  refine hcall.out.mono ?_
  rintro e w1 ⟨rfl, hB1⟩
  go_wp2_with fail
  go_ret
  exact ⟨rfl, hB0'.out.trans (hB1.mono (by simp))⟩

set_option maxHeartbeats 1600000 in
theorem tree_sig : ∀ (s : Sg) (v : Value) (most : Int) (w : World), IsSg w v s → -900 ≤ most → most ≤ 900 →
    Calls Tryz.prog 76 #[v, .int .i64 most] w fun r w' => r = .returned (.bool (sigB s most)) ∧ Below w.heap.size w w' := by
  refine Sg.ind fun nm l ih v most w hv h0 h9 => ?_
  obtain ⟨a1, c1, rfl, hs, hn, hr⟩ := hv.open
  unfold lenMax at hs hn
  have hmf : ∀ (fn : Fn) (first cap : Array Value) (w : World), (Instr.makeFunc fn first cap).run Tryz.prog w = .ok (.func fn first cap) w := fun _ _ _ _ => rfl
  have hB0 : Below (w.heap.size + 1) (w.alloc (.cells #[.string nm, .slice a1 l.length c1] 28)) ((w.alloc (.cells #[.string nm, .slice a1 l.length c1] 28)).alloc (.cells #[.int .i64 most] 3)) := (Below.refl _ _).alloc (by simp) _
  have hbw := Lib.hid (below_box hB0)
  have hbox : ∀ W, Below (w.heap.size + 2) ((w.alloc (.cells #[.string nm, .slice a1 l.length c1] 28)).alloc (.cells #[.int .i64 most] 3)) W → W.cell? ⟨w.heap.size, 0, none⟩ = some (.string nm) ∧ W.cell? ⟨w.heap.size, 1, none⟩ = some (.slice a1 l.length c1) ∧ W.cell? ⟨w.heap.size + 1, 0, none⟩ = some (.int .i64 most) := by
    intro W hb
    refine ⟨(box2 (hB0.trans (hb.mono (by omega)))).1, (box2 (hB0.trans (hb.mono (by omega)))).2, ?_⟩
    rw [hb.cell (by simp), World.cell?_alloc_at _ _ _ _ (by simp)]; rfl
  obtain ⟨k0, k1, k2⟩ := hbox _ (Below.refl _ _)
  have hbox' := Lib.hid hbox
  have hr' := Lib.hid hr
  have ih' := Lib.hid ih
  clear hbox hr ih hv hB0
  have hCon := Lib.hid (fun W => lex_Con nm W)
  have hNm := Lib.hid (fun W => lex_Name nm W)
  by_cases hm : most ≤ 0
  · go_enter Tryz.func76, Tryz.ntmps76
    go_wp2_with fail
    go_ret
    exact ⟨ret_bool (by rw [sigB, decide_eq_false (by omega)]; rfl), hbw.out⟩
  by_cases hk : 40 < l.length
  · go_enter Tryz.func76, Tryz.ntmps76
    go_wp2_with fail
    go_ret
    exact ⟨ret_bool (by rw [sigB, decide_eq_false (p := l.length ≤ 40) (by omega), Bool.and_false]; rfl), hbw.out⟩
  cases hc : conB nm
  case true =>
    have hc' := Lib.hid hc
    have hH : Hid (headB nm l.length = true) := by unfold Hid; rw [headB, hc]; rfl
    rw [hc] at hCon
    clear hc
    go_enter Tryz.func76, Tryz.ntmps76
    go_wp2_with fail
    refine (hCon.out _).mono ?_
    rintro e w1 ⟨rfl, hB1⟩
    have hC1 := hB1
    clear hB1 k0 k1 k2
    obtain ⟨k0, k1, k2⟩ := hbox'.out _ (hC1.mono (by simp))
    have hz : w.heap.size + 2 ≤ w1.heap.size := by have := hC1.size; simp at this; omega
    have hcon := Lib.hid (contains_Sig a1 l c1 102 #[.pointer (some ⟨w.heap.size + 1, 0, none⟩)] (fun e => !sigB e (most - 1)) w1 (by unfold lenMax; omega) (hr'.out.keeps (Keeps.of_below (hbw.out.trans (hC1.mono (by simp; omega))))) (fun e he v W hb hv => sig_inner e most (by omega) (by omega) (fun v w hv => ih'.out e he v (most - 1) w hv (by omega) (by omega)) v W _ (Keeps.of_below hb _ _ k2) hv) (fun args w => Tryz.call102 args w))
    go_wp2_with fail
    refine hcon.out.mono ?_
    rintro e wz ⟨rfl, hBz⟩
    go_wp2_with fail
    go_ret
    refine ⟨ret_bool ?_, hbw.out.trans ((hC1.mono (by simp; omega)).trans (hBz.mono (by omega)))⟩
    rw [any_not, Bool.not_not, sigB, sigL_all, decide_eq_true (by omega), decide_eq_true (by omega), hH.out]; rfl
  case false =>
  cases hn : nameB nm
  case false =>
    cases ha : (nm.toList == [45, 62])
    case false =>
      have hc' := Lib.hid hc
      have hn' := Lib.hid hn
      have ha' := Lib.hid ha
      have hH : Hid (headB nm l.length = false) := by unfold Hid; rw [headB, hc, hn, ha]; rfl
      rw [hc] at hCon
      rw [hn] at hNm
      clear hc hn
      go_enter Tryz.func76, Tryz.ntmps76
      go_wp2_with fail
      refine (hCon.out _).mono ?_
      rintro e w1 ⟨rfl, hB1⟩
      have hC1 := hB1
      clear hB1 k0 k1 k2
      obtain ⟨k0, k1, k2⟩ := hbox'.out _ (hC1.mono (by simp))
      go_wp2_with fail
      refine (hNm.out _).mono ?_
      rintro e w2 ⟨rfl, hB2⟩
      have hC2 := hC1.trans (hB2.mono (by have := hC1.size; simp at this ⊢; omega))
      clear hB2 k0 k1 k2
      obtain ⟨k0, k1, k2⟩ := hbox'.out _ (hC2.mono (by simp))
      go_wp2_with fail
      go_ret
      refine ⟨ret_bool ?_, hbw.out.trans (hC2.mono (by simp; omega))⟩
      rw [sigB, hH.out, Bool.and_false]; rfl
    case true =>
    cases h2 : ((l.length : Int) == 2)
    case false =>
      have hc' := Lib.hid hc
      have hn' := Lib.hid hn
      have ha' := Lib.hid ha
      have h2' := Lib.hid h2
      have hH : Hid (headB nm l.length = false) := by unfold Hid; rw [headB, hc, hn, ha, h2]; rfl
      rw [hc] at hCon
      rw [hn] at hNm
      clear hc hn
      go_enter Tryz.func76, Tryz.ntmps76
      go_wp2_with fail
      refine (hCon.out _).mono ?_
      rintro e w1 ⟨rfl, hB1⟩
      have hC1 := hB1
      clear hB1 k0 k1 k2
      obtain ⟨k0, k1, k2⟩ := hbox'.out _ (hC1.mono (by simp))
      go_wp2_with fail
      refine (hNm.out _).mono ?_
      rintro e w2 ⟨rfl, hB2⟩
      have hC2 := hC1.trans (hB2.mono (by have := hC1.size; simp at this ⊢; omega))
      clear hB2 k0 k1 k2
      obtain ⟨k0, k1, k2⟩ := hbox'.out _ (hC2.mono (by simp))
      go_wp2_with fail
      go_ret
      refine ⟨ret_bool ?_, hbw.out.trans (hC2.mono (by simp; omega))⟩
      rw [sigB, hH.out, Bool.and_false]; rfl
    case true =>
      have hc' := Lib.hid hc
      have hn' := Lib.hid hn
      have ha' := Lib.hid ha
      have h2' := Lib.hid h2
      have hH : Hid (headB nm l.length = true) := by unfold Hid; rw [headB, hc, hn, ha, h2]; rfl
      rw [hc] at hCon
      rw [hn] at hNm
      clear hc hn
      go_enter Tryz.func76, Tryz.ntmps76
      go_wp2_with fail
      refine (hCon.out _).mono ?_
      rintro e w1 ⟨rfl, hB1⟩
      have hC1 := hB1
      clear hB1 k0 k1 k2
      obtain ⟨k0, k1, k2⟩ := hbox'.out _ (hC1.mono (by simp))
      go_wp2_with fail
      refine (hNm.out _).mono ?_
      rintro e w2 ⟨rfl, hB2⟩
      have hC2 := hC1.trans (hB2.mono (by have := hC1.size; simp at this ⊢; omega))
      clear hB2 k0 k1 k2
      obtain ⟨k0, k1, k2⟩ := hbox'.out _ (hC2.mono (by simp))
      have hz : w.heap.size + 2 ≤ w2.heap.size := by have := hC2.size; simp at this; omega
      have hcon := Lib.hid (contains_Sig a1 l c1 102 #[.pointer (some ⟨w.heap.size + 1, 0, none⟩)] (fun e => !sigB e (most - 1)) w2 (by unfold lenMax; omega) (hr'.out.keeps (Keeps.of_below (hbw.out.trans (hC2.mono (by simp; omega))))) (fun e he v W hb hv => sig_inner e most (by omega) (by omega) (fun v w hv => ih'.out e he v (most - 1) w hv (by omega) (by omega)) v W _ (Keeps.of_below hb _ _ k2) hv) (fun args w => Tryz.call102 args w))
      go_wp2_with fail
      refine hcon.out.mono ?_
      rintro e wz ⟨rfl, hBz⟩
      go_wp2_with fail
      go_ret
      refine ⟨ret_bool ?_, hbw.out.trans ((hC2.mono (by simp; omega)).trans (hBz.mono (by omega)))⟩
      rw [any_not, Bool.not_not, sigB, sigL_all, decide_eq_true (by omega), decide_eq_true (by omega), hH.out]; rfl
  case true =>
    cases h00 : ((l.length : Int) == 0)
    case false =>
      cases ha : (nm.toList == [45, 62])
      case false =>
        have hc' := Lib.hid hc
        have hn' := Lib.hid hn
        have h0' := Lib.hid h00
        have ha' := Lib.hid ha
        have hH : Hid (headB nm l.length = false) := by unfold Hid; rw [headB, hc, hn, h00, ha]; rfl
        rw [hc] at hCon
        rw [hn] at hNm
        clear hc hn
        go_enter Tryz.func76, Tryz.ntmps76
        go_wp2_with fail
        refine (hCon.out _).mono ?_
        rintro e w1 ⟨rfl, hB1⟩
        have hC1 := hB1
        clear hB1 k0 k1 k2
        obtain ⟨k0, k1, k2⟩ := hbox'.out _ (hC1.mono (by simp))
        go_wp2_with fail
        refine (hNm.out _).mono ?_
        rintro e w2 ⟨rfl, hB2⟩
        have hC2 := hC1.trans (hB2.mono (by have := hC1.size; simp at this ⊢; omega))
        clear hB2 k0 k1 k2
        obtain ⟨k0, k1, k2⟩ := hbox'.out _ (hC2.mono (by simp))
        go_wp2_with fail
        go_ret
        refine ⟨ret_bool ?_, hbw.out.trans (hC2.mono (by simp; omega))⟩
        rw [sigB, hH.out, Bool.and_false]; rfl
      case true =>
      cases h2 : ((l.length : Int) == 2)
      case false =>
        have hc' := Lib.hid hc
        have hn' := Lib.hid hn
        have h0' := Lib.hid h00
        have ha' := Lib.hid ha
        have h2' := Lib.hid h2
        have hH : Hid (headB nm l.length = false) := by unfold Hid; rw [headB, hc, hn, h00, ha, h2]; rfl
        rw [hc] at hCon
        rw [hn] at hNm
        clear hc hn
        go_enter Tryz.func76, Tryz.ntmps76
        go_wp2_with fail
        refine (hCon.out _).mono ?_
        rintro e w1 ⟨rfl, hB1⟩
        have hC1 := hB1
        clear hB1 k0 k1 k2
        obtain ⟨k0, k1, k2⟩ := hbox'.out _ (hC1.mono (by simp))
        go_wp2_with fail
        refine (hNm.out _).mono ?_
        rintro e w2 ⟨rfl, hB2⟩
        have hC2 := hC1.trans (hB2.mono (by have := hC1.size; simp at this ⊢; omega))
        clear hB2 k0 k1 k2
        obtain ⟨k0, k1, k2⟩ := hbox'.out _ (hC2.mono (by simp))
        go_wp2_with fail
        go_ret
        refine ⟨ret_bool ?_, hbw.out.trans (hC2.mono (by simp; omega))⟩
        rw [sigB, hH.out, Bool.and_false]; rfl
      case true =>
        have hc' := Lib.hid hc
        have hn' := Lib.hid hn
        have h0' := Lib.hid h00
        have ha' := Lib.hid ha
        have h2' := Lib.hid h2
        have hH : Hid (headB nm l.length = true) := by unfold Hid; rw [headB, hc, hn, h00, ha, h2]; rfl
        rw [hc] at hCon
        rw [hn] at hNm
        clear hc hn
        go_enter Tryz.func76, Tryz.ntmps76
        go_wp2_with fail
        refine (hCon.out _).mono ?_
        rintro e w1 ⟨rfl, hB1⟩
        have hC1 := hB1
        clear hB1 k0 k1 k2
        obtain ⟨k0, k1, k2⟩ := hbox'.out _ (hC1.mono (by simp))
        go_wp2_with fail
        refine (hNm.out _).mono ?_
        rintro e w2 ⟨rfl, hB2⟩
        have hC2 := hC1.trans (hB2.mono (by have := hC1.size; simp at this ⊢; omega))
        clear hB2 k0 k1 k2
        obtain ⟨k0, k1, k2⟩ := hbox'.out _ (hC2.mono (by simp))
        have hz : w.heap.size + 2 ≤ w2.heap.size := by have := hC2.size; simp at this; omega
        have hcon := Lib.hid (contains_Sig a1 l c1 102 #[.pointer (some ⟨w.heap.size + 1, 0, none⟩)] (fun e => !sigB e (most - 1)) w2 (by unfold lenMax; omega) (hr'.out.keeps (Keeps.of_below (hbw.out.trans (hC2.mono (by simp; omega))))) (fun e he v W hb hv => sig_inner e most (by omega) (by omega) (fun v w hv => ih'.out e he v (most - 1) w hv (by omega) (by omega)) v W _ (Keeps.of_below hb _ _ k2) hv) (fun args w => Tryz.call102 args w))
        go_wp2_with fail
        refine hcon.out.mono ?_
        rintro e wz ⟨rfl, hBz⟩
        go_wp2_with fail
        go_ret
        refine ⟨ret_bool ?_, hbw.out.trans ((hC2.mono (by simp; omega)).trans (hBz.mono (by omega)))⟩
        rw [any_not, Bool.not_not, sigB, sigL_all, decide_eq_true (by omega), decide_eq_true (by omega), hH.out]; rfl
    case true =>
      have hc' := Lib.hid hc
      have hn' := Lib.hid hn
      have h0' := Lib.hid h00
      have hH : Hid (headB nm l.length = true) := by unfold Hid; rw [headB, hc, hn, h00]; rfl
      rw [hc] at hCon
      rw [hn] at hNm
      clear hc hn
      go_enter Tryz.func76, Tryz.ntmps76
      go_wp2_with fail
      refine (hCon.out _).mono ?_
      rintro e w1 ⟨rfl, hB1⟩
      have hC1 := hB1
      clear hB1 k0 k1 k2
      obtain ⟨k0, k1, k2⟩ := hbox'.out _ (hC1.mono (by simp))
      go_wp2_with fail
      refine (hNm.out _).mono ?_
      rintro e w2 ⟨rfl, hB2⟩
      have hC2 := hC1.trans (hB2.mono (by have := hC1.size; simp at this ⊢; omega))
      clear hB2 k0 k1 k2
      obtain ⟨k0, k1, k2⟩ := hbox'.out _ (hC2.mono (by simp))
      have hz : w.heap.size + 2 ≤ w2.heap.size := by have := hC2.size; simp at this; omega
      have hcon := Lib.hid (contains_Sig a1 l c1 102 #[.pointer (some ⟨w.heap.size + 1, 0, none⟩)] (fun e => !sigB e (most - 1)) w2 (by unfold lenMax; omega) (hr'.out.keeps (Keeps.of_below (hbw.out.trans (hC2.mono (by simp; omega))))) (fun e he v W hb hv => sig_inner e most (by omega) (by omega) (fun v w hv => ih'.out e he v (most - 1) w hv (by omega) (by omega)) v W _ (Keeps.of_below hb _ _ k2) hv) (fun args w => Tryz.call102 args w))
      go_wp2_with fail
      refine hcon.out.mono ?_
      rintro e wz ⟨rfl, hBz⟩
      go_wp2_with fail
      go_ret
      refine ⟨ret_bool ?_, hbw.out.trans ((hC2.mono (by simp; omega)).trans (hBz.mono (by omega)))⟩
      rw [any_not, Bool.not_not, sigB, sigL_all, decide_eq_true (by omega), decide_eq_true (by omega), hH.out]; rfl
end Go.Proofs.YtpdfeadajgokkaaGreatDoor
