/- A part of the proof that parser laws hold: texts of the walk and of its plain laws, made small. -/
import Derived.Test.YtnfclcfcpgfajaaGreatDoorM02
import Derived.Deep.QuietTactic
import Derived.BigQuiet
import Derived.PlainAid
import Derived.StillTailTactics
set_option linter.unusedVariables false
set_option linter.unusedSimpArgs false
/- The reference's: are two types, two lists of facts the same? -/
namespace Go.Proofs.YtnfclcfcpgfajaaGreatDoor
open Go.RowKit

open Classical in
/-- Is it the same? -/
noncomputable def eqB {α : Type} (a b : α) : Bool := decide (a = b)
theorem eqB_true {α : Type} {a b : α} (h : a = b) : eqB a b = true := by simp [eqB, h]
theorem eqB_false {α : Type} {a b : α} (h : ¬ a = b) : eqB a b = false := by simp [eqB, h]
theorem str_eq {a b : Str} (h : (a.toList == b.toList) = true) : a = b := by
  rw [beq_iff_eq, Lib.toList_data, Lib.toList_data] at h
  obtain ⟨⟨a⟩⟩ := a; obtain ⟨⟨b⟩⟩ := b
  simp at h; rw [h]
theorem below_drewN' {B : Nat} {W w : World} (h : Below B W w) : ∀ n, Below B W (w.drewN n)
  | 0 => h
  | n + 1 => (below_drewN' h n).drew
theorem str_ne {a b : Str} (h : (a.toList == b.toList) = false) : ¬ a = b := by
  rintro rfl; simp at h

set_option maxHeartbeats 800000 in
set_option maxRecDepth 100000 in
theorem r08_Same : ∀ (e f : Ty) (v u : Value) (w : World), IsTy w v e → IsTy w u f → Calls Tryz.prog 25 #[v, u] w fun r w' => r = .returned (.bool (eqB e f)) ∧ Below w.heap.size w w' := by
  refine Ty.ind fun s n l ih f v u w hv hu => ?_
  obtain ⟨s', n', l'⟩ := f
  obtain ⟨a1, c1, rfl, _, hn, hs, hls, hr⟩ := hv.open
  obtain ⟨a1', c1', rfl, _, hn', hs', hls', hr'⟩ := hu.open
  unfold lenMax at hls hls'
  have hB0 : Below (w.heap.size + 1) (w.alloc (.cells #[.string s, .int .i64 n, .slice a1 l.length c1] 25)) ((w.alloc (.cells #[.string s, .int .i64 n, .slice a1 l.length c1] 25)).alloc (.cells #[.string s', .int .i64 n', .slice a1' l'.length c1'] 25)) := (Below.refl _ _).alloc (by simp) _
  have hbw := Lib.hid (below_box hB0)
  have hbox : ∀ W, Below (w.heap.size + 2) ((w.alloc (.cells #[.string s, .int .i64 n, .slice a1 l.length c1] 25)).alloc (.cells #[.string s', .int .i64 n', .slice a1' l'.length c1'] 25)) W → (W.cell? ⟨w.heap.size, 0, none⟩ = some (.string s) ∧ W.cell? ⟨w.heap.size, 1, none⟩ = some (.int .i64 n) ∧ W.cell? ⟨w.heap.size, 2, none⟩ = some (.slice a1 l.length c1)) ∧ (W.cell? ⟨w.heap.size + 1, 0, none⟩ = some (.string s') ∧ W.cell? ⟨w.heap.size + 1, 1, none⟩ = some (.int .i64 n') ∧ W.cell? ⟨w.heap.size + 1, 2, none⟩ = some (.slice a1' l'.length c1')) := by
    intro W hb
    refine ⟨box3 (hB0.trans (hb.mono (by omega))), ?_⟩
    have := box3 (w := w.alloc (.cells #[.string s, .int .i64 n, .slice a1 l.length c1] 25)) (wr := W) (by simpa using hb)
    simpa using this
  obtain ⟨⟨x0, x1, x2⟩, y0, y1, y2⟩ := hbox _ (Below.refl _ _)
  have hbox' := Lib.hid hbox
  have hr0 := Lib.hid hr
  have hr0' := Lib.hid hr'
  have ih' := Lib.hid ih
  clear hv hu hB0 hbox hr hr' ih
  cases q2 : (s.toList == s'.toList)
  case false =>
    have hq := Lib.hid (str_ne q2)
    go_enter Tryz.func25, Tryz.ntmps25
    go_wp2_with fail
    go_ret
    exact ⟨ret_bool (eqB_false (fun e => hq.out (by injection e))).symm, hbw.out⟩
  have hq2 := str_eq q2
  subst hq2
  clear q2
  cases qn : (n != n')
  case true =>
    have hq := Lib.hid (bne_iff_ne.1 qn)
    go_enter Tryz.func25, Tryz.ntmps25
    go_wp2_with fail
    go_ret
    exact ⟨ret_bool (eqB_false (fun e => hq.out (by injection e))).symm, hbw.out⟩
  have hqn := bne_eq_false_iff_eq.1 qn
  subst hqn
  clear qn
  have hnn : (n != n) = false := by simp
  by_cases q4 : l.length = l'.length
  case neg =>
    have e1 : ((l.length : Int) != (l'.length : Int)) = true := by rw [bne_iff_ne]; omega
    have hq := Lib.hid q4
    clear q4
    go_enter Tryz.func25, Tryz.ntmps25
    go_wp2_with fail
    go_ret
    exact ⟨ret_bool (eqB_false (fun e => hq.out (by injection e with _ _ e; rw [e]))).symm, hbw.out⟩
  have e4 : ((l.length : Int) != (l'.length : Int)) = false := by rw [bne_eq_false_iff_eq]; omega
  have q4' := Lib.hid q4
  have hle : l.length ≤ l'.length := by omega
  clear q4
  go_enter Tryz.func25, Tryz.ntmps25
  go_wp2_with fail
  go_loopw [5] (fun i wr => ∃ m : Nat, m ≤ l.length ∧ i = .int .i64 m ∧ Hid (∀ j (hj : j < m) (hl : j < l.length) (hm : j < l'.length), l[j] = l'[j]) ∧ Below (w.heap.size + 2) ((w.alloc (.cells #[.string s, .int .i64 n, .slice a1 l.length c1] 25)).alloc (.cells #[.string s, .int .i64 n, .slice a1' l'.length c1'] 25)) wr) (fun i _ => l.length - (intOf i).toNat)
  case atStart => exact ⟨0, by omega, rfl, fun j hj => by omega, Below.refl _ _⟩
  case round =>
    clear x0 x1 x2 y0 y1 y2
    obtain ⟨i, hk, rfl, hall, hB⟩ := hrel
    obtain ⟨⟨x0, x1, x2⟩, y0, y1, y2⟩ := hbox'.out _ hB
    have hbW := hbw.out.trans (hB.mono (by omega))
    have hz : w.heap.size + 2 ≤ wr.heap.size := by have := hB.size; simp at this; omega
    by_cases hlt : i < l.length
    · obtain ⟨b, off, rfl, hkid⟩ := (hr0.out.keeps (Keeps.of_below hbW)).arg (by rintro rfl; simp at hlt)
      have hne' : l' ≠ [] := fun h => by have h0 : l'.length = 0 := (by rw [h]; rfl); omega
      obtain ⟨b', off', rfl, hkid'⟩ := (hr0'.out.keeps (Keeps.of_below hbW)).arg hne'
      have hlt2 : i < l'.length := by omega
      have hlt3 : (i : Int) < (l'.length : Int) := by omega
      obtain ⟨a3, c3, g0, g1, g2, ge⟩ := hkid i hlt
      obtain ⟨a3', c3', g0', g1', g2', ge'⟩ := hkid' i hlt2
      have hcall := Lib.hid (fun V (hb : Below wr.heap.size wr V) => ih'.out _ (List.getElem_mem hlt) l'[i] _ _ V (TyX.keeps (Keeps.of_below hb) _ _ ge) (TyX.keeps (Keeps.of_below hb) _ _ ge'))
      clear hkid hkid' ge ge'
      by_cases hq : l[i] = l'[i]
      · rw [eqB_true hq] at hcall
        have hq' := Lib.hid hq
        clear hq
        go_wp2_with fail
        refine wp_region_still_tail 10 (by kernel_rfl) (by kernel_rfl) ?_
        simp only [List.take_succ_cons, List.take_zero, List.drop_succ_cons, List.drop_zero]
        change wpStill _ _ wr.drew _ _ _
        iterate 10 still_step
        refine wpStill_nil ?_
        change wpList _ _ _ _ _ wr.drew
        have hD : Below wr.heap.size wr wr.drew := (Below.refl _ _).drew
        generalize wr.drew = D at hD ⊢
        go_wp2_with fail
        refine (hcall.out _ hD).mono ?_
        rintro e w2 ⟨rfl, hB2⟩
        have hb2 := hD.trans (hB2.mono hD.size)
        have hB2' := hB.trans (hb2.mono hz)
        clear hB2 hD
        go_wp2_with fail
        go_roundw
        case rel => exact ⟨i + 1, by omega, by go_num, fun j hj hl hm => by
          rcases Nat.lt_or_ge j i with h | h
          · exact hall.out j h hl hm
          · obtain rfl : j = i := by omega
            exact hq'.out, hB2'⟩
        case measure => simp [intOf]; omega
      · rw [eqB_false hq] at hcall
        have hq' := Lib.hid hq
        clear hq
        go_wp2_with fail
        refine wp_region_still_tail 10 (by kernel_rfl) (by kernel_rfl) ?_
        simp only [List.take_succ_cons, List.take_zero, List.drop_succ_cons, List.drop_zero]
        change wpStill _ _ wr.drew _ _ _
        iterate 10 still_step
        refine wpStill_nil ?_
        change wpList _ _ _ _ _ wr.drew
        have hD : Below wr.heap.size wr wr.drew := (Below.refl _ _).drew
        generalize wr.drew = D at hD ⊢
        go_wp2_with fail
        refine (hcall.out _ hD).mono ?_
        rintro e w2 ⟨rfl, hB2⟩
        have hb2 := hD.trans (hB2.mono hD.size)
        have hB2' := hB.trans (hb2.mono hz)
        clear hB2 hD
        go_wp2_with fail
        go_ret
        exact ⟨ret_bool (eqB_false (fun e => hq'.out (by injection e with _ _ e; simp [e]))).symm, hbW.trans (hb2.mono hbW.size)⟩
    · go_wp2_with fail
      go_ret
      refine ⟨ret_bool (eqB_true ?_).symm, hbW⟩
      rw [List.ext_getElem q4'.out fun j h1 h2 => hall.out j (by omega) h1 h2]

end Go.Proofs.YtnfclcfcpgfajaaGreatDoor
