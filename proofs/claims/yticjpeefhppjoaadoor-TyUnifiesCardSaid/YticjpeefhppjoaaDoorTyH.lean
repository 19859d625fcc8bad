/- A type's holes by the reference. -/
import Derived.Test.YticjpeefhppjoaaDoorTyI
namespace Go.Proofs.YticjpeefhppjoaaDoor
open Go.RowKit

/-- A list, and a type's holes. -/
def holesT : Ty → List Int → List Int
  | .mk s n args, l => if holeS s = true then addI l n else holesL args l
where holesL : List Ty → List Int → List Int
  | [], l => l
  | e :: r, l => holesL r (holesT e l)
theorem holesL_append (a b : List Ty) (l : List Int) : holesT.holesL (a ++ b) l = holesT.holesL b (holesT.holesL a l) := by
  induction a generalizing l with
  | nil => rfl
  | cons e r ih => simp only [List.cons_append, holesT.holesL, ih]
theorem holesL_succ (args : List Ty) (k : Nat) (h : k < args.length) (l : List Int) : holesT.holesL (args.take (k + 1)) l = holesT args[k] (holesT.holesL (args.take k) l) := by
  rw [List.take_succ_eq_append_getElem h, holesL_append]; rfl
theorem holesT_len : ∀ (e : Ty) (l : List Int), (holesT e l).length ≤ l.length + tcnt e := by
  refine Ty.ind fun s n args ih l => ?_
  have hL : ∀ (r : List Ty) (l : List Int), (∀ e ∈ r, e ∈ args) → (holesT.holesL r l).length ≤ l.length + tcnt.cntL r := by
    intro r
    induction r with
    | nil => intro l _; simp [holesT.holesL, tcnt.cntL]
    | cons e r ihr =>
      intro l hm
      have h1 := ih e (hm e (by simp)) l
      have h2 := ihr (holesT e l) (fun x hx => hm x (by simp [hx]))
      simp only [holesT.holesL, tcnt.cntL]; omega
  simp only [holesT, tcnt]
  split
  · have := addI_len l n; omega
  · have := hL args l (fun _ h => h); omega

set_option maxHeartbeats 800000 in
set_option maxRecDepth 100000 in
theorem r08_holes : ∀ (e : Ty) (v u : Value) (l : List Int) (w : World), IsTy w v e → IntSl w u l → l.length + tcnt e ≤ 100000 →
    Calls Tryd.prog 33 #[u, v] w fun r w' => (∃ z, r = .returned z ∧ IntSl w' z (holesT e l)) ∧ Below w.heap.size w w' := by
  refine Ty.ind fun s n args ih v u l w hv hu hcnt => ?_
  obtain ⟨a1, c1, rfl, _, hn, hs, hl, hr⟩ := hv.open
  unfold lenMax at hs hl
  have hB0 : Below (w.heap.size + 1) (w.alloc (.cells #[.string s, .int .i64 n, .slice a1 args.length c1] 24)) (w.alloc (.cells #[.string s, .int .i64 n, .slice a1 args.length c1] 24)) := Below.refl _ _
  obtain ⟨k0, k1, k2⟩ := box3 hB0
  have hr' := Lib.hid hr
  have ih' := Lib.hid ih
  have hu' := Lib.hid hu
  have hH : Hid (∀ V, Below (w.heap.size + 1) (w.alloc (.cells #[.string s, .int .i64 n, .slice a1 args.length c1] 24)) V → Calls Tryd.prog 52 #[.agg #[.string s, .int .i64 n, .slice a1 args.length c1]] V fun r V' => r = .returned (.bool (holeS s)) ∧ Below (w.heap.size + 1) (w.alloc (.cells #[.string s, .int .i64 n, .slice a1 args.length c1] 24)) V') := fun V hV => by
    refine (r08_hole s n a1 args.length c1 V).mono ?_
    rintro r V' ⟨hr, hB⟩
    exact ⟨hr, hV.trans (hB.mono (size_box hV))⟩
  have hcl : Hid (∀ k, k ≤ args.length → (holesT.holesL (args.take k) l).length + tcnt.cntL (args.drop k) ≤ 99999) := by
    intro k hk
    have h1 : (holesT.holesL (args.take k) l).length ≤ l.length + tcnt.cntL (args.take k) := by
      have : ∀ (r : List Ty) (l : List Int), (holesT.holesL r l).length ≤ l.length + tcnt.cntL r := by
        intro r
        induction r with
        | nil => intro l; simp [holesT.holesL, tcnt.cntL]
        | cons e r ihr => intro l; have h1 := holesT_len e l; have h2 := ihr (holesT e l); simp only [holesT.holesL, tcnt.cntL]; omega
      exact this _ _
    have h2 : tcnt.cntL args = tcnt.cntL (args.take k) + tcnt.cntL (args.drop k) := by rw [← tcntL_append, List.take_append_drop]
    simp only [tcnt] at hcnt
    omega
  have hlc : l.length ≤ 100000 := by omega
  clear hv hr ih hu hcnt
  cases hq : holeS s
  · have hT : Hid (holesT (.mk s n args) l = holesT.holesL args l) := by unfold Hid; rw [holesT, if_neg (by rw [hq]; simp)]
    rw [hq] at hH
    clear hq
    go_enter Tryd.func33, Tryd.ntmps33
    go_wp2_with fail
    refine (hH.out _ hB0).mono ?_
    rintro e w1 ⟨rfl, hC1⟩
    clear k0 k1 k2
    go_wp2_with fail
    go_loopw [0, 5] (fun z i wr => ∃ (k : Nat), k ≤ args.length ∧ i = .int .i64 k ∧ Hid (IntSl wr z (holesT.holesL (args.take k) l)) ∧ Below (w.heap.size+1) (w.alloc (.cells #[.string s, .int .i64 n, .slice a1 args.length c1] 24)) wr) (fun _ i _ => args.length - (intOf i).toNat)
    case atStart => exact ⟨0, by omega, rfl, hu'.out.keeps (keeps_box hC1), hC1⟩
    case round =>
      clear hC1
      obtain ⟨k, hk, rfl, hz, hB⟩ := hrel
      obtain ⟨q0, q1, q2⟩ := box3 hB
      have hzs := size_box hB
      by_cases h1 : k < args.length
      · obtain ⟨b, off, rfl, harg⟩ := (hr'.out.keeps (keeps_box hB)).arg (by rintro rfl; simp at h1)
        obtain ⟨a2, c2, g0, g1, g2, ge⟩ := harg k h1
        have hlen := hcl.out k hk
        rw [List.drop_eq_getElem_cons h1] at hlen
        simp only [tcnt.cntL] at hlen
        have hcall := Lib.hid (ih'.out _ (List.getElem_mem h1) _ _ _ wr ge hz.out (by omega))
        have hnx := Lib.hid (holesL_succ args k h1 l)
        clear ge harg hlen
        go_wp2_with fail
        refine hcall.out.mono ?_
        rintro e w2 ⟨⟨z, rfl, hz2⟩, hB2⟩
        have hz2' := Lib.hid hz2
        have hB2' := hB.trans (hB2.mono hzs)
        clear hB2 hz2
        go_wp2_with fail
        go_roundw
        case rel => exact ⟨k + 1, by omega, by go_num, by unfold Hid; rw [hnx.out]; exact hz2'.out, hB2'⟩
        case measure => simp [intOf]; omega
      · have e : k = args.length := by omega
        have hz' : Hid (IntSl wr u0 (holesT (.mk s n args) l)) := by
          unfold Hid
          have := hz.out
          rw [e, List.take_length] at this
          rw [hT.out]; exact this
        clear e hz
        go_wp2_with fail
        go_ret
        exact ⟨⟨_, rfl, hz'.out⟩, below_box hB⟩
  · have hT : Hid (holesT (.mk s n args) l = addI l n) := by unfold Hid; rw [holesT, if_pos hq]
    rw [hq] at hH
    clear hq
    go_enter Tryd.func33, Tryd.ntmps33
    go_wp2_with fail
    refine (hH.out _ hB0).mono ?_
    rintro e w1 ⟨rfl, hC1⟩
    have hadd := Lib.hid (r08_add u l n w1 (hu'.out.keeps (keeps_box hC1)) hlc)
    clear k0 k1 k2
    obtain ⟨k0, k1, k2⟩ := box3 hC1
    go_wp2_with fail
    refine hadd.out.mono ?_
    rintro e w2 ⟨⟨z, rfl, hz⟩, hB2⟩
    have hz' := Lib.hid hz
    clear hz
    go_wp2_with fail
    go_ret
    exact ⟨⟨_, rfl, by rw [hT.out]; exact hz'.out⟩, below_box (hC1.trans (hB2.mono (size_box hC1)))⟩

theorem chk_cnt {e : Ty} (h : chkT e = true) : tcnt e ≤ 2000 := by
  simp only [chkT, Bool.and_eq_true, decide_eq_true_eq] at h
  exact h.1
def holesC (e : Ty) : List Int := if chkT e = true then holesT e [] else []
theorem r08_Holes (e : Ty) (v : Value) (w : World) (hv : IsTy w v e) : Calls Tryd.prog 14 #[v] w fun r w' => (∃ z, r = .returned z ∧ IntSl w' z (holesC e)) ∧ Below w.heap.size w w' := by
  have hv0 := hv
  obtain ⟨s, n, l⟩ := e
  obtain ⟨a1, c1, rfl, _⟩ := hv.open
  have hB0 : Below (w.heap.size + 1) (w.alloc (.cells #[.string s, .int .i64 n, .slice a1 l.length c1] 24)) (w.alloc (.cells #[.string s, .int .i64 n, .slice a1 l.length c1] 24)) := Below.refl _ _
  obtain ⟨k0, k1, k2⟩ := box3 hB0
  have hc := Lib.hid (r08_Check _ _ _ (hv0.below (below_box hB0)))
  cases hq : chkT (.mk s n l)
  · have hT : Hid (holesC (.mk s n l) = []) := by unfold Hid holesC; rw [if_neg (by rw [hq]; simp)]
    rw [hq] at hc
    clear hq hv hv0
    go_enter Tryd.func14, Tryd.ntmps14
    go_wp2_with fail
    refine hc.out.mono ?_
    rintro e w1 ⟨rfl, hB1⟩
    go_wp2_with fail
    go_ret
    exact ⟨⟨_, rfl, by rw [hT.out]; exact .inl ⟨rfl, rfl⟩⟩, below_box (hB1.mono (by simp))⟩
  · have hT : Hid (holesC (.mk s n l) = holesT (.mk s n l) []) := by unfold Hid holesC; rw [if_pos hq]
    have hh := Lib.hid (fun V (hV : Below (w.heap.size + 1) (w.alloc (.cells #[.string s, .int .i64 n, .slice a1 l.length c1] 24)) V) => r08_holes _ _ (.slice none 0 0) [] V (hv0.below (below_box hV)) (.inl ⟨rfl, rfl⟩) (by have := chk_cnt hq; simp; omega))
    rw [hq] at hc
    clear hq hv hv0
    go_enter Tryd.func14, Tryd.ntmps14
    go_wp2_with fail
    refine hc.out.mono ?_
    rintro e w1 ⟨rfl, hB1⟩
    have hC1 := hB1.mono (B' := w.heap.size + 1) (by simp)
    clear hB1 k0 k1 k2
    obtain ⟨k0, k1, k2⟩ := box3 hC1
    go_wp2_with fail
    refine (hh.out _ hC1).mono ?_
    rintro e w2 ⟨⟨z, rfl, hz⟩, hB2⟩
    have hz' := Lib.hid hz
    clear hz
    go_wp2_with fail
    go_ret
    exact ⟨⟨_, rfl, by rw [hT.out]; exact hz'.out⟩, below_box (hC1.trans (hB2.mono (size_box hC1)))⟩
end Go.Proofs.YticjpeefhppjoaaDoor
