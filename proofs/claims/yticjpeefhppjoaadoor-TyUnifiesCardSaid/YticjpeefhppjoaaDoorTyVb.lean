/- The reference's within, walked: what going through holes finds. -/
import Derived.Test.YticjpeefhppjoaaDoorTyVa
import Derived.Test.YticjpeefhppjoaaDoorTyI
import Derived.Test.YticjpeefhppjoaaDoorTyTj
namespace Go.Proofs.YticjpeefhppjoaaDoor
open Go.RowKit

/-- What going through holes finds. -/
structure WiR (L : List Fa) (n : Int) (U hs seen S : List Int) (found : Bool) : Prop where
  nodup : S.Nodup
  inU : ∀ m ∈ S, m ∈ U
  more : ∀ m ∈ seen, m ∈ S
  yes : found = true → ∃ m ∈ hs, Reach L m n
  no : found = false → (∀ h ∈ hs, h ≠ n ∧ h ∈ S) ∧ ∀ m ∈ S, m ∉ seen → ∀ x, fa? L m = some x → ∀ h ∈ allT x, h ≠ n ∧ h ∈ S
theorem WiR.nil {L : List Fa} {n : Int} {U seen : List Int} (h1 : seen.Nodup) (h2 : ∀ m ∈ seen, m ∈ U) : WiR L n U [] seen seen false :=
  ⟨h1, h2, fun _ h => h, (fun h => Bool.noConfusion h), fun _ => ⟨fun h hh => by simp at hh, fun m h h' => absurd h h'⟩⟩
theorem WiR.at_once {L : List Fa} {n : Int} {U seen : List Int} (h1 : seen.Nodup) (h2 : ∀ m ∈ seen, m ∈ U) : WiR L n U [n] seen seen true :=
  ⟨h1, h2, fun _ h => h, fun _ => ⟨n, by simp, Reach.refl n⟩, (fun h => Bool.noConfusion h)⟩
theorem WiR.was {L : List Fa} {n m : Int} {U seen : List Int} (h1 : seen.Nodup) (h2 : ∀ m ∈ seen, m ∈ U) (hn : m ≠ n) (hm : m ∈ seen) : WiR L n U [m] seen seen false :=
  ⟨h1, h2, fun _ h => h, (fun h => Bool.noConfusion h), fun _ => ⟨fun h hh => by simp at hh; subst hh; exact ⟨hn, hm⟩, fun m h h' => absurd h h'⟩⟩
theorem WiR.bare {L : List Fa} {n m : Int} {U seen : List Int} (h1 : (seen ++ [m]).Nodup) (h2 : ∀ m ∈ seen, m ∈ U) (hm : m ∈ U) (hn : m ≠ n) (hf : fa? L m = none) : WiR L n U [m] seen (seen ++ [m]) false :=
  ⟨h1, fun x hx => by
    rcases List.mem_append.1 hx with h | h
    · exact h2 x h
    · simp at h; subst h; exact hm, fun x hx => List.mem_append.2 (.inl hx), (fun h => Bool.noConfusion h),
    fun _ => ⟨fun h hh => by simp at hh; subst hh; exact ⟨hn, by simp⟩, fun x hx hx' t ht => by
      rcases List.mem_append.1 hx with h | h
      · exact absurd h hx'
      · simp at h; subst h; rw [hf] at ht; cases ht⟩⟩
theorem WiR.step {L : List Fa} {n m : Int} {U seen S : List Int} {found : Bool} {x : Ty} (hn : m ≠ n) (hf : fa? L m = some x) (h : WiR L n U (allT x) (seen ++ [m]) S found) : WiR L n U [m] seen S found :=
  ⟨h.nodup, h.inU, fun y hy => h.more y (List.mem_append.2 (.inl hy)), fun hh => by
    obtain ⟨k, hk, hr⟩ := h.yes hh
    exact ⟨m, by simp, Reach.step hf hk hr⟩, fun hh => by
    obtain ⟨ha, hb⟩ := h.no hh
    refine ⟨fun y hy => by simp at hy; subst hy; exact ⟨hn, h.more y (by simp)⟩, fun y hy hy' t ht => ?_⟩
    by_cases e : y = m
    · subst e; rw [hf] at ht; cases ht; exact ha
    · exact hb y hy (by simp; exact ⟨hy', e⟩) t ht⟩
theorem WiR.found {L : List Fa} {n : Int} {U l q seen S T : List Int} (h : WiR L n U l seen S false) (k : WiR L n U q S T true) : WiR L n U (l ++ q) seen T true :=
  ⟨k.nodup, k.inU, fun m hm => k.more m (h.more m hm), fun _ => by
    obtain ⟨m, hm, hr⟩ := k.yes rfl
    exact ⟨m, List.mem_append.2 (.inr hm), hr⟩, (fun h => Bool.noConfusion h)⟩
theorem WiR.wider {L : List Fa} {n : Int} {U l q seen S : List Int} (h : WiR L n U l seen S true) (hq : l <+: q) : WiR L n U q seen S true :=
  ⟨h.nodup, h.inU, h.more, fun _ => by
    obtain ⟨m, hm, hr⟩ := h.yes rfl
    exact ⟨m, hq.subset hm, hr⟩, (fun h => Bool.noConfusion h)⟩
theorem WiR.next {L : List Fa} {n : Int} {U l q seen S T : List Int} (h : WiR L n U l seen S false) (k : WiR L n U q S T false) : WiR L n U (l ++ q) seen T false :=
  ⟨k.nodup, k.inU, fun m hm => k.more m (h.more m hm), (fun h => Bool.noConfusion h), fun _ => by
    obtain ⟨h1, h2⟩ := h.no rfl
    obtain ⟨k1, k2⟩ := k.no rfl
    refine ⟨fun y hy => ?_, fun y hy hy' t ht e he => ?_⟩
    · rcases List.mem_append.1 hy with hy | hy
      · exact ⟨(h1 y hy).1, k.more y (h1 y hy).2⟩
      · exact k1 y hy
    · by_cases hS : y ∈ S
      · have := h2 y hS hy' t ht e he
        exact ⟨this.1, k.more e this.2⟩
      · exact k2 y hy hS t ht e he⟩
/-- From nothing: whether that hole is reached. -/
theorem WiR.iff {L : List Fa} {n : Int} {U hs S : List Int} {found : Bool} (h : WiR L n U hs [] S found) : found = true ↔ ∃ m ∈ hs, Reach L m n := by
  refine ⟨h.yes, fun ⟨m, hm, hr⟩ => ?_⟩
  cases found with
  | true => rfl
  | false =>
    obtain ⟨h1, h2⟩ := h.no rfl
    have : ∀ m k, Reach L m k → m ≠ n ∧ m ∈ S → k ≠ n := by
      intro m k hr
      induction hr with
      | refl m => intro h; exact h.1
      | step hf hm _ ih => intro h; exact ih (h2 _ h.2 (by simp) _ hf _ hm)
    exact absurd rfl (this m n hr (h1 m hm))

/-- How many keys were not gone through. -/
def unseen (L : List Fa) (seen : List Int) : Nat := (L.filter fun f => decide (f.n ∉ seen)).length
theorem unseen_lt {L : List Fa} {seen : List Int} {m : Int} {x : Ty} (hm : m ∉ seen) (hf : fa? L m = some x) : unseen L (seen ++ [m]) < unseen L seen := by
  obtain ⟨f, hL, e, _⟩ := fa_key hf
  refine filter_lt hL ?_ ?_ ?_
  · rw [decide_eq_true_eq, e]; exact hm
  · rw [decide_eq_false_iff_not, e]; simp
  · intro y hy
    rw [decide_eq_true_eq] at hy ⊢
    intro h; exact hy (List.mem_append.2 (.inl h))
theorem unseen_le {L : List Fa} {seen S : List Int} (h : ∀ m ∈ seen, m ∈ S) : unseen L S ≤ unseen L seen := by
  unfold unseen
  induction L with
  | nil => exact Nat.le_refl _
  | cons f r ih =>
    rw [List.filter_cons, List.filter_cons]
    by_cases h1 : f.n ∈ seen
    · have e1 : decide (f.n ∉ S) = false := by simp [h _ h1]
      have e2 : decide (f.n ∉ seen) = false := by simp [h1]
      rw [e1, e2]; exact ih
    · have e2 : decide (f.n ∉ seen) = true := by simp [h1]
      rw [e2]
      cases decide (f.n ∉ S)
      · simp only [Bool.false_eq_true, if_false, if_true, List.length_cons]; omega
      · simp only [if_true, List.length_cons]; omega
theorem ret_vb {x y : Value} {c d : Bool} (h : x = y) (h' : c = d) : Ending.returned (.tuple #[x, .bool c]) = .returned (.tuple #[y, .bool d]) := by rw [h, h']

set_option maxHeartbeats 8000000 in
set_option maxRecDepth 100000 in
theorem r08_within (L : List Fa) (aL : Option Addr) (cL : Nat) (U : List Int) (hUl : U.length ≤ 90000) (hin : InU U L) (n : Int) :
    ∀ (u : Nat) (e : Ty) (v : Value) (w : World) (vs : Value) (seen : List Int), unseen L seen ≤ u → FaRow (fun _ => False) w aL L → IsTy w v e → IntSl w vs seen → seen.Nodup → (∀ m ∈ seen, m ∈ U) → (∀ m ∈ allT e, m ∈ U) →
    Calls Tryd.prog 71 #[.slice aL L.length cL, .int .i64 n, v, vs] w fun r w' => (∃ v' S found, r = .returned (.tuple #[v', .bool found]) ∧ IntSl w' v' S ∧ WiR L n U (allT e) seen S found) ∧ Below w.heap.size w w' := by
  have hLl : Hid (L.length ≤ 90000) := by have := hin.len; unfold Hid; omega
  have hin' := Lib.hid hin
  have hUl' := Lib.hid hUl
  clear hin hUl
  intro u
  induction u using Nat.strongRecOn with
  | ind u ihu =>
  have ihu' := Lib.hid ihu
  clear ihu
  refine Ty.ind fun s hn l ih v w vs seen hu hm hv hvs hnd hsU heU => ?_
  have hv0 := Lib.hid hv
  obtain ⟨a1, c1, rfl, _, h64, _, hll, hrow⟩ := hv.open
  obtain ⟨sa, sc, rfl⟩ := hvs.form
  have hsl : Hid (seen.length ≤ 90000) := by have := nodup_len seen U hnd hsU; have := hUl'.out; unfold Hid; omega
  have hm' := Lib.hid hm
  have hvs' := Lib.hid hvs
  have hnd' := Lib.hid hnd
  have hsU' := Lib.hid hsU
  have heU' := Lib.hid heU
  have ih' := Lib.hid ih
  have hrow' := Lib.hid hrow
  have hu' := Lib.hid hu
  unfold lenMax at hll
  clear hm hv hvs hnd hsU heU ih hrow hu
  have hB0 : Below (w.heap.size + 1) (w.alloc (.cells #[.string s, .int .i64 hn, .slice a1 l.length c1] 24)) (w.alloc (.cells #[.string s, .int .i64 hn, .slice a1 l.length c1] 24)) := Below.refl _ _
  obtain ⟨k0, k1, k2⟩ := box3 hB0
  have hcall := Lib.hid (r08_hole s hn a1 l.length c1 (w.alloc (.cells #[.string s, .int .i64 hn, .slice a1 l.length c1] 24)))
  have hB0' := Lib.hid hB0
  clear hB0
  cases hq : holeS s
  case false =>
    have hall : Hid (allT (.mk s hn l) = allT.allL l) := by unfold Hid; rw [allT, if_neg (by rw [hq]; simp)]
    rw [hq] at hcall
    clear hq
    go_enter Tryd.func71, Tryd.ntmps71
    go_wp2_with fail
    refine hcall.out.mono ?_
    rintro e V ⟨rfl, hBV⟩
    have hC1 := Lib.hid (hB0'.out.trans (hBV.mono (by simp)))
    clear hBV k0 k1 k2
    obtain ⟨k0, k1, k2⟩ := box3 hC1.out
    go_wp2_with fail
    go_loopw [3, 12] (fun sl i wr => ∃ (k : Nat) (S : List Int) (xa : Option Addr) (xc : Nat), k ≤ l.length ∧ i = .int .i64 k ∧ sl = .slice xa S.length xc ∧ Hid (IntSl wr (.slice xa S.length xc) S) ∧ Hid (WiR L n U (allT.allL (l.take k)) seen S false) ∧ Below (w.heap.size + 1) (w.alloc (.cells #[.string s, .int .i64 hn, .slice a1 l.length c1] 24)) wr) (fun _ i _ => l.length - (intOf i).toNat)
    case atStart => exact ⟨0, seen, sa, sc, by omega, rfl, rfl, hvs'.out.keeps (keeps_box hC1.out), WiR.nil hnd'.out hsU'.out, hC1.out⟩
    case round =>
      clear k0 k1 k2
      obtain ⟨k, S, xa, xc, hk, rfl, rfl, hS, hW, hB⟩ := hrel
      obtain ⟨q0, q1, q2⟩ := box3 hB
      have hz := size_box hB
      have hB' := Lib.hid hB
      by_cases h1 : k < l.length
      · obtain ⟨b, off, rfl, harg⟩ := (hrow'.out.keeps (keeps_box hB)).arg (by rintro rfl; simp at h1)
        obtain ⟨a2, c2, g0, g1, g2, ge⟩ := harg k h1
        have hcl := Lib.hid (ih'.out _ (List.getElem_mem h1) _ wr (.slice xa S.length xc) S (Nat.le_trans (unseen_le hW.out.more) hu'.out) (hm'.out.keeps (keeps_box hB)) ge hS.out hW.out.nodup hW.out.inU (fun m hm => heU'.out m (by rw [hall.out]; exact (allL_prefix l (k + 1)).subset (by rw [allL_succ l k h1]; exact List.mem_append.2 (.inr hm)))))
        have hpre := Lib.hid (allL_succ l k h1)
        clear ge harg hB
        go_wp2_with fail
        refine hcl.out.mono ?_
        rintro e V1 ⟨⟨v', T, found, rfl, hT, hWT⟩, hB1⟩
        have hB1' := Lib.hid (hB'.out.trans (hB1.mono hz))
        have hT' := Lib.hid hT
        obtain ⟨ta, tc, rfl⟩ := hT.form
        cases found
        · have hW2 : Hid (WiR L n U (allT.allL (l.take (k + 1))) seen T false) := by unfold Hid; rw [hpre.out]; exact hW.out.next hWT
          clear hT hWT hB1
          go_wp2_with fail
          go_roundw
          case rel => exact ⟨k + 1, T, ta, tc, by omega, by go_num, rfl, hT', hW2, hB1'.out⟩
          case measure => simp [intOf]; omega
        · have hW2 : Hid (WiR L n U (allT (.mk s hn l)) seen T true) := by
            unfold Hid
            rw [hall.out]
            exact (hW.out.found hWT).wider (by rw [← hpre.out]; exact allL_prefix l (k + 1))
          clear hT hWT hB1
          go_wp2_with fail
          go_ret2
          exact ⟨⟨_, T, true, rfl, hT'.out, hW2.out⟩, below_box hB1'.out⟩
      · have hW2 : Hid (WiR L n U (allT (.mk s hn l)) seen S false) := by
          unfold Hid
          have h := hW.out
          rw [List.take_of_length_le (by omega)] at h
          rw [hall.out]; exact h
        clear hB
        go_wp2_with fail
        go_ret2
        exact ⟨⟨_, S, false, rfl, hS.out, hW2.out⟩, below_box hB'.out⟩
  case true =>
    have hall : Hid (allT (.mk s hn l) = [hn]) := by unfold Hid; rw [allT, if_pos hq]
    rw [hq] at hcall
    clear hq
    have hadd := Lib.hid (fun V (hV : Below (w.heap.size + 1) (w.alloc (.cells #[.string s, .int .i64 hn, .slice a1 l.length c1] 24)) V) => r08_add (.slice sa seen.length sc) seen hn V (hvs'.out.keeps (keeps_box hV)) (by have := hsl.out; omega))
    have hfc := Lib.hid (fun V (hV : Below (w.heap.size + 1) (w.alloc (.cells #[.string s, .int .i64 hn, .slice a1 l.length c1] 24)) V) => r08_fact _ L aL cL hn V (by have := hLl.out; unfold lenMax; omega) (hm'.out.keeps (keeps_box hV)))
    have hsz : seen.length ≤ 90000 := hsl.out
    by_cases hnn : hn = n
    · subst hnn
      have hW2 : Hid (WiR L hn U (allT (.mk s hn l)) seen seen true) := by unfold Hid; rw [hall.out]; exact WiR.at_once hnd'.out hsU'.out
      go_enter Tryd.func71, Tryd.ntmps71
      go_wp2_with fail
      refine hcall.out.mono ?_
      rintro e V ⟨rfl, hBV⟩
      have hC1 := Lib.hid (hB0'.out.trans (hBV.mono (by simp)))
      clear hBV k0 k1 k2
      obtain ⟨k0, k1, k2⟩ := box3 hC1.out
      go_wp2_with fail
      go_ret2
      exact ⟨⟨_, seen, true, rfl, hvs'.out.keeps (keeps_box hC1.out), hW2.out⟩, below_box hC1.out⟩
    · have hnb : (hn == n) = false := by rw [beq_eq_false_iff_ne]; exact hnn
      have hnn' := Lib.hid hnn
      clear hnn
      go_enter Tryd.func71, Tryd.ntmps71
      go_wp2_with fail
      refine hcall.out.mono ?_
      rintro e V ⟨rfl, hBV⟩
      have hC1 := Lib.hid (hB0'.out.trans (hBV.mono (by simp)))
      clear hBV k0 k1 k2
      obtain ⟨k0, k1, k2⟩ := box3 hC1.out
      go_wp2_with fail
      refine (hadd.out V hC1.out).mono ?_
      rintro e V1 ⟨⟨v', rfl, hv'⟩, hB1⟩
      have hC2 := Lib.hid (hC1.out.trans (hB1.mono (size_box hC1.out)))
      have hv1 := Lib.hid hv'
      obtain ⟨ta, tc, rfl⟩ := hv'.form
      clear hB1 hv' k0 k1 k2
      obtain ⟨k0, k1, k2⟩ := box3 hC2.out
      go_wp2_with fail
      refine (hfc.out V1 hC2.out).mono ?_
      rintro e V2 ⟨⟨i, rfl, hi⟩, hB2⟩
      have hC3 := Lib.hid (hC2.out.trans (hB2.mono (size_box hC2.out)))
      have hv2 := Lib.hid (hv1.out.keeps (Keeps.of_below hB2))
      clear hB2 k0 k1 k2
      by_cases hms : hn ∈ seen
      · have hl2 : Hid (addI seen hn = seen) := by unfold Hid addI; rw [if_pos hms]
        have hW2 : Hid (WiR L n U (allT (.mk s hn l)) seen seen false) := by unfold Hid; rw [hall.out]; exact WiR.was hnd'.out hsU'.out hnn'.out hms
        rw [hl2.out] at hv2 ⊢
        clear hms hi
        go_wp2_with fail
        go_ret2
        exact ⟨⟨_, seen, false, rfl, hv2.out, hW2.out⟩, below_box hC3.out⟩
      · have hl2 : Hid (addI seen hn = seen ++ [hn]) := by unfold Hid addI; rw [if_neg hms]
        have hlen : (addI seen hn).length = seen.length + 1 := by rw [hl2.out]; simp
        have hle : (((addI seen hn).length : Int) == (seen.length : Int)) = false := by rw [beq_eq_false_iff_ne]; omega
        have hne2 : ((addI seen hn).length == seen.length) = false := by rw [beq_eq_false_iff_ne]; omega
        have hnd2 : Hid ((seen ++ [hn]).Nodup) := by unfold Hid; rw [List.nodup_append]; exact ⟨hnd'.out, by simp, fun a ha b hb => by simp at hb; subst hb; intro e; subst e; exact hms ha⟩
        have hU2 : Hid (hn ∈ U) := heU'.out hn (by rw [hall.out]; simp)
        have hlen' := Lib.hid hlen
        clear hlen
        rcases hi with ⟨rfl, hf⟩ | ⟨j, hj, rfl, hf⟩
        · have hW2 : Hid (WiR L n U (allT (.mk s hn l)) seen (seen ++ [hn]) false) := by unfold Hid; rw [hall.out]; exact WiR.bare hnd2.out hsU'.out hU2.out hnn'.out hf
          clear hms hf
          go_wp2_with fail
          go_ret2
          exact ⟨⟨_, seen ++ [hn], false, rfl, by rw [← hl2.out]; exact hv2.out, hW2.out⟩, below_box hC3.out⟩
        · have hLl2 := hLl.out
          obtain ⟨b, off, rfl, hat⟩ := hm'.out.at (by rintro rfl; simp at hj)
          obtain ⟨a2, c2, g0, g1, g2, g3, ge, _⟩ := hat j hj
          have hK2 : Keeps w V2 := keeps_box hC3.out
          replace g0 := hK2 _ _ g0
          replace g1 := hK2 _ _ g1
          replace g2 := hK2 _ _ g2
          replace g3 := hK2 _ _ g3
          have hji : (j : Int) < (L.length : Int) := by omega
          have hj0 : decide ((j : Int) < 0) = false := by rw [decide_eq_false_iff_not]; omega
          have hv3 : IntSl V2 (.slice ta (addI seen hn).length tc) (seen ++ [hn]) := by have := hv2.out; rw [hl2.out] at this ⊢; exact this
          have hcl := Lib.hid (ihu'.out _ (Nat.lt_of_lt_of_le (unseen_lt hms hf) hu'.out) L[j].ty _ V2 _ (seen ++ [hn]) (Nat.le_refl _) (hm'.out.keeps hK2) (ge.keeps hK2) hv3 hnd2.out (fun m hm => by
            rcases List.mem_append.1 hm with h | h
            · exact hsU'.out m h
            · simp at h; subst h; exact hU2.out) (hin'.out.all hn _ hf))
          have hf' := Lib.hid hf
          clear hat ge hK2 hms hf hv3
          go_wp2_with fail
          refine hcl.out.mono ?_
          rintro e V3 ⟨⟨v3, S, found, rfl, hS, hWS⟩, hB3⟩
          have hC4 := Lib.hid (hC3.out.trans (hB3.mono (size_box hC3.out)))
          have hS' := Lib.hid hS
          have hW2 : Hid (WiR L n U (allT (.mk s hn l)) seen S found) := by unfold Hid; rw [hall.out]; exact WiR.step hnn'.out hf'.out hWS
          clear hS hWS hB3
          go_wp2_with fail
          go_ret2
          exact ⟨⟨_, S, found, rfl, hS'.out, hW2.out⟩, below_box hC4.out⟩
end Go.Proofs.YticjpeefhppjoaaDoor
