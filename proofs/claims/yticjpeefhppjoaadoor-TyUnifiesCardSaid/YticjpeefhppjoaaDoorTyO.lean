/- The keys of a map from numbers, sorted, by the library. -/
import Derived.Test.YticjpeefhppjoaaDoorTyI
import Derived.Test.YticjpeefhppjoaaDoorTyM
import Derived.Test.YticjpeefhppjoaaDoorSort
import Derived.Lib.SortBridge
import Derived.RangeFuncBound
import Derived.TacticsInMore
import Derived.Shelf.Abstract
namespace Go.Proofs.YticjpeefhppjoaaDoor
open Go.RowKit Go.Shelf Go.Maps Go.Sort Go.WideShapes

theorem nodup_len : ∀ (l m : List Int), l.Nodup → (∀ x ∈ l, x ∈ m) → l.length ≤ m.length
  | [], _, _, _ => Nat.zero_le _
  | a :: r, m, h, hm => by
    have ha : a ∈ m := hm a (by simp)
    have h1 := nodup_len r (m.erase a) (List.nodup_cons.1 h).2 fun x hx => by
      have hne : x ≠ a := by rintro rfl; exact (List.nodup_cons.1 h).1 hx
      exact (List.mem_erase_of_ne hne).2 (hm x (by simp [hx]))
    rw [List.length_erase_of_mem ha] at h1
    have := List.length_pos_of_mem ha
    simp only [List.length_cons]; omega
theorem has_of {P : Program} {w : World} {b n : Nat} {f : Lit → Option Value} {D : DataW Value} (h2 : ∀ kl z, D.atKey kl (.held z) = .held ((f kl).getD z)) (hD : ∃ es, D = .map es) (k : Lit) : has D k = (f k).isSome := by
  obtain ⟨es, rfl⟩ := hD
  have h3 := h2 k (.bool true)
  have h4 := h2 k (.bool false)
  simp only [DataW.atKey] at h3 h4
  rw [has_eq]
  cases hf : es.find? (fun p => p.1.sameKey k) with
  | none =>
    rw [hf] at h3 h4
    simp only [DataW.held.injEq] at h3 h4
    have h5 : es.any (fun p => p.1.sameKey k) = false := by
      rw [List.any_eq_false]
      exact fun x hx => by simpa using List.find?_eq_none.1 hf x hx
    rw [h5]
    cases hv : f k with
    | none => rfl
    | some v => rw [hv] at h3 h4; simp only [Option.getD_some] at h3 h4; rw [← h3] at h4; cases h4
  | some p =>
    rw [hf] at h3 h4
    simp only at h3 h4
    have h5 : es.any (fun p => p.1.sameKey k) = true := by
      rw [List.any_eq_true]
      exact ⟨p, List.mem_of_find?_eq_some hf, by simpa using List.find?_some hf⟩
    rw [h5]
    cases hv : f k with
    | some v => rfl
    | none =>
      rw [hv] at h3 h4
      rw [h3] at h4; simp at h4
theorem keys_of {P : Program} {w : World} {k b n : Nat} {f : Lit → Option Value} {D : DataW Value} (K : Keyed P k) (hk : P.underlying k = some (.int .i64)) (h1 : w.ownsMap P k heldR b n D) (h2 : ∀ kl z, D.atKey kl (.held z) = .held ((f kl).getD z)) :
    (intKeys D).Nodup ∧ (∀ x, x ∈ intKeys D ↔ (f (keyN x)).isSome = true) ∧ (∀ x ∈ intKeys D, In64 x) ∧ (intKeys D).length = Maps.size D := by
  obtain ⟨es, hD, hpw, _⟩ := h1.entries K
  obtain ⟨es', hD', hko⟩ := h1.keysOf
  obtain rfl : es = es' := by rw [hD] at hD'; simpa using hD'
  have hwf := intKeys_wf h1 hk
  have hh : ∀ k, has D k = (f k).isSome := fun k => has_of (P := P) (w := w) (b := b) (n := n) h2 ⟨es, hD⟩ k
  subst hD
  have hx : ∀ p ∈ es, ∃ x, p.1 = .int .i64 x := fun p hp => by obtain ⟨v, hv⟩ := hko p hp; obtain ⟨x, _, hx, _⟩ := Maps.keyOf_i64 hk hv; exact ⟨x, hx⟩
  refine ⟨?_, fun x => ?_, fun x hx => ?_, ?_⟩
  · show (es.map fun p => Go.intOf p.1).Nodup
    refine List.pairwise_map.2 (hpw.imp_of_mem fun {p q} hp' hq' hne e => hne ?_)
    obtain ⟨a, ha⟩ := hx p hp'
    obtain ⟨b, hb⟩ := hx q hq'
    rw [ha, hb] at e ⊢
    exact congrArg _ e
  · rw [← hh, has_eq, List.any_eq_true]
    show x ∈ es.map (fun p => Go.intOf p.1) ↔ _
    rw [List.mem_map]
    constructor
    · rintro ⟨p, hp', rfl⟩
      obtain ⟨a, ha⟩ := hx p hp'
      exact ⟨p, hp', by rw [ha]; simp [Lit.sameKey, Go.intOf, keyN]⟩
    · rintro ⟨p, hp', hs⟩
      obtain ⟨a, ha⟩ := hx p hp'
      rw [ha] at hs
      exact ⟨p, hp', by rw [ha]; simpa [Lit.sameKey, Go.intOf, keyN] using hs⟩
  · have := hwf x hx
    simp only [Lit.wf, IntKind.min, IntKind.max, IntKind.bits, IntKind.signed] at this
    unfold In64
    simp at this; omega
  · show (es.map fun p => Go.intOf p.1).length = es.length
    rw [List.length_map]

/-- A map has no more entries than keys. -/
theorem MapOf.tight {P : Program} {w : World} {k b n : Nat} {f : Lit → Option Value} (h : MapOf P w k b n f) (K : Keyed P k) (hk : P.underlying k = some (.int .i64)) (ks : List Int) (hks : ∀ x, In64 x → (f (keyN x)).isSome = true → x ∈ ks) : MapOf P w k b ks.length f := by
  obtain ⟨D, h1, h2⟩ := h
  obtain ⟨q1, q2, q3, q4⟩ := keys_of K hk h1 h2
  have hle : (intKeys D).length ≤ ks.length := nodup_len _ _ q1 fun x hx => hks x (q3 x hx) ((q2 x).1 hx)
  obtain ⟨es, clock, b1, b2, b3, b4⟩ := h1
  refine ⟨D, ⟨es, clock, b1, b2, ?_, b4⟩, h2⟩
  rw [q4, b4, size_eq, (sorted_perm _).length_eq, List.length_map, Array.length_toList] at hle
  exact hle

theorem swoI : SWO (ltOf Lib.compareInt) := by
  have lt : ∀ x y, ltOf Lib.compareInt x y = decide (x < y) := fun x y => by
    unfold ltOf Lib.compareInt
    by_cases h1 : x < y
    · simp [h1]
    · by_cases h2 : y < x <;> simp [h1, h2]
  exact { irrefl := fun x => by rw [lt]; simp
          trans := fun x y z h1 h2 => by rw [lt] at *; simp at *; omega
          ntrans := fun x y z h1 h2 => by rw [lt] at *; simp at *; omega }
theorem ltI (x y : Int) : ltOf Lib.compareInt x y = decide (x < y) := by
  unfold ltOf Lib.compareInt
  by_cases h1 : x < y
  · simp [h1]
  · by_cases h2 : y < x <;> simp [h1, h2]
theorem geI : (fun x y : Int => !ltOf Lib.compareInt y x) = fun x y => decide (x ≤ y) := by
  funext x y
  rw [ltI]
  by_cases h : x ≤ y
  · have h' : ¬ y < x := by omega
    simp [h, h']
  · have h' : y < x := by omega
    simp [h, h']
theorem totI (x y : Int) (h1 : ltOf Lib.compareInt x y = false) (h2 : ltOf Lib.compareInt y x = false) : x = y := by rw [ltI] at *; simp at *; omega

theorem keys_call (mb : Option Nat) (w : World) : Calls Tryd.prog 45 #[.map mb] w fun r w' => r = .returned (.func (.func 67) #[] #[.pointer (some ⟨w.heap.size, 0, none⟩)]) ∧ w' = w.alloc (.cells #[.map mb] 57) :=
  callsIn_wide.1 (AnyZI.keys_in Tryd.keysA Fence.wide 5 trivial rfl mb w)

theorem cmp_call (x y : Int) (w : World) : Calls Tryd.prog 46 #[.int .i64 x, .int .i64 y] w fun r w' => r = .returned (.int .i64 (Lib.compareInt x y)) ∧ w' = w := AnyG.cmp_Compare_int Tryd.cmpL x y w

set_option maxRecDepth 100000 in
set_option maxHeartbeats 2000000 in
theorem sorted_call (b nn B : Nat) (f : Lit → Option Value) (w : World) (hB : B < w.heap.size) (hm : w.cell? ⟨B, 0, none⟩ = some (.map (some b))) (hM : MapOf Tryd.prog w 3 b nn f) (hnn : nn ≤ 1000000) :
    Calls Tryd.prog 44 #[.func (.func 67) #[] #[.pointer (some ⟨B, 0, none⟩)], .func (.func 46) #[] #[]] w fun r w' =>
      ∃ (v : Value) (ss : List Int), r = .returned v ∧ IntSl w' v ss ∧ ss.Pairwise (· < ·) ∧ (∀ x, x ∈ ss ↔ (f (keyN x)).isSome = true) ∧ (∀ x ∈ ss, In64 x) ∧ ss.length ≤ nn ∧ Below w.heap.size w w' := by
  obtain ⟨D, h1, h2⟩ := hM
  have K : Keyed Tryd.prog 3 := Maps.int_keyed Tryd.underlying3
  obtain ⟨q1, q2, q3, q4⟩ := keys_of K Tryd.underlying3 h1 h2
  have hsz : Maps.size D ≤ nn := by
    obtain ⟨es, clock, b1, b2, b3, b4⟩ := h1
    rw [b4, size_eq, (sorted_perm _).length_eq, List.length_map, Array.length_toList]
    exact b3
  have hseq : SeqGives Fence.wide 2 Tryd.prog 67 #[.pointer (some ⟨B, 0, none⟩)] encZ (fun ss => ss.Perm (intKeys D)) (Maps.size D) w :=
    AnyZI.keys_gives (ρ := Tryd.keysA_ren) { Tryd.keysA with } Fence.wide _ trivial rfl (by omega) B b nn D _ hB hm h1
  have hcol := AnyZI.collect_in (ρ := Tryd.collectA_ren) Tryd.collectA Fence.wide 4 trivial trivial rfl (by omega) 67 #[.pointer (some ⟨B, 0, none⟩)] trivial (enters_of Tryd.func67 (by kernel_rfl) rfl) _ (Maps.size D) (by unfold maxLen; omega) (by omega) w hseq
  have hcol' := Lib.hid (callsIn_wide.1 hcol)
  have hnone := Lib.hid (fun W => AnyF.slices_SortFunc_none (P := Tryd.prog) (ρ := Tryd.sortL_ren) { Tryd.sortL with } none 0 (.func (.func 46) #[] #[]) W)
  change Hid (Calls Tryd.prog 65 _ _ _) at hcol'
  change Hid (∀ W, Calls Tryd.prog 66 _ _ _) at hnone
  have hqq := Lib.hid (And.intro q1 (And.intro q2 (And.intro q3 (And.intro q4 hsz))))
  have hsort := Lib.hid (fun (blk cap : Nat) (d : Array Int) (W : World) (hH : Holds encZ W blk 0 d) (hblk : blk < W.heap.size) (h12 : d.size < 4611686018427387904) =>
    Any.slices_SortFunc_total Tryd.sortL (Value.int .i64) (fun _ => rfl) Lib.compareInt swoI 46 #[] blk 0 cap d W (enters_of Tryd.func46 (by kernel_rfl) rfl)
      (CmpReads.lays (fun _ _ _ _ x y => (cmp_call x y _).mono fun e w' h => ⟨h.1, 0, by rw [h.2]; rfl⟩)) hH hblk h12 totI)
  change Hid (∀ (blk cap : Nat) (d : Array Int) (W : World), Holds encZ W blk 0 d → blk < W.heap.size → d.size < 4611686018427387904 → Calls Tryd.prog 66 _ _ _) at hsort
  clear hcol hseq q1 q2 q3 q4 hsz h1 h2 hm
  go_enter Tryd.func44, Tryd.ntmps44
  go_wp2_with fail
  refine hcol'.out.mono ?_
  rintro e W ⟨v, ss, rfl, hS, hrow, hnil, hb⟩
  obtain ⟨q1, q2, q3, q4, hsz⟩ := hqq.out
  have hmem : ∀ x, x ∈ ss ↔ (f (keyN x)).isSome = true := fun x => by rw [hS.mem_iff]; exact q2 x
  have hlen : ss.length ≤ nn := by rw [hS.length_eq, q4]; exact hsz
  have hnd : ss.Nodup := hS.nodup_iff.2 q1
  have hin : ∀ x ∈ ss, In64 x := fun x hx => q3 x (hS.mem_iff.1 hx)
  rcases hrow.2 with ⟨rfl, hz⟩ | ⟨gb, cap, cur, rfl, hbase, hgb, r1, r2, r3, r4⟩
  · have hss : ss = [] := List.eq_nil_of_length_eq_zero hz
    subst hss
    have hfin := Lib.hid (And.intro hmem hb)
    clear hmem hb hrow hS hnil hnd hin q1 q2 q3 q4 hsz hz
    go_wp2_with fail
    refine (hnone.out _).mono ?_
    rintro e W2 ⟨rfl, rfl⟩
    go_wp2_with fail
    go_ret
    exact ⟨_, [], rfl, .inl ⟨rfl, rfl⟩, List.Pairwise.nil, hfin.out.1, by simp, by simp, hfin.out.2⟩
  · have hH : Holds encZ W gb 0 ss.toArray := holds_of_block_i hgb (by simpa using r4)
    have hgl : gb < W.heap.size := (Array.getElem?_eq_some_iff.1 hgb).1
    have hcs := Lib.hid (hsort.out gb cap ss.toArray W hH hgl (by simp; omega))
    rw [geI] at hcs
    simp only [List.size_toArray] at hcs
    have hsp := List.mergeSort_perm ss (fun x y : Int => decide (x ≤ y))
    have hpw : (ss.mergeSort fun x y : Int => decide (x ≤ y)).Pairwise (· < ·) := by
      have h1 := List.pairwise_mergeSort (le := fun x y : Int => decide (x ≤ y)) (fun a b c h1 h2 => by simp only [decide_eq_true_eq] at *; omega) (fun a b => by simp only [Bool.or_eq_true, decide_eq_true_eq]; omega) ss
      have h2 : (ss.mergeSort fun x y : Int => decide (x ≤ y)).Nodup := hsp.nodup_iff.2 hnd
      refine (h1.and h2).imp ?_
      rintro a b ⟨h3, h4⟩
      simp only [decide_eq_true_eq] at h3
      omega
    have hfin : Hid (∀ n os, IntSl (sortWorld (Value.int .i64) W gb 0 n (ss.mergeSort fun x y : Int => decide (x ≤ y)).toArray os) (.slice (some ⟨gb, 0, none⟩) ss.length cap) (ss.mergeSort fun x y : Int => decide (x ≤ y)) ∧ Below w.heap.size w (sortWorld (Value.int .i64) W gb 0 n (ss.mergeSort fun x y : Int => decide (x ≤ y)).toArray os)) := by
      intro n os
      have hl : (ss.mergeSort fun x y : Int => decide (x ≤ y)).length = ss.length := hsp.length_eq
      have ho := ownsRow_sorted_i (w := W) (base := w.heap.size) (g := gb) (cap := cap) (n := n) (e := 3) (os := os) (cur := cur) (ss := ss) hl hbase hgb r1 r2 r3
      refine ⟨?_, hb.grown (grownBy_sorted_i _) hb.size (fun j hj => by cases hj; exact hbase)⟩
      by_cases he : ss = []
      · have := hnil.2 he
        simp at this
      · have := IntSl.of_own (w := sortWorld (Value.int .i64) W gb 0 n (ss.mergeSort fun x y : Int => decide (x ≤ y)).toArray os) (base := w.heap.size) (l := ss.mergeSort fun x y : Int => decide (x ≤ y)) (by rw [hl]; exact ho) (fun h => he (by rw [h] at hsp; exact hsp.symm.eq_nil))
        exact this
    have hmem2 : ∀ x, x ∈ (ss.mergeSort fun x y : Int => decide (x ≤ y)) ↔ (f (keyN x)).isSome = true := fun x => by rw [hsp.mem_iff]; exact hmem x
    have hin2 : ∀ x ∈ (ss.mergeSort fun x y : Int => decide (x ≤ y)), In64 x := fun x hx => hin x (hsp.mem_iff.1 hx)
    have hlen2 : (ss.mergeSort fun x y : Int => decide (x ≤ y)).length ≤ nn := by rw [hsp.length_eq]; exact hlen
    have hfin2 := Lib.hid (And.intro hpw (And.intro hmem2 (And.intro hin2 hlen2)))
    clear hpw hmem2 hin2 hlen2 hmem hlen hnd hin hH hgb r1 r2 r3 r4 hbase hb hrow hnil hS q1 q2 q3 q4 hsz hsp
    go_wp2_with fail
    refine hcs.out.mono ?_
    rintro e W2 ⟨rfl, n, os, hW2⟩
    subst hW2
    have hf := Lib.hid (hfin.out n os)
    go_wp2_with fail
    go_ret
    exact ⟨_, _, rfl, hf.out.1, hfin2.out.1, hfin2.out.2.1, hfin2.out.2.2.1, hfin2.out.2.2.2, hf.out.2⟩
end Go.Proofs.YticjpeefhppjoaaDoor
