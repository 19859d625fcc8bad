/- bytes.Split at a byte: the lines of a text, in memory. -/
import Derived.Test.YtchdfjihflmloaaGreatDoorLexTx
import Derived.Test.YtchdfjihflmloaaGreatDoorLxD
namespace Go.Proofs.YtchdfjihflmloaaGreatDoor
open Go.RowKit

/-- A value is a slice of these bytes. -/
def LineAt (w : World) (v : Value) (p : Bs) : Prop := ∃ a cp, v = .slice a p.length cp ∧ p.length ≤ cp ∧ (a = none → cp = 0) ∧ ByteRow w a p
theorem LineAt.keeps {w W : World} {v : Value} {p : Bs} (h : LineAt w v p) (hk : Keeps w W) : LineAt W v p := by
  obtain ⟨a, cp, h1, h2, h3, h5⟩ := h
  exact ⟨a, cp, h1, h2, h3, h5.keeps hk⟩
/-- bytealg.MaxLen is laid. -/
def MaxOk (w : World) : Prop := ∃ m, w.cell? ⟨0, 0, none⟩ = some (.int .i64 m)
theorem MaxOk.keeps {w W : World} (h : MaxOk w) (hk : Keeps w W) : MaxOk W := by
  obtain ⟨m, h⟩ := h
  exact ⟨m, hk _ _ h⟩
theorem numsB_in (l : Bs) : ∀ x ∈ numsB l, 0 ≤ x ∧ x < 256 := by
  intro x hx
  unfold numsB at hx
  obtain ⟨b, _, rfl⟩ := List.mem_map.1 hx
  have := b.toNat_lt
  omega

theorem count_lines : ∀ (m : Nat) (l : Bs), l.length ≤ m → Lib.count l [10] + 1 = (linesL l).length := by
  have one : ∀ l : Bs, (10 : UInt8) ∉ l → Lib.index l [10] = -1 := fun l hn => Lib.index_none fun j _ => by
    cases h : Lib.occAt l [10] j with
    | false => rfl
    | true => exact absurd (List.mem_of_getElem? (occ_nl.1 h)) hn
  intro m
  induction m with
  | zero =>
    intro l h
    have : l = [] := List.length_eq_zero_iff.1 (by omega)
    subst this
    rw [Lib.count_miss (one [] (by simp))]; rfl
  | succ m ih =>
    intro l h
    rcases first_nl l with hn | ⟨p, r, rfl, hn⟩
    · rw [Lib.count_miss (one l hn), linesL_one hn]; rfl
    · have hi : Lib.index (p ++ 10 :: r) [10] = (p.length : Nat) := Lib.index_first (by simp) (occ_nl.2 (by simp)) fun j hj => by
        cases h : Lib.occAt (p ++ 10 :: r) [10] j with
        | false => rfl
        | true =>
          have h2 := occ_nl.1 h
          rw [List.getElem?_append_left hj] at h2
          exact absurd (List.mem_of_getElem? h2) hn
      have hd : (p ++ 10 :: r).drop (p.length + 1) = r := by
        rw [← List.drop_drop, List.drop_left]; rfl
      rw [Lib.count_hit (by simp) hi, List.length_singleton, hd, linesL_cons r hn, List.length_cons, ← ih r (by simp at h; omega), Nat.add_comm 1]

theorem call_split (a : Option Addr) (l : Bs) (cap b2 o2 c2 : Nat) (w : World) (hl : l.length ≤ 1000000) (hc : l.length ≤ cap) (hc63 : cap ≤ 9223372036854775807) (ha : a = none → cap = 0) (hr : ByteRow w a l) (hm : MaxOk w) (h2 : w.cell? ⟨b2, o2, none⟩ = some (.int .u8 10)) :
    Calls Tryz.prog 37 #[.slice a l.length cap, .slice (some ⟨b2, o2, none⟩) 1 c2] w fun e w' => ∃ (vs : List Value) (q : Nat), e = .returned (.slice (some ⟨w.heap.size, 0, none⟩) vs.length vs.length) ∧ vs.length = (linesL l).length ∧ (∀ U, ByteRow U a l → ∀ (i : Nat) v p, vs[i]? = some v → (linesL l)[i]? = some p → LineAt U v p) ∧ w' = (w.alloc (.cells vs.toArray 32)).drewN q := by
  cases a with
  | none =>
    have hl0 : l = [] := by
      rcases hr with h | ⟨b, off, h, _⟩
      · exact h
      · cases h
    subst hl0
    obtain rfl := ha rfl
    refine (Tryz.bytes_Split_nil (some ⟨b2, o2, none⟩) 1 c2 w (by decide) (by decide) (fun _ => ⟨b2, o2, 10, rfl, h2⟩)).mono ?_
    rintro e w' ⟨rfl, rfl⟩
    refine ⟨[.slice none 0 0], 0, rfl, rfl, ?_, rfl⟩
    intro U _ i v p hv hp
    cases i with
    | zero =>
      simp [linesL_one (l := []) (by simp)] at hv hp
      subst hv hp
      exact ⟨none, 0, rfl, Nat.le_refl _, fun _ => rfl, .inl rfl⟩
    | succ i => simp at hv
  | some a =>
    obtain ⟨m, hm⟩ := hm
    have hc1 : ∀ i, i < l.length → w.cell? (a.add i) = some (.int .u8 ((numsB l).getD i 0)) := by
      intro i hi
      rcases hr with h | ⟨b, off, h, hr⟩
      · subst h; simp at hi
      · injection h with h
        subst h
        rw [addr_plus, hr i hi]
        simp [numsB, List.getD, hi]
    have hS := Tryz.bytes_Split a ⟨b2, o2, none⟩ l.length cap 1 c2 (numsB l) (numsB [10]) m w (numsB_len l) rfl (numsB_in l) (numsB_in _) hc1 (fun i hi => by
      obtain rfl : i = 0 := by omega
      rw [addr_plus, Nat.add_zero, h2]; rfl) hc (by omega) (by decide) hc63 (by decide) hm
    rw [numsB_bytes, numsB_bytes] at hS
    have hsp := split_lines l.length l (Nat.le_refl _)
    have hlen := Lib.splitV_length [10] 0 (Lib.count l [10]) a cap l
    have hspec := Lib.splitV_spec [10] 0 (by simp) (by simp) (Lib.count l [10]) a cap l hc
    rw [hsp] at hlen hspec
    generalize Lib.splitV [10] 0 (Lib.count l [10]) a cap l = vs at hS hlen hspec
    refine hS.mono ?_
    rintro e w' ⟨rfl, q, rfl⟩
    refine ⟨vs, q, ?_, hlen, ?_, rfl⟩
    · rw [hlen, ← count_lines l.length l (Nat.le_refl _)]
    · intro U hU i v p hv hp
      obtain ⟨a', off, len, cp, rfl, h1, h3, h4, h5⟩ := hspec i v hv
      rw [hp] at h4
      injection h4 with h4
      have hpl : p.length = len := by rw [h4, List.length_take, List.length_drop]; omega
      refine ⟨some a', cp, by rw [hpl], by omega, (fun e => by cases e), ?_⟩
      rcases Nat.eq_zero_or_pos len with h0 | h0
      · exact .inl (List.length_eq_zero_iff.1 (by omega))
      · rcases hU with h | ⟨b, o, h, hr2⟩
        · subst h; simp at h3; omega
        · injection h with h
          subst h
          have e0 := h5 0 h0
          rw [Addr.add_zero', addr_plus] at e0
          refine .inr ⟨b, o + (off + 0), by rw [e0], fun i hi => ?_⟩
          have hi2 : i < len := by omega
          have := hr2 (off + i) (by omega)
          rw [show o + (off + 0) + i = o + (off + i) by omega, this]
          congr 3
          subst h4
          rw [List.getElem_take, List.getElem_drop]
end Go.Proofs.YtchdfjihflmloaaGreatDoor
