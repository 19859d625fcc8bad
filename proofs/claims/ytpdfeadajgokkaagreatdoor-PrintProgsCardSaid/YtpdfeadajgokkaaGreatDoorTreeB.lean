/- The program's 'names'. -/
import Derived.Test.YtpdfeadajgokkaaGreatDoorLexB
import Derived.Test.YtpdfeadajgokkaaGreatDoorSoundR
import Derived.Test.YtpdfeadajgokkaaGreatDoorMaps
namespace Go.Proofs.YtpdfeadajgokkaaGreatDoor
open Go.RowKit

def keyS (s : Str) : Lit := .string s.data.toList
theorem keyS_inj {s t : Str} (h : keyS s = keyS t) : s.toList = t.toList := by
  simp only [keyS, Lit.string.injEq] at h
  rw [Lib.toList_data, Lib.toList_data, h]

set_option maxHeartbeats 1600000 in
theorem tree_names (a : Option Addr) (l : List Str) (cap : Nat) (w : World) (hl : l.length ≤ lenMax) (hr : StrRow w a l) :
    Calls Tryz.prog 42 #[.slice a l.length cap] w fun r w' => r = .returned (.bool (namesB l)) ∧ Below w.heap.size w w' := by
  unfold lenMax at hl
  have hmm := @run_makeMap Tryz.prog
  go_enter Tryz.func42, Tryz.ntmps42
  go_wp2_with fail
  go_loopw [5, 9] (fun _ i wr => ∃ (k : Nat) (f : Lit → Option Value), k ≤ l.length ∧ i = .int .i64 k ∧ Hid (∀ j (hj : j < k) (hl : j < l.length), nameB l[j] = true ∧ ∀ m (hm : m < j), l[m].toList ≠ l[j].toList) ∧
      Hid (MapOf Tryz.prog wr 9 w.heap.size k f) ∧ Hid (∀ s, (f (keyS s) = some (.bool true) ∧ ∃ j, ∃ (hl : j < l.length), j < k ∧ l[j].toList = s.toList) ∨ (f (keyS s) = none ∧ ∀ j (hl : j < l.length), j < k → l[j].toList ≠ s.toList)) ∧ Below w.heap.size w wr ∧ w.heap.size < wr.heap.size) (fun _ i _ => l.length - (intOf i).toNat)
  case atStart => exact ⟨0, _, by omega, rfl, fun j hj => by omega, MapOf.made _ _ _, fun s => .inr ⟨rfl, fun j hl hj => by omega⟩, (Below.refl _ _).alloc (Nat.le_refl _) _, by simp⟩
  case round =>
    obtain ⟨k, f, hk, rfl, hall, hM, hF, hB, hz⟩ := hrel
    by_cases hlt : k < l.length
    · rcases hr.keeps (Keeps.of_below hB) with hr' | ⟨b, off, rfl, hr'⟩
      · simp [hr'] at hlt
      obtain ⟨hc, hsz⟩ := hr' k hlt
      clear hr'
      have hkey : keyOf Tryz.prog 9 (.string l[k]) = some (keyS l[k]) := Go.WideMaps.keyOf_string_mk Tryz.underlying9 (by unfold lenMax at hsz; unfold maxLen; omega)
      have hkey' := Lib.hid hkey
      clear hkey
      cases h1 : nameB l[k]
      · have hx : Hid (namesB l = false) := by
          unfold Hid
          have hx : l.all nameB = false := by
            rw [List.all_eq_false]
            exact ⟨_, List.getElem_mem hlt, by rw [h1]; simp⟩
          rw [namesB, hx]; rfl
        have h1' := Lib.hid h1
        clear h1
        go_wp2_with fail
        refine (lex_Name _ _).mono ?_
        rintro e w1 ⟨rfl, hB1⟩
        rw [h1'.out]
        go_wp2_with fail
        go_ret
        exact ⟨ret_bool hx.out.symm, hB.trans (hB1.mono hB.size)⟩
      · have h1' := Lib.hid h1
        clear h1
        go_wp2_with fail
        refine (lex_Name _ _).mono ?_
        rintro e w1 ⟨rfl, hB1⟩
        rw [h1'.out]
        have hM1 := hM.out.below hB1 hz
        have hlook := hM1.look (Maps.string_keyed Tryz.underlying9) Tryz.underlying100 (z := .bool false) (by kernel_rfl) hkey'.out
        rcases hF.out l[k] with ⟨hf, j, hj, hjk, hje⟩ | ⟨hf, hno⟩
        · rw [hf] at hlook
          simp only [Option.getD_some] at hlook
          have hx : Hid (namesB l = false) := by
            unfold Hid
            have hy : ¬ (l.map ByteArray.toList).Nodup := fun h => (nodup_map_iff l).1 h k j hlt hjk hje
            rw [namesB, decide_eq_false hy, Bool.and_false]
          clear hje hf
          go_wp2_with fail
          go_ret
          exact ⟨ret_bool hx.out.symm, hB.trans (hB1.mono hB.size)⟩
        · rw [hf] at hlook
          simp only [Option.getD_none] at hlook
          have hno' := Lib.hid hno
          have hM1' := Lib.hid hM1
          clear hno hf hM1
          go_wp2_with (at_mapUpdate; refine wpList_put _ rfl _ _ _ 100 rfl 9 4 (Maps.string_keyed Tryz.underlying9) Tryz.underlying100 w.heap.size k f rfl hM1'.out (by unfold maxLen; omega) (.string l[k]) (.bool true) (keyS l[k]) rfl rfl hkey'.out ?_; intro w2 hM2 hg2)
          go_roundw
          case rel =>
            refine ⟨k + 1, _, by omega, by go_num, ?_, hM2, ?_, ?_, ?_⟩
            · intro j hj hl
              rcases Nat.lt_or_ge j k with h | h
              · exact hall.out j h hl
              · obtain rfl : j = k := by omega
                exact ⟨h1'.out, fun m hm => hno'.out m (by omega) hm⟩
            · intro s
              by_cases hs : keyS s = keyS l[k]
              · exact .inl ⟨by rw [hs, updF_same], k, hlt, by omega, (keyS_inj hs).symm⟩
              · rw [updF_other hs]
                have hne : l[k].toList ≠ s.toList := by
                  intro e
                  apply hs
                  simp only [keyS, Lit.string.injEq]
                  rw [← Lib.toList_data, ← Lib.toList_data, e]
                rcases hF.out s with ⟨h, j, hj, hjk, e⟩ | ⟨h, hno⟩
                · exact .inl ⟨h, j, hj, by omega, e⟩
                · refine .inr ⟨h, fun j hj hjk => ?_⟩
                  rcases Nat.lt_or_ge j k with h' | h'
                  · exact hno j hj h'
                  · obtain rfl : j = k := by omega
                    exact hne
            · exact (hB.trans (hB1.mono hB.size)).grown hg2 (by have := hB1.size; omega) (fun r e => by cases e; exact Nat.le_refl _)
            · have := hg2.size; have := hB1.size; omega
          case measure => simp [intOf]; omega
    · go_wp2_with fail
      go_ret
      refine ⟨ret_bool (Eq.symm ?_), hB⟩
      have hx : l.all nameB = true := by
        rw [List.all_eq_true]
        intro x hx
        obtain ⟨j, hj, rfl⟩ := List.getElem_of_mem hx
        exact (hall.out j (by omega) hj).1
      have hy : (l.map ByteArray.toList).Nodup := (nodup_map_iff l).2 fun i k hi hk => (hall.out i (by omega) hi).2 k hk
      rw [namesB, hx, decide_eq_true hy]; rfl
end Go.Proofs.YtpdfeadajgokkaaGreatDoor
