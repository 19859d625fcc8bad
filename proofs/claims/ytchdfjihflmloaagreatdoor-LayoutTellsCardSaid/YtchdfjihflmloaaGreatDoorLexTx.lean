/- lex.Text, walked. -/
import Derived.Test.YtchdfjihflmloaaGreatDoorLexKy
import Derived.Laws.OwnMore
namespace Go.Proofs.YtchdfjihflmloaaGreatDoor
open Go.RowKit

theorem joinL_join : ∀ (xs : List Bs), joinL xs = Lib.join xs [32]
  | [] => rfl
  | [a] => (Lib.join_one a [32]).symm
  | a :: b :: r => by
    show a ++ 32 :: joinL (b :: r) = _
    rw [joinL_join (b :: r)]
    simp [Lib.join, List.intercalate]
theorem join_own {base : Nat} {v : Value} {l : List Str} {n : Nat} (sep : Str) {w : World} (h : w.ownsRow base 9 1 v n (l.map Value.string)) (hlen : (Lib.join (l.map bS) (bS sep)).length ≤ 140737488355328) (hn : n ≤ 140737488355328) :
    Calls Tryz.prog 32 #[v, .string sep] w fun r w' => r = .returned (.string (tS (Lib.join (l.map bS) (bS sep)))) ∧ Below w.heap.size w w' := by
  have hl : l.length = n := by have := h.1; simpa using this
  subst hl
  have h0 := h
  obtain ⟨_, ⟨h1, h2⟩ | ⟨g, cap, cur, hv, hb, hh, hcap, hcm, hr⟩⟩ := h
  · obtain rfl : l = [] := by cases l <;> simp at h2 ⊢
    rw [h1]
    refine (Tryz.strings_Join_none none 0 _ w).mono ?_
    rintro e w' ⟨rfl, rfl⟩
    exact ⟨rfl, Below.refl _ _⟩
  · subst hv
    refine (Tryz.strings_Join g 0 cap l sep w (fun j x hj => ?_) (Array.getElem?_eq_some_iff.1 hh).1 hn hcap hlen).mono ?_
    · obtain ⟨hj', rfl⟩ := List.getElem?_eq_some_iff.1 hj
      rw [show (0 : Nat) + j = j from by omega, h0.cellAt j (by omega), List.getElem?_map, hj]; rfl
    · rintro e w' ⟨rfl, hB⟩
      exact ⟨rfl, hB⟩
theorem cell_one_new (w : World) (v : Value) (t : TypeId) : ∀ j u, [v][j]? = some u → (w.alloc (.cells #[v] t)).cell? ((⟨w.heap.size, 0, none⟩ : Addr).add j) = some u := by
  intro j u hj
  rw [addr_plus, Nat.zero_add, World.cell?_alloc_at _ _ _ _ rfl]
  simpa using hj
theorem Tryz.infoStr : (Tryz.prog.info? 9).map (fun i => (i.zero, i.size, i.bytes)) = some (some (.string ⟨#[]⟩), 1, 16) := by kernel_rfl

set_option maxHeartbeats 1600000 in
theorem lex_Text (v : Value) (l : List Tk) (w : World) (hv : TkSl w v l) (hl : l.length ≤ 1000000) (hn : (textL l).length ≤ 1000000) : Calls Tryz.prog 9 #[v] w fun r w' => r = .returned (.string (tS (textL l))) ∧ Below w.heap.size w w' := by
  obtain ⟨a, c, rfl, _, hr⟩ := hv
  have hr' := Lib.hid hr
  obtain ⟨i0, hi, hz0, hz1', hz2'⟩ := info_of Tryz.infoStr
  clear hr
  go_enter Tryz.func9, Tryz.ntmps9
  go_wp2_with fail
  go_loopw [3, 8] (fun v i wr => ∃ (k : Nat), k ≤ l.length ∧ i = .int .i64 k ∧ Hid (wr.ownsRow w.heap.size 9 1 v k (((l.take k).map fun t => tS t.text).map Value.string)) ∧ Hid (Below w.heap.size w wr)) (fun _ i _ => l.length - (intOf i).toNat)
  case atStart => exact ⟨0, by omega, rfl, ⟨by simp, .inl ⟨rfl, rfl⟩⟩, Below.refl _ _⟩
  case round =>
    obtain ⟨k, hk, rfl, hown, hB⟩ := hrel
    obtain ⟨Wr, rfl⟩ : ∃ W, W = wr := ⟨_, rfl⟩
    by_cases h1 : k < l.length
    · obtain ⟨b, off, rfl, hc⟩ := (hr'.out.keeps (Keeps.of_below hB.out)).at (by rintro rfl; simp at h1)
      obtain ⟨g0, g1, g2, g3, g4⟩ := hc k h1
      have hki : (k : Int) < (l.length : Int) := by omega
      obtain ⟨W1, hW1⟩ : ∃ W, Wr.alloc (.cells #[.int .i64 l[k].kind, .string (tS l[k].text), .int .i64 l[k].num, .int .i64 l[k].line, .int .i64 l[k].col] 34) = W := ⟨_, rfl⟩
      have hb1 : Below Wr.heap.size Wr W1 := by rw [← hW1]; exact (Below.refl _ _).alloc (Nat.le_refl _) _
      have hx1 : Box5 W1 34 Wr.heap.size (.int .i64 l[k].kind) (.string (tS l[k].text)) (.int .i64 l[k].num) (.int .i64 l[k].line) (.int .i64 l[k].col) := by rw [← hW1]; exact blk_new (Below.refl _ _)
      have own1 := Lib.hid (ownsRow_heap hown.out (fun g hg => hb1.block g (ownBlock_ge hown.out hg).2))
      have hBw := Lib.hid (hB.out.trans (hb1.mono hB.out.size))
      obtain ⟨⟨q0, q1, q2, q3, q4⟩, qf⟩ := hx1.cells
      have hz1 : w.heap.size ≤ W1.heap.size := hBw.out.size
      have hW1' := Lib.hid hW1
      have hk63 : k + 1 ≤ maxLen := by unfold maxLen; omega
      clear hc hW1 hb1 hx1
      go_upto_region 5 with (fail)
      rw [hW1'.out]
      go_wp2_with (at_builtin; go_must (refine wpList_append_own_at _ rfl _ _ 67 rfl w.heap.size 9 i0 (.string ⟨#[]⟩) 1 16 Tryz.underlying67 hi hz0 hz1' hz2' rfl (by decide) _ _ _ rfl (own1.out.alloc _) ⟨W1.heap.size, 0, none⟩ 1 1 [.string (tS l[k].text)] rfl rfl (cell_one_new _ _ _) (by simp [Value.oneCell']) hk63 (by omega) (by simp; omega) ?_); intro v2 w2 hown2 hg2 _ hat2; have hB2 := Lib.hid ((hBw.out.alloc (by omega) _).grown hg2 (by simp; omega) (fun q e => (ownBlock_ge hown.out e).1)); have hown2' := Lib.hid hown2; clear hown2 hg2 hat2)
      go_roundw
      case rel =>
        refine ⟨k + 1, by omega, by go_num, ?_, hB2.out⟩
        have := hown2'.out
        rw [List.take_succ_eq_append_getElem h1, List.map_append, List.map_append]
        exact this
      case measure => simp [intOf]; omega
    · have e : k = l.length := by omega
      have hj : Hid (Calls Tryz.prog 32 #[u3, .string ⟨#[32]⟩] Wr fun r w' => r = .returned (.string (tS (textL l))) ∧ Below Wr.heap.size Wr w') := by
        have h := hown.out
        rw [e, List.take_length] at h
        have hm : (l.map fun t => tS t.text).map bS = l.map (·.text) := by rw [List.map_map]; rfl
        have hq : Lib.join (l.map (·.text)) (bS ⟨#[32]⟩) = textL l := (joinL_join _).symm
        have := join_own ⟨#[32]⟩ h (by rw [hm, hq]; omega) (by omega)
        rw [hm, hq] at this
        exact this
      clear e
      go_wp2_with fail
      refine hj.out.mono ?_
      rintro e w1 ⟨rfl, hB1⟩
      go_wp2_with fail
      go_ret
      exact ⟨rfl, hB.out.trans (hB1.mono hB.out.size)⟩
end Go.Proofs.YtchdfjihflmloaaGreatDoor
