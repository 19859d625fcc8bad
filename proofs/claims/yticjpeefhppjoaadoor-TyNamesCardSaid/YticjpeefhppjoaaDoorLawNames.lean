/- dawdlerlaw08.TyNames answers true. -/
import Derived.Test.YticjpeefhppjoaaDoorTyAw
import Derived.Test.YticjpeefhppjoaaDoorTyPl
import Derived.Test.YticjpeefhppjoaaDoorTyF
import Derived.Deep.CutRange
import Derived.Deep.RegionHeld3
namespace Go.Proofs.YticjpeefhppjoaaDoor
open Go.RowKit

theorem turnF_len (x : Int) (H : List Int) : (turnF x H).length = H.length := by simp [turnF]
theorem turnF_get (x : Int) (H : List Int) (k : Nat) (h : k < (turnF x H).length) : (turnF x H)[k] = ⟨H[k]'(by rw [turnF_len] at h; exact h), .mk ⟨#[]⟩ (x + H.length - k) []⟩ := by simp [turnF]

set_option maxHeartbeats 4000000 in
set_option maxRecDepth 100000 in
theorem names_c (e : Ty) (x : Int) (v : Value) (w : World) (hv : IsTy w v e) (hx0 : 0 ≤ x) (hx9 : x ≤ 65535) (ht : Tab w) : Calls Tryd.prog 8 #[v, .int .u16 x] w fun r w' => r = .returned (.bool true) ∧ Below w.heap.size w w' := by
  obtain ⟨s, n, l⟩ := e
  have h64 := Lib.hid (holes_in64 (.mk s n l) [] hv (by simp))
  obtain ⟨a1, c1, rfl, _⟩ := hv.open
  obtain ⟨W1, hW1⟩ : ∃ W, w.alloc (.cells #[.string s, .int .i64 n, .slice a1 l.length c1] 24) = W := ⟨_, rfl⟩
  have hb1 : Below w.heap.size w W1 := by rw [← hW1]; exact (Below.refl _ w).alloc (Nat.le_refl _) _
  have hz1 : W1.heap.size = w.heap.size + 1 := by rw [← hW1]; simp
  have x1 : BoxT W1 w.heap.size (.string s) (.int .i64 n) (.slice a1 l.length c1) := by rw [← hW1]; exact new_block (Below.refl _ _)
  have hS : Hid (∀ V, Below W1.heap.size W1 V → V.cell? ⟨w.heap.size, 0, none⟩ = some (.string s) ∧ V.cell? ⟨w.heap.size, 1, none⟩ = some (.int .i64 n) ∧ V.cell? ⟨w.heap.size, 2, none⟩ = some (.slice a1 l.length c1)) := fun V hV => (x1.below hV x1.lt).cells
  have hI : Hid (∀ V, Below W1.heap.size W1 V → IsTy V (.agg #[.string s, .int .i64 n, .slice a1 l.length c1]) (.mk s n l) ∧ Below w.heap.size w V) := fun V hV => by
    have hwV := hb1.trans (hV.mono (by omega))
    exact ⟨TyX.below hv hwV, hwV⟩
  have hW1' := Lib.hid hW1
  have htW := Lib.hid (ht.below hb1)
  clear hv ht hW1 hb1 x1
  go_enter Tryd.func8, Tryd.ntmps8
  go_wp2_with fail
  rw [hW1'.out]
  refine (law_awake W1 htW.out).mono ?_
  rintro r V ⟨rfl, hV⟩
  have hV' := Lib.hid hV
  obtain ⟨q0, q1, q2⟩ := hS.out V hV
  have hf := Lib.hid (r08_Few _ _ V (hI.out V hV).1)
  clear hV
  cases hfw : fewT (.mk s n l)
  case false =>
    rw [hfw] at hf
    go_wp2_with fail
    refine hf.out.mono ?_
    rintro r V2 ⟨rfl, hV2⟩
    have hfin := Lib.hid ((hI.out V hV'.out).2.trans (hV2.mono (hI.out V hV'.out).2.size))
    clear q0 q1 q2
    go_wp2_with fail
    go_ret
    exact ⟨ret_bool rfl, hfin.out⟩
  rw [hfw] at hf
  clear hfw
  go_wp2_with fail
  refine hf.out.mono ?_
  rintro r V2 ⟨rfl, hV2⟩
  have h2 := Lib.hid (hV'.out.trans (hV2.mono hV'.out.size))
  clear q0 q1 q2 hf hV2
  obtain ⟨q0, q1, q2⟩ := hS.out V2 h2.out
  have hf := Lib.hid (ty_Check _ _ V2 (hI.out V2 h2.out).1)
  cases hce : chkT (.mk s n l)
  case false =>
    rw [hce] at hf
    go_wp2_with fail
    refine hf.out.mono ?_
    rintro r V3 ⟨rfl, hV3⟩
    have hfin := Lib.hid ((hI.out V2 h2.out).2.trans (hV3.mono (hI.out V2 h2.out).2.size))
    clear q0 q1 q2
    go_wp2_with fail
    go_ret
    exact ⟨ret_bool rfl, hfin.out⟩
  rw [hce] at hf
  have hck := Lib.hid hce
  clear hce
  go_wp2_with fail
  refine hf.out.mono ?_
  rintro r V3 ⟨rfl, hV3⟩
  have h3 := Lib.hid (h2.out.trans (hV3.mono h2.out.size))
  clear q0 q1 q2 hf hV3
  obtain ⟨q0, q1, q2⟩ := hS.out V3 h3.out
  obtain ⟨ce, hce⟩ : ∃ c, canonT (.mk s n l) = c := ⟨_, rfl⟩
  have hcc := Lib.hid (ty_Canon _ _ V3 (hI.out V3 h3.out).1)
  rw [hce] at hcc
  have hce' := Lib.hid hce
  clear hce
  go_wp2_with fail
  refine hcc.out.mono ?_
  rintro r V4 ⟨u4, rfl, hu4, hV4⟩
  obtain ⟨ca, cc, rfl⟩ := hu4.form
  have h4 := Lib.hid (h3.out.trans (hV4.mono h3.out.size))
  have hu4' := Lib.hid hu4
  clear q0 q1 q2 hcc hu4 hV4
  go_upto_region 5 with (fail)
  obtain ⟨V5, hV5⟩ : ∃ W, V4.alloc (.cells #[.string ce.name, .int .i64 ce.n, .slice ca ce.args.length cc] 24) = W := ⟨_, rfl⟩
  have hB5 : Below V4.heap.size V4 V5 := by rw [← hV5]; exact (Below.refl _ _).alloc (Nat.le_refl _) _
  have hx5 : BoxT V5 V4.heap.size (.string ce.name) (.int .i64 ce.n) (.slice ca ce.args.length cc) := by rw [← hV5]; exact new_block (Below.refl _ _)
  rw [hV5]
  have h5 := Lib.hid (h4.out.trans (hB5.mono (by have := h4.out.size; omega)))
  have hu5 := Lib.hid (TyX.below hu4'.out hB5)
  have hx5' := Lib.hid hx5
  have hS5 : Hid (∀ V, Below V5.heap.size V5 V → (Below V5.heap.size V5 V ∧ V.cell? ⟨w.heap.size, 0, none⟩ = some (.string s) ∧ V.cell? ⟨w.heap.size, 1, none⟩ = some (.int .i64 n) ∧ V.cell? ⟨w.heap.size, 2, none⟩ = some (.slice a1 l.length c1) ∧ V.cell? ⟨V4.heap.size, 0, none⟩ = some (.string ce.name) ∧ V.cell? ⟨V4.heap.size, 1, none⟩ = some (.int .i64 ce.n) ∧ V.cell? ⟨V4.heap.size, 2, none⟩ = some (.slice ca ce.args.length cc))) := by
    intro V hV
    obtain ⟨c0, c1, c2⟩ := hS.out V (h5.out.trans (hV.mono h5.out.size))
    exact ⟨hV, c0, c1, c2, (hx5'.out.below hV hx5'.out.lt).cells⟩
  have hI5 : Hid (∀ V, Below V5.heap.size V5 V → IsTy V (.agg #[.string s, .int .i64 n, .slice a1 l.length c1]) (.mk s n l) ∧ IsTy V (.agg #[.string ce.name, .int .i64 ce.n, .slice ca ce.args.length cc]) ce ∧ Below w.heap.size w V) := fun V hV => by
    have hh := hI.out V (h5.out.trans (hV.mono h5.out.size))
    exact ⟨hh.1, TyX.below hu5.out hV, hh.2⟩
  clear hV5 hB5 hx5
  obtain ⟨_, _, _, _, q0, q1, q2⟩ := hS5.out V5 (Below.refl _ _)
  have hh := Lib.hid (ty_Holes _ _ V5 (hI5.out V5 (Below.refl _ _)).2.1)
  obtain ⟨G, hG⟩ : ∃ G, holesC ce = G := ⟨_, rfl⟩
  have hGg : Hid (∀ i (hi : i < G.length), G[i] = (i : Int)) := by
    intro i hi
    subst hG
    have hce2 := hce'.out
    subst hce2
    exact holes_canon_get hck.out i hi
  rw [hG] at hh
  have hG' := Lib.hid hG
  clear hG
  go_wp2_with fail
  refine hh.out.mono ?_
  rintro r V6 ⟨⟨z, rfl, hz⟩, hV6⟩
  obtain ⟨za, zc, rfl⟩ := hz.form
  have hz' := Lib.hid hz
  have h6 := Lib.hid hV6
  have hlens : Hid (G.length = (holesC (.mk s n l)).length) := by
    unfold Hid
    rw [← hG'.out, ← hce'.out, holes_canon hck.out, List.length_map]
  have hHl : Hid ((holesC (.mk s n l)).length ≤ 2000) := by
    unfold Hid
    rw [holesC_once hck.out]
    have := onceL_len (allT (.mk s n l))
    have := allT_len (.mk s n l)
    have := chk_cnt hck.out
    omega
  have hGl : G.length ≤ 2000 := by have := hlens.out; have := hHl.out; omega
  clear q0 q1 q2 hh hz hV6
  go_wp2_with fail
  go_loopw [8] (fun i wr => ∃ k : Nat, k ≤ G.length ∧ i = .int .i64 k ∧ wr = V6) (fun i _ => G.length - (intOf i).toNat)
  case atStart => exact ⟨0, by omega, rfl, rfl⟩
  case round =>
    obtain ⟨k, hk, rfl, rfl⟩ := hrel
    by_cases h1 : k < G.length
    · obtain ⟨b, off, rfl, hc⟩ := hz'.out.at.2 (by rintro rfl; simp at h1)
      have g0 := hc k h1
      rw [hGg.out k h1] at g0
      clear hc
      go_wp2_with fail
      go_roundw
      case rel => exact ⟨k + 1, by omega, by go_num, (by first | rfl | trivial)⟩
      case measure => simp [intOf]; omega
    · obtain ⟨_, q0, q1, q2, _, _, _⟩ := hS5.out wr h6.out
      have hh := Lib.hid (ty_Holes _ _ wr (hI5.out wr h6.out).1)
      obtain ⟨H, hH⟩ : ∃ H, holesC (.mk s n l) = H := ⟨_, rfl⟩
      have hH64 : Hid (∀ m ∈ H, In64 m) := by
        intro m hm
        rw [← hH, holesC, if_pos hck.out] at hm
        exact h64.out m hm
      have hln2 := hlens.out
      have hHl2 := hHl.out
      rw [hH] at hh hln2 hHl2
      have hH' := Lib.hid hH
      have hln' := Lib.hid hln2
      clear hH hln2
      go_wp2_with fail
      refine hh.out.mono ?_
      rintro r V7 ⟨⟨y, rfl, hy⟩, hV7⟩
      obtain ⟨ya, yc, rfl⟩ := hy.form
      have hy' := Lib.hid hy
      have h7 := Lib.hid (h6.out.trans (hV7.mono h6.out.size))
      obtain ⟨i0, hi, hz0, hz1', hz2'⟩ := info_of Tryd.infoFa
      clear q0 q1 q2 hh hy hV7
      go_wp2_with fail
      go_loopw [9, 11] (fun fv i wr => ∃ (k : Nat) (cs : List Value) (fa : Option Addr) (fc : Nat), k ≤ H.length ∧ i = .int .i64 k ∧ fv = .slice fa k fc ∧ Hid (wr.ownsRow V7.heap.size 34 4 fv k cs ∧ FaCells (fun c => fv.ownBlock = some c) wr cs ((turnF x H).take k)) ∧ Hid (Below V7.heap.size V7 wr)) (fun _ i _ => H.length - (intOf i).toNat)
      case atStart => exact ⟨0, [], none, 0, by omega, (by first | rfl | trivial), (by first | rfl | trivial), ⟨⟨rfl, .inl ⟨rfl, rfl⟩⟩, fun i h => by simp at h⟩, Below.refl _ _⟩
      case round =>
        obtain ⟨k, cs, fa, fc, hk, rfl, rfl, hown, hBr⟩ := hrel
        have hzr := hBr.out.size
        by_cases h1 : k < H.length
        · obtain ⟨b, off, rfl, hc⟩ := (hy'.out.keeps (Keeps.of_below hBr.out)).at.2 (by rintro rfl; simp at h1)
          have g0 := hc k h1
          have hin := Lib.hid (hH64.out _ (List.getElem_mem h1))
          obtain ⟨m, hm⟩ : ∃ m, H[k] = m := ⟨_, rfl⟩
          rw [hm] at g0 hin
          have hm' := Lib.hid hm
          have w1 : IntKind.i64.wrap (x + (H.length : Int)) = x + (H.length : Int) := IntWalk.i64_in _ (by omega)
          have w2 : IntKind.i64.wrap (x + (H.length : Int) - (k : Int)) = x + (H.length : Int) - (k : Int) := IntWalk.i64_in _ (by omega)
          obtain ⟨W8, hW8⟩ : ∃ W, wr.alloc (.cells #[.int .i64 m, .string ⟨#[]⟩, .int .i64 (x + (H.length : Int) - (k : Int)), .slice none 0 0] 34) = W := ⟨_, rfl⟩
          have hB8 : Below wr.heap.size wr W8 := by rw [← hW8]; exact (Below.refl _ _).alloc (Nat.le_refl _) _
          have hz8 : W8.heap.size = wr.heap.size + 1 := by rw [← hW8]; simp
          have hown8 := Lib.hid (ownsRow_heap hown.out.1 (fun g hg => hB8.block g (ownBlock_ge hown.out.1 hg).2))
          have hcs8 := Lib.hid (hown.out.2.later (KeepsBut.of_below hB8) (fun _ _ h => h))
          have hnews := cell_four_new (w := wr) rfl (.int .i64 m) (.string ⟨#[]⟩) (.int .i64 (x + (H.length : Int) - (k : Int))) (.slice none 0 0) 34
          rw [hW8] at hnews
          have hnews' := Lib.hid hnews
          have hBr8 := Lib.hid (hBr.out.trans (hB8.mono (by omega)))
          have hk63 : k + 1 ≤ maxLen := by unfold maxLen; omega
          have hk56 : (k + 1) * 56 ≤ 140737488355328 := by omega
          have hbs8 : V7.heap.size ≤ W8.heap.size := hBr8.out.size
          have hone1 : ∀ u ∈ ([.int .i64 m, .string ⟨#[]⟩, .int .i64 (x + (H.length : Int) - (k : Int)), .slice none 0 0] : List Value), u.oneCell' = true := by simp [Value.oneCell']
          have hW8' := Lib.hid hW8
          clear hc hm hW8 hB8 hnews
          go_wp2_with (at_builtin; go_must (rw [hW8'.out]; refine wpList_append_own_at _ rfl _ _ 32 rfl V7.heap.size 34 i0 (.agg #[.int .i64 0, .string ⟨#[]⟩, .int .i64 0, .slice none 0 0]) 4 56 Tryd.underlying32 hi hz0 hz1' hz2' rfl (by decide) _ _ _ rfl hown8.out ⟨wr.heap.size, 0, none⟩ 1 1 [.int .i64 m, .string ⟨#[]⟩, .int .i64 (x + (H.length : Int) - (k : Int)), .slice none 0 0] rfl rfl hnews'.out hone1 hk63 hk56 hbs8 ?_); intro v2 w3 hown2 hg2 _ hat; have hat' := Lib.hid hat; have hg2' := Lib.hid hg2; have hown2' := Lib.hid hown2; clear hat hg2 hown2)
          obtain ⟨fa2, fc2, he2, _⟩ := ownsRow_form hown2'.out
          subst he2
          have hlt : k < (turnF x H).length := by rw [turnF_len]; exact h1
          have htk : Hid ((turnF x H).take (k + 1) = (turnF x H).take k ++ [⟨m, .mk ⟨#[]⟩ (x + H.length - k) []⟩]) := by
            unfold Hid
            rw [List.take_succ_eq_append_getElem hlt, turnF_get x H k hlt, hm'.out]
          clear w1 w2
          go_roundw
          case rel =>
            refine ⟨k + 1, _, fa2, fc2, by omega, by go_num, rfl, ⟨hown2'.out, ?_⟩, (hBr8.out.grown hg2'.out hbs8 (fun q e => (ownBlock_ge hown8.out e).1))⟩
            rw [htk.out]
            have hs := FaCells.snoc (u0 := .int .i64 m) (u1 := .string ⟨#[]⟩) (u2 := .int .i64 (x + (H.length : Int) - (k : Int))) (u3 := .slice none 0 0) (e := ⟨m, .mk ⟨#[]⟩ (x + H.length - k) []⟩) hcs8.out (by rw [List.length_take, Nat.min_eq_left (by rw [turnF_len]; omega)]; exact hown8.out.1) ⟨_, _, _, rfl, hin.out, TyX.shut (a := none) (l := []) (fun _ => rfl) ⟨by omega, by omega⟩ (Nat.zero_le _) (Nat.zero_le _) (.inl rfl)⟩
            refine hs.later ⟨hg2'.out.size, fun a v hx hv => ?_⟩ fun b hb hy => ?_
            · rw [World.cell?_of_block (hg2'.out.block a.block (cell_block hv) (fun e => hx e.symm))]; exact hv
            · rcases hat'.out with h | h
              · rw [h] at hy; exact hy
              · rw [h] at hy; simp at hy; omega
          case measure => simp [intOf]; omega
        · have e : k = H.length := by omega
          have hrow := hown.out.2
          rw [e, List.take_of_length_le (by rw [turnF_len]; omega)] at hrow
          have hown1 := hown.out.1
          rw [show k = (turnF x H).length from by rw [turnF_len, e]] at hown1
          obtain ⟨fa2, fc2, he2, _, hrow2⟩ := hrow.row (X := fun _ => False) (es := turnF x H) hown1 (fun _ h => h.elim) (fun _ h => h.elim)
          simp only [Value.slice.injEq] at he2
          obtain ⟨rfl, _, rfl⟩ := he2
          have hfr : Hid (FaRow (fun _ => False) wr fa (turnF x H)) := hrow2
          obtain ⟨ap, hap⟩ : ∃ a, applyT (turnF x H) (.mk s n l) = a := ⟨_, rfl⟩
          have hap' := Lib.hid hap
          have hapc : Hid (canonT ap = ce) := by
            unfold Hid
            rw [← hap, ← hce'.out, ← hH'.out]
            exact names_turn hck.out hx0
          have hcec : Hid (canonT ce = ce) := by
            unfold Hid
            rw [← hce'.out]
            exact canon_canon hck.out
          have h8 := Lib.hid (h7.out.trans (hBr.out.mono h7.out.size))
          have hle : ((G.length : Int) = (H.length : Int)) := by have := hln'.out; omega
          have e' := Lib.hid e
          clear hap hrow hown1 hrow2 e
          have hS9 : Hid (∀ V, Below wr.heap.size wr V → (Below wr.heap.size wr V ∧ V.cell? ⟨w.heap.size, 0, none⟩ = some (.string s) ∧ V.cell? ⟨w.heap.size, 1, none⟩ = some (.int .i64 n) ∧ V.cell? ⟨w.heap.size, 2, none⟩ = some (.slice a1 l.length c1) ∧ V.cell? ⟨V4.heap.size, 0, none⟩ = some (.string ce.name) ∧ V.cell? ⟨V4.heap.size, 1, none⟩ = some (.int .i64 ce.n) ∧ V.cell? ⟨V4.heap.size, 2, none⟩ = some (.slice ca ce.args.length cc))) := fun V hV => ⟨hV, (hS5.out V (h8.out.trans (hV.mono h8.out.size))).2⟩
          have hI9 : Hid (∀ V, Below wr.heap.size wr V → IsTy V (.agg #[.string s, .int .i64 n, .slice a1 l.length c1]) (.mk s n l) ∧ IsTy V (.agg #[.string ce.name, .int .i64 ce.n, .slice ca ce.args.length cc]) ce ∧ Below w.heap.size w V) := fun V hV => hI5.out V (h8.out.trans (hV.mono h8.out.size))
          have hCa : Hid (∀ V, (Below wr.heap.size wr V ∧ V.cell? ⟨w.heap.size, 0, none⟩ = some (.string s) ∧ V.cell? ⟨w.heap.size, 1, none⟩ = some (.int .i64 n) ∧ V.cell? ⟨w.heap.size, 2, none⟩ = some (.slice a1 l.length c1) ∧ V.cell? ⟨V4.heap.size, 0, none⟩ = some (.string ce.name) ∧ V.cell? ⟨V4.heap.size, 1, none⟩ = some (.int .i64 ce.n) ∧ V.cell? ⟨V4.heap.size, 2, none⟩ = some (.slice ca ce.args.length cc)) → Calls Tryd.prog 18 #[.agg #[.string ce.name, .int .i64 ce.n, .slice ca ce.args.length cc]] V fun r V' => ∃ ua uc, r = .returned (.agg #[.string ce.name, .int .i64 ce.n, .slice ua ce.args.length uc]) ∧ IsTy V' (.agg #[.string ce.name, .int .i64 ce.n, .slice ua ce.args.length uc]) ce ∧ (Below wr.heap.size wr V' ∧ V'.cell? ⟨w.heap.size, 0, none⟩ = some (.string s) ∧ V'.cell? ⟨w.heap.size, 1, none⟩ = some (.int .i64 n) ∧ V'.cell? ⟨w.heap.size, 2, none⟩ = some (.slice a1 l.length c1) ∧ V'.cell? ⟨V4.heap.size, 0, none⟩ = some (.string ce.name) ∧ V'.cell? ⟨V4.heap.size, 1, none⟩ = some (.int .i64 ce.n) ∧ V'.cell? ⟨V4.heap.size, 2, none⟩ = some (.slice ca ce.args.length cc))) := by
            intro V hV
            refine (ty_Canon _ _ V (hI9.out V hV.1).2.1).mono ?_
            rintro r V' ⟨u, rfl, hu, hB⟩
            rw [hcec.out] at hu
            obtain ⟨ua, uc, rfl⟩ := hu.form
            exact ⟨ua, uc, rfl, hu, hS9.out _ (hV.1.trans (hB.mono hV.1.size))⟩
          have hCb : Hid (∀ V va vc, (Below wr.heap.size wr V ∧ V.cell? ⟨w.heap.size, 0, none⟩ = some (.string s) ∧ V.cell? ⟨w.heap.size, 1, none⟩ = some (.int .i64 n) ∧ V.cell? ⟨w.heap.size, 2, none⟩ = some (.slice a1 l.length c1) ∧ V.cell? ⟨V4.heap.size, 0, none⟩ = some (.string ce.name) ∧ V.cell? ⟨V4.heap.size, 1, none⟩ = some (.int .i64 ce.n) ∧ V.cell? ⟨V4.heap.size, 2, none⟩ = some (.slice ca ce.args.length cc)) → IsTy V (.agg #[.string ap.name, .int .i64 ap.n, .slice va ap.args.length vc]) ap → Calls Tryd.prog 18 #[.agg #[.string ap.name, .int .i64 ap.n, .slice va ap.args.length vc]] V fun r V' => ∃ ua uc, r = .returned (.agg #[.string ce.name, .int .i64 ce.n, .slice ua ce.args.length uc]) ∧ IsTy V' (.agg #[.string ce.name, .int .i64 ce.n, .slice ua ce.args.length uc]) ce ∧ (Below wr.heap.size wr V' ∧ V'.cell? ⟨w.heap.size, 0, none⟩ = some (.string s) ∧ V'.cell? ⟨w.heap.size, 1, none⟩ = some (.int .i64 n) ∧ V'.cell? ⟨w.heap.size, 2, none⟩ = some (.slice a1 l.length c1) ∧ V'.cell? ⟨V4.heap.size, 0, none⟩ = some (.string ce.name) ∧ V'.cell? ⟨V4.heap.size, 1, none⟩ = some (.int .i64 ce.n) ∧ V'.cell? ⟨V4.heap.size, 2, none⟩ = some (.slice ca ce.args.length cc))) := by
            intro V va vc hV hva
            refine (ty_Canon _ _ V hva).mono ?_
            rintro r V' ⟨u, rfl, hu, hB⟩
            rw [hapc.out] at hu
            obtain ⟨ua, uc, rfl⟩ := hu.form
            exact ⟨ua, uc, rfl, hu, hS9.out _ (hV.1.trans (hB.mono hV.1.size))⟩
          have hSm : Hid (∀ V a c, (Below wr.heap.size wr V ∧ V.cell? ⟨w.heap.size, 0, none⟩ = some (.string s) ∧ V.cell? ⟨w.heap.size, 1, none⟩ = some (.int .i64 n) ∧ V.cell? ⟨w.heap.size, 2, none⟩ = some (.slice a1 l.length c1) ∧ V.cell? ⟨V4.heap.size, 0, none⟩ = some (.string ce.name) ∧ V.cell? ⟨V4.heap.size, 1, none⟩ = some (.int .i64 ce.n) ∧ V.cell? ⟨V4.heap.size, 2, none⟩ = some (.slice ca ce.args.length cc)) → IsTy V (.agg #[.string ce.name, .int .i64 ce.n, .slice a ce.args.length c]) ce → Calls Tryd.prog 17 #[.agg #[.string ce.name, .int .i64 ce.n, .slice a ce.args.length c], .agg #[.string ce.name, .int .i64 ce.n, .slice ca ce.args.length cc]] V fun r V' => r = .returned (.bool true) ∧ (Below wr.heap.size wr V' ∧ V'.cell? ⟨w.heap.size, 0, none⟩ = some (.string s) ∧ V'.cell? ⟨w.heap.size, 1, none⟩ = some (.int .i64 n) ∧ V'.cell? ⟨w.heap.size, 2, none⟩ = some (.slice a1 l.length c1) ∧ V'.cell? ⟨V4.heap.size, 0, none⟩ = some (.string ce.name) ∧ V'.cell? ⟨V4.heap.size, 1, none⟩ = some (.int .i64 ce.n) ∧ V'.cell? ⟨V4.heap.size, 2, none⟩ = some (.slice ca ce.args.length cc))) := by
            intro V a c hV hu
            refine (r08_Same ce ce _ _ V hu (hI9.out V hV.1).2.1).mono ?_
            rintro r V' ⟨hr, hB⟩
            rw [eqB_true rfl] at hr
            exact ⟨hr, hS9.out _ (hV.1.trans (hB.mono hV.1.size))⟩
          have hAp : Hid (∀ V, (Below wr.heap.size wr V ∧ V.cell? ⟨w.heap.size, 0, none⟩ = some (.string s) ∧ V.cell? ⟨w.heap.size, 1, none⟩ = some (.int .i64 n) ∧ V.cell? ⟨w.heap.size, 2, none⟩ = some (.slice a1 l.length c1) ∧ V.cell? ⟨V4.heap.size, 0, none⟩ = some (.string ce.name) ∧ V.cell? ⟨V4.heap.size, 1, none⟩ = some (.int .i64 ce.n) ∧ V.cell? ⟨V4.heap.size, 2, none⟩ = some (.slice ca ce.args.length cc)) → Calls Tryd.prog 22 #[.slice fa k fc, .agg #[.string s, .int .i64 n, .slice a1 l.length c1]] V fun r V' => ∃ ua uc, r = .returned (.agg #[.string ap.name, .int .i64 ap.n, .slice ua ap.args.length uc]) ∧ IsTy V' (.agg #[.string ap.name, .int .i64 ap.n, .slice ua ap.args.length uc]) ap ∧ (Below wr.heap.size wr V' ∧ V'.cell? ⟨w.heap.size, 0, none⟩ = some (.string s) ∧ V'.cell? ⟨w.heap.size, 1, none⟩ = some (.int .i64 n) ∧ V'.cell? ⟨w.heap.size, 2, none⟩ = some (.slice a1 l.length c1) ∧ V'.cell? ⟨V4.heap.size, 0, none⟩ = some (.string ce.name) ∧ V'.cell? ⟨V4.heap.size, 1, none⟩ = some (.int .i64 ce.n) ∧ V'.cell? ⟨V4.heap.size, 2, none⟩ = some (.slice ca ce.args.length cc))) := by
            intro V hV
            have hc := ty_Apply fa fc (turnF x H) _ _ V (by rw [turnF_len]; unfold lenMax; omega) (hfr.out.keeps (Keeps.of_below hV.1)) (hI9.out V hV.1).1
            rw [show (turnF x H).length = k from by rw [turnF_len, e'.out]] at hc
            refine hc.mono ?_
            rintro r V' ⟨u, rfl, hu, hB⟩
            rw [hap'.out] at hu
            obtain ⟨ua, uc, rfl⟩ := hu.form
            exact ⟨ua, uc, rfl, hu, hS9.out _ (hV.1.trans (hB.mono hV.1.size))⟩
          have hst := Lib.hid (hS9.out _ (Below.refl _ wr))
          have hdr := Lib.hid (hS9.out _ (Below.refl _ wr).drew)
          obtain ⟨_, r0, r1, r2, r3, r4, r5⟩ := hst.out
          go_upto_region 17 with (fail)
          go_region_held3 (fun V => Below wr.heap.size wr V ∧ V.cell? ⟨w.heap.size, 0, none⟩ = some (.string s) ∧ V.cell? ⟨w.heap.size, 1, none⟩ = some (.int .i64 n) ∧ V.cell? ⟨w.heap.size, 2, none⟩ = some (.slice a1 l.length c1) ∧ V.cell? ⟨V4.heap.size, 0, none⟩ = some (.string ce.name) ∧ V.cell? ⟨V4.heap.size, 1, none⟩ = some (.int .i64 ce.n) ∧ V.cell? ⟨V4.heap.size, 2, none⟩ = some (.slice ca ce.args.length cc)) ((first | exact hdr.out | exact hst.out | assumption))
            (first
              | (go_at_call 22; (with_reducible refine (hAp.out _ (by assumption)).mono ?_); rintro e w7 ⟨ua9, uc9, rfl, hu9, hs9⟩)
              | (go_at_call 18; (with_reducible refine (hCa.out _ (by assumption)).mono ?_); rintro e w7 ⟨ua7, uc7, rfl, hu7, hs7⟩)
              | (go_at_call 18; (with_reducible refine (hCb.out _ _ _ (by assumption) (by assumption)).mono ?_); rintro e w7 ⟨ua7, uc7, rfl, hu7, hs7⟩)
              | (go_at_call 17; (with_reducible refine (hSm.out _ _ _ (by assumption) (by assumption)).mono ?_); rintro e w7 ⟨rfl, hs8⟩))
          all_goals
            have hfin := Lib.hid (hI9.out _ hs8.1).2.2
            go_wp2_with fail
            go_ret
            exact ⟨ret_bool (by first | rfl | simp), hfin.out⟩
end Go.Proofs.YticjpeefhppjoaaDoor
