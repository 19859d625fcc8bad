/- A part of the proof that parser laws hold: texts of the walk and of its plain laws, made small. -/
import Derived.Test.YtnfclcfcpgfajaaGreatDoorM23
set_option linter.unusedVariables false
set_option linter.unusedSimpArgs false
/- Open. -/
namespace Go.Proofs.YtnfclcfcpgfajaaGreatDoor
open Go.RowKit Go.Shelf

/-- New holes for some, from a number on. -/
def openF (x : Int) (L : List Int) : List Fa := L.mapIdx fun i n => ⟨n, .mk ⟨#[]⟩ (x + i) []⟩
theorem openF_len (x : Int) (L : List Int) : (openF x L).length = L.length := by simp [openF]
theorem openF_get (x : Int) (L : List Int) (k : Nat) (h : k < (openF x L).length) : (openF x L)[k] = ⟨L[k]'(by rw [openF_len] at h; exact h), .mk ⟨#[]⟩ (x + k) []⟩ := by simp [openF]
def openO (s : Sc) (x : Int) : Option (Ty × Int) := if (chkSc s && (decide (0 ≤ x) && decide (x ≤ 2147483647))) = true then some (applyT (openF x s.all) s.ty, x + s.all.length) else none
def tyOf (o : Option (Ty × Int)) : Ty := (o.map (·.1)).getD zeroT
def nxOf (o : Option (Ty × Int)) : Int := (o.map (·.2)).getD 0
theorem results_ty2 {fn : Func} {t u u2 : Tmp} (h : fn.results = #[.cell t 25, .tmp u, .tmp u2]) (tmps : Array Value) (w : World) {b : Nat} {x y z v v2 : Value} (ha : tmps.getD t undef = .pointer (some ⟨b, 0, none⟩)) (hu : tmps.getD u undef = v) (hu2 : tmps.getD u2 undef = v2)
    (h0 : w.cell? ⟨b, 0, none⟩ = some x) (h1 : w.cell? ⟨b, 1, none⟩ = some y) (h2 : w.cell? ⟨b, 2, none⟩ = some z) : (results fn tmps).run Tryz.prog w = .ok (.tuple #[.agg #[x, y, z], v, v2]) w := by
  have e2 := Tryz.isAgg25
  have e3 := Tryz.sizeOf25
  have ha' : tmps[t]?.getD undef = .pointer (some ⟨b, 0, none⟩) := by simpa using ha
  have hu' : tmps[u]?.getD undef = v := by simpa using hu
  have hu2' : tmps[u2]?.getD undef = v2 := by simpa using hu2
  simp [results, h, ha', hu', hu2', asAddr, loadVar, e2, loadCells, loadCellsFrom, Result.andThen, h0, h1, h2, Addr.add, load, Sem.run]
set_option maxHeartbeats 6400000 in
set_option maxRecDepth 100000 in
theorem sc_Open (s : Sc) (x : Int) (v : Value) (w : World) (hv : IsSc w v s) (hal : s.all.length ≤ 100000) (hx : In64 x) :
    Calls Tryz.prog 17 #[v, .int .i64 x] w fun r w' => (∃ u, r = .returned (.tuple #[u, .int .i64 (nxOf (openO s x)), .int .i64 (errS (openO s x).isSome)]) ∧ IsTy w' u (tyOf (openO s x))) ∧ Below w.heap.size w w' := by
  have hv0 := Lib.hid hv
  obtain ⟨a, c, y0, y1, y2, rfl, hl, h64, hr, ht⟩ := hv
  obtain ⟨a2, c2, hfm⟩ := ht.form
  simp only [Value.agg.injEq, Array.mk.injEq, List.cons.injEq, and_true] at hfm
  obtain ⟨rfl, rfl, rfl⟩ := hfm
  have hT : Hid (openO s x = if (chkSc s && (decide (0 ≤ x) && decide (x ≤ 2147483647))) = true then some (applyT (openF x s.all) s.ty, x + s.all.length) else none) := rfl
  have hchk : Hid (∀ V, Below w.heap.size w V → Calls Tryz.prog 19 #[.agg #[.slice a s.all.length c, .string s.ty.name, .int .i64 s.ty.n, .slice a2 s.ty.args.length c2]] V fun r w' => r = .returned (.bool (chkSc s)) ∧ Below V.heap.size V w') := fun V hV => sc_Check s _ V (hv0.out.below hV)
  have ht' := Lib.hid ht
  have hr' := Lib.hid hr
  have h64' := Lib.hid h64
  obtain ⟨m, hm⟩ : ∃ m, chkSc s = m := ⟨_, rfl⟩
  obtain ⟨L, hL⟩ : ∃ L, s.all = L := ⟨_, rfl⟩
  obtain ⟨E, hE⟩ : ∃ E, s.ty = E := ⟨_, rfl⟩
  rw [hm] at hchk hT
  rw [hL] at hr' h64' hal hl hchk hT ⊢
  rw [hE] at ht' hchk hT ⊢
  obtain ⟨s5, hs5⟩ : ∃ y, E.name = y := ⟨_, rfl⟩
  obtain ⟨n5, hn5⟩ : ∃ y, E.n = y := ⟨_, rfl⟩
  obtain ⟨l5, hl5⟩ : ∃ y, E.args.length = y := ⟨_, rfl⟩
  rw [hs5, hn5, hl5] at ht' hchk ⊢
  clear hv0 hr h64 ht hm hL hE hs5 hn5 hl5
  obtain ⟨W1, hW1⟩ : ∃ W, (w.alloc (.cells #[.slice a L.length c, .string s5, .int .i64 n5, .slice a2 l5 c2] 27)).alloc (.cells #[.string ⟨#[]⟩, .int .i64 0, .slice none 0 0] 25) = W := ⟨_, rfl⟩
  have hb1 : Below w.heap.size w W1 := by rw [← hW1]; exact ((Below.refl _ w).alloc (Nat.le_refl _) _).alloc (by simp) _
  have hz1 : W1.heap.size = w.heap.size + 2 := by rw [← hW1]; simp
  have hcells : Hid (∀ V, Below (w.heap.size + 1) W1 V → V.cell? ⟨w.heap.size, 0, none⟩ = some (.slice a L.length c) ∧ V.cell? ⟨w.heap.size, 1, none⟩ = some (.string s5) ∧ V.cell? ⟨w.heap.size, 2, none⟩ = some (.int .i64 n5) ∧ V.cell? ⟨w.heap.size, 3, none⟩ = some (.slice a2 l5 c2)) := by
    intro V hV
    have g1 : Below (w.heap.size + 1) (w.alloc (.cells #[.slice a L.length c, .string s5, .int .i64 n5, .slice a2 l5 c2] 27)) W1 := by rw [← hW1]; exact (Below.refl _ _).alloc (by simp) _
    exact box4 (g1.trans hV)
  have hres : Hid (∀ U, Below (w.heap.size + 2) W1 U → U.heap[w.heap.size + 1]? = some (.cells #[.string ⟨#[]⟩, .int .i64 0, .slice none 0 0] 25 (0, 0))) := by
    intro U hU
    rw [← hW1] at hU
    exact new_block2 hU
  have hW1' := Lib.hid hW1
  have hb1' := Lib.hid hb1
  obtain ⟨k0, k1, k2, k3⟩ := hcells.out W1 (Below.refl _ _)
  have hchk1 := Lib.hid (hchk.out W1 hb1)
  clear hW1 hb1
  go_enter Tryz.func17, Tryz.ntmps17
  go_wp2_with fail
  rw [hW1'.out]
  go_wp2_with fail
  refine hchk1.out.mono ?_
  rintro r V ⟨rfl, hBV⟩
  have hbV := Lib.hid (hb1'.out.trans (hBV.mono (by omega)))
  have hBV' := Lib.hid (hBV.mono (show w.heap.size + 2 ≤ W1.heap.size by omega))
  clear k0 k1 k2 k3
  obtain ⟨k0, k1, k2, k3⟩ := hcells.out V (hBV.mono (by omega))
  have hzV : w.heap.size + 2 ≤ V.heap.size := by have := hBV.size; omega
  have hrV := Lib.hid (hres.out V hBV'.out)
  clear hBV
  cases m
  · have hN : Hid (openO s x = none) := by unfold Hid; rw [hT.out]; simp
    obtain ⟨r0, r1, r2⟩ := cells_of hrV.out
    have rf0 := frozen_of hrV.out 0
    have rf1 := frozen_of hrV.out 1
    have rf2 := frozen_of hrV.out 2
    go_wp2_with fail
    have hU := set_box3 hrV.out (.string ⟨#[]⟩) (.int .i64 0) (.slice none 0 0)
    change bodyPost _ _ _ _ _ (World.box3 V (w.heap.size + 1) (.string ⟨#[]⟩) (.int .i64 0) (.slice none 0 0))
    generalize World.box3 V (w.heap.size + 1) (.string ⟨#[]⟩) (.int .i64 0) (.slice none 0 0) = U at hU ⊢
    obtain ⟨⟨u0, u1, u2⟩, hBU, -, hUk⟩ := hU
    clear r0 r1 r2
    refine bodyPost_ret (results_ty2 rfl _ _ rfl rfl rfl u0 u1 u2) rfl ?_
    exact ⟨⟨_, by rw [hN.out]; rfl, by rw [hN.out]; exact zeroT_is U⟩, hbV.out.trans (hBU.mono (by omega))⟩
  · by_cases hlo : x < 0
    · have hN : Hid (openO s x = none) := by unfold Hid; rw [hT.out, if_neg]; simp; omega
      obtain ⟨r0, r1, r2⟩ := cells_of hrV.out
      have rf0 := frozen_of hrV.out 0
      have rf1 := frozen_of hrV.out 1
      have rf2 := frozen_of hrV.out 2
      go_wp2_with fail
      have hU := set_box3 hrV.out (.string ⟨#[]⟩) (.int .i64 0) (.slice none 0 0)
      change bodyPost _ _ _ _ _ (World.box3 V (w.heap.size + 1) (.string ⟨#[]⟩) (.int .i64 0) (.slice none 0 0))
      generalize World.box3 V (w.heap.size + 1) (.string ⟨#[]⟩) (.int .i64 0) (.slice none 0 0) = U at hU ⊢
      obtain ⟨⟨u0, u1, u2⟩, hBU, -, hUk⟩ := hU
      clear r0 r1 r2
      refine bodyPost_ret (results_ty2 rfl _ _ rfl rfl rfl u0 u1 u2) rfl ?_
      exact ⟨⟨_, by rw [hN.out]; rfl, by rw [hN.out]; exact zeroT_is U⟩, hbV.out.trans (hBU.mono (by omega))⟩
    · by_cases hhi : 2147483647 < x
      · have hN : Hid (openO s x = none) := by unfold Hid; rw [hT.out, if_neg]; simp; omega
        obtain ⟨r0, r1, r2⟩ := cells_of hrV.out
        have rf0 := frozen_of hrV.out 0
        have rf1 := frozen_of hrV.out 1
        have rf2 := frozen_of hrV.out 2
        go_wp2_with fail
        have hU := set_box3 hrV.out (.string ⟨#[]⟩) (.int .i64 0) (.slice none 0 0)
        change bodyPost _ _ _ _ _ (World.box3 V (w.heap.size + 1) (.string ⟨#[]⟩) (.int .i64 0) (.slice none 0 0))
        generalize World.box3 V (w.heap.size + 1) (.string ⟨#[]⟩) (.int .i64 0) (.slice none 0 0) = U at hU ⊢
        obtain ⟨⟨u0, u1, u2⟩, hBU, -, hUk⟩ := hU
        clear r0 r1 r2
        refine bodyPost_ret (results_ty2 rfl _ _ rfl rfl rfl u0 u1 u2) rfl ?_
        exact ⟨⟨_, by rw [hN.out]; rfl, by rw [hN.out]; exact zeroT_is U⟩, hbV.out.trans (hBU.mono (by omega))⟩
      · have hN : Hid (openO s x = some (applyT (openF x L) E, x + L.length)) := by unfold Hid; rw [hT.out, if_pos]; simp; omega
        obtain ⟨i0, hi, hz0, hz1', hz2'⟩ := info_of Tryz.infoFa
        have hlL : L.length ≤ 140737488355328 := by omega
        go_wp2_with fail
        go_loopw [1, 7, 25] (fun nv fv i wr => ∃ (k : Nat) (cs : List Value) (fa : Option Addr) (fc : Nat), k ≤ L.length ∧ nv = .int .i64 (x + (k : Int)) ∧ i = .int .i64 k ∧ fv = .slice fa k fc ∧ Hid (wr.ownsRow V.heap.size 68 4 fv k cs ∧ FaCells (fun c => fv.ownBlock = some c ∨ c = w.heap.size + 1) wr cs ((openF x L).take k)) ∧ Hid (Below V.heap.size V wr)) (fun _ _ i _ => L.length - (intOf i).toNat)
        case atStart => exact ⟨0, [], none, 0, by omega, by go_num, (by first | rfl | trivial), (by first | rfl | trivial), ⟨⟨rfl, .inl ⟨rfl, rfl⟩⟩, fun i h => by simp at h⟩, Below.refl _ _⟩
        case round =>
          obtain ⟨k, cs, fa, fc, hk, rfl, rfl, rfl, hown, hBr⟩ := hrel
          have hzr := hBr.out.size
          have hBW := Lib.hid (hBV'.out.trans (hBr.out.mono (by omega)))
          by_cases h1 : k < L.length
          · obtain ⟨b, off, rfl, hc⟩ := (hr'.out.keeps (Keeps.of_below (hbV.out.trans (hBr.out.mono (by omega))))) (by rintro rfl; simp at h1)
            have g0 := hc k h1
            have hin := Lib.hid (h64'.out _ (List.getElem_mem h1))
            obtain ⟨m, hm⟩ : ∃ m, L[k] = m := ⟨_, rfl⟩
            rw [hm] at g0 hin
            have hm' := Lib.hid hm
            have w1 : IntKind.i64.wrap (x + (k : Int) + 1) = x + (k : Int) + 1 := IntWalk.i64_in _ (by omega)
            obtain ⟨W8, hW8⟩ : ∃ W, wr.alloc (.cells #[.int .i64 m, .string ⟨#[]⟩, .int .i64 (x + (k : Int)), .slice none 0 0] 68) = W := ⟨_, rfl⟩
            have hB8 : Below wr.heap.size wr W8 := by rw [← hW8]; exact (Below.refl _ _).alloc (Nat.le_refl _) _
            have hz8 : W8.heap.size = wr.heap.size + 1 := by rw [← hW8]; simp
            have hown8 := Lib.hid (ownsRow_heap hown.out.1 (fun g hg => hB8.block g (ownBlock_ge hown.out.1 hg).2))
            have hcs8 := Lib.hid (hown.out.2.later (KeepsBut.of_below hB8) (fun _ _ h => h))
            have hnews := cell_four_new (w := wr) rfl (.int .i64 m) (.string ⟨#[]⟩) (.int .i64 (x + (k : Int))) (.slice none 0 0) 68
            rw [hW8] at hnews
            have hnews' := Lib.hid hnews
            have hBr8 := Lib.hid (hBr.out.trans (hB8.mono (by omega)))
            have hk63 : k + 1 ≤ maxLen := by unfold maxLen; omega
            have hk56 : (k + 1) * 56 ≤ 140737488355328 := by omega
            have hbs8 : V.heap.size ≤ W8.heap.size := hBr8.out.size
            have hone1 : ∀ u ∈ ([.int .i64 m, .string ⟨#[]⟩, .int .i64 (x + (k : Int)), .slice none 0 0] : List Value), u.oneCell' = true := by simp [Value.oneCell']
            have hW8' := Lib.hid hW8
            clear hc hm hW8 hB8 hnews
            go_wp2_with (at_builtin; go_must (rw [hW8'.out]; refine wpList_append_own_at _ rfl _ _ 64 rfl V.heap.size 68 i0 (.agg #[.int .i64 0, .string ⟨#[]⟩, .int .i64 0, .slice none 0 0]) 4 56 Tryz.underlying64 hi hz0 hz1' hz2' rfl (by decide) _ _ _ rfl hown8.out ⟨wr.heap.size, 0, none⟩ 1 1 [.int .i64 m, .string ⟨#[]⟩, .int .i64 (x + (k : Int)), .slice none 0 0] rfl rfl hnews'.out hone1 hk63 hk56 hbs8 ?_); intro v2 w3 hown2 hg2 _ hat; have hat' := Lib.hid hat; have hg2' := Lib.hid hg2; have hown2' := Lib.hid hown2; clear hat hg2 hown2)
            obtain ⟨fa2, fc2, he2, _⟩ := ownsRow_form hown2'.out
            subst he2
            have hlt : k < (openF x L).length := by rw [openF_len]; exact h1
            have htk : Hid ((openF x L).take (k + 1) = (openF x L).take k ++ [⟨m, .mk ⟨#[]⟩ (x + k) []⟩]) := by
              unfold Hid
              rw [List.take_succ_eq_append_getElem hlt, openF_get x L k hlt, hm'.out]
            clear w1
            go_roundw
            case rel =>
              refine ⟨k + 1, _, fa2, fc2, by omega, by go_num, by go_num, rfl, ⟨hown2'.out, ?_⟩, (hBr8.out.grown hg2'.out hbs8 (fun q e => (ownBlock_ge hown8.out e).1))⟩
              rw [htk.out]
              have hs := FaCells.snoc (u0 := .int .i64 m) (u1 := .string ⟨#[]⟩) (u2 := .int .i64 (x + (k : Int))) (u3 := .slice none 0 0) (e := ⟨m, .mk ⟨#[]⟩ (x + k) []⟩) hcs8.out (by rw [List.length_take, Nat.min_eq_left (by rw [openF_len]; omega)]; exact hown8.out.1) ⟨_, _, _, rfl, hin.out, TyX.shut (a := none) (l := []) (fun _ => rfl) ⟨by omega, by omega⟩ (Nat.zero_le _) (Nat.zero_le _) (.inl rfl)⟩
              refine hs.later ⟨hg2'.out.size, fun a v hx hv => ?_⟩ fun b hb hy => ?_
              · rw [World.cell?_of_block (hg2'.out.block a.block (cell_block hv) (fun e => hx (.inl e.symm)))]; exact hv
              · rcases hy with hy | hy
                · rcases hat'.out with h | h
                  · rw [h] at hy; exact .inl hy
                  · rw [h] at hy; simp at hy; omega
                · exact .inr hy
            case measure => simp [intOf]; omega
          · have e : k = L.length := by omega
            have hrow := hown.out.2
            rw [e, List.take_of_length_le (by rw [openF_len]; omega)] at hrow
            have hown1 := hown.out.1
            rw [show k = (openF x L).length from by rw [openF_len, e]] at hown1
            obtain ⟨fa2, fc2, he2, _, hrow2⟩ := hrow.row (X := fun c => c = w.heap.size + 1) (es := openF x L) hown1 (fun b h => by omega) (fun b h => .inr h)
            simp only [Value.slice.injEq] at he2
            obtain ⟨rfl, _, rfl⟩ := he2
            have hwr := Lib.hid (hbV.out.trans (hBr.out.mono (by omega)))
            obtain ⟨k0, k1, k2, k3⟩ := hcells.out wr (hBW.out.mono (by omega))
            have happ := Lib.hid (ty_ApplyX fa fc (openF x L) E (.agg #[.string s5, .int .i64 n5, .slice a2 l5 c2]) wr (fun c => c = w.heap.size + 1) (fun b hb => by show b < wr.heap.size; omega) (by rw [openF_len]; unfold lenMax; omega) hrow2 (TyX.later (KeepsBut.of_below hwr.out) (fun b hb h => by omega) ht'.out))
            rw [openF_len, ← e] at happ
            have hkE : Hid (k = L.length) := e
            clear hrow hown1 hrow2 e
            go_wp2_with fail
            refine happ.out.mono ?_
            rintro e V5 ⟨u, rfl, hu, hB5⟩
            obtain ⟨xa, xc, rfl⟩ := hu.form
            have hu' := Lib.hid hu
            have hw5 := Lib.hid (hwr.out.trans (hB5.mono hwr.out.size))
            have hr5 := Lib.hid (hres.out V5 (hBW.out.trans (hB5.mono (by omega))))
            obtain ⟨r0, r1, r2⟩ := cells_of hr5.out
            have rf0 := frozen_of hr5.out 0
            have rf1 := frozen_of hr5.out 1
            have rf2 := frozen_of hr5.out 2
            obtain ⟨T, hTt⟩ : ∃ T, applyT (openF x L) E = T := ⟨_, rfl⟩
            rw [hTt] at hu' hN
            simp only [hTt]
            clear hu hB5 k0 k1 k2 k3 hTt
            generalize T.name = us at hu' ⊢
            generalize T.n = un at hu' ⊢
            generalize T.args.length = um at hu' ⊢
            go_wp2_with fail
            have hU := set_box3 hr5.out (.string us) (.int .i64 un) (.slice xa um xc)
            change bodyPost _ _ _ _ _ (World.box3 V5 (w.heap.size + 1) (.string us) (.int .i64 un) (.slice xa um xc))
            generalize World.box3 V5 (w.heap.size + 1) (.string us) (.int .i64 un) (.slice xa um xc) = U at hU ⊢
            obtain ⟨⟨u0, u1, u2⟩, hBU, -, hUk⟩ := hU
            clear r0 r1 r2
            refine bodyPost_ret (results_ty2 rfl _ _ rfl rfl rfl u0 u1 u2) rfl ?_
            refine ⟨⟨_, by rw [hN.out, hkE.out]; rfl, ?_⟩, hw5.out.trans (hBU.mono (by omega))⟩
            rw [hN.out]
            exact TyX.later hUk (fun b _ h => h.elim) hu'.out
end Go.Proofs.YtnfclcfcpgfajaaGreatDoor

/- What closing and opening come to, in plain words. -/
namespace Go.Proofs.YtnfclcfcpgfajaaGreatDoor
open Go.RowKit

theorem apply_nil {e : Ty} (h : chkT e = true) : applyT [] e = e := by
  rw [applyT, if_pos (by rw [h]; rfl), putT_map (L := []) (g := fun n => n) e fun n _ => rfl]
  exact mapH_id e 60 (chk_snd h)
theorem holesC_nodup (e : Ty) : (holesC e).Nodup := by
  cases h : chkT e with
  | true => rw [holesC_once h]; exact onceL_nodup _
  | false => unfold holesC; rw [if_neg (by rw [h]; simp)]; exact List.nodup_nil
theorem holesC_mem {e : Ty} (h : chkT e = true) {n : Int} : n ∈ holesC e ↔ n ∈ allT e := by rw [holesC_once h, onceL_mem]
theorem inOnce_self {H : List Int} (h : H.Nodup) : inOnce H H = true := by
  rw [inOnce_iff]
  intro k hk
  refine ⟨List.getElem_mem hk, fun hm => ?_⟩
  obtain ⟨i, hi, he⟩ := List.getElem_of_mem hm
  have hi' : i < k := by rw [List.length_take] at hi; omega
  rw [List.getElem_take] at he
  have := (List.getElem_inj h).1 he
  omega
theorem close_nil {t : Ty} (h : chkT t = true) : closeO t [] = some ⟨holesC t, t⟩ := by
  unfold closeO
  rw [if_pos (by rw [h]; rfl), apply_nil h]
  congr 2
  rw [List.filter_eq_self]
  intro n _
  simp [allFree]
theorem close_bad {t : Ty} {bs : List Sc} (h : chkT t = false) : closeO t bs = none := by
  unfold closeO
  rw [if_neg (by rw [h]; simp)]
theorem chk_closed {t : Ty} (h : chkT t = true) : chkSc ⟨holesC t, t⟩ = true := by
  unfold chkSc
  rw [h, Bool.true_and]
  exact inOnce_self (holesC_nodup t)
theorem free_closed {t : Ty} (h : chkT t = true) : freeL ⟨holesC t, t⟩ = [] := by
  unfold freeL
  rw [if_pos (chk_closed h), List.filter_eq_nil_iff]
  intro n hn
  simp [hn]
theorem fa_open (x : Int) (H : List Int) (n : Int) : fa? (openF x H) n = if n ∈ H then some (.mk ⟨#[]⟩ (x + (H.idxOf n : Nat)) []) else none := by
  have h : ∀ (H : List Int) (f : Nat → Int), fa? (H.mapIdx fun i m => (⟨m, .mk ⟨#[]⟩ (f i) []⟩ : Fa)) n = if n ∈ H then some (.mk ⟨#[]⟩ (f (H.idxOf n)) []) else none := by
    intro H
    induction H with
    | nil => intro f; rfl
    | cons a r ih =>
      intro f
      rw [List.mapIdx_cons]
      simp only [fa?]
      by_cases e : a = n
      · subst e; simp
      · rw [if_neg e, ih fun i => f (i + 1)]
        have e' : ¬ n = a := fun h => e h.symm
        simp [e', List.idxOf_cons, show (a == n) = false from by simpa using e]
  exact h H fun i => x + i
/-- The type that is opened. -/
def opened (x : Int) (t : Ty) : Ty := mapH (fun n => x + ((holesC t).idxOf n : Nat)) t
theorem open_apply {e : Ty} {x : Int} (h : chkT e = true) (hb : 0 ≤ x) : applyT (openF x (holesC e)) e = opened x e := by
  have hgood : ((chkT e && (openF x (holesC e)).all goodF) = true) := by
    rw [h, Bool.true_and, List.all_eq_true]
    intro f hf
    obtain ⟨i, hi, rfl⟩ := List.mem_mapIdx.1 hf
    have hn : 0 ≤ (holesC e)[i] := all_nonneg e 60 (chk_snd h) _ ((holesC_mem h).1 (List.getElem_mem hi))
    simp only [goodF, Bool.and_eq_true, decide_eq_true_eq]
    refine ⟨?_, hn⟩
    simp only [chkT, Bool.and_eq_true, decide_eq_true_eq]
    exact ⟨by simp [tcnt, tcnt.cntL], sndT_hole (by omega) (by omega)⟩
  rw [applyT, if_pos hgood]
  exact putT_map e fun n hn => by
    rw [fa_open, if_pos ((holesC_mem h).2 hn)]
    rfl
theorem open_closed {t : Ty} {x : Int} (h : chkT t = true) (h0 : 0 ≤ x) (h1 : x ≤ 2147483647) : openO ⟨holesC t, t⟩ x = some (opened x t, x + (holesC t).length) := by
  unfold openO
  rw [if_pos (by rw [chk_closed h, decide_eq_true h0, decide_eq_true h1]; rfl), open_apply h h0]
theorem chk_opened {t : Ty} {x : Int} (h : chkT t = true) (h0 : 0 ≤ x) : chkT (opened x t) = true := chkT_map h fun n _ => by omega
theorem opened_inj {t : Ty} {x : Int} (h : chkT t = true) : ∀ a ∈ allT t, ∀ b ∈ allT t, x + ((holesC t).idxOf a : Nat) = x + ((holesC t).idxOf b : Nat) → a = b := fun a ha b hb e =>
  idxOf_inj (H := holesC t) ((holesC_mem h).2 ha) ((holesC_mem h).2 hb) (by omega)
theorem holes_opened {t : Ty} {x : Int} (h : chkT t = true) (h0 : 0 ≤ x) : holesC (opened x t) = (holesC t).map fun n => x + ((holesC t).idxOf n : Nat) := by
  rw [holesC_once (chk_opened h h0), opened, allT_map, onceL_map _ (opened_inj h), ← holesC_once h]
theorem holes_opened_len {t : Ty} {x : Int} (h : chkT t = true) (h0 : 0 ≤ x) : (holesC (opened x t)).length = (holesC t).length := by rw [holes_opened h h0, List.length_map]
theorem holes_opened_get {t : Ty} {x : Int} (h : chkT t = true) (h0 : 0 ≤ x) (i : Nat) (hi : i < (holesC (opened x t)).length) : (holesC (opened x t))[i] = x + i := by
  have hl : i < (holesC t).length := by rw [holes_opened_len h h0] at hi; exact hi
  simp only [holes_opened h h0, List.getElem_map]
  rw [idxOf_get (holesC_nodup t) i hl]
theorem canon_opened {t : Ty} {x : Int} (h : chkT t = true) (h0 : 0 ≤ x) : canonT (opened x t) = canonT t := canon_of_map h (fun n _ => by omega) (opened_inj h)
end Go.Proofs.YtnfclcfcpgfajaaGreatDoor
