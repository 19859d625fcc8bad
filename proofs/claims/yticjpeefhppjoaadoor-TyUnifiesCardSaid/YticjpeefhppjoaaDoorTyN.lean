/- A type whose holes are numbered by their first place, a type with facts in its places, by the reference. -/
import Derived.Test.YticjpeefhppjoaaDoorTyH
import Derived.Test.YticjpeefhppjoaaDoorTyQ
import Derived.Test.YticjpeefhppjoaaDoorTyF
namespace Go.Proofs.YticjpeefhppjoaaDoor
open Go.RowKit

def zeroT : Ty := .mk ⟨#[]⟩ 0 []
theorem zeroT_is (w : World) : IsTy w (.agg #[.string ⟨#[]⟩, .int .i64 0, .slice none 0 0]) zeroT := TyX.shut (l := []) (fun _ => rfl) ⟨by omega, by omega⟩ (show (0 : Nat) ≤ lenMax from Nat.zero_le _) (Nat.zero_le _) (.inl rfl)
/-- What each of some holes is: its place in the list. -/
def canonF (l : List Int) : List Fa := l.mapIdx fun i n => ⟨n, .mk ⟨#[]⟩ i []⟩
theorem canonF_take (l : List Int) (k : Nat) (h : k < l.length) : canonF (l.take (k + 1)) = canonF (l.take k) ++ [⟨l[k], .mk ⟨#[]⟩ k []⟩] := by
  rw [List.take_succ_eq_append_getElem h]
  unfold canonF
  rw [List.mapIdx_append]
  simp [List.length_take, Nat.min_eq_left (Nat.le_of_lt h)]
theorem canonF_len (l : List Int) : (canonF l).length = l.length := by simp [canonF]
def canonT (e : Ty) : Ty := if chkT e = true then putT (canonF (holesT e [])) e else zeroT

/-- A result of a type, laid into its cell. -/
theorem ty_kept {X : Nat → Prop} {V U : World} {b : Nat} {v : Value} {e : Ty} (h : TyX (fun c => X c ∨ c = b) V v e) (hk : KeepsBut (fun c => c = b) V U) : TyX X U v e :=
  TyX.later (hk.wider fun c hc => .inr hc) (fun c _ hc => .inl hc) h
theorem In64.of_hole {w : World} {v : Value} {s : Str} {n : Int} {l : List Ty} {X : Nat → Prop} (h : TyX X w v (.mk s n l)) : -9223372036854775808 ≤ n ∧ n ≤ 9223372036854775807 := by
  obtain ⟨_, _, _, _, h, _⟩ := h.open; exact h
/-- The holes of a type that lies in memory are numbers of 64 bits. -/
theorem holes_in64 : ∀ (e : Ty) {X : Nat → Prop} {w : World} {v : Value} (l : List Int), TyX X w v e → (∀ n ∈ l, -9223372036854775808 ≤ n ∧ n ≤ 9223372036854775807) → ∀ n ∈ holesT e l, -9223372036854775808 ≤ n ∧ n ≤ 9223372036854775807 := by
  refine Ty.ind fun s n args ih X w v l hv hl => ?_
  obtain ⟨a, c, _, _, hn, _, _, hr⟩ := hv.open
  have hL : ∀ (r : List Ty) (l : List Int), (∀ e ∈ r, e ∈ args) → (∀ n ∈ l, -9223372036854775808 ≤ n ∧ n ≤ 9223372036854775807) → ∀ n ∈ holesT.holesL r l, -9223372036854775808 ≤ n ∧ n ≤ 9223372036854775807 := by
    intro r
    induction r with
    | nil => intro l _ hl; exact hl
    | cons e r ihr =>
      intro l hm hl
      refine ihr _ (fun x hx => hm x (by simp [hx])) ?_
      have hmem := hm e (by simp)
      obtain ⟨j, hj, rfl⟩ := List.getElem_of_mem hmem
      obtain ⟨b, off, _, hat⟩ := hr.arg (by rintro rfl; simp at hj)
      obtain ⟨_, _, _, _, _, ge⟩ := hat j hj
      exact ih _ (List.getElem_mem hj) l ge hl
  unfold holesT
  split
  · intro m hm
    unfold addI at hm
    split at hm
    · exact hl m hm
    · rcases List.mem_append.1 hm with h | h
      · exact hl m h
      · simp at h; subst h; exact hn
  · exact hL args l (fun _ h => h) hl

set_option maxHeartbeats 4000000 in
set_option maxRecDepth 100000 in
theorem r08_Canon (e : Ty) (v : Value) (w : World) (hv : IsTy w v e) : Calls Tryd.prog 19 #[v] w fun r w' => ∃ u, r = .returned u ∧ IsTy w' u (canonT e) ∧ Below w.heap.size w w' := by
  obtain ⟨s, n, l⟩ := e
  obtain ⟨a1, c1, rfl, _, hn, hs, hl, _⟩ := hv.open
  have h64 := Lib.hid (holes_in64 (.mk s n l) [] hv (by simp))
  obtain ⟨W1, hW1⟩ : ∃ W, ((w.alloc (.cells #[.string s, .int .i64 n, .slice a1 l.length c1] 24)).alloc (.cells #[.string ⟨#[]⟩, .int .i64 0, .slice none 0 0] 24)) = W := ⟨_, rfl⟩
  have hz1 : W1.heap.size = w.heap.size + 2 := by rw [← hW1]; simp
  have hb1 : Below w.heap.size w W1 := by rw [← hW1]; exact ((Below.refl _ w).alloc (Nat.le_refl _) _).alloc (by simp) _
  have hcells' : Hid (∀ V, Below (w.heap.size + 1) W1 V → V.cell? ⟨w.heap.size, 0, none⟩ = some (.string s) ∧ V.cell? ⟨w.heap.size, 1, none⟩ = some (.int .i64 n) ∧ V.cell? ⟨w.heap.size, 2, none⟩ = some (.slice a1 l.length c1)) := by
    intro V hV
    have g1 : Below (w.heap.size + 1) (w.alloc (.cells #[.string s, .int .i64 n, .slice a1 l.length c1] 24)) W1 := by rw [← hW1]; exact (Below.refl _ _).alloc (by simp) _
    exact box3 (g1.trans hV)
  have hres' : Hid (∀ U, Below (w.heap.size + 2) W1 U → U.heap[w.heap.size + 1]? = some (.cells #[.string ⟨#[]⟩, .int .i64 0, .slice none 0 0] 24 (0, 0))) := by
    intro U hU
    rw [← hW1] at hU
    exact new_block2 hU
  have hW1' := Lib.hid hW1
  have hb1' := Lib.hid hb1
  have hv0 := Lib.hid hv
  obtain ⟨k0, k1, k2⟩ := hcells'.out W1 (Below.refl _ _)
  clear hW1
  have hc := Lib.hid (r08_Check (.mk s n l) _ W1 (hv0.out.below hb1'.out))
  cases hq : chkT (.mk s n l)
  · have hT : Hid (canonT (.mk s n l) = zeroT) := by unfold Hid canonT; rw [if_neg (by rw [hq]; simp)]
    rw [hq] at hc
    clear hq hv
    go_enter Tryd.func19, Tryd.ntmps19
    go_wp2_with fail
    rw [hW1'.out]
    refine hc.out.mono ?_
    rintro e V ⟨rfl, hBV⟩
    have hbr : Below (w.heap.size + 2) W1 V := hBV.mono (by omega)
    have hwV := hb1'.out.trans (hBV.mono (by omega))
    have hrr := Lib.hid (hres'.out V hbr)
    obtain ⟨r0, r1, r2⟩ := cells_of hrr.out
    have rf0 := frozen_of hrr.out 0
    have rf1 := frozen_of hrr.out 1
    have rf2 := frozen_of hrr.out 2
    go_wp2_with fail
    have hU := set_box3 hrr.out (.string ⟨#[]⟩) (.int .i64 0) (.slice none 0 0)
    change bodyPost _ _ _ _ _ (World.box3 V (w.heap.size + 1) (.string ⟨#[]⟩) (.int .i64 0) (.slice none 0 0))
    generalize World.box3 V (w.heap.size + 1) (.string ⟨#[]⟩) (.int .i64 0) (.slice none 0 0) = U at hU ⊢
    obtain ⟨⟨u0, u1, u2⟩, hBU, -, hUk⟩ := hU
    clear r0 r1 r2
    refine bodyPost_ret (results_ty rfl _ _ rfl u0 u1 u2) rfl ?_
    exact ⟨_, rfl, by rw [hT.out]; exact zeroT_is _, hwV.trans (hBU.mono (by omega))⟩
  · have hT : Hid (canonT (.mk s n l) = putT (canonF (holesT (.mk s n l) [])) (.mk s n l)) := by unfold Hid canonT; rw [if_pos hq]
    have hcnt := Lib.hid (chk_cnt hq)
    have hlen : Hid ((holesT (.mk s n l) []).length ≤ 2000) := by
      have := holesT_len (.mk s n l) []
      have := hcnt.out
      unfold Hid; simp at *; omega
    have hh := Lib.hid (fun V (hV : Below w.heap.size w V) => r08_holes (.mk s n l) _ (.slice none 0 0) [] V (hv0.out.below hV) (.inl ⟨rfl, rfl⟩) (by have := hcnt.out; simp; omega))
    obtain ⟨H, hH⟩ : ∃ H, holesT (.mk s n l) [] = H := ⟨_, rfl⟩
    rw [hH] at hh hlen h64 hT
    have hlen' := hlen.out
    rw [hq] at hc
    clear hq hv hH hlen
    go_enter Tryd.func19, Tryd.ntmps19
    go_wp2_with fail
    rw [hW1'.out]
    refine hc.out.mono ?_
    rintro e V ⟨rfl, hBV⟩
    have hbV : Below (w.heap.size + 2) W1 V := hBV.mono (by omega)
    have hwV := Lib.hid (hb1'.out.trans (hBV.mono (by omega)))
    clear k0 k1 k2
    obtain ⟨k0, k1, k2⟩ := hcells'.out _ (hbV.mono (by omega))
    go_wp2_with fail
    refine (hh.out V hwV.out).mono ?_
    rintro e V2 ⟨⟨z, rfl, hz⟩, hB2⟩
    obtain ⟨za, zc, rfl⟩ := hz.form
    have hbV2 : Below (w.heap.size + 2) W1 V2 := hbV.trans (hB2.mono (by have := hbV.size; omega))
    have hz' := Lib.hid hz
    have hzV2 : w.heap.size + 2 ≤ V2.heap.size := by have := hbV2.size; omega
    clear hz hB2 k0 k1 k2
    obtain ⟨i0, hi, hz0, hz1', hz2'⟩ := info_of Tryd.infoFa
    go_wp2_with fail
    go_loopw [5, 6] (fun f i wr => ∃ (k : Nat) (cs : List Value), k ≤ H.length ∧ i = .int .i64 k ∧ Hid (wr.ownsRow V2.heap.size 34 4 f k cs ∧ FaCells (fun c => c = w.heap.size + 1) wr cs (canonF (H.take k))) ∧ Below V2.heap.size V2 wr) (fun _ i _ => H.length - (intOf i).toNat)
    case atStart => exact ⟨0, [], by omega, rfl, ⟨⟨rfl, .inl ⟨rfl, rfl⟩⟩, fun i h => by simp [canonF] at h⟩, Below.refl _ _⟩
    case round =>
      obtain ⟨k, cs, hk, rfl, hown, hBr⟩ := hrel
      by_cases h1 : k < H.length
      · obtain ⟨b, off, rfl, hc⟩ := (hz'.out.keeps (Keeps.of_below hBr)).at.2 (by rintro rfl; simp at h1)
        have g0 := hc k h1
        have hin := h64.out _ (List.getElem_mem h1)
        have hin' := Lib.hid hin
        have hzr := hBr.size
        clear hc hin
        go_wp2_with (at_builtin; go_must (refine wpList_append_own_at _ rfl _ _ 32 rfl V2.heap.size 34 i0 (.agg #[.int .i64 0, .string ⟨#[]⟩, .int .i64 0, .slice none 0 0]) 4 56 Tryd.underlying32 hi hz0 hz1' hz2' rfl (by decide) _ _ _ rfl (hown.out.1.alloc _) ⟨wr.heap.size, 0, none⟩ 1 1 [.int .i64 H[k], .string ⟨#[]⟩, .int .i64 k, .slice none 0 0] rfl rfl (cell_four_new rfl _ _ _ _ _) (by simp [Value.oneCell']) (by unfold maxLen; omega) (by omega) (by simp <;> omega) ?_); intro v2 w3 hown2 hg2 _ _; have hB3 := Lib.hid ((hBr.alloc hzr (.cells #[.int .i64 H[k], .string ⟨#[]⟩, .int .i64 k, .slice none 0 0] 34)).grown hg2 (by simp <;> omega) (fun q e => (ownBlock_ge hown.out.1 e).1)); have hown2' := Lib.hid hown2; clear hown2 hg2)
        go_roundw
        case rel =>
          refine ⟨k + 1, _, by omega, by go_num, ⟨hown2'.out, ?_⟩, hB3.out⟩
          rw [canonF_take H k h1]
          refine FaCells.snoc (u0 := .int .i64 H[k]) (u1 := .string ⟨#[]⟩) (u2 := .int .i64 k) (u3 := .slice none 0 0) ?_ ?_ ?_
          · intro i hi
            obtain ⟨v0, v1, v2, v3, c0, c1, c2, c3, hx⟩ := hown.out.2 i hi
            refine ⟨v0, v1, v2, v3, c0, c1, c2, c3, ?_⟩
            obtain ⟨x1, x2, x3, e0, e1, e2⟩ := hx
            refine ⟨x1, x2, x3, e0, e1, ?_⟩
            have hty : (canonF (H.take k))[i].ty = .mk ⟨#[]⟩ i [] := by simp [canonF]
            rw [hty] at e2 ⊢
            obtain ⟨aa, cc, h5, h6, h7, h8, h9, h10⟩ := e2.open
            rw [h5]
            exact TyX.shut h6 h7 h8 h9 (.inl rfl)
          · rw [canonF_len, List.length_take, Nat.min_eq_left (Nat.le_of_lt h1)]; exact hown.out.1.1
          · exact ⟨_, _, _, rfl, hin'.out, TyX.shut (l := []) (fun _ => rfl) ⟨by omega, by omega⟩ (show (0 : Nat) ≤ lenMax from Nat.zero_le _) (Nat.zero_le _) (.inl rfl)⟩
        case measure => simp [intOf]; omega
      · have e : k = H.length := by omega
        have hbr : Below (w.heap.size + 2) W1 wr := hbV2.trans (hBr.mono (by omega))
        have hwr := Lib.hid (hb1'.out.trans (hbr.mono (by omega)))
        obtain ⟨k0, k1, k2⟩ := hcells'.out _ (hbr.mono (by omega))
        have hrow := hown.out.2
        rw [e, List.take_length] at hrow
        have hown1 := hown.out.1
        rw [e] at hown1
        obtain ⟨fa, fc, rfl, _, hrow2⟩ := hrow.row (X := fun c => c = w.heap.size + 1) (es := canonF H) (by rw [canonF_len]; exact hown1) (fun c hc => by omega) (fun _ h => h)
        have hput := Lib.hid (r08_put (canonF H) (.mk s n l) _ (fun c => c = w.heap.size + 1) fa fc wr (TyX.later (KeepsBut.of_below hwr.out) (fun b hb h => by omega) hv0.out) hrow2 (by rw [canonF_len]; unfold lenMax; omega) (fun b h => by have := hbr.size; omega) (by have := hcnt.out; omega))
        have e' := Lib.hid e
        clear hrow hrow2 hown1 e hown
        go_wp2_with fail
        with_reducible refine hput.out.mono ?_
        rintro e V3 ⟨u, rfl, hu, hB3⟩
        obtain ⟨ua, uc, rfl⟩ := hu.form
        have hu' := Lib.hid hu
        have hbr3 : Below (w.heap.size + 2) W1 V3 := hbr.trans (hB3.mono (by have := hbr.size; omega))
        have hwV3 := Lib.hid (hb1'.out.trans (hbr3.mono (by omega)))
        have hrr := Lib.hid (hres'.out V3 hbr3)
        obtain ⟨r0, r1, r2⟩ := cells_of hrr.out
        have rf0 := frozen_of hrr.out 0
        have rf1 := frozen_of hrr.out 1
        have rf2 := frozen_of hrr.out 2
        clear hu
        generalize (putT (canonF H) (.mk s n l)).name = us at hu' ⊢
        generalize (putT (canonF H) (.mk s n l)).n = un at hu' ⊢
        generalize (putT (canonF H) (.mk s n l)).args.length = um at hu' ⊢
        go_wp2_with fail
        have hU := set_box3 hrr.out (.string us) (.int .i64 un) (.slice ua um uc)
        change bodyPost _ _ _ _ _ (World.box3 V3 (w.heap.size + 1) (.string us) (.int .i64 un) (.slice ua um uc))
        generalize World.box3 V3 (w.heap.size + 1) (.string us) (.int .i64 un) (.slice ua um uc) = U at hU ⊢
        obtain ⟨⟨u0, u1, u2⟩, hBU, -, hUk⟩ := hU
        clear r0 r1 r2
        refine bodyPost_ret (results_ty rfl _ _ rfl u0 u1 u2) rfl ?_
        refine ⟨_, rfl, ?_, hwV3.out.trans (hBU.mono (by omega))⟩
        rw [hT.out]
        exact ty_kept (X := fun _ => False) (hu'.out.less fun b hb => hb.elim (fun h => h.elim) id) hUk

def goodF (f : Fa) : Bool := chkT f.ty && decide (0 ≤ f.n)
def applyT (L : List Fa) (e : Ty) : Ty := if (chkT e && L.all goodF) = true then putT L e else zeroT

set_option maxHeartbeats 4000000 in
set_option maxRecDepth 100000 in
theorem r08_Apply (aL : Option Addr) (cL : Nat) (L : List Fa) (e : Ty) (v : Value) (w : World) (hLl : L.length ≤ lenMax) (hL : FaRow (fun _ => False) w aL L) (hv : IsTy w v e) : Calls Tryd.prog 23 #[.slice aL L.length cL, v] w fun r w' => ∃ u, r = .returned u ∧ IsTy w' u (applyT L e) ∧ Below w.heap.size w w' := by
  obtain ⟨s, n, l⟩ := e
  obtain ⟨a1, c1, rfl, _, hn, hs, hl, _⟩ := hv.open
  have hLl' := Lib.hid hLl
  have hL' := Lib.hid hL
  unfold lenMax at hLl
  obtain ⟨W1, hW1⟩ : ∃ W, ((w.alloc (.cells #[.string s, .int .i64 n, .slice a1 l.length c1] 24)).alloc (.cells #[.string ⟨#[]⟩, .int .i64 0, .slice none 0 0] 24)) = W := ⟨_, rfl⟩
  have hz1 : W1.heap.size = w.heap.size + 2 := by rw [← hW1]; simp
  have hb1 : Below w.heap.size w W1 := by rw [← hW1]; exact ((Below.refl _ w).alloc (Nat.le_refl _) _).alloc (by simp) _
  have hcells' : Hid (∀ V, Below (w.heap.size + 1) W1 V → V.cell? ⟨w.heap.size, 0, none⟩ = some (.string s) ∧ V.cell? ⟨w.heap.size, 1, none⟩ = some (.int .i64 n) ∧ V.cell? ⟨w.heap.size, 2, none⟩ = some (.slice a1 l.length c1)) := by
    intro V hV
    have g1 : Below (w.heap.size + 1) (w.alloc (.cells #[.string s, .int .i64 n, .slice a1 l.length c1] 24)) W1 := by rw [← hW1]; exact (Below.refl _ _).alloc (by simp) _
    exact box3 (g1.trans hV)
  have hres' : Hid (∀ U, Below (w.heap.size + 2) W1 U → U.heap[w.heap.size + 1]? = some (.cells #[.string ⟨#[]⟩, .int .i64 0, .slice none 0 0] 24 (0, 0))) := by
    intro U hU
    rw [← hW1] at hU
    exact new_block2 hU
  have hW1' := Lib.hid hW1
  have hb1' := Lib.hid hb1
  have hv0 := Lib.hid hv
  obtain ⟨k0, k1, k2⟩ := hcells'.out W1 (Below.refl _ _)
  clear hW1
  have hc := Lib.hid (r08_Check (.mk s n l) _ W1 (hv0.out.below hb1'.out))
  clear hv hL
  obtain ⟨b0, hb0⟩ : ∃ b, chkT (.mk s n l) = b := ⟨_, rfl⟩
  rw [hb0] at hc
  have hb0' := Lib.hid hb0
  clear hb0
  go_enter Tryd.func23, Tryd.ntmps23
  go_wp2_with fail
  rw [hW1'.out]
  refine hc.out.mono ?_
  rintro e V ⟨rfl, hBV⟩
  have hbV : Below (w.heap.size + 2) W1 V := hBV.mono (by omega)
  clear hBV k0 k1 k2
  go_wp2_with fail
  go_loopw [5, 6, 7] (fun o i _ wr => ∃ (k : Nat) (ob : Bool), k ≤ L.length ∧ i = .int .i64 k ∧ o = .bool ob ∧ Hid (ob = (b0 && (L.take k).all goodF)) ∧ Below (w.heap.size + 2) W1 wr) (fun _ i _ _ => L.length - (intOf i).toNat)
  case atStart => exact ⟨0, b0, by omega, rfl, rfl, by unfold Hid; simp, hbV⟩
  case round =>
    obtain ⟨k, ob, hk, rfl, rfl, hob, hB⟩ := hrel
    have hwr := Lib.hid (hb1'.out.trans (hB.mono (by omega)))
    have hzr := hB.size
    by_cases h1 : k < L.length
    · obtain ⟨b, off, rfl, hat⟩ := (FaRow.keeps (Keeps.of_below hwr.out) hL'.out).at (by rintro rfl; simp at h1)
      obtain ⟨a2, c2, g0, g1, g2, g3, ge, _⟩ := hat k h1
      have hcall := Lib.hid (r08_Check L[k].ty _ wr ge)
      have hg0 : Hid (∀ V, Below wr.heap.size wr V → V.cell? ⟨b, off + k * 4, none⟩ = some (.int .i64 L[k].n)) := fun V hb => Keeps.of_below hb _ _ g0
      have hstep : Hid ((b0 && (L.take (k + 1)).all goodF) = (ob && (chkT L[k].ty && decide (0 ≤ L[k].n)))) := by
        unfold Hid
        rw [List.take_succ_eq_append_getElem h1, List.all_append, ← Bool.and_assoc, ← hob.out]
        simp [goodF]
      have hki : (k : Int) < (L.length : Int) := by omega
      clear hat ge
      obtain ⟨m, hm⟩ : ∃ m, chkT L[k].ty = m := ⟨_, rfl⟩
      obtain ⟨p, hp⟩ : ∃ p, L[k].n = p := ⟨_, rfl⟩
      rw [hm] at hcall
      rw [hm, hp] at hstep
      rw [hp] at hg0
      clear hm hp
      cases ob
      · have hnx : Hid (false = (b0 && (L.take (k + 1)).all goodF)) := by unfold Hid; rw [hstep.out]; simp
        go_wp2_with fail
        refine hcall.out.mono ?_
        rintro e w2 ⟨rfl, hB2⟩
        have g0' := hg0.out _ hB2
        have hB2' := hB.trans (hB2.mono (by omega))
        clear hB2 g0
        go_wp2_with fail
        go_roundw
        case rel => exact ⟨k + 1, false, by omega, by go_num, rfl, hnx, hB2'⟩
        case measure => simp [intOf]; omega
      · cases m
        · have hnx : Hid (false = (b0 && (L.take (k + 1)).all goodF)) := by unfold Hid; rw [hstep.out]; simp
          go_wp2_with fail
          refine hcall.out.mono ?_
          rintro e w2 ⟨rfl, hB2⟩
          have g0' := hg0.out _ hB2
          have hB2' := hB.trans (hB2.mono (by omega))
          clear hB2 g0
          go_wp2_with fail
          go_roundw
          case rel => exact ⟨k + 1, false, by omega, by go_num, rfl, hnx, hB2'⟩
          case measure => simp [intOf]; omega
        · have hnx : Hid (decide (0 ≤ p) = (b0 && (L.take (k + 1)).all goodF)) := by unfold Hid; rw [hstep.out]; simp
          go_wp2_with fail
          refine hcall.out.mono ?_
          rintro e w2 ⟨rfl, hB2⟩
          have g0' := hg0.out _ hB2
          have hB2' := hB.trans (hB2.mono (by omega))
          clear hB2 g0
          go_wp2_with fail
          go_roundw
          case rel => exact ⟨k + 1, decide (0 ≤ p), by omega, by go_num, rfl, hnx, hB2'⟩
          case measure => simp [intOf]; omega
    · have e : k = L.length := by omega
      obtain ⟨k0, k1, k2⟩ := hcells'.out _ (hB.mono (by omega))
      have hob2 : Hid (ob = (chkT (.mk s n l) && L.all goodF)) := by unfold Hid; rw [hob.out, e, List.take_length, hb0'.out]
      clear e hob
      cases ob
      · have hT : Hid (applyT L (.mk s n l) = zeroT) := by unfold Hid applyT; rw [← hob2.out]; rfl
        have hrr := Lib.hid (hres'.out wr hB)
        obtain ⟨r0, r1, r2⟩ := cells_of hrr.out
        have rf0 := frozen_of hrr.out 0
        have rf1 := frozen_of hrr.out 1
        have rf2 := frozen_of hrr.out 2
        go_wp2_with fail
        have hU := set_box3 hrr.out (.string ⟨#[]⟩) (.int .i64 0) (.slice none 0 0)
        change bodyPost _ _ _ _ _ (World.box3 wr (w.heap.size + 1) (.string ⟨#[]⟩) (.int .i64 0) (.slice none 0 0))
        generalize World.box3 wr (w.heap.size + 1) (.string ⟨#[]⟩) (.int .i64 0) (.slice none 0 0) = U at hU ⊢
        obtain ⟨⟨u0, u1, u2⟩, hBU, -, hUk⟩ := hU
        clear r0 r1 r2
        refine bodyPost_ret (results_ty rfl _ _ rfl u0 u1 u2) rfl ?_
        exact ⟨_, rfl, by rw [hT.out]; exact zeroT_is _, hwr.out.trans (hBU.mono (by omega))⟩
      · have hT : Hid (applyT L (.mk s n l) = putT L (.mk s n l)) := by unfold Hid applyT; rw [← hob2.out]; rfl
        have hcnt : tcnt (.mk s n l) ≤ 2000 := chk_cnt (by have := hob2.out; simp at this; exact this.1)
        have hput := Lib.hid (r08_put L (.mk s n l) _ (fun c => c = w.heap.size + 1) aL cL wr (TyX.later (KeepsBut.of_below hwr.out) (fun b hb h => by omega) hv0.out) (FaRow.later (KeepsBut.of_below hwr.out) (fun b hb h => by omega) hL'.out) hLl'.out (fun b h => by omega) (by omega))
        go_wp2_with fail
        with_reducible refine hput.out.mono ?_
        rintro e V3 ⟨u, rfl, hu, hB3⟩
        obtain ⟨ua, uc, rfl⟩ := hu.form
        have hu' := Lib.hid hu
        have hbr3 : Below (w.heap.size + 2) W1 V3 := hB.trans (hB3.mono (by omega))
        have hwV3 := Lib.hid (hb1'.out.trans (hbr3.mono (by omega)))
        have hrr := Lib.hid (hres'.out V3 hbr3)
        obtain ⟨r0, r1, r2⟩ := cells_of hrr.out
        have rf0 := frozen_of hrr.out 0
        have rf1 := frozen_of hrr.out 1
        have rf2 := frozen_of hrr.out 2
        clear hu
        generalize (putT L (.mk s n l)).name = us at hu' ⊢
        generalize (putT L (.mk s n l)).n = un at hu' ⊢
        generalize (putT L (.mk s n l)).args.length = um at hu' ⊢
        go_wp2_with fail
        have hU := set_box3 hrr.out (.string us) (.int .i64 un) (.slice ua um uc)
        change bodyPost _ _ _ _ _ (World.box3 V3 (w.heap.size + 1) (.string us) (.int .i64 un) (.slice ua um uc))
        generalize World.box3 V3 (w.heap.size + 1) (.string us) (.int .i64 un) (.slice ua um uc) = U at hU ⊢
        obtain ⟨⟨u0, u1, u2⟩, hBU, -, hUk⟩ := hU
        clear r0 r1 r2
        refine bodyPost_ret (results_ty rfl _ _ rfl u0 u1 u2) rfl ?_
        refine ⟨_, rfl, ?_, hwV3.out.trans (hBU.mono (by omega))⟩
        rw [hT.out]
        exact ty_kept (X := fun _ => False) (hu'.out.less fun b hb => hb.elim (fun h => h.elim) id) hUk
end Go.Proofs.YticjpeefhppjoaaDoor
