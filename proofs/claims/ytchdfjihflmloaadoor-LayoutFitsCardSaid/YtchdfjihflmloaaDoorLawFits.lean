/- LayoutFits: brackets in what was told fit. -/
import Derived.Test.YtchdfjihflmloaaDoorLayH
import Derived.Test.YtchdfjihflmloaaDoorLexTx
namespace Go.Proofs.YtchdfjihflmloaaDoor
open Go.RowKit

/-- The top element of a row. -/
theorem own_top {w : World} {base : Nat} {e : TypeId} {a : Option Addr} {n c : Nat} {xs : List Value} {x : Value} (h : w.ownsRow base e 1 (.slice a (n + 1) c) (n + 1) (xs ++ [x])) : ∃ g, a = some ⟨g, 0, none⟩ ∧ w.cell? ⟨g, n, none⟩ = some x := by
  obtain ⟨hl, ⟨h, _⟩ | ⟨g, cap, cur, hv, hb, hh, hnc, hcm, hsz, htk⟩⟩ := h
  · simp at h
  · simp only [Value.slice.injEq, true_and] at hv
    obtain ⟨rfl, rfl⟩ := hv
    have hxl : xs.length = n := by simpa using hl
    refine ⟨g, rfl, ?_⟩
    have h1 : (xs ++ [x])[n]? = some x := by rw [← hxl]; simp
    rw [← htk, List.getElem?_take] at h1
    split at h1
    · simp [World.cell?, hh]
      simpa using h1
    · cases h1
theorem stepB_id {S : List Bool} {t : Tk} (h1 : keyT t pOpen = false) (h2 : keyT t bOpen = false) (h3 : keyT t pShut = false) (h4 : keyT t bShut = false) : stepB S t = some S := by
  unfold stepB
  rw [if_neg (by rw [h1]; simp), if_neg (by rw [h2]; simp), if_neg (by rw [h3]; simp), if_neg (by rw [h4]; simp)]
def brS (b : Bool) : Str := if b then ⟨#[40]⟩ else ⟨#[123]⟩
def brC (S : List Bool) : List Value := S.reverse.map fun b => .string (brS b)
theorem brC_cons (b : Bool) (S : List Bool) : brC (b :: S) = brC S ++ [.string (brS b)] := by simp [brC]
theorem brC_len (S : List Bool) : (brC S).length = S.length := by simp [brC]

set_option maxHeartbeats 4000000 in
set_option maxRecDepth 100000 in
theorem layoutFits_c (a : Option Addr) (l : List Tk) (cap : Nat) (w : World) (hc : l.length ≤ cap) (ha : a = none → cap = 0) (hrow : TkRow w a l) (hE : RngOk w) (hM : MaxOk w) :
    Calls Tryd.prog 11 #[.slice a l.length cap] w fun e w' => e = .returned (.bool true) ∧ Below w.heap.size w w' := by
  have hup := Lib.hid (lay_awake w hE hM)
  have hrow' := Lib.hid hrow
  have ha' := Lib.hid ha
  clear hE hM hrow ha
  by_cases h5 : 500 < l.length
  · have h5i : (500 : Int) < (l.length : Int) := by omega
    go_enter Tryd.func11, Tryd.ntmps11
    go_wp2_with fail
    refine hup.out.mono ?_
    rintro e V ⟨rfl, hB⟩
    go_wp2_with fail
    go_ret
    exact ⟨rfl, hB⟩
  · have h5i : ¬ (500 : Int) < (l.length : Int) := by omega
    go_enter Tryd.func11, Tryd.ntmps11
    go_wp2_with fail
    refine hup.out.mono ?_
    rintro e V ⟨rfl, hB⟩
    have hbV := Lib.hid hB
    have hlay := Lib.hid (lay_Layout a l cap V (by omega) hc ha'.out (hrow'.out.keeps (Keeps.of_below hB)))
    clear hB
    go_wp2_with fail
    refine hlay.out.mono ?_
    rintro e V1 ⟨hR, hB⟩
    obtain ⟨a1, n1, c1, ts, x, y, er, rfl, hS1, hQ⟩ := LayR_slice hR
    obtain rfl : n1 = ts.length := hS1.at.1
    obtain ⟨W1, hW1⟩ : ∃ W, V1.alloc (.cells #[.int .i64 x, .int .i64 y] 26) = W := ⟨_, rfl⟩
    have hb1 : Below V1.heap.size V1 W1 := by rw [← hW1]; exact (Below.refl _ _).alloc (Nat.le_refl _) _
    have hbW1 := Lib.hid ((hbV.out.trans (hB.mono hbV.out.size)).trans (hb1.mono (hbV.out.trans (hB.mono hbV.out.size)).size))
    have hS2 := Lib.hid (hS1.keeps (Keeps.of_below hb1))
    have hW1' := Lib.hid hW1
    have hQ' := Lib.hid hQ
    clear hW1 hb1 hR hB hS1 hQ
    go_upto_region 5 with (fail)
    rw [hW1'.out]
    cases hF : layF l with
    | bad p q =>
      rw [hF] at hQ'
      obtain ⟨rfl, rfl, rfl, rfl⟩ : ts = [] ∧ x = p ∧ y = q ∧ er = 30 := by have := hQ'.out; simpa [resL] using this
      clear hF
      rw [List.length_nil]
      go_wp2_with fail
      go_ret
      exact ⟨rfl, hbW1.out⟩
    | ok m =>
      rw [hF] at hQ'
      obtain ⟨rfl, rfl, rfl, rfl⟩ : ts = m ∧ x = 0 ∧ y = 0 ∧ er = 0 := by have := hQ'.out; simpa [resL] using this
      have hck : Hid (chkB [] ts = some []) := lay_chk l none true [] ts (fun _ => rfl) hF
      have hle := Lib.hid (lay_len l ts hF)
      have hmx : ts.length ≤ 2500 := by have := lay_max hF; omega
      clear hF
      go_wp2_with fail
      go_loopw [7, 8] (fun v i W => ∃ (k : Nat) (S : List Bool) (va : Option Addr) (vc : Nat), k ≤ ts.length ∧ i = .int .i64 k ∧ v = .slice va S.length vc ∧ S.length ≤ k ∧ Hid (chkB S (ts.drop k) = some []) ∧ Hid (W.ownsRow W1.heap.size 9 1 (.slice va S.length vc) S.length (brC S)) ∧ Hid (Below W1.heap.size W1 W)) (fun _ i _ => ts.length - (intOf i).toNat)
      case atStart => exact ⟨0, [], none, 0, Nat.zero_le _, rfl, rfl, Nat.le_refl _, hck, ⟨rfl, .inl ⟨rfl, rfl⟩⟩, Below.refl _ _⟩
      case round =>
        obtain ⟨k, S, va, vc, hk, rfl, rfl, hSk, hch, hown, hbW⟩ := hrel
        obtain ⟨Wr, rfl⟩ : ∃ W, W = wr := ⟨_, rfl⟩
        by_cases hlt : k < ts.length
        · have hki : (k : Int) < (ts.length : Int) := by omega
          obtain ⟨b, off, rfl, hcell⟩ := (hS2.out.keeps (Keeps.of_below hbW.out)).at.2.2.at (by rintro rfl; simp at hlt)
          obtain ⟨g0, g1, _, _, _⟩ := hcell k hlt
          obtain ⟨t, ht⟩ : ∃ t, ts[k] = t := ⟨_, rfl⟩
          rw [ht] at g0 g1
          have hst : Hid ((stepB S t).bind (fun q => chkB q (ts.drop (k + 1))) = some []) := by
            have h := hch.out
            rw [List.drop_eq_getElem_cons hlt, ht, chkB] at h
            exact h
          clear hcell ht hch
          by_cases h4 : t.kind = 4
          · have k4 : (t.kind != 4) = false := by simpa using h4
            by_cases h40 : t.text = [40]
            · --<40
              have f40 := txt_t h40
              have f123 := txt_f (x := t.text) (s := [123]) (by rw [h40]; decide)
              have f41 := txt_f (x := t.text) (s := [41]) (by rw [h40]; decide)
              have f125 := txt_f (x := t.text) (s := [125]) (by rw [h40]; decide)
              have hs : Hid (chkB (true :: S) (ts.drop (k + 1)) = some []) := by
                have h := hst.out
                have : stepB S t = some (true :: S) := by
                  unfold stepB; rw [if_pos (keyT_t h4 (s := pOpen) h40)]
                rw [this] at h
                exact h
              have hx0 : Hid (tS t.text = brS true) := by unfold Hid; rw [h40]; rfl
              have hb2 : Below Wr.heap.size Wr (Wr.alloc (.cells #[.string (tS t.text)] 9)) := (Below.refl _ _).alloc (Nat.le_refl _) _
              have hown2 := Lib.hid (ownsRow_heap hown.out (w' := Wr.alloc (.cells #[.string (tS t.text)] 9)) fun g hg => hb2.block g (ownBlock_ge hown.out hg).2)
              have hnews : ∀ ad, some (⟨Wr.heap.size, 0, none⟩ : Addr) = some ad → ∀ j u, [Value.string (tS t.text)][j]? = some u → (Wr.alloc (.cells #[.string (tS t.text)] 9)).cell? (ad.add j) = some u := by
                intro ad had
                cases had
                exact Go.cell_one_new _ _ _
              have hnews' := Lib.hid hnews
              have hzW := Lib.hid hbW.out.size
              have hb2' := Lib.hid hb2
              obtain ⟨i0, hi, hz0, hz1', hz2'⟩ := info_of Tryd.infoStr
              have hq1 : S.length + 1 ≤ maxLen := by unfold maxLen; omega
              have hq2 : (S.length + 1) * 16 ≤ 140737488355328 := by omega
              have hq3 : W1.heap.size ≤ (Wr.alloc (.cells #[.string (tS t.text)] 9)).heap.size := Nat.le_trans hzW.out hb2.size
              have hq4 : ∀ u ∈ [Value.string (tS t.text)], u.oneCell' = true := by intro u hu; simp at hu; subst hu; rfl
              have hq1' := Lib.hid hq1
              have hq2' := Lib.hid hq2
              have hq3' := Lib.hid hq3
              have hq4' := Lib.hid hq4
              clear h4 h40 hst hnews hb2 hq1 hq2 hq3 hq4
              go_wp2_with (at_builtin; go_must (refine wpList_append_own_src rfl (Operand.tmp 57) (Operand.tmp 59) 42 rfl W1.heap.size 9 i0 (.string ⟨#[]⟩) 1 16 Tryd.underlying42 hi hz0 hz1' hz2' rfl (by decide) _ _ _ rfl hown2.out (some ⟨Wr.heap.size, 0, none⟩) 1 1 [.string (tS t.text)] rfl (fun e => (nomatch e)) rfl hnews'.out hq4'.out hq1'.out hq2'.out hq3'.out ?_); intro v2 w3 hown3 hg3 _; have hb3 := Lib.hid ((hbW.out.trans (hb2'.out.mono hzW.out)).grown hg3 hq3'.out (fun q e => (ownBlock_ge hown2.out e).1)); obtain ⟨va2, vc2, rfl, _⟩ := tk_own_form hown3; have hown3' := Lib.hid hown3; clear hown3 hg3)
              go_roundw
              case rel => exact ⟨k + 1, true :: S, va2, vc2, by omega, by go_num, by simp, by simp; omega, hs, by have h := hown3'.out; rw [hx0.out, ← brC_cons] at h; exact h, hb3⟩
              case measure => simp [intOf]; omega
            · by_cases h123 : t.text = [123]
              · --<123
                have f123 := txt_t h123
                have f40 := txt_f (x := t.text) (s := [40]) (by rw [h123]; decide)
                have f41 := txt_f (x := t.text) (s := [41]) (by rw [h123]; decide)
                have f125 := txt_f (x := t.text) (s := [125]) (by rw [h123]; decide)
                have hs : Hid (chkB (false :: S) (ts.drop (k + 1)) = some []) := by
                  have h := hst.out
                  have : stepB S t = some (false :: S) := by
                    unfold stepB; rw [if_neg (by rw [keyT_x (s := pOpen) (by rw [h123]; decide)]; simp), if_pos (keyT_t h4 (s := bOpen) h123)]
                  rw [this] at h
                  exact h
                have hx0 : Hid (tS t.text = brS false) := by unfold Hid; rw [h123]; rfl
                have hb2 : Below Wr.heap.size Wr (Wr.alloc (.cells #[.string (tS t.text)] 9)) := (Below.refl _ _).alloc (Nat.le_refl _) _
                have hown2 := Lib.hid (ownsRow_heap hown.out (w' := Wr.alloc (.cells #[.string (tS t.text)] 9)) fun g hg => hb2.block g (ownBlock_ge hown.out hg).2)
                have hnews : ∀ ad, some (⟨Wr.heap.size, 0, none⟩ : Addr) = some ad → ∀ j u, [Value.string (tS t.text)][j]? = some u → (Wr.alloc (.cells #[.string (tS t.text)] 9)).cell? (ad.add j) = some u := by
                  intro ad had
                  cases had
                  exact Go.cell_one_new _ _ _
                have hnews' := Lib.hid hnews
                have hzW := Lib.hid hbW.out.size
                have hb2' := Lib.hid hb2
                obtain ⟨i0, hi, hz0, hz1', hz2'⟩ := info_of Tryd.infoStr
                have hq1 : S.length + 1 ≤ maxLen := by unfold maxLen; omega
                have hq2 : (S.length + 1) * 16 ≤ 140737488355328 := by omega
                have hq3 : W1.heap.size ≤ (Wr.alloc (.cells #[.string (tS t.text)] 9)).heap.size := Nat.le_trans hzW.out hb2.size
                have hq4 : ∀ u ∈ [Value.string (tS t.text)], u.oneCell' = true := by intro u hu; simp at hu; subst hu; rfl
                have hq1' := Lib.hid hq1
                have hq2' := Lib.hid hq2
                have hq3' := Lib.hid hq3
                have hq4' := Lib.hid hq4
                clear h4 h123 hst hnews hb2 hq1 hq2 hq3 hq4
                go_wp2_with (at_builtin; go_must (refine wpList_append_own_src rfl (Operand.tmp 57) (Operand.tmp 59) 42 rfl W1.heap.size 9 i0 (.string ⟨#[]⟩) 1 16 Tryd.underlying42 hi hz0 hz1' hz2' rfl (by decide) _ _ _ rfl hown2.out (some ⟨Wr.heap.size, 0, none⟩) 1 1 [.string (tS t.text)] rfl (fun e => (nomatch e)) rfl hnews'.out hq4'.out hq1'.out hq2'.out hq3'.out ?_); intro v2 w3 hown3 hg3 _; have hb3 := Lib.hid ((hbW.out.trans (hb2'.out.mono hzW.out)).grown hg3 hq3'.out (fun q e => (ownBlock_ge hown2.out e).1)); obtain ⟨va2, vc2, rfl, _⟩ := tk_own_form hown3; have hown3' := Lib.hid hown3; clear hown3 hg3)
                go_roundw
                case rel => exact ⟨k + 1, false :: S, va2, vc2, by omega, by go_num, by simp, by simp; omega, hs, by have h := hown3'.out; rw [hx0.out, ← brC_cons] at h; exact h, hb3⟩
                case measure => simp [intOf]; omega
              · by_cases h41 : t.text = [41]
                · --<41
                  have f41 := txt_t h41
                  have f40 := txt_f (x := t.text) (s := [40]) (by rw [h41]; decide)
                  have f123 := txt_f (x := t.text) (s := [123]) (by rw [h41]; decide)
                  have hpp : ∃ S', S = true :: S' ∧ chkB S' (ts.drop (k + 1)) = some [] := by
                    have h := hst.out
                    have : stepB S t = popB true S := by unfold stepB; rw [if_neg (by rw [keyT_x (s := pOpen) (by rw [h41]; decide)]; simp), if_neg (by rw [keyT_x (s := bOpen) (by rw [h41]; decide)]; simp), if_pos (keyT_t h4 (s := pShut) h41)]
                    rw [this] at h
                    cases S with
                    | nil => cases h
                    | cons y S' =>
                      by_cases hy : y = true
                      · subst hy
                        rw [popB, if_pos rfl] at h
                        exact ⟨S', rfl, h⟩
                      · rw [popB, if_neg hy] at h
                        cases h
                  obtain ⟨S', rfl, hs⟩ := hpp
                  have hs' := Lib.hid hs
                  have hown1 := hown.out
                  rw [brC_cons, List.length_cons] at hown1
                  obtain ⟨g, rfl, hc0⟩ := own_top hown1
                  have hc1 : Wr.cell? ⟨g, S'.length, none⟩ = some (.string ⟨#[40]⟩) := hc0
                  have hls := Lib.hid (own_less hown1)
                  have hvc : S'.length + 1 ≤ vc := by
                    obtain ⟨_, _, he, _, h⟩ := tk_own_form hown1
                    simp at he
                    omega
                  have u1 : (ByteArray.toList ⟨#[40]⟩ == [40]) = true := by rw [toL]; rfl
                  have hw : IntKind.i64.wrap (S'.length : Int) = (S'.length : Int) := IntWalk.i64_in _ (by rw [List.length_cons] at hSk; omega)
                  have hlz : ((S'.length : Int) + 1 == 0) = false := beq_eq_false_iff_ne.2 (by omega)
                  have hS5 : S'.length + 1 ≤ k := by rw [List.length_cons] at hSk; exact hSk
                  rw [List.length_cons]
                  clear h4 h41 hst hs hown1 hc0 hown hSk
                  go_wp2_with fail
                  go_roundw
                  case rel => exact ⟨k + 1, S', some ⟨g, 0, none⟩, vc, by omega, by go_num, by simp, by omega, hs', hls, hbW⟩
                  case measure => simp [intOf]; omega
                · by_cases h125 : t.text = [125]
                  · --<125
                    have f125 := txt_t h125
                    have f40 := txt_f (x := t.text) (s := [40]) (by rw [h125]; decide)
                    have f123 := txt_f (x := t.text) (s := [123]) (by rw [h125]; decide)
                    have f41 := txt_f (x := t.text) (s := [41]) (by rw [h125]; decide)
                    have hpp : ∃ S', S = false :: S' ∧ chkB S' (ts.drop (k + 1)) = some [] := by
                      have h := hst.out
                      have : stepB S t = popB false S := by unfold stepB; rw [if_neg (by rw [keyT_x (s := pOpen) (by rw [h125]; decide)]; simp), if_neg (by rw [keyT_x (s := bOpen) (by rw [h125]; decide)]; simp), if_neg (by rw [keyT_x (s := pShut) (by rw [h125]; decide)]; simp), if_pos (keyT_t h4 (s := bShut) h125)]
                      rw [this] at h
                      cases S with
                      | nil => cases h
                      | cons y S' =>
                        by_cases hy : y = false
                        · subst hy
                          rw [popB, if_pos rfl] at h
                          exact ⟨S', rfl, h⟩
                        · rw [popB, if_neg hy] at h
                          cases h
                    obtain ⟨S', rfl, hs⟩ := hpp
                    have hs' := Lib.hid hs
                    have hown1 := hown.out
                    rw [brC_cons, List.length_cons] at hown1
                    obtain ⟨g, rfl, hc0⟩ := own_top hown1
                    have hc1 : Wr.cell? ⟨g, S'.length, none⟩ = some (.string ⟨#[123]⟩) := hc0
                    have hls := Lib.hid (own_less hown1)
                    have hvc : S'.length + 1 ≤ vc := by
                      obtain ⟨_, _, he, _, h⟩ := tk_own_form hown1
                      simp at he
                      omega
                    have u1 : (ByteArray.toList ⟨#[123]⟩ == [40]) = false := by rw [toL]; rfl
                    have hw : IntKind.i64.wrap (S'.length : Int) = (S'.length : Int) := IntWalk.i64_in _ (by rw [List.length_cons] at hSk; omega)
                    have hlz : ((S'.length : Int) + 1 == 0) = false := beq_eq_false_iff_ne.2 (by omega)
                    have hS5 : S'.length + 1 ≤ k := by rw [List.length_cons] at hSk; exact hSk
                    rw [List.length_cons]
                    clear h4 h125 hst hs hown1 hc0 hown hSk
                    go_wp2_with fail
                    go_roundw
                    case rel => exact ⟨k + 1, S', some ⟨g, 0, none⟩, vc, by omega, by go_num, by simp, by omega, hs', hls, hbW⟩
                    case measure => simp [intOf]; omega
                  · have e1 := txt_f h40
                    have e2 := txt_f h123
                    have e3 := txt_f h41
                    have e4 := txt_f h125
                    have hs : Hid (chkB S (ts.drop (k + 1)) = some []) := by
                      have h := hst.out
                      have : stepB S t = some S := stepB_id (keyT_x h40) (keyT_x h123) (keyT_x h41) (keyT_x h125)
                      rw [this] at h
                      exact h
                    clear h4 h40 h123 h41 h125 hst
                    go_wp2_with fail
                    go_roundw
                    case rel => exact ⟨k + 1, S, va, vc, by omega, by go_num, rfl, by omega, hs, hown, hbW⟩
                    case measure => simp [intOf]; omega
          · have k4 : (t.kind != 4) = true := by simpa using h4
            have hs : Hid (chkB S (ts.drop (k + 1)) = some []) := by
              have h := hst.out
              have : stepB S t = some S := stepB_id (keyT_k h4) (keyT_k h4) (keyT_k h4) (keyT_k h4)
              rw [this] at h
              exact h
            clear h4 hst
            go_wp2_with fail
            go_roundw
            case rel => exact ⟨k + 1, S, va, vc, by omega, by go_num, rfl, by omega, hs, hown, hbW⟩
            case measure => simp [intOf]; omega
        · obtain rfl : k = ts.length := by omega
          have hS0 : S = [] := by
            have h := hch.out
            rw [List.drop_length, chkB] at h
            simpa using h
          subst hS0
          have hgt : (decide (0 < l.length) == decide (0 < ts.length)) = true := by
            rw [beq_iff_eq, decide_eq_decide]
            exact hle.out
          have hbb := Lib.hid (hbW1.out.trans (hbW.out.mono hbW1.out.size))
          rw [List.length_nil]
          go_wp2_with fail
          go_ret
          exact ⟨rfl, hbb.out⟩
theorem layoutFits_v (v : Value) (l : List Tk) (w : World) (h : TkSl w v l) (hE : RngOk w) (hM : MaxOk w) :
    Calls Tryd.prog 11 #[v] w fun e w' => e = .returned (.bool true) ∧ Below w.heap.size w w' := by
  obtain ⟨a, c, rfl, ⟨ha, hc⟩, hr⟩ := h
  exact layoutFits_c a l c w hc ha hr hE hM
end Go.Proofs.YtchdfjihflmloaaDoor
