/- LayoutPlain: what has its brackets stays as it is. -/
import Derived.Test.YtchdfjihflmloaaDoorLayH
namespace Go.Proofs.YtchdfjihflmloaaDoor
open Go.RowKit

set_option maxHeartbeats 4000000 in
set_option maxRecDepth 100000 in
theorem layoutPlain_c (a : Option Addr) (l : List Tk) (cap : Nat) (w : World) (hc : l.length ≤ cap) (ha : a = none → cap = 0) (hrow : TkRow w a l) (hE : RngOk w) (hM : MaxOk w) :
    Calls Tryd.prog 13 #[.slice a l.length cap] w fun e w' => e = .returned (.bool true) ∧ Below w.heap.size w w' := by
  have hup := Lib.hid (lay_awake w hE hM)
  have hrow' := Lib.hid hrow
  have ha' := Lib.hid ha
  clear hE hM hrow ha
  cases l with
  | nil =>
    rw [List.length_nil]
    go_enter Tryd.func13, Tryd.ntmps13
    go_wp2_with fail
    refine hup.out.mono ?_
    rintro e V ⟨rfl, hB⟩
    go_wp2_with fail
    go_ret
    exact ⟨rfl, hB⟩
  | cons t0 r =>
    obtain ⟨l, hl⟩ : ∃ l, t0 :: r = l := ⟨_, rfl⟩
    have hh : l.head? = some t0 := by rw [← hl]; rfl
    rw [hl] at hc hrow' ⊢
    have hpos : 0 < l.length := by rw [← hl]; simp
    have h0 : l[0] = t0 := by subst hl; rfl
    clear hl
    have hlz : ((l.length : Int) == 0) = false := beq_eq_false_iff_ne.2 (by omega)
    by_cases h5 : 500 < l.length
    · have h5i : (500 : Int) < (l.length : Int) := by omega
      go_enter Tryd.func13, Tryd.ntmps13
      go_wp2_with fail
      refine hup.out.mono ?_
      rintro e V ⟨rfl, hB⟩
      go_wp2_with fail
      go_ret
      exact ⟨rfl, hB⟩
    · have h5i : decide ((500 : Int) < (l.length : Int)) = false := decide_eq_false (by omega)
      obtain ⟨b, off, rfl, hcell⟩ := hrow'.out.at (by rintro rfl; simp at hpos)
      have hc0 := hcell 0 hpos
      rw [h0] at hc0
      simp only [Nat.zero_mul, Nat.add_zero] at hc0
      have hcell' := Lib.hid hcell
      have hc0' := Lib.hid hc0
      clear hcell hc0
      have hkp := fun (W : World) (hB : Below w.heap.size w W) => (⟨Keeps.of_below hB _ _ hc0'.out.1, Keeps.of_below hB _ _ hc0'.out.2.1⟩ : W.cell? ⟨b, off, none⟩ = some (.int .i64 t0.kind) ∧ W.cell? ⟨b, off + 1, none⟩ = some (.string (tS t0.text)))
      have hkp' := Lib.hid hkp
      clear hkp
      by_cases hk4 : t0.kind = 4
      · by_cases ht4 : t0.text = bOpen
        · have hkb : Hid (keyT t0 bOpen = true) := keyT_t hk4 ht4
          have k1 : (t0.kind != 4) = false := by simpa using hk4
          have k2 : ((tS t0.text).toList == [123]) = true := txt_t ht4
          clear hk4 ht4
          go_enter Tryd.func13, Tryd.ntmps13
          go_wp2_with fail
          refine hup.out.mono ?_
          rintro e V ⟨rfl, hB⟩
          obtain ⟨g0, g1⟩ := hkp'.out V hB
          have hbV := Lib.hid hB
          clear hB
          go_wp2_with fail
          go_loopw [4] (fun n W => ∃ k : Nat, k ≤ l.length ∧ n = .int .i64 k ∧ W = V ∧ Hid (∀ i (hi : i < k) (h1 : i < l.length), blockT l[i] = true → ∃ h : i + 1 < l.length, keyT l[i + 1] bOpen = true)) (fun n _ => l.length - (intOf n).toNat)
          case atStart => exact ⟨0, by omega, rfl, rfl, fun i hi => by omega⟩
          case round =>
            obtain ⟨k, hk, rfl, rfl, hall⟩ := hrel
            clear g0 g1
            have hcV := Lib.hid (fun (i : Nat) (hi : i < l.length) => (⟨Keeps.of_below hbV.out _ _ (hcell'.out i hi).1, Keeps.of_below hbV.out _ _ (hcell'.out i hi).2.1⟩ : wr.cell? ⟨b, off + i * 5, none⟩ = some (.int .i64 l[i].kind) ∧ wr.cell? ⟨b, off + i * 5 + 1, none⟩ = some (.string (tS l[i].text))))
            by_cases hlt : k < l.length
            · have hki : (k : Int) < (l.length : Int) := by omega
              obtain ⟨g0, g1⟩ := hcV.out k hlt
              obtain ⟨t, ht⟩ : ∃ t, l[k] = t := ⟨_, rfl⟩
              rw [ht] at g0 g1
              have ht' := Lib.hid ht
              clear ht
              go_upto_region 7 with (fail)
              go_cut [5] from 39 to 68 (fun x W => x = .bool (blockT t) ∧ W = wr)
              case first =>
                by_cases h4 : t.kind = 4
                · have k4 : (t.kind == 4) = true := by simpa using h4
                  by_cases ha : t.text = [111, 102]
                  · have e1 := txt_t ha
                    have hbl : Hid (blockT t = true) := by unfold Hid blockT blockW; simp [h4, ha]
                    clear h4 ha
                    go_wp2_with fail
                    go_meet
                    case rel => exact ⟨by rw [hbl.out], rfl⟩
                  · have e1 := txt_f ha
                    by_cases hb : t.text = [100, 111]
                    · have e2 := txt_t hb
                      have hbl : Hid (blockT t = true) := by unfold Hid blockT blockW; simp [h4, hb]
                      clear h4 ha hb
                      go_wp2_with fail
                      go_meet
                      case rel => exact ⟨by rw [hbl.out], rfl⟩
                    · have e2 := txt_f hb
                      by_cases hc : t.text = [100, 111, 115]
                      · have e3 := txt_t hc
                        have hbl : Hid (blockT t = true) := by unfold Hid blockT blockW; simp [h4, hc]
                        clear h4 ha hb hc
                        go_wp2_with fail
                        go_meet
                        case rel => exact ⟨by rw [hbl.out], rfl⟩
                      · have e3 := txt_f hc
                        have hbl : Hid (blockT t = false) := by unfold Hid blockT blockW; simp [h4, ha, hb, hc]
                        clear h4 ha hb hc
                        go_wp2_with fail
                        go_meet
                        case rel => exact ⟨by rw [hbl.out], rfl⟩
                · have k4 : (t.kind == 4) = false := by simpa using h4
                  have hbl : Hid (blockT t = false) := by unfold Hid blockT; simp [h4]
                  clear h4
                  go_wp2_with fail
                  go_meet
                  case rel => exact ⟨by rw [hbl.out], rfl⟩
              case rest =>
              obtain ⟨rfl, rfl⟩ := hcut
              obtain ⟨bt, hbt⟩ : ∃ x, blockT t = x := ⟨_, rfl⟩
              rw [hbt]
              have hbt' := Lib.hid hbt
              clear hbt
              have hw : IntKind.i64.wrap ((k : Int) + 1) = (k : Int) + 1 := IntWalk.i64_in _ (by omega)
              cases bt with
              | false =>
                go_wp2_with fail
                go_roundw
                case rel => exact ⟨k + 1, by omega, by go_num, trivial, fun i hi h1 hb => by
                  rcases Nat.lt_or_ge i k with h | h
                  · exact hall.out i h h1 hb
                  · obtain rfl : i = k := by omega
                    rw [ht'.out, hbt'.out] at hb; cases hb⟩
                case measure => simp [intOf]; omega
              | true =>
                by_cases hl1 : k + 1 = l.length
                · have hle : ((k : Int) + 1 == (l.length : Int)) = true := by simp; omega
                  go_wp2_with fail
                  go_ret
                  exact ⟨rfl, hbV.out⟩
                · have hle : ((k : Int) + 1 == (l.length : Int)) = false := beq_eq_false_iff_ne.2 (by omega)
                  have hki1 : (k : Int) + 1 < (l.length : Int) := by omega
                  have hk1 : k + 1 < l.length := by omega
                  obtain ⟨u0, u1⟩ := hcV.out (k + 1) (by omega)
                  obtain ⟨u, hu⟩ : ∃ u, l[k + 1]'(by omega) = u := ⟨_, rfl⟩
                  rw [hu] at u0 u1
                  have hu' := Lib.hid hu
                  clear hu g0 g1 hl1
                  by_cases h4 : u.kind = 4
                  · have k4 : (u.kind != 4) = false := by simpa using h4
                    by_cases hx : u.text = bOpen
                    · have e1 : ((tS u.text).toList == [123]) = true := txt_t hx
                      have hku : Hid (keyT u bOpen = true) := keyT_t h4 hx
                      clear h4 hx
                      go_wp2_with fail
                      go_roundw
                      case rel => exact ⟨k + 1, by omega, by go_num, trivial, fun i hi h1 hb => by
                        rcases Nat.lt_or_ge i k with h | h
                        · exact hall.out i h h1 hb
                        · obtain rfl : i = k := by omega
                          exact ⟨hk1, by rw [hu'.out]; exact hku.out⟩⟩
                      case measure => simp [intOf]; omega
                    · have e1 : ((tS u.text).toList == [123]) = false := txt_f hx
                      clear h4 hx
                      go_wp2_with fail
                      go_ret
                      exact ⟨rfl, hbV.out⟩
                  · have k4 : (u.kind != 4) = true := by simpa using h4
                    clear h4
                    go_wp2_with fail
                    go_ret
                    exact ⟨rfl, hbV.out⟩
            · obtain rfl : k = l.length := by omega
              have hpl : Hid (plainL l) := plainL_of l fun i hi hb => hall.out i hi hi hb
              clear hall hcV
              have hlay := Lib.hid (lay_Layout (some ⟨b, off, none⟩) l cap wr (by omega) hc ha'.out (hrow'.out.keeps (Keeps.of_below hbV.out)))
              go_wp2_with fail
              refine hlay.out.mono ?_
              rintro e V1 ⟨hR, hB⟩
              obtain ⟨a1, n1, c1, ts, x, y, er, rfl, hS1, hQ⟩ := LayR_slice hR
              obtain rfl : n1 = ts.length := hS1.at.1
              obtain ⟨W1, hW1⟩ : ∃ W, V1.alloc (.cells #[.int .i64 x, .int .i64 y] 26) = W := ⟨_, rfl⟩
              have hb1 : Below V1.heap.size V1 W1 := by rw [← hW1]; exact (Below.refl _ _).alloc (Nat.le_refl _) _
              have hbW1 := Lib.hid ((hbV.out.trans (hB.mono hbV.out.size)).trans (hb1.mono (hbV.out.trans (hB.mono hbV.out.size)).size))
              have hS2 := Lib.hid (hS1.keeps (Keeps.of_below hb1))
              have hW1' := Lib.hid hW1
              have hQ' := Lib.hid hQ
              clear hW1 hb1 hR hB hS1 hQ
              go_upto_region 11 with (fail)
              rw [hW1'.out]
              cases hF : layF l with
              | bad p q =>
                rw [hF] at hQ'
                obtain ⟨rfl, rfl, rfl, rfl⟩ : ts = [] ∧ x = p ∧ y = q ∧ er = 30 := by have := hQ'.out; simpa [resL] using this
                clear hF
                rw [List.length_nil]
                go_wp2_with fail
                go_ret
                exact ⟨rfl, hbW1.out⟩
              | ok m =>
                rw [hF] at hQ'
                obtain ⟨rfl, rfl, rfl, rfl⟩ : ts = m ∧ x = 0 ∧ y = 0 ∧ er = 0 := by have := hQ'.out; simpa [resL] using this
                obtain rfl : ts = l := lay_plain l none true [] ts hpl.out (fun c h => (nomatch h)) (fun _ => ⟨by rintro rfl; simp at hpos, fun t ht => by rw [hh] at ht; cases ht; exact hkb.out⟩) hF
                clear hF
                have hsm := r02_Same _ _ ts ts W1 hS2.out ⟨_, cap, rfl, ⟨ha'.out, hc⟩, hrow'.out.keeps (Keeps.of_below hbW1.out)⟩ (by omega) (by omega)
                rw [decide_eq_true rfl] at hsm
                have hsm' := Lib.hid hsm
                clear hsm
                go_wp2_with fail
                refine hsm'.out.mono ?_
                rintro e V3 ⟨rfl, hB⟩
                have hbV3 := Lib.hid (hbW1.out.trans (hB.mono hbW1.out.size))
                clear hB
                go_wp2_with fail
                go_ret
                exact ⟨rfl, hbV3.out⟩
        · have k1 : (t0.kind != 4) = false := by simpa using hk4
          have k2 : ((tS t0.text).toList == [123]) = false := txt_f ht4
          clear hk4 ht4
          go_enter Tryd.func13, Tryd.ntmps13
          go_wp2_with fail
          refine hup.out.mono ?_
          rintro e V ⟨rfl, hB⟩
          obtain ⟨g0, g1⟩ := hkp'.out V hB
          go_wp2_with fail
          go_ret
          exact ⟨rfl, hB⟩
      · have k1 : (t0.kind != 4) = true := by simpa using hk4
        clear hk4
        go_enter Tryd.func13, Tryd.ntmps13
        go_wp2_with fail
        refine hup.out.mono ?_
        rintro e V ⟨rfl, hB⟩
        obtain ⟨g0, g1⟩ := hkp'.out V hB
        go_wp2_with fail
        go_ret
        exact ⟨rfl, hB⟩
theorem layoutPlain_v (v : Value) (l : List Tk) (w : World) (h : TkSl w v l) (hE : RngOk w) (hM : MaxOk w) :
    Calls Tryd.prog 13 #[v] w fun e w' => e = .returned (.bool true) ∧ Below w.heap.size w w' := by
  obtain ⟨a, c, rfl, ⟨ha, hc⟩, hr⟩ := h
  exact layoutPlain_c a l c w hc ha hr hE hM
end Go.Proofs.YtchdfjihflmloaaDoor
