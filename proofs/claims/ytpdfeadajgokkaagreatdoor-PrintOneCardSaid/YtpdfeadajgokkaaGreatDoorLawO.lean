/- PrintOne, walked. -/
import Derived.Test.YtpdfeadajgokkaaGreatDoorUni
import Derived.Test.YtpdfeadajgokkaaGreatDoorSame5All
import Derived.Test.YtpdfeadajgokkaaGreatDoorAwake
namespace Go.Proofs.YtpdfeadajgokkaaGreatDoor
open Go.RowKit

theorem box5522 {w V : World} {x0 x1 x2 x3 x4 x5 x6 x7 x8 x9 x10 x11 x12 x13 : Value} {t u : TypeId} (h : Below (w.heap.size + 4) ((((w.alloc (.cells #[x0, x1, x2, x3, x4] t)).alloc (.cells #[x5, x6, x7, x8, x9] t)).alloc (.cells #[x10, x11] u)).alloc (.cells #[x12, x13] u)) V) : V.cell? ⟨w.heap.size, 0, none⟩ = some x0 ∧ V.cell? ⟨w.heap.size, 1, none⟩ = some x1 ∧ V.cell? ⟨w.heap.size, 2, none⟩ = some x2 ∧ V.cell? ⟨w.heap.size, 3, none⟩ = some x3 ∧ V.cell? ⟨w.heap.size, 4, none⟩ = some x4 ∧ V.cell? ⟨w.heap.size + 1, 0, none⟩ = some x5 ∧ V.cell? ⟨w.heap.size + 1, 1, none⟩ = some x6 ∧ V.cell? ⟨w.heap.size + 1, 2, none⟩ = some x7 ∧ V.cell? ⟨w.heap.size + 1, 3, none⟩ = some x8 ∧ V.cell? ⟨w.heap.size + 1, 4, none⟩ = some x9 ∧ V.cell? ⟨w.heap.size + 2, 0, none⟩ = some x10 ∧ V.cell? ⟨w.heap.size + 2, 1, none⟩ = some x11 ∧ V.cell? ⟨w.heap.size + 3, 0, none⟩ = some x12 ∧ V.cell? ⟨w.heap.size + 3, 1, none⟩ = some x13 := by
  have g3 : Below (w.heap.size + 3) (((w.alloc (.cells #[x0, x1, x2, x3, x4] t)).alloc (.cells #[x5, x6, x7, x8, x9] t)).alloc (.cells #[x10, x11] u)) ((((w.alloc (.cells #[x0, x1, x2, x3, x4] t)).alloc (.cells #[x5, x6, x7, x8, x9] t)).alloc (.cells #[x10, x11] u)).alloc (.cells #[x12, x13] u)) := (Below.refl _ _).alloc (by simp) _
  have g2 : Below (w.heap.size + 2) ((w.alloc (.cells #[x0, x1, x2, x3, x4] t)).alloc (.cells #[x5, x6, x7, x8, x9] t)) (((w.alloc (.cells #[x0, x1, x2, x3, x4] t)).alloc (.cells #[x5, x6, x7, x8, x9] t)).alloc (.cells #[x10, x11] u)) := (Below.refl _ _).alloc (by simp) _
  have g1 : Below (w.heap.size + 1) (w.alloc (.cells #[x0, x1, x2, x3, x4] t)) ((w.alloc (.cells #[x0, x1, x2, x3, x4] t)).alloc (.cells #[x5, x6, x7, x8, x9] t)) := (Below.refl _ _).alloc (by simp) _
  have hD' := g3.trans (h.mono (by omega))
  have hC' := g2.trans (hD'.mono (by omega))
  have hA := g1.trans (hC'.mono (by omega))
  have hB : Below ((w.alloc (.cells #[x0, x1, x2, x3, x4] t)).heap.size + 1) ((w.alloc (.cells #[x0, x1, x2, x3, x4] t)).alloc (.cells #[x5, x6, x7, x8, x9] t)) V := hC'.mono (by simp)
  have hC : Below (((w.alloc (.cells #[x0, x1, x2, x3, x4] t)).alloc (.cells #[x5, x6, x7, x8, x9] t)).heap.size + 1) (((w.alloc (.cells #[x0, x1, x2, x3, x4] t)).alloc (.cells #[x5, x6, x7, x8, x9] t)).alloc (.cells #[x10, x11] u)) V := hD'.mono (by simp)
  have hD : Below ((((w.alloc (.cells #[x0, x1, x2, x3, x4] t)).alloc (.cells #[x5, x6, x7, x8, x9] t)).alloc (.cells #[x10, x11] u)).heap.size + 1) ((((w.alloc (.cells #[x0, x1, x2, x3, x4] t)).alloc (.cells #[x5, x6, x7, x8, x9] t)).alloc (.cells #[x10, x11] u)).alloc (.cells #[x12, x13] u)) V := h.mono (by simp)
  have z1 : (w.alloc (.cells #[x0, x1, x2, x3, x4] t)).heap.size = w.heap.size + 1 := by simp
  have z2 : ((w.alloc (.cells #[x0, x1, x2, x3, x4] t)).alloc (.cells #[x5, x6, x7, x8, x9] t)).heap.size = w.heap.size + 2 := by simp
  have z3 : (((w.alloc (.cells #[x0, x1, x2, x3, x4] t)).alloc (.cells #[x5, x6, x7, x8, x9] t)).alloc (.cells #[x10, x11] u)).heap.size = w.heap.size + 3 := by simp
  obtain ⟨q0, q1, q2, q3, q4⟩ := box5 hA
  obtain ⟨q5, q6, q7, q8, q9⟩ := box5 hB
  obtain ⟨q10, q11⟩ := box2 hC
  obtain ⟨q12, q13⟩ := box2 hD
  rw [z1] at q5 q6 q7 q8 q9
  rw [z2] at q10 q11
  rw [z3] at q12 q13
  exact ⟨q0, q1, q2, q3, q4, q5, q6, q7, q8, q9, q10, q11, q12, q13⟩
/-- Two texts are one just if two trees are. -/
theorem cmp_of {α : Type} {S T : Str} {a b : α} (h : bs S = bs T ↔ a = b) : (S.toList == T.toList) = eqB a b := by
  rw [Lib.toList_data, Lib.toList_data]
  by_cases hab : a = b
  · rw [eqB_true hab, beq_iff_eq]; exact h.2 hab
  · rw [eqB_false hab, beq_eq_false_iff_ne]; exact fun e => hab (h.1 e)
theorem bool_cases (b : Bool) : b = true ∨ b = false := by cases b <;> simp

set_option maxHeartbeats 1000000 in
set_option maxRecDepth 100000 in
theorem printOne_c (x y : Ex) (p q : Pg) (vx vy vp vq : Value) (w : World) (hx : IsExT w vx x) (hy : IsEx w vy y) (hp : IsPg w vp p) (hq : IsPg w vq q) :
    Calls Tryz.prog 4 #[vx, vy, vp, vq] w fun r w' => r = .returned (.bool true) ∧ Below w.heap.size w w' := by
  have hx0 := Lib.hid hx
  have hy0 := Lib.hid hy
  have hp0 := Lib.hid hp
  have hq0 := Lib.hid hq
  obtain ⟨k, s, n, l, ks⟩ := x
  obtain ⟨k', s', n', l', ks'⟩ := y
  obtain ⟨ds, fs⟩ := p
  obtain ⟨ds', fs'⟩ := q
  obtain ⟨a1, c1, a2, c2, rfl, _⟩ := hx.1.open
  obtain ⟨a1', c1', a2', c2', rfl, _⟩ := hy.open
  obtain ⟨b1, d1, b2, d2, rfl, _⟩ := hp
  obtain ⟨b1', d1', b2', d2', rfl, _⟩ := hq
  replace hp0 : Hid (IsPg w (.agg #[.slice b1 ds.length d1, .slice b2 fs.length d2]) ⟨ds, fs⟩) := hp0
  replace hq0 : Hid (IsPg w (.agg #[.slice b1' ds'.length d1', .slice b2' fs'.length d2']) ⟨ds', fs'⟩) := hq0
  show Calls Tryz.prog 4 #[(.agg #[.int .i64 k, .string s, .int .i64 n, .slice a1 l.length c1, .slice a2 ks.length c2]), (.agg #[.int .i64 k', .string s', .int .i64 n', .slice a1' l'.length c1', .slice a2' ks'.length c2']), (.agg #[.slice b1 ds.length d1, .slice b2 fs.length d2]), (.agg #[.slice b1' ds'.length d1', .slice b2' fs'.length d2'])] w _
  have ht := Lib.hid hx.2
  obtain ⟨W0, hW0⟩ : ∃ W, ((((w.alloc (.cells #[.int .i64 k, .string s, .int .i64 n, .slice a1 l.length c1, .slice a2 ks.length c2] 40)).alloc (.cells #[.int .i64 k', .string s', .int .i64 n', .slice a1' l'.length c1', .slice a2' ks'.length c2'] 40)).alloc (.cells #[.slice b1 ds.length d1, .slice b2 fs.length d2] 25)).alloc (.cells #[.slice b1' ds'.length d1', .slice b2' fs'.length d2'] 25)) = W := ⟨_, rfl⟩
  have hsz0 : W0.heap.size = w.heap.size + 4 := by rw [← hW0]; simp
  have hbw0 : Below w.heap.size w W0 := by
    rw [← hW0]
    exact (((((Below.refl _ w).alloc (Nat.le_refl _) _).alloc (by simp) _).alloc (by simp; omega) _).alloc (by simp; omega) _)
  have hcells : Hid (∀ V, Below (w.heap.size + 4) W0 V → V.cell? ⟨w.heap.size, 0, none⟩ = some (.int .i64 k) ∧ V.cell? ⟨w.heap.size, 1, none⟩ = some (.string s) ∧ V.cell? ⟨w.heap.size, 2, none⟩ = some (.int .i64 n) ∧ V.cell? ⟨w.heap.size, 3, none⟩ = some (.slice a1 l.length c1) ∧ V.cell? ⟨w.heap.size, 4, none⟩ = some (.slice a2 ks.length c2) ∧ V.cell? ⟨w.heap.size + 1, 0, none⟩ = some (.int .i64 k') ∧ V.cell? ⟨w.heap.size + 1, 1, none⟩ = some (.string s') ∧ V.cell? ⟨w.heap.size + 1, 2, none⟩ = some (.int .i64 n') ∧ V.cell? ⟨w.heap.size + 1, 3, none⟩ = some (.slice a1' l'.length c1') ∧ V.cell? ⟨w.heap.size + 1, 4, none⟩ = some (.slice a2' ks'.length c2') ∧ V.cell? ⟨w.heap.size + 2, 0, none⟩ = some (.slice b1 ds.length d1) ∧ V.cell? ⟨w.heap.size + 2, 1, none⟩ = some (.slice b2 fs.length d2) ∧ V.cell? ⟨w.heap.size + 3, 0, none⟩ = some (.slice b1' ds'.length d1') ∧ V.cell? ⟨w.heap.size + 3, 1, none⟩ = some (.slice b2' fs'.length d2')) := by
    intro V hV
    rw [← hW0] at hV
    exact box5522 hV
  have hbw := Lib.hid hbw0
  have hin : Hid (∀ V, Below (w.heap.size + 4) W0 V → Below w.heap.size w V) := fun V hV => hbw.out.trans (hV.mono (by omega))
  have hsz : Hid (∀ V, Below (w.heap.size + 4) W0 V → w.heap.size + 4 ≤ V.heap.size) := fun V hV => by have := hV.size; omega
  obtain ⟨x, hxe⟩ : ∃ e, Ex.mk k s n l ks = e := ⟨_, rfl⟩
  obtain ⟨y, hye⟩ : ∃ e, Ex.mk k' s' n' l' ks' = e := ⟨_, rfl⟩
  obtain ⟨p, hpe⟩ : ∃ e, Pg.mk ds fs = e := ⟨_, rfl⟩
  obtain ⟨q, hqe⟩ : ∃ e, Pg.mk ds' fs' = e := ⟨_, rfl⟩
  rw [hxe] at hx0
  rw [hye] at hy0
  rw [hpe] at hp0
  rw [hqe] at hq0
  clear hx hy hxe hye hpe hqe hsz0 hbw0
  have hFx : Hid (∀ V, Below (w.heap.size + 4) W0 V → Calls Tryz.prog 12 #[(.agg #[.int .i64 k, .string s, .int .i64 n, .slice a1 l.length c1, .slice a2 ks.length c2])] V fun r V' => r = .returned (.bool (fewB x)) ∧ Below (w.heap.size + 4) W0 V') := by
    intro V hV
    refine (r04_Few x _ V (hx0.out.below (hin.out V hV)).1).mono ?_
    rintro r V2 ⟨hr, hB⟩
    exact ⟨hr, hV.trans (hB.mono (hsz.out V hV))⟩
  have hFy : Hid (∀ V, Below (w.heap.size + 4) W0 V → Calls Tryz.prog 12 #[(.agg #[.int .i64 k', .string s', .int .i64 n', .slice a1' l'.length c1', .slice a2' ks'.length c2'])] V fun r V' => r = .returned (.bool (fewB y)) ∧ Below (w.heap.size + 4) W0 V') := by
    intro V hV
    refine (r04_Few y _ V (hy0.out.keeps (Keeps.of_below (hin.out V hV)))).mono ?_
    rintro r V2 ⟨hr, hB⟩
    exact ⟨hr, hV.trans (hB.mono (hsz.out V hV))⟩
  have hFp : Hid (∀ V, Below (w.heap.size + 4) W0 V → Calls Tryz.prog 6 #[(.agg #[.slice b1 ds.length d1, .slice b2 fs.length d2])] V fun r V' => (∃ b : Bool, r = .returned (.bool b) ∧ (b = true → FewP p)) ∧ Below (w.heap.size + 4) W0 V') := by
    intro V hV
    refine (r_FewProg p _ V (hp0.out.keeps (Keeps.of_below (hin.out V hV)))).mono ?_
    rintro r V2 ⟨b, hr, hb, hB⟩
    exact ⟨⟨b, hr, hb⟩, hV.trans (hB.mono (hsz.out V hV))⟩
  have hFq : Hid (∀ V, Below (w.heap.size + 4) W0 V → Calls Tryz.prog 6 #[(.agg #[.slice b1' ds'.length d1', .slice b2' fs'.length d2'])] V fun r V' => (∃ b : Bool, r = .returned (.bool b) ∧ (b = true → FewP q)) ∧ Below (w.heap.size + 4) W0 V') := by
    intro V hV
    refine (r_FewProg q _ V (hq0.out.keeps (Keeps.of_below (hin.out V hV)))).mono ?_
    rintro r V2 ⟨b, hr, hb, hB⟩
    exact ⟨⟨b, hr, hb⟩, hV.trans (hB.mono (hsz.out V hV))⟩
  have haw : Hid (Calls Tryz.prog 5 #[] W0 fun r V' => r = .returned (.bool true) ∧ Below (w.heap.size + 4) W0 V') := by
    refine (awake_c _ (ht.out.below hbw.out)).mono ?_
    rintro r V2 ⟨hr, hB⟩
    exact ⟨hr, hB.mono (hsz.out _ (Below.refl _ _))⟩
  have hW0' := Lib.hid hW0
  clear hW0
  go_enter Tryz.func4, Tryz.ntmps4
  go_wp2_with fail
  rw [hW0'.out]
  refine haw.out.mono ?_
  rintro r w1 ⟨rfl, hB1⟩
  obtain ⟨k0, k1, k2, k3, k4, k5, k6, k7, k8, k9, k10, k11, k12, k13⟩ := hcells.out _ hB1
  cases hf : fewB x
  · rw [hf] at hFx
    clear hf
    go_wp2_with fail
    refine (hFx.out _ hB1).mono ?_
    rintro r w2 ⟨rfl, hB2⟩
    go_wp2_with fail
    go_ret
    exact ⟨rfl, hin.out _ hB2⟩
  have hfx := Lib.hid hf
  rw [hf] at hFx
  clear hf
  cases hf : fewB y
  · rw [hf] at hFy
    clear hf
    go_wp2_with fail
    refine (hFx.out _ hB1).mono ?_
    rintro r w2 ⟨rfl, hB2⟩
    clear k0 k1 k2 k3 k4 k5 k6 k7 k8 k9 k10 k11 k12 k13 hB1
    obtain ⟨k0, k1, k2, k3, k4, k5, k6, k7, k8, k9, k10, k11, k12, k13⟩ := hcells.out _ hB2
    go_wp2_with fail
    refine (hFy.out _ hB2).mono ?_
    rintro r w3 ⟨rfl, hB3⟩
    go_wp2_with fail
    go_ret
    exact ⟨rfl, hin.out _ hB3⟩
  have hfy := Lib.hid hf
  rw [hf] at hFy
  clear hf
  go_wp2_with fail
  refine (hFx.out _ hB1).mono ?_
  rintro r w2 ⟨rfl, hB2⟩
  clear k0 k1 k2 k3 k4 k5 k6 k7 k8 k9 k10 k11 k12 k13 hB1
  obtain ⟨k0, k1, k2, k3, k4, k5, k6, k7, k8, k9, k10, k11, k12, k13⟩ := hcells.out _ hB2
  go_wp2_with fail
  refine (hFy.out _ hB2).mono ?_
  rintro r w3 ⟨rfl, hB3⟩
  clear k0 k1 k2 k3 k4 k5 k6 k7 k8 k9 k10 k11 k12 k13 hB2
  obtain ⟨k0, k1, k2, k3, k4, k5, k6, k7, k8, k9, k10, k11, k12, k13⟩ := hcells.out _ hB3
  go_wp2_with fail
  refine (hFp.out _ hB3).mono ?_
  rintro r w4 ⟨⟨bp, rfl, hbp⟩, hB4⟩
  clear k0 k1 k2 k3 k4 k5 k6 k7 k8 k9 k10 k11 k12 k13 hB3
  obtain ⟨k0, k1, k2, k3, k4, k5, k6, k7, k8, k9, k10, k11, k12, k13⟩ := hcells.out _ hB4
  cases bp
  · clear hbp
    go_wp2_with fail
    go_ret
    exact ⟨rfl, hin.out _ hB4⟩
  have hfp := Lib.hid (hbp rfl)
  clear hbp
  go_wp2_with fail
  refine (hFq.out _ hB4).mono ?_
  rintro r w5 ⟨⟨bq, rfl, hbq⟩, hB5⟩
  clear k0 k1 k2 k3 k4 k5 k6 k7 k8 k9 k10 k11 k12 k13 hB4
  obtain ⟨k0, k1, k2, k3, k4, k5, k6, k7, k8, k9, k10, k11, k12, k13⟩ := hcells.out _ hB5
  cases bq
  · clear hbq
    go_wp2_with fail
    go_ret
    exact ⟨rfl, hin.out _ hB5⟩
  have hfq := Lib.hid (hbq rfl)
  clear hbq
  clear hFx hFy hFp hFq haw hW0'
  have hin2 : Hid (∀ V, Below (w.heap.size + 4) W0 V → Keeps w V) := fun V hV => Keeps.of_below (hin.out V hV)
  obtain ⟨S, hS⟩ : ∃ z, xprS x = z := ⟨_, rfl⟩
  obtain ⟨N, hN⟩ : ∃ z, xprN x = z := ⟨_, rfl⟩
  obtain ⟨T, hT⟩ : ∃ z, xprS y = z := ⟨_, rfl⟩
  obtain ⟨M, hM⟩ : ∃ z, xprN y = z := ⟨_, rfl⟩
  obtain ⟨X, hX⟩ : ∃ z, prgS p = z := ⟨_, rfl⟩
  obtain ⟨G, hG⟩ : ∃ z, prgN p = z := ⟨_, rfl⟩
  obtain ⟨Y, hY⟩ : ∃ z, prgS q = z := ⟨_, rfl⟩
  obtain ⟨H, hH⟩ : ∃ z, prgN q = z := ⟨_, rfl⟩
  have hXx : Hid (∀ V, Below (w.heap.size + 4) W0 V → Calls Tryz.prog 13 #[(.agg #[.int .i64 k, .string s, .int .i64 n, .slice a1 l.length c1, .slice a2 ks.length c2])] V fun r V' => r = .returned (.tuple #[.string S, .int .i64 N]) ∧ Below (w.heap.size + 4) W0 V') := by
    intro V hV
    refine (hS ▸ hN ▸ print_Expr x _ V (hx0.out.below (hin.out V hV)) (fun hc => Nat.le_trans (few_len hfx.out hx0.out.1 hc) (by omega))).mono ?_
    rintro r V2 ⟨hr, hB⟩
    exact ⟨hr, hV.trans (hB.mono (hsz.out V hV))⟩
  have hXy : Hid (∀ V, Below (w.heap.size + 4) W0 V → Calls Tryz.prog 13 #[(.agg #[.int .i64 k', .string s', .int .i64 n', .slice a1' l'.length c1', .slice a2' ks'.length c2'])] V fun r V' => r = .returned (.tuple #[.string T, .int .i64 M]) ∧ Below (w.heap.size + 4) W0 V') := by
    intro V hV
    refine (hT ▸ hM ▸ print_Expr y _ V ⟨hy0.out.keeps (hin2.out V hV), ht.out.below (hin.out V hV)⟩ (fun hc => Nat.le_trans (few_len hfy.out hy0.out hc) (by omega))).mono ?_
    rintro r V2 ⟨hr, hB⟩
    exact ⟨hr, hV.trans (hB.mono (hsz.out V hV))⟩
  have hPp : Hid (∀ V, Below (w.heap.size + 4) W0 V → Calls Tryz.prog 8 #[(.agg #[.slice b1 ds.length d1, .slice b2 fs.length d2])] V fun r V' => r = .returned (.tuple #[.string X, .int .i64 G]) ∧ Below (w.heap.size + 4) W0 V') := by
    intro V hV
    refine (hX ▸ hG ▸ print_Prog p _ V (hp0.out.keeps (hin2.out V hV)) (ht.out.below (hin.out V hV)) (fun hc => few_prog_len hfp.out hp0.out hc)).mono ?_
    rintro r V2 ⟨hr, hB⟩
    exact ⟨hr, hV.trans (hB.mono (hsz.out V hV))⟩
  have hPq : Hid (∀ V, Below (w.heap.size + 4) W0 V → Calls Tryz.prog 8 #[(.agg #[.slice b1' ds'.length d1', .slice b2' fs'.length d2'])] V fun r V' => r = .returned (.tuple #[.string Y, .int .i64 H]) ∧ Below (w.heap.size + 4) W0 V') := by
    intro V hV
    refine (hY ▸ hH ▸ print_Prog q _ V (hq0.out.keeps (hin2.out V hV)) (ht.out.below (hin.out V hV)) (fun hc => few_prog_len hfq.out hq0.out hc)).mono ?_
    rintro r V2 ⟨hr, hB⟩
    exact ⟨hr, hV.trans (hB.mono (hsz.out V hV))⟩
  have hSm : Hid (∀ V, Below (w.heap.size + 4) W0 V → Calls Tryz.prog 14 #[(.agg #[.int .i64 k, .string s, .int .i64 n, .slice a1 l.length c1, .slice a2 ks.length c2]), (.agg #[.int .i64 k', .string s', .int .i64 n', .slice a1' l'.length c1', .slice a2' ks'.length c2'])] V fun r V' => r = .returned (.bool (eqB x y)) ∧ Below (w.heap.size + 4) W0 V') := by
    intro V hV
    refine (r04_Same x y _ _ V (hx0.out.1.keeps (hin2.out V hV)) (hy0.out.keeps (hin2.out V hV))).mono ?_
    rintro r V2 ⟨hr, hB⟩
    exact ⟨hr, hV.trans (hB.mono (hsz.out V hV))⟩
  have hSp : Hid (∀ V, Below (w.heap.size + 4) W0 V → Calls Tryz.prog 15 #[(.agg #[.slice b1 ds.length d1, .slice b2 fs.length d2]), (.agg #[.slice b1' ds'.length d1', .slice b2' fs'.length d2'])] V fun r V' => r = .returned (.bool (eqB p q)) ∧ Below (w.heap.size + 4) W0 V') := by
    intro V hV
    refine (r_SameP p q _ _ V (hp0.out.keeps (hin2.out V hV)) (hq0.out.keeps (hin2.out V hV))).mono ?_
    rintro r V2 ⟨hr, hB⟩
    exact ⟨hr, hV.trans (hB.mono (hsz.out V hV))⟩
  have hone : Hid (N = 40 ∨ (N = 0 ∧ M = 40) ∨ (N = 0 ∧ M = 0 ∧ (S.toList == T.toList) = eqB x y)) := by
    rw [← hN, ← hM, ← hS, ← hT]
    unfold xprN xprS
    cases h1 : chkB x
    · exact .inl rfl
    cases h2 : chkB y
    · exact .inr (.inl ⟨rfl, rfl⟩)
    · refine .inr (.inr ⟨rfl, rfl, cmp_of ⟨fun h => ?_, fun h => by rw [h]⟩⟩)
      exact text_inj (chk_snd h1) (chk_inner h1) (chk_snd h2) (chk_inner h2) h
  have hprg : Hid (G = 40 ∨ (G = 0 ∧ H = 40) ∨ (G = 0 ∧ H = 0 ∧ (X.toList == Y.toList) = eqB p q)) := by
    rw [← hG, ← hH, ← hX, ← hY]
    unfold prgN prgS
    cases h1 : progB p
    · exact .inl rfl
    cases h2 : progB q
    · exact .inr (.inl ⟨rfl, rfl⟩)
    · refine .inr (.inr ⟨rfl, rfl, cmp_of ⟨fun h => ?_, fun h => by rw [h]⟩⟩)
      exact prog_inj h1 h2 h
  clear hS hN hT hM hX hG hY hH hx0 hy0 hp0 hq0 hfx hfy hfp hfq ht hbw hsz
  go_wp2_with fail
  refine (hXx.out _ hB5).mono ?_
  rintro r w6 ⟨rfl, hB6⟩
  clear k0 k1 k2 k3 k4 k5 k6 k7 k8 k9 k10 k11 k12 k13 hB5 hXx
  obtain ⟨k0, k1, k2, k3, k4, k5, k6, k7, k8, k9, k10, k11, k12, k13⟩ := hcells.out _ hB6
  go_wp2_with fail
  refine (hXy.out _ hB6).mono ?_
  rintro r w7 ⟨rfl, hB7⟩
  clear k0 k1 k2 k3 k4 k5 k6 k7 k8 k9 k10 k11 k12 k13 hB6 hXy
  obtain ⟨k0, k1, k2, k3, k4, k5, k6, k7, k8, k9, k10, k11, k12, k13⟩ := hcells.out _ hB7
  go_wp2_with fail
  refine (hPp.out _ hB7).mono ?_
  rintro r w8 ⟨rfl, hB8⟩
  clear k0 k1 k2 k3 k4 k5 k6 k7 k8 k9 k10 k11 k12 k13 hB7 hPp
  obtain ⟨k0, k1, k2, k3, k4, k5, k6, k7, k8, k9, k10, k11, k12, k13⟩ := hcells.out _ hB8
  go_wp2_with fail
  refine (hPq.out _ hB8).mono ?_
  rintro r w9 ⟨rfl, hB9⟩
  clear k0 k1 k2 k3 k4 k5 k6 k7 k8 k9 k10 k11 k12 k13 hB8 hPq
  obtain ⟨k0, k1, k2, k3, k4, k5, k6, k7, k8, k9, k10, k11, k12, k13⟩ := hcells.out _ hB9
  rcases hone.out with rfl | ⟨rfl, rfl⟩ | ⟨rfl, rfl, hcmp⟩
  · clear hone
    rcases hprg.out with rfl | ⟨rfl, rfl⟩ | ⟨rfl, rfl, hcmp2⟩
    · clear hprg
      have hB10 := hB9
      go_wp2_with fail
      go_ret
      exact ⟨rfl, hin.out _ hB10⟩
    · clear hprg
      have hB10 := hB9
      go_wp2_with fail
      go_ret
      exact ⟨rfl, hin.out _ hB10⟩
    · clear hprg
      rcases bool_cases (eqB p q) with h | h <;> rw [h] at hcmp2 hSp <;> clear h
      · have hB10 := hB9
        go_wp2_with fail
        refine (hSp.out _ hB10).mono ?_
        rintro r w11 ⟨rfl, hB11⟩
        go_wp2_with fail
        go_ret
        exact ⟨rfl, hin.out _ hB11⟩
      · have hB10 := hB9
        go_wp2_with fail
        refine (hSp.out _ hB10).mono ?_
        rintro r w11 ⟨rfl, hB11⟩
        go_wp2_with fail
        go_ret
        exact ⟨rfl, hin.out _ hB11⟩
  · clear hone
    rcases hprg.out with rfl | ⟨rfl, rfl⟩ | ⟨rfl, rfl, hcmp2⟩
    · clear hprg
      have hB10 := hB9
      go_wp2_with fail
      go_ret
      exact ⟨rfl, hin.out _ hB10⟩
    · clear hprg
      have hB10 := hB9
      go_wp2_with fail
      go_ret
      exact ⟨rfl, hin.out _ hB10⟩
    · clear hprg
      rcases bool_cases (eqB p q) with h | h <;> rw [h] at hcmp2 hSp <;> clear h
      · have hB10 := hB9
        go_wp2_with fail
        refine (hSp.out _ hB10).mono ?_
        rintro r w11 ⟨rfl, hB11⟩
        go_wp2_with fail
        go_ret
        exact ⟨rfl, hin.out _ hB11⟩
      · have hB10 := hB9
        go_wp2_with fail
        refine (hSp.out _ hB10).mono ?_
        rintro r w11 ⟨rfl, hB11⟩
        go_wp2_with fail
        go_ret
        exact ⟨rfl, hin.out _ hB11⟩
  · clear hone
    rcases bool_cases (eqB x y) with h | h <;> rw [h] at hcmp hSm <;> clear h
    · rcases hprg.out with rfl | ⟨rfl, rfl⟩ | ⟨rfl, rfl, hcmp2⟩
      · clear hprg
        go_wp2_with fail
        refine (hSm.out _ hB9).mono ?_
        rintro r w10 ⟨rfl, hB10⟩
        clear k0 k1 k2 k3 k4 k5 k6 k7 k8 k9 k10 k11 k12 k13
        obtain ⟨k0, k1, k2, k3, k4, k5, k6, k7, k8, k9, k10, k11, k12, k13⟩ := hcells.out _ hB10
        go_wp2_with fail
        go_ret
        exact ⟨rfl, hin.out _ hB10⟩
      · clear hprg
        go_wp2_with fail
        refine (hSm.out _ hB9).mono ?_
        rintro r w10 ⟨rfl, hB10⟩
        clear k0 k1 k2 k3 k4 k5 k6 k7 k8 k9 k10 k11 k12 k13
        obtain ⟨k0, k1, k2, k3, k4, k5, k6, k7, k8, k9, k10, k11, k12, k13⟩ := hcells.out _ hB10
        go_wp2_with fail
        go_ret
        exact ⟨rfl, hin.out _ hB10⟩
      · clear hprg
        rcases bool_cases (eqB p q) with h | h <;> rw [h] at hcmp2 hSp <;> clear h
        · go_wp2_with fail
          refine (hSm.out _ hB9).mono ?_
          rintro r w10 ⟨rfl, hB10⟩
          clear k0 k1 k2 k3 k4 k5 k6 k7 k8 k9 k10 k11 k12 k13
          obtain ⟨k0, k1, k2, k3, k4, k5, k6, k7, k8, k9, k10, k11, k12, k13⟩ := hcells.out _ hB10
          go_wp2_with fail
          refine (hSp.out _ hB10).mono ?_
          rintro r w11 ⟨rfl, hB11⟩
          go_wp2_with fail
          go_ret
          exact ⟨rfl, hin.out _ hB11⟩
        · go_wp2_with fail
          refine (hSm.out _ hB9).mono ?_
          rintro r w10 ⟨rfl, hB10⟩
          clear k0 k1 k2 k3 k4 k5 k6 k7 k8 k9 k10 k11 k12 k13
          obtain ⟨k0, k1, k2, k3, k4, k5, k6, k7, k8, k9, k10, k11, k12, k13⟩ := hcells.out _ hB10
          go_wp2_with fail
          refine (hSp.out _ hB10).mono ?_
          rintro r w11 ⟨rfl, hB11⟩
          go_wp2_with fail
          go_ret
          exact ⟨rfl, hin.out _ hB11⟩
    · rcases hprg.out with rfl | ⟨rfl, rfl⟩ | ⟨rfl, rfl, hcmp2⟩
      · clear hprg
        go_wp2_with fail
        refine (hSm.out _ hB9).mono ?_
        rintro r w10 ⟨rfl, hB10⟩
        clear k0 k1 k2 k3 k4 k5 k6 k7 k8 k9 k10 k11 k12 k13
        obtain ⟨k0, k1, k2, k3, k4, k5, k6, k7, k8, k9, k10, k11, k12, k13⟩ := hcells.out _ hB10
        go_wp2_with fail
        go_ret
        exact ⟨rfl, hin.out _ hB10⟩
      · clear hprg
        go_wp2_with fail
        refine (hSm.out _ hB9).mono ?_
        rintro r w10 ⟨rfl, hB10⟩
        clear k0 k1 k2 k3 k4 k5 k6 k7 k8 k9 k10 k11 k12 k13
        obtain ⟨k0, k1, k2, k3, k4, k5, k6, k7, k8, k9, k10, k11, k12, k13⟩ := hcells.out _ hB10
        go_wp2_with fail
        go_ret
        exact ⟨rfl, hin.out _ hB10⟩
      · clear hprg
        rcases bool_cases (eqB p q) with h | h <;> rw [h] at hcmp2 hSp <;> clear h
        · go_wp2_with fail
          refine (hSm.out _ hB9).mono ?_
          rintro r w10 ⟨rfl, hB10⟩
          clear k0 k1 k2 k3 k4 k5 k6 k7 k8 k9 k10 k11 k12 k13
          obtain ⟨k0, k1, k2, k3, k4, k5, k6, k7, k8, k9, k10, k11, k12, k13⟩ := hcells.out _ hB10
          go_wp2_with fail
          refine (hSp.out _ hB10).mono ?_
          rintro r w11 ⟨rfl, hB11⟩
          go_wp2_with fail
          go_ret
          exact ⟨rfl, hin.out _ hB11⟩
        · go_wp2_with fail
          refine (hSm.out _ hB9).mono ?_
          rintro r w10 ⟨rfl, hB10⟩
          clear k0 k1 k2 k3 k4 k5 k6 k7 k8 k9 k10 k11 k12 k13
          obtain ⟨k0, k1, k2, k3, k4, k5, k6, k7, k8, k9, k10, k11, k12, k13⟩ := hcells.out _ hB10
          go_wp2_with fail
          refine (hSp.out _ hB10).mono ?_
          rintro r w11 ⟨rfl, hB11⟩
          go_wp2_with fail
          go_ret
          exact ⟨rfl, hin.out _ hB11⟩
end Go.Proofs.YtpdfeadajgokkaaGreatDoor
