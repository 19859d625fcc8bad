/- PrintProgs, walked. -/
import Derived.Test.YtpdfeadajgokkaaGreatDoorRpg
import Derived.Test.YtpdfeadajgokkaaGreatDoorAwake
namespace Go.Proofs.YtpdfeadajgokkaaGreatDoor
open Go.RowKit

theorem box22 {w V : World} {x0 x1 y0 y1 : Value} {t u : TypeId} (h : Below (w.heap.size + 2) ((w.alloc (.cells #[x0, x1] t)).alloc (.cells #[y0, y1] u)) V) : V.cell? ⟨w.heap.size, 0, none⟩ = some x0 ∧ V.cell? ⟨w.heap.size, 1, none⟩ = some x1 ∧ V.cell? ⟨w.heap.size + 1, 0, none⟩ = some y0 ∧ V.cell? ⟨w.heap.size + 1, 1, none⟩ = some y1 := by
  have g1 : Below (w.heap.size + 1) (w.alloc (.cells #[x0, x1] t)) ((w.alloc (.cells #[x0, x1] t)).alloc (.cells #[y0, y1] u)) := (Below.refl _ _).alloc (by simp) _
  have hA := g1.trans (h.mono (by omega))
  have hB : Below ((w.alloc (.cells #[x0, x1] t)).heap.size + 1) ((w.alloc (.cells #[x0, x1] t)).alloc (.cells #[y0, y1] u)) V := h.mono (by simp)
  have z1 : (w.alloc (.cells #[x0, x1] t)).heap.size = w.heap.size + 1 := by simp
  obtain ⟨q0, q1⟩ := box2 hA
  obtain ⟨q2, q3⟩ := box2 hB
  rw [z1] at q2 q3
  exact ⟨q0, q1, q2, q3⟩

set_option maxHeartbeats 1000000 in
set_option maxRecDepth 100000 in
theorem printProgs_c (p : Pg) (s : Sg) (vp vs : Value) (w : World) (hp : IsPg w vp p) (hs : IsSg w vs s) (ht : Tab w) :
    Calls Tryz.prog 3 #[vp, vs] w fun r w' => r = .returned (.bool true) ∧ Below w.heap.size w w' := by
  have hp0 := Lib.hid hp
  have hs0 := Lib.hid hs
  obtain ⟨ds, fs⟩ := p
  obtain ⟨nm, l⟩ := s
  obtain ⟨b1, d1, b2, d2, rfl, _⟩ := hp
  obtain ⟨a1, c1, rfl, _⟩ := hs.open
  replace hp0 : Hid (IsPg w (.agg #[.slice b1 ds.length d1, .slice b2 fs.length d2]) ⟨ds, fs⟩) := hp0
  show Calls Tryz.prog 3 #[(.agg #[.slice b1 ds.length d1, .slice b2 fs.length d2]), (.agg #[.string nm, .slice a1 l.length c1])] w _
  have ht' := Lib.hid ht
  obtain ⟨W0, hW0⟩ : ∃ W, ((w.alloc (.cells #[.slice b1 ds.length d1, .slice b2 fs.length d2] 25)).alloc (.cells #[.string nm, .slice a1 l.length c1] 28)) = W := ⟨_, rfl⟩
  have hsz0 : W0.heap.size = w.heap.size + 2 := by rw [← hW0]; simp
  have hbw0 : Below w.heap.size w W0 := by
    rw [← hW0]
    exact (((Below.refl _ w).alloc (Nat.le_refl _) _).alloc (by simp) _)
  have hcells : Hid (∀ V, Below (w.heap.size + 2) W0 V → Below (w.heap.size + 2) W0 V ∧ V.cell? ⟨w.heap.size, 0, none⟩ = some (.slice b1 ds.length d1) ∧ V.cell? ⟨w.heap.size, 1, none⟩ = some (.slice b2 fs.length d2) ∧ V.cell? ⟨w.heap.size + 1, 0, none⟩ = some (.string nm) ∧ V.cell? ⟨w.heap.size + 1, 1, none⟩ = some (.slice a1 l.length c1)) := by
    intro V hV
    refine ⟨hV, ?_⟩
    rw [← hW0] at hV
    exact box22 hV
  have hbw := Lib.hid hbw0
  have hin : Hid (∀ V, Below (w.heap.size + 2) W0 V → Below w.heap.size w V) := fun V hV => hbw.out.trans (hV.mono (by omega))
  have hsz : Hid (∀ V, Below (w.heap.size + 2) W0 V → w.heap.size + 2 ≤ V.heap.size) := fun V hV => by have := hV.size; omega
  obtain ⟨p, hpe⟩ : ∃ e, Pg.mk ds fs = e := ⟨_, rfl⟩
  obtain ⟨s, hse⟩ : ∃ e, Sg.mk nm l = e := ⟨_, rfl⟩
  rw [hpe] at hp0
  rw [hse] at hs0
  clear hs ht hpe hse hsz0 hbw0
  have hFp : Hid (∀ V, Below (w.heap.size + 2) W0 V → Calls Tryz.prog 6 #[(.agg #[.slice b1 ds.length d1, .slice b2 fs.length d2])] V fun r V' => (∃ b : Bool, r = .returned (.bool b) ∧ (b = true → FewP p)) ∧ Below (w.heap.size + 2) W0 V') := by
    intro V hV
    refine (r_FewProg p _ V (hp0.out.keeps (Keeps.of_below (hin.out V hV)))).mono ?_
    rintro r V2 ⟨b, hr, hb, hB⟩
    exact ⟨⟨b, hr, hb⟩, hV.trans (hB.mono (hsz.out V hV))⟩
  have hFs : Hid (∀ V, Below (w.heap.size + 2) W0 V → Calls Tryz.prog 7 #[(.agg #[.string nm, .slice a1 l.length c1])] V fun r V' => (∃ b : Bool, r = .returned (.bool b) ∧ (b = true → (sgText s).length ≤ 200000000)) ∧ Below (w.heap.size + 2) W0 V') := by
    intro V hV
    refine (r_Thin s _ V (IsSg.keeps (Keeps.of_below (hin.out V hV)) _ _ hs0.out)).mono ?_
    rintro r V2 ⟨b, hr, hb, hB⟩
    exact ⟨⟨b, hr, hb⟩, hV.trans (hB.mono (hsz.out V hV))⟩
  have haw : Hid (Calls Tryz.prog 5 #[] W0 fun r V' => r = .returned (.bool true) ∧ Below (w.heap.size + 2) W0 V') := by
    refine (awake_c _ (ht'.out.below hbw.out)).mono ?_
    rintro r V2 ⟨hr, hB⟩
    exact ⟨hr, hB.mono (hsz.out _ (Below.refl _ _))⟩
  have hW0' := Lib.hid hW0
  clear hW0
  go_enter Tryz.func3, Tryz.ntmps3
  go_wp2_with fail
  rw [hW0'.out]
  refine haw.out.mono ?_
  rintro r w1 ⟨rfl, hB1⟩
  obtain ⟨_, k0, k1, k2, k3⟩ := hcells.out _ hB1
  go_wp2_with fail
  refine (hFp.out _ hB1).mono ?_
  rintro r w2 ⟨⟨bp, rfl, hbp⟩, hB2⟩
  clear k0 k1 k2 k3
  obtain ⟨_, k0, k1, k2, k3⟩ := hcells.out _ hB2
  cases bp
  · clear hbp
    go_wp2_with fail
    go_ret
    exact ⟨rfl, hin.out _ hB2⟩
  have hfp := Lib.hid (hbp rfl)
  clear hbp
  go_wp2_with fail
  refine (hFs.out _ hB2).mono ?_
  rintro r w3 ⟨⟨bs, rfl, hbs⟩, hB3⟩
  clear k0 k1 k2 k3
  obtain ⟨_, k0, k1, k2, k3⟩ := hcells.out _ hB3
  cases bs
  · clear hbs
    go_wp2_with fail
    go_ret
    exact ⟨rfl, hin.out _ hB3⟩
  have hfs := Lib.hid (hbs rfl)
  clear hbs hFp hFs haw hW0'
  obtain ⟨X, hX⟩ : ∃ z, prgS p = z := ⟨_, rfl⟩
  obtain ⟨G, hG⟩ : ∃ z, prgN p = z := ⟨_, rfl⟩
  obtain ⟨Z, hZ⟩ : ∃ z, (if smallB s 30 = true then mkS (sgText s) else (⟨#[]⟩ : Str)) = z := ⟨_, rfl⟩
  have hPp : Hid (∀ V, Below (w.heap.size + 2) W0 V → Calls Tryz.prog 8 #[(.agg #[.slice b1 ds.length d1, .slice b2 fs.length d2])] V fun r V' => r = .returned (.tuple #[.string X, .int .i64 G]) ∧ Below (w.heap.size + 2) W0 V') := by
    intro V hV
    refine (hX ▸ hG ▸ print_Prog p _ V (hp0.out.keeps (Keeps.of_below (hin.out V hV))) (ht'.out.below (hin.out V hV)) (fun hc => few_prog_len hfp.out hp0.out hc)).mono ?_
    rintro r V2 ⟨hr, hB⟩
    exact ⟨hr, hV.trans (hB.mono (hsz.out V hV))⟩
  have hRp : Hid (∀ V, Below (w.heap.size + 2) W0 V → Calls Tryz.prog 9 #[(.agg #[.slice b1 ds.length d1, .slice b2 fs.length d2])] V fun r V' => r = .returned (.tuple #[.string X, .int .i64 G]) ∧ Below (w.heap.size + 2) W0 V') := by
    intro V hV
    refine (hX ▸ hG ▸ r_Prog p _ V (hp0.out.keeps (Keeps.of_below (hin.out V hV))) (fun hc => few_prog_len hfp.out hp0.out hc)).mono ?_
    rintro r V2 ⟨hr, hB⟩
    exact ⟨hr, hV.trans (hB.mono (hsz.out V hV))⟩
  have hPs : Hid (∀ V, Below (w.heap.size + 2) W0 V → Calls Tryz.prog 10 #[(.agg #[.string nm, .slice a1 l.length c1])] V fun r V' => r = .returned (.string Z) ∧ Below (w.heap.size + 2) W0 V') := by
    intro V hV
    refine (hZ ▸ print_Sig s _ V (IsSg.keeps (Keeps.of_below (hin.out V hV)) _ _ hs0.out) (fun _ => Nat.le_trans hfs.out (by omega))).mono ?_
    rintro r V2 ⟨hr, hB⟩
    exact ⟨hr, hV.trans (hB.mono (hsz.out V hV))⟩
  have hRs : Hid (∀ V, Below (w.heap.size + 2) W0 V → Calls Tryz.prog 11 #[(.agg #[.string nm, .slice a1 l.length c1])] V fun r V' => r = .returned (.string Z) ∧ Below (w.heap.size + 2) W0 V') := by
    intro V hV
    refine (hZ ▸ r_Sig s _ V (IsSg.keeps (Keeps.of_below (hin.out V hV)) _ _ hs0.out) (fun _ => Nat.le_trans hfs.out (by omega))).mono ?_
    rintro r V2 ⟨hr, hB⟩
    exact ⟨hr, hV.trans (hB.mono (hsz.out V hV))⟩
  clear hX hG hZ hp0 hs0 hfp hfs
  go_wp2_with fail
  refine (hPp.out _ hB3).mono ?_
  rintro r w4 ⟨rfl, hB4⟩
  clear k0 k1 k2 k3
  obtain ⟨_, k0, k1, k2, k3⟩ := hcells.out _ hB4
  go_wp2_with fail
  refine (hRp.out _ hB4).mono ?_
  rintro r w5 ⟨rfl, hB5⟩
  clear k0 k1 k2 k3 hPp hRp hB4 hB3 hB2 hB1
  have hst := Lib.hid (hcells.out _ hB5)
  have hdr := Lib.hid (hcells.out _ hB5.drew)
  obtain ⟨_, k0, k1, k2, k3⟩ := hcells.out _ hB5
  go_wp2_with fail
  go_region_held3 (fun V => Below (w.heap.size + 2) W0 V ∧ V.cell? ⟨w.heap.size, 0, none⟩ = some (.slice b1 ds.length d1) ∧ V.cell? ⟨w.heap.size, 1, none⟩ = some (.slice b2 fs.length d2) ∧ V.cell? ⟨w.heap.size + 1, 0, none⟩ = some (.string nm) ∧ V.cell? ⟨w.heap.size + 1, 1, none⟩ = some (.slice a1 l.length c1)) ((first | exact hdr.out | exact hst.out | exact hcells.out _ (by assumption) | exact hcells.out _ (Below.drew (by assumption))))
    (first | (go_at_call 10; (with_reducible refine (hPs.out _ (by first | assumption | exact Below.drew (by assumption))).mono ?_); rintro e w6 ⟨rfl, hb1⟩) | (go_at_call 11; (with_reducible refine (hRs.out _ (by first | assumption | exact Below.drew (by assumption))).mono ?_); rintro e w6 ⟨rfl, hb1⟩))
  all_goals
    go_wp2_with fail
    go_ret
    exact ⟨by first | rfl | simp, hin.out _ hb1⟩
end Go.Proofs.YtpdfeadajgokkaaGreatDoor
