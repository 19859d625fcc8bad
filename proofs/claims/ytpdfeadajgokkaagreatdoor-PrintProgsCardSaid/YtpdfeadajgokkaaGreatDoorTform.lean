/- May a constructor that is told of, a type that is told of, a name with its tree, a program be? -/
import Derived.Test.YtpdfeadajgokkaaGreatDoorTsig
namespace Go.Proofs.YtpdfeadajgokkaaGreatDoor
open Go.RowKit

def formB (f : Sg) : Bool := conB f.name && decide (f.args.length ≤ 40) && f.args.all fun e => sigB e 30
def datB (d : Dt) : Bool := conB d.name && namesB d.params && decide (1 ≤ d.forms.length) && decide (d.forms.length ≤ 40) && d.forms.all formB
def defB (d : Df) : Bool := nameB d.name && chkB d.body
def progB (p : Pg) : Bool := decide (p.datas.length ≤ 40) && decide (p.defs.length ≤ 40) && p.datas.all datB && p.defs.all defB

theorem form_inner (e : Sg) (v : Value) (W : World) (hv : IsSg W v e) :
    Calls Tryz.prog 75 (#[v] ++ #[]) W fun r W' => r = .returned (.bool (!sigB e 30)) ∧ Below W.heap.size W W' := by
  have hv0 := hv
  obtain ⟨nm, l⟩ := e
  obtain ⟨a1, c1, rfl, _⟩ := hv.open
  have hB0 : Below W.heap.size W (W.alloc (.cells #[.string nm, .slice a1 l.length c1] 28)) := (Below.refl _ _).alloc (Nat.le_refl _) _
  have hcall := Lib.hid (tree_sig _ _ 30 _ (IsSg.keeps (Keeps.of_below hB0) _ _ hv0) (by omega) (by omega))
  have hB0' := Lib.hid hB0
  clear hv hv0 hB0
  show Calls Tryz.prog 75 #[.agg #[.string nm, .slice a1 l.length c1]] W _
  go_enter Tryz.func75, Tryz.ntmps75
  go_wp2_with fail
  refine hcall.out.mono ?_
  rintro e w1 ⟨rfl, hB1⟩
  go_wp2_with fail
  go_ret
  exact ⟨rfl, hB0'.out.trans (hB1.mono (by simp))⟩

set_option maxHeartbeats 800000 in
theorem tree_form (f : Sg) (v : Value) (w : World) (hv : IsSg w v f) :
    Calls Tryz.prog 39 #[v] w fun r w' => r = .returned (.bool (formB f)) ∧ Below w.heap.size w w' := by
  obtain ⟨nm, l⟩ := f
  obtain ⟨a1, c1, rfl, hs, hn, hr⟩ := hv.open
  unfold lenMax at hs hn
  have hB0 : Below (w.heap.size + 1) (w.alloc (.cells #[.string nm, .slice a1 l.length c1] 46)) (w.alloc (.cells #[.string nm, .slice a1 l.length c1] 46)) := Below.refl _ _
  have hbw := Lib.hid (below_box hB0)
  have hCon := Lib.hid (fun W => lex_Con nm W)
  have hr' := Lib.hid hr
  clear hr hv hB0
  cases hc : conB nm
  · have hH : Hid (formB (.mk nm l) = false) := by unfold Hid; rw [formB, Sg.name, hc]; rfl
    rw [hc] at hCon
    clear hc
    go_enter Tryz.func39, Tryz.ntmps39
    go_wp2_with fail
    refine (hCon.out _).mono ?_
    rintro e w1 ⟨rfl, hB1⟩
    go_wp2_with fail
    go_ret
    exact ⟨ret_bool hH.out.symm, hbw.out.trans (hB1.mono (by simp))⟩
  · rw [hc] at hCon
    have hc' := Lib.hid hc
    clear hc
    by_cases hk : l.length ≤ 40
    · have hH : Hid (formB (.mk nm l) = l.all fun e => sigB e 30) := by unfold Hid; rw [formB, Sg.name, hc'.out, Sg.args, decide_eq_true hk]; rfl
      go_enter Tryz.func39, Tryz.ntmps39
      go_wp2_with fail
      refine (hCon.out _).mono ?_
      rintro e w1 ⟨rfl, hB1⟩
      obtain ⟨j0, j1⟩ := box2 (hB1.mono (by simp))
      have hB1' := hbw.out.trans (hB1.mono (by simp))
      have hcon := Lib.hid (contains_Sig a1 l c1 75 #[] (fun e => !sigB e 30) w1 (by unfold lenMax; omega) (hr'.out.keeps (Keeps.of_below hB1')) (fun e he v W hb hv => form_inner e v W hv) (fun args w => Tryz.call75 args w))
      clear hB1
      go_wp2_with fail
      refine hcon.out.mono ?_
      rintro e w2 ⟨rfl, hB2⟩
      go_wp2_with fail
      go_ret
      exact ⟨ret_bool (by rw [hH.out, any_not, Bool.not_not]), hB1'.trans (hB2.mono hB1'.size)⟩
    · have hH : Hid (formB (.mk nm l) = false) := by unfold Hid; rw [formB, Sg.args, decide_eq_false hk, Bool.and_false]; rfl
      go_enter Tryz.func39, Tryz.ntmps39
      go_wp2_with fail
      refine (hCon.out _).mono ?_
      rintro e w1 ⟨rfl, hB1⟩
      obtain ⟨j0, j1⟩ := box2 (hB1.mono (by simp))
      have hB1' := hbw.out.trans (hB1.mono (by simp))
      clear hB1
      go_wp2_with fail
      go_ret
      exact ⟨ret_bool hH.out.symm, hB1'⟩

/-- Prog's first one: a constructor that may not be. -/
theorem prog_bad (e : Sg) (v : Value) (W : World) (hv : IsSg W v e) :
    Calls Tryz.prog 38 (#[v] ++ #[]) W fun r W' => r = .returned (.bool (!formB e)) ∧ Below W.heap.size W W' := by
  have hv0 := hv
  obtain ⟨nm, l⟩ := e
  obtain ⟨a1, c1, rfl, _⟩ := hv.open
  have hB0 : Below W.heap.size W (W.alloc (.cells #[.string nm, .slice a1 l.length c1] 46)) := (Below.refl _ _).alloc (Nat.le_refl _) _
  have hcall := Lib.hid (tree_form _ _ _ (IsSg.keeps (Keeps.of_below hB0) _ _ hv0))
  have hB0' := Lib.hid hB0
  clear hv hv0 hB0
  show Calls Tryz.prog 38 #[.agg #[.string nm, .slice a1 l.length c1]] W _
  go_enter Tryz.func38, Tryz.ntmps38
  go_wp2_with fail
  refine hcall.out.mono ?_
  rintro e w1 ⟨rfl, hB1⟩
  go_wp2_with fail
  go_ret
  exact ⟨rfl, hB0'.out.trans (hB1.mono (by simp))⟩

/-- Prog's third one: a name that may not be, or its tree. -/
theorem prog_no (d : Df) (v : Value) (W : World) (hv : IsDf W v d) :
    Calls Tryz.prog 44 (#[v] ++ #[]) W fun r W' => r = .returned (.bool (!defB d)) ∧ Below W.heap.size W W' := by
  obtain ⟨nm, e⟩ := d
  obtain ⟨v1, v2, v3, v4, v5, rfl, hs, he⟩ := hv
  simp only at hs he
  have hB0 : Below (W.heap.size + 1) (W.alloc (.cells #[.string nm, v1, v2, v3, v4, v5] 51)) (W.alloc (.cells #[.string nm, v1, v2, v3, v4, v5] 51)) := Below.refl _ _
  have hbw := Lib.hid (below_box hB0)
  have hbox : ∀ V, Below (W.heap.size + 1) (W.alloc (.cells #[.string nm, v1, v2, v3, v4, v5] 51)) V → V.cell? ⟨W.heap.size, 0, none⟩ = some (.string nm) ∧ V.cell? ⟨W.heap.size, 1, none⟩ = some v1 ∧ V.cell? ⟨W.heap.size, 2, none⟩ = some v2 ∧ V.cell? ⟨W.heap.size, 3, none⟩ = some v3 ∧ V.cell? ⟨W.heap.size, 4, none⟩ = some v4 ∧ V.cell? ⟨W.heap.size, 5, none⟩ = some v5 := by
    intro V h
    refine ⟨?_, ?_, ?_, ?_, ?_, ?_⟩ <;> (rw [h.cell (by simp), World.cell?_alloc_at _ _ _ _ rfl]; rfl)
  obtain ⟨k0, k1, k2, k3, k4, k5⟩ := hbox _ hB0
  have hbox' := Lib.hid hbox
  have hNm := Lib.hid (fun W => lex_Name nm W)
  have hChk := Lib.hid (fun V (hb : Below W.heap.size W V) => tree_Check e _ V (he.keeps (Keeps.of_below hb)))
  clear hbox hB0 he
  show Calls Tryz.prog 44 #[.agg #[.string nm, v1, v2, v3, v4, v5]] W _
  cases hn : nameB nm
  · have hH : Hid (defB ⟨nm, e⟩ = false) := by unfold Hid; rw [defB, hn]; rfl
    rw [hn] at hNm
    clear hn
    go_enter Tryz.func44, Tryz.ntmps44
    go_wp2_with fail
    refine (hNm.out _).mono ?_
    rintro e w1 ⟨rfl, hB1⟩
    go_wp2_with fail
    go_ret
    exact ⟨ret_bool (by rw [hH.out]; rfl), hbw.out.trans (hB1.mono (by simp))⟩
  · have hH : Hid (defB ⟨nm, e⟩ = chkB e) := by unfold Hid; rw [defB, hn]; rfl
    rw [hn] at hNm
    clear hn
    go_enter Tryz.func44, Tryz.ntmps44
    go_wp2_with fail
    refine (hNm.out _).mono ?_
    rintro e w1 ⟨rfl, hB1⟩
    clear k0 k1 k2 k3 k4 k5
    obtain ⟨k0, k1, k2, k3, k4, k5⟩ := hbox'.out _ (hB1.mono (by simp))
    have hB1' := hbw.out.trans (hB1.mono (by simp))
    clear hB1
    go_wp2_with fail
    refine (hChk.out _ hB1').mono ?_
    rintro e w2 ⟨rfl, hB2⟩
    go_wp2_with fail
    go_ret
    exact ⟨ret_bool (by rw [hH.out]), hB1'.trans (hB2.mono hB1'.size)⟩
end Go.Proofs.YtpdfeadajgokkaaGreatDoor
