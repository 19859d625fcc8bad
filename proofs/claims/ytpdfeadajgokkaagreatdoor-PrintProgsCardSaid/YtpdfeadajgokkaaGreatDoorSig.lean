/- A written type's text. -/
import Derived.Test.YtpdfeadajgokkaaGreatDoorList
import Derived.StillTailTactics
namespace Go.Proofs.YtpdfeadajgokkaaGreatDoor
open Go.RowKit

/-- Parts that were laid just now lie on while a writer of before writes. -/
theorem ptRow_on {w W : World} {bp : Nat} {v : Value} {ps : List Pt} {a : Option Addr} (hp : PtRow w a ps) (hne : ∀ b off, a = some ⟨b, off, none⟩ → b ≠ bp ∧ v.ownBlock ≠ some b) (hk : KeepsBut (fun b => b = bp ∨ v.ownBlock = some b) w W) (hb : ∀ i (h : i < ps.length) x, IsPt w x ps[i] → IsPt W x ps[i]) : PtRow W a ps := by
  rcases hp with hp | ⟨b, off, ha, hp⟩
  · exact .inl hp
  · refine .inr ⟨b, off, ha, fun i hi => ?_⟩
    obtain ⟨x, gx, hx⟩ := hp i hi
    refine ⟨x, hk.2 _ _ (fun hh => ?_) gx, hb i hi x hx⟩
    rcases hh with hh | hh
    · exact (hne b off ha).1 hh
    · exact (hne b off ha).2 hh

/-- What 'sig' is asked. -/
def SigC (s : Sg) : Prop := ∀ (v : Value) (w : World), IsSg w v s → Calls Tryz.prog 27 #[v] w fun r w' => r = .returned (.string (mkS (sgText s))) ∧ Below w.heap.size w w'

theorem sigAtom_c (s : Sg) (h : 0 < s.args.length → SigC s) (hl : (sgText s).length ≤ 1099511627775) : SgAtomC s := by
  obtain ⟨nm, l⟩ := s
  intro v w hv
  obtain ⟨a1, c1, rfl, hs, hn, hr⟩ := hv.open
  unfold lenMax at hs hn
  have hb0 : Below w.heap.size w (w.alloc (.cells #[.string nm, .slice a1 l.length c1] 28)) := (Below.refl _ _).alloc (Nat.le_refl _) _
  have hsz : w.heap.size < (w.alloc (.cells #[.string nm, .slice a1 l.length c1] 28)).heap.size := by simp
  have k0 : (w.alloc (.cells #[.string nm, .slice a1 l.length c1] 28)).cell? ⟨w.heap.size, 0, none⟩ = some (.string nm) := by rw [World.cell?_alloc_at _ _ _ _ rfl]; rfl
  have k1 : (w.alloc (.cells #[.string nm, .slice a1 l.length c1] 28)).cell? ⟨w.heap.size, 1, none⟩ = some (.slice a1 l.length c1) := by rw [World.cell?_alloc_at _ _ _ _ rfl]; rfl
  have hcall := Lib.hid (fun h0 : 0 < l.length => h h0 _ _ (hv.below hb0))
  go_enter Tryz.func86, Tryz.ntmps86
  by_cases h0 : l.length = 0
  · have h0' : ((l.length : Int) == 0) = true := by rw [h0]; rfl
    have h0h := Lib.hid h0
    clear h0
    go_wp2_with fail
    go_ret
    exact ⟨ret_str (by rw [sgAtom, Sg.args, if_pos h0h.out]; rfl), hb0⟩
  · have h0' : ((l.length : Int) == 0) = false := by rw [beq_eq_false_iff_ne]; omega
    go_wp2_with fail
    refine (hcall.out (by omega)).mono ?_
    rintro e w1 ⟨rfl, hB1⟩
    go_wp2_with fail
    refine (print_atom _ _ (by rw [Lib.size_eq]; show (sgText (.mk nm l)).length ≤ _; omega)).mono ?_
    rintro e w2 ⟨rfl, rfl⟩
    go_wp2_with fail
    go_ret
    exact ⟨ret_str (by rw [sgAtom, Sg.args, if_neg h0]; rfl), hb0.trans (hB1.mono (by omega))⟩
end Go.Proofs.YtpdfeadajgokkaaGreatDoor
