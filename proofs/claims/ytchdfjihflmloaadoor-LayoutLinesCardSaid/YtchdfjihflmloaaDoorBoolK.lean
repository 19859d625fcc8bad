/- A row of truth values as an argument. -/
import Derived.Test.YtchdfjihflmloaaDoorLxRk
import Derived.Test.YtchdfjihflmloaaDoorLawLines
namespace Go.Proofs.YtchdfjihflmloaaDoor
open Go.RowKit Go.ChangeShapes Go.WideShapes Go.ChangeAt Go.ChangeMaps

theorem read_bools {H : Type} {enc : TypeId × Value → H} {w : World} {sp : Nat → Bool} {held : Bool} {fuel : Nat} {cs : List Value} {x : DataW H × List MemPlace} (h : DataW.trod enc Tryd.prog w 0 sp held fuel 43 cs = some x) (hf : Fits Tryd.prog 43 x.1) :
    ∃ a c l, cs = [.slice a l.length c] ∧ l.length ≤ lenMax ∧ BoolRow w a l := by
  obtain ⟨a1, len1, cap1, e2, ra1, rb1, rc1, rd1⟩ := read_slice (Q := fun c => ∃ b : Bool, c = [.bool b]) Tryd.underlying43 (show Tryd.prog.cellsOf 4 = 1 by kernel_rfl) (by decide) (of_decide_eq_true (by kernel_rfl)) h hf
    (fun n' hn' cs y hy hfy => by obtain ⟨b, hb, _⟩ := DataW.trod_bool Tryd.underlying4 hy; exact ⟨b, hb⟩)
  rcases rd1 with h0 | ⟨b, off, ha, h4⟩
  · subst h0
    exact ⟨a1, cap1, [], e2, Nat.zero_le _, .inl rfl⟩
  · obtain ⟨l, hl, hr⟩ := choose_list (n := len1) (R := fun i (e : Bool) => w.cell? ⟨b, off + i, none⟩ = some (.bool e)) fun i hi => by
      obtain ⟨c, _, ⟨e, rfl⟩, hc⟩ := h4 i hi
      have := hc 0 (by omega)
      rw [Nat.mul_one, Nat.add_zero] at this
      exact ⟨e, this⟩
    subst hl
    exact ⟨a1, cap1, l, e2, rb1, .inr ⟨b, off, ha, hr⟩⟩
set_option maxRecDepth 100000 in
theorem arg_bools {H : Type} {enc : TypeId × Value → H} {W : World} {base : Nat} {v : Value} {d : DataW H} {p : List MemPlace} (hok : Value.okWide Tryd.prog W .any base 43 v) (h : DataW.Trod enc Tryd.prog W 0 (fun _ => true) true 43 v d p) (hf : Fits Tryd.prog 43 d) :
    ∃ a l c, v = .slice a l.length c ∧ l.length ≤ lenMax ∧ BoolRow W a l := by
  obtain ⟨a0, n0, c0, rfl⟩ := okWide_slice Tryd.underlying43 hok
  obtain ⟨fuel, h⟩ := h
  obtain ⟨a, c, l, hc, hl, hr⟩ := read_bools h hf
  simp [Value.cells] at hc
  obtain ⟨rfl, rfl, rfl⟩ := hc
  exact ⟨_, l, _, rfl, hl, hr⟩
end Go.Proofs.YtchdfjihflmloaaDoor
