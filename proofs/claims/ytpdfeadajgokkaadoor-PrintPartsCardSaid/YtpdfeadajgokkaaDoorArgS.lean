/- A text that came in. -/
import Derived.Test.YtpdfeadajgokkaaDoorRowK
import Derived.ChangeMaps5
namespace Go.Proofs.YtpdfeadajgokkaaDoor
open Go.RowKit Go.ChangeShapes Go.WideShapes Go.ChangeMaps
set_option maxRecDepth 100000 in
theorem arg_str {H : Type} {enc : TypeId × Value → H} {W : World} {base : Nat} {v : Value} {d : DataW H} {p : List MemPlace} (hok : Value.okWide Tryd.prog W .any base 9 v) (h : DataW.Trod enc Tryd.prog W 0 (fun _ => true) true 9 v d p) (hf : Fits Tryd.prog 9 d) : ∃ s : Str, v = .string s ∧ s.size ≤ lenMax := by
  obtain ⟨s, rfl, rfl, _, _⟩ := open_string Tryd.underlying9 hok h
  refine ⟨s, rfl, ?_⟩
  have := hf s.data.toList.length (by simp [DataW.weights])
  rw [Lib.size_eq]; unfold reachBytes at this; unfold lenMax; omega
end Go.Proofs.YtpdfeadajgokkaaDoor
