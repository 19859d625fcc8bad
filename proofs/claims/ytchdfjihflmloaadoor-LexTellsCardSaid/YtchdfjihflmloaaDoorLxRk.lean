/- What the rows of layers 2 and 3 have in common: what a reading of an argument gives; what is laid. -/
import Derived.Test.YtchdfjihflmloaaDoorCards
import Derived.Test.YtchdfjihflmloaaDoorTie
import Derived.Test.YtchdfjihflmloaaDoorRkit
import Derived.Test.YtchdfjihflmloaaDoorLexLn
import Derived.Stop.LaidErr
import Derived.HandedShaped
namespace Go.Proofs.YtchdfjihflmloaaDoor
open Go.RowKit Go.ChangeShapes Go.WideShapes Go.ChangeAt Go.ChangeMaps

section
variable {H : Type} {enc : TypeId × Value → H} {w : World} {sp : Nat → Bool} {held : Bool}
theorem read_bytes {fuel : Nat} {cs : List Value} {x : DataW H × List MemPlace} (h : DataW.trod enc Tryd.prog w 0 sp held fuel 22 cs = some x) (hf : Fits Tryd.prog 22 x.1) :
    ∃ a c l, cs = [.slice a l.length c] ∧ (l.length ≤ c ∧ c ≤ maxLen) ∧ l.length ≤ lenMax ∧ (a = none → c = 0) ∧ ByteRow w a l := by
  obtain ⟨a1, len1, cap1, e2, ra1, rb1, rc1, rd1⟩ := read_slice (Q := fun c => ∃ b : UInt8, c = [.int .u8 b.toNat]) Tryd.underlying22 (show Tryd.prog.cellsOf 5 = 1 by kernel_rfl) (by decide) (of_decide_eq_true (by kernel_rfl)) h hf
    (fun n' hn' cs y hy hfy => read_u8 Tryd.underlying5 hy)
  rcases rd1 with h0 | ⟨b, off, ha, h4⟩
  · subst h0
    exact ⟨a1, cap1, [], e2, ra1, Nat.zero_le _, rc1, .inl rfl⟩
  · obtain ⟨l, hl, hr⟩ := choose_list (n := len1) (R := fun i (e : UInt8) => w.cell? ⟨b, off + i, none⟩ = some (.int .u8 e.toNat)) fun i hi => by
      obtain ⟨c, _, ⟨e, rfl⟩, hc⟩ := h4 i hi
      have := hc 0 (by omega)
      rw [Nat.mul_one, Nat.add_zero] at this
      exact ⟨e, this⟩
    subst hl
    exact ⟨a1, cap1, l, e2, ra1, rb1, rc1, .inr ⟨b, off, ha, hr⟩⟩
end
set_option maxRecDepth 100000 in
theorem arg_bytes {H : Type} {enc : TypeId × Value → H} {W : World} {base : Nat} {v : Value} {d : DataW H} {p : List MemPlace} (hok : Value.okWide Tryd.prog W .any base 22 v) (h : DataW.Trod enc Tryd.prog W 0 (fun _ => true) true 22 v d p) (hf : Fits Tryd.prog 22 d) :
    ∃ a l c, v = .slice a l.length c ∧ l.length ≤ c ∧ c ≤ 9223372036854775807 ∧ l.length ≤ lenMax ∧ (a = none → c = 0) ∧ ByteRow W a l := by
  obtain ⟨a0, n0, c0, rfl⟩ := okWide_slice Tryd.underlying22 hok
  obtain ⟨fuel, h⟩ := h
  obtain ⟨a, c, l, hc, ⟨h1, h2⟩, hl, ha, hr⟩ := read_bytes h hf
  simp [Value.cells] at hc
  obtain ⟨rfl, rfl, rfl⟩ := hc
  exact ⟨_, l, _, rfl, h1, by unfold maxLen at h2; exact h2, hl, ha, hr⟩
set_option maxRecDepth 100000 in
theorem arg_str {H : Type} {enc : TypeId × Value → H} {W : World} {base : Nat} {v : Value} {d : DataW H} {p : List MemPlace} (hok : Value.okWide Tryd.prog W .any base 9 v) (h : DataW.Trod enc Tryd.prog W 0 (fun _ => true) true 9 v d p) (hf : Fits Tryd.prog 9 d) : ∃ s : Str, v = .string s ∧ s.size ≤ lenMax := by
  obtain ⟨s, rfl, rfl, _, _⟩ := open_string Tryd.underlying9 hok h
  refine ⟨s, rfl, ?_⟩
  have := hf s.data.toList.length (by simp [DataW.weights])
  rw [Lib.size_eq]; unfold reachBytes at this; unfold lenMax; omega
set_option maxRecDepth 100000 in
theorem arg_u8 {H : Type} {enc : TypeId × Value → H} {W : World} {base : Nat} {v : Value} {d : DataW H} {p : List MemPlace} (hok : Value.okWide Tryd.prog W .any base 5 v) (h : DataW.Trod enc Tryd.prog W 0 (fun _ => true) true 5 v d p) : ∃ x : Nat, v = .int .u8 (x : Int) ∧ x ≤ 255 := by
  obtain ⟨x, rfl, rfl, rfl, hw⟩ := open_int Tryd.underlying5 hok h
  have h2 : 0 ≤ x ∧ x ≤ 255 := by simpa [Lit.wf, IntKind.min, IntKind.max, IntKind.signed, IntKind.bits] using hw
  exact ⟨x.toNat, by rw [Int.toNat_of_nonneg h2.1], by omega⟩
set_option maxRecDepth 100000 in
theorem arg_i64 {H : Type} {enc : TypeId × Value → H} {W : World} {base : Nat} {v : Value} {d : DataW H} {p : List MemPlace} (hok : Value.okWide Tryd.prog W .any base 3 v) (h : DataW.Trod enc Tryd.prog W 0 (fun _ => true) true 3 v d p) : ∃ x : Int, v = .int .i64 x ∧ -9223372036854775808 ≤ x ∧ x ≤ 9223372036854775807 := by
  obtain ⟨x, rfl, rfl, rfl, hw⟩ := open_int Tryd.underlying3 hok h
  refine ⟨x, rfl, ?_⟩
  simpa [Lit.wf, IntKind.min, IntKind.max, IntKind.signed, IntKind.bits] using hw
/-- What is laid at the world's beginning: some length. -/
theorem max_of {W : World} (h : W.ShapedOpen Tryd.prog) : MaxOk W := Go.Proofs.cell_of_shapedOpen_int (g := 0) (zero := #[.int .i64 0]) (t := 3) h (of_decide_eq_true (by kernel_rfl)) (by kernel_rfl) rfl (by kernel_rfl) (by kernel_rfl) Tryd.underlying3
theorem row_err (u : TypeId) (h : Tryd.prog.typeName? 3 u = some "*errors.errorString") : u = 116 := by
  have star : "*" ++ "errors.errorString" = "*errors.errorString" := by decide
  exact typeName_ptr_named (nm := "errors.errorString") (by rw [star]; kernel_rfl) (by kernel_rfl) (by decide) u (by rw [star]; exact h)
theorem rng_of {W : World} (h : laidMet Tryd.prog [("math/bits.deBruijn32tab", Rows.laid_math_bits_deBruijn32tab), ("math/bits.deBruijn64tab", Rows.laid_math_bits_deBruijn64tab), ("internal/strconv.uint64pow10", Rows.laid_internal_strconv_uint64pow10), ("unicode/utf8.acceptRanges", Rows.laid_unicode_utf8_acceptRanges), ("strconv.ErrRange", Rows.laid_strconv_ErrRange), ("strconv.ErrSyntax", Rows.laid_strconv_ErrSyntax), ("unicode/utf8.first", Rows.laid_unicode_utf8_first)] W) : RngOk W := by
  have hg : Tryd.prog.globalNamed "strconv.ErrRange" = some 2 := by kernel_rfl
  obtain ⟨a, s, hv, _⟩ := laid_sentinel h.tail.tail.tail.tail hg (by kernel_rfl) Tryd.underlying73 row_err Tryd.underlying116 Tryd.underlying118 rfl rfl Tryd.underlying9 (by kernel_rfl) (by kernel_rfl)
  have := World.var?_cell hg hv 0
  exact ⟨_, _, by simpa using this⟩
end Go.Proofs.YtchdfjihflmloaaDoor
