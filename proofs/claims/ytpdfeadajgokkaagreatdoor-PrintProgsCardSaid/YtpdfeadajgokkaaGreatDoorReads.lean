/- What a reading of an argument gives: slices, texts, trees in memory. -/
import Derived.Test.YtpdfeadajgokkaaGreatDoorBase
import Derived.Test.YtpdfeadajgokkaaGreatDoorProg
import Derived.ChangeArms
import Derived.SizedLaws
import Derived.DataReads
import Derived.KernelRfl
import Derived.Lib.Strings
import Derived.Test.YtpdfeadajgokkaaGreatDoorTypes
namespace Go.Proofs.YtpdfeadajgokkaaGreatDoor
open Go.RowKit

theorem choose_list {α : Type} {n : Nat} {R : Nat → α → Prop} (h : ∀ i, i < n → ∃ e, R i e) : ∃ l : List α, l.length = n ∧ ∀ i (hi : i < l.length), R i l[i] := by
  induction n with
  | zero => exact ⟨[], rfl, fun i hi => absurd hi (by simp)⟩
  | succ n ih =>
    obtain ⟨l, hl, hr⟩ := ih fun i hi => h i (by omega)
    obtain ⟨e, he⟩ := h n (by omega)
    refine ⟨l ++ [e], by simp [hl], fun i hi => ?_⟩
    rcases Nat.lt_or_ge i l.length with h1 | h1
    · rw [List.getElem_append_left h1]; exact hr i h1
    · have : i = l.length := by simp at hi; omega
      subst this
      rw [List.getElem_append_right (Nat.le_refl _)]
      simpa [hl] using he

theorem list5 {α : Type} {l : List α} (h : l.length = 5) : ∃ a b c d e, l = [a, b, c, d, e] := by
  rcases l with _ | ⟨a, _ | ⟨b, _ | ⟨c, _ | ⟨d, _ | ⟨e, _ | ⟨f, r⟩⟩⟩⟩⟩⟩ <;> simp at h
  exact ⟨a, b, c, d, e, rfl⟩

section
variable {H : Type} {enc : TypeId × Value → H} {P : Program} {w : World} {sp : Nat → Bool} {held : Bool} {fuel : Nat} {cs : List Value} {x : DataW H × List MemPlace}

/-- What a datum weighs is within reach. -/
def Fits {H : Type} (P : Program) (t : TypeId) (d : DataW H) : Prop := ∀ n ∈ d.weights P t, n ≤ reachBytes

theorem weightsAll_mem {e : TypeId} {d : DataW H} {n : Nat} (hn : n ∈ d.weights P e) : ∀ {l : List (DataW H)}, d ∈ l → n ∈ DataW.weightsAll P e l
  | [], h => by simp at h
  | a :: r, h => by
    simp only [DataW.weightsAll, List.mem_append]
    rcases List.mem_cons.1 h with rfl | h
    · exact .inl hn
    · exact .inr (weightsAll_mem hn h)

theorem read_string {t : TypeId} (ht : P.underlying t = some .string) (h : DataW.trod enc P w 0 sp held fuel t cs = some x) (hf : Fits P t x.1) : ∃ s : Str, cs = [.string s] ∧ s.size ≤ lenMax := by
  obtain ⟨s, rfl, rfl, _⟩ := DataW.trod_string ht h
  refine ⟨s, rfl, ?_⟩
  have := hf s.data.toList.length (by simp [DataW.weights])
  rw [Lib.size_eq]; unfold reachBytes at this; unfold lenMax; omega
theorem read_i64 {t : TypeId} (ht : P.underlying t = some (.int .i64)) (h : DataW.trod enc P w 0 sp held fuel t cs = some x) : ∃ n : Int, cs = [.int .i64 n] ∧ (-9223372036854775808 ≤ n ∧ n ≤ 9223372036854775807) := by
  obtain ⟨n, rfl, _, hw⟩ := DataW.trod_int ht h
  refine ⟨n, rfl, ?_⟩
  simpa [Lit.wf, IntKind.min, IntKind.max, IntKind.signed, IntKind.bits] using hw
theorem read_u8 {t : TypeId} (ht : P.underlying t = some (.int .u8)) (h : DataW.trod enc P w 0 sp held fuel t cs = some x) : ∃ b : UInt8, cs = [.int .u8 b.toNat] := by
  obtain ⟨n, rfl, _, hw⟩ := DataW.trod_int ht h
  have h2 : 0 ≤ n ∧ n ≤ 255 := by simpa [Lit.wf, IntKind.min, IntKind.max, IntKind.signed, IntKind.bits] using hw
  refine ⟨UInt8.ofNat n.toNat, ?_⟩
  rw [UInt8.toNat_ofNat']
  congr 2
  omega

/-- A slice: its cells, element by element. -/
theorem read_slice {t e : TypeId} {sz : Nat} (ht : P.underlying t = some (.slice e)) (hsz : P.cellsOf e = sz) (hpos : 0 < sz) (hby : 1 ≤ P.bytesOf e) {Q : List Value → Prop}
    (h : DataW.trod enc P w 0 sp held fuel t cs = some x) (hf : Fits P t x.1) (hQ : ∀ n, fuel = n + 1 → ∀ cs y, DataW.trod enc P w 0 sp held n e cs = some y → Fits P e y.1 → Q cs) :
    ∃ a len cap, cs = [.slice a len cap] ∧ len ≤ cap ∧ len ≤ lenMax ∧ (a = none → cap = 0) ∧ (len = 0 ∨ ∃ b off, a = some ⟨b, off, none⟩ ∧ ∀ i, i < len → ∃ c, c.length = sz ∧ Q c ∧ ∀ j, j < sz → w.cell? ⟨b, off + i * sz + j, none⟩ = c[j]?) := by
  subst hsz
  rcases DataW.trod_slice ht h with ⟨rfl, _⟩ | ⟨a, len, cap, elems, rest, n, hn, rfl, rfl, _, hlc, _, hlen, hel, _⟩
  · exact ⟨none, 0, 0, rfl, Nat.le_refl _, Nat.zero_le _, fun _ => rfl, .inl rfl⟩
  refine ⟨some a, len, cap, rfl, hlc, ?_, (fun h => by cases h), ?_⟩
  · have := hf ((elems.length + rest.length) * P.bytesOf e) (by simp [DataW.weights, ht])
    have h2 : (elems.length + rest.length) * 1 ≤ (elems.length + rest.length) * P.bytesOf e := Nat.mul_le_mul_left _ hby
    unfold reachBytes at this; unfold lenMax; omega
  rcases Nat.eq_zero_or_pos len with h0 | h0
  · exact .inl h0
  right
  have each : ∀ i, i < len → ∃ c, c.length = P.cellsOf e ∧ Q c ∧ ∀ j, j < P.cellsOf e → w.cell? ((a.add (i * P.cellsOf e)).add j) = c[j]? := by
    intro i hi
    have h1 := hel i hi
    rw [List.getElem?_eq_getElem (by omega)] at h1
    obtain ⟨c, hc, hd⟩ := Option.bind_eq_some_iff.1 h1
    obtain ⟨_, h3, h4⟩ := World.cells?_some hc
    refine ⟨c, h3, hQ n hn _ _ hd (fun m hm => hf m ?_), h4⟩
    simp only [DataW.weights, ht, List.mem_cons, List.mem_append]
    exact .inr (.inl (weightsAll_mem hm (List.mem_map.2 ⟨_, List.getElem_mem _, rfl⟩)))
  obtain ⟨b, off, spot⟩ := a
  have hspot : spot = none := by
    obtain ⟨c, hc, _, hj⟩ := each 0 h0
    have := hj 0 hpos
    rw [List.getElem?_eq_getElem (by omega)] at this
    simpa [Addr.add] using World.cell?_spot this
  subst hspot
  have hadd : ∀ k : Nat, (⟨b, off, none⟩ : Addr).add k = ⟨b, off + k, none⟩ := by
    intro k; unfold Addr.add; split
    · rename_i h; simp [h]
    · rfl
  have hadd2 : ∀ m k : Nat, (⟨b, m, none⟩ : Addr).add k = ⟨b, m + k, none⟩ := by
    intro m k; unfold Addr.add; split
    · rename_i h; simp [h]
    · rfl
  refine ⟨b, off, rfl, fun i hi => ?_⟩
  obtain ⟨c, h1, h2, h3⟩ := each i hi
  refine ⟨c, h1, h2, fun j hj => ?_⟩
  rw [← h3 j hj, hadd, hadd2]

/-- A field of a struct weighs no more than the struct. -/
theorem fits_part {t : TypeId} {fs : Array Field} {xs : List (DataW H × List MemPlace)} (ht : P.underlying t = some (.struct fs)) (hf : Fits P t (.agg (xs.map (·.1)))) {i : Nat} {f : Field} {y : DataW H × List MemPlace} (hfi : fs[i]? = some f) (hy : xs[i]? = some y) : Fits P f.type y.1 := by
  intro n hn
  refine hf n ?_
  simp only [DataW.weights, ht]
  exact DataW.weights_mem_each (j := i) (t := f.type) (d := y.1) (by simp [hfi]) (by simp [hy]) n hn
end

section
variable {H : Type} {enc : TypeId × Value → H} {w : World} {sp : Nat → Bool} {held : Bool}

theorem read_strs {fuel : Nat} {cs : List Value} {x : DataW H × List MemPlace} (h : DataW.trod enc Tryz.prog w 0 sp held fuel 37 cs = some x) (hf : Fits Tryz.prog 37 x.1) :
    ∃ a c l, cs = [.slice a l.length c] ∧ l.length ≤ c ∧ l.length ≤ lenMax ∧ (a = none → c = 0) ∧ StrRow w a l := by
  obtain ⟨a, len, cap, rfl, h1, h2, h3, h4⟩ := read_slice (Q := fun c => ∃ s : Str, c = [.string s] ∧ s.size ≤ lenMax) Tryz.underlying37 (by kernel_rfl) (by decide : 0 < 1) (of_decide_eq_true (by kernel_rfl)) h hf (fun n _ cs y hy hfy => read_string Tryz.underlying9 hy hfy)
  rcases h4 with rfl | ⟨b, off, rfl, h4⟩
  · exact ⟨a, cap, [], rfl, Nat.zero_le _, Nat.zero_le _, h3, .inl rfl⟩
  · obtain ⟨l, hl, hr⟩ := choose_list (R := fun i (s : Str) => w.cell? ⟨b, off + i, none⟩ = some (.string s) ∧ s.size ≤ lenMax) (n := len) fun i hi => by
      obtain ⟨c, _, ⟨s, rfl, hs⟩, hc⟩ := h4 i hi
      exact ⟨s, by simpa using hc 0 (by omega), hs⟩
    subst hl
    exact ⟨_, cap, l, rfl, h1, h2, h3, .inr ⟨b, off, rfl, hr⟩⟩

theorem read_ex : ∀ (fuel : Nat) (cs : List Value) (x : DataW H × List MemPlace), DataW.trod enc Tryz.prog w 0 sp held fuel 40 cs = some x → Fits Tryz.prog 40 x.1 →
    ∃ e v0 v1 v2 v3 v4, cs = [v0, v1, v2, v3, v4] ∧ IsEx w (.agg #[v0, v1, v2, v3, v4]) e := by
  intro fuel
  induction fuel using Nat.strongRecOn with
  | ind fuel ih =>
  intro cs x h hf
  obtain ⟨xs, n, hn, rfl, hlen, hxs, hfld⟩ := DataW.trod_struct Tryz.underlying40 h
  have hc : Tryz.prog.cellsOf 40 = 5 := by kernel_rfl
  have c1 : Tryz.prog.cellsOf 3 = 1 := by kernel_rfl
  have c2 : Tryz.prog.cellsOf 9 = 1 := by kernel_rfl
  have c3 : Tryz.prog.cellsOf 37 = 1 := by kernel_rfl
  have c4 : Tryz.prog.cellsOf 38 = 1 := by kernel_rfl
  rw [hc] at hlen
  obtain ⟨v0, v1, v2, v3, v4, rfl⟩ := list5 hlen
  have p0 : DataW.trod enc Tryz.prog w 0 sp held n 3 [v0] = xs[0]? := by have := hfld 0 { name := "Kind", type := 3, offset := 0, embedded := false, tag := "", pkgPath := "", byteOffset := 0 } rfl; dsimp only at this; rw [c1] at this; exact this
  have p1 : DataW.trod enc Tryz.prog w 0 sp held n 9 [v1] = xs[1]? := by have := hfld 1 { name := "Name", type := 9, offset := 1, embedded := false, tag := "", pkgPath := "", byteOffset := 8 } rfl; dsimp only at this; rw [c2] at this; exact this
  have p2 : DataW.trod enc Tryz.prog w 0 sp held n 3 [v2] = xs[2]? := by have := hfld 2 { name := "Num", type := 3, offset := 2, embedded := false, tag := "", pkgPath := "", byteOffset := 24 } rfl; dsimp only at this; rw [c1] at this; exact this
  have p3 : DataW.trod enc Tryz.prog w 0 sp held n 37 [v3] = xs[3]? := by have := hfld 3 { name := "Names", type := 37, offset := 3, embedded := false, tag := "", pkgPath := "", byteOffset := 32 } rfl; dsimp only at this; rw [c3] at this; exact this
  have p4 : DataW.trod enc Tryz.prog w 0 sp held n 38 [v4] = xs[4]? := by have := hfld 4 { name := "Kids", type := 38, offset := 4, embedded := false, tag := "", pkgPath := "", byteOffset := 56 } rfl; dsimp only at this; rw [c4] at this; exact this
  have hx5 : xs.length = 5 := by simpa using hxs
  obtain ⟨y0, hy0⟩ : ∃ y, xs[0]? = some y := ⟨_, List.getElem?_eq_getElem (by omega)⟩
  obtain ⟨y1, hy1⟩ : ∃ y, xs[1]? = some y := ⟨_, List.getElem?_eq_getElem (by omega)⟩
  obtain ⟨y2, hy2⟩ : ∃ y, xs[2]? = some y := ⟨_, List.getElem?_eq_getElem (by omega)⟩
  obtain ⟨y3, hy3⟩ : ∃ y, xs[3]? = some y := ⟨_, List.getElem?_eq_getElem (by omega)⟩
  obtain ⟨y4, hy4⟩ : ∃ y, xs[4]? = some y := ⟨_, List.getElem?_eq_getElem (by omega)⟩
  rw [hy0] at p0; rw [hy1] at p1; rw [hy2] at p2; rw [hy3] at p3; rw [hy4] at p4
  obtain ⟨k, e0, hk⟩ := read_i64 Tryz.underlying3 p0
  obtain ⟨s, e1, hs⟩ := read_string Tryz.underlying9 p1 (fits_part Tryz.underlying40 hf rfl hy1)
  obtain ⟨m, e2, hm⟩ := read_i64 Tryz.underlying3 p2
  obtain ⟨a1, d1, l, e3, hl1, hl2, hl3, hl4⟩ := read_strs p3 (fits_part Tryz.underlying40 hf rfl hy3)
  obtain ⟨a2, len, cap, e4, k1, k2, k3, k4⟩ := read_slice (Q := fun c => ∃ e v0 v1 v2 v3 v4, c = [v0, v1, v2, v3, v4] ∧ IsEx w (.agg #[v0, v1, v2, v3, v4]) e) Tryz.underlying38 hc (by decide) (of_decide_eq_true (by kernel_rfl)) p4 (fits_part Tryz.underlying40 hf rfl hy4)
    (fun n' hn' cs y hy hfy => ih n' (by omega) cs y hy hfy)
  simp only [List.cons.injEq, and_true] at e0 e1 e2 e3 e4
  subst e0 e1 e2 e3 e4
  rcases k4 with rfl | ⟨b, off, rfl, k4⟩
  · exact ⟨.mk k s m l [], _, _, _, _, _, rfl, IsEx.shut (ks := []) hk hm hs hl2 (Nat.zero_le _) hl4 (.inl rfl) ⟨hl3, Nat.zero_le _⟩⟩
  · obtain ⟨ks, hks, hr⟩ := choose_list (R := fun i (e : Ex) => ∃ v0 v1 v2 v3 v4, w.cell? ⟨b, off + i * 5, none⟩ = some v0 ∧ w.cell? ⟨b, off + i * 5 + 1, none⟩ = some v1 ∧ w.cell? ⟨b, off + i * 5 + 2, none⟩ = some v2 ∧ w.cell? ⟨b, off + i * 5 + 3, none⟩ = some v3 ∧ w.cell? ⟨b, off + i * 5 + 4, none⟩ = some v4 ∧ IsEx w (.agg #[v0, v1, v2, v3, v4]) e) (n := len) fun i hi => by
      obtain ⟨c, _, ⟨e, v0, v1, v2, v3, v4, rfl, he⟩, hc⟩ := k4 i hi
      exact ⟨e, v0, v1, v2, v3, v4, by simpa using hc 0 (by omega), by simpa using hc 1 (by omega), by simpa using hc 2 (by omega), by simpa using hc 3 (by omega), by simpa using hc 4 (by omega), he⟩
    subst hks
    exact ⟨.mk k s m l ks, _, _, _, _, _, rfl, IsEx.shut hk hm hs hl2 k2 hl4 (.inr ⟨b, off, rfl, hr⟩) ⟨hl3, k1⟩⟩
end
end Go.Proofs.YtpdfeadajgokkaaGreatDoor

namespace Go.Proofs.YtpdfeadajgokkaaGreatDoor
open Go.RowKit

theorem list2 {α : Type} {l : List α} (h : l.length = 2) : ∃ a b, l = [a, b] := by
  rcases l with _ | ⟨a, _ | ⟨b, _ | ⟨c, r⟩⟩⟩ <;> simp at h
  exact ⟨a, b, rfl⟩
theorem list3 {α : Type} {l : List α} (h : l.length = 3) : ∃ a b c, l = [a, b, c] := by
  rcases l with _ | ⟨a, _ | ⟨b, _ | ⟨c, _ | ⟨d, r⟩⟩⟩⟩ <;> simp at h
  exact ⟨a, b, c, rfl⟩
theorem list6 {α : Type} {l : List α} (h : l.length = 6) : ∃ a b c d e f, l = [a, b, c, d, e, f] := by
  rcases l with _ | ⟨a, _ | ⟨b, _ | ⟨c, _ | ⟨d, _ | ⟨e, _ | ⟨f, _ | ⟨g, r⟩⟩⟩⟩⟩⟩⟩ <;> simp at h
  exact ⟨a, b, c, d, e, f, rfl⟩

section
variable {H : Type} {enc : TypeId × Value → H} {w : World} {sp : Nat → Bool} {held : Bool}
theorem read_sg : ∀ (fuel : Nat) (cs : List Value) (x : DataW H × List MemPlace), DataW.trod enc Tryz.prog w 0 sp held fuel 28 cs = some x → Fits Tryz.prog 28 x.1 →
    ∃ (e : Sg) (v0 v1 : Value), cs = [v0, v1] ∧ IsSg w (.agg #[v0, v1]) e := by
  intro fuel
  induction fuel using Nat.strongRecOn with
  | ind fuel ih =>
  intro cs x h hf
  obtain ⟨xs, n, hn, rfl, hlen, hxs, hfld⟩ := DataW.trod_struct Tryz.underlying28 h
  have hc : Tryz.prog.cellsOf 28 = 2 := by kernel_rfl
  have c0 : Tryz.prog.cellsOf 26 = 1 := by kernel_rfl
  have c1 : Tryz.prog.cellsOf 9 = 1 := by kernel_rfl
  rw [hc] at hlen
  obtain ⟨v0, v1, rfl⟩ := list2 hlen
  have p0 : DataW.trod enc Tryz.prog w 0 sp held n 9 [v0] = xs[0]? := by have := hfld 0 { name := "Name", type := 9, offset := 0, embedded := false, tag := "", pkgPath := "", byteOffset := 0 } rfl; dsimp only at this; rw [c1] at this; exact this
  have p1 : DataW.trod enc Tryz.prog w 0 sp held n 26 [v1] = xs[1]? := by have := hfld 1 { name := "Args", type := 26, offset := 1, embedded := false, tag := "", pkgPath := "", byteOffset := 16 } rfl; dsimp only at this; rw [c0] at this; exact this
  have hx5 : xs.length = 2 := by simpa using hxs
  obtain ⟨y0, hy0⟩ : ∃ y, xs[0]? = some y := ⟨_, List.getElem?_eq_getElem (by omega)⟩
  rw [hy0] at p0
  obtain ⟨y1, hy1⟩ : ∃ y, xs[1]? = some y := ⟨_, List.getElem?_eq_getElem (by omega)⟩
  rw [hy1] at p1
  obtain ⟨s0, e0, hs0⟩ := read_string Tryz.underlying9 p0 (fits_part Tryz.underlying28 hf rfl hy0)
  obtain ⟨a1, len1, cap1, e1, ra1, rb1, rc1, rd1⟩ := read_slice (Q := fun c => ∃ (e : Sg) (w0 w1 : Value), c = [w0, w1] ∧ IsSg w (.agg #[w0, w1]) e) Tryz.underlying26 (show Tryz.prog.cellsOf 28 = 2 by kernel_rfl) (by decide) (of_decide_eq_true (by kernel_rfl)) p1 (fits_part Tryz.underlying28 hf rfl hy1)
    (fun n' hn' cs y hy hfy => ih n' (by omega) cs y hy hfy)
  simp only [List.cons.injEq, and_true] at e0 e1
  subst e0
  subst e1
  obtain ⟨r1, hr1, hR1⟩ : ∃ l : List Sg, l.length = len1 ∧ (l = [] ∨ ∃ b off, a1 = some ⟨b, off, none⟩ ∧ ∀ i (h : i < l.length), ∃ w0 w1, w.cell? ⟨b, off + i * 2, none⟩ = some w0 ∧ w.cell? ⟨b, off + i * 2 + 1, none⟩ = some w1 ∧ IsSg w (.agg #[w0, w1]) l[i]) := by
    rcases rd1 with h0 | ⟨b, off, ha, h4⟩
    · exact ⟨[], by simp [h0], .inl rfl⟩
    · obtain ⟨l, hl, hr⟩ := choose_list (n := len1) (R := fun i (e : Sg) => ∃ w0 w1, w.cell? ⟨b, off + i * 2, none⟩ = some w0 ∧ w.cell? ⟨b, off + i * 2 + 1, none⟩ = some w1 ∧ IsSg w (.agg #[w0, w1]) e) fun i hi => by
        obtain ⟨c, _, ⟨e, w0, w1, rfl, he⟩, hc⟩ := h4 i hi
        exact ⟨e, w0, w1, by simpa using hc 0 (by omega), by simpa using hc 1 (by omega), he⟩
      exact ⟨l, hl, .inr ⟨b, off, ha, hr⟩⟩
  subst hr1
  exact ⟨.mk s0 r1, _, _, rfl, IsSg.shut hs0 rb1 hR1⟩
theorem read_form : ∀ (fuel : Nat) (cs : List Value) (x : DataW H × List MemPlace), DataW.trod enc Tryz.prog w 0 sp held fuel 46 cs = some x → Fits Tryz.prog 46 x.1 →
    ∃ (e : Sg) (v0 v1 : Value), cs = [v0, v1] ∧ IsSg w (.agg #[v0, v1]) e := by
  intro fuel
  intro cs x h hf
  obtain ⟨xs, n, hn, rfl, hlen, hxs, hfld⟩ := DataW.trod_struct Tryz.underlying46 h
  have hc : Tryz.prog.cellsOf 46 = 2 := by kernel_rfl
  have c0 : Tryz.prog.cellsOf 26 = 1 := by kernel_rfl
  have c1 : Tryz.prog.cellsOf 9 = 1 := by kernel_rfl
  rw [hc] at hlen
  obtain ⟨v0, v1, rfl⟩ := list2 hlen
  have p0 : DataW.trod enc Tryz.prog w 0 sp held n 9 [v0] = xs[0]? := by have := hfld 0 { name := "Name", type := 9, offset := 0, embedded := false, tag := "", pkgPath := "", byteOffset := 0 } rfl; dsimp only at this; rw [c1] at this; exact this
  have p1 : DataW.trod enc Tryz.prog w 0 sp held n 26 [v1] = xs[1]? := by have := hfld 1 { name := "Args", type := 26, offset := 1, embedded := false, tag := "", pkgPath := "", byteOffset := 16 } rfl; dsimp only at this; rw [c0] at this; exact this
  have hx5 : xs.length = 2 := by simpa using hxs
  obtain ⟨y0, hy0⟩ : ∃ y, xs[0]? = some y := ⟨_, List.getElem?_eq_getElem (by omega)⟩
  rw [hy0] at p0
  obtain ⟨y1, hy1⟩ : ∃ y, xs[1]? = some y := ⟨_, List.getElem?_eq_getElem (by omega)⟩
  rw [hy1] at p1
  obtain ⟨s0, e0, hs0⟩ := read_string Tryz.underlying9 p0 (fits_part Tryz.underlying46 hf rfl hy0)
  obtain ⟨a1, len1, cap1, e1, ra1, rb1, rc1, rd1⟩ := read_slice (Q := fun c => ∃ (e : Sg) (w0 w1 : Value), c = [w0, w1] ∧ IsSg w (.agg #[w0, w1]) e) Tryz.underlying26 (show Tryz.prog.cellsOf 28 = 2 by kernel_rfl) (by decide) (of_decide_eq_true (by kernel_rfl)) p1 (fits_part Tryz.underlying46 hf rfl hy1)
    (fun n' hn' cs y hy hfy => read_sg n' cs y hy hfy)
  simp only [List.cons.injEq, and_true] at e0 e1
  subst e0
  subst e1
  obtain ⟨r1, hr1, hR1⟩ : ∃ l : List Sg, l.length = len1 ∧ (l = [] ∨ ∃ b off, a1 = some ⟨b, off, none⟩ ∧ ∀ i (h : i < l.length), ∃ w0 w1, w.cell? ⟨b, off + i * 2, none⟩ = some w0 ∧ w.cell? ⟨b, off + i * 2 + 1, none⟩ = some w1 ∧ IsSg w (.agg #[w0, w1]) l[i]) := by
    rcases rd1 with h0 | ⟨b, off, ha, h4⟩
    · exact ⟨[], by simp [h0], .inl rfl⟩
    · obtain ⟨l, hl, hr⟩ := choose_list (n := len1) (R := fun i (e : Sg) => ∃ w0 w1, w.cell? ⟨b, off + i * 2, none⟩ = some w0 ∧ w.cell? ⟨b, off + i * 2 + 1, none⟩ = some w1 ∧ IsSg w (.agg #[w0, w1]) e) fun i hi => by
        obtain ⟨c, _, ⟨e, w0, w1, rfl, he⟩, hc⟩ := h4 i hi
        exact ⟨e, w0, w1, by simpa using hc 0 (by omega), by simpa using hc 1 (by omega), he⟩
      exact ⟨l, hl, .inr ⟨b, off, ha, hr⟩⟩
  subst hr1
  exact ⟨.mk s0 r1, _, _, rfl, IsSg.shut hs0 rb1 hR1⟩
theorem read_dt : ∀ (fuel : Nat) (cs : List Value) (x : DataW H × List MemPlace), DataW.trod enc Tryz.prog w 0 sp held fuel 49 cs = some x → Fits Tryz.prog 49 x.1 →
    ∃ (e : Dt) (v0 v1 v2 : Value), cs = [v0, v1, v2] ∧ IsDt w (.agg #[v0, v1, v2]) e := by
  intro fuel
  intro cs x h hf
  obtain ⟨xs, n, hn, rfl, hlen, hxs, hfld⟩ := DataW.trod_struct Tryz.underlying49 h
  have hc : Tryz.prog.cellsOf 49 = 3 := by kernel_rfl
  have c0 : Tryz.prog.cellsOf 47 = 1 := by kernel_rfl
  have c1 : Tryz.prog.cellsOf 37 = 1 := by kernel_rfl
  have c2 : Tryz.prog.cellsOf 9 = 1 := by kernel_rfl
  rw [hc] at hlen
  obtain ⟨v0, v1, v2, rfl⟩ := list3 hlen
  have p0 : DataW.trod enc Tryz.prog w 0 sp held n 9 [v0] = xs[0]? := by have := hfld 0 { name := "Name", type := 9, offset := 0, embedded := false, tag := "", pkgPath := "", byteOffset := 0 } rfl; dsimp only at this; rw [c2] at this; exact this
  have p1 : DataW.trod enc Tryz.prog w 0 sp held n 37 [v1] = xs[1]? := by have := hfld 1 { name := "Params", type := 37, offset := 1, embedded := false, tag := "", pkgPath := "", byteOffset := 16 } rfl; dsimp only at this; rw [c1] at this; exact this
  have p2 : DataW.trod enc Tryz.prog w 0 sp held n 47 [v2] = xs[2]? := by have := hfld 2 { name := "Forms", type := 47, offset := 2, embedded := false, tag := "", pkgPath := "", byteOffset := 40 } rfl; dsimp only at this; rw [c0] at this; exact this
  have hx5 : xs.length = 3 := by simpa using hxs
  obtain ⟨y0, hy0⟩ : ∃ y, xs[0]? = some y := ⟨_, List.getElem?_eq_getElem (by omega)⟩
  rw [hy0] at p0
  obtain ⟨y1, hy1⟩ : ∃ y, xs[1]? = some y := ⟨_, List.getElem?_eq_getElem (by omega)⟩
  rw [hy1] at p1
  obtain ⟨y2, hy2⟩ : ∃ y, xs[2]? = some y := ⟨_, List.getElem?_eq_getElem (by omega)⟩
  rw [hy2] at p2
  obtain ⟨s0, e0, hs0⟩ := read_string Tryz.underlying9 p0 (fits_part Tryz.underlying49 hf rfl hy0)
  obtain ⟨a1, d1, l1, e1, hla1, hlb1, hlc1, hld1⟩ := read_strs p1 (fits_part Tryz.underlying49 hf rfl hy1)
  obtain ⟨a2, len2, cap2, e2, ra2, rb2, rc2, rd2⟩ := read_slice (Q := fun c => ∃ (e : Sg) (w0 w1 : Value), c = [w0, w1] ∧ IsSg w (.agg #[w0, w1]) e) Tryz.underlying47 (show Tryz.prog.cellsOf 46 = 2 by kernel_rfl) (by decide) (of_decide_eq_true (by kernel_rfl)) p2 (fits_part Tryz.underlying49 hf rfl hy2)
    (fun n' hn' cs y hy hfy => read_form n' cs y hy hfy)
  simp only [List.cons.injEq, and_true] at e0 e1 e2
  subst e0
  subst e1
  subst e2
  obtain ⟨r2, hr2, hR2⟩ : ∃ l : List Sg, l.length = len2 ∧ (l = [] ∨ ∃ b off, a2 = some ⟨b, off, none⟩ ∧ ∀ i (h : i < l.length), ∃ w0 w1, w.cell? ⟨b, off + i * 2, none⟩ = some w0 ∧ w.cell? ⟨b, off + i * 2 + 1, none⟩ = some w1 ∧ IsSg w (.agg #[w0, w1]) l[i]) := by
    rcases rd2 with h0 | ⟨b, off, ha, h4⟩
    · exact ⟨[], by simp [h0], .inl rfl⟩
    · obtain ⟨l, hl, hr⟩ := choose_list (n := len2) (R := fun i (e : Sg) => ∃ w0 w1, w.cell? ⟨b, off + i * 2, none⟩ = some w0 ∧ w.cell? ⟨b, off + i * 2 + 1, none⟩ = some w1 ∧ IsSg w (.agg #[w0, w1]) e) fun i hi => by
        obtain ⟨c, _, ⟨e, w0, w1, rfl, he⟩, hc⟩ := h4 i hi
        exact ⟨e, w0, w1, by simpa using hc 0 (by omega), by simpa using hc 1 (by omega), he⟩
      exact ⟨l, hl, .inr ⟨b, off, ha, hr⟩⟩
  subst hr2
  exact ⟨⟨s0, l1, r2⟩, _, _, _, rfl, _, _, _, _, rfl, hlc1, hs0, hlb1, rb2, hld1, hR2⟩
theorem read_df : ∀ (fuel : Nat) (cs : List Value) (x : DataW H × List MemPlace), DataW.trod enc Tryz.prog w 0 sp held fuel 51 cs = some x → Fits Tryz.prog 51 x.1 →
    ∃ (e : Df) (v0 v1 v2 v3 v4 v5 : Value), cs = [v0, v1, v2, v3, v4, v5] ∧ IsDf w (.agg #[v0, v1, v2, v3, v4, v5]) e := by
  intro fuel
  intro cs x h hf
  obtain ⟨xs, n, hn, rfl, hlen, hxs, hfld⟩ := DataW.trod_struct Tryz.underlying51 h
  have hc : Tryz.prog.cellsOf 51 = 6 := by kernel_rfl
  have c0 : Tryz.prog.cellsOf 40 = 5 := by kernel_rfl
  have c1 : Tryz.prog.cellsOf 9 = 1 := by kernel_rfl
  rw [hc] at hlen
  obtain ⟨v0, v1, v2, v3, v4, v5, rfl⟩ := list6 hlen
  have p0 : DataW.trod enc Tryz.prog w 0 sp held n 9 [v0] = xs[0]? := by have := hfld 0 { name := "Name", type := 9, offset := 0, embedded := false, tag := "", pkgPath := "", byteOffset := 0 } rfl; dsimp only at this; rw [c1] at this; exact this
  have p1 : DataW.trod enc Tryz.prog w 0 sp held n 40 [v1, v2, v3, v4, v5] = xs[1]? := by have := hfld 1 { name := "Body", type := 40, offset := 1, embedded := false, tag := "", pkgPath := "", byteOffset := 16 } rfl; dsimp only at this; rw [c0] at this; exact this
  have hx5 : xs.length = 2 := by simpa using hxs
  obtain ⟨y0, hy0⟩ : ∃ y, xs[0]? = some y := ⟨_, List.getElem?_eq_getElem (by omega)⟩
  rw [hy0] at p0
  obtain ⟨y1, hy1⟩ : ∃ y, xs[1]? = some y := ⟨_, List.getElem?_eq_getElem (by omega)⟩
  rw [hy1] at p1
  obtain ⟨s0, e0, hs0⟩ := read_string Tryz.underlying9 p0 (fits_part Tryz.underlying51 hf rfl hy0)
  obtain ⟨b1, u1_0, u1_1, u1_2, u1_3, u1_4, e1, hb1⟩ := read_ex _ _ _ p1 (fits_part Tryz.underlying51 hf rfl hy1)
  simp only [List.cons.injEq, and_true] at e0 e1
  subst e0
  obtain ⟨rfl, rfl, rfl, rfl, rfl⟩ := e1
  exact ⟨⟨s0, b1⟩, _, _, _, _, _, _, rfl, _, _, _, _, _, rfl, hs0, hb1⟩
theorem read_pg : ∀ (fuel : Nat) (cs : List Value) (x : DataW H × List MemPlace), DataW.trod enc Tryz.prog w 0 sp held fuel 25 cs = some x → Fits Tryz.prog 25 x.1 →
    ∃ (e : Pg) (v0 v1 : Value), cs = [v0, v1] ∧ IsPg w (.agg #[v0, v1]) e := by
  intro fuel
  intro cs x h hf
  obtain ⟨xs, n, hn, rfl, hlen, hxs, hfld⟩ := DataW.trod_struct Tryz.underlying25 h
  have hc : Tryz.prog.cellsOf 25 = 2 := by kernel_rfl
  have c0 : Tryz.prog.cellsOf 22 = 1 := by kernel_rfl
  have c1 : Tryz.prog.cellsOf 23 = 1 := by kernel_rfl
  rw [hc] at hlen
  obtain ⟨v0, v1, rfl⟩ := list2 hlen
  have p0 : DataW.trod enc Tryz.prog w 0 sp held n 22 [v0] = xs[0]? := by have := hfld 0 { name := "Datas", type := 22, offset := 0, embedded := false, tag := "", pkgPath := "", byteOffset := 0 } rfl; dsimp only at this; rw [c0] at this; exact this
  have p1 : DataW.trod enc Tryz.prog w 0 sp held n 23 [v1] = xs[1]? := by have := hfld 1 { name := "Defs", type := 23, offset := 1, embedded := false, tag := "", pkgPath := "", byteOffset := 24 } rfl; dsimp only at this; rw [c1] at this; exact this
  have hx5 : xs.length = 2 := by simpa using hxs
  obtain ⟨y0, hy0⟩ : ∃ y, xs[0]? = some y := ⟨_, List.getElem?_eq_getElem (by omega)⟩
  rw [hy0] at p0
  obtain ⟨y1, hy1⟩ : ∃ y, xs[1]? = some y := ⟨_, List.getElem?_eq_getElem (by omega)⟩
  rw [hy1] at p1
  obtain ⟨a0, len0, cap0, e0, ra0, rb0, rc0, rd0⟩ := read_slice (Q := fun c => ∃ (e : Dt) (w0 w1 w2 : Value), c = [w0, w1, w2] ∧ IsDt w (.agg #[w0, w1, w2]) e) Tryz.underlying22 (show Tryz.prog.cellsOf 49 = 3 by kernel_rfl) (by decide) (of_decide_eq_true (by kernel_rfl)) p0 (fits_part Tryz.underlying25 hf rfl hy0)
    (fun n' hn' cs y hy hfy => read_dt n' cs y hy hfy)
  obtain ⟨a1, len1, cap1, e1, ra1, rb1, rc1, rd1⟩ := read_slice (Q := fun c => ∃ (e : Df) (w0 w1 w2 w3 w4 w5 : Value), c = [w0, w1, w2, w3, w4, w5] ∧ IsDf w (.agg #[w0, w1, w2, w3, w4, w5]) e) Tryz.underlying23 (show Tryz.prog.cellsOf 51 = 6 by kernel_rfl) (by decide) (of_decide_eq_true (by kernel_rfl)) p1 (fits_part Tryz.underlying25 hf rfl hy1)
    (fun n' hn' cs y hy hfy => read_df n' cs y hy hfy)
  simp only [List.cons.injEq, and_true] at e0 e1
  subst e0
  subst e1
  obtain ⟨r0, hr0, hR0⟩ : ∃ l : List Dt, l.length = len0 ∧ (l = [] ∨ ∃ b off, a0 = some ⟨b, off, none⟩ ∧ ∀ i (h : i < l.length), ∃ w0 w1 w2, w.cell? ⟨b, off + i * 3, none⟩ = some w0 ∧ w.cell? ⟨b, off + i * 3 + 1, none⟩ = some w1 ∧ w.cell? ⟨b, off + i * 3 + 2, none⟩ = some w2 ∧ IsDt w (.agg #[w0, w1, w2]) l[i]) := by
    rcases rd0 with h0 | ⟨b, off, ha, h4⟩
    · exact ⟨[], by simp [h0], .inl rfl⟩
    · obtain ⟨l, hl, hr⟩ := choose_list (n := len0) (R := fun i (e : Dt) => ∃ w0 w1 w2, w.cell? ⟨b, off + i * 3, none⟩ = some w0 ∧ w.cell? ⟨b, off + i * 3 + 1, none⟩ = some w1 ∧ w.cell? ⟨b, off + i * 3 + 2, none⟩ = some w2 ∧ IsDt w (.agg #[w0, w1, w2]) e) fun i hi => by
        obtain ⟨c, _, ⟨e, w0, w1, w2, rfl, he⟩, hc⟩ := h4 i hi
        exact ⟨e, w0, w1, w2, by simpa using hc 0 (by omega), by simpa using hc 1 (by omega), by simpa using hc 2 (by omega), he⟩
      exact ⟨l, hl, .inr ⟨b, off, ha, hr⟩⟩
  subst hr0
  obtain ⟨r1, hr1, hR1⟩ : ∃ l : List Df, l.length = len1 ∧ (l = [] ∨ ∃ b off, a1 = some ⟨b, off, none⟩ ∧ ∀ i (h : i < l.length), ∃ w0 w1 w2 w3 w4 w5, w.cell? ⟨b, off + i * 6, none⟩ = some w0 ∧ w.cell? ⟨b, off + i * 6 + 1, none⟩ = some w1 ∧ w.cell? ⟨b, off + i * 6 + 2, none⟩ = some w2 ∧ w.cell? ⟨b, off + i * 6 + 3, none⟩ = some w3 ∧ w.cell? ⟨b, off + i * 6 + 4, none⟩ = some w4 ∧ w.cell? ⟨b, off + i * 6 + 5, none⟩ = some w5 ∧ IsDf w (.agg #[w0, w1, w2, w3, w4, w5]) l[i]) := by
    rcases rd1 with h0 | ⟨b, off, ha, h4⟩
    · exact ⟨[], by simp [h0], .inl rfl⟩
    · obtain ⟨l, hl, hr⟩ := choose_list (n := len1) (R := fun i (e : Df) => ∃ w0 w1 w2 w3 w4 w5, w.cell? ⟨b, off + i * 6, none⟩ = some w0 ∧ w.cell? ⟨b, off + i * 6 + 1, none⟩ = some w1 ∧ w.cell? ⟨b, off + i * 6 + 2, none⟩ = some w2 ∧ w.cell? ⟨b, off + i * 6 + 3, none⟩ = some w3 ∧ w.cell? ⟨b, off + i * 6 + 4, none⟩ = some w4 ∧ w.cell? ⟨b, off + i * 6 + 5, none⟩ = some w5 ∧ IsDf w (.agg #[w0, w1, w2, w3, w4, w5]) e) fun i hi => by
        obtain ⟨c, _, ⟨e, w0, w1, w2, w3, w4, w5, rfl, he⟩, hc⟩ := h4 i hi
        exact ⟨e, w0, w1, w2, w3, w4, w5, by simpa using hc 0 (by omega), by simpa using hc 1 (by omega), by simpa using hc 2 (by omega), by simpa using hc 3 (by omega), by simpa using hc 4 (by omega), by simpa using hc 5 (by omega), he⟩
      exact ⟨l, hl, .inr ⟨b, off, ha, hr⟩⟩
  subst hr1
  exact ⟨⟨r0, r1⟩, _, _, rfl, _, _, _, _, rfl, rb0, rb1, hR0, hR1⟩
end
end Go.Proofs.YtpdfeadajgokkaaGreatDoor
