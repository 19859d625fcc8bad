/- Rows of facts that are owned. -/
import Derived.Test.YticjpeefhppjoaaDoorTyK
namespace Go.Proofs.YticjpeefhppjoaaDoor
open Go.RowKit

theorem FaX.later {X Y : Nat → Prop} {w W : World} (hk : KeepsBut X w W) (hY : ∀ b, b < w.heap.size → Y b → X b) {v : Value} {f : Fa} (h : FaX X w v f) : FaX Y W v f := by
  obtain ⟨v1, v2, v3, h0, h1, h2⟩ := h
  exact ⟨v1, v2, v3, h0, h1, TyX.later hk hY h2⟩
theorem FaX.less {X Y : Nat → Prop} {w : World} {v : Value} {f : Fa} (h : FaX X w v f) (hY : ∀ b, Y b → X b) : FaX Y w v f := FaX.later (KeepsBut.refl _ _) (fun b _ h => hY b h) h
/-- The cells of a row of facts that is owned. -/
def FaCells (X : Nat → Prop) (w : World) (cs : List Value) (es : List Fa) : Prop :=
  ∀ i (h : i < es.length), ∃ v0 v1 v2 v3, cs[i * 4]? = some v0 ∧ cs[i * 4 + 1]? = some v1 ∧ cs[i * 4 + 2]? = some v2 ∧ cs[i * 4 + 3]? = some v3 ∧ FaX X w (.agg #[v0, v1, v2, v3]) es[i]
theorem FaCells.later {X Y : Nat → Prop} {w W : World} {cs : List Value} {es : List Fa} (h : FaCells X w cs es) (hk : KeepsBut X w W) (hY : ∀ b, b < w.heap.size → Y b → X b) : FaCells Y W cs es := fun i hi => by
  obtain ⟨v0, v1, v2, v3, c0, c1, c2, c3, hx⟩ := h i hi
  exact ⟨v0, v1, v2, v3, c0, c1, c2, c3, FaX.later hk hY hx⟩
theorem FaCells.snoc {X : Nat → Prop} {w : World} {cs : List Value} {es : List Fa} {u0 u1 u2 u3 : Value} {e : Fa} (h : FaCells X w cs es) (hl : cs.length = es.length * 4) (he : FaX X w (.agg #[u0, u1, u2, u3]) e) : FaCells X w (cs ++ [u0, u1, u2, u3]) (es ++ [e]) := by
  intro i hi
  rw [List.length_append] at hi
  by_cases hlt : i < es.length
  · obtain ⟨v0, v1, v2, v3, c0, c1, c2, c3, hx⟩ := h i hlt
    refine ⟨v0, v1, v2, v3, ?_, ?_, ?_, ?_, ?_⟩
    · rw [List.getElem?_append_left (by omega)]; exact c0
    · rw [List.getElem?_append_left (by omega)]; exact c1
    · rw [List.getElem?_append_left (by omega)]; exact c2
    · rw [List.getElem?_append_left (by omega)]; exact c3
    · rw [List.getElem_append_left hlt]; exact hx
  · have hi' : i = es.length := by simp at hi; omega
    subst hi'
    refine ⟨u0, u1, u2, u3, ?_, ?_, ?_, ?_, ?_⟩
    · rw [List.getElem?_append_right (by omega), hl]; simp
    · rw [List.getElem?_append_right (by omega), hl, show es.length * 4 + 1 - es.length * 4 = 1 by omega]; rfl
    · rw [List.getElem?_append_right (by omega), hl, show es.length * 4 + 2 - es.length * 4 = 2 by omega]; rfl
    · rw [List.getElem?_append_right (by omega), hl, show es.length * 4 + 3 - es.length * 4 = 3 by omega]; rfl
    · rw [List.getElem_append_right (by omega)]
      simpa using he
/-- A row of facts that is owned lies there. -/
theorem FaCells.row {X Y : Nat → Prop} {w : World} {base : Nat} {v : Value} {cs : List Value} {es : List Fa} (h : FaCells Y w cs es) (ho : w.ownsRow base 34 4 v es.length cs) (hX : ∀ b, X b → b < base) (hY : ∀ b, X b → Y b) : ∃ a c, v = .slice a es.length c ∧ (a = none → c = 0) ∧ FaRow X w a es := by
  obtain ⟨a, c, rfl, ha⟩ := ownsRow_form ho
  refine ⟨a, c, rfl, ha, ?_⟩
  obtain ⟨hlen, h2 | ⟨g, cap, cur, hv, hb, hh, hnc, _, hsz, htk⟩⟩ := ho
  · exact .inl (List.length_eq_zero_iff.1 h2.2)
  · simp only [Value.slice.injEq, true_and] at hv
    obtain ⟨rfl, rfl⟩ := hv
    refine .inr ⟨g, 0, rfl, fun h => by have := hX _ h; omega, fun i hi => ?_⟩
    obtain ⟨v0, v1, v2, v3, c0, c1, c2, c3, hx⟩ := h i hi
    have cell : ∀ j x, cs[j]? = some x → w.cell? ⟨g, 0 + j, none⟩ = some x := by
      intro j x hj
      rw [← htk] at hj
      have hj' : cur[j]? = some x := by
        rw [List.getElem?_take] at hj
        split at hj
        · simpa using hj
        · cases hj
      simp [World.cell?, hh, hj']
    exact ⟨v0, v1, v2, v3, cell _ _ c0, by simpa [Nat.add_assoc] using cell _ _ c1, by simpa [Nat.add_assoc] using cell _ _ c2, by simpa [Nat.add_assoc] using cell _ _ c3, hx.less hY⟩

theorem cell_four_new {w : World} {B : Nat} (hB : w.heap.size = B) (x y z u : Value) (t : TypeId) : ∀ j v, [x, y, z, u][j]? = some v → (w.alloc (.cells #[x, y, z, u] t)).cell? ((⟨B, 0, none⟩ : Addr).add j) = some v := by
  subst hB
  intro j v hj
  have h : ∀ o v, (#[x, y, z, u] : Array Value)[o]? = some v → (w.alloc (.cells #[x, y, z, u] t)).cell? ⟨w.heap.size, o, none⟩ = some v := by
    intro o v ho
    rw [World.cell?_alloc_at _ _ _ _ rfl]; exact ho
  match j, hj with
  | 0, hj => exact h 0 v (by simpa using hj)
  | 1, hj => exact h 1 v (by simpa using hj)
  | 2, hj => exact h 2 v (by simpa using hj)
  | 3, hj => exact h 3 v (by simpa using hj)
  | j + 4, hj => simp at hj
theorem Tryd.infoFa : (Tryd.prog.info? 34).map (fun i => (i.zero, i.size, i.bytes)) = some (some (.agg #[.int .i64 0, .string ⟨#[]⟩, .int .i64 0, .slice none 0 0]), 4, 56) := by kernel_rfl
end Go.Proofs.YticjpeefhppjoaaDoor
