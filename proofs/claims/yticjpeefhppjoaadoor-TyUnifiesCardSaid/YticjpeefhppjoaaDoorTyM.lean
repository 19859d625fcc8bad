/- Maps from numbers to types; a type with what holes are in their places. -/
import Derived.Test.YticjpeefhppjoaaDoorTyK
import Derived.Test.YticjpeefhppjoaaDoorMaps
import Derived.Maps.OwnSet
namespace Go.Proofs.YticjpeefhppjoaaDoor
open Go.RowKit
open Go.Maps (Keyed)

def keyN (n : Int) : Lit := .int .i64 n
theorem keyN_inj {a b : Int} (h : keyN a = keyN b) : a = b := by simpa [keyN] using h
def In64 (n : Int) : Prop := -9223372036854775808 ≤ n ∧ n ≤ 9223372036854775807
theorem keyN_of {n : Int} (h : In64 n) : keyOf Tryd.prog 3 (.int .i64 n) = some (keyN n) :=
  Maps.keyOf_int_mk Tryd.underlying3 (by simpa [Lit.wf] using (show IntKind.i64.min ≤ n ∧ n ≤ 9223372036854775807 from h))

theorem MapOf.look2 {P : Program} {w : World} {k t e : TypeId} {b n : Nat} {f : Lit → Option Value} (h : MapOf P w k b n f) (K : Keyed P k) (ht : P.underlying t = some (.map k e)) {z : Value} (hz : (zeroValue e).run P w = .ok z w)
    {key : Value} {kl : Lit} (hkey : keyOf P k key = some kl) : (Instr.lookup t (.map (some b)) key true).run P w = .ok (.tuple #[(f kl).getD z, .bool (f kl).isSome]) w := by
  obtain ⟨D, ⟨es, clock, hb, F, _, rfl⟩, h2⟩ := h
  rcases Maps.fit_look true K ht hz hb F hkey with ⟨hrun, _, hat⟩ | ⟨e0, y, _, _, hrun, hRv, hat, _⟩
  · have hn : f kl = none := by
      cases hf : f kl with
      | none => rfl
      | some v =>
        have h3 := fun z => (h2 kl z).symm.trans (hat (.held z))
        have h4 := h3 (.bool true)
        have h5 := h3 (.bool false)
        rw [hf] at h4 h5
        simp only [Option.getD_some, DataW.held.injEq] at h4 h5
        rw [h4] at h5; simp at h5
    rw [hrun, hn]; rfl
  · have hy : y = (.held e0.val, []) := by simpa [heldR] using hRv.symm
    have hs : f kl = some e0.val := by
      have h3 := fun z => (h2 kl z).symm.trans (hat (.held z))
      rw [hy] at h3
      cases hf : f kl with
      | some v => have := h3 (.bool true); rw [hf] at this; simp only [Option.getD_some, DataW.held.injEq] at this; rw [this]
      | none =>
        have h4 := h3 (.bool true)
        have h5 := h3 (.bool false)
        rw [hf] at h4 h5
        simp only [Option.getD_none, DataW.held.injEq] at h4 h5
        rw [← h4] at h5; simp at h5
    rw [hrun, hs]; rfl

/-- A map (it may be nil) is what places are. -/
def MapX (X : Nat → Prop) (w : World) (mv : Value) (F : Int → Option Ty) : Prop :=
  (mv = .map none ∧ ∀ n, F n = none) ∨ ∃ b k f, mv = .map (some b) ∧ MapOf Tryd.prog w 3 b k f ∧ ∀ n, In64 n → (F n = none ∧ f (keyN n) = none) ∨ ∃ e v, F n = some e ∧ f (keyN n) = some v ∧ TyX X w v e
theorem MapX.later {X Y : Nat → Prop} {w W : World} {mv : Value} {F : Int → Option Ty} (h : MapX X w mv F) (hb : Below w.heap.size w W) (hY : ∀ b, b < w.heap.size → Y b → X b) : MapX Y W mv F := by
  rcases h with h | ⟨b, k, f, rfl, hm, hF⟩
  · exact .inl h
  · refine .inr ⟨b, k, f, rfl, hm.below hb hm.lt, fun n hn => ?_⟩
    rcases hF n hn with h | ⟨e, v, h1, h2, h3⟩
    · exact .inl h
    · exact .inr ⟨e, v, h1, h2, TyX.later (KeepsBut.of_below hb) hY h3⟩
def zeroTy : Value := .agg #[.string ⟨#[]⟩, .int .i64 0, .slice none 0 0]
theorem zeroTy_run (w : World) : (zeroValue 24).run Tryd.prog w = .ok zeroTy w := by rw [Tryd.zeroValue24]; rfl
theorem MapX.look {X : Nat → Prop} {w W : World} {mv : Value} {F : Int → Option Ty} (h : MapX X w mv F) (hb : Below w.heap.size w W) {n : Int} (hn : In64 n) :
    (F n = none ∧ (Instr.lookup 57 mv (.int .i64 n) true).run Tryd.prog W = .ok (.tuple #[zeroTy, .bool false]) W) ∨
    ∃ e v, F n = some e ∧ TyX X w v e ∧ (Instr.lookup 57 mv (.int .i64 n) true).run Tryd.prog W = .ok (.tuple #[v, .bool true]) W := by
  have K : Keyed Tryd.prog 3 := Maps.int_keyed Tryd.underlying3
  rcases h with ⟨rfl, hF⟩ | ⟨b, k, f, rfl, hm, hF⟩
  · exact .inl ⟨hF n, by rw [Maps.look_nil true K Tryd.underlying57 (zeroTy_run W) (keyN_of hn)]; rfl⟩
  · have h1 := (hm.below hb hm.lt).look2 K Tryd.underlying57 (zeroTy_run W) (keyN_of hn)
    rcases hF n hn with ⟨h2, h3⟩ | ⟨e, v, h2, h3, h4⟩
    · rw [h3] at h1; exact .inl ⟨h2, h1⟩
    · rw [h3] at h1; exact .inr ⟨e, v, h2, h4, h1⟩

/-- A type with what holes are in their places. -/
def withT (F : Int → Option Ty) : Ty → Ty
  | .mk s n l => if holeS s = true ∧ (F n).isSome = true then (F n).getD (.mk s n l) else .mk s n (withL F l)
where withL (F : Int → Option Ty) : List Ty → List Ty
  | [] => []
  | e :: r => withT F e :: withL F r
theorem withL_map (F : Int → Option Ty) (l : List Ty) : withT.withL F l = l.map (withT F) := by
  induction l with
  | nil => rfl
  | cons e r ih => simp only [withT.withL, List.map_cons, ih]
end Go.Proofs.YticjpeefhppjoaaDoor
