/- A map that the call itself made, as a function from keys to values (values of any kind). -/
import Derived.Test.YticjpeefhppjoaaDoorBase
import Derived.Maps.Own
import Derived.Maps.OwnOps
import Derived.Maps.Views
import Derived.Maps.Keyed
namespace Go.Proofs.YticjpeefhppjoaaDoor
open Go.RowKit
open Go.Maps (Keyed)

def heldR : Value → Option (DataW Value × List MemPlace) := fun v => some (.held v, [])

/-- Block b is a map of at most n entries, which holds f. -/
def MapOf (P : Program) (w : World) (k : TypeId) (b n : Nat) (f : Lit → Option Value) : Prop :=
  ∃ D : DataW Value, w.ownsMap P k heldR b n D ∧ ∀ kl z, D.atKey kl (.held z) = .held ((f kl).getD z)

noncomputable def updF (f : Lit → Option Value) (kl : Lit) (v : Value) : Lit → Option Value := fun x => open Classical in if x = kl then some v else f x
theorem updF_same (f : Lit → Option Value) (kl : Lit) (v : Value) : updF f kl v kl = some v := by simp [updF]
theorem updF_other {f : Lit → Option Value} {kl x : Lit} {v : Value} (h : x ≠ kl) : updF f kl v x = f x := by simp [updF, h]

theorem MapOf.made (P : Program) (w : World) (k : TypeId) : MapOf P (w.alloc (.map #[] 0)) k w.heap.size 0 (fun _ => none) :=
  ⟨.map [], World.ownsMap_made w P k heldR, fun _ _ => rfl⟩

theorem MapOf.lt {P : Program} {w : World} {k : TypeId} {b n : Nat} {f : Lit → Option Value} (h : MapOf P w k b n f) : b < w.heap.size := h.choose_spec.1.lt

theorem MapOf.below {P : Program} {w w' : World} {k : TypeId} {b n B : Nat} {f : Lit → Option Value} (h : MapOf P w k b n f) (hB : Below B w w') (hb : b < B) : MapOf P w' k b n f := by
  obtain ⟨D, ⟨es, clock, h1, h2, h3, h4⟩, h5⟩ := h
  exact ⟨D, ⟨es, clock, (hB.block b hb).trans h1, h2, h3, h4⟩, h5⟩

theorem MapOf.look {P : Program} {w : World} {k t e : TypeId} {b n : Nat} {f : Lit → Option Value} (h : MapOf P w k b n f) (K : Keyed P k) (ht : P.underlying t = some (.map k e)) {z : Value} (hz : (zeroValue e).run P w = .ok z w)
    {key : Value} {kl : Lit} (hkey : keyOf P k key = some kl) : (Instr.lookup t (.map (some b)) key false).run P w = .ok ((f kl).getD z) w := by
  obtain ⟨D, h1, h2⟩ := h
  obtain ⟨v, ps, hrun, hv⟩ := h1.lookup K ht hz (zd := .held z) (zp := []) rfl hkey
  rw [h2] at hv
  simp only [heldR, Option.some.injEq, Prod.mk.injEq, DataW.held.injEq] at hv
  rw [hrun, hv.1]

theorem MapOf.update {P : Program} {w : World} {k t e : TypeId} {b n : Nat} {f : Lit → Option Value} (h : MapOf P w k b n f) (K : Keyed P k) (ht : P.underlying t = some (.map k e)) (hn : n < maxLen)
    {key val : Value} {kl : Lit} (hkey : keyOf P k key = some kl) : ∃ w', (Instr.mapUpdate t (.map (some b)) key val).run P w = .ok () w' ∧ MapOf P w' k b (n + 1) (updF f kl val) ∧ w.grownBy w' (some b) := by
  obtain ⟨D, h1, h2⟩ := h
  obtain ⟨w', hrun, h3, h4⟩ := h1.update K ht hn hkey (d := .held val) (ps := []) (R := heldR) (val := val) rfl
  refine ⟨w', hrun, ⟨_, h3, fun x z => ?_⟩, h4⟩
  have hm : Maps.IsMap D := by obtain ⟨es, clock, _, _, _, rfl⟩ := h1; exact ⟨_, rfl⟩
  by_cases hx : x = kl
  · subst hx
    rw [Maps.atKey_put_same hm (K.key hkey), updF_same]; rfl
  · rw [Maps.atKey_put_other hx, updF_other hx, h2]

/-- 'm[k] = v' at the operation. -/
theorem wpList_put {P : Program} (w : World) {ops : Array Oper} {rest : List Oper} {o : Oper} {a : Act} {Q : Exit → Act → World → Prop}
    (hg : o.guard = none) (m x v : Operand) (t : TypeId) (hop : o.op = Op.mapUpdate t m x v)
    (k e : TypeId) (K : Keyed P k) (ht : P.underlying t = some (.map k e)) (b n : Nat) (f : Lit → Option Value)
    (hm : a.eval m = .map (some b)) (hown : MapOf P w k b n f) (hn : n < maxLen) (key val : Value) (kl : Lit) (hx : a.eval x = key) (hv : a.eval v = val) (hkey : keyOf P k key = some kl)
    (hK : ∀ w', MapOf P w' k b (n + 1) (updF f kl val) → w.grownBy w' (some b) → wpList P ops Q rest (a.put o.dst undef) w') :
    wpList P ops Q (o :: rest) a w := by
  refine wpList_plain hg fun K' hK' => ?_
  obtain ⟨w', hrun, r1, r2⟩ := hown.update K ht hn hkey (val := val)
  unfold Oper.wp
  simp [execOp, hop, hm, hx, hv, hrun, Result.andThen]
  exact hK' _ _ (hK w' r1 r2)

end Go.Proofs.YticjpeefhppjoaaDoor
