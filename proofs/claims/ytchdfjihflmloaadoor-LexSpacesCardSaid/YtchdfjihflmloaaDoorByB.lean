/- Bytes put behind bytes, in rows of the call's own. -/
import Derived.Test.YtchdfjihflmloaaDoorLexAw
import Derived.Test.YtchdfjihflmloaaDoorOwnAid
import Derived.Laws.OwnMore
import Derived.Maps.AppendAt
import Derived.Laws.AppendOwnNone
namespace Go.Proofs.YtchdfjihflmloaaDoor
open Go.RowKit

def bC (l : Bs) : List Value := l.map fun b => .int .u8 b.toNat
theorem bC_len (l : Bs) : (bC l).length = l.length := by simp [bC]
theorem bC_append (a b : Bs) : bC (a ++ b) = bC a ++ bC b := by simp [bC]
/-- A row of bytes of the call's own. -/
def OwnB (base : Nat) (w : World) (v : Value) (l : Bs) : Prop := w.ownsRow base 5 1 v l.length (bC l)
theorem OwnB.nil (base : Nat) (w : World) : OwnB base w (.slice none 0 0) [] := ⟨rfl, .inl ⟨rfl, rfl⟩⟩
theorem OwnB.form {base : Nat} {w : World} {v : Value} {l : Bs} (h : OwnB base w v l) : ∃ a c, v = .slice a l.length c ∧ l.length ≤ c ∧ c ≤ 9223372036854775807 ∧ (a = none → c = 0) ∧ ByteRow w a l := by
  obtain ⟨hlen, ⟨h1, h2⟩ | ⟨g, cap, cur, hv, hb, hh, hnc, hcm, hsz, htk⟩⟩ := h
  · obtain rfl : l = [] := List.length_eq_zero_iff.1 h2
    exact ⟨none, 0, h1, Nat.le_refl _, by decide, fun _ => rfl, .inl rfl⟩
  · refine ⟨_, cap, hv, hnc, by unfold maxLen at hcm; exact hcm, (fun h => by cases h), .inr ⟨g, 0, rfl, fun i hi => ?_⟩⟩
    have h1 : (bC l)[i]? = some (.int .u8 l[i].toNat) := by simp [bC, hi]
    rw [← htk, List.getElem?_take] at h1
    split at h1
    · simp [World.cell?, hh]
      simpa using h1
    · cases h1
theorem OwnB.heap {base : Nat} {w w' : World} {v : Value} {l : Bs} (h : OwnB base w v l) (hk : ∀ g, v.ownBlock = some g → w'.heap[g]? = w.heap[g]?) : OwnB base w' v l := ownsRow_heap h hk
theorem OwnB.below {base : Nat} {w w' : World} {v : Value} {l : Bs} (h : OwnB base w v l) (hb : Below w.heap.size w w') : OwnB base w' v l := h.heap fun g hg => hb.block g (ownBlock_ge h hg).2
theorem Tryd.infoU8 : (Tryd.prog.info? 5).map (fun i => (i.zero, i.size, i.bytes)) = some (some (.int .u8 0), 1, 1) := by kernel_rfl
/-- append of bytes to bytes of the call's own, whatever the source. -/
theorem wpList_append_bytes {w : World} {ops : Array Oper} {rest : List Oper} {o : Oper} {a : Act} {Q : Exit → Act → World → Prop} (hgd : o.guard = none) (s x : Operand)
    (ho : o.op = .call { callee := .builtin .append, args := #[s, x], argTypes := #[22, 22] })
    (base : Nat) (v : Value) (l : Bs) (hs : a.eval s = v) (hown : OwnB base w v l) (sa : Option Addr) (m c : Nat) (r : Bs) (hx : a.eval x = .slice sa m c) (hm : m = r.length) (hnil : sa = none → c = 0) (hr : ByteRow w sa r)
    (h63 : l.length + r.length ≤ 1000000000) (hbase : base ≤ w.heap.size)
    (h : ∀ v' w', OwnB base w' v' (l ++ r) → w.grownBy w' v.ownBlock → wpList Tryd.prog ops Q rest (a.put o.dst v') w') :
    wpList Tryd.prog ops Q (o :: rest) a w := by
  subst hm
  obtain ⟨i0, hi, hz0, hz1, hz2⟩ := info_of Tryd.infoU8
  refine wpList_append_own_src hgd s x 22 ho base 5 i0 (.int .u8 0) 1 1 Tryd.underlying22 hi hz0 hz1 hz2 rfl (by decide) v l.length (bC l) hs hown sa r.length c (bC r) hx (fun e => ⟨?_, hnil e⟩) (by rw [bC_len, Nat.mul_one]) ?_ ?_ (by unfold maxLen; omega) (by omega) hbase ?_
  · rcases hr with h | ⟨b, off, h, _⟩
    · rw [h]; rfl
    · rw [e] at h; cases h
  · intro ad had j u hu
    have hj : j < r.length := by have := (List.getElem?_eq_some_iff.1 hu).1; rw [bC_len] at this; exact this
    rcases hr with h | ⟨b, off, h, hc⟩
    · subst h; simp at hj
    · rw [had] at h
      cases h
      rw [addr_plus, hc j hj]
      simpa [bC, hj] using hu
  · intro u hu
    unfold bC at hu
    obtain ⟨b, _, rfl⟩ := List.mem_map.1 hu
    rfl
  · intro v' w' h1 h2 _
    refine h v' w' ?_ h2
    unfold OwnB
    rw [List.length_append, bC_append]
    exact h1
end Go.Proofs.YtchdfjihflmloaaDoor
