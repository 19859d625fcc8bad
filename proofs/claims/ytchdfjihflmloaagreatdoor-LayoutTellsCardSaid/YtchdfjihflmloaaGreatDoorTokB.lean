/- A token's box, and a place's, in memory. -/
import Derived.Test.YtchdfjihflmloaaGreatDoorTok
import Derived.Deep.LoopGhost
import Derived.Deep.RegionHeld3
import Derived.Deep.CutRange
import Derived.Deep.QuietTactic
import Derived.BigQuiet
import Derived.Deep.DeepMust
namespace Go.Proofs.YtchdfjihflmloaaGreatDoor
open Go.RowKit

/-- A block of five cells. -/
def Box5 (w : World) (t : TypeId) (b : Nat) (x0 x1 x2 x3 x4 : Value) : Prop := w.heap[b]? = some (.cells #[x0, x1, x2, x3, x4] t (0, 0))
def Box2 (w : World) (t : TypeId) (b : Nat) (x0 x1 : Value) : Prop := w.heap[b]? = some (.cells #[x0, x1] t (0, 0))
def Box1 (w : World) (t : TypeId) (b : Nat) (x0 : Value) : Prop := w.heap[b]? = some (.cells #[x0] t (0, 0))
theorem blk_lt {w : World} {b : Nat} {o : Obj} (h : w.heap[b]? = some o) : b < w.heap.size := (Array.getElem?_eq_some_iff.1 h).1
theorem Box5.below {w W : World} {t : TypeId} {b : Nat} {x0 x1 x2 x3 x4 : Value} (h : Box5 w t b x0 x1 x2 x3 x4) (hB : Below w.heap.size w W) : Box5 W t b x0 x1 x2 x3 x4 := (hB.block b (blk_lt h)).trans h
theorem Box2.below {w W : World} {t : TypeId} {b : Nat} {x0 x1 : Value} (h : Box2 w t b x0 x1) (hB : Below w.heap.size w W) : Box2 W t b x0 x1 := (hB.block b (blk_lt h)).trans h
theorem Box1.below {w W : World} {t : TypeId} {b : Nat} {x0 : Value} (h : Box1 w t b x0) (hB : Below w.heap.size w W) : Box1 W t b x0 := (hB.block b (blk_lt h)).trans h
theorem Box5.cells {w : World} {t : TypeId} {b : Nat} {x0 x1 x2 x3 x4 : Value} (h : Box5 w t b x0 x1 x2 x3 x4) : (w.cell? ⟨b, 0, none⟩ = some x0 ∧ w.cell? ⟨b, 1, none⟩ = some x1 ∧ w.cell? ⟨b, 2, none⟩ = some x2 ∧ w.cell? ⟨b, 3, none⟩ = some x3 ∧ w.cell? ⟨b, 4, none⟩ = some x4) ∧ ∀ o, w.frozen? ⟨b, o, none⟩ = false := by
  unfold Box5 at h
  exact ⟨⟨by simp [World.cell?, h], by simp [World.cell?, h], by simp [World.cell?, h], by simp [World.cell?, h], by simp [World.cell?, h]⟩, fun o => by simp [World.frozen?, h]⟩
theorem Box2.cells {w : World} {t : TypeId} {b : Nat} {x0 x1 : Value} (h : Box2 w t b x0 x1) : (w.cell? ⟨b, 0, none⟩ = some x0 ∧ w.cell? ⟨b, 1, none⟩ = some x1) ∧ ∀ o, w.frozen? ⟨b, o, none⟩ = false := by
  unfold Box2 at h
  exact ⟨⟨by simp [World.cell?, h], by simp [World.cell?, h]⟩, fun o => by simp [World.frozen?, h]⟩
theorem Box1.cells {w : World} {t : TypeId} {b : Nat} {x0 : Value} (h : Box1 w t b x0) : w.cell? ⟨b, 0, none⟩ = some x0 ∧ ∀ o, w.frozen? ⟨b, o, none⟩ = false := by
  unfold Box1 at h
  exact ⟨by simp [World.cell?, h], fun o => by simp [World.frozen?, h]⟩
theorem blk_new {w U : World} {t : TypeId} {vs : Array Value} (h : Below (w.heap.size + 1) (w.alloc (.cells vs t)) U) : U.heap[w.heap.size]? = some (.cells vs t (0, 0)) := by
  rw [h.block _ (by omega)]; simp only [World.alloc]; simp
/-- Another world, in which one block is another one. -/
structure OneSet (b : Nat) (w W : World) : Prop where
  below : Below b w W
  size : W.heap.size = w.heap.size
  other : ∀ i, i ≠ b → W.heap[i]? = w.heap[i]?
theorem OneSet.cell (w : World) (b o : Nat) (v : Value) : OneSet b w (w.setCell ⟨b, o, none⟩ v) :=
  ⟨(Below.refl b w).setCell (p := ⟨b, o, none⟩) (Nat.le_refl b) v, by simp [World.setCell], fun i hi => Below.heap_setCell _ _ _ _ (fun e => hi e)⟩
theorem OneSet.trans {b : Nat} {x y z : World} (h : OneSet b x y) (k : OneSet b y z) : OneSet b x z :=
  ⟨h.below.trans k.below, k.size.trans h.size, fun i hi => (k.other i hi).trans (h.other i hi)⟩
def World.set5 (w : World) (b : Nat) (x0 x1 x2 x3 x4 : Value) : World := ((((w.setCell ⟨b, 0, none⟩ x0).setCell ⟨b, 1, none⟩ x1).setCell ⟨b, 2, none⟩ x2).setCell ⟨b, 3, none⟩ x3).setCell ⟨b, 4, none⟩ x4
def World.set2 (w : World) (b : Nat) (x0 x1 : Value) : World := (w.setCell ⟨b, 0, none⟩ x0).setCell ⟨b, 1, none⟩ x1
theorem Box5.set {w : World} {t : TypeId} {b : Nat} {y0 y1 y2 y3 y4 : Value} (h : Box5 w t b y0 y1 y2 y3 y4) (x0 x1 x2 x3 x4 : Value) : Box5 (World.set5 w b x0 x1 x2 x3 x4) t b x0 x1 x2 x3 x4 ∧ OneSet b w (World.set5 w b x0 x1 x2 x3 x4) := by
  unfold Box5 at h
  refine ⟨by unfold Box5; simp [World.set5, World.setCell, Array.getElem?_modify, h], ?_⟩
  unfold World.set5
  exact ((((OneSet.cell _ _ _ _).trans (OneSet.cell _ _ _ _)).trans (OneSet.cell _ _ _ _)).trans (OneSet.cell _ _ _ _)).trans (OneSet.cell _ _ _ _)
theorem Box2.set {w : World} {t : TypeId} {b : Nat} {y0 y1 : Value} (h : Box2 w t b y0 y1) (x0 x1 : Value) : Box2 (World.set2 w b x0 x1) t b x0 x1 ∧ OneSet b w (World.set2 w b x0 x1) := by
  unfold Box2 at h
  refine ⟨by unfold Box2; simp [World.set2, World.setCell, Array.getElem?_modify, h], ?_⟩
  unfold World.set2
  exact (OneSet.cell _ _ _ _).trans (OneSet.cell _ _ _ _)
/-- A result that is a token in a cell, and a bool in a slot. -/
theorem results_tok {fn : Func} {t u : Tmp} (h : fn.results = #[.cell t 34, .tmp u]) (tmps : Array Value) (w : World) {b : Nat} {x0 x1 x2 x3 x4 v : Value} (ha : tmps.getD t undef = .pointer (some ⟨b, 0, none⟩)) (hu : tmps.getD u undef = v)
    (hc : w.cell? ⟨b, 0, none⟩ = some x0 ∧ w.cell? ⟨b, 1, none⟩ = some x1 ∧ w.cell? ⟨b, 2, none⟩ = some x2 ∧ w.cell? ⟨b, 3, none⟩ = some x3 ∧ w.cell? ⟨b, 4, none⟩ = some x4) : (results fn tmps).run Tryz.prog w = .ok (.tuple #[.agg #[x0, x1, x2, x3, x4], v]) w := by
  obtain ⟨h0, h1, h2, h3, h4⟩ := hc
  have e2 := Tryz.isAgg34
  have e3 := Tryz.sizeOf34
  have ha' : tmps[t]?.getD undef = .pointer (some ⟨b, 0, none⟩) := by simpa using ha
  have hu' : tmps[u]?.getD undef = v := by simpa using hu
  simp [results, h, ha', hu', asAddr, loadVar, e2, loadCells, loadCellsFrom, Result.andThen, h0, h1, h2, h3, h4, Addr.add, load, Sem.run]
theorem below_drewN' {B : Nat} {W w : World} (h : Below B W w) : ∀ n, Below B W (w.drewN n)
  | 0 => h
  | n + 1 => (below_drewN' h n).drew
end Go.Proofs.YtchdfjihflmloaaGreatDoor
