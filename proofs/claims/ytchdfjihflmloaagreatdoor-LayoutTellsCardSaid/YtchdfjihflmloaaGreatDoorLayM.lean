/- The maker of blocks, in memory. -/
import Derived.Test.YtchdfjihflmloaaGreatDoorLexV
import Derived.Test.YtchdfjihflmloaaGreatDoorLyA
import Derived.Test.YtchdfjihflmloaaGreatDoorInvo
import Derived.Test.YtchdfjihflmloaaGreatDoorOwnAid
namespace Go.Proofs.YtchdfjihflmloaaGreatDoor
open Go.RowKit

def iC (st : List Int) : List Value := st.reverse.map (Value.int .i64)
theorem iC_len (st : List Int) : (iC st).length = st.length := by simp [iC]
theorem iC_cons (c : Int) (st : List Int) : iC (c :: st) = iC st ++ [.int .i64 c] := by simp [iC]
/-- The maker: its place, its two rows. -/
structure MkS (base : Nat) (W : World) (mb : Nat) (o : Value) (ts : List Tk) (s : Value) (st : List Int) : Prop where
  box : Box2 W 39 mb o s
  low : mb < base
  out : W.ownsRow base 34 5 o ts.length (tkCs ts)
  opn : W.ownsRow base 3 1 s st.length (iC st)
  apart : ∀ g, o.ownBlock = some g → s.ownBlock ≠ some g
theorem MkS.lt {base : Nat} {W : World} {mb : Nat} {o s : Value} {ts : List Tk} {st : List Int} (h : MkS base W mb o ts s st) : mb < W.heap.size := blk_lt h.box
theorem MkS.heap {base : Nat} {W W' : World} {mb : Nat} {o s : Value} {ts : List Tk} {st : List Int} (h : MkS base W mb o ts s st) (hk : ∀ g, (g = mb ∨ o.ownBlock = some g ∨ s.ownBlock = some g) → W'.heap[g]? = W.heap[g]?) : MkS base W' mb o ts s st :=
  ⟨(hk _ (.inl rfl)).trans h.box, h.low, ownsRow_heap h.out fun g hg => hk g (.inr (.inl hg)), ownsRow_heap h.opn fun g hg => hk g (.inr (.inr hg)), h.apart⟩
theorem MkS.below {base : Nat} {W W' : World} {mb : Nat} {o s : Value} {ts : List Tk} {st : List Int} (h : MkS base W mb o ts s st) (hb : Below W.heap.size W W') : MkS base W' mb o ts s st :=
  h.heap fun g hg => hb.block g (by
    rcases hg with rfl | hg | hg
    · exact h.lt
    · exact (ownBlock_ge h.out hg).2
    · exact (ownBlock_ge h.opn hg).2)
/-- What a call of the maker's leaves alone. -/
structure MkK (mb : Nat) (o s : Value) (W W' : World) : Prop where
  os : W'.os = W.os
  tape : W'.tape = W.tape
  output : W'.output = W.output
  size : W.heap.size ≤ W'.heap.size
  block : ∀ k, k < W.heap.size → k ≠ mb → o.ownBlock ≠ some k → s.ownBlock ≠ some k → W'.heap[k]? = W.heap[k]?
theorem MkK.refl (mb : Nat) (o s : Value) (W : World) : MkK mb o s W W := ⟨rfl, rfl, rfl, Nat.le_refl _, fun _ _ _ _ _ => rfl⟩
theorem MkK.of_below {mb : Nat} {o s : Value} {W W' : World} (h : Below W.heap.size W W') : MkK mb o s W W' := ⟨h.os, h.tape, h.output, h.size, fun k hk _ _ _ => h.block k hk⟩
/-- A row that is owned goes on where it was, or in a new block. -/
def Nx (W : World) (v v' : Value) : Prop := ∀ g, v'.ownBlock = some g → v.ownBlock = some g ∨ W.heap.size ≤ g
theorem Nx.refl (W : World) (v : Value) : Nx W v v := fun _ h => .inl h
theorem MkK.trans {mb : Nat} {o s o' s' : Value} {W W' W'' : World} (h : MkK mb o s W W') (ho : Nx W o o') (hs : Nx W s s') (k : MkK mb o' s' W' W'') : MkK mb o s W W'' :=
  ⟨k.os.trans h.os, k.tape.trans h.tape, k.output.trans h.output, Nat.le_trans h.size k.size, fun i hi h1 h2 h3 => (k.block i (Nat.lt_of_lt_of_le hi h.size) h1
    (fun e => by rcases ho i e with e | e; exact h2 e; omega) (fun e => by rcases hs i e with e | e; exact h3 e; omega)).trans (h.block i hi h1 h2 h3)⟩
theorem Nx.trans {W W' : World} {a b c : Value} (h : Nx W a b) (k : Nx W' b c) (hz : W.heap.size ≤ W'.heap.size) : Nx W a c := fun g hg => by
  rcases k g hg with e | e
  · exact h g e
  · exact .inr (Nat.le_trans hz e)
/-- What a call of the maker's comes to. -/
structure MkR (base mb : Nat) (W : World) (o s : Value) (W' : World) (o' : Value) (ts : List Tk) (s' : Value) (st : List Int) : Prop where
  st : MkS base W' mb o' ts s' st
  keep : MkK mb o s W W'
  no : Nx W o o'
  ns : Nx W s s'
theorem MkR.refl {base mb : Nat} {W : World} {o s : Value} {ts : List Tk} {st : List Int} (h : MkS base W mb o ts s st) : MkR base mb W o s W o ts s st := ⟨h, MkK.refl _ _ _ _, Nx.refl _ _, Nx.refl _ _⟩
theorem MkR.trans {base mb : Nat} {W W' W'' : World} {o s o' s' o'' s'' : Value} {ts ts' : List Tk} {st st' : List Int} (h : MkR base mb W o s W' o' ts s' st) (k : MkR base mb W' o' s' W'' o'' ts' s'' st') : MkR base mb W o s W'' o'' ts' s'' st' :=
  ⟨k.st, h.keep.trans h.no h.ns k.keep, h.no.trans k.no h.keep.size, h.ns.trans k.ns h.keep.size⟩
theorem MkR.below {base mb : Nat} {W W' W'' : World} {o s o' s' : Value} {ts : List Tk} {st : List Int} (h : MkR base mb W o s W' o' ts s' st) (k : Below W'.heap.size W' W'') : MkR base mb W o s W'' o' ts s' st :=
  ⟨h.st.below k, h.keep.trans h.no h.ns (MkK.of_below k), h.no, h.ns⟩
theorem MkR.ahead {base mb : Nat} {W W' W'' : World} {o s o' s' : Value} {ts : List Tk} {st : List Int} (k : Below W.heap.size W W') (h : MkR base mb W' o s W'' o' ts s' st) : MkR base mb W o s W'' o' ts s' st :=
  ⟨h.st, (MkK.of_below k).trans (Nx.refl _ _) (Nx.refl _ _) h.keep, fun g hg => (h.no g hg).imp id fun e => Nat.le_trans k.size e, fun g hg => (h.ns g hg).imp id fun e => Nat.le_trans k.size e⟩
theorem MkK.low {mb base B : Nat} {o s : Value} {W W' : World} {ts : List Tk} {st : List Int} (h : MkK mb o s W W') (hS : MkS base W mb o ts s st) (hB : B ≤ mb) (hz : B ≤ W.heap.size) : Below B W W' :=
  ⟨h.os, h.tape, h.output, h.size, fun k hk => h.block k (by omega) (by omega) (fun e => by have := (ownBlock_ge hS.out e).1; have := hS.low; omega) (fun e => by have := (ownBlock_ge hS.opn e).1; have := hS.low; omega)⟩

theorem Box2.first {w : World} {t : TypeId} {b : Nat} {x0 x1 : Value} (h : Box2 w t b x0 x1) (y : Value) : Box2 (w.setCell ⟨b, 0, none⟩ y) t b y x1 := by
  unfold Box2 at h ⊢
  simp [World.setCell, Array.getElem?_modify, h]
theorem Box2.second {w : World} {t : TypeId} {b : Nat} {x0 x1 : Value} (h : Box2 w t b x0 x1) (y : Value) : Box2 (w.setCell ⟨b, 1, none⟩ y) t b x0 y := by
  unfold Box2 at h ⊢
  simp [World.setCell, Array.getElem?_modify, h]
theorem heap_set (W : World) (b o k : Nat) (v : Value) (h : k ≠ b) : (W.setCell ⟨b, o, none⟩ v).heap[k]? = W.heap[k]? := Below.heap_setCell _ _ _ _ (fun e => h e)
theorem size_set (W : World) (a : Addr) (v : Value) : (W.setCell a v).heap.size = W.heap.size := by simp [World.setCell]
/-- One token more: appended, and the row stored. -/
theorem MkS.put {base : Nat} {W W1 W2 : World} {mb : Nat} {o s o' : Value} {ts : List Tk} {st : List Int} {t : Tk} (h : MkS base W mb o ts s st) (h1 : Below W.heap.size W W1) (hg : W1.grownBy W2 o.ownBlock) (hx : o'.ownBlock = o.ownBlock ∨ o'.ownBlock = some W1.heap.size)
    (hr : W2.ownsRow base 34 5 o' (ts.length + 1) (tkCs ts ++ tkC t)) : MkR base mb W o s (W2.setCell ⟨mb, 0, none⟩ o') o' (ts ++ [t]) s st := by
  have hz1 := h1.size
  have hz2 := hg.size
  have hmb := h.lt
  have hlow := h.low
  have hk : ∀ k, k < W.heap.size → o.ownBlock ≠ some k → W2.heap[k]? = W.heap[k]? := fun k hk ho => (hg.block k (by omega) fun e => ho e.symm).trans (h1.block k hk)
  have hno : Nx W o o' := fun g hg' => by
    rcases hx with e | e
    · exact .inl (e ▸ hg')
    · rw [e] at hg'; cases hg'; exact .inr hz1
  refine ⟨⟨((hk mb hmb (fun e => by have := (ownBlock_ge h.out e).1; omega)).trans h.box |> fun (q : Box2 W2 39 mb o s) => q.first o'), hlow, ?_, ?_, ?_⟩, ⟨?_, ?_, ?_, ?_, ?_⟩, hno, Nx.refl _ _⟩
  · rw [List.length_append, tkCs_append]
    have : tkCs [t] = tkC t := by simp [tkCs]
    rw [this]
    exact ownsRow_heap hr fun g hg => heap_set _ _ _ _ _ (by have := (ownBlock_ge hr hg).1; omega)
  · refine ownsRow_heap h.opn fun g hg => ?_
    have := ownBlock_ge h.opn hg
    rw [heap_set _ _ _ _ _ (by omega)]
    exact hk g this.2 fun e => h.apart g e hg
  · intro g hg' e
    rcases hno g hg' with q | q
    · exact h.apart g q e
    · have := (ownBlock_ge h.opn e).2; omega
  · exact (hg.os.trans h1.os)
  · exact (hg.tape.trans h1.tape)
  · exact (hg.output.trans h1.output)
  · rw [size_set]; omega
  · intro k hk1 hk2 hk3 hk4
    rw [heap_set _ _ _ _ _ hk2]
    exact hk k hk1 hk3
/-- One block more. -/
theorem MkS.push {base : Nat} {W W1 W2 : World} {mb : Nat} {o s s' : Value} {ts : List Tk} {st : List Int} {c : Int} (h : MkS base W mb o ts s st) (h1 : Below W.heap.size W W1) (hg : W1.grownBy W2 s.ownBlock) (hx : s'.ownBlock = s.ownBlock ∨ s'.ownBlock = some W1.heap.size)
    (hr : W2.ownsRow base 3 1 s' (st.length + 1) (iC st ++ [.int .i64 c])) : MkR base mb W o s (W2.setCell ⟨mb, 1, none⟩ s') o ts s' (c :: st) := by
  have hz1 := h1.size
  have hz2 := hg.size
  have hmb := h.lt
  have hlow := h.low
  have hk : ∀ k, k < W.heap.size → s.ownBlock ≠ some k → W2.heap[k]? = W.heap[k]? := fun k hk ho => (hg.block k (by omega) fun e => ho e.symm).trans (h1.block k hk)
  have hno : Nx W s s' := fun g hg' => by
    rcases hx with e | e
    · exact .inl (e ▸ hg')
    · rw [e] at hg'; cases hg'; exact .inr hz1
  refine ⟨⟨((hk mb hmb (fun e => by have := (ownBlock_ge h.opn e).1; omega)).trans h.box |> fun (q : Box2 W2 39 mb o s) => q.second s'), hlow, ?_, ?_, ?_⟩, ⟨?_, ?_, ?_, ?_, ?_⟩, Nx.refl _ _, hno⟩
  · refine ownsRow_heap h.out fun g hg => ?_
    have := ownBlock_ge h.out hg
    rw [heap_set _ _ _ _ _ (by omega)]
    exact hk g this.2 fun e => h.apart g hg e
  · rw [List.length_cons, iC_cons]
    exact ownsRow_heap hr fun g hg => heap_set _ _ _ _ _ (by have := (ownBlock_ge hr hg).1; omega)
  · intro g hg' e
    rcases hno g e with q | q
    · exact h.apart g hg' q
    · have := (ownBlock_ge h.out hg').2; omega
  · exact (hg.os.trans h1.os)
  · exact (hg.tape.trans h1.tape)
  · exact (hg.output.trans h1.output)
  · rw [size_set]; omega
  · intro k hk1 hk2 hk3 hk4
    rw [heap_set _ _ _ _ _ hk2]
    exact hk k hk1 hk4
/-- A row without its last element. -/
theorem own_less {w : World} {base : Nat} {e : TypeId} {a : Option Addr} {n c : Nat} {xs : List Value} {x : Value} (h : w.ownsRow base e 1 (.slice a (n + 1) c) (n + 1) (xs ++ [x])) : w.ownsRow base e 1 (.slice a n c) n xs := by
  obtain ⟨hl, ⟨h, _⟩ | ⟨g, cap, cur, hv, hb, hh, hnc, hcm, hsz, htk⟩⟩ := h
  · simp at h
  · simp only [Value.slice.injEq, true_and] at hv
    obtain ⟨rfl, rfl⟩ := hv
    have hxl : xs.length = n := by simpa using hl
    refine ⟨by rw [hxl, Nat.mul_one], .inr ⟨g, c, cur, rfl, hb, hh, by omega, hcm, hsz, ?_⟩⟩
    have := congrArg (List.take n) htk
    rw [List.take_take, Nat.mul_one, Nat.min_eq_left (by omega)] at this
    rw [Nat.mul_one, this, ← hxl, List.take_left]
/-- Without the last block. -/
theorem MkS.pop {base : Nat} {W : World} {mb : Nat} {o : Value} {ts : List Tk} {c : Int} {st : List Int} {sa : Option Addr} {sn sc : Nat} (h : MkS base W mb o ts (.slice sa (sn + 1) sc) (c :: st)) (hn : sn = st.length) : MkR base mb W o (.slice sa (sn + 1) sc) (W.setCell ⟨mb, 1, none⟩ (.slice sa sn sc)) o ts (.slice sa sn sc) st := by
  subst hn
  have hlow := h.low
  have hb : (Value.slice sa st.length sc).ownBlock = (Value.slice sa (st.length + 1) sc).ownBlock := by cases sa <;> rfl
  have hr : W.ownsRow base 3 1 (.slice sa st.length sc) st.length (iC st) := by
    have h1 := h.opn
    rw [List.length_cons, iC_cons] at h1
    exact own_less h1
  refine ⟨⟨h.box.second _, hlow, ?_, ?_, fun g hg => by rw [hb]; exact h.apart g hg⟩, ⟨rfl, rfl, rfl, Nat.le_of_eq (size_set _ _ _).symm, fun k _ hk2 _ _ => heap_set _ _ _ _ _ hk2⟩, Nx.refl _ _, fun g hg => .inl (by rw [← hb]; exact hg)⟩
  · exact ownsRow_heap h.out fun g hg => heap_set _ _ _ _ _ (by have := (ownBlock_ge h.out hg).1; omega)
  · exact ownsRow_heap hr fun g hg => heap_set _ _ _ _ _ (by have := (ownBlock_ge hr hg).1; omega)
theorem MkS.forms {base : Nat} {W : World} {mb : Nat} {o s : Value} {ts : List Tk} {st : List Int} (h : MkS base W mb o ts s st) : ∃ oa oc sa sc, o = .slice oa ts.length oc ∧ s = .slice sa st.length sc ∧ ts.length ≤ oc ∧ st.length ≤ sc := by
  obtain ⟨oa, oc, h1, _, h2⟩ := tk_own_form h.out
  obtain ⟨sa, sc, h3, _, h4⟩ := tk_own_form h.opn
  exact ⟨oa, oc, sa, sc, h1, h3, h2, h4⟩
/-- The open blocks' cells, the last one first. -/
theorem MkS.at {base : Nat} {W : World} {mb : Nat} {o : Value} {ts : List Tk} {st : List Int} {sa : Option Addr} {sn sc : Nat} (h : MkS base W mb o ts (.slice sa sn sc) st) (hne : st ≠ []) : ∃ g, sa = some ⟨g, 0, none⟩ ∧ ∀ i (hi : i < st.length), W.cell? ⟨g, st.length - 1 - i, none⟩ = some (.int .i64 st[i]) := by
  obtain ⟨hl, ⟨_, h0⟩ | ⟨g, cap, cur, hv, hb, hh, hnc, hcm, hsz, htk⟩⟩ := h.opn
  · exact (hne (List.length_eq_zero_iff.1 h0)).elim
  · simp only [Value.slice.injEq] at hv
    obtain ⟨rfl, _, rfl⟩ := hv
    refine ⟨g, rfl, fun i hi => ?_⟩
    have h1 : (iC st)[st.length - 1 - i]? = some (.int .i64 st[i]) := by
      unfold iC
      rw [List.getElem?_map, List.getElem?_reverse (by omega), show st.length - 1 - (st.length - 1 - i) = i by omega, List.getElem?_eq_getElem hi]
      rfl
    rw [← htk, List.getElem?_take] at h1
    split at h1
    · simp [World.cell?, hh]
      simpa using h1
    · cases h1
theorem Tryz.infoInt : (Tryz.prog.info? 3).map (fun i => (i.zero, i.size, i.bytes)) = some (some (.int .i64 0), 1, 8) := by kernel_rfl
end Go.Proofs.YtchdfjihflmloaaGreatDoor
