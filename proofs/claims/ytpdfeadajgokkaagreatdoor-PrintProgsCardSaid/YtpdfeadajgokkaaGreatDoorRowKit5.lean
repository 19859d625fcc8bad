/- What the rows of layer 5 have in common: the table that is listed, a world for the witness. -/
import Derived.Test.YtpdfeadajgokkaaGreatDoorCards
import Derived.Test.YtpdfeadajgokkaaGreatDoorTie
import Derived.Test.YtpdfeadajgokkaaGreatDoorReads
import Derived.Test.YtpdfeadajgokkaaGreatDoorPut
import Derived.ProofKit
import Derived.OpenShut
import Derived.Deep.DeepHandedRow
import Derived.LaidMore
import Derived.Carry
namespace Go.Proofs.YtpdfeadajgokkaaGreatDoor
open Go.ChangeShapes Go.WideShapes Go.ChangeAt Go.RowKit

theorem own : ownKnob Tryz.prog.godebug = none := by kernel_rfl
theorem laidOut : laidOutB Tryz.prog = true := by kernel_rfl

section
variable {H : Type} {enc : TypeId × Value → H} {P : Program}
/-- The row's last step where below the heap's old size nothing has turned. -/
theorem post_below {f : Func} {s : ChangeSpec} {apart fresh handsOn again : Bool} {W W' : World} {args : Array Value} {v : Value} {ds gs : List (DataW H)} {before pa pv : List MemPlace}
    (hW : DataW.Whole enc P f.params.toList s.vars apart W args.toList ds gs before)
    (hres : ∀ (b : Nat) (sp : Nat → Bool) (hd : Bool), DataW.TrodAll enc P W' b sp hd f.resultTypes.toList (v.resultList f.resultTypes.size) (s.fn H (ds ++ gs)).results [])
    (hargs : ∀ sp : Nat → Bool, (∀ p ∈ before, sp p.block = true) → DataW.TrodAll enc P W' 0 sp true f.params.toList args.toList (s.fn H (ds ++ gs)).args pa)
    (hvars : ∀ sp : Nat → Bool, (∀ p ∈ before, sp p.block = true) → DataW.TrodVars enc P W' sp s.vars (s.fn H (ds ++ gs)).vars pv)
    (hps : before = pa ++ pv) (hb : Below W.heap.size W W')
    (hok : ∀ (j : Nat) (t : TypeId) (r : Value), f.resultTypes[j]? = some t → (v.resultList f.resultTypes.size)[j]? = some r → Value.okWide P W' .any 0 t r) :
    s.post enc P f apart fresh handsOn again W args v W' := by
  have hlt : ∀ p ∈ before, p.block < W.heap.size := fun p hp => hW.lt p hp
  have hold : ∀ p ∈ before, (fun b => decide (b < W.heap.size)) p.block = true := fun p hp => by simpa using hlt p hp
  refine ⟨ds, gs, before, [], pa, pv, hW, hres _ _ _, hargs _ hold, hvars _ hold, World.keptBut_mono (fun p hp => ⟨hp, ?_⟩) (hb.frame (· ∈ before)), fun _ => ?_⟩
  · rw [hps, List.mem_append] at hp
    exact Or.inr hp
  · obtain ⟨_, _, _, _, _, hz, hn⟩ := hW
    refine ⟨hok, _, _, ([] ++ pa) ++ pv, ⟨[] ++ pa, pv, trodAll_append (hargs _ (fun _ _ => rfl)) (hres _ _ _), hvars _ (fun _ _ => rfl), rfl, ?_, ?_⟩, ?_⟩
    · intro b off hp
      have hin : MemPlace.cell b off ∈ before := by rw [hps]; simpa using hp
      rw [hb.frozen (hlt _ hin)]
      exact hz b off hin
    · intro ha
      have := hn ha
      rw [hps] at this
      simpa using this
    · intro p hp _
      rw [hps]
      simpa using hp

/-- A reading stays where nothing below the heap's old size turns, whatever is asked of the spare places. -/
theorem trod_later (hl : laidOutB P = true) {t : TypeId} (hr : P.readableRec t = true) (hrow : t < P.types.size) {W W' : World} {v : Value} {d : DataW H} {ps : List MemPlace}
    (h : DataW.Trod enc P W 0 (fun _ => true) true t v d ps) (hb : Below W.heap.size W W') (hlt : ∀ x ∈ ps, x.block < W.heap.size) (sp : Nat → Bool) (hsp : ∀ x ∈ ps, sp x.block = true) : DataW.Trod enc P W' 0 sp true t v d ps :=
  WideElems.Trod_stays hl hr hrow h (fun x hx => hb.same (hlt x hx)) hsp
theorem trodAll_later (hl : laidOutB P = true) {W W' : World} (hb : Below W.heap.size W W') (sp : Nat → Bool) : ∀ {ts : List TypeId} {vs : List Value} {ds : List (DataW H)} {ps : List MemPlace}, (ts.all fun t => P.readableRec t && decide (t < P.types.size)) = true →
    DataW.TrodAll enc P W 0 (fun _ => true) true ts vs ds ps → (∀ x ∈ ps, x.block < W.heap.size) → (∀ x ∈ ps, sp x.block = true) → DataW.TrodAll enc P W' 0 sp true ts vs ds ps
  | [], [], [], ps, _, h, _, _ => h
  | t :: ts, v :: vs, d :: ds, ps, ht, h, hlt, hsp => by
    simp only [List.all_cons, Bool.and_eq_true, decide_eq_true_eq] at ht
    obtain ⟨p, q, h1, h2, rfl⟩ := h
    exact ⟨p, q, trod_later hl ht.1.1 ht.1.2 h1 hb (fun x hx => hlt x (by simp [hx])) sp (fun x hx => hsp x (by simp [hx])), trodAll_later hl hb sp ht.2 h2 (fun x hx => hlt x (by simp [hx])) (fun x hx => hsp x (by simp [hx])), rfl⟩
  | [], _ :: _, _, _, _, h, _, _ => h.elim
  | [], [], _ :: _, _, _, h, _, _ => h.elim
  | _ :: _, [], _, _, _, h, _, _ => h.elim
  | _ :: _, _ :: _, [], _, _, h, _, _ => h.elim

/-- Where a value's cells are two or more, it is a struct of these. -/
theorem agg_of_cells {v a b : Value} {r : List Value} (h : v.cells.toList = a :: b :: r) : v = .agg (a :: b :: r).toArray := by
  cases v <;> simp [Value.cells] at h
  rename_i cs
  rw [← h]
/-- The i-th argument weighs no more than the reach. -/
theorem fits_arg {P : Program} {ts us : List TypeId} {ds gs : List (DataW H)} (hw : (DataW.weightsEach P (ts ++ us) (ds ++ gs)).all (· ≤ reachBytes) = true) {j : Nat} {t : TypeId} {d : DataW H} (ht : ts[j]? = some t) (hd : ds[j]? = some d) : Fits P t d := by
  intro n hn
  obtain ⟨h1, -⟩ := List.getElem?_eq_some_iff.1 ht
  obtain ⟨h2, -⟩ := List.getElem?_eq_some_iff.1 hd
  have := List.all_eq_true.1 hw n (DataW.weights_mem_each (j := j) (by rw [List.getElem?_append_left h1]; exact ht) (by rw [List.getElem?_append_left h2]; exact hd) n hn)
  simpa using this
end

/-- What the rows' list gives: the table of the library's that numbers are written by. -/
theorem tab_of {W : World} (h : laidMet Tryz.prog [("math/bits.deBruijn32tab", Rows.laid_math_bits_deBruijn32tab), ("math/bits.deBruijn64tab", Rows.laid_math_bits_deBruijn64tab), ("internal/strconv.uint64pow10", Rows.laid_internal_strconv_uint64pow10)] W) : Tab W := by
  obtain ⟨ps, ⟨_, _, _, _, _, _, _, _, _, _, ⟨_, _, _, _, _, _, _, _, _, _, ⟨g, t, cs, fuel, p, q, hg, ht, hvar, hd, _, _⟩, _⟩, _⟩, _⟩ := h
  obtain ⟨g0, hg0⟩ : ∃ g0, Tryz.prog.globalNamed "internal/strconv.uint64pow10" = some g0 := Option.isSome_iff_exists.1 (by kernel_rfl)
  have e : (Rows.laid_internal_strconv_uint64pow10 : DataW Unit) = Lib.tabData .u64 Lib.pow10Tab := by rfl
  rw [e] at hd
  have hty : (do let g ← Tryz.prog.globalNamed "internal/strconv.uint64pow10"; (Tryz.prog.globals[g]?).map (·.type)) = some 128 := by kernel_rfl
  rw [hg] at hty
  obtain rfl := Option.some.inj (hty.symm.trans ht)
  show Lib.TabIs _ _ _ _ _
  unfold Lib.TabIs
  rw [hvar, ← Lib.cells_of_tab Tryz.underlying128 Tryz.underlying121 (by kernel_rfl) (by kernel_rfl) hd]

/-- A tree that came in. -/
theorem arg_ex {H : Type} {enc : TypeId × Value → H} {W : World} {v : Value} {d : DataW H} {p : List MemPlace} (h : DataW.Trod enc Tryz.prog W 0 (fun _ => true) true 40 v d p) (hf : Fits Tryz.prog 40 d) : ∃ e, IsEx W v e := by
  obtain ⟨fuel, h⟩ := h
  obtain ⟨e, v0, v1, v2, v3, v4, hc, he⟩ := read_ex fuel _ _ h hf
  exact ⟨e, by rw [agg_of_cells hc]; exact he⟩
end Go.Proofs.YtpdfeadajgokkaaGreatDoor

namespace Go.Proofs.YtpdfeadajgokkaaGreatDoor
open Go.ChangeShapes Go.WideShapes Go.ChangeAt Go.RowKit

theorem arg_sg {H : Type} {enc : TypeId × Value → H} {W : World} {v : Value} {d : DataW H} {p : List MemPlace} (h : DataW.Trod enc Tryz.prog W 0 (fun _ => true) true 28 v d p) (hf : Fits Tryz.prog 28 d) : ∃ e, IsSg W v e := by
  obtain ⟨fuel, h⟩ := h
  obtain ⟨e, v0, v1, hc, he⟩ := read_sg fuel _ _ h hf
  exact ⟨e, by rw [agg_of_cells hc]; exact he⟩
theorem arg_pg {H : Type} {enc : TypeId × Value → H} {W : World} {v : Value} {d : DataW H} {p : List MemPlace} (h : DataW.Trod enc Tryz.prog W 0 (fun _ => true) true 25 v d p) (hf : Fits Tryz.prog 25 d) : ∃ e, IsPg W v e := by
  obtain ⟨fuel, h⟩ := h
  obtain ⟨e, v0, v1, hc, he⟩ := read_pg fuel _ _ h hf
  exact ⟨e, by rw [agg_of_cells hc]; exact he⟩
end Go.Proofs.YtpdfeadajgokkaaGreatDoor
