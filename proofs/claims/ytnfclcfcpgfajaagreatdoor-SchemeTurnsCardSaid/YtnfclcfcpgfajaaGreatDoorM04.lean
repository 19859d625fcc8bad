/- A part of the proof that parser laws hold: texts of the walk and of its plain laws, made small. -/
import Derived.Test.YtnfclcfcpgfajaaGreatDoorCards
import Derived.Test.YtnfclcfcpgfajaaGreatDoorTie
import Derived.Test.YtnfclcfcpgfajaaGreatDoorM03
import Derived.ChangeArms
import Derived.SizedLaws
import Derived.DataReads
import Derived.KernelRfl
import Derived.Lib.Strings
import Derived.ProofKit
import Derived.OpenShut
import Derived.Deep.DeepHandedRow
import Derived.LaidMore
import Derived.Carry
import Derived.ChangeMaps5
set_option linter.unusedVariables false
set_option linter.unusedSimpArgs false
/- What the rows of layer 9 have in common: what a reading of an argument gives. -/
namespace Go.Proofs.YtnfclcfcpgfajaaGreatDoor
open Go.RowKit

theorem choose_list {α : Type} {n : Nat} {R : Nat → α → Prop} (h : ∀ i, i < n → ∃ e, R i e) : ∃ l : List α, l.length = n ∧ ∀ i (hi : i < l.length), R i l[i] := by
  induction n with
  | zero => exact ⟨[], rfl, fun i hi => absurd hi (by simp)⟩
  | succ n ih =>
    obtain ⟨l, hl, hr⟩ := ih fun i hi => h i (by omega)
    obtain ⟨e, he⟩ := h n (by omega)
    refine ⟨l ++ [e], by simp [hl], fun i hi => ?_⟩
    rcases Nat.lt_or_ge i l.length with h1 | h1
    · rw [List.getElem_append_left h1]; exact hr i h1
    · have : i = l.length := by simp at hi; omega
      subst this
      rw [List.getElem_append_right (Nat.le_refl _)]
      simpa [hl] using he

theorem list3 {α : Type} {l : List α} (h : l.length = 3) : ∃ a b c, l = [a, b, c] := by
  rcases l with _ | ⟨a, _ | ⟨b, _ | ⟨c, _ | ⟨d, r⟩⟩⟩⟩ <;> simp at h
  exact ⟨a, b, c, rfl⟩
theorem list4 {α : Type} {l : List α} (h : l.length = 4) : ∃ a b c d, l = [a, b, c, d] := by
  rcases l with _ | ⟨a, _ | ⟨b, _ | ⟨c, _ | ⟨d, _ | ⟨e, r⟩⟩⟩⟩⟩ <;> simp at h
  exact ⟨a, b, c, d, rfl⟩

section
variable {H : Type} {enc : TypeId × Value → H} {P : Program} {w : World} {sp : Nat → Bool} {held : Bool} {fuel : Nat} {cs : List Value} {x : DataW H × List MemPlace}

/-- What a datum weighs is within reach. -/
def Fits {H : Type} (P : Program) (t : TypeId) (d : DataW H) : Prop := ∀ n ∈ d.weights P t, n ≤ reachBytes

theorem weightsAll_mem {e : TypeId} {d : DataW H} {n : Nat} (hn : n ∈ d.weights P e) : ∀ {l : List (DataW H)}, d ∈ l → n ∈ DataW.weightsAll P e l
  | [], h => by simp at h
  | a :: r, h => by
    simp only [DataW.weightsAll, List.mem_append]
    rcases List.mem_cons.1 h with rfl | h
    · exact .inl hn
    · exact .inr (weightsAll_mem hn h)

theorem read_string {t : TypeId} (ht : P.underlying t = some .string) (h : DataW.trod enc P w 0 sp held fuel t cs = some x) (hf : Fits P t x.1) : ∃ s : Str, cs = [.string s] ∧ s.size ≤ lenMax := by
  obtain ⟨s, rfl, rfl, _⟩ := DataW.trod_string ht h
  refine ⟨s, rfl, ?_⟩
  have := hf s.data.toList.length (by simp [DataW.weights])
  rw [Lib.size_eq]; unfold reachBytes at this; unfold lenMax; omega
theorem read_i64 {t : TypeId} (ht : P.underlying t = some (.int .i64)) (h : DataW.trod enc P w 0 sp held fuel t cs = some x) : ∃ n : Int, cs = [.int .i64 n] ∧ (-9223372036854775808 ≤ n ∧ n ≤ 9223372036854775807) := by
  obtain ⟨n, rfl, _, hw⟩ := DataW.trod_int ht h
  refine ⟨n, rfl, ?_⟩
  simpa [Lit.wf, IntKind.min, IntKind.max, IntKind.signed, IntKind.bits] using hw
theorem read_u8 {t : TypeId} (ht : P.underlying t = some (.int .u8)) (h : DataW.trod enc P w 0 sp held fuel t cs = some x) : ∃ b : UInt8, cs = [.int .u8 b.toNat] := by
  obtain ⟨n, rfl, _, hw⟩ := DataW.trod_int ht h
  have h2 : 0 ≤ n ∧ n ≤ 255 := by simpa [Lit.wf, IntKind.min, IntKind.max, IntKind.signed, IntKind.bits] using hw
  refine ⟨UInt8.ofNat n.toNat, ?_⟩
  rw [UInt8.toNat_ofNat']
  congr 2
  omega

/-- A slice: its cells, element by element. -/
theorem read_slice {t e : TypeId} {sz : Nat} (ht : P.underlying t = some (.slice e)) (hsz : P.cellsOf e = sz) (hpos : 0 < sz) (hby : 1 ≤ P.bytesOf e) {Q : List Value → Prop}
    (h : DataW.trod enc P w 0 sp held fuel t cs = some x) (hf : Fits P t x.1) (hQ : ∀ n, fuel = n + 1 → ∀ cs y, DataW.trod enc P w 0 sp held n e cs = some y → Fits P e y.1 → Q cs) :
    ∃ a len cap, cs = [.slice a len cap] ∧ len ≤ cap ∧ len ≤ lenMax ∧ (a = none → cap = 0) ∧ (len = 0 ∨ ∃ b off, a = some ⟨b, off, none⟩ ∧ ∀ i, i < len → ∃ c, c.length = sz ∧ Q c ∧ ∀ j, j < sz → w.cell? ⟨b, off + i * sz + j, none⟩ = c[j]?) := by
  subst hsz
  rcases DataW.trod_slice ht h with ⟨rfl, _⟩ | ⟨a, len, cap, elems, rest, n, hn, rfl, rfl, _, hlc, _, hlen, hel, _⟩
  · exact ⟨none, 0, 0, rfl, Nat.le_refl _, Nat.zero_le _, fun _ => rfl, .inl rfl⟩
  refine ⟨some a, len, cap, rfl, hlc, ?_, (fun h => by cases h), ?_⟩
  · have := hf ((elems.length + rest.length) * P.bytesOf e) (by simp [DataW.weights, ht])
    have h2 : (elems.length + rest.length) * 1 ≤ (elems.length + rest.length) * P.bytesOf e := Nat.mul_le_mul_left _ hby
    unfold reachBytes at this; unfold lenMax; omega
  rcases Nat.eq_zero_or_pos len with h0 | h0
  · exact .inl h0
  right
  have each : ∀ i, i < len → ∃ c, c.length = P.cellsOf e ∧ Q c ∧ ∀ j, j < P.cellsOf e → w.cell? ((a.add (i * P.cellsOf e)).add j) = c[j]? := by
    intro i hi
    have h1 := hel i hi
    rw [List.getElem?_eq_getElem (by omega)] at h1
    obtain ⟨c, hc, hd⟩ := Option.bind_eq_some_iff.1 h1
    obtain ⟨_, h3, h4⟩ := World.cells?_some hc
    refine ⟨c, h3, hQ n hn _ _ hd (fun m hm => hf m ?_), h4⟩
    simp only [DataW.weights, ht, List.mem_cons, List.mem_append]
    exact .inr (.inl (weightsAll_mem hm (List.mem_map.2 ⟨_, List.getElem_mem _, rfl⟩)))
  obtain ⟨b, off, spot⟩ := a
  have hspot : spot = none := by
    obtain ⟨c, hc, _, hj⟩ := each 0 h0
    have := hj 0 hpos
    rw [List.getElem?_eq_getElem (by omega)] at this
    simpa [Addr.add] using World.cell?_spot this
  subst hspot
  have hadd : ∀ k : Nat, (⟨b, off, none⟩ : Addr).add k = ⟨b, off + k, none⟩ := by
    intro k; unfold Addr.add; split
    · rename_i h; simp [h]
    · rfl
  have hadd2 : ∀ m k : Nat, (⟨b, m, none⟩ : Addr).add k = ⟨b, m + k, none⟩ := by
    intro m k; unfold Addr.add; split
    · rename_i h; simp [h]
    · rfl
  refine ⟨b, off, rfl, fun i hi => ?_⟩
  obtain ⟨c, h1, h2, h3⟩ := each i hi
  refine ⟨c, h1, h2, fun j hj => ?_⟩
  rw [← h3 j hj, hadd, hadd2]

/-- A field of a struct weighs no more than the struct. -/
theorem fits_part {t : TypeId} {fs : Array Field} {xs : List (DataW H × List MemPlace)} (ht : P.underlying t = some (.struct fs)) (hf : Fits P t (.agg (xs.map (·.1)))) {i : Nat} {f : Field} {y : DataW H × List MemPlace} (hfi : fs[i]? = some f) (hy : xs[i]? = some y) : Fits P f.type y.1 := by
  intro n hn
  refine hf n ?_
  simp only [DataW.weights, ht]
  exact DataW.weights_mem_each (j := i) (t := f.type) (d := y.1) (by simp [hfi]) (by simp [hy]) n hn
end

section
variable {H : Type} {enc : TypeId × Value → H} {w : World} {sp : Nat → Bool} {held : Bool}
theorem read_ty : ∀ (fuel : Nat) (cs : List Value) (x : DataW H × List MemPlace), DataW.trod enc Tryz.prog w 0 sp held fuel 25 cs = some x → Fits Tryz.prog 25 x.1 →
    ∃ (e : Ty) (v0 v1 v2 : Value), cs = [v0, v1, v2] ∧ IsTy w (.agg #[v0, v1, v2]) e := by
  intro fuel
  induction fuel using Nat.strongRecOn with
  | ind fuel ih =>
  intro cs x h hf
  obtain ⟨xs, n, hn, rfl, hlen, hxs, hfld⟩ := DataW.trod_struct Tryz.underlying25 h
  have hc : Tryz.prog.cellsOf 25 = 3 := by kernel_rfl
  have c0 : Tryz.prog.cellsOf 23 = 1 := by kernel_rfl
  have c1 : Tryz.prog.cellsOf 9 = 1 := by kernel_rfl
  have c2 : Tryz.prog.cellsOf 3 = 1 := by kernel_rfl
  rw [hc] at hlen
  obtain ⟨v0, v1, v2, rfl⟩ := list3 hlen
  have p0 : DataW.trod enc Tryz.prog w 0 sp held n 9 [v0] = xs[0]? := by have := hfld 0 { name := "Name", type := 9, offset := 0, embedded := false, tag := "", pkgPath := "", byteOffset := 0 } rfl; dsimp only at this; rw [c1] at this; exact this
  have p1 : DataW.trod enc Tryz.prog w 0 sp held n 3 [v1] = xs[1]? := by have := hfld 1 { name := "N", type := 3, offset := 1, embedded := false, tag := "", pkgPath := "", byteOffset := 16 } rfl; dsimp only at this; rw [c2] at this; exact this
  have p2 : DataW.trod enc Tryz.prog w 0 sp held n 23 [v2] = xs[2]? := by have := hfld 2 { name := "Args", type := 23, offset := 2, embedded := false, tag := "", pkgPath := "", byteOffset := 24 } rfl; dsimp only at this; rw [c0] at this; exact this
  have hx5 : xs.length = 3 := by simpa using hxs
  obtain ⟨y0, hy0⟩ : ∃ y, xs[0]? = some y := ⟨_, List.getElem?_eq_getElem (by omega)⟩
  rw [hy0] at p0
  obtain ⟨y1, hy1⟩ : ∃ y, xs[1]? = some y := ⟨_, List.getElem?_eq_getElem (by omega)⟩
  rw [hy1] at p1
  obtain ⟨y2, hy2⟩ : ∃ y, xs[2]? = some y := ⟨_, List.getElem?_eq_getElem (by omega)⟩
  rw [hy2] at p2
  obtain ⟨s0, e0, hs0⟩ := read_string Tryz.underlying9 p0 (fits_part Tryz.underlying25 hf rfl hy0)
  obtain ⟨m, e1, hm⟩ := read_i64 Tryz.underlying3 p1
  obtain ⟨a1, len1, cap1, e2, ra1, rb1, rc1, rd1⟩ := read_slice (Q := fun c => ∃ (e : Ty) (w0 w1 w2 : Value), c = [w0, w1, w2] ∧ IsTy w (.agg #[w0, w1, w2]) e) Tryz.underlying23 (show Tryz.prog.cellsOf 25 = 3 by kernel_rfl) (by decide) (of_decide_eq_true (by kernel_rfl)) p2 (fits_part Tryz.underlying25 hf rfl hy2)
    (fun n' hn' cs y hy hfy => ih n' (by omega) cs y hy hfy)
  simp only [List.cons.injEq, and_true] at e0 e1 e2
  subst e0
  subst e1
  subst e2
  rcases rd1 with h0 | ⟨b, off, ha, h4⟩
  · subst h0
    exact ⟨.mk s0 m [], _, _, _, rfl, TyX.shut (l := []) rc1 hm hs0 (Nat.zero_le _) (.inl rfl)⟩
  · obtain ⟨l, hl, hr⟩ := choose_list (n := len1) (R := fun i (e : Ty) => ∃ w0 w1 w2, w.cell? ⟨b, off + i * 3, none⟩ = some w0 ∧ w.cell? ⟨b, off + i * 3 + 1, none⟩ = some w1 ∧ w.cell? ⟨b, off + i * 3 + 2, none⟩ = some w2 ∧ IsTy w (.agg #[w0, w1, w2]) e) fun i hi => by
      obtain ⟨c, _, ⟨e, w0, w1, w2, rfl, he⟩, hc⟩ := h4 i hi
      exact ⟨e, w0, w1, w2, hc 0 (by omega), hc 1 (by omega), hc 2 (by omega), he⟩
    subst hl
    exact ⟨.mk s0 m l, _, _, _, rfl, TyX.shut rc1 hm hs0 rb1 (.inr ⟨b, off, ha, fun h => h, hr⟩)⟩
end

open Go.ChangeShapes Go.WideShapes Go.ChangeAt Go.ChangeMaps
theorem own : ownKnob Tryz.prog.godebug = none := by kernel_rfl
theorem laidOut : laidOutB Tryz.prog = true := by kernel_rfl

section
variable {H : Type} {enc : TypeId × Value → H} {P : Program}
/-- The row's last step where below the heap's old size nothing has turned. -/
theorem post_below {f : Func} {s : ChangeSpec} {apart fresh handsOn again : Bool} {W W' : World} {args : Array Value} {v : Value} {ds gs : List (DataW H)} {before pa pv : List MemPlace}
    (hW : DataW.Whole enc P f.params.toList s.vars apart W args.toList ds gs before)
    (hres : ∀ (b : Nat) (sp : Nat → Bool) (hd : Bool), DataW.TrodAll enc P W' b sp hd f.resultTypes.toList (v.resultList f.resultTypes.size) (s.fn H (ds ++ gs)).results [])
    (hargs : ∀ sp : Nat → Bool, (∀ p ∈ before, sp p.block = true) → DataW.TrodAll enc P W' 0 sp true f.params.toList args.toList (s.fn H (ds ++ gs)).args pa)
    (hvars : ∀ sp : Nat → Bool, (∀ p ∈ before, sp p.block = true) → DataW.TrodVars enc P W' sp s.vars (s.fn H (ds ++ gs)).vars pv)
    (hps : before = pa ++ pv) (hb : Below W.heap.size W W')
    (hok : ∀ (j : Nat) (t : TypeId) (r : Value), f.resultTypes[j]? = some t → (v.resultList f.resultTypes.size)[j]? = some r → Value.okWide P W' .any 0 t r) :
    s.post enc P f apart fresh handsOn again W args v W' := by
  have hlt : ∀ p ∈ before, p.block < W.heap.size := fun p hp => hW.lt p hp
  have hold : ∀ p ∈ before, (fun b => decide (b < W.heap.size)) p.block = true := fun p hp => by simpa using hlt p hp
  refine ⟨ds, gs, before, [], pa, pv, hW, hres _ _ _, hargs _ hold, hvars _ hold, World.keptBut_mono (fun p hp => ⟨hp, ?_⟩) (hb.frame (· ∈ before)), fun _ => ?_⟩
  · rw [hps, List.mem_append] at hp
    exact Or.inr hp
  · obtain ⟨_, _, _, _, _, hz, hn⟩ := hW
    refine ⟨hok, _, _, ([] ++ pa) ++ pv, ⟨[] ++ pa, pv, trodAll_append (hargs _ (fun _ _ => rfl)) (hres _ _ _), hvars _ (fun _ _ => rfl), rfl, ?_, ?_⟩, ?_⟩
    · intro b off hp
      have hin : MemPlace.cell b off ∈ before := by rw [hps]; simpa using hp
      rw [hb.frozen (hlt _ hin)]
      exact hz b off hin
    · intro ha
      have := hn ha
      rw [hps] at this
      simpa using this
    · intro p hp _
      rw [hps]
      simpa using hp

/-- A reading stays where nothing below the heap's old size turns, whatever is asked of the spare places. -/
theorem trod_later (hl : laidOutB P = true) {t : TypeId} (hr : P.readableRec t = true) (hrow : t < P.types.size) {W W' : World} {v : Value} {d : DataW H} {ps : List MemPlace}
    (h : DataW.Trod enc P W 0 (fun _ => true) true t v d ps) (hb : Below W.heap.size W W') (hlt : ∀ x ∈ ps, x.block < W.heap.size) (sp : Nat → Bool) (hsp : ∀ x ∈ ps, sp x.block = true) : DataW.Trod enc P W' 0 sp true t v d ps :=
  WideElems.Trod_stays hl hr hrow h (fun x hx => hb.same (hlt x hx)) hsp
theorem trodAll_later (hl : laidOutB P = true) {W W' : World} (hb : Below W.heap.size W W') (sp : Nat → Bool) : ∀ {ts : List TypeId} {vs : List Value} {ds : List (DataW H)} {ps : List MemPlace}, (ts.all fun t => P.readableRec t && decide (t < P.types.size)) = true →
    DataW.TrodAll enc P W 0 (fun _ => true) true ts vs ds ps → (∀ x ∈ ps, x.block < W.heap.size) → (∀ x ∈ ps, sp x.block = true) → DataW.TrodAll enc P W' 0 sp true ts vs ds ps
  | [], [], [], ps, _, h, _, _ => h
  | t :: ts, v :: vs, d :: ds, ps, ht, h, hlt, hsp => by
    simp only [List.all_cons, Bool.and_eq_true, decide_eq_true_eq] at ht
    obtain ⟨p, q, h1, h2, rfl⟩ := h
    exact ⟨p, q, trod_later hl ht.1.1 ht.1.2 h1 hb (fun x hx => hlt x (by simp [hx])) sp (fun x hx => hsp x (by simp [hx])), trodAll_later hl hb sp ht.2 h2 (fun x hx => hlt x (by simp [hx])) (fun x hx => hsp x (by simp [hx])), rfl⟩
  | [], _ :: _, _, _, _, h, _, _ => h.elim
  | [], [], _ :: _, _, _, h, _, _ => h.elim
  | _ :: _, [], _, _, _, h, _, _ => h.elim
  | _ :: _, _ :: _, [], _, _, h, _, _ => h.elim

/-- Where a value's cells are two or more, it is a struct of these. -/
theorem agg_of_cells {v a b : Value} {r : List Value} (h : v.cells.toList = a :: b :: r) : v = .agg (a :: b :: r).toArray := by
  cases v <;> simp [Value.cells] at h
  rename_i cs
  rw [← h]
/-- The i-th argument weighs no more than the reach. -/
theorem fits_arg {P : Program} {ts us : List TypeId} {ds gs : List (DataW H)} (hw : (DataW.weightsEach P (ts ++ us) (ds ++ gs)).all (· ≤ reachBytes) = true) {j : Nat} {t : TypeId} {d : DataW H} (ht : ts[j]? = some t) (hd : ds[j]? = some d) : Fits P t d := by
  intro n hn
  obtain ⟨h1, -⟩ := List.getElem?_eq_some_iff.1 ht
  obtain ⟨h2, -⟩ := List.getElem?_eq_some_iff.1 hd
  have := List.all_eq_true.1 hw n (DataW.weights_mem_each (j := j) (by rw [List.getElem?_append_left h1]; exact ht) (by rw [List.getElem?_append_left h2]; exact hd) n hn)
  simpa using this
end

theorem arg_ty {H : Type} {enc : TypeId × Value → H} {W : World} {v : Value} {d : DataW H} {p : List MemPlace} (h : DataW.Trod enc Tryz.prog W 0 (fun _ => true) true 25 v d p) (hf : Fits Tryz.prog 25 d) : ∃ e, IsTy W v e := by
  obtain ⟨fuel, h⟩ := h
  obtain ⟨e, v0, v1, v2, hc, he⟩ := read_ty fuel _ _ h hf
  exact ⟨e, by rw [agg_of_cells hc]; exact he⟩
set_option maxRecDepth 100000 in
theorem arg_u16 {H : Type} {enc : TypeId × Value → H} {W : World} {base : Nat} {v : Value} {d : DataW H} {p : List MemPlace} (hok : Value.okWide Tryz.prog W .any base 60 v) (h : DataW.Trod enc Tryz.prog W 0 (fun _ => true) true 60 v d p) : ∃ x : Int, v = .int .u16 x ∧ 0 ≤ x ∧ x ≤ 65535 := by
  obtain ⟨x, rfl, rfl, rfl, hw⟩ := open_int Tryz.underlying60 hok h
  refine ⟨x, rfl, ?_⟩
  simpa [Lit.wf, IntKind.min, IntKind.max, IntKind.signed, IntKind.bits] using hw
end Go.Proofs.YtnfclcfcpgfajaaGreatDoor
