/- A part of the proof that parser laws hold: texts of the walk and of its plain laws, made small. -/
import Derived.Test.YtnfclcfcpgfajaaGreatDoorM07
import Derived.Laws.Cells
import Derived.Laws.Entries
import Derived.ChangeKeysEq
import Derived.Laws.Strings
set_option linter.unusedVariables false
set_option linter.unusedSimpArgs false
/- What operations that only look do: each answer of the evaluator's is one of the model's run. -/
namespace Go.Proofs.YtnfclcfcpgfajaaGreatDoor.Ev
open Go Go.RowKit
section
variable {P : Program} {ρ : Ro} {S : St} {W : World}

theorem add_off (B o i : Nat) : (⟨B, o, none⟩ : Addr).add i = ⟨B, o + i, none⟩ := by
  unfold Addr.add
  by_cases h : i = 0
  · subst h; rfl
  · rw [if_neg h]
theorem AR.add {a b : Addr} (h : AR ρ a b) (n : Nat) : AR ρ (a.add n) (b.add n) := by
  obtain ⟨hs, sh, h1, h2⟩ := h
  obtain ⟨x, y, z⟩ := a
  simp only at hs
  subst hs
  rw [h2, add_off, add_off]
  exact ⟨rfl, sh, h1, by simp [Nat.add_assoc]⟩
theorem ti_some {t : TypeId} {d : TypeDesc} {n : Nat} (h : ti P t = some (d, n)) : P.underlying t = some d ∧ ∃ i, P.info? t = some i ∧ i.size = n := by
  unfold ti at h
  cases hi : P.info? t with
  | none => rw [hi] at h; cases h
  | some i =>
    rw [hi] at h
    cases hu : P.underlying t with
    | none => rw [hu] at h; cases h
    | some d' => rw [hu] at h; cases h; exact ⟨rfl, i, rfl, rfl⟩
theorem sizeT_some {t : TypeId} {n : Nat} (h : sizeT P t = some n) : ∃ i, P.info? t = some i ∧ i.size = n := by
  unfold sizeT at h
  cases hi : P.info? t with
  | none => rw [hi] at h; cases h
  | some i => rw [hi] at h; cases h; exact ⟨i, rfl, rfl⟩
theorem run_info {t : TypeId} {i : TypeInfo} (h : P.info? t = some i) (w : World) : (typeInfo t).run P w = .ok i w := by simp [typeInfo, h]
theorem run_size {t : TypeId} {n : Nat} (h : sizeT P t = some n) (w : World) : (sizeOf t).run P w = .ok n w := by
  obtain ⟨i, h1, h2⟩ := sizeT_some h
  simp [sizeOf, run_info h1, h2]
theorem ti_size {t : TypeId} {d : TypeDesc} {n : Nat} (h : ti P t = some (d, n)) : sizeT P t = some n := by
  obtain ⟨_, i, h1, h2⟩ := ti_some h
  simp [sizeT, h1, h2]
theorem run_agg {t : TypeId} {d : TypeDesc} (h : P.underlying t = some d) (w : World) : (isAgg t).run P w = .ok (isAggD d) w := by
  cases d <;> simp [isAgg, run_underlying h, isAggD]
theorem cellT_some {t : TypeId} {b : Bool} {n : Nat} (h : cellT P t = some (b, n)) (w : World) : (isAgg t).run P w = .ok b w ∧ sizeT P t = some n := by
  unfold cellT at h
  cases ht : ti P t with
  | none => rw [ht] at h; cases h
  | some p =>
    obtain ⟨d, m⟩ := p
    rw [ht] at h
    cases h
    exact ⟨run_agg (ti_some ht).1 w, ti_size ht⟩
theorem run_v {s : Sem Value} {v : Value} {w w' : World} (h : s.run P w = .ok v w') : (s >>= fun x => (pure (.value x) : Sem Next)).run P w = .ok (.value v) w' := by rw [Sem.run_bind, h]; rfl

/-! ### Parts -/
theorem part_sound {t : TypeId} {c : Bool × Nat} {cs : List Value} {ds : Array Value} {off : Nat} {v : Value} (hc : cellT P t = some c) (h : partT cs off (some c) = some v) (hl : LR ρ cs ds.toList) (w : World) :
    ∃ v', (part t ds off).run P w = .ok v' w ∧ VR ρ v v' := by
  obtain ⟨b, n⟩ := c
  obtain ⟨h1, h2⟩ := cellT_some hc w
  cases b with
  | true =>
    obtain ⟨h3, h4⟩ := bi_some (show bi (Nat.ble (off + n) (lenV cs)) _ none = some v from h)
    cases h4
    refine ⟨.agg (ds.extract off (off + n)), by simp [part, h1, run_size h2], ?_⟩
    have := (hl.drop off).take n
    rw [dropL_eq, takeL_eq]
    have e : (ds.extract off (off + n)) = ((ds.toList.drop off).take n).toArray := by
      apply Array.toList_inj.1
      simp [Array.toList_extract, List.extract_eq_take_drop]
    rw [e]
    exact this.toArr
  | false =>
    have h3 : nthL off cs = some v := h
    rw [nthL_eq] at h3
    obtain ⟨v', h4, h5⟩ := hl.get h3
    refine ⟨v', ?_, h5⟩
    have h6 : ds[off]? = some v' := by simpa using h4
    simp [part, h1, h6]

/-! ### Memory -/
/-- A row's cell. -/
theorem Sim.cell (hS : Sim P ρ S W) {a b : Addr} (h : AR ρ a b) {cs : List Value} {ty : TypeId} {f base : Nat} (hr : S.h.get a.block = some (.row cs ty f base)) {i : Nat} {v : Value} (hv : cs[a.off + i]? = some v) :
    ∃ w, W.cell? (b.add i) = some w ∧ W.frozen? (b.add i) = false ∧ VR ρ v w := by
  obtain ⟨hs, sh, h1, h2⟩ := h
  obtain ⟨x, hx, c, e, fz, rfl, h3, h4, h5, h6, h7, h8⟩ := hS.ob _ _ _ _ hr h1
  have hi : a.off + i < cs.length := (List.getElem?_eq_some_iff.1 hv).1
  have hj : sh + (a.off + i) < c.size := by omega
  refine ⟨c[sh + (a.off + i)], ?_, ?_, h8 _ _ _ hv (by simp [hj])⟩
  · rw [h2, add_off]
    simp only [World.cell?, hx, Option.isSome_none]
    simp [Nat.add_assoc, hj]
  · rw [h2, add_off]
    simp only [World.frozen?, hx]
    obtain ⟨lo, hi⟩ := fz
    simp only at h6
    rw [Nat.add_assoc]
    simp only [Bool.and_eq_false_iff, decide_eq_false_iff_not, Nat.not_le, Nat.not_lt]
    omega
theorem rowL_some {o : Option Ob} {cs : List Value} (h : rowL o = some cs) : ∃ ty f base, o = some (.row cs ty f base) := by
  cases o with
  | none => cases h
  | some o => cases o <;> first | (cases h; exact ⟨_, _, _, rfl⟩) | cases h
theorem loadV_sound (hS : Sim P ρ S W) {t : TypeId} {a b : Addr} (h : AR ρ a b) {v : Value} (hv : loadV S (cellT P t) a = some v) : ∃ v', (loadVar t b).run P W = .ok v' W ∧ VR ρ v v' := by
  have hv' : loadR (cellT P t) a.off (rowL (S.h.get a.block)) = some v := hv
  cases hr : rowL (S.h.get a.block) with
  | none => rw [hr] at hv'; cases hv'
  | some cs =>
    obtain ⟨ty, f, base, hr'⟩ := rowL_some hr
    rw [hr] at hv'
    have hp : partT cs a.off (cellT P t) = some v := hv'
    cases hc : cellT P t with
    | none => rw [hc] at hp; cases hp
    | some c =>
      rw [hc] at hp
      obtain ⟨g, n⟩ := c
      obtain ⟨h1, h2⟩ := cellT_some hc W
      cases g with
      | true =>
        obtain ⟨h3, h4⟩ := bi_some (show bi (Nat.ble (a.off + n) (lenV cs)) _ none = some v from hp)
        cases h4
        have h5 := ble_t h3
        rw [lenV_eq] at h5
        have hex : ∀ j, j < n → ∃ w, W.cell? (b.add j) = some w ∧ ∀ v, cs[a.off + j]? = some v → VR ρ v w := fun j hj => by
          have hjl : a.off + j < cs.length := by omega
          obtain ⟨w, h6, _, h7⟩ := hS.cell h hr' (i := j) (v := cs[a.off + j]) (by simp [hjl])
          exact ⟨w, h6, fun v hv => by simp [hjl] at hv; rw [← hv]; exact h7⟩
        let ws : Nat → Value := fun j => (W.cell? (b.add j)).getD Top
        have hws : ∀ j, j < n → W.cell? (b.add j) = some (ws j) := fun j hj => by obtain ⟨w, h6, _⟩ := hex j hj; simp [ws, h6]
        refine ⟨.agg ((List.range n).map ws).toArray, ?_, ?_⟩
        · have := run_loadCells (P := P) (w := W) b n ws hws
          simp [loadVar, h1, run_size h2, this]
        · rw [dropL_eq, takeL_eq]
          refine LR.toArr ⟨by simp; omega, fun i v w hx hy => ?_⟩
          rw [List.getElem?_take] at hx
          by_cases hi : i < n
          · rw [if_pos hi, List.getElem?_drop] at hx
            simp [hi] at hy
            obtain ⟨w', h6, h7⟩ := hex i hi
            have : ws i = w' := by simp [ws, h6]
            rw [← hy, this]
            exact h7 v hx
          · rw [if_neg hi] at hx; cases hx
      | false =>
        have h3 : nthL a.off cs = some v := hp
        rw [nthL_eq] at h3
        obtain ⟨w, h4, _, h5⟩ := hS.cell h hr' (i := 0) (v := v) (by simpa using h3)
        have h6 : b.add 0 = b := rfl
        rw [h6] at h4
        exact ⟨w, by simp [loadVar, h1, h4], h5⟩
end
end Go.Proofs.YtnfclcfcpgfajaaGreatDoor.Ev

/- What operations that only look do, one by one. -/
namespace Go.Proofs.YtnfclcfcpgfajaaGreatDoor.Ev
open Go Go.RowKit
section
variable {P : Program} {ρ : Ro} {S : St} {W : World}

theorem onBool_some {α : Type} {v : Value} {k : Bool → Option α} {x : α} (h : onBool v none k = some x) : ∃ b, v = .bool b ∧ k b = some x := by
  cases v <;> first | exact ⟨_, rfl, h⟩ | cases h
theorem onPtr_some {α : Type} {v : Value} {k : Addr → Option α} {x : α} (h : onPtr v k = some x) : ∃ a, v = .pointer (some a) ∧ k a = some x := by
  cases v with
  | pointer a =>
    cases a with
    | none => cases h
    | some a => exact ⟨a, rfl, h⟩
  | _ => cases h
theorem onSl_some {α : Type} {v : Value} {k : Option Addr → Nat → Nat → Option α} {x : α} (h : onSl v k = some x) : ∃ a n c, v = .slice a n c ∧ k a n c = some x := by
  cases v <;> first | exact ⟨_, _, _, rfl, h⟩ | cases h
theorem onAgg_some {α : Type} {v : Value} {k : List Value → Option α} {x : α} (h : onAgg v k = some x) : ∃ cs, v = .agg cs ∧ k cs.toList = some x := by
  cases v <;> first | exact ⟨_, rfl, h⟩ | cases h
theorem nat_some {v : Value} {n : Nat} (h : nat? v = some n) : ∃ k, v = .int k (.ofNat n) := by
  cases v with
  | int k i =>
    cases i with
    | ofNat m => cases h; exact ⟨k, rfl⟩
    | negSucc m => cases h
  | _ => cases h
theorem VR.bool {b : Bool} {w : Value} (h : VR ρ (.bool b) w) : w = .bool b := flat_inv rfl h
theorem VR.int {k : IntKind} {i : Int} {w : Value} (h : VR ρ (.int k i) w) : w = .int k i := flat_inv rfl h
theorem VR.str {s : ByteArray} {w : Value} (h : VR ρ (.string s) w) : w = .string s := flat_inv rfl h
theorem VR.nilptr {w : Value} (h : VR ρ (.pointer none) w) : w = .pointer none := flat_inv rfl h
theorem VR.pointer {a : Addr} {w : Value} (h : VR ρ (.pointer (some a)) w) : ∃ b, w = .pointer (some b) ∧ AR ρ a b := by
  cases h with
  | flat h => cases h
  | ptr h => exact ⟨_, rfl, h⟩
theorem VR.nilsl {n c : Nat} {w : Value} (h : VR ρ (.slice none n c) w) : w = .slice none n c := flat_inv rfl h
theorem VR.nilmap {w : Value} (h : VR ρ (.map none) w) : w = .map none := flat_inv rfl h
theorem VR.mapv {r : Nat} {w : Value} (h : VR ρ (.map (some r)) w) : ∃ r', w = .map (some r') ∧ ρ.at_ r = some (r', 0) := by
  cases h with
  | flat h => cases h
  | map h => exact ⟨_, rfl, h⟩
theorem VR.aggv {a : Array Value} {w : Value} (h : VR ρ (.agg a) w) : ∃ b, w = .agg b ∧ LR ρ a.toList b.toList := by
  cases h with
  | flat h => cases h
  | agg hs h => exact ⟨_, rfl, LR.of_arr hs h⟩
theorem VR.tuplev {a : Array Value} {w : Value} (h : VR ρ (.tuple a) w) : ∃ b, w = .tuple b ∧ LR ρ a.toList b.toList := by
  cases h with
  | flat h => cases h
  | tuple hs h => exact ⟨_, rfl, LR.of_arr hs h⟩
theorem VR.funcv {f : Fn} {a c : Array Value} {w : Value} (h : VR ρ (.func f a c) w) : ∃ g b d, w = .func g b d ∧ FnR ρ f g ∧ LR ρ a.toList b.toList ∧ LR ρ c.toList d.toList := by
  cases h with
  | flat h => cases h
  | func h ha h1 hc h2 => exact ⟨_, _, _, rfl, h, LR.of_arr ha h1, LR.of_arr hc h2⟩
theorem VR.ifacev {t : TypeId} {v w : Value} (h : VR ρ (.iface t v) w) : ∃ u, w = .iface t u ∧ VR ρ v u := by
  cases h with
  | flat h => cases h
  | iface h => exact ⟨_, rfl, h⟩
/-- A slice that has an address. -/
theorem VR.slicev {a : Addr} {n c : Nat} {w : Value} (h : VR ρ (.slice (some a) n c) w) : ∃ b c', w = .slice (some b) n c' ∧ n ≤ max n c' ∧
    ((AR ρ a b ∧ c < U ∧ c' = c) ∨ (AR ρ a b ∧ c = U ∧ n ≤ c' ∧ n < U ∧ b.off + c' * ρ.esz b.block ≤ ρ.room b.block) ∨ (n = 0 ∧ c = U ∧ c' = 0) ∨ (n = 0 ∧ c = 0 ∧ c' = 0)) := by
  cases h with
  | flat h => cases h
  | slice h hc => exact ⟨_, _, rfl, by omega, .inl ⟨h, hc, rfl⟩⟩
  | sliceU h hn hU hr => exact ⟨_, _, rfl, by omega, .inr (.inl ⟨h, rfl, hn, hU, hr⟩)⟩
  | sliceE a b => exact ⟨_, _, rfl, by omega, .inr (.inr (.inl ⟨rfl, rfl, rfl⟩))⟩
  | sliceZ a b => exact ⟨_, _, rfl, by omega, .inr (.inr (.inr ⟨rfl, rfl, rfl⟩))⟩
theorem VR.func_op {f : FuncId} : VR ρ (.func (.func f) #[] #[]) (.func (.func f) #[] #[]) := .func rfl rfl (fun i v w h => by simp at h) rfl (fun i v w h => by simp at h)
theorem VR.undef : VR ρ undef undef := .tuple rfl (fun i v w h => by simp at h)

/-- A value's cells. -/
theorem cells_sound {v w : Value} (h : VR ρ v w) (ht : isTop v = false) : LR ρ (cellsL v) w.cells.toList := by
  cases h with
  | top w => cases ht
  | agg hs h => exact LR.of_arr hs h
  | flat h =>
    have h1 : cellsL v = [v] := by cases v <;> first | rfl | cases h
    have h2 : v.cells = #[v] := by cases v <;> first | rfl | cases h
    rw [h1, h2]
    exact LR.cons (.flat h) LR.nil
  | ptr h => exact LR.cons (.ptr h) LR.nil
  | slice h hc => exact LR.cons (.slice h hc) LR.nil
  | sliceU h hn hU hr => exact LR.cons (.sliceU h hn hU hr) LR.nil
  | sliceE a b => exact LR.cons (.sliceE a b) LR.nil
  | sliceZ a b => exact LR.cons (.sliceZ a b) LR.nil
  | map h => exact LR.cons (.map h) LR.nil
  | func h ha h1 hc h2 => exact LR.cons (.func h ha h1 hc h2) LR.nil
  | iface h => exact LR.cons (.iface h) LR.nil
  | tuple hs h => exact LR.cons (.tuple hs h) LR.nil
theorem ofSize_t {v : Value} {n : Nat} (h : ofSize v n = true) : isTop v = false ∧ (cellsL v).length = n := by
  obtain ⟨h1, h2⟩ := nb_t h
  have h3 := beq_t h2
  rw [lenV_eq] at h3
  exact ⟨by simpa using h1, h3⟩

theorem pick_sound {c a b v : Value} {c' a' b' : Value} (h : rPick c a b = some v) (hc : VR ρ c c') (ha : VR ρ a a') (hb : VR ρ b b') (w : World) :
    ∃ v', ((do pure (.value (if ← asBool c' then a' else b')) : Sem Next)).run P w = .ok (.value v') w ∧ VR ρ v v' := by
  obtain ⟨t, rfl, h1⟩ := onBool_some h
  have := hc.bool
  subst this
  cases h1
  cases t with
  | true => exact ⟨a', by simp [asBool], ha⟩
  | false => exact ⟨b', by simp [asBool], hb⟩
theorem nil_sound {x v x' : Value} (h : rNil x = some v) (hx : VR ρ x x') : v = x ∧ ((∃ b, x' = .pointer (some b)) ∨ (∃ f a c, x' = .func (.func f) a c) ∨ ∃ l a c, x' = .func (.yield l) a c) := by
  cases x with
  | pointer a =>
    cases a with
    | none => cases h
    | some a =>
      cases h
      obtain ⟨b, rfl, _⟩ := hx.pointer
      exact ⟨rfl, .inl ⟨b, rfl⟩⟩
  | func fn a b =>
    cases fn with
    | func f => cases h; obtain ⟨g, c, d, rfl, hf, _, _⟩ := hx.funcv; rw [show g = .func f from hf]; exact ⟨rfl, .inr (.inl ⟨_, _, _, rfl⟩)⟩
    | yield l => cases h; obtain ⟨g, c, d, rfl, ⟨l', rfl, _⟩, _, _⟩ := hx.funcv; exact ⟨rfl, .inr (.inr ⟨_, _, _, rfl⟩)⟩
    | _ => cases h
  | _ => cases h
theorem extract_sound {t v t' : Value} {ix : Nat} (h : rExtract ix t = some v) (ht : VR ρ t t') (w : World) : ∃ v', (Instr.extract t' ix).run P w = .ok v' w ∧ VR ρ v v' := by
  cases t with
  | tuple vs =>
    have h1 : nthL ix vs.toList = some v := h
    rw [nthL_eq] at h1
    obtain ⟨b, rfl, hl⟩ := ht.tuplev
    obtain ⟨v', h2, h3⟩ := hl.get h1
    have h4 : b[ix]? = some v' := by simpa using h2
    exact ⟨v', by simp [Instr.extract, h4], h3⟩
  | _ => cases h
theorem iface_sound {t : TypeId} {x v x' : Value} (h : rIface P t x = some v) (hx : VR ρ x x') (w : World) : ∃ v', (Instr.makeInterface t x').run P w = .ok v' w ∧ VR ρ v v' := by
  unfold rIface at h
  cases ht : ti P t with
  | none => rw [ht] at h; cases h
  | some p =>
    obtain ⟨d, n⟩ := p
    rw [ht] at h
    have hu := (ti_some ht).1
    cases d <;> first | (cases h; exact ⟨_, by simp [Instr.makeInterface, run_underlying hu], .iface hx⟩) | cases h
theorem fieldOff_some {t : TypeId} {i off : Nat} (h : fieldOff P t i = some off) : ∃ fs f n, P.underlying t = some (.struct fs) ∧ fs[i]? = some f ∧ f.offset = off ∧ sizeT P f.type = some n ∧ n ≠ 0 := by
  unfold fieldOff at h
  cases hf : fieldsOf (ti P t) with
  | none => rw [hf] at h; cases h
  | some fs =>
    rw [hf] at h
    have hu : P.underlying t = some (.struct fs) := by
      cases ht : ti P t with
      | none => rw [ht] at hf; cases hf
      | some p =>
        obtain ⟨d, n⟩ := p
        rw [ht] at hf
        cases d <;> first | (cases hf; exact (ti_some ht).1) | cases hf
    simp only [fieldAt] at h
    cases hi : fs[i]? with
    | none => simp only [hi] at h; cases h
    | some f =>
      simp only [hi] at h
      cases hs : sizeT P f.type with
      | none => simp only [hs] at h; cases h
      | some n =>
        simp only [hs] at h
        obtain ⟨h1, h2⟩ := bi_some' h
        cases h2
        exact ⟨fs, f, n, hu, hi, rfl, hs, beq_f h1⟩
theorem fieldAddr_sound {t : TypeId} {i : Nat} {x v x' : Value} (h : rFieldAddr (fieldOff P t i) x = some v) (hx : VR ρ x x') (w : World) : ∃ v', (Instr.fieldAt t x' i).run P w = .ok v' w ∧ VR ρ v v' := by
  obtain ⟨a, rfl, h1⟩ := onPtr_some h
  obtain ⟨b, rfl, hab⟩ := hx.pointer
  cases ho : fieldOff P t i with
  | none => rw [ho] at h1; cases h1
  | some off =>
    rw [ho] at h1
    cases h1
    obtain ⟨fs, f, n, hu, hi, rfl, hs, hn⟩ := fieldOff_some ho
    exact ⟨.pointer (some (b.add f.offset)), by simp [Instr.fieldAt, run_underlying hu, hi, Instr.sureAddr, fieldPlace, run_size hs, hn], .ptr (hab.add _)⟩
theorem fieldCell_some {t : TypeId} {i off : Nat} {c : Bool × Nat} (h : fieldCell P t i = some (off, c)) : ∃ fs f, P.underlying t = some (.struct fs) ∧ fs[i]? = some f ∧ f.offset = off ∧ cellT P f.type = some c := by
  unfold fieldCell at h
  cases hf : fieldsOf (ti P t) with
  | none => rw [hf] at h; cases h
  | some fs =>
    rw [hf] at h
    have hu : P.underlying t = some (.struct fs) := by
      cases ht : ti P t with
      | none => rw [ht] at hf; cases hf
      | some p =>
        obtain ⟨d, n⟩ := p
        rw [ht] at hf
        cases d <;> first | (cases hf; exact (ti_some ht).1) | cases hf
    cases hi : fs[i]? with
    | none => simp only [hi] at h; cases h
    | some f =>
      simp only [hi] at h
      cases hs : cellT P f.type with
      | none => simp only [hs] at h; cases h
      | some n => simp only [hs] at h; cases h; exact ⟨fs, f, hu, hi, rfl, hs⟩
theorem field_sound {t : TypeId} {i : Nat} {x v x' : Value} (h : rField (fieldCell P t i) x = some v) (hx : VR ρ x x') (w : World) : ∃ v', (Instr.field t x' i).run P w = .ok v' w ∧ VR ρ v v' := by
  obtain ⟨cs, rfl, h1⟩ := onAgg_some h
  obtain ⟨ds, rfl, hl⟩ := hx.aggv
  cases ho : fieldCell P t i with
  | none => simp only [ho] at h1; cases h1
  | some p =>
    obtain ⟨off, c⟩ := p
    simp only [ho] at h1
    obtain ⟨fs, f, hu, hi, rfl, hc⟩ := fieldCell_some ho
    obtain ⟨v', h2, h3⟩ := part_sound hc h1 hl w
    exact ⟨v', by simp [Instr.field, run_underlying hu, hi, asAgg, h2], h3⟩
theorem elemSl_some {t : TypeId} {e : TypeId} (h : elemSl (ti P t) = some e) : P.underlying t = some (.slice e) := by
  cases ht : ti P t with
  | none => rw [ht] at h; cases h
  | some p =>
    obtain ⟨d, n⟩ := p
    rw [ht] at h
    cases d <;> first | (cases h; exact (ti_some ht).1) | cases h
theorem sizeO_some {o : Option TypeId} {n : Nat} (h : sizeO P o = some n) : ∃ e, o = some e ∧ sizeT P e = some n := by
  cases o with
  | none => cases h
  | some e => exact ⟨e, rfl, h⟩
theorem arrN_some {t : TypeId} {len n : Nat} (h : arrN P t = some (len, n)) : ∃ e, P.underlying t = some (.array len e) ∧ sizeT P e = some n := by
  unfold arrN at h
  cases ht : ti P t with
  | none => rw [ht] at h; cases h
  | some p =>
    obtain ⟨d, m⟩ := p
    rw [ht] at h
    cases d with
    | array l e =>
      simp only [elemArr] at h
      cases hs : sizeT P e with
      | none => simp only [hs] at h; cases h
      | some k => simp only [hs] at h; cases h; exact ⟨e, (ti_some ht).1, hs⟩
    | _ => cases h
theorem indexAddr_sound {t : TypeId} {x i v x' i' : Value} (h : rIndexAddr (sizeO P (elemSl (ti P t))) (arrN P t) x (nat? i) = some v) (hx : VR ρ x x') (hi : VR ρ i i') (w : World) :
    ∃ v', (Instr.indexAt t x' i').run P w = .ok v' w ∧ VR ρ v v' := by
  cases hn : nat? i with
  | none => rw [hn] at h; cases h
  | some k =>
    rw [hn] at h
    obtain ⟨j, rfl⟩ := nat_some hn
    have := hi.int
    subst this
    cases x with
    | slice a len cap =>
      cases a with
      | none => cases h
      | some a =>
        cases hz : sizeO P (elemSl (ti P t)) with
        | none => rw [hz] at h; cases h
        | some n =>
          rw [hz] at h
          obtain ⟨h1, h2⟩ := bi_some (show bi (Nat.ble (k + 1) len) _ none = some v from h)
          cases h2
          obtain ⟨e, h3, h4⟩ := sizeO_some hz
          have hu := elemSl_some h3
          have hk := ble_t h1
          obtain ⟨b, c', rfl, _, hc⟩ := hx.slicev
          have hab : AR ρ a b := by
            rcases hc with h | h | h | h
            · exact h.1
            · exact h.1
            · omega
            · omega
          refine ⟨.pointer (some (b.add (k * n))), ?_, .ptr (hab.add _)⟩
          have hb : k < len := by omega
          have hb' : ¬ len ≤ k := by omega
          simp [Instr.indexAt, asIntOf, run_underlying hu, run_size h4, hb, hb']
    | pointer a =>
      cases a with
      | none => cases h
      | some a =>
        cases hz : arrN P t with
        | none => rw [hz] at h; cases h
        | some p =>
          obtain ⟨len, n⟩ := p
          rw [hz] at h
          obtain ⟨h1, h2⟩ := bi_some (show bi (Nat.ble (k + 1) len) _ none = some v from h)
          cases h2
          obtain ⟨e, hu, h4⟩ := arrN_some hz
          have hk := ble_t h1
          obtain ⟨b, rfl, hab⟩ := hx.pointer
          refine ⟨.pointer (some (b.add (k * n))), ?_, .ptr (hab.add _)⟩
          have hb : k < len := by omega
          have hb' : ¬ len ≤ k := by omega
          simp [Instr.indexAt, asIntOf, run_underlying hu, run_size h4, hb, hb', Instr.sureAddr]
    | _ => cases h
theorem arrCell_some {t : TypeId} {len : Nat} {c : Bool × Nat} (h : arrCell P t = some (len, c)) : ∃ e, P.underlying t = some (.array len e) ∧ cellT P e = some c := by
  unfold arrCell at h
  cases ht : ti P t with
  | none => rw [ht] at h; cases h
  | some p =>
    obtain ⟨d, m⟩ := p
    rw [ht] at h
    cases d with
    | array l e =>
      simp only [elemArr] at h
      cases hs : cellT P e with
      | none => simp only [hs] at h; cases h
      | some k => simp only [hs] at h; cases h; exact ⟨e, (ti_some ht).1, hs⟩
    | _ => cases h
theorem isStrT_some {t : TypeId} (h : isStrT (ti P t) = true) : P.underlying t = some .string := by
  cases ht : ti P t with
  | none => rw [ht] at h; cases h
  | some p =>
    obtain ⟨d, m⟩ := p
    rw [ht] at h
    cases d <;> first | exact (ti_some ht).1 | cases h
theorem index_sound {t : TypeId} {x i v x' i' : Value} (h : rIndex (isStrT (ti P t)) (arrCell P t) x (nat? i) = some v) (hx : VR ρ x x') (hi : VR ρ i i') (w : World) :
    ∃ v', (Instr.index t x' i').run P w = .ok v' w ∧ VR ρ v v' := by
  cases hn : nat? i with
  | none => rw [hn] at h; cases h
  | some k =>
    rw [hn] at h
    obtain ⟨j, rfl⟩ := nat_some hn
    have := hi.int
    subst this
    cases x with
    | string s =>
      obtain ⟨h1, h2⟩ := bi_some (show bi (isStrT (ti P t)) (pByte (nthL k s.data.toList)) none = some v from h)
      have hu := isStrT_some h1
      have := hx.str
      subst this
      rw [nthL_eq] at h2
      cases hb : s.data.toList[k]? with
      | none => rw [hb] at h2; cases h2
      | some b =>
        rw [hb] at h2
        cases h2
        refine ⟨_, ?_, .flat rfl⟩
        have h3 : s[k]? = some b := by
          have h4 : s.data[k]? = some b := by simpa using hb
          obtain ⟨h5, h6⟩ := Array.getElem?_eq_some_iff.1 h4
          show (if h : k < s.size then some s[k] else none) = some b
          rw [dif_pos (show k < s.size from h5)]
          exact congrArg some h6
        simp [Instr.index, asIntOf, run_underlying hu, h3]
    | agg cs =>
      cases hz : arrCell P t with
      | none => rw [hz] at h; cases h
      | some p =>
        obtain ⟨len, g, n⟩ := p
        rw [hz] at h
        obtain ⟨h1, h2⟩ := bi_some (show bi (Nat.ble (k + 1) len) (partL g n cs.toList (k * n)) none = some v from h)
        obtain ⟨e, hu, hc⟩ := arrCell_some hz
        have hk := ble_t h1
        obtain ⟨ds, rfl, hl⟩ := hx.aggv
        have hs := (cellT_some hc w).2
        obtain ⟨v', h3, h4⟩ := part_sound hc (show partT cs.toList (k * n) (some (g, n)) = some v from h2) hl w
        have hb : k < len := by omega
        have hb' : ¬ len ≤ k := by omega
        exact ⟨v', by simp [Instr.index, asIntOf, run_underlying hu, run_size hs, hb, hb', h3], h4⟩
    | _ => cases h
end
end Go.Proofs.YtnfclcfcpgfajaaGreatDoor.Ev

/- Comparing, reckoning, slicing, and converting. -/
namespace Go.Proofs.YtnfclcfcpgfajaaGreatDoor.Ev
open Go Go.RowKit
section
variable {P : Program} {ρ : Ro} {S : St} {W : World}

/-- What needs no memory is told in every world. -/
theorem runP_run {α : Type} : ∀ {s : Sem α} {a : α}, runP P s = some a → ∀ w, s.run P w = .ok a w
  | .pure a, b, h, w => by cases h; rfl
  | .program k, b, h, w => by
    have h1 : runP P (k P) = some b := h
    exact runP_run h1 w
  | .mark m k, b, h, w => by
    have h1 : runP P k = some b := h
    exact runP_run h1 w
  | .load .., _, h, _ => by cases h
  | .store .., _, h, _ => by cases h
  | .new .., _, h, _ => by cases h
  | .shape .., _, h, _ => by cases h
  | .freeze .., _, h, _ => by cases h
  | .frozen .., _, h, _ => by cases h
  | .getObj .., _, h, _ => by cases h
  | .setObj .., _, h, _ => by cases h
  | .choose .., _, h, _ => by cases h
  | .sys .., _, h, _ => by cases h
  | .halt .., _, h, _ => by cases h
theorem guard_int {op : BinOp} {t : TypeId} {x y : Operand} {j k : IntKind} {a b : Int} (w : World) : (eqGuard op t x y (.int j a) (.int k b)).run P w = .ok () w := by cases op <;> rfl
theorem guard_str {op : BinOp} {t : TypeId} {x y : Operand} {a b : ByteArray} (w : World) : (eqGuard op t x y (.string a) (.string b)).run P w = .ok () w := by cases op <;> rfl
/-- A comparison, or a reckoning, is done by its two parts. -/
theorem bin_run {op : BinOp} {t : TypeId} {x y : Operand} {a b v : Value} {w : World} (h1 : (eqGuard op t x y a b).run P w = .ok () w) (h2 : (binOp op t a b).run P w = .ok v w) : (do eqGuard op t x y a b; binOp op t a b : Sem Value).run P w = .ok v w := by
  rw [Sem.run_bind, h1]; exact h2
theorem runV_some {s : Sem Value} {v : Value} (h : runV P s = some v) : runP P s = some v ∧ plain v = true := by
  unfold runV at h
  cases hr : runP P s with
  | none => rw [hr] at h; cases h
  | some u =>
    rw [hr] at h
    obtain ⟨h1, h2⟩ := bi_some h
    cases h2
    exact ⟨rfl, h1⟩
theorem runV_run {s : Sem Value} {v : Value} (h : runV P s = some v) (w : World) : s.run P w = .ok v w := runP_run (runV_some h).1 w
theorem dec_lt (a b : Int) : decide (a < b) = !decide (b ≤ a) := by
  by_cases h : b ≤ a
  · simp [h]
  · simp [h]; omega
theorem int_eql {op : BinOp} {t : TypeId} {j : IntKind} {a b : Int} {v : Value} (h : rInt P op t j j a b = some v) (w : World) : (binOp op t (.int j a) (.int j b)).run P w = .ok v w ∧ plain v = true := by
  have hk : Nat.beq (kNum j) (kNum j) = true := Nat.beq_refl _
  unfold rInt at h
  rw [hk, bi_t] at h
  cases op <;> (try exact ⟨runV_run h w, (runV_some h).2⟩) <;> (simp only [Option.some.injEq] at h; subst h; refine ⟨?_, rfl⟩; simp [binOp, Op.intArith, Op.intCmp, wrapQ_eq, ieq_eq, ile_eq, dec_lt]) <;> (try rfl)
theorem rInt_sound {op : BinOp} {t : TypeId} {j k : IntKind} {a b : Int} {v : Value} (h : rInt P op t j k a b = some v) (w : World) : (binOp op t (.int j a) (.int k b)).run P w = .ok v w ∧ plain v = true := by
  cases hk : Nat.beq (kNum j) (kNum k) with
  | false => unfold rInt at h; rw [hk] at h; exact ⟨runV_run h w, (runV_some h).2⟩
  | true =>
    have := kNum_inj hk
    subst this
    exact int_eql h w
theorem rStr_sound {op : BinOp} {t : TypeId} {a b : ByteArray} {v : Value} (h : rStr P op a.data.toList b.data.toList = some v) (w : World) : (binOp op t (.string a) (.string b)).run P w = .ok v w ∧ plain v = true := by
  have hb : binOp op t (.string a) (.string b) = Op.stringOp op a b := by cases op <;> rfl
  rw [hb]
  have ha : (⟨a.data.toList.toArray⟩ : ByteArray) = a := by cases a; simp
  have hbb : (⟨b.data.toList.toArray⟩ : ByteArray) = b := by cases b; simp
  unfold rStr at h
  cases op <;> (try (simp only [ha, hbb] at h; exact ⟨runV_run h w, (runV_some h).2⟩))
  case add =>
    obtain ⟨h1, h2⟩ := bi_some h
    cases h2
    have h3 := ble_t h1
    rw [lenV_eq, lenV_eq] at h3
    refine ⟨?_, rfl⟩
    have hsz : a.size + b.size ≤ 100000 := h3
    have e : (⟨(a.data.toList ++ b.data.toList).toArray⟩ : ByteArray) = a ++ b := by
      apply ByteArray.ext
      rw [ByteArray.data_append]
      apply Array.toList_inj.1
      simp
    simp only [Op.stringOp]
    rw [if_neg (by simp [IntKind.max, IntKind.bits, IntKind.signed]; omega), e]
    rfl
  case eql => cases h; exact ⟨by simp [Op.stringOp, ByteArray.toList_eq, eqBytes_eq], rfl⟩
  case neq => cases h; exact ⟨by simp [Op.stringOp, ByteArray.toList_eq, eqBytes_eq], rfl⟩

/-! ### Addresses -/
theorem eqOp_some {op : BinOp} {o : Option Bool} {v : Value} (h : eqOp op o = some v) : ∃ b, o = some b ∧ ((op = .eql ∧ v = .bool b) ∨ (op = .neq ∧ v = .bool (!b))) := by
  cases op <;> (try cases h)
  case eql =>
    cases o with
    | none => cases h
    | some b => cases h; exact ⟨b, rfl, .inl ⟨rfl, rfl⟩⟩
  case neq =>
    cases o with
    | none => cases h
    | some b => cases h; exact ⟨b, rfl, .inr ⟨rfl, rfl⟩⟩
theorem equal_eq (t : TypeId) (x y : Value) : Op.equal t x y = Op.equalIn (9999 + 1) t x y := rfl
/-- 'x == y' and 'x != y' by what 'equal' tells. -/
theorem eq_run {op : BinOp} {t : TypeId} {a b v : Value} {o : Option Bool} {w : World} (h : eqOp op o = some v) (hb : ∀ c, o = some c → (Op.equal t a b).run P w = .ok c w)
    (he : binOp .eql t a b = (do pure (.bool (← Op.equal t a b)))) (hn : binOp .neq t a b = (do pure (.bool (!(← Op.equal t a b))))) : (binOp op t a b).run P w = .ok v w ∧ plain v = true := by
  obtain ⟨c, h1, h2⟩ := eqOp_some h
  have h3 := hb c h1
  rcases h2 with ⟨rfl, rfl⟩ | ⟨rfl, rfl⟩
  · rw [he, Sem.run_bind, h3]; exact ⟨rfl, rfl⟩
  · rw [hn, Sem.run_bind, h3]; exact ⟨rfl, rfl⟩
theorem isPtrT_some {t : TypeId} (h : isPtrT (ti P t) = true) : ∃ e, P.underlying t = some (.pointer e) := by
  cases ht : ti P t with
  | none => rw [ht] at h; cases h
  | some p =>
    obtain ⟨d, m⟩ := p
    rw [ht] at h
    cases d <;> first | exact ⟨_, (ti_some ht).1⟩ | cases h
theorem isSlT_some {t : TypeId} (h : isSlT (ti P t) = true) : ∃ e, P.underlying t = some (.slice e) := by
  cases ht : ti P t with
  | none => rw [ht] at h; cases h
  | some p =>
    obtain ⟨d, m⟩ := p
    rw [ht] at h
    cases d <;> first | exact ⟨_, (ti_some ht).1⟩ | cases h
theorem isMapT_some {t : TypeId} (h : isMapT (ti P t) = true) : ∃ k e, P.underlying t = some (.map k e) := by
  cases ht : ti P t with
  | none => rw [ht] at h; cases h
  | some p =>
    obtain ⟨d, m⟩ := p
    rw [ht] at h
    cases d <;> first | exact ⟨_, _, (ti_some ht).1⟩ | cases h
theorem isFnT_some {t : TypeId} (h : isFnT (ti P t) = true) : ∃ a b c, P.underlying t = some (.func a b c) := by
  cases ht : ti P t with
  | none => rw [ht] at h; cases h
  | some p =>
    obtain ⟨d, m⟩ := p
    rw [ht] at h
    cases d <;> first | exact ⟨_, _, _, (ti_some ht).1⟩ | cases h
theorem isIfT_some {t : TypeId} (h : isIfT (ti P t) = true) : ∃ e, P.underlying t = some (.interface e) := by
  cases ht : ti P t with
  | none => rw [ht] at h; cases h
  | some p =>
    obtain ⟨d, m⟩ := p
    rw [ht] at h
    cases d <;> first | exact ⟨_, (ti_some ht).1⟩ | cases h
theorem isBoolT_some {t : TypeId} (h : isBoolT (ti P t) = true) : P.underlying t = some .bool := by
  cases ht : ti P t with
  | none => rw [ht] at h; cases h
  | some p =>
    obtain ⟨d, m⟩ := p
    rw [ht] at h
    cases d <;> first | exact (ti_some ht).1 | cases h
theorem ptrSize_some {t : TypeId} (h : ptrSize P t = true) : ∃ e n, P.underlying t = some (.pointer e) ∧ sizeT P e = some n ∧ n ≠ 0 := by
  unfold ptrSize at h
  cases ht : ti P t with
  | none => rw [ht] at h; cases h
  | some p =>
    obtain ⟨d, m⟩ := p
    rw [ht] at h
    cases d with
    | pointer e =>
      simp only at h
      cases hs : sizeT P e with
      | none => simp only [hs] at h; cases h
      | some n =>
        simp only [hs] at h
        refine ⟨e, n, (ti_some ht).1, hs, fun h0 => ?_⟩
        subst h0
        cases h
    | _ => cases h
/-- A block of which addresses are told apart. -/
theorem apart_some {b : Nat} (h : apart P S b = true) : ∃ cs ty base, S.h.get b = some (.row cs ty 0 base) ∧ isU8T (ti P ty) = false := by
  unfold apart at h
  cases ho : S.h.get b with
  | none => rw [ho] at h; cases h
  | some o =>
    rw [ho] at h
    cases o with
    | row cs ty f base =>
      obtain ⟨h1, h2⟩ := nb_t (show nb (Nat.beq f 0) (nb (!isU8T (ti P ty)) _) = true from h)
      have := beq_t h1
      subst this
      exact ⟨cs, ty, base, rfl, by simpa using (nb_t h2).1⟩
    | _ => cases h
/-- What a block of cells is in the world, that nothing is read as a text of. -/
theorem apart_world (hS : Sim P ρ S W) {b B sh : Nat} (h : apart P S b = true) (hb : ρ.at_ b = some (B, sh)) : (∃ e n, W.shape? B = some (e, n)) ∧ ∀ o s, W.frozen? ⟨B, o, s⟩ = false := by
  obtain ⟨cs, ty, base, h1, h2⟩ := apart_some h
  obtain ⟨x, hx, c, e, fz, rfl, _, _, _, _, h7, _⟩ := hS.ob _ _ _ _ h1 hb
  refine ⟨⟨e, c.size, by simp [World.shape?, hx]⟩, fun o s => ?_⟩
  have h3 := h7 h2
  obtain ⟨lo, hi⟩ := fz
  simp only at h3
  subst h3
  simp only [World.frozen?, hx, Bool.and_eq_false_iff, decide_eq_false_iff_not]
  omega
theorem apart_ne (hS : Sim P ρ S W) {b b' B B' sh sh' : Nat} (h : apart P S b = true) (h' : apart P S b' = true) (hb : ρ.at_ b = some (B, sh)) (hb' : ρ.at_ b' = some (B', sh')) (hne : b ≠ b') : B ≠ B' := fun e => by
  subst e
  obtain ⟨cs, ty, base, h1, _⟩ := apart_some h
  obtain ⟨cs', ty', base', h1', _⟩ := apart_some h'
  obtain ⟨_, _, f, _, _, _, h3, _, h4, _⟩ := hS.fam b b' _ _ B sh sh' hne h1 h1' hb hb'
  cases h3
  exact h4 rfl
/-- Two addresses: are they one? -/
theorem sameAddr_sound (hS : Sim P ρ S W) {a b a' b' : Addr} (ha : AR ρ a a') (hb : AR ρ b b') (h : a.block = b.block ∨ (apart P S a.block = true ∧ apart P S b.block = true)) :
    (sameAddr a' b').run P W = .ok (eqA a b) W := by
  obtain ⟨s1, sh, h1, h2⟩ := ha
  obtain ⟨s2, sh', h3, h4⟩ := hb
  by_cases he : a.block = b.block
  · rw [he, h3] at h1
    simp only [Option.some.injEq, Prod.mk.injEq] at h1
    obtain ⟨hblk', hsh⟩ := h1
    have hblk : a'.block = b'.block := hblk'.symm
    subst hsh
    have : eqA a b = (a' == b') := by
      unfold eqA
      rw [nb_eq, he, Nat.beq_refl, Bool.true_and, h2, h4, hblk]
      cases hq : Nat.beq a.off b.off with
      | true => simp [beq_t hq]
      | false => have := beq_f hq; simp; omega
    simp [sameAddr, hblk, this]
  · rcases h with h | ⟨h5, h6⟩
    · exact absurd h he
    · have hne := apart_ne hS h5 h6 h1 h3 he
      obtain ⟨⟨e1, n1, w1⟩, z1⟩ := apart_world hS h5 h1
      obtain ⟨⟨e2, n2, w2⟩, z2⟩ := apart_world hS h6 h3
      have hq : eqA a b = false := by
        unfold eqA
        rw [nb_eq, beq_ff he, Bool.false_and]
      rw [hq, h2, h4]
      have hv : ∀ B o, (∃ e n, W.shape? B = some (e, n)) → (noView ⟨B, o, none⟩).run P W = .ok () W := fun B o ⟨e, n, h⟩ => by
        simp [noView, viewAt, h]
      have hs : ∀ B o, (∃ e n, W.shape? B = some (e, n)) → (∀ o s, W.frozen? ⟨B, o, s⟩ = false) → (stringish ⟨B, o, none⟩).run P W = .ok false W := fun B o ⟨e, n, h⟩ z => by
        simp [stringish, z, h]
      have hm : (mayBeOne ⟨a'.block, sh + a.off, none⟩ ⟨b'.block, sh' + b.off, none⟩).run P W = .ok false W := by
        simp [mayBeOne, hs _ _ ⟨e1, n1, w1⟩ z1, hs _ _ ⟨e2, n2, w2⟩ z2, w1, w2]
      simp [sameAddr, hne, z1, hv _ _ ⟨e1, n1, w1⟩, hv _ _ ⟨e2, n2, w2⟩, hm]

section
variable {d : Nat} {t e : TypeId} (w : World)
theorem eqIn_nil (hu : P.underlying t = some (.pointer e)) (b : Option Addr) : (Op.equalIn (d + 1) t (.pointer none) (.pointer b)).run P w = .ok b.isNone w := by simp [Op.equalIn, run_underlying hu]
theorem eqIn_some (hu : P.underlying t = some (.pointer e)) (a : Addr) : (Op.equalIn (d + 1) t (.pointer (some a)) (.pointer none)).run P w = .ok false w := by simp [Op.equalIn, run_underlying hu]
theorem eqIn_ptr (hu : P.underlying t = some (.pointer e)) {n : Nat} (hs : sizeT P e = some n) (hn : n ≠ 0) (a b : Addr) : (Op.equalIn (d + 1) t (.pointer (some a)) (.pointer (some b))).run P w = (sameAddr a b).run P w := by
  simp [Op.equalIn, run_underlying hu, run_size hs, hn]
theorem eqIn_slnil (hu : P.underlying t = some (.slice e)) (n m : Nat) (b : Option Addr) (k l : Nat) : (Op.equalIn (d + 1) t (.slice none n m) (.slice b k l)).run P w = .ok b.isNone w := by simp [Op.equalIn, run_underlying hu]
theorem eqIn_slsome (hu : P.underlying t = some (.slice e)) (a : Addr) (n m k l : Nat) : (Op.equalIn (d + 1) t (.slice (some a) n m) (.slice none k l)).run P w = .ok false w := by simp [Op.equalIn, run_underlying hu]
theorem eqIn_mapnil {k : TypeId} (hu : P.underlying t = some (.map k e)) (b : Option Nat) : (Op.equalIn (d + 1) t (.map none) (.map b)).run P w = .ok b.isNone w := by simp [Op.equalIn, run_underlying hu]
theorem eqIn_mapsome {k : TypeId} (hu : P.underlying t = some (.map k e)) (a : Nat) : (Op.equalIn (d + 1) t (.map (some a)) (.map none)).run P w = .ok false w := by simp [Op.equalIn, run_underlying hu]
theorem eqIn_fn1 {a b : Array TypeId} {c : Bool} (hu : P.underlying t = some (.func a b c)) : (Op.equalIn (d + 1) t .nilFunc .nilFunc).run P w = .ok true w := by simp [Op.equalIn, run_underlying hu]
theorem eqIn_fn2 {a b : Array TypeId} {c : Bool} (hu : P.underlying t = some (.func a b c)) (f : Fn) (x y : Array Value) : (Op.equalIn (d + 1) t .nilFunc (.func f x y)).run P w = .ok false w := by simp [Op.equalIn, run_underlying hu]
theorem eqIn_fn3 {a b : Array TypeId} {c : Bool} (hu : P.underlying t = some (.func a b c)) (f : Fn) (x y : Array Value) : (Op.equalIn (d + 1) t (.func f x y) .nilFunc).run P w = .ok false w := by simp [Op.equalIn, run_underlying hu]
theorem eqIn_if1 {ms : Array (String × TypeId)} (hu : P.underlying t = some (.interface ms)) : (Op.equalIn (d + 1) t .nilIface .nilIface).run P w = .ok true w := by simp [Op.equalIn, run_underlying hu]
theorem eqIn_if2 {ms : Array (String × TypeId)} (hu : P.underlying t = some (.interface ms)) (u : TypeId) (v : Value) : (Op.equalIn (d + 1) t .nilIface (.iface u v)).run P w = .ok false w := by simp [Op.equalIn, run_underlying hu]
theorem eqIn_if3 {ms : Array (String × TypeId)} (hu : P.underlying t = some (.interface ms)) (u : TypeId) (v : Value) : (Op.equalIn (d + 1) t (.iface u v) .nilIface).run P w = .ok false w := by simp [Op.equalIn, run_underlying hu]
theorem eqIn_bool (hu : P.underlying t = some .bool) (a b : Bool) : (Op.equalIn (d + 1) t (.bool a) (.bool b)).run P w = .ok (a == b) w := by simp [Op.equalIn, run_underlying hu]
theorem eqIn_int {k : IntKind} (hu : P.underlying t = some (.int k)) (j : IntKind) (a b : Int) : (Op.equalIn (d + 1) t (.int j a) (.int j b)).run P w = .ok (a == b) w := by simp [Op.equalIn, run_underlying hu]
theorem eqIn_str (hu : P.underlying t = some .string) (a b : ByteArray) : (Op.equalIn (d + 1) t (.string a) (.string b)).run P w = .ok (a == b) w := by simp [Op.equalIn, run_underlying hu]
end
theorem eqAt_sound (hS : Sim P ρ S W) {t : TypeId} {x : Option Addr} {b : Value} {x' b' : Value} {c : Bool} (h : eqAt P S (ptrSize P t) x b = some c) (hp : isPtrT (ti P t) = true) (hx : VR ρ (.pointer x) x') (hb : VR ρ b b') :
    (Op.equal t x' b').run P W = .ok c W ∧ ∃ q r, x' = .pointer q ∧ b' = .pointer r := by
  obtain ⟨e, hu⟩ := isPtrT_some hp
  rw [equal_eq]
  cases x with
  | none =>
    have := hx.nilptr
    subst this
    cases b with
    | pointer y =>
      cases h
      cases y with
      | none => have := hb.nilptr; subst this; exact ⟨eqIn_nil W hu _, _, _, rfl, rfl⟩
      | some y => obtain ⟨y', rfl, _⟩ := hb.pointer; exact ⟨eqIn_nil W hu _, _, _, rfl, rfl⟩
    | _ => cases h
  | some a =>
    obtain ⟨a', rfl, ha⟩ := hx.pointer
    cases b with
    | pointer y =>
      cases y with
      | none => cases h; have := hb.nilptr; subst this; exact ⟨eqIn_some W hu _, _, _, rfl, rfl⟩
      | some y =>
        obtain ⟨y', rfl, hy⟩ := hb.pointer
        obtain ⟨h1, h2⟩ := bi_some (show bi (nb (ptrSize P t) (Nat.beq a.block y.block || nb (apart P S a.block) (apart P S y.block))) (some (eqA a y)) none = some c from h)
        obtain ⟨h3, h4⟩ := nb_t h1
        cases h2
        obtain ⟨e', n, hu', hs, hn⟩ := ptrSize_some h3
        rw [hu] at hu'
        cases hu'
        have h5 : a.block = y.block ∨ (apart P S a.block = true ∧ apart P S y.block = true) := by
          rw [Bool.or_eq_true] at h4
          exact h4.imp beq_t nb_t
        have h6 := sameAddr_sound hS ha hy h5
        exact ⟨(eqIn_ptr W hu hs hn _ _).trans h6, _, _, rfl, rfl⟩
    | _ => cases h
theorem eqSl_sound {t : TypeId} {x : Option Addr} {n m : Nat} {b : Value} {x' b' : Value} {c : Bool} (h : eqSl x b = some c) (hp : isSlT (ti P t) = true) (hx : VR ρ (.slice x n m) x') (hb : VR ρ b b') (w : World) :
    (Op.equal t x' b').run P w = .ok c w ∧ ∃ p q r y z u, x' = .slice p q r ∧ b' = .slice y z u := by
  obtain ⟨e, hu⟩ := isSlT_some hp
  rw [equal_eq]
  cases b with
  | slice y k l =>
    cases x with
    | none =>
      have := hx.nilsl
      subst this
      cases h
      cases y with
      | none => have := hb.nilsl; subst this; exact ⟨eqIn_slnil w hu _ _ _ _ _, _, _, _, _, _, _, rfl, rfl⟩
      | some y => obtain ⟨y', c', rfl, _⟩ := hb.slicev; exact ⟨eqIn_slnil w hu _ _ _ _ _, _, _, _, _, _, _, rfl, rfl⟩
    | some a =>
      obtain ⟨a', c', rfl, _⟩ := hx.slicev
      cases y with
      | none => cases h; have := hb.nilsl; subst this; exact ⟨eqIn_slsome w hu _ _ _ _ _, _, _, _, _, _, _, rfl, rfl⟩
      | some y => cases h
  | _ => cases h
theorem eqMap_sound {t : TypeId} {x : Option Nat} {b : Value} {x' b' : Value} {c : Bool} (h : eqMap x b = some c) (hp : isMapT (ti P t) = true) (hx : VR ρ (.map x) x') (hb : VR ρ b b') (w : World) :
    (Op.equal t x' b').run P w = .ok c w ∧ ∃ p q, x' = .map p ∧ b' = .map q := by
  obtain ⟨k, e, hu⟩ := isMapT_some hp
  rw [equal_eq]
  cases b with
  | map y =>
    cases x with
    | none =>
      have := hx.nilmap
      subst this
      cases h
      cases y with
      | none => have := hb.nilmap; subst this; exact ⟨eqIn_mapnil w hu _, _, _, rfl, rfl⟩
      | some y => obtain ⟨y', rfl, _⟩ := hb.mapv; exact ⟨eqIn_mapnil w hu _, _, _, rfl, rfl⟩
    | some a =>
      obtain ⟨a', rfl, _⟩ := hx.mapv
      cases y with
      | none => cases h; have := hb.nilmap; subst this; exact ⟨eqIn_mapsome w hu _, _, _, rfl, rfl⟩
      | some y => cases h
  | _ => cases h
theorem isC_iff (x : Operand) : isC x = (x matches .const _) := by cases x <;> rfl
theorem run_if {α : Type} {c : Prop} [Decidable c] {x y : Sem α} {w : World} {r : Result α} (h1 : c → x.run P w = r) (h2 : ¬ c → y.run P w = r) : (if c then x else y).run P w = r := by
  by_cases h : c
  · rw [if_pos h]; exact h1 h
  · rw [if_neg h]; exact h2 h
/-- Is a comparison plainly let through? -/
def letThrough (c : Bool) : Value → Value → Bool
  | .nilIface, .nilIface => c
  | .agg _, .agg _ => false
  | _, _ => true
theorem guard_no {op : BinOp} {t : TypeId} {x y : Operand} {a b : Value} (h : letThrough (isC x || isC y) a b = true) (w : World) : (eqGuard op t x y a b).run P w = .ok () w := by
  unfold eqGuard
  refine run_if (fun _ => rfl) (fun _ => ?_)
  · split
    · have h1 : (isC x || isC y) = true := h
      rw [isC_iff, isC_iff] at h1
      refine run_if (fun _ => rfl) (fun hn => absurd h1 hn)
    · cases h
    · rfl
/-- A binary operation. -/
theorem bin_sound (hS : Sim P ρ S W) {op : BinOp} {t : TypeId} {x y : Operand} {a b a' b' v : Value} (h : rBin P S op t (ti P t) (ptrSize P t) (isC x || isC y) a b = some v) (ha : VR ρ a a') (hb : VR ρ b b') :
    (do eqGuard op t x y a' b'; binOp op t a' b' : Sem Value).run P W = .ok v W ∧ plain v = true := by
  cases a with
  | int j i =>
    cases b with
    | int k l =>
      have := ha.int; subst this
      have := hb.int; subst this
      obtain ⟨h1, h2⟩ := rInt_sound (show rInt P op t j k i l = some v from h) W
      exact ⟨bin_run (guard_int W) h1, h2⟩
    | _ => cases h
  | string s =>
    cases b with
    | string u =>
      have := ha.str; subst this
      have := hb.str; subst this
      obtain ⟨h1, h2⟩ := rStr_sound (show rStr P op s.data.toList u.data.toList = some v from h) W
      exact ⟨bin_run (guard_str W) h1, h2⟩
    | _ => cases h
  | bool p =>
    cases b with
    | bool q =>
      have := ha.bool; subst this
      have := hb.bool; subst this
      obtain ⟨h1, h2⟩ := bi_some (show bi (isBoolT (ti P t)) (eqOp op (some (beqB p q))) none = some v from h)
      have hu := isBoolT_some h1
      obtain ⟨h3, h4⟩ := eq_run (P := P) (t := t) (a := .bool p) (b := .bool q) (w := W) h2 (fun c hc => by cases hc; rw [equal_eq, beqB_eq]; exact eqIn_bool W hu _ _) rfl rfl
      exact ⟨bin_run (guard_no rfl W) h3, h4⟩
    | _ => cases h
  | pointer p =>
    obtain ⟨h1, h2⟩ := bi_some (show bi (isPtrT (ti P t)) (eqOp op (eqAt P S (ptrSize P t) p b)) none = some v from h)
    obtain ⟨c, h3, _⟩ := eqOp_some h2
    obtain ⟨_, q, r, rfl, rfl⟩ := eqAt_sound hS h3 h1 ha hb
    obtain ⟨h4, h5⟩ := eq_run (P := P) (t := t) (a := .pointer q) (b := .pointer r) (w := W) h2 (fun c hc => (eqAt_sound hS hc h1 ha hb).1) rfl rfl
    exact ⟨bin_run (guard_no rfl W) h4, h5⟩
  | slice p n m =>
    obtain ⟨h1, h2⟩ := bi_some (show bi (isSlT (ti P t)) (eqOp op (eqSl p b)) none = some v from h)
    obtain ⟨c, h3, _⟩ := eqOp_some h2
    obtain ⟨_, _, _, _, _, _, _, rfl, rfl⟩ := eqSl_sound h3 h1 ha hb W
    obtain ⟨h4, h5⟩ := eq_run (P := P) (t := t) (w := W) h2 (fun c hc => (eqSl_sound hc h1 ha hb W).1) rfl rfl
    exact ⟨bin_run (guard_no rfl W) h4, h5⟩
  | map p =>
    obtain ⟨h1, h2⟩ := bi_some (show bi (isMapT (ti P t)) (eqOp op (eqMap p b)) none = some v from h)
    obtain ⟨c, h3, _⟩ := eqOp_some h2
    obtain ⟨_, _, _, rfl, rfl⟩ := eqMap_sound h3 h1 ha hb W
    obtain ⟨h4, h5⟩ := eq_run (P := P) (t := t) (w := W) h2 (fun c hc => (eqMap_sound hc h1 ha hb W).1) rfl rfl
    exact ⟨bin_run (guard_no rfl W) h4, h5⟩
  | nilFunc =>
    obtain ⟨h1, h2⟩ := bi_some (show bi (isFnT (ti P t)) (eqOp op (isFn b)) none = some v from h)
    obtain ⟨_, _, _, hu⟩ := isFnT_some h1
    have := flat_inv rfl ha
    subst this
    cases b with
    | nilFunc =>
      have := flat_inv rfl hb
      subst this
      obtain ⟨h4, h5⟩ := eq_run (P := P) (t := t) (a := .nilFunc) (b := .nilFunc) (w := W) h2 (fun c hc => by cases hc; rw [equal_eq]; exact eqIn_fn1 W hu) rfl rfl
      exact ⟨bin_run (guard_no rfl W) h4, h5⟩
    | func f c d =>
      obtain ⟨g, c', d', rfl, _⟩ := hb.funcv
      obtain ⟨h4, h5⟩ := eq_run (P := P) (t := t) (a := .nilFunc) (b := .func g c' d') (w := W) h2 (fun c hc => by cases hc; rw [equal_eq]; exact eqIn_fn2 W hu _ _ _) rfl rfl
      exact ⟨bin_run (guard_no rfl W) h4, h5⟩
    | _ => exact absurd h2 (by cases op <;> simp [isFn, eqOp, pBool, mapO])
  | func f c d =>
    cases b with
    | nilFunc =>
      have := flat_inv rfl hb
      subst this
      obtain ⟨h1, h2⟩ := bi_some (show bi (isFnT (ti P t)) (eqOp op (some false)) none = some v from h)
      obtain ⟨_, _, _, hu⟩ := isFnT_some h1
      obtain ⟨g, c', d', rfl, _⟩ := ha.funcv
      obtain ⟨h4, h5⟩ := eq_run (P := P) (t := t) (a := .func g c' d') (b := .nilFunc) (w := W) h2 (fun c hc => by cases hc; rw [equal_eq]; exact eqIn_fn3 W hu _ _ _) rfl rfl
      exact ⟨bin_run (guard_no rfl W) h4, h5⟩
    | _ => cases h
  | nilIface =>
    have := flat_inv rfl ha
    subst this
    cases b with
    | nilIface =>
      have := flat_inv rfl hb
      subst this
      obtain ⟨h1, h2⟩ := bi_some (show bi (nb (isC x || isC y) (isIfT (ti P t))) (eqOp op (some true)) none = some v from h)
      obtain ⟨h3, h4⟩ := nb_t h1
      obtain ⟨_, hu⟩ := isIfT_some h4
      obtain ⟨h5, h6⟩ := eq_run (P := P) (t := t) (a := .nilIface) (b := .nilIface) (w := W) h2 (fun c hc => by cases hc; rw [equal_eq]; exact eqIn_if1 W hu) rfl rfl
      exact ⟨bin_run (guard_no (show letThrough (isC x || isC y) .nilIface .nilIface = true from h3) W) h5, h6⟩
    | iface u q =>
      obtain ⟨h1, h2⟩ := bi_some (show bi (isIfT (ti P t)) (eqOp op (some false)) none = some v from h)
      obtain ⟨_, hu⟩ := isIfT_some h1
      obtain ⟨z, rfl, _⟩ := hb.ifacev
      obtain ⟨h5, h6⟩ := eq_run (P := P) (t := t) (a := .nilIface) (b := .iface u z) (w := W) h2 (fun c hc => by cases hc; rw [equal_eq]; exact eqIn_if2 W hu _ _) rfl rfl
      exact ⟨bin_run (guard_no rfl W) h5, h6⟩
    | _ => cases h
  | iface u q =>
    cases b with
    | nilIface =>
      have := flat_inv rfl hb
      subst this
      obtain ⟨h1, h2⟩ := bi_some (show bi (isIfT (ti P t)) (eqOp op (some false)) none = some v from h)
      obtain ⟨_, hu⟩ := isIfT_some h1
      obtain ⟨z, rfl, _⟩ := ha.ifacev
      obtain ⟨h5, h6⟩ := eq_run (P := P) (t := t) (a := .iface u z) (b := .nilIface) (w := W) h2 (fun c hc => by cases hc; rw [equal_eq]; exact eqIn_if3 W hu _ _) rfl rfl
      exact ⟨bin_run (guard_no rfl W) h5, h6⟩
    | _ => cases h
  | agg p =>
    cases b with
    | agg q =>
      obtain ⟨h1, h2⟩ := bi_some (show bi (nb (plain (.agg p)) (plain (.agg q))) (runV P (do eqGuard op t (.tmp 0) (.tmp 0) (.agg p) (.agg q); binOp op t (.agg p) (.agg q))) none = some v from h)
      obtain ⟨h3, h4⟩ := nb_t h1
      have := plain_inv h3 ha; subst this
      have := plain_inv h4 hb; subst this
      exact ⟨runV_run (show runV P (do eqGuard op t x y (.agg p) (.agg q); binOp op t (.agg p) (.agg q)) = some v from h2) W, (runV_some h2).2⟩
    | _ => cases h
  | _ => cases h
theorem un_sound {op : UnOp} {a a' v : Value} (h : rUn P op a = some v) (ha : VR ρ a a') (w : World) : (Op.unary op a').run P w = .ok v w ∧ plain v = true := by
  cases a with
  | bool b =>
    have := ha.bool; subst this
    cases op <;> first | (cases h; exact ⟨rfl, rfl⟩) | cases h
  | int k i =>
    have := ha.int; subst this
    exact ⟨runV_run (show runV P (Op.unary op (.int k i)) = some v from h) w, (runV_some h).2⟩
  | _ => cases h
end
end Go.Proofs.YtnfclcfcpgfajaaGreatDoor.Ev

/- Slicing, converting, building. -/
namespace Go.Proofs.YtnfclcfcpgfajaaGreatDoor.Ev
open Go Go.RowKit
section
variable {P : Program} {ρ : Ro} {S : St} {W : World}

/-- An optional operand. -/
def OR (ρ : Ro) (o o' : Option Value) : Prop := (o = none ∧ o' = none) ∨ ∃ v v', o = some v ∧ o' = some v' ∧ VR ρ v v'
/-- What a bound is told by. -/
theorem bound_some {o o' : Option Value} {d n : Nat} (h : bound? d o = some n) (ho : OR ρ o o') : (o = none ∧ o' = none ∧ n = d) ∨ ∃ k, o' = some (.int k (.ofNat n)) ∧ o.isSome = true := by
  rcases ho with ⟨rfl, rfl⟩ | ⟨v, v', rfl, rfl, hv⟩
  · cases h; exact .inl ⟨rfl, rfl, rfl⟩
  · obtain ⟨k, rfl⟩ := nat_some h
    have := hv.int
    subst this
    exact .inr ⟨k, rfl, rfl⟩
theorem bound_run {k : IntKind} {n y : Nat} (h : n ≤ y) (c : BoundsCode) (w : World) : (Instr.sliceBound (.int k (.ofNat n)) y c).run P w = .ok n w := by
  have h1 : ¬ y < n := by omega
  simp [Instr.sliceBound, asIntOf, h, h1]
theorem bounds_run {isS : Bool} {len cap l h m : Nat} {lo hi mx : Option Value} (hlo : (lo = none ∧ l = 0) ∨ ∃ k, lo = some (.int k (.ofNat l))) (hhi : (hi = none ∧ mx = none ∧ h = len) ∨ ∃ k, hi = some (.int k (.ofNat h)))
    (hmx : (mx = none ∧ m = cap) ∨ ∃ k, mx = some (.int k (.ofNat m)) ∧ m ≤ cap) (hl : l ≤ h) (hh : h ≤ m) (w : World) : (Instr.sliceBounds isS len cap lo hi mx).run P w = .ok (l, h, m) w := by
  rcases hmx with ⟨rfl, rfl⟩ | ⟨k, rfl, hm⟩ <;> rcases hhi with ⟨rfl, h1, rfl⟩ | ⟨k2, rfl⟩ <;> (try cases h1) <;> rcases hlo with ⟨rfl, rfl⟩ | ⟨k3, rfl⟩ <;>
    simp only [Instr.sliceBounds, Sem.run_bind, Sem.run_pure, Result.andThen_ok, bound_run hl, bound_run hh, bound_run, *]
theorem two_some {α : Type} {f : Nat → Nat → Option α} {a b : Option Nat} {r : α} (h : two f a b = some r) : ∃ x y, a = some x ∧ b = some y ∧ f x y = some r := by
  cases a <;> cases b <;> first | exact ⟨_, _, rfl, rfl, h⟩ | cases h
theorem extract_data (s : ByteArray) (l h : Nat) : s.extract l h = ⟨((s.data.toList.drop l).take (h - l)).toArray⟩ := by
  apply ByteArray.ext
  rw [ByteArray.data_extract]
  apply Array.toList_inj.1
  simp [Array.toList_extract, List.extract_eq_take_drop]
theorem szOk_some {a : Addr} {es : Nat} (h : szOk P S (some a) es = true) : ∃ cs ty f base, S.h.get a.block = some (.row cs ty f base) ∧ sizeT P ty = some es := by
  simp only [szOk] at h
  cases ho : S.h.get a.block with
  | none => rw [ho] at h; cases h
  | some o =>
    rw [ho] at h
    cases o with
    | row cs ty f base =>
      simp only [tyO] at h
      cases hs : sizeT P ty with
      | none => simp only [hs] at h; cases h
      | some n => simp only [hs] at h; have := beq_t h; subst this; exact ⟨cs, ty, f, base, rfl, hs⟩
    | _ => cases h
theorem slice_sound (hS : Sim P ρ S W) {t : TypeId} {x x' v : Value} {lo hi mx lo' hi' mx' : Option Value} (h : sliceV P S (sizeO P (elemSl (ti P t))) (isStrT (ti P t)) (arrN P t) x lo hi mx = some v) (hx : VR ρ x x')
    (h1 : OR ρ lo lo') (h2 : OR ρ hi hi') (h3 : OR ρ mx mx') : ∃ v', (Instr.sliceAt t x' lo' hi' mx').run P W = .ok v' W ∧ VR ρ v v' := by
  cases x with
  | slice a len cap =>
    cases hz : sizeO P (elemSl (ti P t)) with
    | none => rw [hz] at h; cases h
    | some es =>
      rw [hz] at h
      obtain ⟨g1, g2⟩ := bi_some (show bi (mx.isNone || hi.isSome) (two (fun l h => sliceM P S a len cap es l h (mapO nat? mx)) (bound? 0 lo) (bound? len hi)) none = some v from h)
      obtain ⟨l, hh, e1, e2, g3⟩ := two_some g2
      obtain ⟨e, q1, q2⟩ := sizeO_some hz
      have hu := elemSl_some q1
      have bl : (lo' = none ∧ l = 0) ∨ ∃ k, lo' = some (.int k (.ofNat l)) := by
        rcases bound_some e1 h1 with ⟨_, q, q'⟩ | ⟨k, q, _⟩
        · exact .inl ⟨q, q'⟩
        · exact .inr ⟨k, q⟩
      have bh := bound_some e2 h2
      -- the model's answer, once the bounds are known
      have main : ∀ (b : Option Addr) (c' m : Nat), x' = .slice b len c' → ((mx' = none ∧ m = c') ∨ ∃ k, mx' = some (.int k (.ofNat m)) ∧ m ≤ c') → l ≤ hh → hh ≤ m →
          (Instr.sliceAt t x' lo' hi' mx').run P W = .ok (.slice (if m = l then b else b.map (·.add (l * es))) (hh - l) (m - l)) W := by
        intro b c' m hx' hm hl hm'
        have bh' : (hi' = none ∧ mx' = none ∧ hh = len) ∨ ∃ k, hi' = some (.int k (.ofNat hh)) := by
          rcases bh with ⟨p1, p2, p3⟩ | ⟨k, p1, _⟩
          · left
            refine ⟨p2, ?_, p3⟩
            rw [p1] at g1
            rcases h3 with ⟨_, q⟩ | ⟨u, u', q, q', _⟩
            · exact q
            · rw [q] at g1; cases g1
          · exact .inr ⟨k, p1⟩
        have hb := bounds_run (P := P) (isS := true) (len := len) (cap := c') bl bh' hm hl hm' W
        rw [hx']
        simp only [Instr.sliceAt, Instr.slice, Sem.run_bind, run_underlying hu, Result.andThen_ok, hb, run_size q2, Sem.run_pure]
      rcases h3 with ⟨rfl, rfl⟩ | ⟨u, u', rfl, rfl, hu'⟩
      · -- without a third bound
        obtain ⟨g4, g5⟩ := bi_some (show bi (nb (Nat.ble l hh) (hiOk hh len cap)) _ none = some v from g3)
        obtain ⟨g6, g7⟩ := nb_t g4
        have hl := ble_t g6
        cases hc : Nat.beq cap U with
        | true =>
          rw [hc] at g5
          have hcap := beq_t hc
          obtain ⟨g8, g9⟩ := bi_some (show bi (szOk P S a es) (some (.slice (addO a (l * es)) (hh - l) U)) none = some v from g5)
          cases g9
          cases a with
          | none => cases g8
          | some a =>
            have hlen : hh ≤ len := by simp only [hiOk, hc, bi_t] at g7; exact ble_t g7
            obtain ⟨b, c', rfl, _, hcc⟩ := hx.slicev
            obtain ⟨cs, ty, f, base, r1, r2⟩ := szOk_some g8
            rcases hcc with ⟨_, hlt, _⟩ | ⟨hab, _, hn, hU, hr⟩ | ⟨hn, _, hc0⟩ | ⟨_, h0, _⟩
            · omega
            · rw [main (some b) c' c' rfl (.inl ⟨rfl, rfl⟩) hl (by omega)]
              refine ⟨_, rfl, ?_⟩
              by_cases hcl : c' = l
              · rw [if_pos hcl]
                have z1 : hh - l = 0 := by omega
                have z2 : c' - l = 0 := by omega
                rw [z1, z2]
                exact .sliceE _ _
              · rw [if_neg hcl]
                obtain ⟨hs, sh, w1, w2⟩ := hab
                obtain ⟨y, hy, c, e', fz, rfl, w3, w4, _⟩ := hS.ob _ _ _ _ r1 w1
                rw [r2] at w4
                have hes : es = ρ.esz b.block := by simpa using w4
                refine .sliceU (AR.add ⟨hs, sh, w1, w2⟩ _) (by omega) (by omega) ?_
                have hblk : (b.add (l * es)).block = b.block := by unfold Addr.add; split <;> rfl
                have hoff : (b.add (l * es)).off = b.off + l * es := by rw [w2, add_off]
                rw [hblk, hoff, ← hes, Nat.sub_mul]
                rw [← hes] at hr
                have : l * es ≤ c' * es := Nat.mul_le_mul_right _ (by omega)
                omega
            · have z1 : hh = 0 := by omega
              have z2 : l = 0 := by omega
              rw [main (some b) c' c' rfl (.inl ⟨rfl, rfl⟩) hl (by omega)]
              refine ⟨_, rfl, ?_⟩
              rw [if_pos (by omega), z1, z2, hc0]
              exact .sliceE _ _
            · simp [U, hcap] at h0
        | false =>
          rw [hc] at g5
          have hcap : hh ≤ cap := by simp only [hiOk, hc, bi_f] at g7; exact ble_t g7
          cases g5
          cases a with
          | none =>
            have := hx.nilsl
            subst this
            rw [main none cap cap rfl (.inl ⟨rfl, rfl⟩) hl hcap]
            refine ⟨_, rfl, ?_⟩
            have : (bi (Nat.beq cap l) none (addO none (Nat.mul l es))) = (none : Option Addr) := by rw [bi_eq]; split <;> rfl
            rw [this]
            have e2 : (if cap = l then none else (none : Option Addr).map (·.add (l * es))) = none := by split <;> rfl
            rw [e2]
            exact .flat rfl
          | some a =>
            obtain ⟨b, c', rfl, _, hcc⟩ := hx.slicev
            rcases hcc with ⟨hab, hlt, rfl⟩ | ⟨_, hU, _⟩ | ⟨_, hU, _⟩ | ⟨hn, hc0, hc1⟩
            · rw [main (some b) c' c' rfl (.inl ⟨rfl, rfl⟩) hl hcap]
              refine ⟨_, rfl, ?_⟩
              by_cases hcl : c' = l
              · rw [if_pos hcl, hcl, Nat.beq_refl, bi_t]
                exact .slice hab (by show l - l < U; omega)
              · rw [if_neg hcl, beq_ff hcl, bi_f]
                exact .slice (hab.add _) (by show c' - l < U; omega)
            · exact absurd hU (beq_f hc)
            · exact absurd hU (beq_f hc)
            · have z1 : hh = 0 := by omega
              have z2 : l = 0 := by omega
              rw [main (some b) c' c' rfl (.inl ⟨rfl, rfl⟩) hl (by omega)]
              refine ⟨_, rfl, ?_⟩
              rw [z1, z2, hc0, hc1]
              exact .sliceZ _ _
      · -- with a third bound
        cases hm0 : nat? u with
        | none => simp only [mapO, hm0] at g3; cases g3
        | some m =>
          simp only [mapO, hm0] at g3
          obtain ⟨k, rfl⟩ := nat_some hm0
          have := hu'.int
          subst this
          obtain ⟨g4, g5⟩ := bi_some (show bi (nb (Nat.ble l hh) (nb (Nat.ble hh m) (nb (Nat.ble m cap) (hiOk m len cap)))) _ none = some v from g3)
          obtain ⟨g6, g7⟩ := nb_t g4
          obtain ⟨g8, g10⟩ := nb_t g7
          obtain ⟨g11, g9⟩ := nb_t g10
          have hmc' := ble_t g11
          have hl := ble_t g6
          have hm := ble_t g8
          cases g5
          cases a with
          | none =>
            have := hx.nilsl
            subst this
            rw [main none cap m rfl (.inr ⟨k, rfl, hmc'⟩) hl hm]
            refine ⟨_, rfl, ?_⟩
            have : (bi (Nat.beq m l) none (addO none (Nat.mul l es))) = (none : Option Addr) := by rw [bi_eq]; split <;> rfl
            rw [this]
            have e2 : (if m = l then none else (none : Option Addr).map (·.add (l * es))) = none := by split <;> rfl
            rw [e2]
            exact .flat rfl
          | some a =>
            obtain ⟨b, c', rfl, _, hcc⟩ := hx.slicev
            have fin : m ≤ c' → (m - l < U) → (AR ρ a b ∨ (hh - l = 0 ∧ m - l = 0 ∧ m = l)) → ∃ v', (Instr.sliceAt t (.slice (some b) len c') lo' hi' (some (.int k (.ofNat m)))).run P W = .ok v' W ∧ VR ρ (.slice (bi (Nat.beq m l) (some a) (addO (some a) (Nat.mul l es))) (hh - l) (m - l)) v' := by
              intro hmc hmU hab
              rw [main (some b) c' m rfl (.inr ⟨k, rfl, hmc⟩) hl hm]
              refine ⟨_, rfl, ?_⟩
              rcases hab with hab | ⟨z1, z2, z3⟩
              · by_cases hcl : m = l
                · rw [if_pos hcl, hcl, Nat.beq_refl, bi_t]
                  exact .slice hab (by omega)
                · rw [if_neg hcl, beq_ff hcl, bi_f]
                  exact .slice (hab.add _) hmU
              · rw [if_pos z3, z1, z2, z3, Nat.beq_refl, bi_t]
                exact .sliceZ _ _
            rcases hcc with ⟨hab, hlt, rfl⟩ | ⟨hab, hU, hn, hlU, _⟩ | ⟨hn, hU, _⟩ | ⟨hn, hc0, hc1⟩
            · have hne : Nat.beq c' U = false := beq_ff (by omega)
              simp only [hiOk, hne, bi_f] at g9
              have := ble_t g9
              exact fin this (by omega) (.inl hab)
            · subst hU
              simp only [hiOk, Nat.beq_refl, bi_t] at g9
              have := ble_t g9
              exact fin (by omega) (by omega) (.inl hab)
            · subst hU
              simp only [hiOk, Nat.beq_refl, bi_t] at g9
              have := ble_t g9
              exact fin (by omega) (by simp [U]; omega) (.inr (by omega))
            · have hne : Nat.beq cap U = false := by rw [hc0]; rfl
              simp only [hiOk, hne, bi_f] at g9
              have := ble_t g9
              exact fin (by omega) (by simp [U]; omega) (.inr (by omega))
  | string s =>
    obtain ⟨g1, g2⟩ := bi_some (show bi (nb (isStrT (ti P t)) mx.isNone) (two (sliceS s) (bound? 0 lo) (bound? (lenV s.data.toList) hi)) none = some v from h)
    obtain ⟨g3, g4⟩ := nb_t g1
    obtain ⟨l, hh, e1, e2, g5⟩ := two_some g2
    have hu := isStrT_some g3
    have := hx.str
    subst this
    obtain ⟨g6, g7⟩ := bi_some (show bi (nb (Nat.ble l hh) (Nat.ble hh (lenV s.data.toList))) _ none = some v from g5)
    cases g7
    obtain ⟨g8, g9⟩ := nb_t g6
    have hl := ble_t g8
    have hm := ble_t g9
    rw [lenV_eq] at hm e2
    have hsz : s.data.toList.length = s.size := rfl
    rw [hsz] at hm e2
    have hmx : mx' = none := by
      rcases h3 with ⟨_, q⟩ | ⟨u, u', q, _⟩
      · exact q
      · rw [q] at g4; cases g4
    have bl : (lo' = none ∧ l = 0) ∨ ∃ k, lo' = some (.int k (.ofNat l)) := by
      rcases bound_some e1 h1 with ⟨_, q, q'⟩ | ⟨k, q, _⟩
      · exact .inl ⟨q, q'⟩
      · exact .inr ⟨k, q⟩
    have bh : (hi' = none ∧ (none : Option Value) = none ∧ hh = s.size) ∨ ∃ k, hi' = some (.int k (.ofNat hh)) := by
      rcases bound_some e2 h2 with ⟨_, q, q'⟩ | ⟨k, q, _⟩
      · exact .inl ⟨q, rfl, q'⟩
      · exact .inr ⟨k, q⟩
    have hb := bounds_run (P := P) (isS := false) (len := s.size) (cap := s.size) (mx := none) bl bh (.inl ⟨rfl, rfl⟩) hl hm W
    refine ⟨.string (s.extract l hh), ?_, ?_⟩
    · rw [hmx]
      simp [Instr.sliceAt, Instr.slice, run_underlying hu, hb]
    · rw [extract_data, takeL_eq, dropL_eq]
      exact .flat rfl
  | pointer a =>
    cases a with
    | none => cases h
    | some a =>
      cases hz : arrN P t with
      | none => rw [hz] at h; cases h
      | some p =>
        obtain ⟨n, es⟩ := p
        rw [hz] at h
        obtain ⟨g1, g2⟩ := bi_some (show bi mx.isNone (two (sliceA a n es) (bound? 0 lo) (bound? n hi)) none = some v from h)
        obtain ⟨l, hh, e1, e2, g5⟩ := two_some g2
        obtain ⟨e, hu, q2⟩ := arrN_some hz
        obtain ⟨b, rfl, hab⟩ := hx.pointer
        obtain ⟨g6, g7⟩ := bi_some (show bi (nb (nb (Nat.ble l hh) (Nat.ble n 100000)) (Nat.ble hh n)) _ none = some v from g5)
        cases g7
        obtain ⟨g8, g9⟩ := nb_t g6
        obtain ⟨g10, g11⟩ := nb_t g8
        have hl := ble_t g10
        have hn := ble_t g11
        have hm := ble_t g9
        have hmx : mx' = none := by
          rcases h3 with ⟨_, q⟩ | ⟨u, u', q, _⟩
          · exact q
          · rw [q] at g1; cases g1
        have bl : (lo' = none ∧ l = 0) ∨ ∃ k, lo' = some (.int k (.ofNat l)) := by
          rcases bound_some e1 h1 with ⟨_, q, q'⟩ | ⟨k, q, _⟩
          · exact .inl ⟨q, q'⟩
          · exact .inr ⟨k, q⟩
        have bh : (hi' = none ∧ (none : Option Value) = none ∧ hh = n) ∨ ∃ k, hi' = some (.int k (.ofNat hh)) := by
          rcases bound_some e2 h2 with ⟨_, q, q'⟩ | ⟨k, q, _⟩
          · exact .inl ⟨q, rfl, q'⟩
          · exact .inr ⟨k, q⟩
        have hb := bounds_run (P := P) (isS := false) (len := n) (cap := n) (mx := none) bl bh (.inl ⟨rfl, rfl⟩) hl hm W
        refine ⟨.slice (some (if n = l then b else b.add (l * es))) (hh - l) (n - l), ?_, ?_⟩
        · rw [hmx]
          simp [Instr.sliceAt, run_underlying hu, hb, Instr.sureAddr, run_size q2]
        · by_cases hcl : n = l
          · rw [if_pos hcl, hcl, Nat.beq_refl, bi_t]
            exact .slice hab (by show l - l < 4611686018427387904; omega)
          · rw [if_neg hcl, beq_ff hcl, bi_f]
            exact .slice (hab.add _) (by show n - l < 4611686018427387904; omega)
  | _ => cases h
end
end Go.Proofs.YtnfclcfcpgfajaaGreatDoor.Ev
