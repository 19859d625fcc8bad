/- A part of the proof that parser laws hold: texts of the walk and of its plain laws, made small. -/
import Derived.Test.YtnfclcfcpgfajaaGreatDoorM08
import Derived.Laws.BytesString
import Derived.Laws.BytesArg
import Derived.Great.BuildSlice
import Derived.MapKept
set_option linter.unusedVariables false
set_option linter.unusedSimpArgs false
/- Building, converting, looking into maps. -/
namespace Go.Proofs.YtnfclcfcpgfajaaGreatDoor.Ev
open Go Go.RowKit
section
variable {P : Program} {ρ : Ro} {S : St} {W : World}

theorem evParts_eq (ev : Operand → Value) : ∀ l : List (Nat × Operand), evParts ev l = l.map fun p => (p.1, ev p.2)
  | [] => rfl
  | (i, x) :: l => congrArg _ (evParts_eq ev l)
/-- Parts, one by one. -/
def PtR (ρ : Ro) (l m : List (Nat × Value)) : Prop := l.map (·.1) = m.map (·.1) ∧ LR ρ (l.map (·.2)) (m.map (·.2))
theorem parts_rel {ev ev' : Operand → Value} : ∀ {l : List (Nat × Operand)}, (∀ p ∈ l, VR ρ (ev p.2) (ev' p.2)) → PtR ρ (evParts ev l) (l.map fun p => (p.1, ev' p.2))
  | [], _ => ⟨rfl, LR.nil⟩
  | (i, x) :: l, h => by
    obtain ⟨h1, h2⟩ := parts_rel (ev := ev) (ev' := ev') (l := l) (fun p hp => h p (List.mem_cons_of_mem _ hp))
    rw [evParts_eq] at *
    exact ⟨by simp, LR.cons (h (i, x) (by simp)) h2⟩
theorem fill_sound {pl pl' : Nat → Option (Nat × Nat)} (hp : ∀ i p, pl i = some p → pl' i = some p) : ∀ {l m : List (Nat × Value)} {cs cs2 : List Value} {cells : Array Value}, fillL pl l cs = some cs2 → PtR ρ l m → LR ρ cs cells.toList →
    ∃ cells2, Instr.fill pl' cells m = some cells2 ∧ LR ρ cs2 cells2.toList ∧ cells2.size = cells.size
  | [], m, cs, cs2, cells, h, hr, hl => by
    cases h
    have : m = [] := by have := hr.1; simpa using this.symm
    subst this
    exact ⟨cells, rfl, hl, rfl⟩
  | (i, v) :: l, m, cs, cs2, cells, h, hr, hl => by
    cases m with
    | nil => have := hr.1; simp at this
    | cons q m =>
      obtain ⟨j, w⟩ := q
      have h1 := hr.1
      simp only [List.map_cons, List.cons.injEq] at h1
      obtain ⟨rfl, h2⟩ := h1
      have h3 : VR ρ v w := hr.2.head
      have h4 : LR ρ (l.map (·.2)) (m.map (·.2)) := hr.2.tail
      simp only [fillL] at h
      cases hpi : pl i with
      | none => simp only [hpi] at h; cases h
      | some p =>
        obtain ⟨off, size⟩ := p
        simp only [hpi] at h
        obtain ⟨g1, g2⟩ := bi_some h
        obtain ⟨g3, g4⟩ := nb_t g1
        obtain ⟨g5, g6⟩ := ofSize_t g3
        have g7 := ble_t g4
        rw [lenV_eq] at g7
        have g7' : off + size ≤ cs.length := g7
        have hc := cells_sound h3 g5
        have hws : w.cells.size = size := by rw [← g6, hc.1]; simp
        have hcs : cells.size = cs.length := by rw [hl.1]; simp
        obtain ⟨z1, z2⟩ := Great.foldl_set off w.cells.toList 0 cells
        have hlr : LR ρ (setL off (cellsL v) cs) ((w.cells.zipIdx.foldl (fun cs (x : Value × Nat) => cs.setIfInBounds (off + x.2) x.1) cells)).toList := by
          have e : w.cells.zipIdx.foldl (fun cs (x : Value × Nat) => cs.setIfInBounds (off + x.2) x.1) cells = (w.cells.toList.zipIdx 0).foldl (fun cs (x : Value × Nat) => cs.setIfInBounds (off + x.2) x.1) cells := by
            rw [← Array.foldl_toList]; simp
          rw [e]
          refine ⟨?_, fun k a b ha hb => ?_⟩
          · rw [setL_length _ _ _ (by rw [g6]; exact g7')]
            simp only [Array.length_toList]
            rw [z1, hcs]
          · rw [Array.getElem?_toList, z2 k] at hb
            rw [setL_get _ _ _ _ (by rw [g6]; exact g7')] at ha
            by_cases hin : off ≤ k ∧ k < off + (cellsL v).length
            · rw [if_pos hin] at ha
              have hk : off + 0 ≤ k ∧ k < off + 0 + w.cells.toList.length ∧ k < cells.size := by
                rw [g6] at hin
                simp only [Array.length_toList]
                omega
              rw [if_pos hk] at hb
              exact hc.2 _ a b ha (by simpa using hb)
            · rw [if_neg hin] at ha
              have hk : ¬ (off + 0 ≤ k ∧ k < off + 0 + w.cells.toList.length ∧ k < cells.size) := by
                rw [g6] at hin
                simp only [Array.length_toList]
                omega
              rw [if_neg hk] at hb
              exact hl.2 k a b ha (by simpa using hb)
        obtain ⟨c2, f1, f2, f3⟩ := fill_sound hp g2 ⟨h2, h4⟩ hlr
        refine ⟨c2, ?_, f2, ?_⟩
        · simp only [Instr.fill, hp i _ hpi]
          rw [if_neg (by simp [hws]; omega)]
          exact f1
        · rw [f3, ← Array.foldl_toList]
          have := z1
          simp only [Array.toList_zipIdx] at *
          exact this
theorem zeroV_types {t : TypeId} {v : Value} (h : zeroV P t = some v) : plain v = true ∧ ∃ i, P.types[t]? = some i ∧ i.zero = some v := by
  unfold zeroV at h
  cases hi : P.types[t]? with
  | none => rw [hi] at h; cases h
  | some i =>
    simp only [hi] at h
    cases hz : i.zero with
    | none => simp only [hz] at h; cases h
    | some z =>
      simp only [hz] at h
      obtain ⟨h1, h2⟩ := bi_some h
      cases h2
      exact ⟨h1, i, rfl, hz⟩
theorem info_types {t : TypeId} {i : TypeInfo} (h : P.types[t]? = some i) : P.info? t = some i := by
  have hlt : t < P.types.size := (Array.getElem?_eq_some_iff.1 h).1
  unfold Tables.info?
  rw [if_pos hlt, h]
theorem zeroV_some {t : TypeId} {v : Value} (h : zeroV P t = some v) : plain v = true ∧ ∃ i, P.info? t = some i ∧ i.zero = some v := by
  obtain ⟨h1, i, h2, h3⟩ := zeroV_types h
  exact ⟨h1, i, info_types h2, h3⟩
theorem plain_notTop {v : Value} (h : plain v = true) : isTop v = false := by
  cases v <;> first | rfl | cases h
theorem zeroL_some {t : TypeId} {l : List Value} (h : zeroL P t = some l) : ∃ v i, plain v = true ∧ l = cellsL v ∧ P.info? t = some i ∧ i.zero = some v ∧ LR ρ l v.cells.toList ∧ l = v.cells.toList := by
  unfold zeroL at h
  cases hz : zeroV P t with
  | none => rw [hz] at h; cases h
  | some v =>
    rw [hz] at h
    cases h
    obtain ⟨h1, i, h2, h3⟩ := zeroV_some hz
    refine ⟨v, i, h1, rfl, h2, h3, cells_sound (plain_flat h1) (plain_notTop h1), ?_⟩
    cases v <;> rfl
theorem mapM_places {fs : List Field} (h : fs.all (fun f => (sizeT P f.type).isSome) = true) : ∃ places, fs.mapM (fun f => (P.info? f.type).map fun i => (f.offset, i.size)) = some places ∧ places.length = fs.length ∧
    ∀ (i : Nat) (f : Field) (n : Nat), fs[i]? = some f → sizeT P f.type = some n → places[i]? = some (f.offset, n) := by
  induction fs with
  | nil => exact ⟨[], rfl, rfl, fun i f n h => by simp at h⟩
  | cons f fs ih =>
    simp only [List.all_cons, Bool.and_eq_true] at h
    obtain ⟨places, h1, h2, h3⟩ := ih h.2
    obtain ⟨n, hn⟩ := Option.isSome_iff_exists.1 h.1
    obtain ⟨i, hi, hs⟩ := sizeT_some hn
    refine ⟨(f.offset, i.size) :: places, by simp [List.mapM_cons, hi, h1], by simp [h2], fun k g m hk hm => ?_⟩
    cases k with
    | zero =>
      simp only [List.getElem?_cons_zero, Option.some.injEq] at hk
      subst hk
      rw [hn] at hm
      cases hm
      rw [hs]; rfl
    | succ k => simp only [List.getElem?_cons_succ] at hk ⊢; exact h3 k g m hk hm
theorem build_sound {t : TypeId} {l m : List (Nat × Value)} {v : Value} (h : rBuild (zeroL P t) (placeOf P (ti P t)) l = some v) (hr : PtR ρ l m) (w : World) : ∃ v', (Instr.build t m.toArray).run P w = .ok v' w ∧ VR ρ v v' := by
  unfold rBuild at h
  cases hz : zeroL P t with
  | none => rw [hz] at h; cases h
  | some z =>
    rw [hz] at h
    obtain ⟨zv, it, hz1, hz2, hz3, hz4, hz5, _⟩ := zeroL_some (ρ := ρ) hz
    cases hpl : placeOf P (ti P t) with
    | none => rw [hpl] at h; cases h
    | some pl =>
      rw [hpl] at h
      have h' : pAgg (fillL pl l z) = some v := h
      cases hf : fillL pl l z with
      | none => rw [hf] at h'; cases h'
      | some cs =>
        rw [hf] at h'
        cases h'
        cases hti : ti P t with
        | none => rw [hti] at hpl; cases hpl
        | some p =>
          obtain ⟨d, n⟩ := p
          have hu := (ti_some hti).1
          rw [hti] at hpl
          cases d with
          | struct fs =>
            obtain ⟨q1, q2⟩ := bi_some hpl
            cases q2
            rw [allL_eq] at q1
            obtain ⟨places, p1, p2, p3⟩ := mapM_places q1
            have hp : ∀ i p, fieldAt P fs i = some p → (places.toArray[·]?) i = some p := fun i p hip => by
              unfold fieldAt at hip
              cases hi : fs[i]? with
              | none => simp only [hi] at hip; cases hip
              | some f =>
                simp only [hi] at hip
                cases hs : sizeT P f.type with
                | none => simp only [hs] at hip; cases hip
                | some n =>
                  simp only [hs] at hip
                  cases hip
                  have := p3 i f n (by simpa using hi) hs
                  simpa using this
            obtain ⟨c2, f1, f2, _⟩ := fill_sound hp hf hr hz5
            refine ⟨.agg c2, run_build w t m.toArray c2 ?_, ?_⟩
            · simp only [Program.built, hz3, hu, hz4, p1]
              simpa using f1
            · have := f2.toArr
              simpa using this
          | array len e =>
            simp only [placeOf] at hpl
            cases hs : sizeT P e with
            | none => simp only [hs] at hpl; cases hpl
            | some n =>
              simp only [hs] at hpl
              cases hpl
              obtain ⟨ie, hie, hin⟩ := sizeT_some hs
              obtain ⟨c2, f1, f2, _⟩ := fill_sound (pl' := fun i => some (i * ie.size, ie.size)) (fun i p hip => by cases hip; rw [hin]; rfl) hf hr hz5
              refine ⟨.agg c2, run_build w t m.toArray c2 ?_, ?_⟩
              · simp only [Program.built, hz3, hu, hz4, hie]
                simpa using f1
              · have := f2.toArr
                simpa using this
          | _ => cases hpl
end
end Go.Proofs.YtnfclcfcpgfajaaGreatDoor.Ev

/- Converting; looking into maps; lengths. -/
namespace Go.Proofs.YtnfclcfcpgfajaaGreatDoor.Ev
open Go Go.RowKit
section
variable {P : Program} {ρ : Ro} {S : St} {W : World}

theorem mapL_rel {ev ev' : Operand → Value} : ∀ {l : List Operand}, (∀ x ∈ l, VR ρ (ev x) (ev' x)) → LR ρ (mapL ev l) (l.map ev')
  | [], _ => LR.nil
  | x :: l, h => LR.cons (h x (by simp)) (mapL_rel fun y hy => h y (by simp [hy]))
theorem plain_list {l m : List Value} : allL plain l = true → LR ρ l m → m = l := by
  rw [allL_eq]
  intro h hl
  apply List.ext_getElem? 
  intro i
  cases hi : l[i]? with
  | none =>
    have := List.getElem?_eq_none_iff.1 hi
    rw [List.getElem?_eq_none_iff, ← hl.1]; exact this
  | some v =>
    obtain ⟨w, h1, h2⟩ := hl.get hi
    rw [List.all_eq_true] at h
    rw [h1, plain_inv (h v (List.mem_of_getElem? hi)) h2]

/-! ### Bytes -/
theorem cellsAt_some {a : Addr} {n : Nat} {l : List Value} (h : cellsAt S a n = some l) : ∃ cs ty f base, S.h.get a.block = some (.row cs ty f base) ∧ a.off + n ≤ cs.length ∧ l = (cs.drop a.off).take n := by
  unfold cellsAt at h
  cases ho : S.h.get a.block with
  | none => rw [ho] at h; cases h
  | some o =>
    rw [ho] at h
    cases o with
    | row cs ty f base =>
      obtain ⟨h1, h2⟩ := bi_some (show bi (Nat.ble (a.off + n) (lenV cs)) (some (takeL n (dropL a.off cs))) none = some l from h)
      cases h2
      have := ble_t h1
      rw [lenV_eq] at this
      exact ⟨cs, ty, f, base, rfl, this, by rw [takeL_eq, dropL_eq]⟩
    | _ => cases h
/-- What cells are read as. -/
theorem load_cells (hS : Sim P ρ S W) {a b : Addr} {n : Nat} {l : List Value} (h : cellsAt S a n = some l) (hab : AR ρ a b) : ∃ m : List Value, LR ρ l m ∧ (loadCells b n).run P W = .ok m.toArray W ∧ (∀ j, j < n → W.cell? (b.add j) = m[j]?) ∧ m.length = n := by
  obtain ⟨cs, ty, f, base, h1, h2, rfl⟩ := cellsAt_some h
  have hex : ∀ j, j < n → ∃ w, W.cell? (b.add j) = some w ∧ ∀ v, cs[a.off + j]? = some v → VR ρ v w := fun j hj => by
    have hjl : a.off + j < cs.length := by omega
    obtain ⟨w, h6, _, h7⟩ := hS.cell hab h1 (i := j) (v := cs[a.off + j]) (by simp [hjl])
    exact ⟨w, h6, fun v hv => by simp [hjl] at hv; rw [← hv]; exact h7⟩
  let ws : Nat → Value := fun j => (W.cell? (b.add j)).getD Top
  have hws : ∀ j, j < n → W.cell? (b.add j) = some (ws j) := fun j hj => by obtain ⟨w, h6, _⟩ := hex j hj; simp [ws, h6]
  refine ⟨(List.range n).map ws, ⟨by simp; omega, fun i v w hx hy => ?_⟩, ?_, fun j hj => by simp [hws j hj, hj], by simp⟩
  · rw [List.getElem?_take] at hx
    by_cases hi : i < n
    · rw [if_pos hi, List.getElem?_drop] at hx
      simp [hi] at hy
      obtain ⟨w', h6, h7⟩ := hex i hi
      have : ws i = w' := by simp [ws, h6]
      rw [← hy, this]
      exact h7 v hx
    · rw [if_neg hi] at hx; cases hx
  · have := run_loadCells (P := P) (w := W) b n ws hws
    simpa using this
theorem byte_some {v : Value} {b : UInt8} (h : byteOf v = some b) : ∃ n : Nat, v = .int .u8 (.ofNat n) ∧ b = n.toUInt8 := by
  cases v with
  | int k i =>
    obtain ⟨h1, h2⟩ := bi_some (show bi (isU8K k) (match ofNat? i with
      | some n => some n.toUInt8
      | none => none) none = some b from h)
    cases k <;> (try cases h1)
    cases i with
    | ofNat n => cases h2; exact ⟨n, rfl, rfl⟩
    | negSucc n => cases h2
  | _ => cases h
theorem unbytes_some : ∀ {l : List Value} {bs : List UInt8}, unbytes l = some bs → ∃ ns : List Nat, l = ns.map (fun n => .int .u8 (.ofNat n)) ∧ bs = ns.map Nat.toUInt8
  | [], bs, h => by cases h; exact ⟨[], rfl, rfl⟩
  | v :: l, bs, h => by
    simp only [unbytes] at h
    cases hb : byteOf v with
    | none => simp only [hb] at h; cases h
    | some b =>
      simp only [hb] at h
      cases hu : unbytes l with
      | none => simp only [hu] at h; cases h
      | some r =>
        simp only [hu] at h
        cases h
        obtain ⟨n, rfl, rfl⟩ := byte_some hb
        obtain ⟨ns, rfl, rfl⟩ := unbytes_some hu
        exact ⟨n :: ns, rfl, rfl⟩
theorem ints_rel {ns : List Nat} {m : List Value} (h : LR ρ (ns.map (fun n => .int .u8 (.ofNat n))) m) : m = ns.map (fun n => .int .u8 (.ofNat n)) :=
  plain_list (by rw [allL_eq]; simp; intro x _; rfl) h
theorem isU8T_some {t : TypeId} (h : isU8T (ti P t) = true) : P.underlying t = some (.int .u8) ∧ sizeT P t = some 1 := by
  cases ht : ti P t with
  | none => rw [ht] at h; cases h
  | some p =>
    obtain ⟨d, m⟩ := p
    rw [ht] at h
    cases d with
    | int k =>
      cases k <;> (try cases h)
      have := beq_t (show Nat.beq m 1 = true from h)
      subst this
      exact ⟨(ti_some ht).1, ti_size ht⟩
    | _ => cases h
theorem intK_some {t : TypeId} {k : IntKind} (h : intK (ti P t) = some k) : P.underlying t = some (.int k) := by
  cases ht : ti P t with
  | none => rw [ht] at h; cases h
  | some p =>
    obtain ⟨d, m⟩ := p
    rw [ht] at h
    cases d <;> first | (cases h; exact (ti_some ht).1) | cases h
theorem elemSl_none {t : TypeId} {d : TypeDesc} (hu : P.underlying t = some d) (h : elemSl (ti P t) = none) (hi : ∃ i, P.info? t = some i) : ∀ e, d ≠ .slice e := fun e he => by
  obtain ⟨i, hi⟩ := hi
  subst he
  have : ti P t = some (.slice e, i.size) := by simp [ti, hi, hu]
  rw [this] at h
  cases h
/-- The world with the bytes behind a row marked as a text's. -/
theorem Sim.freeze (hS : Sim P ρ S W) {a b : Addr} (hab : AR ρ a b) {cs : List Value} {ty : TypeId} {f base : Nat} (hr : S.h.get a.block = some (.row cs ty f base)) (hty : isU8T (ti P ty) = true) (hlow : lowB ≤ a.block) :
    ∃ e n, W.shape? b.block = some (e, n) ∧ Sim P ρ S (W.freeze ⟨b.block, n, none⟩ 1) ∧ Ext S.nx ρ W ρ (W.freeze ⟨b.block, n, none⟩ 1) := by
  obtain ⟨hs, sh, h1, h2⟩ := hab
  obtain ⟨x, hx, c, e, fz, rfl, w3, w4, w5, w6, w7, w8⟩ := hS.ob _ _ _ _ hr h1
  refine ⟨e, c.size, by simp [World.shape?, hx], ?_⟩
  have hlt : b.block < W.heap.size := (hS.low _ _ _ h1).2
  -- the new world, block by block
  have hsz : (W.freeze ⟨b.block, c.size, none⟩ 1).heap.size = W.heap.size := by simp [World.freeze]
  have hsame : ∀ B, B ≠ b.block → (W.freeze ⟨b.block, c.size, none⟩ 1).heap[B]? = W.heap[B]? := fun B hB => by
    simp only [World.freeze, Nat.one_ne_zero, if_false, Array.getElem?_modify]
    rw [if_neg (fun e => hB e.symm)]
  have hnew : ∃ fz' : Nat × Nat, (W.freeze ⟨b.block, c.size, none⟩ 1).heap[b.block]? = some (.cells c e fz') ∧ c.size ≤ fz'.1 := by
    obtain ⟨lo, hi⟩ := fz
    simp only [World.freeze, Nat.one_ne_zero, if_false, Array.getElem?_modify, if_true, hx, Option.map_some]
    refine ⟨_, rfl, ?_⟩
    by_cases hq : lo = hi
    · subst hq; simp
    · have : (lo == hi) = false := by simpa using hq
      simp only [this]
      simp only at w6
      have : c.size ≤ lo := by rcases w6 with h | h; exact absurd h hq; exact h
      show c.size ≤ min lo c.size
      omega
  obtain ⟨fz', hn1, hn2⟩ := hnew
  refine ⟨⟨fun b' B' sh' hb => ⟨(hS.low b' B' sh' hb).1, by rw [hsz]; exact (hS.low b' B' sh' hb).2⟩, hS.new, fun b' o B' sh' ho hb => ?_, hS.fam, hS.mem, hS.base, hS.glob, hS.nf, hS.nx⟩,
    ⟨.refl ρ, fun _ h k => absurd h k, by rw [hsz]; exact Nat.le_refl _, fun B hB hne => hsame B (fun e => ?_), fun _ _ _ h k => (by rw [h] at k; cases k), rfl, rfl, rfl⟩⟩
  · obtain ⟨y, hy, hyR⟩ := hS.ob b' o B' sh' ho hb
    by_cases hB : B' = b.block
    · subst hB
      rw [hx] at hy
      cases hy
      refine ⟨_, hn1, ?_⟩
      cases o with
      | row cs' ty' f' base' =>
        obtain ⟨c2, e2, fz2, q1, q2, q3, q4, q5, q6, q7⟩ := hyR
        cases q1
        refine ⟨c, e, fz', rfl, q2, q3, q4, .inr hn2, fun hu => ?_, q7⟩
        -- no other row of another type lies there
        by_cases hbb : b' = a.block
        · subst hbb
          rw [hr] at ho
          cases ho
          rw [hty] at hu
          cases hu
        · obtain ⟨_, ty1, _, _, _, _, r1, r2, _⟩ := hS.fam b' a.block _ _ _ _ _ hbb ho hr hb h1
          cases r1
          cases r2
          rw [hty] at hu
          cases hu
      | map es k => obtain ⟨_, _, q, _⟩ := hyR; cases q
      | loop => obtain ⟨_, _, q, _⟩ := hyR; cases q
      | defs => obtain ⟨_, q⟩ := hyR; cases q
    · exact ⟨y, by rw [hsame B' hB]; exact hy, hyR⟩
  · exact hne a.block sh hlow (by rw [e]; exact h1)
/-- What a looking operation does. -/
def LookR (P : Program) (ρ : Ro) (S : St) (W : World) (v : Value) (s : Sem Next) : Prop := ∃ v' W', s.run P W = .ok (.value v') W' ∧ VR ρ v v' ∧ Sim P ρ S W' ∧ Ext S.nx ρ W ρ W'
theorem LookR.of (hS : Sim P ρ S W) {s : Sem Value} {v v' : Value} (h : s.run P W = .ok v' W) (hv : VR ρ v v') : LookR P ρ S W v (s >>= fun x => (pure (.value x) : Sem Next)) := ⟨v', W, run_v h, hv, hS, .refl _ _ _⟩
theorem first_bytes {n : Nat} {a : Option Addr} {c : Nat} {l : List Value} (h : firstL S 1 n (.slice a n c) = some l) : (a = none ∧ l = []) ∨ ∃ x, a = some x ∧ cellsAt S x n = some l := by
  cases a with
  | none => cases h; exact .inl ⟨rfl, rfl⟩
  | some x =>
    have h1 : cellsAt S x (Nat.mul n 1) = some l := h
    have e : Nat.mul n 1 = n := Nat.mul_one n
    rw [e] at h1
    exact .inr ⟨x, rfl, h1⟩
theorem conv_text (hS : Sim P ρ S W) {src dst e : TypeId} {v x x' : Value} (hs : P.underlying src = some (.slice e)) (hd : P.underlying dst = some .string) (he : P.underlying e = some (.int .u8))
    (h : rConv P S src dst .text x = some v) (hx : VR ρ x x') : ∃ v', (convert src dst x').run P W = .ok v' W ∧ VR ρ v v' := by
  cases x with
  | slice a n c =>
    have h' : rUnbytes (firstL S 1 n (.slice a n c)) = some v := h
    cases hf : firstL S 1 n (.slice a n c) with
    | none => rw [hf] at h'; cases h'
    | some cs =>
      rw [hf] at h'
      simp only [rUnbytes] at h'
      cases hu : unbytes cs with
      | none => simp only [hu] at h'; cases h'
      | some bs =>
        simp only [hu] at h'
        cases h'
        obtain ⟨ns, rfl, rfl⟩ := unbytes_some hu
        rcases first_bytes hf with ⟨rfl, hnil⟩ | ⟨y, rfl, hc⟩
        · have := hx.nilsl
          subst this
          have : ns = [] := by simpa using hnil
          subst this
          refine ⟨.string .empty, ?_, .flat rfl⟩
          rw [run_convert_bytes_string W src dst e none n c hs he hd]
          rfl
        · obtain ⟨b, c', rfl, _, hcc⟩ := hx.slicev
          have key : ∀ m : List Value, LR ρ (ns.map (fun n => Value.int .u8 (.ofNat n))) m → (loadCells b n).run P W = .ok m.toArray W → ∃ v', (convert src dst (.slice (some b) n c')).run P W = .ok v' W ∧ VR ρ (.string ⟨(ns.map Nat.toUInt8).toArray⟩) v' := by
            intro m hm hl
            have := ints_rel hm
            subst this
            have e1 : (ns.map (fun n => Value.int .u8 (.ofNat n))).toArray = ((ns.map Int.ofNat).map (Value.int .u8)).toArray := by simp
            rw [e1] at hl
            refine ⟨_, (run_convert_bytes_string W src dst e (some b) n c' hs he hd).trans (run_bytesToString W b n c' _ hl), ?_⟩
            rw [foldl_push_bytes]
            have e2 : (⟨ByteArray.empty.data ++ ((ns.map Int.ofNat).map fun n => UInt8.ofNat n.toNat).toArray⟩ : ByteArray) = ⟨(ns.map Nat.toUInt8).toArray⟩ := by
              apply ByteArray.ext
              apply Array.toList_inj.1
              simp [ByteArray.empty, ByteArray.emptyWithCapacity]
              rfl
            rw [e2]
            exact .flat rfl
          rcases hcc with ⟨hab, _⟩ | ⟨hab, _⟩ | ⟨hn, _⟩ | ⟨hn, _⟩
          · obtain ⟨m, h1, h2, _⟩ := load_cells hS hc hab
            exact key m h1 h2
          · obtain ⟨m, h1, h2, _⟩ := load_cells hS hc hab
            exact key m h1 h2
          · subst hn
            obtain ⟨_, _, _, _, _, _, hl⟩ := cellsAt_some hc
            have : ns = [] := by simpa using hl
            subst this
            exact key [] LR.nil rfl
          · subst hn
            obtain ⟨_, _, _, _, _, _, hl⟩ := cellsAt_some hc
            have : ns = [] := by simpa using hl
            subst this
            exact key [] LR.nil rfl
  | _ => cases h
theorem conv_same (hS : Sim P ρ S W) {src dst e : TypeId} {v x x' : Value} (hsd : src = dst) (hs : P.underlying src = some (.slice e)) (he : P.underlying e = some (.int .u8)) (h : rSame P S x = some v) (hx : VR ρ x x') :
    ∃ v' W', (convert src dst x').run P W = .ok v' W' ∧ VR ρ v v' ∧ Sim P ρ S W' ∧ Ext S.nx ρ W ρ W' := by
  subst hsd
  cases x with
  | slice a n c =>
    cases a with
    | none => cases h
    | some a =>
      have h' : (match tyO (S.h.get a.block) with
        | some ty => bi (nb (Nat.ble 1 n) (nb (Nat.ble lowB a.block) (isU8T (ti P ty)))) (some (.slice (some a) n c)) none
        | none => none) = some v := h
      cases ho : S.h.get a.block with
      | none => rw [ho] at h'; cases h'
      | some o =>
        rw [ho] at h'
        cases o with
        | row cs ty f base =>
          obtain ⟨g1, g2⟩ := bi_some (show bi (nb (Nat.ble 1 n) (nb (Nat.ble lowB a.block) (isU8T (ti P ty)))) (some (Value.slice (some a) n c)) none = some v from h')
          cases g2
          obtain ⟨g0, g34⟩ := nb_t g1
          have hn1 := ble_t g0
          obtain ⟨g3, g4⟩ := nb_t g34
          have hx0 := hx
          obtain ⟨b, c', rfl, _, hcc⟩ := hx.slicev
          have key : AR ρ a b → ∃ v' W', (convert src src (.slice (some b) n c')).run P W = .ok v' W' ∧ VR ρ (.slice (some a) n c) v' ∧ Sim P ρ S W' ∧ Ext S.nx ρ W ρ W' := fun hab => by
            obtain ⟨e', k, h1, h2, h3⟩ := hS.freeze hab ho g4 (ble_t g3)
            refine ⟨.slice (some b) n c', _, ?_, hx0, h2, h3⟩
            simp [convert, run_underlying hs, run_underlying he, markStringish, h1]
          rcases hcc with ⟨hab, _⟩ | ⟨hab, _⟩ | ⟨hn, hc, hc'⟩ | ⟨hn, hc, hc'⟩
          · exact key hab
          · exact key hab
          · omega
          · omega
        | _ => cases h'
  | _ => cases h
end
end Go.Proofs.YtnfclcfcpgfajaaGreatDoor.Ev

/- Maps looked into; and what any operation does that only looks. -/
namespace Go.Proofs.YtnfclcfcpgfajaaGreatDoor.Ev
open Go Go.RowKit
section
variable {P : Program} {ρ : Ro} {S : St} {W : World}

theorem conv_other {src dst : TypeId} {v x x' : Value} (h : rConv P S src dst .other x = some v) (hx : VR ρ x x') (w : World) : ∃ v', (convert src dst x').run P w = .ok v' w ∧ VR ρ v v' := by
  have h' : (match elemSl (ti P src), elemSl (ti P dst) with
    | none, none => bi (plain x) (runV P (convert src dst x)) none
    | _, _ => none) = some v := h
  cases h1 : elemSl (ti P src) <;> cases h2 : elemSl (ti P dst) <;> simp only [h1, h2] at h' <;> (try cases h')
  obtain ⟨g1, g2⟩ := bi_some h'
  have := plain_inv g1 hx
  subst this
  exact ⟨v, runV_run g2 w, plain_flat (runV_some g2).2⟩
theorem conv_int {src dst : TypeId} {k : IntKind} {v x x' : Value} {d : TypeDesc} (hs : P.underlying src = some d) (hd : P.underlying dst = some (.int k)) (h : rConv P S src dst (.int k) x = some v) (hx : VR ρ x x') (w : World) :
    ∃ v', (convert src dst x').run P w = .ok v' w ∧ VR ρ v v' := by
  cases x with
  | int j i =>
    cases h
    have := hx.int
    subst this
    refine ⟨.int k (k.wrap i), ?_, ?_⟩
    · simp [convert, run_underlying hs, run_underlying hd, Conv.intToInt]
    · rw [wrapQ_eq]; exact .flat rfl
  | _ => cases h
/-- How a value is converted, where it makes no block. -/
theorem conv_sound (hS : Sim P ρ S W) {src dst : TypeId} {v x x' : Value} (hc : ∀ e, cvOf P src dst ≠ .bytes e) (h : rConv P S src dst (cvOf P src dst) x = some v) (hx : VR ρ x x') :
    ∃ v' W', (convert src dst x').run P W = .ok v' W' ∧ VR ρ v v' ∧ Sim P ρ S W' ∧ Ext S.nx ρ W ρ W' := by
  have same : (∃ v', (convert src dst x').run P W = .ok v' W ∧ VR ρ v v') → ∃ v' W', (convert src dst x').run P W = .ok v' W' ∧ VR ρ v v' ∧ Sim P ρ S W' ∧ Ext S.nx ρ W ρ W' := fun ⟨v', h1, h2⟩ => ⟨v', W, h1, h2, hS, .refl _ _ _⟩
  unfold cvOf at h hc
  cases h1 : elemSl (ti P src) with
  | some e =>
    have hs := elemSl_some h1
    cases h2 : elemSl (ti P dst) with
    | some e2 =>
      simp only [h1, h2] at h
      cases hb : nb (Nat.beq src dst) (isU8T (ti P e)) with
      | true =>
        rw [hb] at h
        obtain ⟨g1, g2⟩ := nb_t hb
        exact conv_same hS (beq_t g1) hs (isU8T_some g2).1 h hx
      | false => rw [hb] at h; exact same (conv_other h hx W)
    | none =>
      simp only [h1, h2] at h
      cases hb : nb (isStrT (ti P dst)) (isU8T (ti P e)) with
      | true =>
        rw [hb] at h
        obtain ⟨g1, g2⟩ := nb_t hb
        exact same (conv_text hS hs (isStrT_some g1) (isU8T_some g2).1 h hx)
      | false => rw [hb] at h; exact same (conv_other h hx W)
  | none =>
    cases h2 : elemSl (ti P dst) with
    | some e2 =>
      simp only [h1, h2] at h hc
      cases hb : nb (isStrT (ti P src)) (isU8T (ti P e2)) with
      | true => rw [hb] at hc; exact absurd rfl (hc e2)
      | false => rw [hb] at h; exact same (conv_other h hx W)
    | none =>
      simp only [h1, h2] at h
      cases h3 : ti P src with
      | none => simp only [h3] at h; exact same (conv_other h hx W)
      | some p =>
        cases h4 : intK (ti P dst) with
        | none => simp only [h3, h4] at h; exact same (conv_other h hx W)
        | some k =>
          simp only [h3, h4] at h
          obtain ⟨d, n⟩ := p
          exact same (conv_int (ti_some h3).1 (intK_some h4) h hx W)

/-! ### Maps -/
theorem keyKind_some {t : TypeId} {kt et : TypeId} (hu : P.underlying t = some (.map kt et)) (hi : ∃ i, P.info? t = some i) : keyKind P (ti P t) = 9 ∨
    (keyKind P (ti P t) = 0 ∧ ∃ k, P.underlying kt = some (.int k)) ∨ (keyKind P (ti P t) = 1 ∧ P.underlying kt = some .string) ∨ (keyKind P (ti P t) = 2 ∧ P.underlying kt = some .bool) ∨
    (keyKind P (ti P t) = 3 ∧ ∃ e n, P.underlying kt = some (.pointer e) ∧ sizeT P e = some n ∧ n ≠ 0) := by
  obtain ⟨i, hi⟩ := hi
  have ht : ti P t = some (.map kt et, i.size) := by simp [ti, hi, hu]
  rw [ht]
  simp only [keyKind]
  cases hk : ti P kt with
  | none => exact .inl (by simp)
  | some p =>
    obtain ⟨d, n⟩ := p
    have hku := (ti_some hk).1
    cases d <;> (try exact .inl rfl)
    case int k => exact .inr (.inl ⟨rfl, k, hku⟩)
    case string => exact .inr (.inr (.inl ⟨rfl, hku⟩))
    case bool => exact .inr (.inr (.inr (.inl ⟨rfl, hku⟩)))
    case pointer e =>
      cases hs : sizeT P e with
      | none => left; simp [hs]
      | some m =>
        simp only [hs]
        cases hm : Nat.beq m 0 with
        | true => left; simp
        | false => exact .inr (.inr (.inr (.inr ⟨rfl, e, m, hku, hs, beq_f hm⟩)))
/-- A key that may be: related to a value, it is one of four. -/
theorem checkKey_ok {kt : TypeId} {d : TypeDesc} {k : Value} (hd : P.underlying kt = some d) (h : (match d with
    | .int _ => true
    | .string => true
    | .bool => true
    | .pointer _ => true
    | _ => false) = true) (e : Bool) (n : Nat) (w : World) : (Instr.checkKey e (n + 1) kt k).run P w = .ok () w := by
  unfold Instr.checkKey
  simp only [Sem.run_bind, run_underlying hd, Result.andThen]
  cases d <;> first | rfl | cases h
/-- What is found. -/
def FndR (ρ : Ro) (r r' : Option (Nat × Value)) : Prop := (r = none ∧ r' = none) ∨ ∃ i v v', r = some (i, v) ∧ r' = some (i, v') ∧ VR ρ v v'
theorem EntR.cons_inv {e : MapEntry} {es fs : List MapEntry} (h : EntR ρ (e :: es) fs) : ∃ f gs, fs = f :: gs ∧ VR ρ e.key f.key ∧ VR ρ e.val f.val ∧ e.born = f.born ∧ EntR ρ es gs := by
  cases fs with
  | nil => exact absurd h.1 (by simp)
  | cons f gs =>
    obtain ⟨h1, h2, h3⟩ := h.2 0 e f rfl rfl
    exact ⟨f, gs, rfl, h1, h2, h3, by simpa using h.1, fun i => h.2 (i + 1)⟩
theorem EntR.nil_inv {fs : List MapEntry} (h : EntR ρ [] fs) : fs = [] := List.length_eq_zero_iff.1 h.1.symm
/-- Keys that are numbers, texts, truths. -/
theorem findNow_sound {d : TypeDesc} {kd : Nat} (hd : (kd = 0 ∧ ∃ k, d = .int k) ∨ (kd = 1 ∧ d = .string) ∨ (kd = 2 ∧ d = .bool)) {k k' : Value} (hk : keyOk P S kd k = true) (hkv : VR ρ k k') :
    ∀ {es fs : List MapEntry} {i : Nat} {r : Option (Nat × Value)}, keysOk P S kd es = true → EntR ρ es fs → findK k es i = some r → ∃ r', Instr.findNow d k' fs i = some r' ∧ FndR ρ r r'
  | [], fs, i, r, _, he, h => by
    cases h
    rw [he.nil_inv]
    exact ⟨none, rfl, .inl ⟨rfl, rfl⟩⟩
  | e :: es, fs, i, r, hks, he, h => by
    obtain ⟨f, gs, rfl, h1, h2, _, h4⟩ := he.cons_inv
    obtain ⟨g1, g2⟩ := nb_t (show nb (keyOk P S kd e.key) (keysOk P S kd es) = true from hks)
    simp only [findK] at h
    have again : ∀ r, findK k es (i + 1) = some r → ∃ r', Instr.findNow d k' gs (i + 1) = some r' ∧ FndR ρ r r' := fun r hr => findNow_sound hd hk hkv g2 h4 hr
    -- the two keys
    have keys : ∀ b, keyEq k e.key = some b → Instr.sameNow d k' f.key = some b := by
      intro b hb
      cases k with
      | int j a =>
        have := hkv.int; subst this
        have hkd := beq_t (show Nat.beq kd 0 = true from hk)
        rcases hd with ⟨_, q, rfl⟩ | ⟨h, _⟩ | ⟨h, _⟩ <;> (try omega)
        cases hek : e.key with
        | int l c =>
          rw [hek] at h1 hb
          have := h1.int
          rw [this]
          obtain ⟨q1, q2⟩ := bi_some (show bi (Nat.beq (kNum j) (kNum l)) (some (ieq a c)) none = some b from hb)
          have := kNum_inj q1
          subst this
          cases q2
          simp only [Instr.sameNow, if_true, ieq_eq]
          rfl
        | _ => rw [hek] at hb; cases hb
      | string a =>
        have := hkv.str; subst this
        have hkd := beq_t (show Nat.beq kd 1 = true from hk)
        rcases hd with ⟨h, _⟩ | ⟨_, rfl⟩ | ⟨h, _⟩ <;> (try omega)
        cases hek : e.key with
        | string c =>
          rw [hek] at h1 hb
          have := h1.str
          rw [this]
          cases hb
          simp only [Instr.sameNow, eqBytes_eq]
          congr 1
          rw [Bool.eq_iff_iff, MapKept.bytes_beq, beq_iff_eq]
          cases a; cases c
          simp
        | _ => rw [hek] at hb; cases hb
      | bool a =>
        have := hkv.bool; subst this
        have hkd := beq_t (show Nat.beq kd 2 = true from hk)
        rcases hd with ⟨h, _⟩ | ⟨h, _⟩ | ⟨_, rfl⟩ <;> (try omega)
        cases hek : e.key with
        | bool c =>
          rw [hek] at h1 hb
          have := h1.bool
          rw [this]
          cases hb
          simp only [Instr.sameNow, beqB_eq]
        | _ => rw [hek] at hb; cases hb
      | pointer a =>
        cases a with
        | none => cases hk
        | some a =>
          have := (nb_t (show nb (Nat.beq kd 3) _ = true from hk)).1
          have := beq_t this
          omega
      | _ => cases hk
    cases hq : keyEq k e.key with
    | none => simp only [hq] at h; cases h
    | some b =>
      simp only [hq] at h
      have h5 := keys b hq
      cases b with
      | true =>
        cases h
        exact ⟨some (i, f.val), by simp [Instr.findNow, h5], .inr ⟨i, _, _, rfl, rfl, h2⟩⟩
      | false =>
        obtain ⟨r', h6, h7⟩ := again r h
        exact ⟨r', by simp only [Instr.findNow, h5]; exact h6, h7⟩
theorem keyPtr {kd : Nat} {k : Value} (h : keyOk P S 3 k = true) : ∃ a, k = .pointer (some a) ∧ apart P S a.block = true := by
  cases k with
  | pointer a =>
    cases a with
    | none => cases h
    | some a => exact ⟨a, rfl, (nb_t (show nb (Nat.beq 3 3) (apart P S a.block) = true from h)).2⟩
  | _ => cases h
/-- Keys that are addresses. -/
theorem findAsking_sound (hS : Sim P ρ S W) {kt e : TypeId} {n : Nat} (hu : P.underlying kt = some (.pointer e)) (hs : sizeT P e = some n) (hn : n ≠ 0) {a : Addr} {b : Addr} (hab : AR ρ a b) (ha : apart P S a.block = true) :
    ∀ {es fs : List MapEntry} {i : Nat} {r : Option (Nat × Value)}, keysOk P S 3 es = true → EntR ρ es fs → findK (.pointer (some a)) es i = some r → ∃ r', (Instr.findAsking kt (.pointer (some b)) fs i).run P W = .ok r' W ∧ FndR ρ r r'
  | [], fs, i, r, _, he, h => by
    cases h
    rw [he.nil_inv]
    exact ⟨none, rfl, .inl ⟨rfl, rfl⟩⟩
  | x :: es, fs, i, r, hks, he, h => by
    obtain ⟨f, gs, rfl, h1, h2, _, h4⟩ := he.cons_inv
    obtain ⟨g1, g2⟩ := nb_t (show nb (keyOk P S 3 x.key) (keysOk P S 3 es) = true from hks)
    obtain ⟨c, hc, hca⟩ := keyPtr (kd := 3) g1
    rw [hc] at h1
    obtain ⟨c', hc', hcc⟩ := h1.pointer
    have heq : (Op.equal kt (.pointer (some b)) f.key).run P W = .ok (eqA a c) W := by
      rw [hc', equal_eq]
      exact (eqIn_ptr W hu hs hn _ _).trans (sameAddr_sound hS hab hcc (.inr ⟨ha, hca⟩))
    simp only [findK] at h
    have hq : keyEq (.pointer (some a)) x.key = some (eqA a c) := by rw [hc]; rfl
    simp only [hq] at h
    cases hb : eqA a c with
    | true =>
      rw [hb] at h heq
      cases h
      exact ⟨some (i, f.val), by simp [Instr.findAsking, heq], .inr ⟨i, _, _, rfl, rfl, h2⟩⟩
    | false =>
      rw [hb] at h heq
      obtain ⟨r', h6, h7⟩ := findAsking_sound hS hu hs hn hab ha g2 h4 h
      exact ⟨r', by simp [Instr.findAsking, heq, h6], h7⟩
/-- A key is looked for. -/
theorem find_sound (hS : Sim P ρ S W) {t kt et : TypeId} (hu : P.underlying t = some (.map kt et)) (hi : ∃ i, P.info? t = some i) {k k' : Value} {es fs : List MapEntry} {r : Option (Nat × Value)} (hk : keyOk P S (keyKind P (ti P t)) k = true) (hks : keysOk P S (keyKind P (ti P t)) es = true)
    (hkv : VR ρ k k') (he : EntR ρ es fs) (h : findK k es 0 = some r) : (∃ r', (Instr.findKey kt k' fs).run P W = .ok r' W ∧ FndR ρ r r') ∧ ∀ b n, (Instr.checkKey b (n + 1) kt k').run P W = .ok () W := by
  rcases keyKind_some hu hi with h9 | ⟨h0, q, hq⟩ | ⟨h0, hq⟩ | ⟨h0, hq⟩ | ⟨h0, e, n, hq, hs, hn⟩
  · rw [h9] at hk
    cases k with
    | pointer a => cases a <;> cases hk
    | _ => cases hk
  · rw [h0] at hk hks
    obtain ⟨r', h1, h2⟩ := findNow_sound (d := .int q) (.inl ⟨rfl, q, rfl⟩) hk hkv hks he h
    exact ⟨⟨r', MapKept.run_findKey hq h1, h2⟩, fun b n => checkKey_ok hq rfl b n W⟩
  · rw [h0] at hk hks
    obtain ⟨r', h1, h2⟩ := findNow_sound (d := .string) (.inr (.inl ⟨rfl, rfl⟩)) hk hkv hks he h
    exact ⟨⟨r', MapKept.run_findKey hq h1, h2⟩, fun b n => checkKey_ok hq rfl b n W⟩
  · rw [h0] at hk hks
    obtain ⟨r', h1, h2⟩ := findNow_sound (d := .bool) (.inr (.inr ⟨rfl, rfl⟩)) hk hkv hks he h
    exact ⟨⟨r', MapKept.run_findKey hq h1, h2⟩, fun b n => checkKey_ok hq rfl b n W⟩
  · rw [h0] at hk hks
    obtain ⟨a, rfl, ha⟩ := keyPtr (kd := 3) hk
    obtain ⟨b, rfl, hab⟩ := hkv.pointer
    refine ⟨?_, fun b n => checkKey_ok hq rfl b n W⟩
    obtain ⟨r', h1, h2⟩ := findAsking_sound hS hq hs hn hab ha hks he h
    cases es with
    | nil =>
      cases h
      rw [he.nil_inv]
      exact ⟨none, by simp [Instr.findKey, run_underlying hq, Instr.findNow], .inl ⟨rfl, rfl⟩⟩
    | cons x es =>
      obtain ⟨f, gs, rfl, _⟩ := he.cons_inv
      refine ⟨r', ?_, h2⟩
      have : Instr.findNow (.pointer e) (.pointer (some b)) (f :: gs) 0 = none := by simp [Instr.findNow, Instr.sameNow]
      simp [Instr.findKey, run_underlying hq, this, h1]
theorem mapOf_some (hS : Sim P ρ S W) {m m' : Value} {es : List MapEntry} (h : mapOf S m = some es) (hm : VR ρ m m') : (m' = .map none ∧ es = []) ∨ ∃ r r' fs c, m = .map (some r) ∧ m' = .map (some r') ∧ ρ.at_ r = some (r', 0) ∧ S.h.get r = some (.map es c) ∧ W.heap[r']? = some (.map fs c) ∧ EntR ρ es fs.toList := by
  cases m with
  | map r =>
    cases r with
    | none => cases h; exact .inl ⟨hm.nilmap, rfl⟩
    | some r =>
      obtain ⟨r', rfl, hr⟩ := hm.mapv
      have h' : entriesO (S.h.get r) = some es := h
      cases ho : S.h.get r with
      | none => rw [ho] at h'; cases h'
      | some o =>
        rw [ho] at h'
        cases o with
        | map es' c =>
          cases h'
          obtain ⟨x, hx, _, fs, rfl, he⟩ := hS.ob _ _ _ _ ho hr
          exact .inr ⟨r, r', fs, c, rfl, rfl, hr, ho, hx, he⟩
        | _ => cases h'
  | _ => cases h
theorem elemMap_some {t e : TypeId} (h : elemMap (ti P t) = some e) : (∃ k, P.underlying t = some (.map k e)) ∧ ∃ i, P.info? t = some i := by
  cases ht : ti P t with
  | none => rw [ht] at h; cases h
  | some p =>
    obtain ⟨d, m⟩ := p
    rw [ht] at h
    obtain ⟨i, hi, _⟩ := (ti_some ht).2
    cases d <;> first | (cases h; exact ⟨⟨_, (ti_some ht).1⟩, i, hi⟩) | cases h
theorem lookup_found {t kt et : TypeId} {m' k' u : Value} {fs : Array MapEntry} {j : Nat} (hm : (m' = .map none ∧ fs = #[]) ∨ ∃ r' c, m' = .map (some r') ∧ W.heap[r']? = some (.map fs c)) (hu : P.underlying t = some (.map kt et))
    (hck : (Instr.checkKey fs.isEmpty 10000 kt k').run P W = .ok () W) (hf : (Instr.findKey kt k' fs.toList).run P W = .ok (some (j, u)) W) (ok : Bool) : (Instr.lookup t m' k' ok).run P W = .ok (if ok = true then .tuple #[u, .bool true] else u) W := by
  rcases hm with ⟨rfl, rfl⟩ | ⟨r', c, rfl, hw⟩
  · simp only [Instr.lookup, Sem.run_bind, run_underlying hu, Result.andThen_ok, Sem.run_pure, hck, hf]
  · simp only [Instr.lookup, Sem.run_bind, run_underlying hu, Result.andThen_ok, Sem.run_pure, MapKept.run_getObj_map hw, hck, hf]
theorem lookup_none {t kt et : TypeId} {m' k' z : Value} {fs : Array MapEntry} (hm : (m' = .map none ∧ fs = #[]) ∨ ∃ r' c, m' = .map (some r') ∧ W.heap[r']? = some (.map fs c)) (hu : P.underlying t = some (.map kt et))
    (hck : (Instr.checkKey fs.isEmpty 10000 kt k').run P W = .ok () W) (hf : (Instr.findKey kt k' fs.toList).run P W = .ok none W) (hz : (zeroValue et).run P W = .ok z W) (ok : Bool) : (Instr.lookup t m' k' ok).run P W = .ok (if ok = true then .tuple #[z, .bool false] else z) W := by
  rcases hm with ⟨rfl, rfl⟩ | ⟨r', c, rfl, hw⟩
  · simp only [Instr.lookup, Sem.run_bind, run_underlying hu, Result.andThen_ok, Sem.run_pure, hck, hf, hz]
  · simp only [Instr.lookup, Sem.run_bind, run_underlying hu, Result.andThen_ok, Sem.run_pure, MapKept.run_getObj_map hw, hck, hf, hz]
theorem lookup_sound (hS : Sim P ρ S W) {t : TypeId} {ok : Bool} {m k m' k' v : Value} (h : rLookup P S (keyKind P (ti P t)) (zeroO P (elemMap (ti P t))) ok m k = some v) (hm : VR ρ m m') (hk : VR ρ k k') :
    ∃ v', (Instr.lookup t m' k' ok).run P W = .ok v' W ∧ VR ρ v v' := by
  unfold rLookup at h
  cases hes : mapOf S m with
  | none => rw [hes] at h; cases h
  | some es =>
    simp only [hes] at h
    obtain ⟨g1, g2⟩ := bi_some h
    obtain ⟨g3, g4⟩ := nb_t g1
    cases hf : findK k es 0 with
    | none => rw [hf] at g2; cases g2
    | some r =>
      rw [hf] at g2
      -- the type is a map's
      have hty : ∃ kt et i, P.underlying t = some (.map kt et) ∧ P.info? t = some i ∧ elemMap (ti P t) = some et := by
        cases ht : ti P t with
        | none =>
          rw [ht] at g3
          cases k with
          | pointer a => cases a <;> cases g3
          | _ => cases g3
        | some p =>
          obtain ⟨d, n⟩ := p
          obtain ⟨hu, i, hi, _⟩ := ti_some ht
          rw [ht] at g3
          cases d with
          | map kt et => exact ⟨kt, et, i, hu, hi, rfl⟩
          | _ =>
            cases k with
            | pointer a => cases a <;> cases g3
            | _ => cases g3
      obtain ⟨kt, et, i, hu, hi, hel⟩ := hty
      rw [hel] at g2
      have fin : ∀ fs : Array MapEntry, EntR ρ es fs.toList → ((m' = .map none ∧ fs = #[]) ∨ ∃ r' c, m' = .map (some r') ∧ W.heap[r']? = some (.map fs c)) → ∃ v', (Instr.lookup t m' k' ok).run P W = .ok v' W ∧ VR ρ v v' := by
        intro fs he hm2
        obtain ⟨⟨r', h1, h2⟩, h3⟩ := find_sound hS hu ⟨i, hi⟩ g3 g4 hk he hf
        have hck := h3 fs.isEmpty 9999
        rcases h2 with ⟨rfl, rfl⟩ | ⟨j, u, u', rfl, rfl, hv⟩
        · cases hz : zeroV P et with
          | none => simp only [zeroO, hz] at g2; cases g2
          | some z =>
            simp only [zeroO, hz] at g2
            obtain ⟨hp, ie, hie, hiz⟩ := zeroV_some hz
            have hrun := lookup_none hm2 hu hck h1 (show (zeroValue et).run P W = .ok z W by simp [zeroValue, run_info hie, hiz]) ok
            cases ok with
            | true => cases g2; exact ⟨_, hrun, .tuple rfl (LR.arr (a := #[z, .bool false]) (b := #[z, .bool false]) (LR.cons (plain_flat hp) (LR.cons (.flat rfl) LR.nil))).2⟩
            | false => cases g2; exact ⟨_, hrun, plain_flat hp⟩
        · have hrun := lookup_found hm2 hu hck h1 ok
          cases ok with
          | true => cases g2; exact ⟨_, hrun, .tuple rfl (LR.arr (a := #[u, .bool true]) (b := #[u', .bool true]) (LR.cons hv (LR.cons (.flat rfl) LR.nil))).2⟩
          | false => cases g2; exact ⟨_, hrun, hv⟩
      rcases mapOf_some hS hes hm with ⟨rfl, rfl⟩ | ⟨r0, r0', fs, c, rfl, rfl, hr, ho, hw, he⟩
      · exact fin #[] ⟨rfl, fun i e f h => by simp at h⟩ (.inl ⟨rfl, rfl⟩)
      · exact fin fs he (.inr ⟨r0', c, rfl, hw⟩)
end
end Go.Proofs.YtnfclcfcpgfajaaGreatDoor.Ev

/- What any operation does that only looks. -/
namespace Go.Proofs.YtnfclcfcpgfajaaGreatDoor.Ev
open Go Go.RowKit
section
variable {P : Program} {ρ : Ro} {S : St} {W : World}

theorem len_sound (hS : Sim P ρ S W) {t : TypeId} {ts : Array TypeId} {ty : TypeId} {x x' v : Value} (hts : ts[0]? = some t) (h : rLen S (ti P t) ts ty x = some v) (hx : VR ρ x x') : ∃ v', (Builtin.len_ ts ty #[x']).run P W = .ok v' W ∧ VR ρ v v' := by
  cases x with
  | slice a n c =>
    obtain ⟨g1, g2⟩ := bi_some (show bi (isSlT (ti P t)) (some (goInt n)) none = some v from h)
    cases g2
    obtain ⟨e, hu⟩ := isSlT_some g1
    refine ⟨goInt n, ?_, .flat rfl⟩
    cases a with
    | none => have := hx.nilsl; subst this; simp [Builtin.len_, hts, run_underlying hu]
    | some a => obtain ⟨b, c', rfl, _⟩ := hx.slicev; simp [Builtin.len_, hts, run_underlying hu]
  | map r =>
    obtain ⟨g1, g2⟩ := bi_some (show bi (isMapT (ti P t)) (match mapOf S (.map r) with
      | some es => some (goInt (lenV es))
      | none => none) none = some v from h)
    obtain ⟨k, e, hu⟩ := isMapT_some g1
    cases hm : mapOf S (.map r) with
    | none => rw [hm] at g2; cases g2
    | some es =>
      rw [hm] at g2
      cases g2
      refine ⟨_, ?_, .flat rfl⟩
      rw [lenV_eq]
      rcases mapOf_some hS hm hx with ⟨rfl, rfl⟩ | ⟨r0, r', fs, c, _, rfl, _, _, hw, he⟩
      · simp [Builtin.len_, hts, run_underlying hu]
      · have : es.length = fs.size := by rw [he.1]; simp
        simp [Builtin.len_, hts, run_underlying hu, MapKept.run_getObj_map hw, this]
  | string s =>
    obtain ⟨g1, g2⟩ := bi_some (show bi (isStrT (ti P t)) (some (goInt (lenV s.data.toList))) none = some v from h)
    cases g2
    have hu := isStrT_some g1
    have := hx.str
    subst this
    refine ⟨_, ?_, .flat rfl⟩
    rw [lenV_eq]
    simp [Builtin.len_, hts, run_underlying hu]
  | _ => cases h
theorem cap_sound {t : TypeId} {ts : Array TypeId} {ty : TypeId} {x x' v : Value} (hts : ts[0]? = some t) (h : rCap (ti P t) x = some v) (hx : VR ρ x x') (w : World) : ∃ v', (Builtin.cap_ ts ty #[x']).run P w = .ok v' w ∧ VR ρ v v' := by
  cases x with
  | slice a n c =>
    obtain ⟨g1, g2⟩ := bi_some (show bi (nb (!Nat.beq c U) (isSlT (ti P t))) (some (goInt c)) none = some v from h)
    cases g2
    obtain ⟨g3, g4⟩ := nb_t g1
    obtain ⟨e, hu⟩ := isSlT_some g4
    have hc : c ≠ U := beq_f (by simpa using g3)
    refine ⟨goInt c, ?_, .flat rfl⟩
    cases a with
    | none => have := hx.nilsl; subst this; simp [Builtin.cap_, hts, run_underlying hu]
    | some a =>
      obtain ⟨b, c', rfl, _, hcc⟩ := hx.slicev
      have : c' = c := by
        rcases hcc with ⟨_, _, h⟩ | ⟨_, h, _⟩ | ⟨_, h, _⟩ | ⟨_, h, h'⟩
        · exact h
        · exact absurd h hc
        · exact absurd h hc
        · omega
      subst this
      simp [Builtin.cap_, hts, run_underlying hu]
  | _ => cases h
theorem optE_rel {ev ev' : Operand → Value} {o : Option Operand} (h : ∀ x ∈ o, VR ρ (ev x) (ev' x)) : OR ρ (optE ev o) (o.map ev') := by
  cases o with
  | none => exact .inl ⟨rfl, rfl⟩
  | some x => exact .inr ⟨_, _, rfl, rfl, h x rfl⟩
/-- A call of what is built in. -/
theorem builtin_run {ev : Operand → Value} {o : Oper} {c : Call} {b : Builtin} (ho : o.op = .call c) (hc : c.callee = .builtin b) (w : World) :
    (execOp ev o).run P w = (builtin b c.argTypes o.type (c.args.map fun | .const _ => true | _ => false) (c.args.map ev)).run P w := by
  unfold execOp
  simp only [ho, resolve, hc, Sem.run_bind, Sem.run_pure, Result.andThen_ok]
  rfl
theorem aBuiltin_look {b : Builtin} {ts : Array TypeId} {type : TypeId} {xs : List Operand} {f : St → (Operand → Value) → Option Value} (h : aBuiltin P b ts type xs = .look f) : ∃ t r, ts.toList = t :: r ∧
    ((b = .len ∧ ∃ x, xs = [x] ∧ f = fun S ev => rLen S (ti P t) ts type (ev x)) ∨ (b = .cap ∧ ∃ x, xs = [x] ∧ f = fun _ ev => rCap (ti P t) (ev x)) ∨
     (b = .min ∧ f = fun _ ev => bi (allL plain (mapL ev xs)) (runV P (Builtin.min_ ts type (mapL ev xs).toArray)) none) ∨ (b = .max ∧ f = fun _ ev => bi (allL plain (mapL ev xs)) (runV P (Builtin.max_ ts type (mapL ev xs).toArray)) none)) := by
  unfold aBuiltin at h
  cases hl : ts.toList with
  | nil => rw [hl] at h; cases h
  | cons t r =>
    rw [hl] at h
    refine ⟨t, r, rfl, ?_⟩
    simp only [aBuiltin1] at h
    split at h <;> (try cases h)
    · exact .inl ⟨rfl, _, rfl, rfl⟩
    · exact .inr (.inl ⟨rfl, _, rfl, rfl⟩)
    · exact .inr (.inr (.inl ⟨rfl, rfl⟩))
    · exact .inr (.inr (.inr ⟨rfl, rfl⟩))
    · rw [bi_eq] at h; split at h <;> cases h
theorem first_of {ts : Array TypeId} {t : TypeId} {r : List TypeId} (h : ts.toList = t :: r) : ts[0]? = some t := by
  rw [← Array.getElem?_toList, h]; rfl
/-- Any operation that only looks. -/
theorem look_sound (hS : Sim P ρ S W) {o : Oper} {f : St → (Operand → Value) → Option Value} {ev ev' : Operand → Value} {v : Value} (ha : actOf P o = .look f) (hf : f S ev = some v) (hev : ∀ x ∈ o.op.operands, VR ρ (ev x) (ev' x)) :
    LookR P ρ S W v (execOp ev' o) := by
  obtain ⟨dst, op, type, p, after, guard⟩ := o
  have pure1 : ∀ {s : Sem Value}, (∃ v', s.run P W = .ok v' W ∧ VR ρ v v') → LookR P ρ S W v (s >>= fun x => (pure (.value x) : Sem Next)) := fun ⟨v', h1, h2⟩ => .of hS h1 h2
  cases op <;> simp only [actOf] at ha <;> (try cases ha)
  case move x =>
    cases hf
    exact ⟨ev' x, W, rfl, hev x (by simp [Op.operands]), hS, .refl _ _ _⟩
  case assign x =>
    cases hf
    exact ⟨ev' x, W, rfl, hev x (by simp [Op.operands]), hS, .refl _ _ _⟩
  case pick c a b =>
    obtain ⟨v', h1, h2⟩ := pick_sound hf (hev c (by simp [Op.operands])) (hev a (by simp [Op.operands])) (hev b (by simp [Op.operands])) W
    exact ⟨v', W, h1, h2, hS, .refl _ _ _⟩
  case build t parts =>
    have hr : PtR ρ (evParts ev parts.toList) (parts.toList.map fun p => (p.1, ev' p.2)) := parts_rel fun p hp => hev p.2 (by simp only [Op.operands]; simp; exact ⟨p.1, by simpa using hp⟩)
    obtain ⟨v', h1, h2⟩ := build_sound hf hr W
    have e : (parts.toList.map fun p => (p.1, ev' p.2)).toArray = parts.map fun (i, x) => (i, ev' x) := by
      apply Array.toList_inj.1; simp
    rw [e] at h1
    exact pure1 ⟨v', h1, h2⟩
  case load t a =>
    obtain ⟨x, hx, h1⟩ := onPtr_some hf
    have := hev a (by simp [Op.operands])
    rw [hx] at this
    obtain ⟨b, hb, hab⟩ := this.pointer
    obtain ⟨v', h2, h3⟩ := loadV_sound hS hab h1
    refine pure1 (s := Instr.loadAt t (ev' a)) ⟨v', ?_, h3⟩
    rw [hb]
    simp only [Instr.loadAt, Instr.sureAddr, Sem.run_bind, Sem.run_pure, Result.andThen_ok]
    exact h2
  case nilCheck x =>
    obtain ⟨h1, h2⟩ := nil_sound hf (hev x (by simp [Op.operands]))
    subst h1
    refine ⟨ev' x, W, ?_, hev x (by simp [Op.operands]), hS, .refl _ _ _⟩
    simp only [execOp]
    rcases h2 with ⟨b, h2⟩ | ⟨g, a, c, h2⟩ | ⟨l, a, c, h2⟩ <;> rw [h2] <;> rfl
  case binOp op t x y yt =>
    obtain ⟨h1, h2⟩ := bin_sound hS hf (hev x (by simp [Op.operands])) (hev y (by simp [Op.operands]))
    exact pure1 ⟨v, h1, plain_flat h2⟩
  case unOp op t x =>
    obtain ⟨h1, h2⟩ := un_sound hf (hev x (by simp [Op.operands])) W
    exact pure1 (s := Op.unary op (ev' x)) ⟨v, h1, plain_flat h2⟩
  case convert src dst x =>
    have hc : (∀ e, cvOf P src dst ≠ .bytes e) ∧ f = fun S ev => rConv P S src dst (cvOf P src dst) (ev x) := by
      cases hcv : cvOf P src dst <;> simp only [hcv, convAct] at ha <;> cases ha <;> exact ⟨fun e h => (nomatch h), rfl⟩
    obtain ⟨hc1, rfl⟩ := hc
    obtain ⟨v', W', h1, h2, h3, h4⟩ := conv_sound hS hc1 hf (hev x (by simp [Op.operands]))
    exact ⟨v', W', run_v h1, h2, h3, h4⟩
  case makeInterface t x => exact pure1 (iface_sound hf (hev x (by simp [Op.operands])) W)
  case makeFunc fn first cap =>
    cases fn with
    | func g =>
      cases ha
      cases hf
      refine pure1 (s := Instr.makeFunc (.func g) (first.map ev') (cap.map ev')) ⟨_, rfl, ?_⟩
      have h1 : LR ρ (mapL ev first.toList) (first.map ev').toList := by
        have := mapL_rel (ρ := ρ) (ev := ev) (ev' := ev') (l := first.toList) fun x hx => hev x (by simp [Op.operands]; exact .inl (by simpa using hx))
        simpa using this
      have h2 : LR ρ (mapL ev cap.toList) (cap.map ev').toList := by
        have := mapL_rel (ρ := ρ) (ev := ev) (ev' := ev') (l := cap.toList) fun x hx => hev x (by simp [Op.operands]; exact .inr (by simpa using hx))
        simpa using this
      have q1 := LR.arr (a := (mapL ev first.toList).toArray) (b := first.map ev') (by simpa using h1)
      have q2 := LR.arr (a := (mapL ev cap.toList).toArray) (b := cap.map ev') (by simpa using h2)
      exact .func rfl q1.1 q1.2 q2.1 q2.2
    | _ => cases ha
  case defer c => cases hc : c.callee <;> simp only [hc] at ha <;> cases ha
  case slice t x lo hi mx => exact pure1 (slice_sound hS hf (hev x (by simp [Op.operands])) (optE_rel fun y hy => hev y (by simp [Op.operands]; simp_all)) (optE_rel fun y hy => hev y (by simp [Op.operands]; simp_all)) (optE_rel fun y hy => hev y (by simp [Op.operands]; simp_all)))
  case fieldAddr s x i => exact pure1 (fieldAddr_sound hf (hev x (by simp [Op.operands])) W)
  case field t x i => exact pure1 (field_sound hf (hev x (by simp [Op.operands])) W)
  case indexAddr t x i => exact pure1 (indexAddr_sound hf (hev x (by simp [Op.operands])) (hev i (by simp [Op.operands])) W)
  case index t x i => exact pure1 (index_sound hf (hev x (by simp [Op.operands])) (hev i (by simp [Op.operands])) W)
  case lookup t m k ok => exact pure1 (lookup_sound hS hf (hev m (by simp [Op.operands])) (hev k (by simp [Op.operands])))
  case extract t ix => exact pure1 (extract_sound hf (hev t (by simp [Op.operands])) W)
  case call c =>
    cases hc : c.callee with
    | value g => simp only [callAct, hc] at ha; cases ha
    | invoke _ _ => simp only [callAct, hc] at ha; cases ha
    | builtin b =>
      simp only [callAct, hc] at ha
      have hops : ∀ x ∈ c.args.toList, VR ρ (ev x) (ev' x) := fun x hx => hev x (by simp only [Op.operands, Call.operands, hc]; simpa using hx)
      have hrun := builtin_run (P := P) (ev := ev') (o := ⟨dst, .call c, type, p, after, guard⟩) rfl hc W
      obtain ⟨t, r, hts, h⟩ := aBuiltin_look ha
      have fin : ∀ {s : Sem Value}, (builtin b c.argTypes type (c.args.map fun | .const _ => true | _ => false) (c.args.map ev')) = (s >>= fun x => (pure (.value x) : Sem Next)) → (∃ v', s.run P W = .ok v' W ∧ VR ρ v v') → LookR P ρ S W v (execOp ev' ⟨dst, .call c, type, p, after, guard⟩) := by
        intro s hs ⟨v', h1, h2⟩
        exact ⟨v', W, hrun.trans (by rw [hs]; exact run_v h1), h2, hS, .refl _ _ _⟩
      rcases h with ⟨rfl, x, hxs, rfl⟩ | ⟨rfl, x, hxs, rfl⟩ | ⟨rfl, rfl⟩ | ⟨rfl, rfl⟩
      · have ha1 : c.args.map ev' = #[ev' x] := by apply Array.toList_inj.1; simp [hxs]
        refine fin (s := Builtin.len_ c.argTypes type #[ev' x]) (by rw [ha1]; rfl) ?_
        exact len_sound hS (first_of hts) hf (hops x (by simp [hxs]))
      · have ha1 : c.args.map ev' = #[ev' x] := by apply Array.toList_inj.1; simp [hxs]
        refine fin (s := Builtin.cap_ c.argTypes type #[ev' x]) (by rw [ha1]; rfl) ?_
        exact cap_sound (first_of hts) hf (hops x (by simp [hxs])) W
      · obtain ⟨g1, g2⟩ := bi_some hf
        have hl := plain_list g1 (mapL_rel hops)
        refine fin (s := Builtin.min_ c.argTypes type (c.args.map ev')) rfl ⟨v, ?_, plain_flat (runV_some g2).2⟩
        have e : c.args.map ev' = (mapL ev c.args.toList).toArray := by apply Array.toList_inj.1; simp [hl]
        rw [e]
        exact runV_run g2 W
      · obtain ⟨g1, g2⟩ := bi_some hf
        have hl := plain_list g1 (mapL_rel hops)
        refine fin (s := Builtin.max_ c.argTypes type (c.args.map ev')) rfl ⟨v, ?_, plain_flat (runV_some g2).2⟩
        have e : c.args.map ev' = (mapL ev c.args.toList).toArray := by apply Array.toList_inj.1; simp [hl]
        rw [e]
        exact runV_run g2 W
end
end Go.Proofs.YtnfclcfcpgfajaaGreatDoor.Ev

/- Operations that make a block. -/
namespace Go.Proofs.YtnfclcfcpgfajaaGreatDoor.Ev
open Go Go.RowKit
section
variable {P : Program} {ρ : Ro} {S : St} {W : World}

theorem St.new_h (S : St) (o : Ob) (b : Nat) : (S.new o).h.get b = if b = S.nx then some o else S.h.get b := by cases S; exact Tr.get_put _ _ _ _
theorem St.new_nx (S : St) (o : Ob) : (S.new o).nx = S.nx + 1 := by cases S; rfl
theorem St.new_fam (S : St) (o : Ob) : (S.new o).fam = S.fam ∧ (S.new o).nf = S.nf := by cases S; exact ⟨rfl, rfl⟩
theorem St.set_h (S : St) (k : Nat) (o : Ob) (b : Nat) : (S.set k o).h.get b = if b = k then some o else S.h.get b := by cases S; exact Tr.get_put _ _ _ _
theorem St.set_nx (S : St) (k : Nat) (o : Ob) : (S.set k o).nx = S.nx := by cases S; rfl
theorem St.set_fam (S : St) (k : Nat) (o : Ob) : (S.set k o).fam = S.fam ∧ (S.set k o).nf = S.nf := by cases S; exact ⟨rfl, rfl⟩
/-- A block of its own. -/
def alone : Ob → Prop
  | .row _ _ f _ => f = 0
  | _ => True
/-- A block more, that is nowhere yet. -/
theorem Sim.new_ (hS : Sim P ρ S W) {o : Ob} (ho : alone o) : Sim P ρ (S.new o) W where
  low := fun b B sh h => ⟨by rw [St.new_nx]; have := (hS.low b B sh h).1; omega, (hS.low b B sh h).2⟩
  new := fun b o' h => by
    rw [St.new_h] at h
    rw [St.new_nx]
    by_cases hb : b = S.nx
    · omega
    · rw [if_neg hb] at h; have := hS.new b o' h; omega
  ob := fun b o' B sh h k => by
    have := (hS.low b B sh k).1
    rw [St.new_h, if_neg (by omega)] at h
    exact hS.ob b o' B sh h k
  fam := fun b b' o1 o2 B sh sh' hne h1 h2 k1 k2 => by
    have := (hS.low b B sh k1).1
    have := (hS.low b' B sh' k2).1
    rw [St.new_h, if_neg (by omega)] at h1 h2
    exact hS.fam b b' o1 o2 B sh sh' hne h1 h2 k1 k2
  mem := fun b cs ty f base h hf => by
    rw [St.new_h] at h
    rw [(St.new_fam S o).1, (St.new_fam S o).2]
    by_cases hb : b = S.nx
    · rw [if_pos hb] at h
      cases h
      exact absurd ho hf
    · rw [if_neg hb] at h
      exact hS.mem b cs ty f base h hf
  base := hS.base
  glob := hS.glob
  nf := by rw [(St.new_fam S o).2]; exact hS.nf
  nx := by rw [St.new_nx]; have := hS.nx; omega
/-- A block is placed. -/
def Ro.place (ρ : Ro) (u B sz ez : Nat) : Ro := ⟨fun k => if k = u then some (B, 0) else ρ.at_ k, fun k => if k = B then sz else ρ.room k, fun k => if k = B then ez else ρ.esz k⟩
theorem Ro.place_at (ρ : Ro) (u B sz ez : Nat) : (ρ.place u B sz ez).at_ u = some (B, 0) := by simp [Ro.place]
theorem place_le (hS : Sim P ρ S W) {u sz ez : Nat} (hu : ρ.at_ u = none) : ρ.Le (ρ.place u W.heap.size sz ez) :=
  ⟨fun b B sh h => by
    have : b ≠ u := fun e => by rw [e, hu] at h; cases h
    simp [Ro.place, this, h], fun b B sh h => by
    have := (hS.low b B sh h).2
    have hne : B ≠ W.heap.size := by omega
    simp [Ro.place, hne]⟩
theorem Sim.place (hS : Sim P ρ S W) {u sz ez : Nat} {o : Ob} {x : Obj} {W' : World} (ho : S.h.get u = some o) (hu : ρ.at_ u = none) (hl : lowB ≤ u) (hh : W'.heap = W.heap.push x) (h1 : W'.os = W.os) (h2 : W'.tape = W.tape) (h3 : W'.output = W.output)
    (hx : ObR P (ρ.place u W.heap.size sz ez) o W.heap.size 0 x) : Sim P (ρ.place u W.heap.size sz ez) S W' ∧ Ext u ρ W (ρ.place u W.heap.size sz ez) W' := by
  have hle := place_le hS (sz := sz) (ez := ez) hu
  have hat : ∀ b B sh, (ρ.place u W.heap.size sz ez).at_ b = some (B, sh) → (b = u ∧ B = W.heap.size ∧ sh = 0) ∨ (b ≠ u ∧ ρ.at_ b = some (B, sh)) := fun b B sh h => by
    by_cases hb : b = u
    · subst hb
      rw [Ro.place_at] at h
      simp only [Option.some.injEq, Prod.mk.injEq] at h
      exact .inl ⟨rfl, h.1.symm, h.2.symm⟩
    · simp only [Ro.place, hb, if_false] at h
      exact .inr ⟨hb, h⟩
  have hold : ∀ B, B < W.heap.size → W'.heap[B]? = W.heap[B]? := fun B hB => by rw [hh, Array.getElem?_push, if_neg (by omega)]
  have hsz : W'.heap.size = W.heap.size + 1 := by rw [hh]; simp
  refine ⟨⟨fun b B sh h => ?_, hS.new, fun b o' B sh h k => ?_, fun b b' o1 o2 B sh sh' hne g1 g2 k1 k2 => ?_, hS.mem, fun b b' B sh sh' hb hb' k1 k2 => ?_, trivial, hS.nf, hS.nx⟩,
    ⟨hle, fun b h k => ?_, by omega, fun B hB _ => hold B hB, fun b B sh h k => ?_, h1, h2, h3⟩⟩
  · rcases hat b B sh h with ⟨rfl, rfl, _⟩ | ⟨_, h⟩
    · exact ⟨hS.new b o ho, by omega⟩
    · have := hS.low b B sh h; exact ⟨this.1, by omega⟩
  · rcases hat b B sh k with ⟨rfl, rfl, rfl⟩ | ⟨_, k'⟩
    · rw [ho] at h
      cases h
      exact ⟨x, by rw [hh]; simp, hx⟩
    · obtain ⟨y, hy, hR⟩ := hS.ob b o' B sh h k'
      have := (hS.low b B sh k').2
      exact ⟨y, by rw [hold B this]; exact hy, hR.le hle k'⟩
  · rcases hat b B sh k1 with ⟨rfl, rfl, rfl⟩ | ⟨_, k1'⟩ <;> rcases hat b' _ sh' k2 with ⟨e, e2, e3⟩ | ⟨_, k2'⟩
    · exact absurd e.symm hne
    · have := (hS.low _ _ _ k2').2; omega
    · have := (hS.low _ _ _ k1').2; omega
    · exact hS.fam b b' o1 o2 B sh sh' hne g1 g2 k1' k2'
  · rcases hat b B sh k1 with ⟨rfl, rfl, rfl⟩ | ⟨_, k1'⟩ <;> rcases hat b' _ sh' k2 with ⟨e, e2, e3⟩ | ⟨_, k2'⟩
    · omega
    · omega
    · have := (hS.low _ _ _ k1').2; omega
    · exact hS.base b b' B sh sh' hb hb' k1' k2'
  · by_cases hb : b = u
    · omega
    · simp only [Ro.place, hb, if_false] at k
      exact absurd h k
  · rcases hat b B sh h with ⟨rfl, rfl, rfl⟩ | ⟨_, h'⟩
    · exact ⟨hl, .inl (Nat.le_refl _)⟩
    · rw [k] at h'; cases h'
/-- A row of cells. -/
theorem row_ob {σ : Ro} {cs : List Value} {ty B : TypeId} {c : Array Value} {e : TypeId} {fz : Nat × Nat} {n : Nat} (hl : ∀ (i : Nat) (v w : Value), cs[i]? = some v → c[i]? = some w → VR σ v w) (hlen : cs.length ≤ c.size) (hr : σ.room B = c.size) (hs : sizeT P ty = some n) (he : σ.esz B = n)
    (hz : fz.1 = fz.2 ∨ c.size ≤ fz.1) (hu : isU8T (ti P ty) = false → fz.1 = fz.2) : ObR P σ (.row cs ty 0 0) B 0 (.cells c e fz) :=
  ⟨c, e, fz, rfl, hr.symm, by rw [he]; exact hs, by simpa using hlen, hz, hu, fun i v w h1 h2 => hl i v w h1 (by simpa using h2)⟩
end
end Go.Proofs.YtnfclcfcpgfajaaGreatDoor.Ev

/- What operations do that make a block. -/
namespace Go.Proofs.YtnfclcfcpgfajaaGreatDoor.Ev
open Go Go.RowKit
section
variable {P : Program} {ρ : Ro} {S : St} {W : World}

/-- What a making operation does: its block is number u, that is told of and is nowhere yet. -/
def MakeR (P : Program) (ρ : Ro) (S : St) (W : World) (u : Nat) (v : Value) (s : Sem Next) : Prop := ∃ v' W' σ, s.run P W = .ok (.value v') W' ∧ VR σ v v' ∧ Sim P σ S W' ∧ Ext u ρ W σ W' ∧ σ.at_ u ≠ none ∧ (∀ b, b ≠ u → σ.at_ b = ρ.at_ b)
theorem MakeR.of (hS : Sim P ρ S W) {u sz ez : Nat} {o : Ob} {x : Obj} {W' : World} {v v' : Value} {s : Sem Value} (hu : ρ.at_ u = none) (hl : lowB ≤ u) (ho : S.h.get u = some o) (hrun : s.run P W = .ok v' W') (hh : W'.heap = W.heap.push x) (h1 : W'.os = W.os) (h2 : W'.tape = W.tape)
    (h3 : W'.output = W.output) (hx : ObR P (ρ.place u W.heap.size sz ez) o W.heap.size 0 x) (hv : VR (ρ.place u W.heap.size sz ez) v v') : MakeR P ρ S W u v (s >>= fun x => (pure (.value x) : Sem Next)) := by
  obtain ⟨q1, q2⟩ := hS.place ho hu hl hh h1 h2 h3 hx
  refine ⟨v', W', _, run_v hrun, hv, q1, q2, by rw [Ro.place_at]; simp, fun b hb => by simp [Ro.place, hb]⟩
theorem nRow_some {e : TypeId} {mk : Nat → Value} {o : Option (List Value)} {b : Ob} {mk' : Nat → Value} (h : nRow e mk o = some (b, mk')) : ∃ cs, o = some cs ∧ b = .row cs e 0 0 ∧ mk' = mk := by
  cases o with
  | none => cases h
  | some cs => cases h; exact ⟨cs, rfl, rfl, rfl⟩
theorem place_ar (ρ : Ro) (u B sz ez : Nat) : AR (ρ.place u B sz ez) ⟨u, 0, none⟩ ⟨B, 0, none⟩ := ⟨rfl, 0, Ro.place_at _ _ _ _ _, rfl⟩
theorem place_room (ρ : Ro) (u B sz ez : Nat) : (ρ.place u B sz ez).room B = sz ∧ (ρ.place u B sz ez).esz B = ez := by simp [Ro.place]
theorem info_size {e : TypeId} {i : TypeInfo} (h : P.info? e = some i) : sizeT P e = some i.size := by simp [sizeT, h]
/-- The zeros of a row. -/
theorem zeros_rel {zv : Value} (n m : Nat) (hm : m = n * zv.cells.size) : ((Array.range m).map (zv.cells[· % zv.cells.size]!)).toList = repL n zv.cells.toList := by
  apply List.ext_getElem?
  intro i
  by_cases hi : i < n * zv.cells.size
  · rw [repL_get n _ i (by simpa using hi)]
    have hpos : 0 < zv.cells.size := by
      rcases Nat.eq_zero_or_pos zv.cells.size with h | h
      · rw [h] at hi; simp at hi
      · exact h
    have hlt : i % zv.cells.size < zv.cells.size := Nat.mod_lt _ hpos
    subst hm
    simp [hi, hlt]
  · have h1 : (repL n zv.cells.toList).length ≤ i := by rw [repL_length]; simp; omega
    rw [List.getElem?_eq_none_iff.2 h1, List.getElem?_eq_none_iff]
    subst hm
    simp
    omega
theorem zLO_some {o : Option TypeId} {z : List Value} (h : zLO P o = some z) : ∃ e, o = some e ∧ zeroL P e = some z := by
  cases o with
  | none => cases h
  | some e => exact ⟨e, rfl, h⟩
theorem nSlice_some {e : Option TypeId} {es : Option Nat} {len : Nat} {z : Option (List Value)} {parts : List (Nat × Value)} {b : Ob} {mk : Nat → Value} (h : nSlice e es len z parts = some (b, mk)) :
    ∃ e' n z' cs, e = some e' ∧ es = some n ∧ z = some z' ∧ len ≤ 1000000 ∧ len * n ≤ 1000000 ∧ fillL (fun k => some (Nat.mul k n, n)) parts (repL len z') = some cs ∧ b = .row cs e' 0 0 ∧ mk = nSl len len := by
  cases e <;> cases es <;> cases z <;> (try cases h)
  rename_i e n z
  obtain ⟨g1, g2⟩ := bi_some (show bi (nb (Nat.ble len 1000000) (Nat.ble (len * n) 1000000)) (nRow e (nSl len len) (fillL (fun k => some (Nat.mul k n, n)) parts (repL len z))) none = some (b, mk) from h)
  obtain ⟨g3, g4⟩ := nb_t g1
  obtain ⟨cs, g5, g6, g7⟩ := nRow_some g2
  exact ⟨e, n, z, cs, rfl, rfl, rfl, ble_t g3, ble_t g4, g5, g6, g7⟩
/-- Is a type's zero as long as the type? -/
theorem run_zero {e : TypeId} {i : TypeInfo} {z : Value} (h : P.info? e = some i) (hz : i.zero = some z) (w : World) : (zeroValue e).run P w = .ok z w := by simp [zeroValue, run_info h, hz]
theorem plain1_cells {v : Value} (h : plain v = true) (ht : ∀ vs, v ≠ .tuple vs) : v.cells.toList.all plain1 = true := by
  cases v with
  | agg cs => rw [← allL_eq]; exact h
  | tuple vs => exact absurd rfl (ht vs)
  | _ => show [_].all plain1 = true; simp only [List.all_cons, List.all_nil, Bool.and_true]; exact h
theorem rep_flat {z : List Value} (h : z.all plain1 = true) : ∀ n, (repL n z).all plain1 = true
  | 0 => rfl
  | n + 1 => by rw [repL_succ, List.all_append, h, rep_flat h n]; rfl
theorem rep_rel {z m : List Value} (h : LR ρ z m) : ∀ n, LR ρ (repL n z) (repL n m)
  | 0 => LR.nil
  | n + 1 => by rw [repL_succ, repL_succ]; exact h.append (rep_rel h n)
/-- What is asked of the types: a zero is as long as its type. -/
def ZeroOk (P : Program) : Prop := ∀ t z, zeroL P t = some z → sizeT P t = some z.length
theorem bytesOk_some {e : TypeId} (h : bytesOk P (some e) = true) : ∃ i, P.info? e = some i ∧ i.bytes ≤ 1000000 := by
  simp only [bytesOk] at h
  cases hi : P.info? e with
  | none => simp only [hi] at h; cases h
  | some i => simp only [hi] at h; exact ⟨i, rfl, ble_t h⟩
section make
variable (hS : Sim P ρ S W) {u : Nat} {b : Ob} (hz : ZeroOk P) (hu : ρ.at_ u = none) (hl : lowB ≤ u) (ho : S.h.get u = some b)
include hS hu hl ho
theorem make_alloc {e : TypeId} {mk : Nat → Value} (hz : ZeroOk P) (hf : nRow e nPtr (zeroL P e) = some (b, mk)) : MakeR P ρ S W u (mk u) (Instr.alloc e true (.tuple #[]) >>= fun x => (pure (.value x) : Sem Next)) := by
  obtain ⟨cs, h1, rfl, rfl⟩ := nRow_some hf
  obtain ⟨zv, i, z1, _, z3, z4, z5, z6⟩ := zeroL_some (ρ := ρ) h1
  have hs := hz e cs h1
  refine MakeR.of (x := .cells zv.cells e) (W' := W.alloc (.cells zv.cells e)) (sz := zv.cells.size) (ez := cs.length) hS hu hl ho ?_ rfl rfl rfl rfl ?_ (.ptr (place_ar _ _ _ _ _))
  · simp [Instr.alloc, run_zero z3 z4, newVar, newRow]
  · refine row_ob (n := cs.length) (fz := (0, 0)) (fun j v w g1 g2 => ?_) (by rw [z6]; simp) (place_room _ _ _ _ _).1 hs (place_room _ _ _ _ _).2 (.inl rfl) (fun _ => rfl)
    exact (z5.2 j v w g1 (by simpa using g2)).le (place_le hS hu)
theorem make_box {e : TypeId} {x x' : Value} {mk : Nat → Value} (hf : nBox e (sizeT P e) x = some (b, mk)) (hx : VR ρ x x') : MakeR P ρ S W u (mk u) (Instr.box e x' >>= fun x => (pure (.value x) : Sem Next)) := by
  simp only [nBox] at hf
  cases hs : sizeT P e with
  | none => simp only [hs] at hf; cases hf
  | some n =>
    simp only [hs] at hf
    obtain ⟨g1, g2⟩ := bi_some hf
    cases g2
    obtain ⟨g3, g4⟩ := ofSize_t g1
    have hc := cells_sound hx g3
    refine MakeR.of (x := .cells x'.cells e) (W' := W.alloc (.cells x'.cells e)) (sz := x'.cells.size) (ez := n) hS hu hl ho ?_ rfl rfl rfl rfl ?_ (.ptr (place_ar _ _ _ _ _))
    · simp [Instr.box, newVar, newRow]
    · refine row_ob (n := n) (fz := (0, 0)) (fun j v w h1 h2 => ?_) (by rw [hc.1]; simp) (place_room _ _ _ _ _).1 hs (place_room _ _ _ _ _).2 (.inl rfl) (fun _ => rfl)
      exact (hc.2 j v w h1 (by simpa using h2)).le (place_le hS hu)
theorem make_slice {t : TypeId} {len : Nat} {l m : List (Nat × Value)} {mk : Nat → Value} (hz : ZeroOk P) (hf : nSlice (elemSl (ti P t)) (sizeO P (elemSl (ti P t))) len (zLO P (elemSl (ti P t))) l = some (b, mk)) (hr : PtR ρ l m) :
    MakeR P ρ S W u (mk u) (Instr.buildSlice t len m.toArray >>= fun x => (pure (.value x) : Sem Next)) := by
  obtain ⟨e, n, z, cs, q1, q2, q3, q4, q5, q6, rfl, rfl⟩ := nSlice_some hf
  obtain ⟨e', r1, r2⟩ := sizeO_some q2
  rw [q1] at r1
  cases r1
  obtain ⟨e', r3, r4⟩ := zLO_some q3
  rw [q1] at r3
  cases r3
  have hus := elemSl_some q1
  obtain ⟨zv, i, z1, _, z3, z4, z5, z6⟩ := zeroL_some (ρ := ρ) r4
  have hs := hz e z r4
  rw [r2] at hs
  have hn : n = zv.cells.size := by rw [z6] at hs; simpa using hs
  have hzr : LR ρ (repL len z) ((Array.range (len * n)).map (zv.cells[· % zv.cells.size]!)).toList := by
    rw [zeros_rel len (len * n) (by rw [hn])]
    exact rep_rel z5 len
  obtain ⟨c2, f1, f2, f3⟩ := fill_sound (pl' := fun i => some (i * n, n)) (fun i p hip => by cases hip; rfl) q6 hr hzr
  have hrun : (Instr.buildSlice t len m.toArray).run P W = .ok (.slice (some ⟨W.heap.size, 0, none⟩) len len) (W.alloc (.cells c2 e)) := by
    have hsm : ¬ len * n > 16777216 := by omega
    by_cases h0 : len * n = 0
    · have er : ∀ g : Nat → Value, (Array.range (len * n)).map g = #[] := fun g => by rw [h0]; exact Array.eq_empty_of_size_eq_zero (by simp)
      rw [er] at f1
      have er0 : ∀ g : Nat → Value, (Array.range 0).map g = #[] := fun g => Array.eq_empty_of_size_eq_zero (by simp)
      simp [Instr.buildSlice, run_underlying hus, run_size r2, h0, er0, f1, newRow]
    · simp [Instr.buildSlice, run_underlying hus, run_size r2, h0, hsm, run_zero z3 z4, f1, newRow]
  refine MakeR.of (x := .cells c2 e) (W' := W.alloc (.cells c2 e)) (sz := c2.size) (ez := n) (v := nSl len len u) hS hu hl ho hrun rfl rfl rfl rfl ?_ (.slice (place_ar _ _ _ _ _) (by show len < 4611686018427387904; omega))
  refine row_ob (n := n) (fz := (0, 0)) (fun j v w h1 h2 => ?_) (by rw [f2.1]; simp) (place_room _ _ _ _ _).1 r2 (place_room _ _ _ _ _).2 (.inl rfl) (fun _ => rfl)
  exact (f2.2 j v w h1 (by simpa using h2)).le (place_le hS hu)
theorem make_bytes {src dst e : TypeId} {x x' : Value} {mk : Nat → Value} (hcv : cvOf P src dst = .bytes e) (hf : nBytes e x = some (b, mk)) (hx : VR ρ x x') : MakeR P ρ S W u (mk u) (convert src dst x' >>= fun x => (pure (.value x) : Sem Next)) := by
  cases x with
  | string s =>
    obtain ⟨g1, g2⟩ := bi_some (show bi (Nat.ble (lenV s.data.toList) 100000) (some (Ob.row (bytesL s.data.toList) e 0 0, nSl (lenV s.data.toList) U)) none = some (b, mk) from hf)
    cases g2
    have hsz := ble_t g1
    have hx' := hx.str
    subst hx'
    rw [lenV_eq] at hsz ⊢
    have hss : s.data.toList.length = s.size := rfl
    rw [hss] at hsz ⊢
    -- the types
    have hty : P.underlying src = some .string ∧ P.underlying dst = some (.slice e) ∧ P.underlying e = some (.int .u8) ∧ sizeT P e = some 1 := by
      unfold cvOf at hcv
      cases h1 : elemSl (ti P src) with
      | none =>
        cases h2 : elemSl (ti P dst) with
        | none =>
          simp only [h1, h2] at hcv
          cases h3 : ti P src <;> cases h4 : intK (ti P dst) <;> simp only [h3, h4] at hcv <;> cases hcv
        | some e2 =>
          simp only [h1, h2] at hcv
          cases h3 : nb (isStrT (ti P src)) (isU8T (ti P e2)) with
          | false => rw [h3] at hcv; cases hcv
          | true =>
            rw [h3] at hcv
            cases hcv
            obtain ⟨q1, q2⟩ := nb_t h3
            exact ⟨isStrT_some q1, elemSl_some h2, isU8T_some q2⟩
      | some e1 =>
        cases h2 : elemSl (ti P dst) with
        | none =>
          simp only [h1, h2] at hcv
          cases h3 : nb (isStrT (ti P dst)) (isU8T (ti P e1)) <;> rw [h3] at hcv <;> cases hcv
        | some e2 =>
          simp only [h1, h2] at hcv
          cases h3 : nb (Nat.beq src dst) (isU8T (ti P e1)) <;> rw [h3] at hcv <;> cases hcv
    obtain ⟨t1, t2, t3, t4⟩ := hty
    obtain ⟨cap, hcap⟩ : ∃ cap, s.size + W.tape W.drawn (.appendCap s.size 0 e) % (2 ^ 63 - s.size) = cap := ⟨_, rfl⟩
    have hle : s.size ≤ cap := by omega
    obtain ⟨c, hc⟩ : ∃ c : Array Value, (s.data.map fun b => Value.int .u8 b.toNat) ++ Array.replicate (cap - s.size) (.int .u8 0) = c := ⟨_, rfl⟩
    have hcsz : c.size = cap := by
      rw [← hc]
      have : s.data.size = s.size := rfl
      simp [this]
      omega
    have hcget : ∀ (i : Nat) (v : Value), (bytesL s.data.toList)[i]? = some v → c[i]? = some v := fun i v hv => by
      rw [bytesL_eq] at hv
      have hi : i < s.data.size := by
        have := (List.getElem?_eq_some_iff.1 hv).1
        simpa using this
      rw [← hc, Array.getElem?_append_left (by simpa using hi)]
      simpa using hv
    have hheap : (((W.drew).alloc (.cells c e)).freeze ⟨W.heap.size, cap, none⟩ 1).heap = W.heap.push (.cells c e (cap, cap + 1)) := by
      apply Array.ext_getElem?
      intro k
      simp only [World.freeze, Nat.one_ne_zero, if_false, Array.getElem?_modify]
      have e1 : (W.drew.alloc (.cells c e)).heap = W.heap.push (.cells c e) := rfl
      rw [e1, Array.getElem?_push, Array.getElem?_push]
      by_cases hk : W.heap.size = k
      · rw [if_pos hk, if_pos hk.symm, if_pos hk.symm]; rfl
      · rw [if_neg hk, if_neg (fun q => hk q.symm), if_neg (fun q => hk q.symm)]
    have hrun : (convert src dst (.string s)).run P W = .ok (.slice (some ⟨W.heap.size, 0, none⟩) s.size cap) (((W.drew).alloc (.cells c e)).freeze ⟨W.heap.size, cap, none⟩ 1) := by
      have h1 : (convert src dst (.string s)).run P W = (Conv.stringToBytes e s).run P W := by simp [convert, run_underlying t1, run_underlying t2, run_underlying t3]
      rw [h1]
      have hsh : ((W.drew).alloc (.cells c e)).shape? W.heap.size = some (e, cap) := by
        have e1 : (W.drew.alloc (.cells c e)).heap = W.heap.push (.cells c e) := rfl
        simp only [World.shape?, e1, Array.getElem?_push_size, hcsz]
      have hch : (choose (.appendCap s.size 0 e)).run P W = .ok cap W.drew := by
        rw [run_choose]
        simp only [Question.forced, Question.cut, hcap]
        rfl
      have hnew : (newRow e c).run P W.drew = .ok ⟨W.heap.size, 0, none⟩ (W.drew.alloc (.cells c e)) := by
        simp only [newRow, Sem.run_bind, run_newObj, Result.andThen_ok, Sem.run_pure]
        rfl
      have hms : (markStringish ⟨W.heap.size, 0, none⟩).run P (W.drew.alloc (.cells c e)) = .ok () ((W.drew.alloc (.cells c e)).freeze ⟨W.heap.size, cap, none⟩ 1) := by
        simp only [markStringish, Sem.run_bind, run_shape, hsh, Result.andThen_ok, run_freeze]
      simp only [Conv.stringToBytes, Sem.run_bind, hch, Result.andThen_ok, hc, hnew, hms, Sem.run_pure]
    refine MakeR.of (x := .cells c e (cap, cap + 1)) (sz := cap) (ez := 1) (v := nSl s.size U u) hS hu hl ho hrun hheap rfl rfl rfl ?_ ?_
    · refine row_ob (n := 1) (fz := (cap, cap + 1)) (fun j v w h1 h2 => ?_) ?_ ?_ t4 (place_room _ _ _ _ _).2 (.inr ?_) (fun hq => ?_)
      · have := hcget j v h1
        rw [this] at h2
        cases h2
        rw [bytesL_eq] at h1
        obtain ⟨b, _, hb⟩ := List.mem_map.1 (List.mem_of_getElem? h1)
        rw [← hb]
        exact .flat rfl
      · rw [bytesL_eq, hcsz]; simp; exact hle
      · rw [hcsz]; exact (place_room _ _ _ _ _).1
      · rw [hcsz]; exact Nat.le_refl _
      · exfalso
        have : isU8T (ti P e) = true := by
          obtain ⟨i, hi, hi1⟩ := sizeT_some t4
          simp [ti, hi, t3, hi1, isU8T]
        rw [this] at hq
        cases hq
    · refine .sliceU (place_ar _ _ _ _ _) hle (by show s.size < 4611686018427387904; omega) ?_
      rw [(place_room _ _ _ _ _).1, (place_room _ _ _ _ _).2]
      show 0 + cap * 1 ≤ cap
      omega
  | _ => cases hf
theorem make_map {t : TypeId} {r r' : Option Value} {mk : Nat → Value} (hf : nMake (isMapT (ti P t)) r.toList = some (b, mk)) (hr : OR ρ r r') : MakeR P ρ S W u (mk u) (Instr.makeMap t r' >>= fun x => (pure (.value x) : Sem Next)) := by
  have key : b = .map [] 0 → mk = nMap → (Instr.makeMap t r').run P W = .ok (.map (some W.heap.size)) (W.alloc (.map #[] 0)) → MakeR P ρ S W u (mk u) (Instr.makeMap t r' >>= fun x => (pure (.value x) : Sem Next)) := by
    rintro rfl rfl hrun
    refine MakeR.of (x := .map #[] 0) (W' := W.alloc (.map #[] 0)) (sz := 0) (ez := 0) (v := nMap u) hS hu hl ho hrun rfl rfl rfl rfl ⟨rfl, #[], rfl, rfl, fun i e f h => by simp at h⟩ (.map (Ro.place_at _ _ _ _ _))
  rcases hr with ⟨rfl, rfl⟩ | ⟨v, v', rfl, rfl, hv⟩
  · cases hf
    exact key rfl rfl rfl
  · have hf' : (match nat? v with
      | some _ => bi (isMapT (ti P t)) (some (Ob.map [] 0, nMap)) none
      | none => none) = some (b, mk) := hf
    cases hn : nat? v with
    | none => rw [hn] at hf'; cases hf'
    | some n =>
      rw [hn] at hf'
      obtain ⟨g1, g2⟩ := bi_some hf'
      cases g2
      obtain ⟨k, rfl⟩ := nat_some hn
      have hi := hv.int
      subst hi
      obtain ⟨kt, et, hut⟩ := isMapT_some g1
      exact key rfl rfl (by simp [Instr.makeMap, run_underlying hut, asInt, asIntOf])
theorem make_row {t : TypeId} {x y x' y' : Value} {mk : Nat → Value} (hz : ZeroOk P) (hf : nMakeSl (elemSl (ti P t)) (zLO P (elemSl (ti P t))) (bytesOk P (elemSl (ti P t))) (nat? x) (nat? y) = some (b, mk)) (hx : VR ρ x x') (hy : VR ρ y y') :
    MakeR P ρ S W u (mk u) (Instr.makeSlice t x' y' >>= fun x => (pure (.value x) : Sem Next)) := by
  cases q1 : elemSl (ti P t) with
  | none => rw [q1] at hf; cases hf
  | some e =>
    rw [q1] at hf
    cases r4 : zeroL P e with
    | none => simp only [zLO, r4] at hf; cases hf
    | some z =>
      simp only [zLO, r4] at hf
      obtain ⟨l, c, n1, n2, g0⟩ := two_some (show two (fun l c => bi (nb (bytesOk P (some e)) (nb (Nat.ble l c) (Nat.ble c 100000))) (some (Ob.row (repL c z) e 0 0, nSl l c)) none) (nat? x) (nat? y) = some (b, mk) from hf)
      obtain ⟨g1, g2⟩ := bi_some g0
      cases g2
      obtain ⟨g3, g4⟩ := nb_t g1
      obtain ⟨g5, g6⟩ := nb_t g4
      have hlc := ble_t g5
      have hc := ble_t g6
      obtain ⟨kx, rfl⟩ := nat_some n1
      obtain ⟨ky, rfl⟩ := nat_some n2
      have hx' := hx.int
      have hy' := hy.int
      subst hx' hy'
      have hus := elemSl_some q1
      obtain ⟨ie, hie, hby⟩ := bytesOk_some g3
      obtain ⟨zv, i, z1, _, z3, z4, z5, z6⟩ := zeroL_some (ρ := ρ) r4
      rw [hie] at z3
      cases z3
      have hs := hz e z r4
      have hn : z.length = zv.cells.size := by rw [z6]; simp
      have hw : ∀ n : Nat, n ≤ 100000 → IntKind.i64.wrap (Int.ofNat n) = Int.ofNat n := fun n h => by
        rw [← wrapQ_eq]
        show bi (Nat.ble n 9223372036854775807) _ _ = _
        rw [Nat.ble_eq_true_of_le (by omega)]
        rfl
      have hsz : (sizeOf e).run P W = .ok z.length W := run_size hs W
      have hprod : ie.bytes * c ≤ 100000000000 := by
        have := Nat.mul_le_mul hby hc
        omega
      obtain ⟨cells, hcl⟩ : ∃ cells, (Array.range (c * z.length)).map (if c * z.length = 0 then fun _ => default else (zv.cells[· % zv.cells.size]!)) = cells := ⟨_, rfl⟩
      have hcells : LR ρ (repL c z) cells.toList := by
        rw [← hcl]
        by_cases h0 : c * z.length = 0
        · have e1 : repL c z = [] := List.length_eq_zero_iff.1 (by rw [repL_length, h0])
          rw [e1]
          refine ⟨by simp [h0], fun i v w h => by simp at h⟩
        · rw [if_neg h0, zeros_rel c (c * z.length) (by rw [hn])]
          exact rep_rel z5 c
      have hrun : (Instr.makeSlice t (.int kx (Int.ofNat l)) (.int ky (Int.ofNat c))).run P W = .ok (.slice (some ⟨W.heap.size, 0, none⟩) l c) (W.alloc (.cells cells e)) := by
        have h48 : ¬ (281474976710656 : Int) < (ie.bytes : Int) * (c : Int) := by
          have : ((ie.bytes * c : Nat) : Int) ≤ ((100000000000 : Nat) : Int) := Int.ofNat_le.2 hprod
          rw [Int.natCast_mul] at this
          omega
        have hw1 := hw l (by omega)
        have hw2 := hw c hc
        have hlc' : ¬ c < l := by omega
        unfold Instr.makeSlice
        simp only [Sem.run_bind, run_underlying hus, Result.andThen_ok, asInt, asIntOf, Sem.run_pure, run_info hie, hw1, hw2]
        have hcond : ¬ ((decide (Int.ofNat c < 0) || decide ((ie.bytes : Int) * Int.ofNat c > 2 ^ 48) || decide (Int.ofNat l < 0) || decide (Int.ofNat l > Int.ofNat c)) = true) := by
          have q1 : ¬ Int.ofNat c < 0 := by show ¬ ((c : Int) < 0); omega
          have q2 : ¬ (ie.bytes : Int) * Int.ofNat c > 2 ^ 48 := fun h => h48 h
          have q3 : ¬ Int.ofNat l < 0 := by show ¬ ((l : Int) < 0); omega
          have q4 : ¬ Int.ofNat l > Int.ofNat c := by show ¬ ((l : Int) > (c : Int)); omega
          simp only [q1, q2, q3, q4, decide_false, Bool.or_false, Bool.false_eq_true, not_false_iff]
        rw [if_neg hcond]
        have hn0 : (Int.ofNat c).toNat = c := rfl
        have hl0 : (Int.ofNat l).toNat = l := rfl
        simp only [Sem.run_bind, run_askRoom, hsz, Result.andThen_ok, hn0, hl0]
        by_cases h0 : c * z.length = 0
        · rw [if_pos h0] at hcl
          have e1 : ∀ g : Nat → Value, (Array.range (c * z.length)).map g = #[] := fun g => by rw [h0]; exact Array.eq_empty_of_size_eq_zero (by simp)
          rw [e1] at hcl
          subst hcl
          simp only [if_pos h0, Sem.run_bind, Sem.run_pure, Result.andThen_ok, e1]
          rfl
        · rw [if_neg h0] at hcl
          simp only [if_neg h0, Sem.run_bind, Sem.run_pure, Result.andThen_ok, run_zero hie z4, hcl]
          rfl
      refine MakeR.of (x := .cells cells e) (W' := W.alloc (.cells cells e)) (sz := cells.size) (ez := z.length) (v := nSl l c u) hS hu hl ho hrun rfl rfl rfl rfl ?_ (.slice (place_ar _ _ _ _ _) (by show c < 4611686018427387904; omega))
      refine row_ob (n := z.length) (fz := (0, 0)) (fun j v w h1 h2 => ?_) (by rw [hcells.1]; simp) (place_room _ _ _ _ _).1 hs (place_room _ _ _ _ _).2 (.inl rfl) (fun _ => rfl)
      exact (hcells.2 j v w h1 (by simpa using h2)).le (place_le hS hu)
end make
theorem aBuiltin_make {b : Builtin} {ts : Array TypeId} {type : TypeId} {xs : List Operand} {f : (Operand → Value) → Mk} (h : aBuiltin P b ts type xs = .make f) : False := by
  unfold aBuiltin at h
  cases hl : ts.toList with
  | nil => rw [hl] at h; cases h
  | cons t r =>
    rw [hl] at h
    simp only [aBuiltin1] at h
    split at h <;> (try cases h)
    rw [bi_eq] at h
    split at h <;> cases h
/-- Any operation that makes a block. -/
theorem make_sound (hS : Sim P ρ S W) {o : Oper} {f : (Operand → Value) → Mk} {ev ev' : Operand → Value} {b : Ob} {mk : Nat → Value} {u : Nat} (ha : actOf P o = .make f) (hf : f ev = some (b, mk)) (hev : ∀ x ∈ o.op.operands, VR ρ (ev x) (ev' x))
    (hz : ZeroOk P) (hu : ρ.at_ u = none) (hl : lowB ≤ u) (ho : S.h.get u = some b) : MakeR P ρ S W u (mk u) (execOp ev' o) := by
  obtain ⟨dst, op, type, p, after, guard⟩ := o
  cases op <;> simp only [actOf] at ha <;> (try cases ha)
  case alloc e => exact make_alloc hS hu hl ho hz hf
  case box e x => exact make_box hS hu hl ho hf (hev x (by simp [Op.operands]))
  case buildSlice t len parts =>
    have hr : PtR ρ (evParts ev parts.toList) (parts.toList.map fun p => (p.1, ev' p.2)) := parts_rel fun p hp => hev p.2 (by simp only [Op.operands]; simp; exact ⟨p.1, by simpa using hp⟩)
    have := make_slice hS hu hl ho hz hf hr
    have e : (parts.toList.map fun p => (p.1, ev' p.2)).toArray = parts.map fun (i, x) => (i, ev' x) := by
      apply Array.toList_inj.1; simp
    rw [e] at this
    exact this
  case convert src dst x =>
    have hc : ∃ e, cvOf P src dst = .bytes e ∧ f = fun ev => nBytes e (ev x) := by
      cases hcv : cvOf P src dst <;> simp only [hcv, convAct] at ha <;> cases ha
      exact ⟨_, rfl, rfl⟩
    obtain ⟨e, hcv, rfl⟩ := hc
    exact make_bytes hS hu hl ho hcv hf (hev x (by simp [Op.operands]))
  case makeMap t r =>
    have hr : OR ρ (optE ev r) (r.map ev') := optE_rel fun x hx => hev x (by simp [Op.operands]; simp_all)
    exact make_map hS hu hl ho hf hr
  case makeSlice t l c => exact make_row hS hu hl ho hz hf (hev l (by simp [Op.operands])) (hev c (by simp [Op.operands]))
  case makeFunc fn _ _ => cases fn <;> cases ha
  case call c =>
    cases hc : c.callee with
    | value g => simp only [callAct, hc] at ha; cases ha
    | invoke _ _ => simp only [callAct, hc] at ha; cases ha
    | builtin b =>
      simp only [callAct, hc] at ha
      exact (aBuiltin_make ha).elim
  case defer c => cases hc : c.callee <;> simp only [hc] at ha <;> cases ha
end
end Go.Proofs.YtnfclcfcpgfajaaGreatDoor.Ev
