/- A part of the proof that parser laws hold: texts of the walk and of its plain laws, made small. -/
import Derived.Test.YtnfclcfcpgfajaaGreatDoorM09
set_option linter.unusedVariables false
set_option linter.unusedSimpArgs false
/- Writes into rows. -/
namespace Go.Proofs.YtnfclcfcpgfajaaGreatDoor.Ev
open Go Go.RowKit
section
variable {P : Program} {ρ : Ro} {S : St} {W : World}

theorem oneV_rel {v w : Value} (h : oneV v = true) (hv : VR ρ v w) : w.oneCell' = true := by
  cases hv with
  | top w => cases h
  | flat h => cases v <;> first | rfl | cases h
  | agg _ _ => cases h
  | tuple _ _ => cases h
  | _ => rfl
/-- What a row of a world is, written to from place o on. -/
structure Wrote (W W' : World) (B o : Nat) (ws : List Value) (c : Array Value) (e : TypeId) (fz : Nat × Nat) : Prop where
  size : W'.heap.size = W.heap.size
  other : ∀ k, k ≠ B → W'.heap[k]? = W.heap[k]?
  row : ∃ c' : Array Value, W'.heap[B]? = some (.cells c' e fz) ∧ c'.size = c.size ∧ ∀ k, c'[k]? = if o ≤ k ∧ k < o + ws.length then ws[k - o]? else c[k]?
  os : W'.os = W.os
  tape : W'.tape = W.tape
  output : W'.output = W.output
theorem storeCells_run {B o : Nat} {e : TypeId} {fz : Nat × Nat} : ∀ (ws : List Value) (i : Nat) (W : World) (c : Array Value), W.heap[B]? = some (.cells c e fz) → (fz.1 = fz.2 ∨ c.size ≤ fz.1) → o + i + ws.length ≤ c.size → (∀ v ∈ ws, v.oneCell' = true) →
    ∃ W', (storeCells ⟨B, o, none⟩ ws i).run P W = .ok () W' ∧ Wrote W W' B (o + i) ws c e fz
  | [], i, W, c, hB, _, _, _ => ⟨W, rfl, rfl, fun _ _ => rfl, ⟨c, hB, rfl, fun k => by rw [if_neg (by simp)]⟩, rfl, rfl, rfl⟩
  | v :: ws, i, W, c, hB, hz, hl, h1 => by
    simp only [List.length_cons] at hl
    have hlt : o + i < c.size := by omega
    have hcell : W.cell? ⟨B, o + i, none⟩ = some c[o + i] := by
      simp only [World.cell?, hB]
      simp [hlt]
    have hfz : W.frozen? ⟨B, o + i, none⟩ = false := by
      simp only [World.frozen?, hB]
      obtain ⟨lo, hi⟩ := fz
      simp only at hz
      simp only [Bool.and_eq_false_iff, decide_eq_false_iff_not]
      omega
    have hst : (store ⟨B, o + i, none⟩ v).run P W = .ok () (W.setCell ⟨B, o + i, none⟩ v) := by
      rw [run_store P W _ v _ (h1 v (by simp)), hcell]
      simp [hfz]
    have hB' : (W.setCell ⟨B, o + i, none⟩ v).heap[B]? = some (.cells (c.setIfInBounds (o + i) v) e fz) := by
      simp only [World.setCell, Array.getElem?_modify, if_true, hB, Option.map_some]
      rfl
    obtain ⟨W', h2, h3⟩ := storeCells_run (o := o) ws (i + 1) (W.setCell ⟨B, o + i, none⟩ v) (c.setIfInBounds (o + i) v) hB' (by simpa using hz) (by simp; omega) (fun x hx => h1 x (by simp [hx]))
    refine ⟨W', ?_, ?_⟩
    · simp only [storeCells, Sem.run_bind, add_off, hst, Result.andThen_ok, h2]
    · obtain ⟨c', g1, g2, g3⟩ := h3.row
      refine ⟨h3.size.trans (by simp [World.setCell]), fun k hk => (h3.other k hk).trans (Below.heap_setCell _ _ _ _ hk), ⟨c', g1, by rw [g2]; simp, fun k => ?_⟩, h3.os, h3.tape, h3.output⟩
      rw [g3 k]
      simp only [List.length_cons]
      by_cases hk : k = o + i
      · subst hk
        rw [if_neg (by omega), if_pos (by omega)]
        simp [hlt]
      · by_cases hin : o + (i + 1) ≤ k ∧ k < o + (i + 1) + ws.length
        · rw [if_pos hin, if_pos (by omega)]
          have : k - (o + i) = (k - (o + (i + 1))) + 1 := by omega
          rw [this, List.getElem?_cons_succ]
        · rw [if_neg hin, if_neg (by omega)]
          simp [Ne.symm hk]
theorem taintL_get {but lo hi : Nat} : ∀ {l : List Nat} {h : Tr Ob} (k : Nat), (taintL but lo hi h l).get k = none ∨ ((taintL but lo hi h l).get k = h.get k ∧ (k ∉ l ∨ k = but ∨ sees lo hi (h.get k) = false))
  | [], h, k => .inr ⟨rfl, .inl (by simp)⟩
  | m :: l, h, k => by
    simp only [taintL]
    cases hb : nb (!Nat.beq m but) (sees lo hi (h.get m)) with
    | true =>
      rw [bi_t]
      rcases taintL_get (but := but) (lo := lo) (hi := hi) (l := l) (h := h.del m) k with h1 | ⟨h1, h2⟩
      · exact .inl h1
      · rw [Tr.get_del] at h1 h2
        by_cases hk : k = m
        · rw [if_pos hk] at h1; exact .inl h1
        · rw [if_neg hk] at h1 h2
          refine .inr ⟨h1, ?_⟩
          rcases h2 with h2 | h2 | h2
          · exact .inl (by simp [hk, h2])
          · exact .inr (.inl h2)
          · exact .inr (.inr h2)
    | false =>
      rw [bi_f]
      rcases taintL_get (but := but) (lo := lo) (hi := hi) (l := l) (h := h) k with h1 | ⟨h1, h2⟩
      · exact .inl h1
      · refine .inr ⟨h1, ?_⟩
        rcases h2 with h2 | h2 | h2
        · by_cases hk : k = m
          · subst hk
            rw [nb_eq, Bool.and_eq_false_iff] at hb
            rcases hb with hb | hb
            · exact .inr (.inl (beq_t (by simpa using hb)))
            · exact .inr (.inr hb)
          · exact .inl (by simp [hk, h2])
        · exact .inr (.inl h2)
        · exact .inr (.inr h2)
theorem taint_nx (S : St) (f b lo hi : Nat) : (taint S f b lo hi).nx = S.nx ∧ (taint S f b lo hi).fam = S.fam ∧ (taint S f b lo hi).nf = S.nf := by
  unfold taint
  rw [bi_eq]
  split
  · exact ⟨rfl, rfl, rfl⟩
  · cases S.fam.get f <;> exact ⟨rfl, rfl, rfl⟩
/-- What is left behind a taint is as it was, and sees the place only if it is the one that is written to, or another family's. -/
theorem taint_get (hS : Sim P ρ S W) {f but lo hi k : Nat} {o : Ob} (h : (taint S f but lo hi).h.get k = some o) : S.h.get k = some o ∧ ∀ cs ty base, o = .row cs ty f base → f ≠ 0 → k = but ∨ sees lo hi (some o) = false := by
  unfold taint at h
  rw [bi_eq] at h
  split at h
  · rename_i hf
    exact ⟨h, fun _ _ _ _ h0 => absurd (beq_t hf) h0⟩
  · rename_i hf
    cases hl : S.fam.get f with
    | none =>
      rw [hl] at h
      refine ⟨h, fun cs ty base ho h0 => ?_⟩
      subst ho
      obtain ⟨_, l, h1, _⟩ := hS.mem k cs ty f base h h0
      rw [hl] at h1
      cases h1
    | some l =>
      rw [hl] at h
      rcases taintL_get (but := but) (lo := lo) (hi := hi) (l := l) (h := S.h) k with h1 | ⟨h1, h2⟩
      · rw [show (taintL but lo hi S.h l).get k = some o from h] at h1; cases h1
      · have h3 : S.h.get k = some o := h1.symm.trans h
        refine ⟨h3, fun cs ty base ho h0 => ?_⟩
        rw [h3] at h2
        rcases h2 with h2 | h2 | h2
        · subst ho
          obtain ⟨_, l', h4, h5⟩ := hS.mem k cs ty f base h3 h0
          rw [hl] at h4
          cases h4
          exact absurd h5 h2
        · exact .inl h2
        · exact .inr h2
/-- A row is written to, here and there. -/
theorem Sim.wrote (hS : Sim P ρ S W) {S' : St} {W' : World} {b B sh off : Nat} {cs vs ws : List Value} {ty : TypeId} {f base : Nat} {c : Array Value} {e : TypeId} {fz : Nat × Nat} (hb : ρ.at_ b = some (B, sh)) (ho : S.h.get b = some (.row cs ty f base)) (hoff : off + vs.length ≤ cs.length) (hlow : lowB ≤ b)
    (hc : W.heap[B]? = some (.cells c e fz)) (hw : Wrote W W' B (sh + off) ws c e fz) (hl : LR ρ vs ws)
    (hn : S'.nx = S.nx ∧ S'.fam = S.fam ∧ S'.nf = S.nf) (hnew : S'.h.get b = some (.row (setL off vs cs) ty f base))
    (hothers : ∀ k o, k ≠ b → S'.h.get k = some o → S.h.get k = some o ∧ ∀ cs ty base', o = .row cs ty f base' → f ≠ 0 → sees (base + off) (base + off + vs.length) (some o) = false) : Sim P ρ S' W' ∧ Ext S.nx ρ W ρ W' := by
  have hold : ∀ k o, S'.h.get k = some o → ∃ o', S.h.get k = some o' ∧ (k ≠ b → o' = o) := fun k o h => by
    by_cases hk : k = b
    · exact ⟨_, by rw [hk]; exact ho, fun h => absurd hk h⟩
    · exact ⟨o, (hothers k o hk h).1, fun _ => rfl⟩
  obtain ⟨c', r1, r2, r3⟩ := hw.row
  refine ⟨⟨fun k B' sh' h => ?_, fun k o h => ?_, fun k o B' sh' h h' => ?_, fun k k' o o' B' s1 s2 hne h1 h2 h3 h4 => ?_, fun k cs1 ty1 f1 base1 h hf => ?_, hS.base, hS.glob, by rw [hn.2.2]; exact hS.nf, by rw [hn.1]; exact hS.nx⟩,
    ⟨.refl ρ, fun _ h k => absurd h k, by rw [hw.size]; exact Nat.le_refl _, fun k _ hne => hw.other k (fun e => ?_), fun _ _ _ h k => (by rw [h] at k; cases k), hw.os, hw.tape, hw.output⟩⟩
  · have := hS.low k B' sh' h
    rw [hn.1, hw.size]
    exact this
  · obtain ⟨o', h1, _⟩ := hold k o h
    rw [hn.1]
    exact hS.new k o' h1
  · by_cases hk : k = b
    · subst hk
      rw [hb] at h'
      cases h'
      rw [hnew] at h
      cases h
      obtain ⟨x, hx, c0, e0, fz0, rfl, q1, q2, q3, q4, q5, q6⟩ := hS.ob _ _ _ _ ho hb
      rw [hc] at hx
      cases hx
      refine ⟨_, r1, c', e, fz, rfl, by rw [r2]; exact q1, q2, by rw [setL_length _ _ _ hoff, r2]; exact q3, by rw [r2]; exact q4, q5, fun i v w h1 h2 => ?_⟩
      rw [r3] at h2
      rw [setL_get _ _ _ _ hoff] at h1
      by_cases hin : off ≤ i ∧ i < off + vs.length
      · rw [if_pos hin] at h1
        rw [if_pos (by rw [← hl.1]; omega)] at h2
        have : sh + i - (sh + off) = i - off := by omega
        rw [this] at h2
        exact hl.2 _ v w h1 h2
      · rw [if_neg hin] at h1
        rw [if_neg (by rw [← hl.1]; omega)] at h2
        exact q6 i v w h1 h2
    · obtain ⟨h1, h2⟩ := hothers k o hk h
      obtain ⟨x, hx, hR⟩ := hS.ob k o B' sh' h1 h'
      by_cases hB : B' = B
      · subst hB
        rw [hc] at hx
        cases hx
        obtain ⟨cs1, ty1, f1, base1, cs2, base2, z1, z2, z3, z4⟩ := hS.fam k b o _ B' sh' sh hk h1 ho h' hb
        cases z2
        subst z1
        have hsee := h2 cs1 ty base1 rfl z3
        obtain ⟨c0, e0, fz0, q0, q1, q2, q3, q4, q5, q6⟩ := hR
        cases q0
        refine ⟨_, r1, c', e, fz, rfl, by rw [r2]; exact q1, q2, by rw [r2]; exact q3, by rw [r2]; exact q4, q5, fun i v w g1 g2 => ?_⟩
        rw [r3] at g2
        have hi : i < cs1.length := (List.getElem?_eq_some_iff.1 g1).1
        simp only [sees, Bool.not_eq_false', Bool.or_eq_true] at hsee
        rw [if_neg ?_] at g2
        · exact q6 i v w g1 g2
        · rw [← hl.1]
          rcases hsee with hs | hs
          · have := ble_t hs
            omega
          · have := ble_t hs
            rw [lenV_eq] at this
            have : base1 + cs1.length ≤ base + off := this
            omega
      · exact ⟨x, by rw [hw.other B' hB]; exact hx, hR⟩
  · obtain ⟨p1, g1, g2⟩ := hold k o h1
    obtain ⟨p2, g3, g4⟩ := hold k' o' h2
    obtain ⟨cs1, ty1, f1, base1, cs2, base2, z1, z2, z3, z4⟩ := hS.fam k k' p1 p2 B' s1 s2 hne g1 g3 h3 h4
    by_cases hk : k = b
    · subst hk
      rw [ho] at g1
      cases g1
      cases z1
      rw [hnew] at h1
      cases h1
      rw [g4 (Ne.symm hne)] at z2
      exact ⟨_, _, _, _, _, _, rfl, z2, z3, z4⟩
    · by_cases hk' : k' = b
      · subst hk'
        rw [ho] at g3
        cases g3
        cases z2
        rw [hnew] at h2
        cases h2
        rw [g2 hk] at z1
        exact ⟨_, _, _, _, _, _, z1, rfl, z3, z4⟩
      · rw [g2 hk] at z1
        rw [g4 hk'] at z2
        exact ⟨_, _, _, _, _, _, z1, z2, z3, z4⟩
  · rw [hn.2.1, hn.2.2]
    by_cases hk : k = b
    · subst hk
      rw [hnew] at h
      cases h
      exact hS.mem k _ _ _ _ ho hf
    · exact hS.mem k _ _ _ _ (hothers k _ hk h).1 hf
  · exact hne b sh hlow (by rw [e]; exact hb)
/-- A write. -/
theorem store_sound (hS : Sim P ρ S W) {S' : St} {a a' : Addr} {vs ws : List Value} (h : storeV S a.block a.off vs = some S') (ha : AR ρ a a') (hl : LR ρ vs ws) : ∃ W', (storeCells a' ws).run P W = .ok () W' ∧ Sim P ρ S' W' ∧ Ext S.nx ρ W ρ W' ∧ S'.nx = S.nx := by
  unfold storeV at h
  cases ho : S.h.get a.block with
  | none => rw [ho] at h; cases h
  | some o =>
    rw [ho] at h
    cases o with
    | row cs ty f base =>
      obtain ⟨g1, g2⟩ := bi_some (show bi (nb (Nat.ble (a.off + lenV vs) (lenV cs)) (nb (Nat.ble lowB a.block) (allL oneV vs))) _ none = some S' from h)
      obtain ⟨g3, g4⟩ := nb_t g1
      obtain ⟨g5, g6⟩ := nb_t g4
      have hoff := ble_t g3
      have hlow := ble_t g5
      rw [lenV_eq, lenV_eq] at hoff
      cases g2
      obtain ⟨hs, sh, h1, h2⟩ := ha
      obtain ⟨x, hx, c, e, fz, rfl, q1, q2, q3, q4, q5, q6⟩ := hS.ob _ _ _ _ ho h1
      rw [allL_eq, List.all_eq_true] at g6
      have hone : ∀ v ∈ ws, v.oneCell' = true := fun w hw => by
        obtain ⟨i, hi, hw'⟩ := List.mem_iff_getElem.1 hw
        have hi' : i < vs.length := by rw [hl.1]; exact hi
        exact oneV_rel (g6 vs[i] (by simp)) (hl.2 i vs[i] w (by simp [hi']) (by simp [hi, hw']))
      obtain ⟨W', h3, h4⟩ := storeCells_run (P := P) (B := a'.block) (o := sh + a.off) ws 0 W c hx q4 (by rw [← hl.1]; omega) hone
      rw [h2]
      refine ⟨W', h3, ?_⟩
      have hlen : lenV vs = vs.length := lenV_eq vs
      obtain ⟨n1, n2, n3⟩ := taint_nx S f a.block (Nat.add base a.off) (Nat.add (Nat.add base a.off) (lenV vs))
      have := hS.wrote (S' := (taint S f a.block (Nat.add base a.off) (Nat.add (Nat.add base a.off) (lenV vs))).set a.block (.row (setL a.off vs cs) ty f base)) h1 ho hoff hlow hx h4 hl
        ⟨by rw [St.set_nx]; exact n1, by rw [(St.set_fam _ _ _).1]; exact n2, by rw [(St.set_fam _ _ _).2]; exact n3⟩ (by rw [St.set_h, if_pos rfl]) (fun k o hk hg => by
          rw [St.set_h, if_neg hk] at hg
          obtain ⟨t1, t2⟩ := taint_get hS hg
          refine ⟨t1, fun cs1 ty1 base1 heq h0 => ?_⟩
          rcases t2 cs1 ty1 base1 heq h0 with t | t
          · exact absurd t hk
          · rw [hlen] at t; exact t)
      exact ⟨this.1, this.2, by rw [St.set_nx]; exact n1⟩
    | _ => cases h
end
end Go.Proofs.YtnfclcfcpgfajaaGreatDoor.Ev

/- Operations that write, but append. -/
namespace Go.Proofs.YtnfclcfcpgfajaaGreatDoor.Ev
open Go Go.RowKit
section
variable {P : Program} {ρ : Ro} {S : St} {W : World}

/-- What a writing operation does. -/
def WriteR (P : Program) (ρ : Ro) (S : St) (W : World) (S' : St) (v : Value) (s : Sem Next) : Prop :=
  ∃ nx v' W' σ, s.run P W = .ok nx W' ∧ (nx = .value v' ∨ (nx = .skip ∧ v' = undef)) ∧ VR σ v v' ∧ Sim P σ S' W' ∧ Ext S.nx ρ W σ W' ∧ S.nx ≤ S'.nx
theorem vS_some {v w : Value} {o : Option St} {S' : St} (h : vS v o = some (w, S')) : o = some S' ∧ w = v := by
  cases o with
  | none => cases h
  | some S => cases h; exact ⟨rfl, rfl⟩
theorem run_u {s : Sem Unit} {w w' : World} (h : s.run P w = .ok () w') : (s >>= fun _ => (pure .skip : Sem Next)).run P w = .ok .skip w' := by rw [Sem.run_bind, h]; rfl
theorem eStore_sound (hS : Sim P ρ S W) {S' : St} {t : TypeId} {a v a' v' w : Value} (h : eStore S (sizeT P t) a v = some (w, S')) (ha : VR ρ a a') (hv : VR ρ v v') : WriteR P ρ S W S' w (Instr.storeAt t a' v' >>= fun _ => (pure .skip : Sem Next)) := by
  obtain ⟨x, rfl, h1⟩ := onPtr_some h
  obtain ⟨b, rfl, hab⟩ := ha.pointer
  cases hs : sizeT P t with
  | none => simp only [hs] at h1; cases h1
  | some n =>
    simp only [hs] at h1
    obtain ⟨g1, g2⟩ := bi_some h1
    obtain ⟨g3, g4⟩ := ofSize_t g1
    obtain ⟨g5, rfl⟩ := vS_some g2
    have hl := cells_sound hv g3
    obtain ⟨W', h2, h3, h4, h5⟩ := store_sound hS g5 hab hl
    have hsz : v'.cells.size = n := by rw [← g4, hl.1]; simp
    refine ⟨.skip, undef, W', ρ, run_u ?_, .inr ⟨rfl, rfl⟩, VR.undef, h3, h4, by rw [h5]; exact Nat.le_refl _⟩
    simp [Instr.storeAt, Instr.sureAddr, storeVar, run_size hs, hsz, h2]
/-- The first cells of what is appended, or copied. -/
theorem first_sound (hS : Sim P ρ S W) {size n : Nat} {x x' : Value} {l : List Value} (h : firstL S size n x = some l) (hx : VR ρ x x') (hn : ∀ m, lenL x = some m → n ≤ m) : ∃ m : List Value, (Builtin.firstCells size n x').run P W = .ok m.toArray W ∧ LR ρ l m := by
  cases x with
  | slice a k c =>
    cases a with
    | none =>
      cases h
      have := hx.nilsl
      subst this
      exact ⟨[], rfl, LR.nil⟩
    | some a =>
      have h' : cellsAt S a (n * size) = some l := h
      obtain ⟨b, c', rfl, _, hcc⟩ := hx.slicev
      have hk := hn k rfl
      have zero : k = 0 → ∃ m : List Value, (Builtin.firstCells size n (.slice (some b) k c')).run P W = .ok m.toArray W ∧ LR ρ l m := fun h0 => by
        have hn0 : n = 0 := by omega
        subst hn0
        obtain ⟨_, _, _, _, _, _, hl⟩ := cellsAt_some h'
        have : l = [] := by simpa using hl
        subst this
        exact ⟨[], by simp [Builtin.firstCells, loadCells, loadCellsFrom], LR.nil⟩
      rcases hcc with ⟨hab, _⟩ | ⟨hab, _⟩ | ⟨h0, _⟩ | ⟨h0, _⟩
      · obtain ⟨m, h1, h2, _⟩ := load_cells hS h' hab
        exact ⟨m, h2, h1⟩
      · obtain ⟨m, h1, h2, _⟩ := load_cells hS h' hab
        exact ⟨m, h2, h1⟩
      · exact zero h0
      · exact zero h0
  | string s =>
    cases h
    have := hx.str
    subst this
    rw [takeL_eq, bytesL_eq]
    refine ⟨(s.data.toList.map fun b => Value.int .u8 b.toNat).take n, ?_, LR.flat ?_⟩
    · simp only [Builtin.firstCells, Sem.run_pure]
      congr 1
      rw [extract_data]
      apply Array.toList_inj.1
      simp [List.map_take]
    · rw [List.all_eq_true]
      intro v hv
      obtain ⟨b, _, rfl⟩ := List.mem_map.1 (List.mem_of_mem_take hv)
      rfl
  | _ => cases h
theorem lenOf_run {x x' : Value} {n : Nat} (h : lenL x = some n) (hx : VR ρ x x') (w : World) : (Builtin.lenOf x').run P w = .ok n w := by
  cases x with
  | slice a k c =>
    cases h
    cases a with
    | none => have := hx.nilsl; subst this; rfl
    | some a => obtain ⟨b, c', rfl, _⟩ := hx.slicev; rfl
  | string s =>
    cases h
    have := hx.str
    subst this
    rw [lenV_eq]
    rfl
  | _ => cases h
theorem eCopy_sound (hS : Sim P ρ S W) {S' : St} {t type : TypeId} {ts : Array TypeId} {x y x' y' w : Value} (hts : ts[0]? = some t) (h : eCopy S (sizeO P (elemSl (ti P t))) x y = some (w, S')) (hx : VR ρ x x') (hy : VR ρ y y') :
    WriteR P ρ S W S' w (Builtin.copy_ ts type #[x', y'] >>= fun x => (pure (.value x) : Sem Next)) := by
  unfold eCopy at h
  cases hz : sizeO P (elemSl (ti P t)) with
  | none => simp only [hz] at h; cases h
  | some es =>
    cases hl : lenL y with
    | none => simp only [hz, hl] at h; cases h
    | some sl =>
      simp only [hz, hl] at h
      obtain ⟨e, q1, q2⟩ := sizeO_some hz
      have hu := elemSl_some q1
      cases x with
      | slice a dl c =>
        cases a with
        | none =>
          obtain ⟨g1, g2⟩ := bi_some h
          cases g2
          have := hx.nilsl
          subst this
          have h0 := beq_t g1
          have hfc : ∃ m : List Value, (Builtin.firstCells es 0 y').run P W = .ok m.toArray W := by
            cases y with
            | slice a k c =>
              cases a with
              | none => have := hy.nilsl; subst this; exact ⟨[], rfl⟩
              | some a => obtain ⟨b, c', rfl, _⟩ := hy.slicev; exact ⟨[], by simp [Builtin.firstCells, loadCells, loadCellsFrom]⟩
            | string s => have := hy.str; subst this; exact ⟨_, rfl⟩
            | _ => cases hl
          obtain ⟨m, hm⟩ := hfc
          refine ⟨_, _, W, ρ, run_v ?_, .inl rfl, .flat rfl, hS, .refl _ _ _, Nat.le_refl _⟩
          simp [Builtin.copy_, hts, run_underlying hu, lenOf_run hl hy, run_size q2, h0, hm]
        | some a =>
          obtain ⟨b, c', rfl, _, hcc⟩ := hx.slicev
          cases hf : firstL S es (Nat.min sl dl) y with
          | none => simp only [hf] at h; cases h
          | some cs =>
            simp only [hf] at h
            obtain ⟨m, h1, h2⟩ := first_sound hS hf hy (fun k hk => by rw [hl] at hk; cases hk; exact Nat.min_le_left _ _)
            have h' : bi (Nat.beq (Nat.min sl dl) 0) (some (goInt 0, S)) (vS (goInt (Nat.min sl dl)) (storeV S a.block a.off cs)) = some (w, S') := h
            cases hb : Nat.beq (Nat.min sl dl) 0 with
            | true =>
              rw [hb] at h'
              cases h'
              have h0 := beq_t hb
              have hm : m = [] := by
                have : cs = [] := by
                  cases y with
                  | slice a2 k2 c2 =>
                    cases a2 with
                    | none => cases hf; rfl
                    | some a2 =>
                      have hf' : cellsAt S a2 (Nat.min sl dl * es) = some cs := hf
                      rw [h0] at hf'
                      obtain ⟨_, _, _, _, _, _, hq⟩ := cellsAt_some hf'
                      simpa using hq
                  | string s => cases hf; rw [h0]; rfl
                  | _ => cases hl
                subst this
                exact h2.nil_inv
              subst hm
              refine ⟨_, goInt 0, W, ρ, run_v ?_, .inl rfl, .flat rfl, hS, .refl _ _ _, Nat.le_refl _⟩
              have h1' : (Builtin.firstCells es (min sl dl) y').run P W = .ok #[] W := h1
              have h0' : min sl dl = 0 := h0
              simp [Builtin.copy_, hts, run_underlying hu, lenOf_run hl hy, run_size q2, h1', h0', storeCells]
              rw [h0'] at h1'
              simp [h1', storeCells]
            | false =>
              rw [hb] at h'
              obtain ⟨g5, rfl⟩ := vS_some h'
              have hne := beq_f hb
              have hab : AR ρ a b := by
                have hdl : dl ≠ 0 := fun h => by rw [h] at hne; exact hne (Nat.min_zero _)
                rcases hcc with ⟨h, _⟩ | ⟨h, _⟩ | ⟨h, _⟩ | ⟨h, _⟩
                · exact h
                · exact h
                · exact absurd h hdl
                · exact absurd h hdl
              obtain ⟨W', h3, h4, h5, h6⟩ := store_sound hS g5 hab h2
              refine ⟨_, _, W', ρ, run_v (v := goInt (Nat.min sl dl)) ?_, .inl rfl, .flat rfl, h4, h5, by rw [h6]; exact Nat.le_refl _⟩
              have h1' : (Builtin.firstCells es (min sl dl) y').run P W = .ok m.toArray W := h1
              simp [Builtin.copy_, hts, run_underlying hu, lenOf_run hl hy, run_size q2, h1', h3]
      | _ => cases h
end
end Go.Proofs.YtnfclcfcpgfajaaGreatDoor.Ev

/- Maps are written to; slices are cleared. -/
namespace Go.Proofs.YtnfclcfcpgfajaaGreatDoor.Ev
open Go Go.RowKit
section
variable {P : Program} {ρ : Ro} {S : St} {W : World}

theorem EntR.append {es fs es' fs' : List MapEntry} (h : EntR ρ es fs) (k : EntR ρ es' fs') : EntR ρ (es ++ es') (fs ++ fs') := by
  refine ⟨by simp [h.1, k.1], fun i e f h1 h2 => ?_⟩
  by_cases hi : i < es.length
  · rw [List.getElem?_append_left hi] at h1
    rw [List.getElem?_append_left (by rw [← h.1]; exact hi)] at h2
    exact h.2 i e f h1 h2
  · rw [List.getElem?_append_right (by omega)] at h1
    rw [List.getElem?_append_right (by rw [← h.1]; omega), ← h.1] at h2
    exact k.2 _ e f h1 h2
theorem modL_get : ∀ {es : List MapEntry} {i : Nat} {v : Value} (j : Nat), (modL es i v)[j]? = if j = i then es[j]?.map (fun e => { e with val := v }) else es[j]?
  | [], i, v, j => by simp [modL]
  | e :: es, 0, v, j => by
    cases j with
    | zero => rfl
    | succ j => simp [modL]
  | e :: es, i + 1, v, j => by
    cases j with
    | zero => simp [modL]
    | succ j => simp [modL, modL_get (es := es) (i := i) j]
theorem modL_length : ∀ (es : List MapEntry) (i : Nat) (v : Value), (modL es i v).length = es.length
  | [], _, _ => rfl
  | _ :: _, 0, _ => rfl
  | _ :: es, i + 1, v => by simp [modL, modL_length es i v]
/-- A map is given anew. -/
theorem Sim.mapset (hS : Sim P ρ S W) {r r' c c' : Nat} {es es' : List MapEntry} {fs' : Array MapEntry} (hr : ρ.at_ r = some (r', 0)) (ho : S.h.get r = some (.map es c)) (hl : lowB ≤ r) (he : EntR ρ es' fs'.toList) :
    Sim P ρ (S.set r (.map es' c')) { W with heap := W.heap.setIfInBounds r' (.map fs' c') } ∧ Ext S.nx ρ W ρ { W with heap := W.heap.setIfInBounds r' (.map fs' c') } := by
  have hlt := (hS.low _ _ _ hr).2
  have alone : ∀ k o B sh, k ≠ r → S.h.get k = some o → ρ.at_ k = some (B, sh) → B ≠ r' := fun k o B sh hk h h' e => by
    subst e
    obtain ⟨_, _, _, _, _, _, _, z, _⟩ := hS.fam k r o _ B sh 0 hk h ho h' hr
    cases z
  refine ⟨⟨fun k B sh h => by rw [St.set_nx]; simpa using hS.low k B sh h, fun k o h => ?_, fun k o B sh h h' => ?_, fun k k' o o' B s1 s2 hne h1 h2 h3 h4 => ?_, fun k cs ty f base h hf => ?_, hS.base, hS.glob, by rw [(St.set_fam _ _ _).2]; exact hS.nf, by rw [St.set_nx]; exact hS.nx⟩,
    ⟨.refl ρ, fun _ h k => absurd h k, by simp, fun B _ hne => ?_, fun _ _ _ h k => (by rw [h] at k; cases k), rfl, rfl, rfl⟩⟩
  · rw [St.set_h] at h
    rw [St.set_nx]
    by_cases hk : k = r
    · subst hk; exact hS.new _ _ ho
    · rw [if_neg hk] at h; exact hS.new k o h
  · rw [St.set_h] at h
    by_cases hk : k = r
    · subst hk
      rw [if_pos rfl] at h
      cases h
      rw [hr] at h'
      cases h'
      exact ⟨.map fs' c', by simp [hlt], rfl, fs', rfl, he⟩
    · rw [if_neg hk] at h
      obtain ⟨x, hx, hR⟩ := hS.ob k o B sh h h'
      exact ⟨x, by simp [Ne.symm (alone k o B sh hk h h'), hx], hR⟩
  · rw [St.set_h] at h1 h2
    by_cases hk : k = r
    · subst hk
      rw [if_neg (Ne.symm hne)] at h2
      rw [hr] at h3
      cases h3
      exact absurd rfl (alone k' o' _ s2 (Ne.symm hne) h2 h4)
    · by_cases hk' : k' = r
      · subst hk'
        rw [if_neg hk] at h1
        rw [hr] at h4
        cases h4
        exact absurd rfl (alone k o _ s1 hk h1 h3)
      · rw [if_neg hk] at h1
        rw [if_neg hk'] at h2
        exact hS.fam k k' o o' B s1 s2 hne h1 h2 h3 h4
  · rw [St.set_h] at h
    rw [(St.set_fam _ _ _).1, (St.set_fam _ _ _).2]
    by_cases hk : k = r
    · rw [if_pos hk] at h; cases h
    · rw [if_neg hk] at h; exact hS.mem k cs ty f base h hf
  · have : B ≠ r' := fun e => hne r 0 hl (by rw [e]; exact hr)
    simp [Ne.symm this]
theorem sameBits_ptr (n : Nat) (a : Option Addr) : Instr.sameBits n (.pointer a) (.pointer a) = true := by cases n <;> simp [Instr.sameBits]
theorem sameBits_str (n : Nat) (a : ByteArray) : Instr.sameBits n (.string a) (.string a) = true := by cases n <;> simp [Instr.sameBits, MapKept.bytes_beq]
theorem sameBits_int (n : Nat) (k : IntKind) (a : Int) : Instr.sameBits n (.int k a) (.int k a) = true := by cases n <;> simp [Instr.sameBits]
theorem sameBits_bool (n : Nat) (a : Bool) : Instr.sameBits n (.bool a) (.bool a) = true := by cases n <;> simp [Instr.sameBits]
/-- One key found equal to another is the other. -/
theorem keyEq_same {k e k' f : Value} (h : keyEq k e = some true) (hk : VR ρ k k') (he : VR ρ e f) : f = k' ∧ ∀ n, Instr.sameBits n k' k' = true := by
  cases k with
  | int j a =>
    cases e with
    | int k b =>
      obtain ⟨g1, g2⟩ := bi_some (show bi (Nat.beq (kNum j) (kNum k)) (some (ieq a b)) none = some true from h)
      have h1 := hk.int
      have h2 := he.int
      subst h1 h2
      have := kNum_inj g1
      subst this
      rw [ieq_eq] at g2
      have : a = b := by simpa using g2
      subst this
      exact ⟨rfl, fun n => sameBits_int n j a⟩
    | _ => cases h
  | string a =>
    cases e with
    | string b =>
      have h1 := hk.str
      have h2 := he.str
      subst h1 h2
      have h3 : eqBytes a.data.toList b.data.toList = true := by
        have h4 : some (eqBytes a.data.toList b.data.toList) = some true := h
        simpa using h4
      rw [eqBytes_eq] at h3
      have : a = b := by
        cases a; cases b
        simpa using h3
      subst this
      exact ⟨rfl, fun n => sameBits_str n a⟩
    | _ => cases h
  | bool a =>
    cases e with
    | bool b =>
      have h1 := hk.bool
      have h2 := he.bool
      subst h1 h2
      have h3 : beqB a b = true := by
        have h4 : some (beqB a b) = some true := h
        simpa using h4
      rw [beqB_eq] at h3
      have : a = b := by simpa using h3
      subst this
      exact ⟨rfl, fun n => sameBits_bool n a⟩
    | _ => cases h
  | pointer a =>
    cases a with
    | none => cases h
    | some a =>
      cases e with
      | pointer b =>
        cases b with
        | none => cases h
        | some b =>
          obtain ⟨a', rfl, ha⟩ := hk.pointer
          obtain ⟨b', rfl, hb⟩ := he.pointer
          have h3 : eqA a b = true := by
            have h4 : some (eqA a b) = some true := h
            simpa using h4
          obtain ⟨h5, h6⟩ := nb_t h3
          have h5 := beq_t h5
          have h6 := beq_t h6
          obtain ⟨_, sh, q1, q2⟩ := ha
          obtain ⟨_, sh', q3, q4⟩ := hb
          rw [h5] at q1
          rw [q1] at q3
          simp only [Option.some.injEq, Prod.mk.injEq] at q3
          rw [q2, q4, q3.1, q3.2, h6]
          exact ⟨rfl, fun n => sameBits_ptr n _⟩
      | _ => cases h
  | _ => cases h
theorem findK_at {k : Value} : ∀ {es : List MapEntry} {i j : Nat} {v : Value}, findK k es i = some (some (j, v)) → i ≤ j ∧ ∃ e, es[j - i]? = some e ∧ keyEq k e.key = some true
  | [], i, j, v, h => by cases h
  | e :: es, i, j, v, h => by
    simp only [findK] at h
    cases hq : keyEq k e.key with
    | none => rw [hq] at h; cases h
    | some b =>
      simp only [hq] at h
      cases b with
      | true =>
        cases h
        exact ⟨Nat.le_refl _, e, by simp, hq⟩
      | false =>
        obtain ⟨h1, e', h2, h3⟩ := findK_at (i := i + 1) h
        refine ⟨by omega, e', ?_, h3⟩
        have : j - i = (j - (i + 1)) + 1 := by omega
        rw [this, List.getElem?_cons_succ]
        exact h2
theorem eMap_sound (hS : Sim P ρ S W) {S' : St} {t : TypeId} {m k v m' k' v' w : Value} (h : eMap P S (keyKind P (ti P t)) m k v = some (w, S')) (hm : VR ρ m m') (hk : VR ρ k k') (hv : VR ρ v v') :
    WriteR P ρ S W S' w (Instr.mapUpdate t m' k' v' >>= fun _ => (pure .skip : Sem Next)) := by
  unfold eMap at h
  cases hes : mapOf S m with
  | none => rw [hes] at h; cases h
  | some es =>
    simp only [hes] at h
    obtain ⟨g1, g2⟩ := bi_some h
    obtain ⟨_, g3⟩ := nb_t g1
    obtain ⟨g3, g4⟩ := nb_t g3
    obtain ⟨hup, rfl⟩ := vS_some g2
    have hty : ∃ kt et i, P.underlying t = some (.map kt et) ∧ P.info? t = some i := by
      cases ht : ti P t with
      | none =>
        rw [ht] at g3
        cases k with
        | pointer a => cases a <;> cases g3
        | _ => cases g3
      | some p =>
        obtain ⟨d, n⟩ := p
        obtain ⟨hu, i, hi, _⟩ := ti_some ht
        rw [ht] at g3
        cases d with
        | map kt et => exact ⟨kt, et, i, hu, hi⟩
        | _ =>
          cases k with
          | pointer a => cases a <;> cases g3
          | _ => cases g3
    obtain ⟨kt, et, i, hu, hi⟩ := hty
    rcases mapOf_some hS hes hm with ⟨rfl, rfl⟩ | ⟨r, r', fs, c, rfl, rfl, hr, ho, hw, he⟩
    · exfalso
      cases m with
      | map r =>
        cases r with
        | none => cases hup
        | some r =>
          obtain ⟨r', hr', _⟩ := hm.mapv
          cases hr'
      | _ => cases hup
    · have hup' : updO S r k v (S.h.get r) = some S' := hup
      rw [ho] at hup'
      obtain ⟨g5, g6⟩ := bi_some (show bi (Nat.ble lowB r) (updR S r k v es c (findK k es 0)) none = some S' from hup')
      have hl := ble_t g5
      cases hf : findK k es 0 with
      | none => rw [hf] at g6; cases g6
      | some q =>
        rw [hf] at g6
        obtain ⟨⟨q', h1, h2⟩, h3⟩ := find_sound hS hu ⟨i, hi⟩ g3 g4 hk he hf
        have hck := h3 false 9999
        rcases h2 with ⟨rfl, rfl⟩ | ⟨j, u, u', rfl, rfl, _⟩
        · cases g6
          have hx := hS.mapset (c' := c + 1) (es' := es ++ [{ key := k, val := v, born := c }]) (fs' := fs.push { key := k', val := v', born := c }) hr ho hl (by
            rw [Array.toList_push]
            refine he.append ⟨rfl, fun i e f p q => ?_⟩
            cases i with
            | zero => cases p; cases q; exact ⟨hk, hv, rfl⟩
            | succ i => simp at p)
          refine ⟨.skip, undef, _, ρ, run_u ?_, .inr ⟨rfl, rfl⟩, VR.undef, hx.1, hx.2, by rw [St.set_nx]; exact Nat.le_refl _⟩
          simp only [Instr.mapUpdate, Sem.run_bind, run_underlying hu, Result.andThen_ok, MapKept.run_getObj_map hw, hck, h1, MapKept.run_setObj_map _ hw]
        · cases g6
          obtain ⟨_, e, hj, hq⟩ := findK_at hf
          rw [Nat.sub_zero] at hj
          have hjl : j < fs.toList.length := by rw [← he.1]; exact (List.getElem?_eq_some_iff.1 hj).1
          have hjf : fs.toList[j]? = some fs.toList[j] := by simp [hjl]
          obtain ⟨k1, k2, k3⟩ := he.2 j e _ hj hjf
          obtain ⟨hsame, hbits⟩ := keyEq_same hq hk k1
          have hjf' : fs[j]? = some fs.toList[j] := by rw [← hjf]; simp
          have hx := hS.mapset (c' := c) (es' := modL es j v) (fs' := fs.modify j fun e => { e with key := k', val := v' }) hr ho hl (by
            refine ⟨by rw [modL_length]; simpa using he.1, fun i e1 f1 p q => ?_⟩
            rw [modL_get] at p
            rw [Array.getElem?_toList, Array.getElem?_modify] at q
            by_cases hij : i = j
            · subst hij
              rw [if_pos rfl, hj] at p
              rw [if_pos rfl, hjf'] at q
              cases p; cases q
              exact ⟨by rw [← hsame]; exact k1, hv, k3⟩
            · rw [if_neg hij] at p
              rw [if_neg (Ne.symm hij)] at q
              exact he.2 i e1 f1 p (by simpa using q))
          refine ⟨.skip, undef, _, ρ, run_u ?_, .inr ⟨rfl, rfl⟩, VR.undef, hx.1, hx.2, by rw [St.set_nx]; exact Nat.le_refl _⟩
          have hstay : (Instr.keyThatStays (((fs[j]?).map (·.key)).getD k') k').run P W = .ok k' W := by
            rw [hjf', Option.map_some, Option.getD_some, hsame]
            simp only [Instr.keyThatStays, hbits, if_true, Sem.run_pure]
          simp only [Instr.mapUpdate, Sem.run_bind, run_underlying hu, Result.andThen_ok, MapKept.run_getObj_map hw, hck, h1, hstay, MapKept.run_setObj_map _ hw]
theorem zeros_clear {zv : Value} (n : Nat) : (Builtin.zeroCells zv.cells n).toList = repL n zv.cells.toList := zeros_rel n _ rfl
theorem eClear_sound (hS : Sim P ρ S W) {S' : St} {t type : TypeId} {ts : Array TypeId} {x x' w : Value} (hts : ts[0]? = some t) (h : eClear S (zLO P (elemSl (ti P t))) x = some (w, S')) (hx : VR ρ x x') :
    WriteR P ρ S W S' w (Builtin.clear_ ts type #[x'] >>= fun x => (pure (.value x) : Sem Next)) := by
  unfold eClear at h
  cases hz : zLO P (elemSl (ti P t)) with
  | none => simp only [hz] at h; cases h
  | some z =>
    simp only [hz] at h
    obtain ⟨e, q1, q2⟩ := zLO_some hz
    have hu := elemSl_some q1
    obtain ⟨zv, i, z1, _, z3, z4, z5, z6⟩ := zeroL_some (ρ := ρ) q2
    have stays : (Builtin.clear_ ts type #[x']).run P W = .ok (.tuple #[]) W → S' = S → w = undef → WriteR P ρ S W S' w (Builtin.clear_ ts type #[x'] >>= fun x => (pure (.value x) : Sem Next)) := fun g1 g2 g3 => by
      subst g2 g3
      exact ⟨_, undef, W, ρ, run_v g1, .inl rfl, VR.undef, hS, .refl _ _ _, Nat.le_refl _⟩
    cases x with
    | slice a n c =>
      cases a with
      | none =>
        have := hx.nilsl
        subst this
        cases h
        exact stays (by simp [Builtin.clear_, hts, run_underlying hu]) rfl rfl
      | some a =>
        obtain ⟨b, c', rfl, _, hcc⟩ := hx.slicev
        have h' : bi (Nat.beq n 0) (some (undef, S)) (vS undef (storeV S a.block a.off (repL n z))) = some (w, S') := h
        cases hb : Nat.beq n 0 with
        | true =>
          have := beq_t hb
          subst this
          cases h'
          exact stays (by simp [Builtin.clear_, hts, run_underlying hu]) rfl rfl
        | false =>
          rw [hb] at h'
          obtain ⟨g5, rfl⟩ := vS_some h'
          have hne := beq_f hb
          have hab : AR ρ a b := by
            rcases hcc with ⟨h, _⟩ | ⟨h, _⟩ | ⟨h, _⟩ | ⟨h, _⟩
            · exact h
            · exact h
            · exact absurd h hne
            · exact absurd h hne
          obtain ⟨W', h3, h4, h5, h6⟩ := store_sound hS g5 hab (rep_rel z5 n)
          refine ⟨_, undef, W', ρ, run_v (v := .tuple #[]) ?_, .inl rfl, VR.undef, h4, h5, by rw [h6]; exact Nat.le_refl _⟩
          have hzr : (zeroValue e).run P W = .ok zv W := by simp [zeroValue, run_info z3, z4]
          have h7 : (storeCells b (Builtin.zeroCells zv.cells n).toList).run P W = .ok () W' := by rw [zeros_clear]; exact h3
          cases n with
          | zero => exact absurd rfl hne
          | succ n => simp [Builtin.clear_, hts, run_underlying hu, hzr, h7]
    | _ => cases h
end
end Go.Proofs.YtnfclcfcpgfajaaGreatDoor.Ev
