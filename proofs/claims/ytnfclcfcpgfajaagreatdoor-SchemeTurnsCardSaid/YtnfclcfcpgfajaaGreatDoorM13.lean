/- A part of the proof that parser laws hold: texts of the walk and of its plain laws, made small. -/
import Derived.Test.YtnfclcfcpgfajaaGreatDoorM12
import Derived.LoopNIn
set_option linter.unusedVariables false
set_option linter.unusedSimpArgs false
/- Code. -/
namespace Go.Proofs.YtnfclcfcpgfajaaGreatDoor.Ev
open Go Go.RowKit
section
variable {P : Program}

theorem evF_rel {ρ : Ro} {n lv : Nat} {t : Tr Value} {a : Go.Act} (h : FrR ρ n lv t a.tmps) (x : Operand) : VR ρ (evF lv t x) (a.eval x) := by
  cases x with
  | tmp x =>
    show VR ρ (bi (bitOf lv x) (orTop (t.get x)) Top) (a.tmps.getD x undef)
    cases hb : bitOf lv x with
    | false => exact .ofTop
    | true =>
      show VR ρ (orTop (t.get x)) _
      cases ht : t.get x with
      | none => exact .ofTop
      | some v =>
        obtain ⟨w, h1, h2⟩ := h.2 x v hb ht
        rw [Array.getD_eq_getD_getElem?, h1]
        exact h2
  | const v =>
    show VR ρ (bi (plain v) v Top) v
    cases hp : plain v with
    | true => exact plain_flat hp
    | false => exact .ofTop
  | global g => exact .ofTop
  | func f => exact .func_op
theorem onBool_va {v : Value} {f : Bool → Res} {w : Value} {S : St} (h : onBool v .no f = .va w S) : ∃ b, v = .bool b ∧ f b = .va w S := by
  cases v with
  | bool b => exact ⟨b, rfl, h⟩
  | _ => cases h
/-- Code does what it is told to do. -/
def CodeOk (P : Program) (F : Fence) (n N : Nat) (ρ0 : Ro) (W0 : World) (nt lv : Nat) (R0 : Res) (kn : Kn → Kx → Kn) (c : Code) : Prop :=
  ∀ (k : Kn) (x : Kx) (Q : Exit → Go.Act → World → Prop) (ρ : Ro) (S : St) (W : World) (t : Tr Value) (dl : List Deferred) (a : Go.Act), KnOk P N ρ0 W0 nt lv R0 k (Q .normal) → KxOk P N ρ0 W0 nt lv R0 x Q → StR P N ρ0 W0 ρ S W → FrR ρ nt lv t a.tmps → DlR ρ dl a.defers →
    kn k x t dl S = R0 → c.wpIn F n P Q a W
theorem loop_sound {F : Fence} {n N : Nat} {ρ0 : Ro} {W0 : World} {nt lv : Nat} {vx : Value} {Sx : St} {kn : Kn → Kx → Kn} {c : Code} (hc : CodeOk P F n N ρ0 W0 nt lv (.va vx Sx) kn c) {x : Kx} {Q : Exit → Go.Act → World → Prop} (hx : KxOk P N ρ0 W0 nt lv (.va vx Sx) x Q) :
    ∀ (f : Nat), KnOk P N ρ0 W0 nt lv (.va vx Sx) (loopN kn x f) (fun a W => Code.roundsIn F n P c Q f a W)
  | 0, ρ, S, W, t, dl, a, _, _, _, h => by cases h
  | f + 1, ρ, S, W, t, dl, a, hst, hfr, hdl, h => by
    have h' : kn (loopN kn x f) x t dl S = .va vx Sx := h
    exact hc (loopN kn x f) x (Exit.then (fun a' w' => Code.roundsIn F n P c Q f a' w') Q) ρ S W t dl a (loop_sound hc hx f) (fun o => by
      have := hx o
      cases o <;> exact this) hst hfr hdl h'
theorem code_sound {ih : Task → Res} (hih : IhOk P ih) (hz : ZeroOk P) (hdr : DrawOk P) {F : Fence} {n : Nat} (hF : Wide F) {rd : Option Nat} (hrd : F.round ≠ none → isS rd = true) {N : Nat} {ρ0 : Ro} {W0 : World} {Sx : St} {vx : Value} {lv nt : Nat} {fn : FuncId} {sf : Code → Code → Kn → Kx → Kn}
    (hsf : ∀ b, CodeOk P F n N ρ0 W0 nt lv (.va vx Sx) (sf b b) (.scope b)) (hrf : ∀ f ps sg bo, CodeOk P F n N ρ0 W0 nt lv (.va vx Sx) (fun k x t dl S => kRange ih rd fn (evF lv t f) ps sg bo k x t dl S) (.rangeFunc f ps sg bo)) :
    ∀ (c : Code), CodeOk P F n N ρ0 W0 nt lv (.va vx Sx) (code P ih rd fn nt lv sf c) c := by
  intro c
  induction c with
  | skip => exact fun k x Q ρ S W t dl a hk hx hst hfr hdl h => wpIn_skip (hk ρ S W t dl a hst hfr hdl h)
  | region id ops draw => exact fun k x Q ρ S W t dl a hk hx hst hfr hdl h => region_sound hih hz hdr hF hrd hk hst hfr hdl h
  | seq c d ihc ihd =>
    exact fun k x Q ρ S W t dl a hk hx hst hfr hdl h => wpIn_seq (ihc _ x _ ρ S W t dl a (fun ρ S W t dl a h1 h2 h3 h4 => ihd k x Q ρ S W t dl a hk hx h1 h2 h3 h4) (fun o => by
      have := hx o
      cases o <;> exact this) hst hfr hdl h)
  | cond c d e ihd ihe =>
    intro k x Q ρ S W t dl a hk hx hst hfr hdl h
    have h' : kCond (evF lv t c) (code P ih rd fn nt lv sf d k x t dl S) (code P ih rd fn nt lv sf e k x t dl S) = .va vx Sx := h
    obtain ⟨b, hb, h2⟩ := onBool_va h'
    have hv := evF_rel hfr c
    rw [hb] at hv
    refine wpIn_cond hv.bool ?_
    cases b with
    | true => exact ihd k x Q ρ S W t dl a hk hx hst hfr hdl h2
    | false => exact ihe k x Q ρ S W t dl a hk hx hst hfr hdl h2
  | block id b ihb =>
    intro k x Q ρ S W t dl a hk hx hst hfr hdl h
    refine wpIn_block (ihb k (xBlock id k x) _ ρ S W t dl a hk (fun o => ?_) hst hfr hdl h)
    intro ρ S W t dl a h1 h2 h3 h4
    cases o with
    | exit i =>
      have h5 : bi (Nat.beq i id) (k t dl S) (x (.exit i) t dl S) = .va vx Sx := h4
      rw [bi_eq] at h5
      show (if i = id then Q .normal a W else Q (.exit i) a W)
      split at h5
      · rename_i hb
        rw [if_pos (beq_t hb)]
        exact hk ρ S W t dl a h1 h2 h3 h5
      · rename_i hb
        rw [if_neg (fun e => hb (by subst e; exact Nat.beq_refl _))]
        exact hx (.exit i) ρ S W t dl a h1 h2 h3 h5
    | goto l => exact hx (.goto l) ρ S W t dl a h1 h2 h3 h4
    | ret => exact hx .ret ρ S W t dl a h1 h2 h3 h4
  | loop b ihb => exact fun k x Q ρ S W t dl a hk hx hst hfr hdl h => wpIn_loop_rounds most (loop_sound ihb hx most ρ S W t dl a hst hfr hdl h)
  | rangeFunc f ps sg bo _ _ => exact hrf f ps sg bo
  | exit i => exact fun k x Q ρ S W t dl a hk hx hst hfr hdl h => wpIn_exit (hx (.exit i) ρ S W t dl a hst hfr hdl h)
  | scope b _ => exact hsf b
  | label l => exact fun k x Q ρ S W t dl a hk hx hst hfr hdl h => wpIn_label (hk ρ S W t dl a hst hfr hdl h)
  | goto l => exact fun k x Q ρ S W t dl a hk hx hst hfr hdl h => wpIn_goto (hx (.goto l) ρ S W t dl a hst hfr hdl h)
  | ret => exact fun k x Q ρ S W t dl a hk hx hst hfr hdl h => wpIn_ret (hx .ret ρ S W t dl a hst hfr hdl h)
  | refuse _ => intro k x Q ρ S W t dl a hk hx hst hfr hdl h; cases h
end
end Go.Proofs.YtnfclcfcpgfajaaGreatDoor.Ev

/- Scopes. -/
namespace Go.Proofs.YtnfclcfcpgfajaaGreatDoor.Ev
open Go Go.RowKit

/-- A scope's code, with as many jumps as there is fuel. -/
def scopeIn (F : Fence) (n : Nat) (P : Program) (b : Code) (Q : Exit → Go.Act → World → Prop) : Nat → Code → Go.Act → World → Prop
  | 0, _, _, _ => False
  | m + 1, c, a, w => c.wpIn F n P (fun e a' w' => match e with
    | .goto l => (match findLabel b l with
      | some rest => scopeIn F n P b Q m rest a' w'
      | none => Q (.goto l) a' w')
    | e => Q e a' w') a w
section
variable {P : Program}
theorem stepR_scope' {b : Frame} {a : Go.Act} {k : List Item} {cs : List Frame} {w : World} {c : Code} : Go.step P (lone (b.atR a (.code (.scope c) :: k)) cs w) = .next (lone (b.atR a (.code c :: .inScope c :: k)) cs w) :=
  step_lone_go (by simp [stepG, stepG.exec, Frame.atR])
theorem stepR_inScope' {b : Frame} {a : Go.Act} {k : List Item} {cs : List Frame} {w : World} {c : Code} : Go.step P (lone (b.atR a (.inScope c :: k)) cs w) = .next (lone (b.atR a k) cs w) :=
  step_lone_go (by simp [stepG, stepG.exec, Frame.atR])
theorem wpIn_scope_rounds {F : Fence} {n : Nat} {Q : Exit → Go.Act → World → Prop} {a : Go.Act} {w : World} {c : Code} (m : Nat) (h : scopeIn F n P c Q m c a w) : (Code.scope c).wpIn F n P Q a w := by
  intro b k cs hro hb hr
  have key : ∀ m c0 a w, scopeIn F n P c Q m c0 a w → ∃ e a' w', Q e a' w' ∧ ArrivesIn (Machine.fenced P F) P (lone (b.atR a (.code c0 :: .inScope c :: k)) cs w) b k cs e a' w' := by
    intro m
    induction m with
    | zero => intro c0 a w h; exact h.elim
    | succ m ih =>
      intro c0 a w h
      obtain ⟨e, a₁, w₁, hq, harr⟩ := h b (.inScope c :: k) cs hro hb hr
      cases e with
      | normal => exact ⟨.normal, a₁, w₁, hq, StepsIn.trans harr (.one (fenced_calm hb hr rfl) stepR_inScope')⟩
      | exit id => exact ⟨.exit id, a₁, w₁, hq, fun k' hk => harr.1 k' (by simp [exitTo, hk]), fun h1 hk => harr.2 h1 (by simp [exitTo, hk])⟩
      | goto l =>
        cases hf : findLabel c l with
        | some rest =>
          have hg : gotoIn l (.inScope c :: k) = some (.code rest :: .inScope c :: k) := by simp [gotoIn, hf]
          simp only [hf] at hq
          obtain ⟨e₂, a₂, w₂, hq₂, harr₂⟩ := ih rest a₁ w₁ hq
          exact ⟨e₂, a₂, w₂, hq₂, .of_steps (harr.1 _ hg) harr₂⟩
        | none =>
          simp only [hf] at hq
          exact ⟨.goto l, a₁, w₁, hq, fun k' hk => harr.1 k' (by simp [gotoIn, hf, hk]), fun h1 hk => harr.2 h1 (by simp [gotoIn, hf, hk])⟩
      | ret => exact ⟨_, a₁, w₁, hq, harr⟩
      | panic ch => exact ⟨_, a₁, w₁, hq, harr⟩
      | outgrown => exact ⟨_, a₁, w₁, hq, harr⟩
  obtain ⟨e, a', w', hq, harr⟩ := key m c a w h
  exact ⟨e, a', w', hq, .of_steps (.one (fenced_calm hb hr rfl) stepR_scope') harr⟩
/-- A scope does what it is told to do. -/
theorem scopeN_sound {ih : Task → Res} (hih : IhOk P ih) (hz : ZeroOk P) (hdr : DrawOk P) {F : Fence} {n : Nat} (hF : Wide F) {rd : Option Nat} (hrd : F.round ≠ none → isS rd = true) {N : Nat} {ρ0 : Ro} {W0 : World} {Sx : St} {vx : Value} {lv nt : Nat} {fn : FuncId}
    (hrf : ∀ f ps sg bo, CodeOk P F n N ρ0 W0 nt lv (.va vx Sx) (fun k x t dl S => kRange ih rd fn (evF lv t f) ps sg bo k x t dl S) (.rangeFunc f ps sg bo)) :
    ∀ (f : Nat) (b c : Code) (k : Kn) (x : Kx) (Q : Exit → Go.Act → World → Prop), KnOk P N ρ0 W0 nt lv (.va vx Sx) k (Q .normal) → KxOk P N ρ0 W0 nt lv (.va vx Sx) x Q →
      KnOk P N ρ0 W0 nt lv (.va vx Sx) (scopeN P ih rd fn nt lv f b c k x) (fun a W => scopeIn F n P b Q f c a W)
  | 0, b, c, k, x, Q, _, _, ρ, S, W, t, dl, a, _, _, _, h => by cases h
  | f + 1, b, c, k, x, Q, hk, hx, ρ, S, W, t, dl, a, hst, hfr, hdl, h => by
    have again := scopeN_sound hih hz hdr hF hrd hrf f
    have h' : code P ih rd fn nt lv (scopeN P ih rd fn nt lv f) c k (xScope b (scopeN P ih rd fn nt lv f) k x) t dl S = .va vx Sx := h
    refine code_sound hih hz hdr hF hrd (fun b => ?_) hrf c k _ _ ρ S W t dl a hk (fun o => ?_) hst hfr hdl h'
    · exact fun k x Q ρ S W t dl a hk hx hst hfr hdl h => wpIn_scope_rounds f (again b b k x Q hk hx ρ S W t dl a hst hfr hdl h)
    · cases o with
      | exit i => exact hx (.exit i)
      | ret => exact hx .ret
      | goto l =>
        intro ρ S W t dl a h1 h2 h3 h4
        show (match findLabel b l with
          | some rest => scopeIn F n P b Q f rest a W
          | none => Q (.goto l) a W)
        have h5 : (match findLabel b l with
          | some rest => scopeN P ih rd fn nt lv f b rest k x t dl S
          | none => x (.goto l) t dl S) = .va vx Sx := h4
        cases hf : findLabel b l with
        | some rest =>
          simp only [hf] at h5
          exact again b rest k x Q hk hx ρ S W t dl a h1 h2 h3 h5
        | none =>
          simp only [hf] at h5
          exact hx (.goto l) ρ S W t dl a h1 h2 h3 h5
/-- Any code. -/
theorem codeT_sound {ih : Task → Res} (hih : IhOk P ih) (hz : ZeroOk P) (hdr : DrawOk P) {F : Fence} {n : Nat} (hF : Wide F) {rd : Option Nat} (hrd : F.round ≠ none → isS rd = true) {N : Nat} {ρ0 : Ro} {W0 : World} {Sx : St} {vx : Value} {lv nt : Nat} {fn : FuncId}
    (hrf : ∀ f ps sg bo, CodeOk P F n N ρ0 W0 nt lv (.va vx Sx) (fun k x t dl S => kRange ih rd fn (evF lv t f) ps sg bo k x t dl S) (.rangeFunc f ps sg bo)) (c : Code) :
    CodeOk P F n N ρ0 W0 nt lv (.va vx Sx) (codeT P ih rd fn nt lv c) c :=
  code_sound hih hz hdr hF hrd (fun b k x Q ρ S W t dl a hk hx hst hfr hdl h => wpIn_scope_rounds 1000 (scopeN_sound hih hz hdr hF hrd hrf 1000 b b k x Q hk hx ρ S W t dl a hst hfr hdl h)) hrf c
end
end Go.Proofs.YtnfclcfcpgfajaaGreatDoor.Ev

/- What a function hands back. -/
namespace Go.Proofs.YtnfclcfcpgfajaaGreatDoor.Ev
open Go Go.RowKit
/-- One result. -/
def resRun (tmps : Array Value) : ResultVar → Sem Value
  | .tmp t => pure (tmps.getD t undef)
  | .cell x ty => do loadVar ty (← asAddr (tmps.getD x undef))
section
variable {P : Program} {ρ : Ro} {S : St} {W : World}

theorem res1_sound (hS : Sim P ρ S W) {n lv : Nat} {t : Tr Value} {a : Go.Act} (hf : FrR ρ n lv t a.tmps) {r : ResultVar} {v : Value} (h : res1 P S lv t r = some v) :
    ∃ v', (resRun a.tmps r).run P W = .ok v' W ∧ VR ρ v v' := by
  cases r with
  | tmp x =>
    cases h
    exact ⟨_, rfl, evF_rel hf (.tmp x)⟩
  | cell x ty =>
    obtain ⟨b, hx, h1⟩ := onPtr_some h
    have hv := evF_rel hf (.tmp x)
    rw [hx] at hv
    obtain ⟨c, hc, hab⟩ := hv.pointer
    have hc' : a.tmps.getD x undef = .pointer (some c) := hc
    obtain ⟨v', h2, h3⟩ := loadV_sound hS hab h1
    refine ⟨v', ?_, h3⟩
    simp only [resRun, hc', asAddr, Sem.run_bind, Sem.run_pure, Result.andThen_ok, h2]
theorem resL_sound (hS : Sim P ρ S W) {n lv : Nat} {t : Tr Value} {a : Go.Act} (hf : FrR ρ n lv t a.tmps) : ∀ {rs : List ResultVar} {vs : List Value}, resL P S lv t rs = some vs →
    ∃ ws : List Value, (rs.mapM (resRun a.tmps)).run P W = .ok ws W ∧ LR ρ vs ws
  | [], vs, h => by cases h; exact ⟨[], rfl, LR.nil⟩
  | r :: rs, vs, h => by
    simp only [resL] at h
    cases h1 : res1 P S lv t r with
    | none => rw [h1] at h; cases h
    | some v =>
      cases h2 : resL P S lv t rs with
      | none => rw [h1, h2] at h; cases h
      | some vs' =>
        rw [h1, h2] at h
        cases h
        obtain ⟨v', g1, g2⟩ := res1_sound hS hf h1
        obtain ⟨ws, g3, g4⟩ := resL_sound hS hf h2
        refine ⟨v' :: ws, ?_, LR.cons g2 g4⟩
        rw [List.mapM_cons, Sem.run_bind, g1, Result.andThen_ok, Sem.run_bind, g3]
        rfl
theorem results_eq (fn : Func) (tmps : Array Value) : results fn tmps = (do
    let vs ← fn.results.mapM (resRun tmps)
    pure (if h : vs.size = 1 then vs[0] else .tuple vs)) := by
  unfold results
  congr 1
theorem results_sound (hS : Sim P ρ S W) {n lv : Nat} {t : Tr Value} {a : Go.Act} (hf : FrR ρ n lv t a.tmps) {fn : Func} {vs : List Value} (h : resL P S lv t fn.results.toList = some vs) : ∃ v', (results fn a.tmps).run P W = .ok v' W ∧ VR ρ (one? vs) v' := by
  obtain ⟨ws, h1, h2⟩ := resL_sound hS hf h
  have h3 : (fn.results.mapM (resRun a.tmps)).run P W = .ok ws.toArray W := by
    rw [Array.mapM_eq_mapM_toList]
    simp only [map_eq_pure_bind, Sem.run_bind, h1, Result.andThen_ok, Sem.run_pure]
  refine ⟨if h : ws.toArray.size = 1 then ws.toArray[0] else .tuple ws.toArray, by rw [results_eq, Sem.run_bind, h3]; rfl, ?_⟩
  match vs, ws, h2 with
  | [v], [w], h2 => exact h2.head
  | [], [], h2 => exact .tuple rfl (fun i v w h => by simp at h)
  | u :: v :: vs, x :: y :: ws, h2 =>
    rw [dif_neg (by simp)]
    have q := LR.arr (a := (u :: v :: vs).toArray) (b := (x :: y :: ws).toArray) (by simpa using h2)
    exact .tuple q.1 q.2
end
end Go.Proofs.YtnfclcfcpgfajaaGreatDoor.Ev

/- Objects that are no rows are given anew; a world that only grew. -/
namespace Go.Proofs.YtnfclcfcpgfajaaGreatDoor.Ev
open Go Go.RowKit
section
variable {P : Program} {ρ : Ro} {S : St} {W : World}

/-- An object that is no row is given anew. -/
theorem Sim.objset (hS : Sim P ρ S W) {r r' : Nat} {o o' : Ob} {x : Obj} (hr : ρ.at_ r = some (r', 0)) (ho : S.h.get r = some o) (hl : lowB ≤ r) (h1 : isRow o = false) (h2 : isRow o' = false) (hx : ObR P ρ o' r' 0 x) :
    Sim P ρ (S.set r o') { W with heap := W.heap.setIfInBounds r' x } ∧ Ext S.nx ρ W ρ { W with heap := W.heap.setIfInBounds r' x } := by
  have hlt := (hS.low _ _ _ hr).2
  have alone : ∀ k o1 B sh, k ≠ r → S.h.get k = some o1 → ρ.at_ k = some (B, sh) → B ≠ r' := fun k o1 B sh hk h h' e => by
    subst e
    obtain ⟨_, _, _, _, _, _, _, z, _⟩ := hS.fam k r o1 o B sh 0 hk h ho h' hr
    subst z
    cases h1
  refine ⟨⟨fun k B sh h => by rw [St.set_nx]; simpa using hS.low k B sh h, fun k o1 h => ?_, fun k o1 B sh h h' => ?_, fun k k' o1 o2 B s1 s2 hne g1 g2 g3 g4 => ?_, fun k cs ty f base h hf => ?_, hS.base, hS.glob, by rw [(St.set_fam _ _ _).2]; exact hS.nf, by rw [St.set_nx]; exact hS.nx⟩,
    ⟨.refl ρ, fun _ h k => absurd h k, by simp, fun B _ hne => ?_, fun _ _ _ h k => (by rw [h] at k; cases k), rfl, rfl, rfl⟩⟩
  · rw [St.set_h] at h
    rw [St.set_nx]
    by_cases hk : k = r
    · subst hk; exact hS.new _ _ ho
    · rw [if_neg hk] at h; exact hS.new k o1 h
  · rw [St.set_h] at h
    by_cases hk : k = r
    · subst hk
      rw [if_pos rfl] at h
      cases h
      rw [hr] at h'
      cases h'
      exact ⟨x, by simp [hlt], hx⟩
    · rw [if_neg hk] at h
      obtain ⟨y, hy, hR⟩ := hS.ob k o1 B sh h h'
      exact ⟨y, by simp [Ne.symm (alone k o1 B sh hk h h'), hy], hR⟩
  · rw [St.set_h] at g1 g2
    by_cases hk : k = r
    · subst hk
      rw [if_neg (Ne.symm hne)] at g2
      rw [hr] at g3
      cases g3
      exact absurd rfl (alone k' o2 _ s2 (Ne.symm hne) g2 g4)
    · by_cases hk' : k' = r
      · subst hk'
        rw [if_neg hk] at g1
        rw [hr] at g4
        cases g4
        exact absurd rfl (alone k o1 _ s1 hk g1 g3)
      · rw [if_neg hk] at g1
        rw [if_neg hk'] at g2
        exact hS.fam k k' o1 o2 B s1 s2 hne g1 g2 g3 g4
  · rw [St.set_h] at h
    rw [(St.set_fam _ _ _).1, (St.set_fam _ _ _).2]
    by_cases hk : k = r
    · rw [if_pos hk] at h
      cases h
      cases h2
    · rw [if_neg hk] at h; exact hS.mem k cs ty f base h hf
  · have : B ≠ r' := fun e => hne r 0 hl (by rw [e]; exact hr)
    simp [Ne.symm this]
/-- A world that only grew. -/
theorem Sim.below (hS : Sim P ρ S W) {W' : World} (h : Below W.heap.size W W') (N : Nat) : Sim P ρ S W' ∧ Ext N ρ W ρ W' :=
  ⟨⟨fun b B sh k => ⟨(hS.low b B sh k).1, Nat.lt_of_lt_of_le (hS.low b B sh k).2 h.size⟩, hS.new, fun b o B sh k k' => by
    obtain ⟨x, hx, hR⟩ := hS.ob b o B sh k k'
    exact ⟨x, by rw [h.block B (hS.low b B sh k').2]; exact hx, hR⟩, hS.fam, hS.mem, hS.base, hS.glob, hS.nf, hS.nx⟩,
   ⟨.refl ρ, fun _ h k => absurd h k, h.size, fun B hB _ => h.block B hB, fun _ _ _ h k => (by rw [h] at k; cases k), h.os, h.tape, h.output⟩⟩
end
end Go.Proofs.YtnfclcfcpgfajaaGreatDoor.Ev

/- How a function is left: deferred calls that do nothing, and the marks of ranges over functions. -/
namespace Go.Proofs.YtnfclcfcpgfajaaGreatDoor.Ev
open Go Go.RowKit
section
variable {P : Program}

/-- An object that is no row of cells. -/
def lone1 : Obj → Bool
  | .cells .. => false
  | _ => true
theorem run_getOb {w : World} {r : Nat} {o : Obj} (hb : w.heap[r]? = some o) (h : lone1 o = true) : (getObj r).run P w = .ok o w := by
  cases o <;> first | (simp only [getObj, Sem.run, hb]; done) | cases h
theorem run_setOb {w : World} {r : Nat} {o x : Obj} (hb : w.heap[r]? = some o) (h : lone1 o = true) : (setObj r x).run P w = .ok () { w with heap := w.heap.setIfInBounds r x } := by
  cases o <;> first | (simp only [setObj, Sem.run, hb]; done) | cases h
/-- Deferred calls of these functions do nothing where nobody panics. -/
def YOk (P : Program) (Y : FuncId → Nat → Bool) : Prop :=
  ∀ (g : FuncId) (args : Array Value), Y g args.size = true → ∀ (W : World), (callFunc g args).run P W = .ok (.enter g args) W ∧
    ∀ (n : Nat) (R : Ending → FrameMode → World → Prop), (∀ v W', Below W.heap.size W W' → R (.returned v) .returning W') → CallsDIn Fence.wide n P g args .returning W R
theorem leave_sound {Y : FuncId → Nat → Bool} (hY : YOk P Y) {n N : Nat} {ρ0 ρ : Ro} {W0 : World} {fn : Func} {tmps : Array Value} {R : Ending → World → Prop} {k : St → Res} {vx : Value} {Sx : St}
    (hk : ∀ S W, StR P N ρ0 W0 ρ S W → k S = .va vx Sx → LeavesInM Fence.wide n P fn tmps R [] .returning W) :
    ∀ {dl ds : List Deferred} {S : St} {W : World}, StR P N ρ0 W0 ρ S W → DlR ρ dl ds → leave Y k dl S = .va vx Sx → LeavesInM Fence.wide n P fn tmps R ds .returning W := by
  intro dl ds S W hst hdl
  induction hdl generalizing S W with
  | nil => exact fun h => hk S W hst h
  | @cons d e l m hd _ ih =>
    intro h
    have h' : leave1 Y (leave Y k l) d S = .va vx Sx := h
    refine ⟨by simp, ?_⟩
    rcases hd with ⟨g, c, c', h1, h2, h3, h4⟩ | ⟨b, b', h1, h2, h3, h4, h5⟩
    · refine .inr ⟨(fun x => by cases x), .func g, c', g, e.args ++ c', h2, ?_, fun _ _ => trivial, ?_⟩
      all_goals
        rw [leave1, h1] at h'
        have h6 : bi (Y g (Nat.add (lenV d.args.toList) (lenV c.toList))) (leave Y k l S) .no = .va vx Sx := h'
        have hsz : Nat.add (lenV d.args.toList) (lenV c.toList) = (e.args ++ c').size := by
          have q1 := h4.1
          have q2 := h3.1
          rw [lenV_eq, lenV_eq, Array.size_append]
          simp only [Array.length_toList] at q1 q2 ⊢
          show d.args.size + c.size = _
          omega
        rw [hsz] at h6
        cases hYg : Y g (e.args ++ c').size with
        | false => rw [hYg] at h6; cases h6
        | true =>
          rw [hYg] at h6
          have h7 : leave Y k l S = .va vx Sx := h6
          first
          | (rw [h2]; exact (hY g _ hYg W).1)
          | (refine (hY g _ hYg W).2 _ _ fun v W' hB => ?_
             obtain ⟨q1, q2⟩ := hst.sim.below hB S.nx
             exact ih (hst.step q1 q2 (Nat.le_refl _)) h7)
    · refine .inl ⟨b', ?_⟩
      rw [leave1, h1] at h'
      have h6 : (match S.h.get b with
        | some (.defs true) => bi (Nat.ble lowB b) (leave Y k l (S.set b (.defs false))) .no
        | _ => .no) = Res.va vx Sx := h'
      cases ho : S.h.get b with
      | none => rw [ho] at h6; cases h6
      | some o =>
        cases o with
        | defs t =>
          cases t with
          | false => rw [ho] at h6; cases h6
          | true =>
            rw [ho] at h6
            have h7 : bi (Nat.ble lowB b) (leave Y k l (S.set b (.defs false))) .no = .va vx Sx := h6
            cases hl : Nat.ble lowB b with
            | false => rw [hl] at h7; cases h7
            | true =>
              rw [hl] at h7
              obtain ⟨x, hx, _, hR⟩ := hst.sim.ob b _ b' 0 ho h3
              have hx' : x = .deferred (some []) := hR
              subst hx'
              obtain ⟨q1, q2⟩ := hst.sim.objset (o' := .defs false) (x := .deferred none) h3 ho (Nat.le_of_ble_eq_true hl) rfl rfl ⟨rfl, rfl⟩
              refine ⟨_, h2, ?_, ih (hst.step q1 q2 (by rw [St.set_nx]; exact Nat.le_refl _)) h7⟩
              simp only [Instr.takeDeferred, Sem.run_bind, run_getOb hx rfl, Result.andThen_ok, run_setOb hx rfl, Sem.run_pure]
        | _ => rw [ho] at h6; cases h6
end
end Go.Proofs.YtnfclcfcpgfajaaGreatDoor.Ev
