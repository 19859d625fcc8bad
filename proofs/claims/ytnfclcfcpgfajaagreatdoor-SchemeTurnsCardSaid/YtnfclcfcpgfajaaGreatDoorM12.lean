/- A part of the proof that parser laws hold: texts of the walk and of its plain laws, made small. -/
import Derived.Test.YtnfclcfcpgfajaaGreatDoorM11
import Derived.CallsIn
import Derived.TacticsIn
set_option linter.unusedVariables false
set_option linter.unusedSimpArgs false
/- Regions in their order. -/
namespace Go.Proofs.YtnfclcfcpgfajaaGreatDoor.Ev
open Go Go.RowKit
section
variable {P : Program}

/-- A fence that asks for nothing. -/
def Wide (F : Fence) : Prop := F = Fence.wide ∨ ∃ l, F = Fence.wide.inRound l
theorem Wide.fn {F : Fence} (h : Wide F) (f : FuncId) : F.fn f := by
  rcases h with rfl | ⟨l, rfl⟩ <;> trivial
theorem Wide.depth {F : Fence} (h : Wide F) : F.depth = none := by
  rcases h with rfl | ⟨l, rfl⟩ <;> rfl
/-- What is put off. -/
def DfR (ρ : Ro) (d e : Deferred) : Prop :=
  (∃ g c c' , d.target = .fn (.func g) c ∧ e.target = .fn (.func g) c' ∧ LR ρ c.toList c'.toList ∧ LR ρ d.args.toList e.args.toList) ∨ ∃ b b', d.target = .collected b ∧ e.target = .collected b' ∧ ρ.at_ b = some (b', 0) ∧ d.args = #[] ∧ e.args = #[]
inductive DlR (ρ : Ro) : List Deferred → List Deferred → Prop where
  | nil : DlR ρ [] []
  | cons {d e : Deferred} {l m : List Deferred} (h : DfR ρ d e) (k : DlR ρ l m) : DlR ρ (d :: l) (e :: m)
theorem DfR.le {ρ σ : Ro} {d e : Deferred} (h : DfR ρ d e) (k : ρ.Le σ) : DfR σ d e := by
  rcases h with ⟨g, c, c', h1, h2, h3, h4⟩ | ⟨b, b', h1, h2, h3, h4⟩
  · exact .inl ⟨g, c, c', h1, h2, h3.le k, h4.le k⟩
  · exact .inr ⟨b, b', h1, h2, k.at_ _ _ _ h3, h4⟩
theorem DlR.le {ρ σ : Ro} {l m : List Deferred} (h : DlR ρ l m) (k : ρ.Le σ) : DlR σ l m := by
  induction h with
  | nil => exact .nil
  | cons h _ ih => exact .cons (h.le k) ih
/-- A state on the way, from a first one on. -/
structure StR (P : Program) (N : Nat) (ρ0 : Ro) (W0 : World) (ρ : Ro) (S : St) (W : World) : Prop where
  sim : Sim P ρ S W
  ext : Ext N ρ0 W0 ρ W
  nx : N ≤ S.nx
theorem StR.step {N : Nat} {ρ0 ρ σ : Ro} {W0 W W' : World} {S S' : St} (h : StR P N ρ0 W0 ρ S W) (hS : Sim P σ S' W') (hE : Ext S.nx ρ W σ W') (hn : S.nx ≤ S'.nx) : StR P N ρ0 W0 σ S' W' :=
  ⟨hS, h.ext.trans (hE.mono h.nx), Nat.le_trans h.nx hn⟩
/-- What goes on is true of what it answers. -/
def KnOk (P : Program) (N : Nat) (ρ0 : Ro) (W0 : World) (n lv : Nat) (R0 : Res) (k : Kn) (Nx : Go.Act → World → Prop) : Prop :=
  ∀ ρ S W t dl a, StR P N ρ0 W0 ρ S W → FrR ρ n lv t a.tmps → DlR ρ dl a.defers → k t dl S = R0 → Nx a W
theorem put_size (a : Go.Act) (d : Option Tmp) (v : Value) : (a.put d v).tmps.size = a.tmps.size ∧ (a.put d v).defers = a.defers := by
  cases d with
  | none => exact ⟨rfl, rfl⟩
  | some d => exact ⟨by simp [Act.put], rfl⟩
/-- The names of a region are put into the frame. -/
theorem flush_get {n : Nat} {t0 : Tr Value} {vals : List Value} : ∀ {outs : List (Tmp × Ref)} {t t' : Tr Value}, flush n t0 vals outs t = some t' → ∀ x, (t'.get x = t.get x ∧ ∀ r, (x, r) ∉ outs) ∨ ∃ r, (x, r) ∈ outs ∧ t'.get x = some (gv t0 vals r) ∧ x < n
  | [], t, t', h, x => by cases h; exact .inl ⟨rfl, fun r => by simp⟩
  | (d, r) :: l, t, t', h, x => by
    obtain ⟨g1, g2⟩ := bi_some (show bi (Nat.ble (Nat.succ d) n) (flush n t0 vals l (t.put d (gv t0 vals r))) none = some t' from h)
    have hd : d < n := ble_t g1
    rcases flush_get g2 x with ⟨h1, h2⟩ | ⟨r', h1, h2, h3⟩
    · rw [Tr.get_put] at h1
      by_cases e : x = d
      · subst e
        rw [if_pos rfl] at h1
        exact .inr ⟨r, by simp, h1, hd⟩
      · rw [if_neg e] at h1
        refine .inl ⟨h1, fun r' hr' => ?_⟩
        rcases List.mem_cons.1 hr' with h3 | h3
        · cases h3; exact e rfl
        · exact h2 r' h3
    · exact .inr ⟨r', by simp [h1], h2, h3⟩
theorem outsE_mem {lv p : Nat} : ∀ {env : Env} {seen : List Tmp} {x : Tmp} {r : Ref}, (x, r) ∈ outsE lv p env seen → x ∉ seen ∧ ∃ r0, findE x env = some r0 ∧ r = rel p r0 ∧ bitOf lv x = true
  | [], seen, x, r, h => by simp [outsE] at h
  | (t, r1) :: l, seen, x, r, h => by
    simp only [outsE, bi_eq] at h
    rw [findE_cons]
    split at h
    · rename_i hb
      obtain ⟨h1, h2⟩ := nb_t hb
      have h2' : t ∉ seen := by simpa using h2
      rcases List.mem_cons.1 h with h3 | h3
      · cases h3
        exact ⟨h2', r1, by rw [if_pos rfl], rfl, h1⟩
      · obtain ⟨q1, r0, q2, q3, q4⟩ := outsE_mem h3
        simp only [List.mem_cons, not_or] at q1
        exact ⟨q1.2, r0, by rw [if_neg (Ne.symm q1.1)]; exact q2, q3, q4⟩
    · rename_i hb
      obtain ⟨q1, r0, q2, q3, q4⟩ := outsE_mem h
      have hxt : t ≠ x := fun e => by
        subst e
        apply hb
        rw [nb_eq, q4]
        simpa using q1
      exact ⟨q1, r0, by rw [if_neg hxt]; exact q2, q3, q4⟩
theorem outsE_has {lv p : Nat} : ∀ {env : Env} {seen : List Tmp} {x : Tmp} {r : Ref}, findE x env = some r → x ∉ seen → bitOf lv x = true → (x, rel p r) ∈ outsE lv p env seen
  | [], seen, x, r, h, _, _ => by cases h
  | (t, r1) :: l, seen, x, r, h, hs, hb => by
    rw [findE_cons] at h
    simp only [outsE, bi_eq]
    by_cases e : t = x
    · subst e
      rw [if_pos rfl] at h
      cases h
      rw [if_pos (by rw [nb_eq, hb]; simpa using hs)]
      simp
    · rw [if_neg e] at h
      split
      · exact List.mem_cons_of_mem _ (outsE_has h (by simp [hs, Ne.symm e]) hb)
      · exact outsE_has h hs hb
/-- The frame behind a region. -/
theorem flush_sound {ρ : Ro} {n lv p : Nat} {t0 t' : Tr Value} {vals : List Value} {env : Env} {a : Go.Act} (h : EnvR ρ lv p t0 vals env a.tmps) (hn : a.tmps.size = n) (h0 : ∀ x v, bitOf lv x = true → t0.get x = some v → x < n) (hf : flush n t0 vals (outsE lv p env []) t0 = some t') : FrR ρ n lv t' a.tmps := by
  refine ⟨hn, fun x v hx hv => ?_⟩
  have main : x < n → VR ρ v (a.tmps.getD x undef) → ∃ w, a.tmps[x]? = some w ∧ VR ρ v w := fun hlt hr => by
    rw [Array.getD_eq_getD_getElem?] at hr
    have : a.tmps[x]? = some a.tmps[x] := by simp [hn, hlt]
    rw [this] at hr
    exact ⟨_, this, hr⟩
  have hat := h.at_ x
  rcases flush_get hf x with ⟨h1, h2⟩ | ⟨r, h1, h2, h3⟩
  · rw [h1] at hv
    cases hfe : findE x env with
    | some r => exact absurd (outsE_has (p := p) hfe (by simp) hx) (h2 _)
    | none =>
      rw [hfe] at hat
      have e : rel p (baseRef lv x none) = .b x := by simp [baseRef, hx, rel]
      rw [e, gv_b, hv] at hat
      exact main (h0 x v hx hv) hat
  · obtain ⟨_, r0, q2, rfl, q4⟩ := outsE_mem h1
    rw [hv] at h2
    cases h2
    rw [q2] at hat
    exact main h3 hat
end
end Go.Proofs.YtnfclcfcpgfajaaGreatDoor.Ev

/- One operation in a region. -/
namespace Go.Proofs.YtnfclcfcpgfajaaGreatDoor.Ev
open Go Go.RowKit
section
variable {P : Program}

/-- What an operation's meaning leads to is what is told. -/
def UponOk (P : Program) (ρ : Ro) (S : St) (W : World) (v : Value) (S1 : St) (s : Sem Next) : Prop :=
  ∀ (F : Fence) (n : Nat) (o : Oper) (a : Go.Act) (next : Go.Act → World → Prop) (Q : Exit → Go.Act → World → Prop), Wide F →
    (∀ v' W' σ, VR σ v v' → Sim P σ S1 W' → Ext S.nx ρ W σ W' → S.nx ≤ S1.nx → next (a.put o.dst v') W') → o.uponIn F n P a next Q (s.run P W)
/-- What is called is what is told. -/
structure IhOk (P : Program) (ih : Task → Res) : Prop where
  call : ∀ g args S v S1, ih (.call g args S) = .va v S1 → ∀ ρ W (args' : Array Value), Sim P ρ S W → LR ρ args args'.toList → UponOk P ρ S W v S1 (callFunc g args')
  body : ∀ g args S v S1, ih (.call g args S) = .va v S1 → (∃ f a c, Value.func f a c ∈ args) → ∃ (fn : Func) (b : Code), P.funcs[g]? = some fn ∧ fn.body = some b
  round : ∀ l args S v S1, ih (.round l args S) = .va v S1 → ∀ ρ W l' (args' : Array Value), Sim P ρ S W → ρ.at_ l = some (l', 0) → LR ρ args args'.toList → UponOk P ρ S W v S1 (Instr.yield l' args')
theorem WriteR.upon {ρ : Ro} {S S1 : St} {W : World} {v : Value} {s : Sem Next} (h : WriteR P ρ S W S1 v s) : UponOk P ρ S W v S1 s := by
  obtain ⟨nx, v', W', σ, h1, h2, h3, h4, h5, h6⟩ := h
  intro F n o a next Q _ hn
  rw [h1]
  rcases h2 with rfl | ⟨rfl, rfl⟩
  · exact hn v' W' σ h3 h4 h5 h6
  · exact hn undef W' σ h3 h4 h5 h6
theorem LookR.upon {ρ : Ro} {S : St} {W : World} {v : Value} {s : Sem Next} (h : LookR P ρ S W v s) : UponOk P ρ S W v S s := by
  obtain ⟨v', W', h1, h2, h3, h4⟩ := h
  intro F n o a next Q _ hn
  rw [h1]
  exact hn v' W' ρ h2 h3 h4 (Nat.le_refl _)
theorem VR.funv {ρ : Ro} {f : Fn} {a c : Array Value} {w : Value} (h : VR ρ (.func f a c) w) : ∃ g b d, w = .func g b d ∧ FnR ρ f g ∧ LR ρ a.toList b.toList ∧ LR ρ c.toList d.toList := by
  cases h with
  | flat h => cases h
  | func h ha h1 hc h2 => exact ⟨_, _, _, rfl, h, LR.of_arr ha h1, LR.of_arr hc h2⟩
theorem kOp_some {k : Value → St → Res} {r : Res} {v : Value} {S : St} (h : kOp k r = .va v S) : ∃ v1 S1, r = .va v1 S1 ∧ k v1 S1 = .va v S := by
  cases r with
  | no => cases h
  | va v1 S1 => exact ⟨v1, S1, rfl, h⟩
theorem callFn_sound {ih : Task → Res} (hih : IhOk P ih) {ρ : Ro} {S S1 : St} {W : World} {f f' v : Value} {args : List Value} {args' : Array Value} (hS : Sim P ρ S W) (hf : VR ρ f f') (ha : LR ρ args args'.toList) (h : callFn ih args S f = .va v S1) :
    UponOk P ρ S W v S1 (Deferred.ofValue f' args' >>= fun d => invoke d.target d.args) := by
  cases f with
  | func fn first cap =>
    obtain ⟨g, b, d, rfl, hfn, h1, h2⟩ := hf.funv
    cases fn with
    | func i =>
      have hg : g = .func i := hfn
      subst hg
      have h' : ih (.call i (first.toList ++ (args ++ cap.toList)) S) = .va v S1 := h
      have hu := hih.call i _ S v S1 h' ρ W (b ++ args' ++ d) hS (by
        rw [Array.toList_append, Array.toList_append, List.append_assoc]
        exact h1.append (ha.append h2))
      exact hu
    | yield l =>
      obtain ⟨l', hg, hl⟩ := hfn
      subst hg
      have h' : bi (nb first.toList.isEmpty cap.toList.isEmpty) (ih (.round l args S)) .no = .va v S1 := h
      rw [bi_eq] at h'
      split at h'
      · rename_i hb
        obtain ⟨q1, _⟩ := nb_t hb
        have hb0 : b = #[] := by
          have : first.toList = [] := List.isEmpty_iff.1 q1
          rw [this] at h1
          exact Array.toList_inj.1 h1.nil_inv
        subst hb0
        have hu := hih.round l args S v S1 h' ρ W l' (#[] ++ args') hS hl (by simpa using ha)
        exact hu
      · cases h'
    | _ => cases h
  | _ => cases h
theorem act_defer {o : Oper} {c : Call} (h : o.op = .defer c) : actOf P o = .bad ∨ ∃ f, c.callee = .value f ∧ actOf P o = .defer f c.args.toList := by
  obtain ⟨dst, op, type, p, after, guard⟩ := o
  have h' : op = .defer c := h
  subst h'
  cases hc : c.callee with
  | value f => exact .inr ⟨f, rfl, by simp only [actOf, hc]⟩
  | invoke _ _ => exact .inl (by simp only [actOf, hc])
  | builtin b => exact .inl (by simp only [actOf, hc])
theorem act_call {o : Oper} {f : Operand} {xs : List Operand} (h : actOf P o = .call f xs) : ∃ c, o.op = .call c ∧ c.callee = .value f ∧ xs = c.args.toList := by
  obtain ⟨dst, op, type, p, after, guard⟩ := o
  cases op <;> simp only [actOf] at h <;> (try cases h)
  case convert src dst x => cases hcv : cvOf P src dst <;> simp only [hcv, convAct] at h <;> cases h
  case makeFunc fn _ _ => cases fn <;> cases h
  case defer c => cases hc : c.callee <;> simp only [hc] at h <;> cases h
  case call c =>
    cases hc : c.callee with
    | value g =>
      simp only [callAct, hc] at h
      cases h
      exact ⟨c, rfl, hc, rfl⟩
    | invoke _ _ => simp only [callAct, hc] at h; cases h
    | builtin b =>
      simp only [callAct, hc, aBuiltin] at h
      split at h
      · simp only [aBuiltin1] at h
        split at h <;> (try cases h)
        rw [bi_eq] at h
        split at h <;> cases h
      · cases h
theorem nRow_alone {e : TypeId} {mk0 : Nat → Value} {z : Option (List Value)} {b : Ob} {mk : Nat → Value} (h : nRow e mk0 z = some (b, mk)) : alone b := by
  cases z with
  | none => cases h
  | some cs => cases h; rfl
theorem make_alone {o : Oper} {f : (Operand → Value) → Mk} {ev : Operand → Value} {b : Ob} {mk : Nat → Value} (ha : actOf P o = .make f) (hf : f ev = some (b, mk)) : alone b := by
  obtain ⟨dst, op, type, p, after, guard⟩ := o
  cases op <;> simp only [actOf] at ha <;> (try cases ha)
  case alloc e => exact nRow_alone hf
  case box e x =>
    simp only [nBox] at hf
    split at hf
    · obtain ⟨_, h⟩ := bi_some hf; cases h; rfl
    · cases hf
  case buildSlice t len parts =>
    simp only [nSlice] at hf
    split at hf
    · obtain ⟨_, h⟩ := bi_some hf; exact nRow_alone h
    · cases hf
  case convert src dst x =>
    cases hcv : cvOf P src dst <;> simp only [hcv, convAct] at ha <;> cases ha
    simp only [nBytes] at hf
    split at hf
    · obtain ⟨_, h⟩ := bi_some hf; cases h; rfl
    · cases hf
  case makeMap t r =>
    simp only [nMake] at hf
    split at hf
    · cases hf; trivial
    · split at hf
      · obtain ⟨_, h⟩ := bi_some hf; cases h; trivial
      · cases hf
  case makeSlice t l c =>
    simp only [nMakeSl] at hf
    split at hf
    · obtain ⟨l0, c0, _, _, g0⟩ := two_some hf
      obtain ⟨_, h⟩ := bi_some g0; cases h; rfl
    · cases hf
  case makeFunc fn _ _ => cases fn <;> cases ha
  case call c =>
    cases hc : c.callee with
    | value g => simp only [callAct, hc] at ha; cases ha
    | invoke _ _ => simp only [callAct, hc] at ha; cases ha
    | builtin b =>
      simp only [callAct, hc] at ha
      exact (aBuiltin_make ha).elim
  case defer c => cases hc : c.callee <;> simp only [hc] at ha <;> cases ha
theorem MakeR.upon {ρ : Ro} {S : St} {W : World} {v : Value} {b : Ob} {s : Sem Next} (h : MakeR P ρ (S.new b) W S.nx v s) : UponOk P ρ S W v (S.new b) s := by
  obtain ⟨v', W', σ, h1, h2, h3, h4, _⟩ := h
  intro F n o a next Q _ hn
  rw [h1]
  exact hn v' W' σ h2 h3 h4 (by rw [St.new_nx]; omega)
theorem act_deferred {o : Oper} {f : Operand} {xs : List Operand} (h : actOf P o = .defer f xs) : ∃ c, o.op = .defer c ∧ c.callee = .value f ∧ xs = c.args.toList := by
  obtain ⟨dst, op, type, p, after, guard⟩ := o
  cases op <;> simp only [actOf] at h <;> (try cases h)
  case convert src dst x => cases hcv : cvOf P src dst <;> simp only [hcv, convAct] at h <;> cases h
  case makeFunc fn _ _ => cases fn <;> cases h
  case defer c =>
    cases hc : c.callee <;> simp only [hc] at h <;> cases h
    exact ⟨c, rfl, hc, rfl⟩
  case call c =>
    cases hc : c.callee with
    | value g => simp only [callAct, hc] at h; cases h
    | invoke _ _ => simp only [callAct, hc] at h; cases h
    | builtin b =>
      simp only [callAct, hc, aBuiltin] at h
      split at h
      · simp only [aBuiltin1] at h
        split at h <;> (try cases h)
        rw [bi_eq] at h
        split at h <;> cases h
      · cases h
/-- One operation. -/
theorem doAct_sound {ih : Task → Res} (hih : IhOk P ih) (hz : ZeroOk P) {F : Fence} {n : Nat} (hF : Wide F) {N : Nat} {ρ0 ρ : Ro} {W0 W : World} {S Sx : St} {vx : Value} {o : Oper} {a : Go.Act} {ev : Operand → Value} {k : Value → St → Res} {kd : Deferred → Res} {next : Go.Act → World → Prop} {Q : Exit → Go.Act → World → Prop}
    (hst : StR P N ρ0 W0 ρ S W) (hev : ∀ x ∈ o.op.operands, VR ρ (ev x) (a.eval x)) (hnd : F.round ≠ none → ∀ c, o.op ≠ .defer c)
    (hk : ∀ σ S' W' v v', Ext S.nx ρ W σ W' → S.nx ≤ S'.nx → StR P N ρ0 W0 σ S' W' → VR σ v v' → k v S' = .va vx Sx → next (a.put o.dst v') W')
    (hkd : ∀ d d', DfR ρ d d' → kd d = .va vx Sx → next ({ a with defers := d' :: a.defers }.put o.dst undef) W)
    (hR : doAct ih S ev k kd (actOf P o) = .va vx Sx) : o.wpIn F n P a W next Q := by
  refine ⟨fun f _ => hF.fn f, ?_⟩
  have go : ∀ {S1 : St} {v : Value}, (∀ c, o.op ≠ .defer c) → UponOk P ρ S W v S1 (execOp a.eval o) → k v S1 = .va vx Sx → o.uponIn F n P a next Q ((o.semAt F.round a.eval).run P W) := by
    intro S1 v hd hu hkv
    rw [Oper.semAt_eq _ _ _ hd]
    exact hu F n o a next Q hF fun v' W' σ g1 g2 g3 g4 => hk σ S1 W' v v' g3 g4 (hst.step g2 g3 g4) g1 hkv
  have nodef : ∀ {A : Act}, actOf P o = A → (∀ f xs, A ≠ .defer f xs) → A ≠ .bad → ∀ c, o.op ≠ .defer c := by
    intro A hA h1 h2 c hc
    rcases act_defer (P := P) hc with h | ⟨f, _, h⟩
    · exact h2 (hA.symm.trans h)
    · exact h1 _ _ (hA.symm.trans h)
  cases hact : actOf P o with
  | look f =>
    rw [hact] at hR
    have hd := nodef hact (by simp) (by simp)
    cases hf : f S ev with
    | none => simp only [doAct, rV, hf] at hR; cases hR
    | some v =>
      simp only [doAct, rV, hf] at hR
      exact go hd (look_sound hst.sim hact hf hev).upon hR
  | make f =>
    rw [hact] at hR
    have hd := nodef hact (by simp) (by simp)
    cases hf : f ev with
    | none => simp only [doAct, rN, hf] at hR; cases hR
    | some p =>
      obtain ⟨b, mk⟩ := p
      simp only [doAct, rN, hf] at hR
      exact go hd (make_sound (hst.sim.new_ (make_alone hact hf)) hact hf hev hz hst.sim.fresh hst.sim.nx (by rw [St.new_h, if_pos rfl])).upon hR
  | write f =>
    rw [hact] at hR
    have hd := nodef hact (by simp) (by simp)
    cases hf : f S ev with
    | none => simp only [doAct, rE, hf] at hR; cases hR
    | some p =>
      obtain ⟨v, S1⟩ := p
      simp only [doAct, rE, hf] at hR
      exact go hd (write_sound hst.sim hz hact hf hev).upon hR
  | call f xs =>
    rw [hact] at hR
    have hd := nodef hact (by simp) (by simp)
    obtain ⟨v1, S1, h1, h2⟩ := kOp_some (show kOp k (callFn ih (mapL ev xs) S (ev f)) = .va vx Sx from hR)
    obtain ⟨c, hc1, hc2, rfl⟩ := act_call hact
    refine go hd ?_ h2
    have hin : ∀ x, (x = f ∨ x ∈ c.args.toList) → x ∈ o.op.operands := fun x hx => by rw [hc1]; simp [Op.operands, Call.operands, hc2]; rcases hx with rfl | hx <;> simp_all
    have hu := callFn_sound hih (args' := c.args.map a.eval) hst.sim (hev f (hin f (.inl rfl))) (by
      have := mapL_rel (ρ := ρ) (ev := ev) (ev' := a.eval) (l := c.args.toList) fun x hx => hev x (hin x (.inr hx))
      simpa using this) h1
    have e : execOp a.eval o = (Deferred.ofValue (a.eval f) (c.args.map a.eval) >>= fun d => invoke d.target d.args) := by
      unfold execOp
      simp only [hc1, resolve, hc2]
    rw [e]
    exact hu
  | defer f xs =>
    rw [hact] at hR
    have hR' : rD kd (deferV (mapL ev xs) (ev f)) = .va vx Sx := hR
    cases hdv : deferV (mapL ev xs) (ev f) with
    | none => rw [hdv] at hR'; cases hR'
    | some d =>
      rw [hdv] at hR'
      obtain ⟨c, hc1, hc2, rfl⟩ : ∃ c, o.op = .defer c ∧ c.callee = .value f ∧ xs = c.args.toList := act_deferred hact
      have hro : F.round = none := by
        cases hr : F.round with
        | none => rfl
        | some l => exact absurd hc1 (hnd (by rw [hr]; simp) c)
      rw [hro, Oper.semAt_none]
      have hin : ∀ x, (x = f ∨ x ∈ c.args.toList) → x ∈ o.op.operands := fun x hx => by rw [hc1]; simp [Op.operands, Call.operands, hc2]; rcases hx with rfl | hx <;> simp_all
      have hl : LR ρ (mapL ev c.args.toList) (c.args.map a.eval).toList := by
        have := mapL_rel (ρ := ρ) (ev := ev) (ev' := a.eval) (l := c.args.toList) fun x hx => hev x (hin x (.inr hx))
        simpa using this
      have hfv := hev f (hin f (.inl rfl))
      cases hef : ev f with
      | func fn first cap =>
        rw [hef] at hfv hdv
        cases fn with
        | func g =>
          obtain ⟨g', fi, ca, he, hfn, q1, q2⟩ := hfv.funcv
          have hg : g' = .func g := hfn
          subst hg
          cases hdv
          have e : (execOp a.eval o).run P W = .ok (.defer { target := .fn (.func g) ca, args := fi ++ c.args.map a.eval }) W := by
            unfold execOp
            simp only [hc1, resolve, hc2, he, Deferred.ofValue, Sem.run_bind, Sem.run_pure, Result.andThen_ok]
          rw [e]
          exact hkd _ _ (.inl ⟨g, cap, ca, rfl, rfl, q2, by
            rw [Array.toList_append, Array.toList_append]
            exact q1.append (by simpa using hl)⟩) hR'
        | _ => cases hdv
      | _ => rw [hef] at hdv; cases hdv
  | bad => rw [hact] at hR; cases hR
end
end Go.Proofs.YtnfclcfcpgfajaaGreatDoor.Ev

/- A region in its order. -/
namespace Go.Proofs.YtnfclcfcpgfajaaGreatDoor.Ev
open Go Go.RowKit
section
variable {P : Program}

theorem moveOf_some {o : Oper} {x : Operand} (h : moveOf o = some x) : o.guard = none ∧ ∀ ev, execOp ev o = pure (.value (ev x)) ∧ ∀ c, o.op ≠ .defer c := by
  obtain ⟨dst, op, type, p, after, guard⟩ := o
  cases guard with
  | some g => cases h
  | none =>
    cases op <;> simp only [moveOf] at h <;> (try cases h)
    · exact ⟨rfl, fun ev => ⟨rfl, fun c hc => by cases hc⟩⟩
    · exact ⟨rfl, fun ev => ⟨rfl, fun c hc => by cases hc⟩⟩
theorem opsL_sound {ih : Task → Res} (hih : IhOk P ih) (hz : ZeroOk P) {F : Fence} {n : Nat} (hF : Wide F) {N : Nat} {ρ0 : Ro} {W0 : World} {Sx : St} {vx : Value} {lv nt : Nat} {ops : Array Oper} {k : Kn} {Q : Exit → Go.Act → World → Prop}
    (hK : KnOk P N ρ0 W0 nt lv (.va vx Sx) k (Q .normal)) {t0 : Tr Value} (h0 : ∀ x v, bitOf lv x = true → t0.get x = some v → x < nt) (hdst : ∀ o ∈ ops.toList, ∀ d, o.dst = some d → d < nt) (hnd : F.round ≠ none → ∀ o ∈ ops.toList, ∀ c, o.op ≠ .defer c) :
    ∀ (l : List Oper) (env : Env) (p : Nat) (vals : List Value) (dl : List Deferred) (ρ : Ro) (S : St) (W : World) (a : Go.Act), (∀ o ∈ l, o ∈ ops.toList) → StR P N ρ0 W0 ρ S W → EnvR ρ lv p t0 vals env a.tmps → a.tmps.size = nt → DlR ρ dl a.defers →
      opsL ih k nt t0 (comp P lv ops l env p) vals dl S = .va vx Sx → wpListIn F n P ops Q l a W
  | [], env, p, vals, dl, ρ, S, W, a, _, hst, hE, hsz, hdl, h => by
    have h' : kFl k dl S (flush nt t0 vals (outsE lv p env []) t0) = .va vx Sx := h
    cases hf : flush nt t0 vals (outsE lv p env []) t0 with
    | none => rw [hf] at h'; cases h'
    | some t' =>
      rw [hf] at h'
      exact hK ρ S W t' dl a hst (flush_sound hE hsz h0 hf) hdl h'
  | o :: l, env, p, vals, dl, ρ, S, W, a, hin, hst, hE, hsz, hdl, h => by
    have hdo : ∀ x, o.dst = some x → x < a.tmps.size := fun x hx => by rw [hsz]; exact hdst o (hin o (by simp)) x hx
    have hinl : ∀ o' ∈ l, o' ∈ ops.toList := fun o' ho' => hin o' (by simp [ho'])
    have hev := hE.ev hst.sim
    simp only [wpListIn]
    cases hm : moveOf o with
    | some x =>
      obtain ⟨hg, hx⟩ := moveOf_some hm
      have hw : Region.wanted o (yielded ops a.tmps) = true := by simp only [Region.wanted, hg]
      rw [if_pos hw]
      simp only [comp, hm] at h
      refine ⟨fun f _ => hF.fn f, ?_⟩
      rw [Oper.semAt_eq _ _ _ (hx a.eval).2, (hx a.eval).1]
      exact opsL_sound hih hz hF hK h0 hdst hnd l _ p vals dl ρ S W _ hinl hst (hE.give hdo (fun i hi => hE.refA_v hi) (hev x)) (by rw [(put_size _ _ _).1]; exact hsz) (by rw [(put_size _ _ _).2]; exact hdl) h
    | none =>
      simp only [comp, hm] at h
      have h' : bi (gOk (fun x => gv t0 vals (refR P lv env p x)) (guardT ops o)) (bi (wantE (fun x => gv t0 vals (refR P lv env p x)) (guardT ops o)) (doAct ih S (fun x => gv t0 vals (refR P lv env p x)) (fun v S => opsL ih k nt t0 (comp P lv ops l (bindE o.dst (.v p) env) (p + 1)) (v :: vals) dl S)
          (fun d => opsL ih k nt t0 (comp P lv ops l (bindE o.dst (.v p) env) (p + 1)) (undef :: vals) (d :: dl) S) (actOf P o)) (opsL ih k nt t0 (comp P lv ops l (bindE o.dst (.v p) env) (p + 1)) (undef :: vals) dl S)) .no = .va vx Sx := h
      cases hg : gOk (fun x => gv t0 vals (refR P lv env p x)) (guardT ops o) with
      | false => rw [hg] at h'; cases h'
      | true =>
        rw [hg, bi_t] at h'
        have hwant := wanted_sound (ev := fun x => gv t0 vals (refR P lv env p x)) (fun t _ _ => hev (.tmp t)) rfl hg (fun j t ht => by
          unfold dstAt at ht
          cases ho : ops[j]? with
          | none => rw [ho] at ht; cases ht
          | some o' =>
            rw [ho] at ht
            rw [hsz]
            exact hdst o' (by
              have := Array.mem_of_getElem? ho
              simpa using this) t ht)
        rw [hwant]
        cases hw : wantE (fun x => gv t0 vals (refR P lv env p x)) (guardT ops o) with
        | false =>
          rw [hw, bi_f] at h'
          rw [if_neg (by simp)]
          exact ⟨fun f _ => hF.fn f, opsL_sound hih hz hF hK h0 hdst hnd l _ (p + 1) _ dl ρ S W _ hinl hst (hE.bind hdo VR.undef) (by rw [(put_size _ _ _).1]; exact hsz) (by rw [(put_size _ _ _).2]; exact hdl) h'⟩
        | true =>
          rw [hw, bi_t] at h'
          rw [if_pos rfl]
          exact doAct_sound hih hz hF hst (fun x _ => hev x) (fun hr => hnd hr o (hin o (by simp)))
            (fun σ S' W' v v' hle _ hst' hv hk => opsL_sound hih hz hF hK h0 hdst hnd l _ (p + 1) _ dl σ S' W' _ hinl hst' ((hE.le hle.le).bind hdo hv) (by rw [(put_size _ _ _).1]; exact hsz) (by rw [(put_size _ _ _).2]; exact hdl.le hle.le) hk)
            (fun d d' hd hk => opsL_sound hih hz hF hK h0 hdst hnd l _ (p + 1) _ (d :: dl) ρ S W _ hinl hst (EnvR.bind (a := { a with defers := d' :: a.defers }) hE hdo VR.undef) (by rw [(put_size _ _ _).1]; exact hsz) (by rw [(put_size _ _ _).2]; exact .cons hd hdl) hk) h'
end
end Go.Proofs.YtnfclcfcpgfajaaGreatDoor.Ev

/- Regions. -/
namespace Go.Proofs.YtnfclcfcpgfajaaGreatDoor.Ev
open Go Go.RowKit
section
variable {P : Program}

theorem dstsOk_mem {n : Nat} : ∀ {l : List Oper}, dstsOk n l = true → ∀ o ∈ l, ∀ d, o.dst = some d → d < n
  | [], _, o, ho, _, _ => by cases ho
  | x :: l, h, o, ho, d, hd => by
    obtain ⟨h1, h2⟩ := nb_t (show nb (match x.dst with
      | some d => Nat.ble (Nat.succ d) n
      | none => true) (dstsOk n l) = true from h)
    rcases List.mem_cons.1 ho with rfl | ho
    · rw [hd] at h1; exact ble_t h1
    · exact dstsOk_mem h2 o ho d hd
theorem noDefer_mem : ∀ {l : List Oper}, noDefer l = true → ∀ o ∈ l, ∀ c, o.op ≠ .defer c
  | [], _, o, ho, _ => by cases ho
  | x :: l, h, o, ho, c => by
    obtain ⟨h1, h2⟩ := nb_t (show nb (match x.op with
      | .defer _ => false
      | _ => true) (noDefer l) = true from h)
    rcases List.mem_cons.1 ho with rfl | ho
    · intro hc; rw [hc] at h1; cases h1
    · exact noDefer_mem h2 o ho c
/-- What a region that draws its order must keep. -/
def DrawOk (P : Program) : Prop :=
  ∀ {ih : Task → Res}, IhOk P ih → ∀ {F : Fence} {n : Nat}, Wide F → ∀ {N : Nat} {ρ0 : Ro} {W0 : World} {Sx : St} {vx : Value} {lv nt id : Nat} {ops : Array Oper} {k : Kn} {Q : Exit → Go.Act → World → Prop},
    KnOk P N ρ0 W0 nt lv (.va vx Sx) k (Q .normal) → (∀ o ∈ ops.toList, ∀ d, o.dst = some d → d < nt) → (F.round ≠ none → ∀ o ∈ ops.toList, ∀ c, o.op ≠ .defer c) → ∀ {ρ : Ro} {S : St} {W : World} {t : Tr Value} {dl : List Deferred} {a : Go.Act}, StR P N ρ0 W0 ρ S W → FrR ρ nt lv t a.tmps → DlR ρ dl a.defers →
      namesOk ops (masks ops.toList []) = true → regD P ih k nt lv t (compD P lv ops (masks ops.toList []) ops.toList 0 []) [] 0 0 (compD P lv ops (masks ops.toList []) ops.toList 0 []) dl S = .va vx Sx → (Code.region id ops true).wpIn F n P Q a W
theorem region_sound {ih : Task → Res} (hih : IhOk P ih) (hz : ZeroOk P) (hdr : DrawOk P) {F : Fence} {n : Nat} (hF : Wide F) {rd : Option Nat} (hrd : F.round ≠ none → isS rd = true) {N : Nat} {ρ0 : Ro} {W0 : World} {Sx : St} {vx : Value} {lv nt id : Nat} {ops : Array Oper} {draw : Bool} {k : Kn} {Q : Exit → Go.Act → World → Prop}
    (hK : KnOk P N ρ0 W0 nt lv (.va vx Sx) k (Q .normal)) {ρ : Ro} {S : St} {W : World} {t : Tr Value} {dl : List Deferred} {a : Go.Act} (hst : StR P N ρ0 W0 ρ S W) (hfr : FrR ρ nt lv t a.tmps) (hdl : DlR ρ dl a.defers) (h : kRegion P ih rd nt lv ops draw k t dl S = .va vx Sx) : (Code.region id ops draw).wpIn F n P Q a W := by
  have h' : bi (nb (dstsOk nt ops.toList) (bi (isS rd) (noDefer ops.toList) true)) (bi draw (bi (namesOk ops (masks ops.toList [])) (regD P ih k nt lv t (compD P lv ops (masks ops.toList []) ops.toList 0 []) [] 0 0 (compD P lv ops (masks ops.toList []) ops.toList 0 []) dl S) .no)
    (opsL ih k nt t (comp P lv ops ops.toList [] 0) [] dl S)) .no = .va vx Sx := h
  cases hc : nb (dstsOk nt ops.toList) (bi (isS rd) (noDefer ops.toList) true) with
  | false => rw [hc] at h'; cases h'
  | true =>
    rw [hc, bi_t] at h'
    obtain ⟨h1, h2⟩ := nb_t hc
    have hd := dstsOk_mem h1
    have hnd : F.round ≠ none → ∀ o ∈ ops.toList, ∀ c, o.op ≠ .defer c := fun hr => by
      rw [hrd hr, bi_t] at h2
      exact noDefer_mem h2
    cases draw with
    | false =>
      exact wpIn_region_list (opsL_sound hih hz hF hK (fun x v hx hv => by
        obtain ⟨w, hw, _⟩ := hfr.2 x v hx hv
        have := (Array.getElem?_eq_some_iff.1 hw).1
        rw [hfr.1] at this
        exact this) hd hnd ops.toList [] 0 [] dl ρ S W a (fun o ho => ho) hst (.start hfr) hfr.1 hdl h')
    | true =>
      rw [bi_t] at h'
      cases hn : namesOk ops (masks ops.toList []) with
      | false => rw [hn] at h'; cases h'
      | true =>
        rw [hn, bi_t] at h'
        exact hdr hih hF hK hd hnd hst hfr hdl hn h'
/-- How code is left. -/
def exitOf : Out → Exit
  | .exit i => .exit i
  | .goto l => .goto l
  | .ret => .ret
def KxOk (P : Program) (N : Nat) (ρ0 : Ro) (W0 : World) (n lv : Nat) (R0 : Res) (x : Kx) (Q : Exit → Go.Act → World → Prop) : Prop :=
  ∀ o, KnOk P N ρ0 W0 n lv R0 (x o) (Q (exitOf o))
end
end Go.Proofs.YtnfclcfcpgfajaaGreatDoor.Ev
