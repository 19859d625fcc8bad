/- A part of the proof that parser laws hold: texts of the walk and of its plain laws, made small. -/
import Derived.Test.YtnfclcfcpgfajaaGreatDoorM15
set_option linter.unusedVariables false
set_option linter.unusedSimpArgs false
/- Regions that draw their order: done. -/
namespace Go.Proofs.YtnfclcfcpgfajaaGreatDoor.Ev
open Go Go.RowKit
section
variable {P : Program} {lv nt N M : Nat} {ops : Array Oper} {t : Tr Value} {ρ0 : Ro} {W0 : World}

theorem cd_op {d : Cd} (h : CdOk P lv ops d) : ops[d.i]? = some d.o ∧ d.a = actOf P d.o ∧ d.g = guardT ops d.o ∧ d.m = (msOf ops).getD d.i 0 ∧ d = cdOf P lv ops d.i d.o := by
  obtain ⟨o, ho, hc⟩ := h
  have e : d.o = o := by rw [hc]; rfl
  rw [e]
  exact ⟨ho, by rw [hc]; rfl, by rw [hc]; rfl, by rw [hc]; rfl, hc⟩
/-- An operation that the evaluator does next. -/
theorem new_step {ih : Task → Res} (hih : IhOk P ih) (hz : ZeroOk P) (hn : namesOk ops (msOf ops) = true) {F : Fence} {n : Nat} (hF : Wide F) {did : List Did} {dm anc : Nat} {pend : List Cd} {dl : List Deferred} {S : St} (hI : EvI P lv ops t M did dm pend S) (hdst : ∀ o ∈ ops.toList, ∀ d, o.dst = some d → d < nt) (hnd : F.round ≠ none → ∀ o ∈ ops.toList, ∀ c, o.op ≠ .defer c)
    {f : Nat → Bool} {ρ : Ro} {a : Go.Act} {w : World} (h : ReI P lv nt N ops t ρ0 W0 did anc dl S f ρ a w) {d : Cd} (hdp : d ∈ pend) (hf : f d.i = false) (hd : ∀ e ∈ d.o.after, Region.binds .any e = true → f e.on = true) (hwant : wantE (evD t did d) d.g = true) {Q : Exit → Go.Act → World → Prop} {K : Go.Act → World → Prop} {vx : Value} {Sx : St} {k : Value → St → Res} {kd : Deferred → Res}
    (hact : doAct ih S (evD t did d) k kd d.a = .va vx Sx)
    (hk : ∀ σ S' w' v v', Ext S.nx ρ w σ w' → S.nx ≤ S'.nx → StR P N ρ0 W0 σ S' w' → VR σ v v' → k v S' = .va vx Sx → K (a.put d.o.dst v') w')
    (hkd : ∀ d1 d', DfR ρ d1 d' → kd d1 = .va vx Sx → K ({ a with defers := d' :: a.defers }.put d.o.dst undef) w) : wpOpIn F n P ops Q d.i K a w := by
  obtain ⟨ho, ha, hg, _, hc⟩ := cd_op (hI.pcd d hdp)
  have hmem : d.o ∈ ops.toList := List.mem_of_getElem? (by rw [tl]; exact ho)
  have hw := gOk_of_want hwant
  rw [hg] at hwant hw
  have hwd := h.want hn hI.dcd ho hd hf hdst (by rw [← hc]; exact hw)
  rw [← hc] at hwd
  unfold wpOpIn
  simp only [ho]
  rw [hwd, hwant, if_pos rfl]
  rw [ha] at hact
  refine doAct_sound hih hz hF h.st (fun x hx => ?_) (fun hr => hnd hr d.o hmem) hk hkd hact
  have := h.ev (x := x) hn hI.dcd ho hd hf fun y hy => by subst hy; exact names_op hx
  rw [← hc] at this
  exact this
/-- What is known behind it. -/
theorem ReI.new (hn : namesOk ops (msOf ops) = true) {did : List Did} {dm anc anc' : Nat} {pend : List Cd} {dl dl' : List Deferred} {S S' : St} (hI : EvI P lv ops t M did dm pend S) (hdst : ∀ o ∈ ops.toList, ∀ d, o.dst = some d → d < nt) {f f' : Nat → Bool} {ρ σ : Ro} {a a' : Go.Act} {w w' : World} (h : ReI P lv nt N ops t ρ0 W0 did anc dl S f ρ a w) {d : Cd} (hdp : d ∈ pend) (hf : f d.i = false)
    (hd : ∀ e ∈ d.o.after, Region.binds .any e = true → f e.on = true) (hf' : ∀ j, f' j = (f j || decide (j = d.i))) (hanc : ∀ j, bitOf anc' j = true → f' j = true) (hE : Ext S.nx ρ w σ w') (hst : StR P N ρ0 W0 σ S' w') {v v' : Value} (hv : VR σ v v') (hdl : DlR σ dl' a'.defers) (ha : a'.tmps = (a.put d.o.dst v').tmps) :
    ReI P lv nt N ops t ρ0 W0 (⟨d, v, 3⟩ :: did) anc' dl' S' f' σ a' w' := by
  obtain ⟨ho, _, _, _, _⟩ := cd_op (hI.pcd d hdp)
  have hmem : d.o ∈ ops.toList := List.mem_of_getElem? (by rw [tl]; exact ho)
  refine h.next hn hI.dcd ho hd hf hf' (hdst d.o hmem) (fun _ h => List.mem_cons_of_mem _ h) ⟨_, List.mem_cons_self .., rfl⟩ hanc (fun D hD hk => ?_) hE.le hst (fun D hD hk hfD u hu => ?_) ?_ (fun j hj => ?_) hdl ha
  · rcases List.mem_cons.1 hD with rfl | hD
    · rw [hf']; simp
    · rw [hf', h.k3 D hD hk]; rfl
  · rcases List.mem_cons.1 hD with rfl | hD
    · cases hk
    · rw [hf', Bool.or_eq_false_iff] at hfD
      have hun := h.un D hD hk hfD.1 u hu
      obtain ⟨u', e1, _, e2⟩ := (hI.just D hD).blk (hI.dcd D hD) hk
      rw [hu] at e1
      cases e1
      cases hs : σ.at_ u with
      | none => rfl
      | some p => have := hE.fresh u hun (by rw [hs]; simp); omega
  · rw [didV_cons, if_pos rfl]
    exact hv
  · rw [didV_cons, if_neg]
    intro e
    obtain ⟨D, h1, h2⟩ := h.sub j hj
    exact hI.disj d hdp D h1 (by rw [h2]; exact e.symm)
theorem swept_mem {did : List Did} {dm : Nat} : ∀ {l : List Cd}, swept t did dm l = true → ∀ d ∈ l, isRdy dm d = true → writes d.a = true ∧ wantE (evD t did d) d.g = true
  | [], _, d, h, _ => by cases h
  | e :: l, hs, d, h, hr => by
    obtain ⟨h1, h2⟩ := nb_t (show nb (!isRdy dm e || nb (writes e.a) (wantE (evD t did e) e.g)) (swept t did dm l) = true from hs)
    rcases List.mem_cons.1 h with rfl | h
    · rw [hr, Bool.not_true, Bool.false_or] at h1
      exact nb_t h1
    · exact swept_mem h2 d h hr
theorem behind_mem {i : Nat} : ∀ {l : List Cd}, behindAll i l = true → ∀ e ∈ l, writes e.a = false ∨ bitOf e.m i = true
  | [], _, e, h => by cases h
  | d :: l, hs, e, h => by
    obtain ⟨h1, h2⟩ := nb_t (show nb (!writes d.a || bitOf d.m i) (behindAll i l) = true from hs)
    rcases List.mem_cons.1 h with rfl | h
    · rw [Bool.or_eq_true, Bool.not_eq_true'] at h1
      exact h1
    · exact behind_mem h2 e h
theorem still_weak {S : St} {all all' : List Did} {anc anc' : Nat} : ∀ {l : List Did}, (∀ D ∈ l, bitOf anc D.d.i = true → bitOf anc' D.d.i = true) → (∀ D ∈ l, evD t all' D.d = evD t all D.d) → still S t all anc l = true → still S t all' anc' l = true
  | [], _, _, _ => rfl
  | D :: l, ha, he, h => by
    obtain ⟨h1, h2⟩ := nb_t (show nb (bitOf anc D.d.i || still1 S t all D) (still S t all anc l) = true from h)
    show nb (bitOf anc' D.d.i || still1 S t all' D) (still S t all' anc' l) = true
    rw [still_weak (fun E hE => ha E (List.mem_cons_of_mem _ hE)) (fun E hE => he E (List.mem_cons_of_mem _ hE)) h2]
    rw [Bool.or_eq_true] at h1
    rcases h1 with h1 | h1
    · rw [ha D (by simp) h1]; rfl
    · have : still1 S t all' D = true := by
        have e : still1 S t all' D = still1 S t all D := by
          unfold still1
          rw [he D (by simp)]
        rw [e]
        exact h1
      rw [this, Bool.or_true]
      rfl
/-- What is ready there is ready here. -/
theorem ReI.rdy {did : List Did} {dm anc : Nat} {pend : List Cd} {dl : List Deferred} {S : St} (hI : EvI P lv ops t M did dm pend S) {f : Nat → Bool} {ρ : Ro} {a : Go.Act} {w : World} (h : ReI P lv nt N ops t ρ0 W0 did anc dl S f ρ a w) {d : Cd} (hdp : d ∈ pend) (hd : ∀ e ∈ d.o.after, Region.binds .any e = true → f e.on = true) :
    isRdy dm d = true ∧ (∀ j, bitOf d.m j = true → f j = true) := by
  obtain ⟨ho, _, _, hm, _⟩ := cd_op (hI.pcd d hdp)
  have hcl := closed_all h.cl ho hd
  rw [← hm] at hcl
  exact ⟨rdy_iff.2 fun j hj => (hI.dm_ j).2 (h.sub j (hcl j hj)), hcl⟩
/-- One write is next. -/
theorem reg1_sound {ih : Task → Res} (hih : IhOk P ih) (hz : ZeroOk P) (hn : namesOk ops (msOf ops) = true) {F : Fence} {n : Nat} (hF : Wide F) {did : List Did} {dm anc : Nat} {d0 : Cd} {rest : List Cd} {dl : List Deferred} {S : St} (hI : EvI P lv ops t M did dm (d0 :: rest) S) (hM : M ≤ S.nx) (hdst : ∀ o ∈ ops.toList, ∀ d, o.dst = some d → d < nt) (hnd : F.round ≠ none → ∀ o ∈ ops.toList, ∀ c, o.op ≠ .defer c)
    (hsw : swept t did dm (d0 :: rest) = true) {Q : Exit → Go.Act → World → Prop} {vx : Value} {Sx : St} {kr : Kr} (hact : kReg1 ih t kr did dm anc dl S d0 rest = .va vx Sx)
    (hkr : ∀ {did' : List Did} {dm' anc' : Nat} {dl' : List Deferred} {S' : St}, EvI P lv ops t M did' dm' rest S' → M ≤ S'.nx → kr did' dm' anc' rest dl' S' = .va vx Sx → ∀ (f : Nat → Bool) (ρ : Ro) (a : Go.Act) (w : World), ReI P lv nt N ops t ρ0 W0 did' anc' dl' S' f ρ a w → Goes F n P ops Q f a w) :
    ∀ (f f' : Nat → Bool) (ρ : Ro) (a : Go.Act) (w : World) (d : Cd) (o : Oper), ReI P lv nt N ops t ρ0 W0 did anc dl S f ρ a w → d ∈ d0 :: rest → ops[d.i]? = some o → f d.i = false → (∀ e ∈ o.after, Region.binds .any e = true → f e.on = true) → (∀ j, f' j = (f j || decide (j = d.i))) → wpOpIn F n P ops Q d.i (Goes F n P ops Q f') a w := by
  intro f f' ρ a w d o h hdp ho hf hd hf'
  obtain ⟨ho', _⟩ := cd_op (hI.pcd d hdp)
  rw [ho] at ho'
  cases ho'
  obtain ⟨hr, hmf⟩ := h.rdy hI hdp hd
  have h1 : bi (nb (writes d0.a) (nb (isRdy dm d0) (nb (wantE (evD t did d0) d0.g) (behindAll d0.i rest))))
    (doAct ih S (evD t did d0)
      (fun v S => kr (⟨d0, v, 3⟩ :: did) (Nat.lor dm (Nat.shiftLeft 1 d0.i)) (Nat.lor anc (Nat.lor d0.m (Nat.shiftLeft 1 d0.i))) rest dl S)
      (fun f => kr (⟨d0, undef, 3⟩ :: did) (Nat.lor dm (Nat.shiftLeft 1 d0.i)) (Nat.lor anc (Nat.lor d0.m (Nat.shiftLeft 1 d0.i))) rest (f :: dl) S) d0.a) .no = .va vx Sx := hact
  cases hc : nb (writes d0.a) (nb (isRdy dm d0) (nb (wantE (evD t did d0) d0.g) (behindAll d0.i rest))) with
  | false => rw [hc] at h1; cases h1
  | true =>
    rw [hc, bi_t] at h1
    obtain ⟨_, c2⟩ := nb_t hc
    obtain ⟨c3, c4⟩ := nb_t c2
    obtain ⟨c5, c6⟩ := nb_t c4
    have hdd : d = d0 := by
      rcases List.mem_cons.1 hdp with h2 | h2
      · exact h2
      · exfalso
        rcases behind_mem c6 d h2 with g | g
        · rw [(swept_mem hsw d hdp hr).1] at g
          cases g
        · obtain ⟨D, q1, q2⟩ := h.sub _ (hmf _ g)
          exact hI.disj d0 (by simp) D q1 q2
    subst hdd
    have hanc : ∀ j, bitOf (Nat.lor anc (Nat.lor d.m (Nat.shiftLeft 1 d.i))) j = true → f' j = true := fun j hj => by
      rw [bitOf_lor, bitOf_add, Bool.or_eq_true, Bool.or_eq_true] at hj
      rw [hf', Bool.or_eq_true]
      rcases hj with hj | hj | hj
      · exact .inl (h.anc j hj)
      · exact .inl (hmf j hj)
      · exact .inr hj
    refine new_step hih hz hn hF hI hdst hnd h hdp hf hd c5 h1 (fun σ S' w' v v' q1 q2 q3 q4 q5 => ?_) (fun d1 d' q1 q2 => ?_)
    · exact hkr (hI.add c3 q2 (.inr (.inr (.inr rfl))) (fun h => by cases h)) (Nat.le_trans hM q2) q5 f' σ _ w' (h.new hn hI hdst hdp hf hd hf' hanc q1 q3 q4 (by rw [(put_size _ _ _).2]; exact h.dl.le q1.le) rfl)
    · exact hkr (hI.add c3 (Nat.le_refl _) (.inr (.inr (.inr rfl))) (fun h => by cases h)) hM q2 f' ρ _ w (h.new hn hI hdst hdp hf hd hf' hanc (.refl _ _ _) h.st VR.undef (by rw [(put_size _ _ _).2]; exact .cons q1 h.dl) (by cases d.o.dst <;> rfl))
/-- Of two writes, one and then the other. -/
theorem two_half {ih : Task → Res} (hih : IhOk P ih) (hz : ZeroOk P) (hn : namesOk ops (msOf ops) = true) {F : Fence} {n : Nat} (hF : Wide F) {did : List Did} {dm anc : Nat} {x y : Cd} {dl : List Deferred} {S SA SB SC : St} (hI : EvI P lv ops t M did dm [x, y] S) (hNM : N ≤ M) (hlow : lowB ≤ M) (hdst : ∀ o ∈ ops.toList, ∀ d, o.dst = some d → d < nt)
    (hnd : F.round ≠ none → ∀ o ∈ ops.toList, ∀ c, o.op ≠ .defer c) (hrx : isRdy dm x = true) (hry : isRdy dm y = true) {kk : Value → St → Res} {kd : Deferred → Res} (hkk : ∀ v S, kk v S = .va v S) (hkd : ∀ d, kd d = .no) (hx : doAct ih S (evD t did x) kk kd x.a = .va undef SA) (hxw : wantE (evD t did x) x.g = true) (hxd : x.o.dst = none) (hy : doAct ih SA (evD t did y) kk kd y.a = .va undef SB) (hyw : wantE (evD t did y) y.g = true) (hyd : y.o.dst = none)
    (hAn : SA.nx = S.nx) (hCn : SC.nx = S.nx) (hBn : SB.nx = S.nx) (hBC : ∀ σ w, Sim P σ SB w → Sim P σ SC w) (hsA : still SA t did anc did = true) (hsC : still SC t did anc did = true) {Q : Exit → Go.Act → World → Prop} {vx : Value} {Sx : St} {k : Kn} (hK : KnOk P N ρ0 W0 nt lv (.va vx Sx) k (Q .normal)) (h0 : ∀ x v, bitOf lv x = true → t.get x = some v → x < nt)
    (hC : kFl k dl SC (putAll lv nt t did) = .va vx Sx) {f f' : Nat → Bool} {ρ : Ro} {a : Go.Act} {w : World} (h : ReI P lv nt N ops t ρ0 W0 did anc dl S f ρ a w) (hf : f x.i = false) (hd : ∀ e ∈ x.o.after, Region.binds .any e = true → f e.on = true) (hf' : ∀ j, f' j = (f j || decide (j = x.i))) : wpOpIn F n P ops Q x.i (Goes F n P ops Q f') a w := by
  have hxp : x ∈ [x, y] := by simp
  have hno : ∀ z ∈ [x, y], ∀ j, bitOf dm j = true → z.i ≠ j := fun z hz j hj e => by
    obtain ⟨D, h1, h2⟩ := (hI.dm_ j).1 hj
    exact hI.disj z hz D h1 (by rw [h2, e])
  have hxm : ∀ D ∈ did, bitOf D.d.m x.i ≠ true := fun D hD hb => hno x hxp _ (hI.rdy D hD _ hb) rfl
  have hym : ∀ D ∈ did, bitOf D.d.m y.i ≠ true := fun D hD hb => hno y (by simp) _ (hI.rdy D hD _ hb) rfl
  refine new_step hih hz hn hF hI hdst hnd h hxp hf hd hxw hx (fun σ S' w' v v' q1 q2 q3 q4 q5 => ?_) (fun d1 d' _ q2 => by rw [hkd] at q2; cases q2)
  rw [hkk] at q5
  cases q5
  -- the second stretch
  have hI1 : EvI P lv ops t M (⟨x, undef, 3⟩ :: did) (Nat.lor dm (Nat.shiftLeft 1 x.i)) [y] SA := hI.add hrx q2 (.inr (.inr (.inr rfl))) (fun h => by cases h)
  have hanc1 : ∀ j, bitOf (Nat.lor anc (Nat.shiftLeft 1 x.i)) j = true → f' j = true := fun j hj => by
    rw [bitOf_add, Bool.or_eq_true] at hj
    rw [hf', Bool.or_eq_true]
    exact hj.imp_left (h.anc j)
  have h1 := h.new hn hI hdst hxp hf hd hf' hanc1 q1 q3 q4 (by rw [(put_size _ _ _).2]; exact h.dl.le q1.le) rfl
  have hyx : bitOf y.m x.i ≠ true := fun hb => hno x hxp _ (rdy_iff.1 hry _ hb) rfl
  have e1 : ∀ D ∈ did, evD t ((⟨x, undef, 3⟩ : Did) :: did) D.d = evD t did D.d := fun D hD => evD_cons (E := ⟨x, undef, 3⟩) (hI.dcd D hD) (hxm D hD)
  have ey : evD t ((⟨x, undef, 3⟩ : Did) :: did) y = evD t did y := evD_cons (E := ⟨x, undef, 3⟩) (hI.pcd y (by simp)) hyx
  have hs1 : still SA t (⟨x, undef, 3⟩ :: did) (Nat.lor anc (Nat.shiftLeft 1 x.i)) (⟨x, undef, 3⟩ :: did) = true := by
    show nb (bitOf (Nat.lor anc (Nat.shiftLeft 1 x.i)) x.i || _) (still SA t (⟨x, undef, 3⟩ :: did) (Nat.lor anc (Nat.shiftLeft 1 x.i)) did) = true
    rw [still_weak (fun D _ hb => by rw [bitOf_add, hb]; rfl) e1 hsA, bitOf_add]
    simp [nb_eq]
  refine stretch hz hn hF hI1 hNM hlow hs1 hdst (fun g g' τ b u d o hh hdp ho hg hdd hg' => ?_) (fun h => by cases h) f' σ _ w' h1
  have hdy : d = y := by simpa using hdp
  subst hdy
  obtain ⟨ho', _⟩ := cd_op (hI1.pcd d hdp)
  rw [ho] at ho'
  cases ho'
  refine new_step hih hz hn hF hI1 hdst hnd hh hdp hg hdd (by rw [ey]; exact hyw) (by rw [ey]; exact hy) (fun σ2 S2 w2 v2 v2' r1 r2 r3 r4 r5 => ?_) (fun d1 d' _ q2 => by rw [hkd] at q2; cases q2)
  rw [hkk] at r5
  cases r5
  have hI2 : EvI P lv ops t M (⟨d, undef, 3⟩ :: ⟨x, undef, 3⟩ :: did) (Nat.lor (Nat.lor dm (Nat.shiftLeft 1 x.i)) (Nat.shiftLeft 1 d.i)) [] SC := hI1.add (rdy_iff.2 fun j hj => by rw [bitOf_add, rdy_iff.1 hry j hj]; rfl) (by rw [hAn, hCn]; exact Nat.le_refl _) (.inr (.inr (.inr rfl))) (fun h => by cases h)
  have r3' : StR P N ρ0 W0 σ2 SC w2 := ⟨hBC _ _ r3.sim, r3.ext, by rw [hCn, ← hBn]; exact r3.nx⟩
  have hanc2 : ∀ j, bitOf (Nat.lor (Nat.lor anc (Nat.shiftLeft 1 x.i)) (Nat.shiftLeft 1 d.i)) j = true → g' j = true := fun j hj => by
    rw [bitOf_add, Bool.or_eq_true] at hj
    rw [hg', Bool.or_eq_true]
    exact hj.imp_left (hh.anc j)
  have h2 := hh.new hn hI1 hdst hdp hg hdd hg' hanc2 r1 r3' r4 (by rw [(put_size _ _ _).2]; exact hh.dl.le r1.le) rfl
  have e2 : ∀ D ∈ did, evD t ((⟨d, undef, 3⟩ : Did) :: (⟨x, undef, 3⟩ : Did) :: did) D.d = evD t did D.d := fun D hD => by
    rw [evD_cons (E := ⟨d, undef, 3⟩) (hI.dcd D hD) (hym D hD), e1 D hD]
  have hs2 : still SC t (⟨d, undef, 3⟩ :: ⟨x, undef, 3⟩ :: did) (Nat.lor (Nat.lor anc (Nat.shiftLeft 1 x.i)) (Nat.shiftLeft 1 d.i)) (⟨d, undef, 3⟩ :: ⟨x, undef, 3⟩ :: did) = true := by
    show nb (bitOf (Nat.lor (Nat.lor anc (Nat.shiftLeft 1 x.i)) (Nat.shiftLeft 1 d.i)) d.i || _) (nb (bitOf (Nat.lor (Nat.lor anc (Nat.shiftLeft 1 x.i)) (Nat.shiftLeft 1 d.i)) x.i || _) (still SC t (⟨d, undef, 3⟩ :: ⟨x, undef, 3⟩ :: did) (Nat.lor (Nat.lor anc (Nat.shiftLeft 1 x.i)) (Nat.shiftLeft 1 d.i)) did)) = true
    rw [still_weak (fun D _ hb => by rw [bitOf_add, bitOf_add, hb]; rfl) e2 hsC, bitOf_add, bitOf_add, bitOf_add, bitOf_add]
    simp [nb_eq]
  refine stretch hz hn hF hI2 hNM hlow hs2 hdst (fun g g' τ b u d o _ hdp => by cases hdp) (fun _ p τ b u hh2 hall => ?_) g' σ2 _ w2 h2
  have hput : putAll lv nt t (⟨d, undef, 3⟩ :: ⟨x, undef, 3⟩ :: did) = putAll lv nt t did := by
    simp only [putAll, hxd, hyd]
    cases putAll lv nt t did <;> rfl
  cases hp : putAll lv nt t did with
  | none => rw [hp] at hC; cases hC
  | some t' =>
    rw [hp] at hC
    exact hK τ SC u t' dl b hh2.st (hh2.frame hn hI2 hall h0 (by rw [hput, hp])) hh2.dl hC
end
end Go.Proofs.YtnfclcfcpgfajaaGreatDoor.Ev

/- Regions that draw their order are as they are told; so what the evaluator answers, the program answers. -/
namespace Go.Proofs.YtnfclcfcpgfajaaGreatDoor.Ev
open Go Go.RowKit
section
variable {P : Program} {lv nt N M : Nat} {ops : Array Oper} {t : Tr Value} {ρ0 : Ro} {W0 : World}

theorem store_act {ih : Task → Res} {o : Oper} {ty : TypeId} {x y : Operand} {n : Nat} {S S' : St} {ev : Operand → Value} {a : Addr} (ho : o.op = .store ty x y) (hs : sizeT P ty = some n) (ha : ev x = .pointer (some a)) (hz : ofSize (ev y) n = true) (h : storeV S a.block a.off (cellsL (ev y)) = some S') :
    doAct ih S ev (fun v S => .va v S) (fun _ => .no) (actOf P o) = .va undef S' := by
  obtain ⟨dst, op, type, p, after, guard⟩ := o
  have ho' : op = .store ty x y := ho
  subst ho'
  show rE (fun v S => .va v S) (eStore S (sizeT P ty) (ev x) (ev y)) = .va undef S'
  rw [hs, ha]
  show rE (fun v S => .va v S) (bi (ofSize (ev y) n) (vS undef (storeV S a.block a.off (cellsL (ev y)))) none) = .va undef S'
  rw [hz, h]
  rfl
/-- A region that draws its order. -/
theorem regD_sound {ih : Task → Res} (hih : IhOk P ih) (hz : ZeroOk P) (hn : namesOk ops (msOf ops) = true) {F : Fence} {n : Nat} (hF : Wide F) (hNM : N ≤ M) (hlow : lowB ≤ M) (hdst : ∀ o ∈ ops.toList, ∀ d, o.dst = some d → d < nt) (hnd : F.round ≠ none → ∀ o ∈ ops.toList, ∀ c, o.op ≠ .defer c) {Q : Exit → Go.Act → World → Prop} {vx : Value} {Sx : St} {k : Kn}
    (hK : KnOk P N ρ0 W0 nt lv (.va vx Sx) k (Q .normal)) (h0 : ∀ x v, bitOf lv x = true → t.get x = some v → x < nt) :
    ∀ (u : List Cd) {did : List Did} {dm anc : Nat} {pend : List Cd} {dl : List Deferred} {S : St}, EvI P lv ops t M did dm pend S → M ≤ S.nx → regD P ih k nt lv t u did dm anc pend dl S = .va vx Sx → ∀ (f : Nat → Bool) (ρ : Ro) (a : Go.Act) (w : World), ReI P lv nt N ops t ρ0 W0 did anc dl S f ρ a w → Goes F n P ops Q f a w
  | [], did, dm, anc, pend, dl, S, _, _, h, _, _, _, _, _ => by cases h
  | c :: u, did, dm, anc, pend, dl, S, hI, hM, h, f, ρ, a, w, hR => by
    have h1 : kSwept P ih k nt lv t (regD P ih k nt lv t u) anc dl (sweep t pend ⟨[], did, dm, S⟩) = .va vx Sx := h
    cases hs : sweep t pend ⟨[], did, dm, S⟩ with
    | none => rw [hs] at h1; cases h1
    | some s =>
      rw [hs] at h1
      have h2 : bi (nb (swept t s.did s.dm s.pend) (still s.S t s.did anc s.did)) (kReg P ih k nt lv t (regD P ih k nt lv t u) s.did s.dm anc dl s.S s.pend) .no = .va vx Sx := h1
      cases hc : nb (swept t s.did s.dm s.pend) (still s.S t s.did anc s.did) with
      | false => rw [hc] at h2; cases h2
      | true =>
        rw [hc, bi_t] at h2
        obtain ⟨hsw, hst⟩ := nb_t hc
        obtain ⟨hI', hG⟩ := sweep_ok (s := ⟨[], did, dm, S⟩) hI hM hs
        have hM' : M ≤ s.S.nx := Nat.le_trans hM hG.nx
        have hkeep : ∀ j, f j = true → didV j s.did = didV j did := fun j hj => by
          obtain ⟨D, q1, rfl⟩ := hR.sub j hj
          rw [didV_mem hI'.dnd (hG.mem D q1), didV_mem hI.dnd q1]
        have hR' : ReI P lv nt N ops t ρ0 W0 s.did anc dl s.S f ρ a w := by
          refine ⟨fun j hj => ?_, hR.cl, hR.anc, fun D hD hk => ?_, ⟨hG.sim ρ w hR.st.sim, hR.st.ext, Nat.le_trans hR.st.nx hG.nx⟩, fun D hD hk hf u hu => ?_, fun x => ?_, hR.sz, hR.dl⟩
          · obtain ⟨D, q1, q2⟩ := hR.sub j hj
            exact ⟨D, hG.mem D q1, q2⟩
          · rcases hG.new D hD with q | q
            · exact hR.k3 D q hk
            · exact absurd hk q.1
          · rcases hG.new D hD with q | q
            · exact hR.un D q hk hf u hu
            · have := q.2 u hu hk
              cases hat : ρ.at_ u with
              | none => rfl
              | some p =>
                have h3 : S.nx ≤ u := this
                have := (hR.st.sim.low u p.1 p.2 hat).1
                omega
          · have := hR.fr x
            cases hp : posP f x (dsOf ops.toList ops.size) with
            | none =>
              rw [hp] at this
              have e : gd t s.did (baseRef lv x none) = gd t did (baseRef lv x none) := by
                show gd t s.did (bi (bitOf lv x) (.b x) (.k Top)) = gd t did (bi (bitOf lv x) (.b x) (.k Top))
                cases bitOf lv x <;> rfl
              rw [e]
              exact this
            | some r =>
              rw [hp] at this
              obtain ⟨j, rfl, _, hj⟩ := posP_mem hp
              have e : gd t s.did (baseRef lv x (some (.v j))) = gd t did (baseRef lv x (some (.v j))) := hkeep j hj
              rw [e]
              exact this
        have one : ∀ {d : Cd} {rest : List Cd}, s.pend = d :: rest → kReg1 ih t (regD P ih k nt lv t u) s.did s.dm anc dl s.S d rest = .va vx Sx → Goes F n P ops Q f a w := fun {d rest} hp hk => by
          rw [hp] at hI' hsw
          exact stretch hz hn hF hI' hNM hlow hst hdst (reg1_sound hih hz hn hF hI' hM' hdst hnd hsw hk fun hI2 hM2 hk2 => regD_sound hih hz hn hF hNM hlow hdst hnd hK h0 u hI2 hM2 hk2) (fun h => by cases h) f ρ a w hR'
        have h3 : kReg P ih k nt lv t (regD P ih k nt lv t u) s.did s.dm anc dl s.S s.pend = .va vx Sx := h2
        cases hp : s.pend with
        | nil =>
          rw [hp] at h3 hI'
          have h4 : kFl k dl s.S (putAll lv nt t s.did) = .va vx Sx := h3
          refine stretch hz hn hF hI' hNM hlow hst hdst (fun g g' τ b u d o _ hdp => by cases hdp) (fun _ p τ b u hh hall => ?_) f ρ a w hR'
          cases hq : putAll lv nt t s.did with
          | none => rw [hq] at h4; cases h4
          | some t' =>
            rw [hq] at h4
            exact hK τ s.S u t' dl b hh.st (hh.frame hn hI' hall h0 hq) hh.dl h4
        | cons d rest =>
          rw [hp] at h3
          match rest, hp, h3 with
          | [], hp, h3 => exact one hp h3
          | d1 :: d2 :: rest, hp, h3 => exact one hp h3
          | [e], hp, h3 =>
            have h4 : bi (bitOf e.m d.i || !writes e.a) (kReg1 ih t (regD P ih k nt lv t u) s.did s.dm anc dl s.S d [e]) (kTwo k nt lv t s.did s.dm anc d e dl (twoStores P s.S t s.did d e)) = .va vx Sx := h3
            cases hb : bitOf e.m d.i || !writes e.a with
            | true => rw [hb, bi_t] at h4; exact one hp h4
            | false =>
              rw [hb, bi_f] at h4
              rw [hp] at hI' hsw
              cases ht : twoStores P s.S t s.did d e with
              | none => rw [ht] at h4; cases h4
              | some p =>
                obtain ⟨S1, S2, S3⟩ := p
                rw [ht] at h4
                have h5 : bi (nb (isRdy s.dm d) (nb (isRdy s.dm e) (nb (still S1 t s.did anc s.did) (nb (still S2 t s.did anc s.did) (still S3 t s.did anc s.did))))) (kFl k dl S3 (putAll lv nt t s.did)) .no = .va vx Sx := h4
                cases hc2 : nb (isRdy s.dm d) (nb (isRdy s.dm e) (nb (still S1 t s.did anc s.did) (nb (still S2 t s.did anc s.did) (still S3 t s.did anc s.did)))) with
                | false => rw [hc2] at h5; cases h5
                | true =>
                  rw [hc2, bi_t] at h5
                  obtain ⟨c1, c2⟩ := nb_t hc2
                  obtain ⟨c3, c4⟩ := nb_t c2
                  obtain ⟨c5, c6⟩ := nb_t c4
                  obtain ⟨c7, c8⟩ := nb_t c6
                  obtain ⟨t1, a1, x1, n1, t2, a2, x2, n2, aa, ab, S4, d1, d2, d3, d4, e1, e2, e3, e4, p1, p2, z1, z2, hne, q1, q2, q3, q4⟩ := two_some_ ht
                  obtain ⟨s1, s2, s3, s4, s5, s6, s7⟩ := two_same hne q1 q2 q3 q4
                  obtain ⟨hod, had, hgd, _⟩ := cd_op (hI'.pcd d (by simp))
                  obtain ⟨hoe, hae, hge, _⟩ := cd_op (hI'.pcd e (by simp))
                  have wd : wantE (evD t s.did d) d.g = true := by rw [hgd]; unfold guardT; rw [d3]; rfl
                  have we : wantE (evD t s.did e) e.g = true := by rw [hge]; unfold guardT; rw [e3]; rfl
                  have ad1 : doAct ih s.S (evD t s.did d) (fun v S => .va v S) (fun _ => .no) d.a = .va undef S1 := by rw [had]; exact store_act d1 d4 p1 z1 (storeQ_some q1).1
                  have ae1 : doAct ih s.S (evD t s.did e) (fun v S => .va v S) (fun _ => .no) e.a = .va undef S2 := by rw [hae]; exact store_act e1 e4 p2 z2 (storeQ_some q2).1
                  have ae2 : doAct ih S1 (evD t s.did e) (fun v S => .va v S) (fun _ => .no) e.a = .va undef S3 := by rw [hae]; exact store_act e1 e4 p2 z2 (storeQ_some q3).1
                  have ad2 : doAct ih S2 (evD t s.did d) (fun v S => .va v S) (fun _ => .no) d.a = .va undef S4 := by rw [had]; exact store_act d1 d4 p1 z1 (storeQ_some q4).1
                  refine stretch hz hn hF hI' hNM hlow hst hdst (fun g g' τ b v z o hh hzp hoz hgz hdz hgz' => ?_) (fun h => by cases h) f ρ a w hR'
                  have hz2 : z = d ∨ z = e := by simpa using hzp
                  rcases hz2 with rfl | rfl
                  · rw [hod] at hoz
                    cases hoz
                    exact two_half hih hz hn hF hI' hNM hlow hdst hnd c1 c3 (fun _ _ => rfl) (fun _ => rfl) ad1 wd d2 ae2 we e2 s5 s7 s7 (fun _ _ h => h) c5 c8 hK h0 h5 hh hgz hdz hgz'
                  · rw [hoe] at hoz
                    cases hoz
                    exact two_half hih hz hn hF (hI'.perm (List.Perm.swap z d [])) hNM hlow hdst hnd c3 c1 (fun _ _ => rfl) (fun _ => rfl) ae1 we e2 ad2 wd d2 s6 s7 (by rw [← s2]; exact s7) (fun _ _ h => h.congr s1 s2 s3 s4) c7 c8 hK h0 h5 hh hgz hdz hgz'
theorem posP_none (x : Tmp) : ∀ (l : List (Nat × Option Tmp)), posP (fun _ => false) x l = none
  | [] => rfl
  | (i, d) :: l => by rw [posP_cons, if_neg (fun h => by cases h.2), posP_none x l]
/-- All regions that draw their order. -/
theorem draw_ok (hm : P.follows .mixedOrders = true) (hz : ZeroOk P) : DrawOk P := by
  intro ih hih F n hF N ρ0 W0 Sx vx lv nt id ops k Q hK hdst hnd ρ S W t dl a hst hfr hdl hn h
  refine wpIn_region_any hm ?_
  have hlow : lowB ≤ S.nx := hst.sim.nx
  have hst' : StR P N ρ0 W0 ρ S W.drew := ⟨hst.sim.drew, hst.ext.trans (Ext.drew N ρ W), hst.nx⟩
  have hR : ReI P lv nt N ops t ρ0 W0 [] 0 dl S (fun _ => false) ρ a W.drew := by
    refine ⟨(fun j h => by cases h), (fun j h => by cases h), (fun j h => by rw [bitOf_zero] at h; cases h), (fun D h => by cases h), hst', (fun D h => by cases h), fun x => ?_, hfr.1, hdl⟩
    rw [posP_none]
    show VR ρ (gd t [] (bi (bitOf lv x) (.b x) (.k Top))) _
    cases hb : bitOf lv x with
    | false => exact .ofTop
    | true =>
      show VR ρ (orTop (t.get x)) _
      cases ht : t.get x with
      | none => exact .ofTop
      | some v =>
        obtain ⟨w, h1, h2⟩ := hfr.2 x v hb ht
        rw [Array.getD_eq_getD_getElem?, h1]
        exact h2
  have h0 : ∀ x v, bitOf lv x = true → t.get x = some v → x < nt := fun x v hx hv => by
    obtain ⟨w, hw, _⟩ := hfr.2 x v hx hv
    have := (Array.getElem?_eq_some_iff.1 hw).1
    rw [hfr.1] at this
    exact this
  exact regD_sound hih hz hn hF hst.nx hlow hdst hnd hK h0 _ (EvI.start S) (Nat.le_refl _) h (fun _ => false) ρ a W.drew hR ops.size (Array.replicate ops.size false) (by simp) (fun j => by by_cases hj : j < ops.size <;> simp [hj]) (by unfold unE; simp)
/-- **What the evaluator answers, the program answers, and nothing that was there is touched.** -/
theorem eval_sound {X : FuncId → Nat} {Y : FuncId → Nat → Bool} (hm : P.follows .mixedOrders = true) (hP : ProgOk P X Y) {n : Nat} {g : FuncId} {args : List Value} {v : Value} {S1 : St} (h : run P X Y n (.call g args St.none_) = .va v S1) (ha : allL plain args = true) (hv : plain v = true) {W : World}
    (hb : ∃ (fn : Func) (b : Code), P.funcs[g]? = some fn ∧ fn.body = some b) : Calls P g args.toArray W fun e W' => e = .returned v ∧ Below W.heap.size W W' :=
  run_sound (draw_ok hm hP.zero) hP h ha hv hb
#print axioms eval_sound
end
end Go.Proofs.YtnfclcfcpgfajaaGreatDoor.Ev

/- What is asked of a program, looked up in it. -/
namespace Go.Proofs.YtnfclcfcpgfajaaGreatDoor.Ev
open Go Go.RowKit
noncomputable section
section
variable {P : Program}

/-- Is a type's zero as long as the type? -/
def zero1 (i : TypeInfo) : Bool :=
  match i.zero with
  | some v => bi (plain v) (Nat.beq i.size (lenV (cellsL v))) true
  | none => true
theorem zero_ok (h : allL zero1 P.types.toList = true) : ZeroOk P := by
  rw [allL_eq, List.all_eq_true] at h
  intro t z hz
  unfold zeroL at hz
  cases hv : zeroV P t with
  | none => rw [hv] at hz; cases hz
  | some v =>
    rw [hv] at hz
    cases hz
    obtain ⟨h1, i, h2, h3⟩ := zeroV_types hv
    have h4 := h i (List.mem_of_getElem? (by rw [Array.getElem?_toList]; exact h2))
    unfold zero1 at h4
    rw [h3] at h4
    have h5 : bi (plain v) (Nat.beq i.size (lenV (cellsL v))) true = true := h4
    rw [h1, bi_t] at h5
    unfold sizeT
    rw [info_types h2]
    have := beq_t h5
    rw [lenV_eq] at this
    rw [← this]
def num1 (fn : Func) : Bool := fn.body.isNone || !(fn.name == "runtime.NumGoroutine")
theorem num_ok (h : P.funcs.toList.all num1 = true) : NumOk P := by
  intro g fn hf hb
  rw [List.all_eq_true] at h
  have h1 := h fn (List.mem_of_getElem? (by rw [Array.getElem?_toList]; exact hf))
  unfold num1 at h1
  rw [Bool.or_eq_true] at h1
  rcases h1 with h1 | h1
  · cases hbd : fn.body with
    | none => rw [hbd] at hb; cases hb
    | some c => rw [hbd] at h1; cases h1
  · simpa using h1
/-- Functions without a body that the model has an answer for. -/
theorem ext_ok {X : FuncId → Nat} (h1 : ∀ g, X g = 1 → ∃ fn, P.funcs[g]? = some fn ∧ (fn.name == "runtime.NumGoroutine") = false ∧ fn.body.isNone = true ∧ Extern.findNext fn = none ∧ Extern.find fn = some Extern.BytealgCount.count)
    (h2 : ∀ g, X g = 2 → ∃ fn, P.funcs[g]? = some fn ∧ (fn.name == "runtime.NumGoroutine") = false ∧ fn.body.isNone = true ∧ Extern.findNext fn = none ∧ Extern.find fn = some Extern.BytealgIndexByte.indexByte) : XOk P X := by
  refine ⟨fun g hg args W v hr => ?_, fun g hg args W v hr => ?_⟩
  · obtain ⟨fn, a, b, c, d, e⟩ := h1 g hg
    rw [run_callFunc_extern a b c d e, hr]
    rfl
  · obtain ⟨fn, a, b, c, d, e⟩ := h2 g hg
    rw [run_callFunc_extern a b c d e, hr]
    rfl
end
end
end Go.Proofs.YtnfclcfcpgfajaaGreatDoor.Ev
