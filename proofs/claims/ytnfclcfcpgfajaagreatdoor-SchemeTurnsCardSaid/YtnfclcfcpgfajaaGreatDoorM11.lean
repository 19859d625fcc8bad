/- A part of the proof that parser laws hold: texts of the walk and of its plain laws, made small. -/
import Derived.Test.YtnfclcfcpgfajaaGreatDoorM10
import Derived.Deep.AppendSrc
import Derived.Laws.AppendOwn
set_option linter.unusedVariables false
set_option linter.unusedSimpArgs false
/- What append comes to in the model. -/
namespace Go.Proofs.YtnfclcfcpgfajaaGreatDoor.Ev
open Go Go.RowKit
section
variable {P : Program} {ρ : Ro} {S : St} {W : World}

/-- The second argument is no number. -/
def NotI (P : Program) (ts : Array TypeId) : Prop := ts[1]? = none ∨ ∃ tx d, ts[1]? = some tx ∧ P.underlying tx = some d ∧ ∀ k, d ≠ .int k
theorem notInt_some {t : TypeId} {r : List TypeId} {ts : Array TypeId} (hts : ts.toList = t :: r) (h : notInt P r = true) : NotI P ts := by
  have hg : ts[1]? = r[0]? := by rw [← Array.getElem?_toList, hts]; rfl
  cases r with
  | nil => exact .inl hg
  | cons u r =>
    refine .inr ?_
    cases hu : ti P u with
    | none => simp only [notInt, hu] at h; cases h
    | some d =>
      simp only [notInt, hu] at h
      obtain ⟨d, n⟩ := d
      refine ⟨u, d, hg, (ti_some hu).1, fun k e => ?_⟩
      subst e
      cases h
/-- What kind the second argument's type is of then says nothing. -/
theorem app_one {ts : Array TypeId} {t ty e : TypeId} (hts : ts[0]? = some t) (hu : P.underlying t = some (.slice e)) (hn : NotI P ts) (args : Array Value) (W : World) : (Builtin.append_ ts ty args).run P W = (Builtin.append_ #[t] ty args).run P W := by
  have h0 : (#[t] : Array TypeId)[0]? = some t := rfl
  have h00 : (#[t] : Array TypeId)[1]? = none := rfl
  rcases hn with h1 | ⟨tx, d, h1, h2, h3⟩
  · simp only [Builtin.append_, hts, h0, h1, h00]
  · simp only [Builtin.append_, hts, h0, h1, h00]
    cases args[0]? with
    | none => rfl
    | some s =>
      cases args[1]? with
      | none => rfl
      | some x =>
        simp only [Sem.run_bind, run_underlying hu, Result.andThen_ok]
        cases s with
        | slice a n c =>
          simp only [Sem.run_bind, run_underlying h2]
          cases hz : (sizeOf e).run P W with
          | halt x w => rfl
          | ok sz w =>
            simp only [Result.andThen_ok, run_underlying h2, Sem.run_pure]
        | _ => rfl
theorem app_room {ts : Array TypeId} {t ty e : TypeId} {i : TypeInfo} (hts : ts[0]? = some t) (hu : P.underlying t = some (.slice e)) (hi : P.info? e = some i) (hn : NotI P ts) {b : Option Addr} {sLen sCap n : Nat} {x : Value} {news : Array Value} {W' : World}
    (hl : ∀ w, (Builtin.lenOf x).run P w = .ok n w) (hc : (Builtin.firstCells i.size n x).run P W = .ok news W) (hr : sLen + n ≤ sCap) (hst : ∀ a, b = some a → (storeCells (a.add (sLen * i.size)) news.toList).run P W = .ok () W') (hb : b = none → W' = W) :
    (Builtin.append_ ts ty #[.slice b sLen sCap, x]).run P W = .ok (.slice b (sLen + n) sCap) W' := by
  rw [app_one hts hu hn]
  cases b with
  | none => cases hb rfl; simp [Builtin.append_, run_underlying hu, sizeOf, typeInfo, hi, hl, hr, hc]
  | some a => simp [Builtin.append_, run_underlying hu, sizeOf, typeInfo, hi, hl, hr, hc, hst a rfl]
theorem app_grow {ts : Array TypeId} {t ty e : TypeId} {i : TypeInfo} {z : Value} (hts : ts[0]? = some t) (hu : P.underlying t = some (.slice e)) (hi : P.info? e = some i) (hz : i.zero = some z) (hn : NotI P ts) {b : Option Addr} {sLen sCap n : Nat} {x : Value} {olds news : List Value}
    (hl : ∀ w, (Builtin.lenOf x).run P w = .ok n w) (hc : (Builtin.firstCells i.size n x).run P W.drew = .ok news.toArray W.drew) (ho : (Builtin.firstCells i.size sLen (.slice b sLen sCap)).run P W.drew = .ok olds.toArray W.drew)
    (hg : sCap < sLen + n) (hm : sLen + n ≤ 100000) (hby : i.bytes ≤ 1000000) :
    (Builtin.append_ ts ty #[.slice b sLen sCap, x]).run P W = .ok (.slice (some ⟨W.heap.size, 0, none⟩) (sLen + n) (grownCap W (sLen + n) sCap e))
        (W.drew.alloc (.cells ((olds ++ news).toArray ++ Builtin.zeroCells z.cells (grownCap W (sLen + n) sCap e - (sLen + n))) e)) := by
  have hn' : ¬ (sLen + n ≤ sCap) := by omega
  have h63' : ¬ (9223372036854775807 < ((sLen : Int) + (n : Int))) := by omega
  have hcap : Builtin.nextslicecap (sLen + n) sCap ≤ 300000 := by
    have grow : ∀ r c, c ≤ 200000 → Builtin.growBy (sLen + n) r c ≤ 300000 := by
      intro r
      induction r with
      | zero => intro c h; simp only [Builtin.growBy]; omega
      | succ r ih =>
        intro c h
        simp only [Builtin.growBy]
        split
        · omega
        · exact ih _ (by omega)
    unfold Builtin.nextslicecap
    split
    · omega
    · split
      · omega
      · exact grow _ _ (by omega)
  have h48' : ¬ (281474976710656 < Builtin.nextslicecap (sLen + n) sCap * i.bytes) := by
    have := Nat.mul_le_mul hcap hby
    omega
  rw [app_one hts hu hn]
  simp [Builtin.append_, run_underlying hu, sizeOf, typeInfo, zeroValue, hi, hz, hl, hn', h63', h48', Question.forced, hc, ho, newRow, grownCap]
  congr 2
  apply Array.ext'
  simp [List.append_assoc]
end
end Go.Proofs.YtnfclcfcpgfajaaGreatDoor.Ev

/- Rows that grow where they lie, or move. -/
namespace Go.Proofs.YtnfclcfcpgfajaaGreatDoor.Ev
open Go Go.RowKit
section
variable {P : Program} {ρ : Ro} {S : St} {W : World}

theorem delL_get : ∀ {l : List Nat} {h : Tr Ob} (k : Nat), (delL h l).get k = if k ∈ l then none else h.get k
  | [], h, k => by simp [delL]
  | m :: l, h, k => by
    rw [delL, delL_get (l := l) (h := h.del m) k, Tr.get_del]
    by_cases hk : k = m
    · simp [hk]
    · simp [hk]
/-- A row gets a family. -/
theorem Sim.famed (hS : Sim P ρ S W) {b fam : Nat} {S1 : St} (h : famR S b (S.h.get b) = some (fam, S1)) :
    Sim P ρ S1 W ∧ S1.nx = S.nx ∧ fam ≠ 0 ∧ fam < S1.nf ∧ ∃ cs ty base l, S1.h.get b = some (.row cs ty fam base) ∧ S1.fam.get fam = some l ∧ b ∈ l := by
  cases ho : S.h.get b with
  | none => rw [ho] at h; cases h
  | some o =>
    rw [ho] at h
    cases o with
    | row cs ty f base =>
      have h' : bi (Nat.beq f 0) (some (S.nf, (⟨S.h.put b (.row cs ty S.nf base), S.nx, S.fam.put S.nf [b], Nat.succ S.nf⟩ : St))) (some (f, S)) = some (fam, S1) := h
      cases hb : Nat.beq f 0 with
      | false =>
        rw [hb] at h'
        cases h'
        have hf := beq_f hb
        obtain ⟨h1, l, h2, h3⟩ := hS.mem b cs ty _ base ho hf
        exact ⟨hS, rfl, hf, h1, cs, ty, base, l, ho, h2, h3⟩
      | true =>
        rw [hb] at h'
        cases h'
        have hf := beq_t hb
        rw [hf] at ho
        have hnf := hS.nf
        have single : ∀ k o B sh sh', k ≠ b → S.h.get k = some o → ρ.at_ k = some (B, sh) → ρ.at_ b = some (B, sh') → False := fun k o B sh sh' hk h1 h2 h3 => by
          obtain ⟨_, _, _, _, _, _, _, z, z0, _⟩ := hS.fam k b o _ B sh sh' hk h1 ho h2 h3
          cases z
          exact z0 rfl
        refine ⟨⟨hS.low, fun k o h => ?_, fun k o B sh h1 h2 => ?_, fun k k' o o' B s1 s2 hne h1 h2 h3 h4 => ?_, fun k cs1 ty1 f1 base1 h1 h2 => ?_, hS.base, hS.glob, Nat.succ_pos _, hS.nx⟩, rfl, by omega, Nat.lt_succ_self _, cs, ty, base, [b], ?_, ?_, by simp⟩
        · have h' : (S.h.put b (.row cs ty S.nf base)).get k = some o := h
          rw [Tr.get_put] at h'
          by_cases hk : k = b
          · subst hk; exact hS.new _ _ ho
          · rw [if_neg hk] at h'; exact hS.new k o h'
        · have h' : (S.h.put b (.row cs ty S.nf base)).get k = some o := h1
          rw [Tr.get_put] at h'
          by_cases hk : k = b
          · subst hk
            rw [if_pos rfl] at h'
            cases h'
            obtain ⟨x, hx, hR⟩ := hS.ob _ _ _ _ ho h2
            exact ⟨x, hx, hR⟩
          · rw [if_neg hk] at h'; exact hS.ob k o B sh h' h2
        · have g1 : (S.h.put b (.row cs ty S.nf base)).get k = some o := h1
          have g2 : (S.h.put b (.row cs ty S.nf base)).get k' = some o' := h2
          rw [Tr.get_put] at g1 g2
          by_cases hk : k = b
          · subst hk
            rw [if_neg (Ne.symm hne)] at g2
            exact (single k' o' B s2 s1 (Ne.symm hne) g2 h4 h3).elim
          · by_cases hk' : k' = b
            · subst hk'
              rw [if_neg hk] at g1
              exact (single k o B s1 s2 hk g1 h3 h4).elim
            · rw [if_neg hk] at g1
              rw [if_neg hk'] at g2
              exact hS.fam k k' o o' B s1 s2 hne g1 g2 h3 h4
        · have g1 : (S.h.put b (.row cs ty S.nf base)).get k = some (.row cs1 ty1 f1 base1) := h1
          show f1 < S.nf + 1 ∧ ∃ l, (S.fam.put S.nf [b]).get f1 = some l ∧ k ∈ l
          rw [Tr.get_put] at g1
          rw [Tr.get_put]
          by_cases hk : k = b
          · subst hk
            rw [if_pos rfl] at g1
            cases g1
            exact ⟨by omega, [k], by rw [if_pos rfl], by simp⟩
          · rw [if_neg hk] at g1
            obtain ⟨q1, l, q2, q3⟩ := hS.mem k cs1 ty1 f1 base1 g1 h2
            exact ⟨by omega, l, by rw [if_neg (by omega)]; exact q2, q3⟩
        · show (S.h.put b (.row cs ty S.nf base)).get b = _
          rw [Tr.get_put, if_pos rfl]
        · show (S.fam.put S.nf [b]).get S.nf = _
          rw [Tr.get_put, if_pos rfl]
    | _ => cases h
/-- Less is told. -/
theorem Sim.thin (hS : Sim P ρ S W) {S' : St} (hn : S'.nx = S.nx) (hf : S'.nf = S.nf) (hsub : ∀ k o, S'.h.get k = some o → S.h.get k = some o)
    (hmem : ∀ k cs ty f base, S'.h.get k = some (.row cs ty f base) → f ≠ 0 → f < S'.nf ∧ ∃ l, S'.fam.get f = some l ∧ k ∈ l) : Sim P ρ S' W :=
  ⟨fun b B sh h => by rw [hn]; exact hS.low b B sh h, fun k o h => by rw [hn]; exact hS.new k o (hsub k o h), fun k o B sh h h' => hS.ob k o B sh (hsub k o h) h',
   fun k k' o o' B s1 s2 hne h1 h2 h3 h4 => hS.fam k k' o o' B s1 s2 hne (hsub _ _ h1) (hsub _ _ h2) h3 h4, hmem, hS.base, hS.glob, by rw [hf]; exact hS.nf, by rw [hn]; exact hS.nx⟩
/-- A block more, of a family, that is nowhere yet. -/
theorem Sim.add (hS : Sim P ρ S W) {S' : St} {cs : List Value} {ty : TypeId} {f base : Nat} {l : List Nat} (hn : S'.nx = S.nx + 1) (hf : S'.nf = S.nf) (hh : S'.h = S.h.put S.nx (.row cs ty f base)) (hfm : S'.fam = S.fam) (hlt : f < S.nf) (hl : S.fam.get f = some l) (hin : S.nx ∈ l) : Sim P ρ S' W where
  low := fun b B sh h => by have := hS.low b B sh h; rw [hn]; exact ⟨by omega, this.2⟩
  new := fun k o h => by
    rw [hh, Tr.get_put] at h
    rw [hn]
    by_cases hk : k = S.nx
    · omega
    · rw [if_neg hk] at h; have := hS.new k o h; omega
  ob := fun k o B sh h h' => by
    have := (hS.low k B sh h').1
    rw [hh, Tr.get_put, if_neg (by omega)] at h
    exact hS.ob k o B sh h h'
  fam := fun k k' o o' B s1 s2 hne h1 h2 h3 h4 => by
    have := (hS.low k B s1 h3).1
    have := (hS.low k' B s2 h4).1
    rw [hh, Tr.get_put, if_neg (by omega)] at h1 h2
    exact hS.fam k k' o o' B s1 s2 hne h1 h2 h3 h4
  mem := fun k cs1 ty1 f1 base1 h hf1 => by
    rw [hh, Tr.get_put] at h
    rw [hf, hfm]
    by_cases hk : k = S.nx
    · subst hk
      rw [if_pos rfl] at h
      cases h
      exact ⟨hlt, l, hl, hin⟩
    · rw [if_neg hk] at h
      exact hS.mem k cs1 ty1 f1 base1 h hf1
  base := hS.base
  glob := hS.glob
  nf := by rw [hf]; exact hS.nf
  nx := by rw [hn]; have := hS.nx; omega
/-- A world is written to where nothing that is told of looks. -/
theorem Sim.unseen (hS : Sim P ρ S W) {W' : World} {B o b0 sh0 : Nat} {ws : List Value} {c : Array Value} {e : TypeId} {fz : Nat × Nat} (hc : W.heap[B]? = some (.cells c e fz)) (hw : Wrote W W' B o ws c e fz) (h0 : ρ.at_ b0 = some (B, sh0)) (hl : lowB ≤ b0)
    (hns : ∀ k sh cs ty f base, S.h.get k = some (.row cs ty f base) → ρ.at_ k = some (B, sh) → sh + cs.length ≤ o ∨ o + ws.length ≤ sh) : Sim P ρ S W' ∧ ∀ N, Ext N ρ W ρ W' := by
  obtain ⟨c', r1, r2, r3⟩ := hw.row
  refine ⟨⟨fun k B' sh' h => by rw [hw.size]; exact hS.low k B' sh' h, hS.new, fun k o1 B' sh' h h' => ?_, hS.fam, hS.mem, hS.base, hS.glob, hS.nf, hS.nx⟩,
    fun N => ⟨.refl ρ, fun _ h k => absurd h k, by rw [hw.size]; exact Nat.le_refl _, fun k _ hne => hw.other k (fun e => hne b0 sh0 hl (by rw [e]; exact h0)), fun _ _ _ h k => (by rw [h] at k; cases k), hw.os, hw.tape, hw.output⟩⟩
  obtain ⟨x, hx, hR⟩ := hS.ob k o1 B' sh' h h'
  by_cases hB : B' = B
  · subst hB
    rw [hc] at hx
    cases hx
    cases o1 with
    | row cs ty f base =>
      have hn := hns k sh' cs ty f base h h'
      obtain ⟨c0, e0, fz0, q0, q1, q2, q3, q4, q5, q6⟩ := hR
      cases q0
      refine ⟨_, r1, c', e, fz, rfl, by rw [r2]; exact q1, q2, by rw [r2]; exact q3, by rw [r2]; exact q4, q5, fun i v w g1 g2 => ?_⟩
      have hi : i < cs.length := (List.getElem?_eq_some_iff.1 g1).1
      rw [r3, if_neg (by omega)] at g2
      exact q6 i v w g1 g2
    | map es k => obtain ⟨_, fs, q, _⟩ := hR; cases q
    | loop => obtain ⟨_, r, q, _⟩ := hR; cases q
    | defs b => obtain ⟨_, q⟩ := hR; cases q
  · exact ⟨x, by rw [hw.other B' hB]; exact hx, hR⟩
/-- A block is placed in a block that is there. -/
def Ro.alias (ρ : Ro) (u B s : Nat) : Ro := ⟨fun k => if k = u then some (B, s) else ρ.at_ k, ρ.room, ρ.esz⟩
theorem Sim.alias (hS : Sim P ρ S W) {u B s a0 sh : Nat} {cs : List Value} {ty : TypeId} {f nb : Nat} (hu : ρ.at_ u = none) (ho : S.h.get u = some (.row cs ty f nb)) (h0 : ρ.at_ a0 = some (B, sh)) (hl : lowB ≤ a0) (hlu : lowB ≤ u) (hf : f ≠ 0)
    (hR : ∃ x, W.heap[B]? = some x ∧ ObR P ρ (.row cs ty f nb) B s x) (hsame : ∀ k o sh', k ≠ u → S.h.get k = some o → ρ.at_ k = some (B, sh') → ∃ cs1 base1, o = .row cs1 ty f base1 ∧ base1 + s = nb + sh') : Sim P (ρ.alias u B s) S W ∧ Ext u ρ W (ρ.alias u B s) W := by
  have hle : ρ.Le (ρ.alias u B s) := ⟨fun b B' sh' h => by
    have : b ≠ u := fun e => by rw [e, hu] at h; cases h
    simp [Ro.alias, this, h], fun _ _ _ _ => ⟨rfl, rfl⟩⟩
  have hat : ∀ b B' sh', (ρ.alias u B s).at_ b = some (B', sh') → (b = u ∧ B' = B ∧ sh' = s) ∨ (b ≠ u ∧ ρ.at_ b = some (B', sh')) := fun b B' sh' h => by
    by_cases hb : b = u
    · subst hb
      simp only [Ro.alias, if_true, Option.some.injEq, Prod.mk.injEq] at h
      exact .inl ⟨rfl, h.1.symm, h.2.symm⟩
    · simp only [Ro.alias, hb, if_false] at h
      exact .inr ⟨hb, h⟩
  obtain ⟨x, hx, hob⟩ := hR
  refine ⟨⟨fun b B' sh' h => ?_, hS.new, fun k o B' sh' h k' => ?_, fun k k' o o' B' s1 s2 hne h1 h2 h3 h4 => ?_, hS.mem, fun b b' B' s1 s2 hb hb' h1 h2 => ?_, trivial, hS.nf, hS.nx⟩,
    ⟨hle, fun b h k => ?_, Nat.le_refl _, fun _ _ _ => rfl, fun b B' sh' h k => ?_, rfl, rfl, rfl⟩⟩
  · rcases hat b B' sh' h with ⟨rfl, rfl, _⟩ | ⟨_, h⟩
    · exact ⟨hS.new b _ ho, (hS.low _ _ _ h0).2⟩
    · exact hS.low b B' sh' h
  · rcases hat k B' sh' k' with ⟨rfl, rfl, rfl⟩ | ⟨_, k'⟩
    · rw [ho] at h
      cases h
      obtain ⟨c, e, fz, q1, q2, q3, q4, q5, q6, q7⟩ := hob
      exact ⟨x, hx, c, e, fz, q1, q2, q3, q4, q5, q6, fun i v w g1 g2 => (q7 i v w g1 g2).le hle⟩
    · obtain ⟨y, hy, hR⟩ := hS.ob k o B' sh' h k'
      exact ⟨y, hy, hR.le hle k'⟩
  · rcases hat k B' s1 h3 with ⟨rfl, rfl, rfl⟩ | ⟨hk, h3'⟩ <;> rcases hat k' _ s2 h4 with ⟨e, e2, e3⟩ | ⟨hk', h4'⟩
    · exact absurd e.symm hne
    · rw [ho] at h1
      cases h1
      obtain ⟨cs1, base1, rfl, hb⟩ := hsame k' o' s2 hk' h2 h4'
      exact ⟨_, _, _, _, _, _, rfl, rfl, hf, by omega⟩
    · subst e e2 e3
      rw [ho] at h2
      cases h2
      obtain ⟨cs1, base1, rfl, hb⟩ := hsame k o s1 hk h1 h3'
      exact ⟨_, _, _, _, _, _, rfl, rfl, hf, by omega⟩
    · exact hS.fam k k' o o' B' s1 s2 hne h1 h2 h3' h4'
  · rcases hat b B' s1 h1 with ⟨rfl, rfl, rfl⟩ | ⟨_, h1'⟩ <;> rcases hat b' _ s2 h2 with ⟨e, e2, e3⟩ | ⟨_, h2'⟩
    · omega
    · omega
    · subst e e2 e3
      exact hS.base b a0 _ s1 sh hb hl h1' h0
    · exact hS.base b b' B' s1 s2 hb hb' h1' h2'
  · by_cases hb : b = u
    · omega
    · simp only [Ro.alias, hb, if_false] at k
      exact absurd h k
  · rcases hat b B' sh' h with ⟨rfl, rfl, rfl⟩ | ⟨_, h'⟩
    · exact ⟨hlu, .inr ⟨a0, sh, hl, h0⟩⟩
    · rw [k] at h'; cases h'
end
end Go.Proofs.YtnfclcfcpgfajaaGreatDoor.Ev

/- Append. -/
namespace Go.Proofs.YtnfclcfcpgfajaaGreatDoor.Ev
open Go Go.RowKit
section
variable {P : Program} {ρ : Ro} {S : St} {W : World}

theorem app_moved {S' : St} (hS : Sim P ρ S' W) {u fam base0 n sLen c' : Nat} {cs olds news : List Value} {t ty e : TypeId} {ts : Array TypeId} {i : TypeInfo} {z : Value} {b' : Option Addr} {y' : Value} (hu0 : ρ.at_ u = none) (ho : S'.h.get u = some (.row cs e fam base0)) (hlu : lowB ≤ u)
    (hts : ts[0]? = some t) (hu : P.underlying t = some (.slice e)) (hi : P.info? e = some i) (hz : i.zero = some z) (hzs : z.cells.size = i.size) (hni : NotI P ts)
    (hl : ∀ w, (Builtin.lenOf y').run P w = .ok n w) (hc : (Builtin.firstCells i.size n y').run P W.drew = .ok news.toArray W.drew) (hod : (Builtin.firstCells i.size sLen (.slice b' sLen c')).run P W.drew = .ok olds.toArray W.drew)
    (hlr : LR ρ cs (olds ++ news)) (hlen : cs.length = (sLen + n) * i.size) (hg : c' < sLen + n) (hm : sLen + n ≤ 100000) (hby : i.bytes ≤ 1000000) :
    ∃ v' W' σ, (Builtin.append_ ts ty #[.slice b' sLen c', y']).run P W = .ok v' W' ∧ VR σ (nSl (sLen + n) U u) v' ∧ Sim P σ S' W' ∧ Ext u ρ W σ W' := by
  obtain ⟨cap, hcap⟩ : ∃ cap, grownCap W (sLen + n) c' e = cap := ⟨_, rfl⟩
  obtain ⟨arr, harr⟩ : ∃ arr, (olds ++ news).toArray ++ Builtin.zeroCells z.cells (cap - (sLen + n)) = arr := ⟨_, rfl⟩
  have hrun := app_grow (ty := ty) hts hu hi hz hni hl hc hod hg hm hby
  have hge := grownCap_ge W (sLen + n) c' e
  rw [hcap] at hrun hge
  rw [harr] at hrun
  have hsz : arr.size = cap * i.size := by
    rw [← harr, Array.size_append]
    have h1 : (olds ++ news).toArray.size = (sLen + n) * i.size := by rw [← hlen, hlr.1]; simp
    have h2 : (Builtin.zeroCells z.cells (cap - (sLen + n))).size = (cap - (sLen + n)) * i.size := by simp [Builtin.zeroCells, hzs]
    rw [h1, h2, ← Nat.add_mul]
    congr 1
    omega
  have hle := place_le hS (u := u) (sz := arr.size) (ez := i.size) hu0
  have hcl : cs.length ≤ arr.size := by rw [hlen, hsz]; exact Nat.mul_le_mul_right _ hge
  have hp := hS.place (u := u) (sz := arr.size) (ez := i.size) (x := .cells arr e) (W' := W.drew.alloc (.cells arr e)) ho hu0 hlu rfl rfl rfl rfl
    (row_ob (cs := cs) (fz := (0, 0)) (fun j v w h1 h2 => by
      have hj : j < cs.length := (List.getElem?_eq_some_iff.1 h1).1
      rw [← harr, Array.getElem?_append_left (by simpa using (show j < (olds ++ news).length by rw [← hlr.1]; exact hj))] at h2
      exact (hlr.2 j v w h1 (by simpa using h2)).le hle) hcl (place_room _ _ _ _ _).1 (info_size hi) (place_room _ _ _ _ _).2 (.inl rfl) (fun _ => rfl))
  refine ⟨_, _, _, hrun, .sliceU (place_ar _ _ _ _ _) hge (by unfold U; omega) ?_, hp.1, hp.2⟩
  show 0 + cap * _ ≤ _
  rw [(place_room ρ u W.heap.size arr.size i.size).1, (place_room ρ u W.heap.size arr.size i.size).2, hsz]
  omega
theorem growU (hS : Sim P ρ S W) {a : Addr} {fam sLen n es : Nat} {S1 S' : St} {e : TypeId} {new : List Value} {w : Value} (h1 : famR S a.block (S.h.get a.block) = some (fam, S1)) (h2 : appendU1 S1 e a sLen n es new fam (S1.h.get a.block) = some (w, S')) :
    ∃ cs base Sm, lowB ≤ a.block ∧ a.off + sLen * es ≤ cs.length ∧ w = nSl (sLen + n) U S.nx ∧ Sim P ρ S1 W ∧ S1.h.get a.block = some (.row cs e fam base) ∧ Sim P ρ Sm W ∧ fam ≠ 0 ∧ Sm.nx = S.nx ∧
      S'.h = Sm.h.put S.nx (.row ((cs.drop a.off).take (sLen * es) ++ new) e fam (base + a.off)) ∧ S'.nx = S.nx + 1 ∧ Sim P ρ S' W ∧
      ∀ k o, Sm.h.get k = some o → S1.h.get k = some o ∧ ∀ cs1 ty1 base1, o = .row cs1 ty1 fam base1 → base + a.off + sLen * es + n * es ≤ base1 ∨ base1 + cs1.length ≤ base + a.off + sLen * es := by
  obtain ⟨hS1, hnx, hf0, hlt, cs, ty, base, l, ho, hfl, hin⟩ := hS.famed h1
  rw [ho] at h2
  obtain ⟨g1, g2⟩ := bi_some (show bi (nb (Nat.beq ty e) (nb (Nat.ble lowB a.block) (Nat.ble (Nat.add a.off (Nat.mul sLen es)) (lenV cs)))) _ none = some (w, S') from h2)
  obtain ⟨g3, g4⟩ := nb_t g1
  obtain ⟨g5, g6⟩ := nb_t g4
  have hty := beq_t g3
  subst hty
  have hlow := ble_t g5
  have hoff := ble_t g6
  rw [lenV_eq] at hoff
  obtain ⟨lo, hlo⟩ : ∃ lo, base + a.off + sLen * es = lo := ⟨_, rfl⟩
  obtain ⟨S2, hS2⟩ : ∃ S2, taint S1 fam S1.nx lo (lo + n * es) = S2 := ⟨_, rfl⟩
  have g2' : growR S2 ty a (sLen + n) (takeL (sLen * es) (dropL a.off cs) ++ new) fam base (S2.fam.get fam) = some (w, S') := by rw [← hS2, ← hlo]; exact g2
  obtain ⟨n1, n2, n3⟩ := taint_nx S1 fam S1.nx lo (lo + n * es)
  rw [hS2] at n1 n2 n3
  rw [n2, hfl] at g2'
  have g3' : some (nSl (sLen + n) U S2.nx, (⟨(delL S2.h (dropL 5 l)).put S2.nx (.row (takeL (sLen * es) (dropL a.off cs) ++ new) ty fam (Nat.add base a.off)), Nat.succ S2.nx, S2.fam.put fam (S2.nx :: takeL 5 l), S2.nf⟩ : St)) = some (w, S') := g2'
  rw [takeL_eq, dropL_eq, dropL_eq, takeL_eq] at g3'
  have hget : ∀ k o, (delL S2.h (l.drop 5)).get k = some o → S1.h.get k = some o ∧ k ∉ l.drop 5 ∧ ∀ cs1 ty1 base1, o = .row cs1 ty1 fam base1 → lo + n * es ≤ base1 ∨ base1 + cs1.length ≤ lo := fun k o hk => by
    rw [delL_get] at hk
    by_cases hkl : k ∈ l.drop 5
    · rw [if_pos hkl] at hk; cases hk
    · rw [if_neg hkl, ← hS2] at hk
      obtain ⟨q1, q2⟩ := taint_get hS1 hk
      refine ⟨q1, hkl, fun cs1 ty1 base1 heq => ?_⟩
      rcases q2 cs1 ty1 base1 heq hf0 with q3 | q3
      · have := hS1.new k o q1; omega
      · subst heq
        simp only [sees, Bool.not_eq_false', Bool.or_eq_true] at q3
        rcases q3 with q3 | q3
        · exact .inl (ble_t q3)
        · have := ble_t q3
          rw [lenV_eq] at this
          exact .inr this
  obtain ⟨Sm, hSm⟩ : ∃ Sm : St, Sm = ⟨delL S2.h (l.drop 5), S2.nx, S2.fam.put fam (S2.nx :: l.take 5), S2.nf⟩ := ⟨_, rfl⟩
  have hmh : Sm.h = delL S2.h (l.drop 5) := by rw [hSm]
  have hmn : Sm.nx = S2.nx := by rw [hSm]
  have hmf : Sm.fam = S2.fam.put fam (S2.nx :: l.take 5) := by rw [hSm]
  have hmnf : Sm.nf = S2.nf := by rw [hSm]
  have hSimM : Sim P ρ Sm W := hS1.thin (by rw [hmn, n1]) (by rw [hmnf, n3]) (fun k o hk => (hget k o (by rw [← hmh]; exact hk)).1) (fun k cs1 ty1 f1 base1 hk hf1 => by
    obtain ⟨q1, q2, _⟩ := hget k _ (by rw [← hmh]; exact hk)
    obtain ⟨q3, l', q4, q5⟩ := hS1.mem k cs1 ty1 f1 base1 q1 hf1
    refine ⟨by rw [hmnf, n3]; exact q3, ?_⟩
    rw [hmf, n2, Tr.get_put]
    by_cases hff : f1 = fam
    · subst hff
      rw [hfl] at q4
      cases q4
      refine ⟨_, if_pos rfl, ?_⟩
      rw [← List.take_append_drop 5 l, List.mem_append] at q5
      rcases q5 with q5 | q5
      · exact List.mem_cons_of_mem _ q5
      · exact absurd q5 q2
    · exact ⟨l', by rw [if_neg hff]; exact q4, q5⟩)
  cases g3'
  have hn2 : S2.nx = S.nx := n1.trans hnx
  refine ⟨cs, base, Sm, hlow, hoff, by rw [hn2], hS1, ho, hSimM, hf0, hmn.trans hn2, ?_, ?_, ?_, fun k o hk => ?_⟩
  · rw [hmh, ← hn2]; rfl
  · show S2.nx + 1 = _; rw [hn2]
  · exact hSimM.add (cs := (cs.drop a.off).take (sLen * es) ++ new) (ty := ty) (f := fam) (base := base + a.off) (l := S2.nx :: l.take 5) (by rw [hmn]) (by rw [hmnf]) (by rw [hmh, hmn]; rfl) (by rw [hmf]) (by rw [hmnf, n3]; exact hlt) (by rw [hmf, Tr.get_put, if_pos rfl]) (by rw [hmn]; simp)
  · obtain ⟨q1, _, q3⟩ := hget k o (by rw [← hmh]; exact hk)
    rw [hlo]
    exact ⟨q1, q3⟩
/-- The row lies where it lay. -/
theorem app_stays (hS : Sim P ρ S W) {a b : Addr} {fam sLen n c' : Nat} {S1 S' : St} {e t ty : TypeId} {ts : Array TypeId} {i : TypeInfo} {new ws : List Value} {w y' : Value} (h1 : famR S a.block (S.h.get a.block) = some (fam, S1)) (h2 : appendU1 S1 e a sLen n i.size new fam (S1.h.get a.block) = some (w, S'))
    (hab : AR ρ a b) (hr : b.off + c' * ρ.esz b.block ≤ ρ.room b.block) (hts : ts[0]? = some t) (hu : P.underlying t = some (.slice e)) (hi : P.info? e = some i) (hni : NotI P ts)
    (hl : ∀ w, (Builtin.lenOf y').run P w = .ok n w) (hc : (Builtin.firstCells i.size n y').run P W = .ok ws.toArray W) (hlr : LR ρ new ws) (hlen : new.length = n * i.size) (hone : ∀ v ∈ ws, v.oneCell' = true) (hfit : sLen + n ≤ c') (hm : sLen + n ≤ 100000) :
    ∃ v' W' σ, (Builtin.append_ ts ty #[.slice (some b) sLen c', y']).run P W = .ok v' W' ∧ VR σ w v' ∧ Sim P σ S' W' ∧ Ext S.nx ρ W σ W' ∧ S'.nx = S.nx + 1 := by
  obtain ⟨cs, base, Sm, hlow, hoff, rfl, hS1, ho, hSm, hf0, hmn, hh, hn, hS', hget⟩ := growU hS h1 h2
  obtain ⟨_, sh, hat, hb⟩ := hab
  obtain ⟨x, hx, c, ee, fz, rfl, q1, q2, q3, q4, q5, q6⟩ := hS1.ob _ _ _ _ ho hat
  have hez : ρ.esz b.block = i.size := by
    rw [info_size hi] at q2
    exact (Option.some.inj q2).symm
  rw [hez] at hr
  have hmul : (sLen + n) * i.size ≤ c' * i.size := Nat.mul_le_mul_right _ hfit
  rw [Nat.add_mul] at hmul
  have hbo : b.off = sh + a.off := by rw [hb]
  have hwl : ws.length = n * i.size := by rw [← hlr.1]; exact hlen
  obtain ⟨W', h3, h4⟩ := storeCells_run (P := P) (B := b.block) (o := b.off + sLen * i.size) ws 0 W c hx q4 (by omega) hone
  have hrun := app_room (ty := ty) hts hu hi hni (b := some b) (sCap := c') (W' := W') hl hc hfit (fun a' ha' => by
    cases ha'
    have : b.add (sLen * i.size) = ⟨b.block, b.off + sLen * i.size, none⟩ := by rw [hb, Addr.add_lit]
    rw [this]
    simpa using h3) (fun h => by cases h)
  have hfresh : ρ.at_ S.nx = none := by
    cases hk : ρ.at_ S.nx with
    | none => rfl
    | some p =>
      obtain ⟨B, s⟩ := p
      have := (hS.low _ B s hk).1
      omega
  have hlu : lowB ≤ S.nx := hS.nx
  -- what else lies there
  have hfamB : ∀ k o sh', k ≠ S.nx → S'.h.get k = some o → ρ.at_ k = some (b.block, sh') → ∃ cs1 base1, o = .row cs1 e fam base1 ∧ base1 + sh = base + sh' ∧ (base + a.off + sLen * i.size + n * i.size ≤ base1 ∨ base1 + cs1.length ≤ base + a.off + sLen * i.size) := by
    intro k o sh' hk hko hka
    rw [hh, Tr.get_put, if_neg hk] at hko
    obtain ⟨p1, p2⟩ := hget k o hko
    by_cases hka' : k = a.block
    · subst hka'
      rw [ho] at p1
      cases p1
      rw [hat] at hka
      cases hka
      exact ⟨cs, base, rfl, rfl, p2 cs e base rfl⟩
    · obtain ⟨cs1, ty1, f1, base1, cs2, base2, z1, z2, z3, z4⟩ := hS1.fam k a.block o _ b.block sh' sh hka' p1 ho hka hat
      cases z2
      subst z1
      exact ⟨cs1, base1, rfl, z4, p2 cs1 _ base1 rfl⟩
  have h0 : Wrote W W' b.block (b.off + sLen * i.size) ws c ee fz := h4
  obtain ⟨hSw, hEw⟩ := hS'.unseen hx h0 hat hlow (fun k sh' cs1 ty1 f1 base1 hk hka => by
    have hkn : k ≠ S.nx := fun e => by rw [e, hfresh] at hka; cases hka
    obtain ⟨cs2, base2, heq, hb1, hb2⟩ := hfamB k _ sh' hkn hk hka
    cases heq
    rw [hwl]
    omega)
  obtain ⟨c1, r1, r2, r3⟩ := h0.row
  have hnb : S'.h.get S.nx = some (.row ((cs.drop a.off).take (sLen * i.size) ++ new) e fam (base + a.off)) := by rw [hh, Tr.get_put, if_pos rfl]
  have htk : ((cs.drop a.off).take (sLen * i.size)).length = sLen * i.size := by simp; omega
  obtain ⟨hSa, hEa⟩ := hSw.alias (B := b.block) (s := sh + a.off) hfresh hnb hat hlow hlu hf0
    ⟨_, r1, c1, ee, fz, rfl, by rw [r2]; exact q1, q2, by rw [r2, List.length_append, htk, hlen]; omega, by rw [r2]; exact q4, q5, fun j v w' g1 g2 => by
      rw [r3] at g2
      by_cases hj : j < sLen * i.size
      · rw [List.getElem?_append_left (by rw [htk]; exact hj), List.getElem?_take, if_pos hj, List.getElem?_drop] at g1
        rw [if_neg (by omega)] at g2
        exact q6 (a.off + j) v w' g1 (by rw [← g2]; congr 1; omega)
      · rw [List.getElem?_append_right (by rw [htk]; omega), htk] at g1
        have hjl : j - sLen * i.size < new.length := (List.getElem?_eq_some_iff.1 g1).1
        rw [if_pos (by omega)] at g2
        exact hlr.2 _ v w' g1 (by rw [← g2]; congr 1; omega)⟩
    (fun k o sh' hk hko hka => by
      obtain ⟨cs2, base2, heq, hb1, _⟩ := hfamB k o sh' hk hko hka
      exact ⟨cs2, base2, heq, by omega⟩)
  refine ⟨_, W', _, hrun, .sliceU ⟨rfl, sh + a.off, ?_, ?_⟩ hfit (by unfold U; omega) ?_, hSa, (hEw S.nx).trans hEa, hn⟩
  · simp [Ro.alias]
  · rw [hb]; rfl
  · show b.off + c' * ρ.esz b.block ≤ ρ.room b.block
    rw [hez]; exact hr
end
end Go.Proofs.YtnfclcfcpgfajaaGreatDoor.Ev

/- Append, all of it. -/
namespace Go.Proofs.YtnfclcfcpgfajaaGreatDoor.Ev
open Go Go.RowKit
section
variable {P : Program} {ρ : Ro} {S : St} {W : World}

theorem one_rel {vs ws : List Value} (h : allL oneV vs = true) (hl : LR ρ vs ws) : ∀ v ∈ ws, v.oneCell' = true := fun w hw => by
  rw [allL_eq, List.all_eq_true] at h
  obtain ⟨i, hi, hw'⟩ := List.mem_iff_getElem.1 hw
  have hi' : i < vs.length := by rw [hl.1]; exact hi
  exact oneV_rel (h vs[i] (by simp)) (hl.2 i vs[i] w (by simp [hi']) (by simp [hi, hw']))
theorem Sim.fresh (hS : Sim P ρ S W) : ρ.at_ S.nx = none := by
  cases hk : ρ.at_ S.nx with
  | none => rfl
  | some p =>
    obtain ⟨B, s⟩ := p
    have := (hS.low _ B s hk).1
    omega
theorem eAppend_sound (hS : Sim P ρ S W) (hzo : ZeroOk P) {S' : St} {t type : TypeId} {ts : Array TypeId} {x y x' y' w : Value} (hts : ts[0]? = some t) (hni : NotI P ts)
    (h : eAppend S (elemSl (ti P t)) (sizeO P (elemSl (ti P t))) (nb (bytesOk P (elemSl (ti P t))) (zLO P (elemSl (ti P t))).isSome) x y = some (w, S')) (hx : VR ρ x x') (hy : VR ρ y y') :
    WriteR P ρ S W S' w (Builtin.append_ ts type #[x', y'] >>= fun x => (pure (.value x) : Sem Next)) := by
  unfold eAppend at h
  cases hz : sizeO P (elemSl (ti P t)) with
  | none => simp only [hz] at h; split at h <;> simp_all
  | some es =>
    obtain ⟨e, q1, q2⟩ := sizeO_some hz
    have hu := elemSl_some q1
    cases hln : lenL y with
    | none => simp only [q1, hln] at h; split at h <;> simp_all
    | some n =>
      rw [hz] at h
      simp only [q1, hln] at h
      obtain ⟨g1, g2⟩ := bi_some h
      obtain ⟨g3, g4⟩ := nb_t g1
      obtain ⟨i, hi, hby⟩ := bytesOk_some g3
      have hes : es = i.size := by
        rw [info_size hi] at q2
        exact (Option.some.inj q2).symm
      subst hes
      cases r4 : zeroL P e with
      | none => simp [zLO, r4] at g4
      | some z =>
        obtain ⟨zv, i', z1, _, z3, z4, z5, z6⟩ := zeroL_some (ρ := ρ) r4
        rw [hi] at z3
        cases z3
        have hzs : zv.cells.size = i.size := by
          have h1 := hzo e z r4
          rw [info_size hi] at h1
          have h2 := Option.some.inj h1
          rw [h2, z6]
          simp
        cases hf : firstL S i.size n y with
        | none => rw [hf] at g2; cases g2
        | some new =>
          rw [hf] at g2
          obtain ⟨ws, f1, f2⟩ := first_sound hS hf hy (fun m hm => by rw [hln] at hm; cases hm; exact Nat.le_refl _)
          obtain ⟨wd, f3, f4⟩ := first_sound hS.drew hf hy (fun m hm => by rw [hln] at hm; cases hm; exact Nat.le_refl _)
          have hl := fun w => lenOf_run (P := P) hln hy w
          cases x with
          | slice base sLen sCap =>
            have g5 : append2 S e base sLen sCap n i.size new = some (w, S') := g2
            unfold append2 at g5
            obtain ⟨g6, g7⟩ := bi_some g5
            obtain ⟨g8, g9⟩ := nb_t g6
            obtain ⟨g10, g11⟩ := nb_t g9
            have hm := ble_t g8
            have hnl := beq_t g11
            rw [lenV_eq] at hnl
            have hone := one_rel g10 f2
            have hm' : sLen + n ≤ 100000 := hm
            have hnl' : new.length = n * i.size := hnl
            cases hb0 : Nat.beq n 0 with
            | true =>
              -- nothing is appended
              rw [hb0] at g7
              obtain ⟨g12, g13⟩ := bi_some (show bi (Nat.ble sLen sCap) (some (Value.slice base sLen sCap, S)) none = some (w, S') from g7)
              have hle := ble_t g12
              have hn0 := beq_t hb0
              subst hn0
              cases g13
              have hws : ws = [] := by
                have : new = [] := List.length_eq_zero_iff.1 (by rw [hnl']; simp)
                subst this
                exact f2.nil_inv
              subst hws
              have stay : ∀ b c', x' = .slice b sLen c' → sLen ≤ c' → WriteR P ρ S W S (.slice base sLen sCap) (Builtin.append_ ts type #[x', y'] >>= fun x => (pure (.value x) : Sem Next)) := by
                intro b c' hxe hc
                subst hxe
                exact ⟨_, _, W, ρ, run_v (app_room hts hu hi hni hl f1 (by omega) (fun a _ => rfl) (fun _ => rfl)), .inl rfl, hx, hS, .refl _ _ _, Nat.le_refl _⟩
              cases base with
              | none => exact stay none sCap hx.nilsl hle
              | some a =>
                obtain ⟨b, c', hxe, _, hcc⟩ := hx.slicev
                exact stay (some b) c' hxe (by rcases hcc with ⟨_, _, h⟩ | ⟨_, _, h, _⟩ | ⟨h, _⟩ | ⟨h, _⟩ <;> omega)
            | false =>
              rw [hb0] at g7
              have hn0 := beq_f hb0
              rw [bi_f] at g7
              cases hbU : Nat.beq sCap U with
              | true =>
                rw [hbU, bi_t] at g7
                have hcU := beq_t hbU
                cases base with
                | none => cases g7
                | some a =>
                  have g8 : appendU a e sLen n i.size new (famR S a.block (S.h.get a.block)) = some (w, S') := g7
                  cases hfam : famR S a.block (S.h.get a.block) with
                  | none => rw [hfam] at g8; cases g8
                  | some p =>
                    obtain ⟨fam, S1⟩ := p
                    rw [hfam] at g8
                    have g9 : appendU1 S1 e a sLen n i.size new fam (S1.h.get a.block) = some (w, S') := g8
                    obtain ⟨b, c', rfl, _, hcc⟩ := hx.slicev
                    obtain ⟨cs, bs, Sm, hlow, hoff, hw, hS1, ho, hSm, hf0, hmn, hh, hn, hS', hget⟩ := growU hS hfam g9
                    have hnb : S'.h.get S.nx = some (.row ((cs.drop a.off).take (sLen * i.size) ++ new) e fam (bs + a.off)) := by rw [hh, Tr.get_put, if_pos rfl]
                    have htk : ((cs.drop a.off).take (sLen * i.size)).length = sLen * i.size := by simp; omega
                    -- the row moves
                    have moves : c' < sLen + n → (∃ olds : List Value, (Builtin.firstCells i.size sLen (.slice (some b) sLen c')).run P W.drew = .ok olds.toArray W.drew ∧ LR ρ ((cs.drop a.off).take (sLen * i.size)) olds) →
                        WriteR P ρ S W S' w (Builtin.append_ ts type #[.slice (some b) sLen c', y'] >>= fun x => (pure (.value x) : Sem Next)) := by
                      rintro hg ⟨olds, ho1, ho2⟩
                      obtain ⟨v', W', σ, k1, k2, k3, k4⟩ := app_moved (ty := type) hS' hS.fresh hnb hS.nx hts hu hi z4 hzs hni hl f3 ho1 (ho2.append f4) (by rw [List.length_append, htk, hnl', Nat.add_mul]) hg hm' hby
                      exact ⟨_, v', W', σ, run_v k1, .inl rfl, by rw [hw]; exact k2, k3, k4, by omega⟩
                    by_cases hfit : sLen + n ≤ c'
                    · rcases hcc with ⟨_, h, _⟩ | ⟨hab, _, _, _, hr⟩ | ⟨_, _, h⟩ | ⟨_, _, h⟩
                      · omega
                      · obtain ⟨v', W', σ, k1, k2, k3, k4, k5⟩ := app_stays (ty := type) hS hfam g9 hab hr hts hu hi hni hl f1 f2 hnl' hone hfit hm'
                        exact ⟨_, v', W', σ, run_v k1, .inl rfl, k2, k3, k4, by omega⟩
                      · omega
                      · omega
                    · refine moves (by omega) ?_
                      rcases hcc with ⟨_, h, _⟩ | ⟨hab, _, _, _, hr⟩ | ⟨h, _⟩ | ⟨h, _⟩
                      · omega
                      · have hcl : cellsAt S1 a (sLen * i.size) = some ((cs.drop a.off).take (sLen * i.size)) := by
                          unfold cellsAt
                          rw [ho]
                          show bi (Nat.ble (a.off + sLen * i.size) (lenV cs)) (some (takeL (sLen * i.size) (dropL a.off cs))) none = _
                          rw [lenV_eq, Nat.ble_eq_true_of_le hoff, takeL_eq, dropL_eq]
                          rfl
                        obtain ⟨m, m1, m2, _⟩ := load_cells hS1.drew hcl hab
                        exact ⟨m, m2, m1⟩
                      · subst h
                        exact ⟨[], by simp [Builtin.firstCells, loadCells, loadCellsFrom], by simp; exact LR.nil⟩
                      · subst h
                        exact ⟨[], by simp [Builtin.firstCells, loadCells, loadCellsFrom], by simp; exact LR.nil⟩
              | false =>
                rw [hbU, bi_f] at g7
                have hcU := beq_f hbU
                cases hfit : Nat.ble (Nat.add sLen n) sCap with
                | true =>
                  rw [hfit, bi_t] at g7
                  have hfit' := ble_t hfit
                  have hfit'' : sLen + n ≤ sCap := hfit'
                  cases base with
                  | none => cases g7
                  | some a =>
                    obtain ⟨b, c', rfl, _, hcc⟩ := hx.slicev
                    have g8 : vS (Value.slice (some a) (Nat.add sLen n) sCap) (storeV S a.block (Nat.add a.off (Nat.mul sLen i.size)) new) = some (w, S') := g7
                    obtain ⟨g9, rfl⟩ := vS_some g8
                    rcases hcc with ⟨hab, hcl, rfl⟩ | ⟨_, h, _⟩ | ⟨_, h, _⟩ | ⟨_, h, _⟩
                    · have hab2 : AR ρ ⟨a.block, a.off + sLen * i.size, none⟩ (b.add (sLen * i.size)) := by
                        obtain ⟨_, sh, h1, h2⟩ := hab
                        refine ⟨rfl, sh, ?_, ?_⟩
                        · rw [h2, Addr.add_lit]; exact h1
                        · rw [h2, Addr.add_lit]
                          show (⟨b.block, sh + a.off + sLen * i.size, none⟩ : Addr) = ⟨b.block, sh + (a.off + sLen * i.size), none⟩
                          rw [Nat.add_assoc]
                      obtain ⟨W', k1, k2, k3, k4⟩ := store_sound (a := ⟨a.block, a.off + sLen * i.size, none⟩) hS g9 hab2 f2
                      refine ⟨_, _, W', ρ, run_v (app_room hts hu hi hni hl f1 hfit'' (fun a' ha' => ?_) (fun h => by cases h)), .inl rfl, .slice hab hcl, k2, k3, by rw [k4]; exact Nat.le_refl _⟩
                      cases ha'
                      simpa using k1
                    · exact absurd h hcU
                    · exact absurd h hcU
                    · omega
                | false =>
                  rw [hfit, bi_f] at g7
                  have hfit' : ¬ (sLen + n ≤ sCap) := fun h => by
                    have := Nat.ble_eq_true_of_le h
                    rw [show Nat.ble (sLen + n) sCap = false from hfit] at this
                    cases this
                  cases ho : firstL S i.size sLen (.slice base sLen sCap) with
                  | none =>
                    have g8 : appendN S e (Nat.add sLen n) (Nat.mul sLen i.size) new (firstL S i.size sLen (.slice base sLen sCap)) = some (w, S') := g7
                    rw [ho] at g8
                    cases g8
                  | some old =>
                    have g8 : appendN S e (Nat.add sLen n) (Nat.mul sLen i.size) new (firstL S i.size sLen (.slice base sLen sCap)) = some (w, S') := g7
                    rw [ho] at g8
                    obtain ⟨g9, g10⟩ := bi_some (show bi (Nat.beq (lenV old) (sLen * i.size)) (some (nSl (sLen + n) U S.nx, S.new (.row (old ++ new) e 0 0))) none = some (w, S') from g8)
                    have hol := beq_t g9
                    rw [lenV_eq] at hol
                    cases g10
                    obtain ⟨os, o1, o2⟩ := first_sound hS.drew ho hx (fun m hm => by cases hm; exact Nat.le_refl _)
                    have moves : ∀ b c', x' = .slice b sLen c' → c' < sLen + n → WriteR P ρ S W (S.new (.row (old ++ new) e 0 0)) (nSl (sLen + n) U S.nx) (Builtin.append_ ts type #[x', y'] >>= fun x => (pure (.value x) : Sem Next)) := by
                      intro b c' hxe hg
                      subst hxe
                      obtain ⟨v', W', σ, k1, k2, k3, k4⟩ := app_moved (ty := type) (cs := old ++ new) (fam := 0) (base0 := 0) (e := e) (hS.new_ (o := .row (old ++ new) e 0 0) rfl) hS.fresh (by rw [St.new_h, if_pos rfl]) hS.nx hts hu hi z4 hzs hni hl f3 o1 (o2.append f4) (by rw [List.length_append, hol, hnl', Nat.add_mul]) hg hm' hby
                      exact ⟨_, v', W', σ, run_v k1, .inl rfl, k2, k3, k4, by rw [St.new_nx]; omega⟩
                    cases base with
                    | none => exact moves none sCap hx.nilsl (by omega)
                    | some a =>
                      obtain ⟨b, c', hxe, _, hcc⟩ := hx.slicev
                      exact moves (some b) c' hxe (by rcases hcc with ⟨_, _, h⟩ | ⟨_, h, _⟩ | ⟨_, h, _⟩ | ⟨_, h, _⟩ <;> omega)
          | _ => cases g2
end
end Go.Proofs.YtnfclcfcpgfajaaGreatDoor.Ev

/- What any operation does that writes; what is called, what is put off. -/
namespace Go.Proofs.YtnfclcfcpgfajaaGreatDoor.Ev
open Go Go.RowKit
section
variable {P : Program} {ρ : Ro} {S : St} {W : World}

theorem aBuiltin_write {b : Builtin} {ts : Array TypeId} {type : TypeId} {xs : List Operand} {f : St → (Operand → Value) → VS} (h : aBuiltin P b ts type xs = .write f) : ∃ t r, ts.toList = t :: r ∧
    ((b = .append ∧ notInt P r = true ∧ ∃ s x, xs = [s, x] ∧ f = fun S ev => eAppend S (elemSl (ti P t)) (sizeO P (elemSl (ti P t))) (nb (bytesOk P (elemSl (ti P t))) (zLO P (elemSl (ti P t))).isSome) (ev s) (ev x)) ∨
     (b = .copy ∧ ∃ d s, xs = [d, s] ∧ f = fun S ev => eCopy S (sizeO P (elemSl (ti P t))) (ev d) (ev s)) ∨ (b = .clear ∧ ∃ x, xs = [x] ∧ f = fun S ev => eClear S (zLO P (elemSl (ti P t))) (ev x))) := by
  unfold aBuiltin at h
  cases hl : ts.toList with
  | nil => rw [hl] at h; cases h
  | cons t r =>
    rw [hl] at h
    refine ⟨t, r, rfl, ?_⟩
    simp only [aBuiltin1] at h
    split at h <;> (try cases h)
    · rw [bi_eq] at h
      split at h
      · rename_i hn
        cases h
        exact .inl ⟨rfl, hn, _, _, rfl, rfl⟩
      · cases h
    · exact .inr (.inl ⟨rfl, _, _, rfl, rfl⟩)
    · exact .inr (.inr ⟨rfl, _, rfl, rfl⟩)
/-- Any operation that writes. -/
theorem write_sound (hS : Sim P ρ S W) (hz : ZeroOk P) {o : Oper} {f : St → (Operand → Value) → VS} {ev ev' : Operand → Value} {v : Value} {S' : St} (ha : actOf P o = .write f) (hf : f S ev = some (v, S')) (hev : ∀ x ∈ o.op.operands, VR ρ (ev x) (ev' x)) :
    WriteR P ρ S W S' v (execOp ev' o) := by
  obtain ⟨dst, op, type, p, after, guard⟩ := o
  cases op <;> simp only [actOf] at ha <;> (try cases ha)
  case insert t m k x => exact eMap_sound hS hf (hev m (by simp [Op.operands])) (hev k (by simp [Op.operands])) (hev x (by simp [Op.operands]))
  case store t a x => exact eStore_sound hS hf (hev a (by simp [Op.operands])) (hev x (by simp [Op.operands]))
  case convert src dst x => cases hcv : cvOf P src dst <;> simp only [hcv, convAct] at ha <;> cases ha
  case makeFunc fn _ _ => cases fn <;> cases ha
  case mapUpdate t m k x => exact eMap_sound hS hf (hev m (by simp [Op.operands])) (hev k (by simp [Op.operands])) (hev x (by simp [Op.operands]))
  case defer c => cases hc : c.callee <;> simp only [hc] at ha <;> cases ha
  case call c =>
    cases hc : c.callee with
    | value g => simp only [callAct, hc] at ha; cases ha
    | invoke _ _ => simp only [callAct, hc] at ha; cases ha
    | builtin b =>
      simp only [callAct, hc] at ha
      have hops : ∀ x ∈ c.args.toList, VR ρ (ev x) (ev' x) := fun x hx => hev x (by simp only [Op.operands, Call.operands, hc]; simpa using hx)
      have hrun := builtin_run (P := P) (ev := ev') (o := ⟨dst, .call c, type, p, after, guard⟩) rfl hc W
      obtain ⟨t, r, hts, h⟩ := aBuiltin_write ha
      have fin : ∀ {s : Sem Next}, (builtin b c.argTypes type (c.args.map fun | .const _ => true | _ => false) (c.args.map ev')) = s → WriteR P ρ S W S' v s → WriteR P ρ S W S' v (execOp ev' ⟨dst, .call c, type, p, after, guard⟩) := by
        rintro s hs ⟨nx, v', W', σ, h1, h2⟩
        exact ⟨nx, v', W', σ, hrun.trans (by rw [← hs] at h1; exact h1), h2⟩
      rcases h with ⟨rfl, hn, s, x, hxs, rfl⟩ | ⟨rfl, d, s, hxs, rfl⟩ | ⟨rfl, x, hxs, rfl⟩
      · have ha1 : c.args.map ev' = #[ev' s, ev' x] := by apply Array.toList_inj.1; simp [hxs]
        exact fin (by rw [ha1]; rfl) (eAppend_sound (type := type) hS hz (first_of hts) (notInt_some hts hn) hf (hops s (by simp [hxs])) (hops x (by simp [hxs])))
      · have ha1 : c.args.map ev' = #[ev' d, ev' s] := by apply Array.toList_inj.1; simp [hxs]
        exact fin (by rw [ha1]; rfl) (eCopy_sound (type := type) hS (first_of hts) hf (hops d (by simp [hxs])) (hops s (by simp [hxs])))
      · have ha1 : c.args.map ev' = #[ev' x] := by apply Array.toList_inj.1; simp [hxs]
        exact fin (by rw [ha1]; rfl) (eClear_sound (type := type) hS (first_of hts) hf (hops x (by simp [hxs])))
end
end Go.Proofs.YtnfclcfcpgfajaaGreatDoor.Ev

/- What a region's operands are, there and here. -/
namespace Go.Proofs.YtnfclcfcpgfajaaGreatDoor.Ev
open Go Go.RowKit
section
variable {P : Program} {ρ : Ro} {S : St} {W : World}

theorem gv_v (t : Tr Value) (vals : List Value) (i : Nat) : gv t vals (.v i) = orTop (nthL i vals) := rfl
theorem gv_b (t : Tr Value) (vals : List Value) (x : Tmp) : gv t vals (.b x) = orTop (t.get x) := rfl
theorem gv_k (t : Tr Value) (vals : List Value) (v : Value) : gv t vals (.k v) = v := rfl
theorem VR.ofTop {w : Value} : VR ρ Top w := .top w
/-- The names of a region, each at what it stands for. -/
structure EnvR (ρ : Ro) (lv p : Nat) (t0 : Tr Value) (vals : List Value) (env : Env) (tmps : Array Value) : Prop where
  len : vals.length = p
  wf : ∀ t i, findE t env = some (.v i) → i < p
  at_ : ∀ t, VR ρ (gv t0 vals (rel p (baseRef lv t (findE t env)))) (tmps.getD t undef)
theorem EnvR.le {σ : Ro} {lv p : Nat} {t0 : Tr Value} {vals : List Value} {env : Env} {tmps : Array Value} (h : EnvR ρ lv p t0 vals env tmps) (k : ρ.Le σ) : EnvR σ lv p t0 vals env tmps := ⟨h.len, h.wf, fun t => (h.at_ t).le k⟩
theorem EnvR.start {lv n : Nat} {t0 : Tr Value} {tmps : Array Value} (h : FrR ρ n lv t0 tmps) : EnvR ρ lv 0 t0 [] [] tmps := by
  refine ⟨rfl, (fun t i h => by cases h), fun t => ?_⟩
  show VR ρ (gv t0 [] (rel 0 (bi (bitOf lv t) (.b t) (.k Top)))) _
  cases hb : bitOf lv t with
  | false => exact .ofTop
  | true =>
    show VR ρ (orTop (t0.get t)) _
    cases ht : t0.get t with
    | none => exact .ofTop
    | some v =>
      obtain ⟨w, h1, h2⟩ := h.2 t v hb ht
      rw [Array.getD_eq_getD_getElem?, h1]
      exact h2
theorem findE_cons (t u : Tmp) (r : Ref) (l : Env) : findE t ((u, r) :: l) = if u = t then some r else findE t l := by
  simp only [findE, bi_eq]
  by_cases h : u = t
  · subst h; simp
  · simp [h]
theorem rel_push {p : Nat} {r : Ref} (hr : ∀ i, r = .v i → i < p) (t0 : Tr Value) (vals : List Value) (v : Value) : gv t0 (v :: vals) (rel (p + 1) r) = gv t0 vals (rel p r) := by
  cases r with
  | v i =>
    have := hr i rfl
    show orTop (nthL (p + 1 - 1 - i) (v :: vals)) = orTop (nthL (p - 1 - i) vals)
    rw [nthL_eq, nthL_eq]
    have e : p + 1 - 1 - i = (p - 1 - i) + 1 := by omega
    rw [e, List.getElem?_cons_succ]
  | b t => rfl
  | k v => rfl
theorem base_v {lv : Nat} {t : Tmp} {o : Option Ref} {i : Nat} (h : baseRef lv t o = .v i) : o = some (.v i) := by
  cases o with
  | none =>
    simp only [baseRef, bi_eq] at h
    split at h <;> cases h
  | some r => exact congrArg some h
theorem put_getD (a : Go.Act) (d : Tmp) (v : Value) (t : Tmp) (hd : d < a.tmps.size) : (a.put (some d) v).tmps.getD t undef = if d = t then v else a.tmps.getD t undef := by
  show (a.tmps.setIfInBounds d v).getD t undef = _
  rw [Array.getD_eq_getD_getElem?, Array.getD_eq_getD_getElem?, Array.getElem?_setIfInBounds]
  by_cases h : d = t
  · subst h; simp [hd]
  · simp [h]
/-- A name is given. -/
theorem EnvR.give {lv p : Nat} {t0 : Tr Value} {vals : List Value} {env : Env} {a : Go.Act} (h : EnvR ρ lv p t0 vals env a.tmps) {d : Option Tmp} {r : Ref} {v' : Value} (hd : ∀ x, d = some x → x < a.tmps.size) (hr : ∀ i, r = .v i → i < p) (hv : VR ρ (gv t0 vals (rel p r)) v') :
    EnvR ρ lv p t0 vals (bindE d r env) (a.put d v').tmps := by
  cases d with
  | none => exact h
  | some d =>
    refine ⟨h.len, fun t i ht => ?_, fun t => ?_⟩
    · have ht' : findE t ((d, r) :: env) = some (.v i) := ht
      rw [findE_cons] at ht'
      by_cases e : d = t
      · rw [if_pos e] at ht'; cases ht'; exact hr i rfl
      · rw [if_neg e] at ht'; exact h.wf t i ht'
    · show VR ρ (gv t0 vals (rel p (baseRef lv t (findE t ((d, r) :: env))))) _
      rw [findE_cons, put_getD a d v' t (hd d rfl)]
      by_cases e : d = t
      · rw [if_pos e, if_pos e]; exact hv
      · rw [if_neg e, if_neg e]; exact h.at_ t
theorem EnvR.push {lv p : Nat} {t0 : Tr Value} {vals : List Value} {env : Env} {tmps : Array Value} (h : EnvR ρ lv p t0 vals env tmps) (v : Value) : EnvR ρ lv (p + 1) t0 (v :: vals) env tmps :=
  ⟨by rw [List.length_cons, h.len], fun t i hi => by have := h.wf t i hi; omega, fun t => by
    rw [rel_push (fun i hi => h.wf t i (base_v hi)) t0 vals v]
    exact h.at_ t⟩
/-- A new value. -/
theorem EnvR.bind {lv p : Nat} {t0 : Tr Value} {vals : List Value} {env : Env} {a : Go.Act} (h : EnvR ρ lv p t0 vals env a.tmps) {d : Option Tmp} {v v' : Value} (hd : ∀ x, d = some x → x < a.tmps.size) (hv : VR ρ v v') : EnvR ρ lv (p + 1) t0 (v :: vals) (bindE d (.v p) env) (a.put d v').tmps :=
  (h.push v).give hd (fun i hi => by cases hi; omega) (by
    show VR ρ (orTop (nthL (p + 1 - 1 - p) (v :: vals))) v'
    rw [nthL_eq, show p + 1 - 1 - p = 0 by omega]
    exact hv)
/-- What an operand is. -/
theorem EnvR.ev (hS : Sim P ρ S W) {lv p : Nat} {t0 : Tr Value} {vals : List Value} {env : Env} {a : Go.Act} (h : EnvR ρ lv p t0 vals env a.tmps) (x : Operand) : VR ρ (gv t0 vals (refR P lv env p x)) (a.eval x) := by
  cases x with
  | tmp t => exact h.at_ t
  | const v =>
    show VR ρ (bi (plain v) v Top) v
    cases hp : plain v with
    | true => exact plain_flat hp
    | false => exact .ofTop
  | global g => exact .ofTop
  | func f => exact .func_op
theorem EnvR.refA_v {lv p : Nat} {t0 : Tr Value} {vals : List Value} {env : Env} {tmps : Array Value} (h : EnvR ρ lv p t0 vals env tmps) {x : Operand} {i : Nat} (hx : refA P lv env x = .v i) : i < p := by
  cases x with
  | tmp t => exact h.wf t i (base_v hx)
  | const v => cases hx
  | global g => cases hx
  | func f => cases hx
/-- A guard. -/
theorem wanted_sound {a : Go.Act} {ops : Array Oper} {o : Oper} {ev : Operand → Value} (hev : ∀ t w, guardT ops o = some (.tmp t, w) → VR ρ (ev (.tmp t)) (a.eval (.tmp t))) (hct : ev (.const Top) = Top) (hg : gOk ev (guardT ops o) = true) (hsz : ∀ (j : Nat) (t : Tmp), dstAt ops j = some t → t < a.tmps.size) :
    Region.wanted o (yielded ops a.tmps) = wantE ev (guardT ops o) := by
  unfold Region.wanted
  cases hgu : o.guard with
  | none => simp only [guardT, hgu]; rfl
  | some q =>
    obtain ⟨j, w⟩ := q
    simp only [guardT, hgu] at hg ⊢
    cases hd : dstAt ops j with
    | none =>
      simp only [hd] at hg
      have hg' : (!isTop (ev (.const Top))) = true := hg
      rw [hct] at hg'
      cases hg'
    | some t =>
      simp only [hd] at hg ⊢
      have hv := hev t w (by simp only [guardT, hgu, hd])
      have hlt := hsz j t hd
      have hy : yielded ops a.tmps j = match a.tmps.getD t undef with
          | .bool b => some b
          | _ => none := by
        have hb : (ops[j]?).bind (·.dst) = some t := by
          unfold dstAt at hd
          cases ho : ops[j]? with
          | none => rw [ho] at hd; cases hd
          | some o => rw [ho] at hd; exact hd
        rw [Array.getD_eq_getD_getElem?]
        unfold yielded
        rw [hb]
        have : a.tmps[t]? = some a.tmps[t] := by simp [hlt]
        simp only [Option.bind_some, this, Option.getD_some]
        cases a.tmps[t] <;> rfl
      rw [hy]
      have hv' : VR ρ (ev (.tmp t)) (a.tmps.getD t undef) := hv
      have hg' : (!isTop (ev (.tmp t))) = true := hg
      show _ = wantV w (ev (.tmp t))
      generalize a.tmps.getD t undef = c at hv'
      generalize ev (.tmp t) = e at hv' hg'
      cases hv' with
      | top _ => cases hg'
      | flat hp =>
        cases c with
        | bool b => cases b <;> cases w <;> rfl
        | _ => first | rfl | cases hp
      | _ => rfl
end
end Go.Proofs.YtnfclcfcpgfajaaGreatDoor.Ev
