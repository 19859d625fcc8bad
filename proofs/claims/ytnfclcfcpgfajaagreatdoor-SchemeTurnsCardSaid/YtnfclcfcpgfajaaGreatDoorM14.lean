/- A part of the proof that parser laws hold: texts of the walk and of its plain laws, made small. -/
import Derived.Test.YtnfclcfcpgfajaaGreatDoorM13
import Derived.Lib.BytesEntry
import Derived.RangeFuncIn
set_option linter.unusedVariables false
set_option linter.unusedSimpArgs false
/- Functions without a body: counting a byte, finding a byte. -/
namespace Go.Proofs.YtnfclcfcpgfajaaGreatDoor.Ev
open Go Go.RowKit
section
variable {P : Program} {ρ : Ro} {S : St} {W : World}

theorem run_loadB : ∀ (ns : List Nat) (a : Addr) (acc : ByteArray), (∀ j, j < ns.length → W.cell? (a.add j) = (ns.map fun n => Value.int .u8 (.ofNat n))[j]?) →
    (Extern.Bytes.loadBytes a ns.length acc).run P W = .ok ⟨acc.data ++ (ns.map Nat.toUInt8).toArray⟩ W := by
  intro ns a acc h
  have := Go.Lib.run_loadBytesX (P := P) W (ns.map Int.ofNat) a acc (fun j x hj => by
    rw [List.getElem?_map] at hj
    cases hn : ns[j]? with
    | none => rw [hn] at hj; cases hj
    | some n =>
      rw [hn] at hj
      cases hj
      have hl := (List.getElem?_eq_some_iff.1 hn).1
      rw [h j hl, List.getElem?_map, hn]
      rfl)
  rw [List.length_map] at this
  rw [this]
  have e : Go.Lib.bytesOf (ns.map Int.ofNat) = ns.map Nat.toUInt8 := by
    unfold Go.Lib.bytesOf
    rw [List.map_map]
    rfl
  rw [e]
theorem unbytes_bytesL : ∀ (l : List UInt8), unbytes (bytesL l) = some l
  | [] => rfl
  | b :: l => by
    have h1 : byteOf (.int .u8 b.toNat) = some b := by
      show some (b.toNat.toUInt8) = some b
      simp
    simp only [bytesL, unbytes, h1, unbytes_bytesL l]
/-- The bytes of a text, or of a row of bytes. -/
theorem bytes_sound (hS : Sim P ρ S W) {x x' : Value} {n : Nat} {cs : List Value} {bs : List UInt8} (hn : lenL x = some n) (h : firstL S 1 n x = some cs) (hu : unbytes cs = some bs) (hx : VR ρ x x') : (Extern.Bytes.bytesOf x').run P W = .ok ⟨bs.toArray⟩ W := by
  cases x with
  | slice a k c =>
    cases hn
    obtain ⟨ns, rfl, rfl⟩ := unbytes_some hu
    rcases first_bytes h with ⟨rfl, hnil⟩ | ⟨y, rfl, hc⟩
    · have := hx.nilsl
      subst this
      have : ns = [] := by simpa using hnil
      subst this
      rfl
    · obtain ⟨b, c', rfl, _, hcc⟩ := hx.slicev
      have key : AR ρ y b → (Extern.Bytes.bytesOf (.slice (some b) n c')).run P W = .ok ⟨(ns.map Nat.toUInt8).toArray⟩ W := fun hab => by
        obtain ⟨m, h1, _, h3, h4⟩ := load_cells hS hc hab
        have := ints_rel h1
        subst this
        have hl : ns.length = n := by simpa using h4
        subst hl
        have := run_loadB (P := P) ns b .empty h3
        simp only [Extern.Bytes.bytesOf, this]
        congr 1
        apply ByteArray.ext
        show (#[] : Array UInt8) ++ _ = _
        simp
      have zero : n = 0 → (Extern.Bytes.bytesOf (.slice (some b) n c')).run P W = .ok ⟨(ns.map Nat.toUInt8).toArray⟩ W := fun h0 => by
        subst h0
        obtain ⟨_, _, _, _, _, _, hl⟩ := cellsAt_some hc
        have : ns = [] := by simpa using hl
        subst this
        rfl
      rcases hcc with ⟨hab, _⟩ | ⟨hab, _⟩ | ⟨h0, _⟩ | ⟨h0, _⟩
      · exact key hab
      · exact key hab
      · exact zero h0
      · exact zero h0
  | string s =>
    cases hn
    cases h
    have := flat_inv rfl hx
    subst this
    rw [takeL_eq, lenV_eq, List.take_of_length_le (by rw [bytesL_eq]; simp), unbytes_bytesL] at hu
    cases hu
    rfl
  | _ => cases hn
theorem count_at {x : Value} {c : Value} {b : ByteArray} (h : (Extern.Bytes.bytesOf x).run P W = .ok b W) : (Extern.BytealgCount.count #[x, c]).run P W = (Extern.BytealgCount.count #[.string b, c]).run P W := by
  change Sem.run P (do
    let b ← Extern.Bytes.bytesOf x
    let c' ← Extern.Bytes.asByte c
    pure (goInt (b.foldl (fun n x => if x == c' then n + 1 else n) (0 : Nat)))) W = Sem.run P (do
    let b ← Extern.Bytes.bytesOf (.string b)
    let c' ← Extern.Bytes.asByte c
    pure (goInt (b.foldl (fun n x => if x == c' then n + 1 else n) (0 : Nat)))) W
  have hb : (Extern.Bytes.bytesOf (.string b)).run P W = .ok b W := rfl
  simp only [Sem.run_bind, h, hb]
theorem index_at {x : Value} {c : Value} {b : ByteArray} (h : (Extern.Bytes.bytesOf x).run P W = .ok b W) : (Extern.BytealgIndexByte.indexByte #[x, c]).run P W = (Extern.BytealgIndexByte.indexByte #[.string b, c]).run P W := by
  change Sem.run P (do
    let b ← Extern.Bytes.bytesOf x
    let c' ← Extern.Bytes.asByte c
    match (List.range b.size).find? fun i => b[i]! == c' with
    | some i => pure (goInt i)
    | none => pure (goInt (-1))) W = Sem.run P (do
    let b ← Extern.Bytes.bytesOf (.string b)
    let c' ← Extern.Bytes.asByte c
    match (List.range b.size).find? fun i => b[i]! == c' with
    | some i => pure (goInt i)
    | none => pure (goInt (-1))) W
  have hb : (Extern.Bytes.bytesOf (.string b)).run P W = .ok b W := rfl
  simp only [Sem.run_bind, h, hb]
theorem index_eq (c : UInt8) : ∀ (l : List UInt8), (match l.findIdx? fun b => b == c with
    | some i => goInt i
    | none => goInt (-1)) = .int .i64 (Go.Lib.indexByte l c)
  | [] => rfl
  | b :: l => by
    have ih := index_eq c l
    rw [List.findIdx?_cons]
    unfold Go.Lib.indexByte
    by_cases hb : (b == c) = true
    · simp [hb, goInt]
    · simp only [hb, if_false, Bool.false_eq_true]
      cases hf : l.findIdx? fun b => b == c with
      | none =>
        rw [hf] at ih
        simp only [goInt, Value.int.injEq, true_and] at ih
        simp [← ih, goInt]
      | some i =>
        rw [hf] at ih
        simp only [goInt, Value.int.injEq, true_and] at ih
        simp only [Option.map_some, ← ih]
        have : ((i : Int) == -1) = false := by rw [beq_eq_false_iff_ne]; omega
        simp [this, goInt]
/-- What is asked of the functions without a body. -/
structure XOk (P : Program) (X : FuncId → Nat) : Prop where
  count : ∀ g, X g = 1 → ∀ (args : Array Value) (W : World) (v : Value), (Extern.BytealgCount.count args).run P W = .ok v W → (callFunc g args).run P W = .ok (.value v) W
  index : ∀ g, X g = 2 → ∀ (args : Array Value) (W : World) (v : Value), (Extern.BytealgIndexByte.indexByte args).run P W = .ok v W → (callFunc g args).run P W = .ok (.value v) W
theorem extern_sound {X : FuncId → Nat} (hX : XOk P X) (hS : Sim P ρ S W) {g : FuncId} {args : List Value} {args' : Array Value} {v : Value} (h : extern S (X g) args = some v) (ha : LR ρ args args'.toList) :
    ∃ v', (callFunc g args').run P W = .ok (.value v') W ∧ VR ρ v v' := by
  match args, h, ha with
  | [b, c], h, ha =>
    obtain ⟨b', m1, e1, hb, ha1⟩ := ha.cons_inv
    obtain ⟨c', m2, e2, hc, ha2⟩ := ha1.cons_inv
    have := ha2.nil_inv
    subst this
    subst e2
    have ea : args' = #[b', c'] := Array.toList_inj.1 e1
    subst ea
    simp only [extern] at h
    cases hbc : byteOf c with
    | none => simp only [hbc] at h; cases h
    | some cb =>
      cases hl : lenL b with
      | none => simp only [hbc, hl] at h; cases h
      | some n =>
        simp only [hbc, hl] at h
        cases hf : firstL S 1 n b with
        | none => rw [hf] at h; cases h
        | some cs =>
          rw [hf] at h
          simp only [extA] at h
          cases hu : unbytes cs with
          | none => rw [hu] at h; cases h
          | some bs =>
            rw [hu] at h
            have hby := bytes_sound hS hl hf hu hb
            obtain ⟨k, rfl, rfl⟩ := byte_some hbc
            have := flat_inv rfl hc
            subst this
            have h' : bi (Nat.beq (X g) 1) (some (goInt (lenV (bs.filter fun b => b == k.toUInt8)))) (bi (Nat.beq (X g) 2) (some (match bs.findIdx? fun b => b == k.toUInt8 with
              | some i => goInt i
              | none => goInt (-1))) none) = some v := h
            cases h1 : Nat.beq (X g) 1 with
            | true =>
              rw [h1] at h'
              cases h'
              refine ⟨_, hX.count g (beq_t h1) _ _ _ ((count_at hby).trans (Go.Lib.run_countString _ _ _)), ?_⟩
              have e : (Go.Lib.countByte bs k.toUInt8) = lenV (bs.filter fun b => b == k.toUInt8) := by
                rw [lenV_eq]
                unfold Go.Lib.countByte
                rw [List.count_eq_countP, List.countP_eq_length_filter]
              show VR ρ _ (.int .i64 (Go.Lib.countByte bs k.toUInt8))
              rw [e]
              exact .flat rfl
            | false =>
              rw [h1] at h'
              cases h2 : Nat.beq (X g) 2 with
              | false => rw [h2] at h'; cases h'
              | true =>
                rw [h2] at h'
                cases h'
                refine ⟨_, hX.index g (beq_t h2) _ _ _ ((index_at hby).trans (Go.Lib.run_indexByteString _ _ _)), ?_⟩
                rw [index_eq]
                exact .flat rfl
end
end Go.Proofs.YtnfclcfcpgfajaaGreatDoor.Ev

/- A call. -/
namespace Go.Proofs.YtnfclcfcpgfajaaGreatDoor.Ev
open Go Go.RowKit
section
variable {P : Program}

theorem putArgs_get : ∀ (l : List Value) (k : Nat) (t : Tr Value) (x : Nat), (putArgs k l t).get x = if k ≤ x ∧ x < k + l.length then l[x - k]? else t.get x
  | [], k, t, x => by
    have : ¬ (k ≤ x ∧ x < k + 0) := by omega
    rw [List.length_nil, if_neg this]
    rfl
  | v :: l, k, t, x => by
    show (putArgs (Nat.succ k) l (t.put k v)).get x = _
    rw [putArgs_get l (Nat.succ k) (t.put k v) x, List.length_cons]
    by_cases h1 : x = k
    · subst h1
      rw [if_neg (by omega), if_pos (by omega), Tr.get_put, if_pos rfl]
      simp
    · by_cases h2 : k ≤ x ∧ x < k + (l.length + 1)
      · rw [if_pos (by omega), if_pos h2]
        have : x - k = (x - Nat.succ k) + 1 := by omega
        rw [this, List.getElem?_cons_succ]
      · rw [if_neg (by omega), if_neg h2, Tr.get_put, if_neg h1]
/-- The temporaries at a call. -/
theorem FrR.call {ρ : Ro} {lv n : Nat} {args : List Value} {args' : Array Value} (h : LR ρ args args'.toList) (hn : args.length ≤ n) : FrR ρ n lv (putArgs 0 args Tr.e) (args' ++ Array.replicate (n - args'.size) undef) := by
  have hs : args'.size = args.length := by rw [h.1]; simp
  refine ⟨by simp; omega, fun x v _ hv => ?_⟩
  rw [putArgs_get] at hv
  split at hv
  · rename_i hx
    obtain ⟨w, h1, h2⟩ := h.get hv
    refine ⟨w, ?_, h2⟩
    have : x - 0 = x := by omega
    rw [this] at h1
    rw [Array.getElem?_append_left (by omega)]
    simpa using h1
  · rw [Tr.get_e] at hv
    cases hv
/-- The round that code is run in. -/
def RdOk (F : Fence) (rd : Option Nat) (ρ0 : Ro) : Prop := (F = Fence.wide ∧ rd = none) ∨ ∃ l l', F = Fence.wide.inRound l' ∧ rd = some l ∧ ρ0.at_ l = some (l', 0)
theorem RdOk.wide {F : Fence} {rd : Option Nat} {ρ0 : Ro} (h : RdOk F rd ρ0) : Wide F := by
  rcases h with ⟨rfl, _⟩ | ⟨l, l', rfl, _⟩
  · exact .inl rfl
  · exact .inr ⟨l', rfl⟩
theorem RdOk.is {F : Fence} {rd : Option Nat} {ρ0 : Ro} (h : RdOk F rd ρ0) (hr : F.round ≠ none) : isS rd = true := by
  rcases h with ⟨rfl, _⟩ | ⟨l, l', _, rfl, _⟩
  · exact absurd rfl hr
  · rfl
/-- Ranges over functions are as they are told. -/
def RangeOk (P : Program) (ih : Task → Res) : Prop :=
  ∀ {F : Fence} {n N : Nat} {ρ0 : Ro} {W0 : World} {Sx : St} {vx : Value} {rd : Option Nat} {fn : FuncId}, RdOk F rd ρ0 → ∀ f ps sg bo,
    CodeOk P F n N ρ0 W0 (tmpsF P fn) (liveF P fn) (.va vx Sx) (fun k x t dl S => kRange ih rd fn (evF (liveF P fn) t f) ps sg bo k x t dl S) (.rangeFunc f ps sg bo)
/-- No function of a body is one that the model answers itself. -/
def NumOk (P : Program) : Prop := ∀ (g : FuncId) (fn : Func), P.funcs[g]? = some fn → fn.body.isSome = true → (fn.name == "runtime.NumGoroutine") = false
theorem enter_run (hN : NumOk P) {g : FuncId} {fn : Func} {c : Code} (hf : P.funcs[g]? = some fn) (hb : fn.body = some c) (args : Array Value) (W : World) : (callFunc g args).run P W = .ok (.enter g args) W := by
  have h1 := hN g fn hf (by rw [hb]; rfl)
  have h2 : ¬ fn.name = "runtime.NumGoroutine" := by simpa using h1
  simp [callFunc, Sem.run_bind, program, Sem.run, hf, h2, hb]
/-- What is asked of a program. -/
structure ProgOk (P : Program) (X : FuncId → Nat) (Y : FuncId → Nat → Bool) : Prop where
  num : NumOk P
  zero : ZeroOk P
  ext : XOk P X
  put : YOk P Y
theorem kRets_va {S S1 : St} {o : Option (List Value)} {v : Value} (h : kRets S o = .va v S1) : ∃ vs, o = some vs ∧ v = one? vs ∧ S = S1 := by
  cases o with
  | none => cases h
  | some vs => cases h; exact ⟨vs, rfl, rfl, rfl⟩
/-- A function's call. -/
theorem call_sound {ih : Task → Res} (hih : IhOk P ih) (hdr : DrawOk P) (hrf : RangeOk P ih) {X : FuncId → Nat} {Y : FuncId → Nat → Bool} (hP : ProgOk P X Y) {g : FuncId} {args : List Value} {S S1 : St} {v : Value} (h : sCall P ih X Y g args S = .va v S1) {ρ : Ro} {W : World} {args' : Array Value} (hS : Sim P ρ S W) (ha : LR ρ args args'.toList) :
    UponOk P ρ S W v S1 (callFunc g args') := by
  unfold sCall at h
  cases hf : P.funcs[g]? with
  | none => rw [hf] at h; cases h
  | some fn =>
    rw [hf] at h
    have h1 : kFn P ih X Y g args S fn = .va v S1 := h
    unfold kFn at h1
    cases hb : fn.body with
    | none =>
      rw [hb] at h1
      have h2 : exRes S (extern S (X g) args) = .va v S1 := h1
      cases he : extern S (X g) args with
      | none => rw [he] at h2; cases h2
      | some v0 =>
        rw [he] at h2
        cases h2
        obtain ⟨v', q1, q2⟩ := extern_sound hP.ext hS he ha
        intro F n o a next Q _ hn
        rw [q1]
        exact hn v' W ρ q2 hS (.refl _ _ _) (Nat.le_refl _)
    | some b =>
      rw [hb] at h1
      have h2 : bi (Nat.ble (lenV args) fn.ntmps) (codeT P ih none g fn.ntmps (liveF P g) b (finish P Y (liveF P g) fn.results.toList) (xRet (finish P Y (liveF P g) fn.results.toList)) (putArgs 0 args Tr.e) [] S) .no = .va v S1 := h1
      cases hl : Nat.ble (lenV args) fn.ntmps with
      | false => rw [hl] at h2; cases h2
      | true =>
        rw [hl] at h2
        have h3 : codeT P ih none g fn.ntmps (liveF P g) b (finish P Y (liveF P g) fn.results.toList) (xRet (finish P Y (liveF P g) fn.results.toList)) (putArgs 0 args Tr.e) [] S = .va v S1 := h2
        have hle : args.length ≤ fn.ntmps := by rw [← lenV_eq]; exact Nat.le_of_ble_eq_true hl
        intro F n o a next Q hF hn
        rw [enter_run hP.num hf hb]
        refine ⟨fun hd => (by rw [hF.depth] at hd; cases hd), ?_⟩
        have key : CallsIn Fence.wide (n - 1) P g args' W fun
            | .returned v, w'' => next (a.put o.dst v) w''
            | .panicked chain, w'' => Q (.panic chain) a w''
            | .outgrown, _ => LetsOut Q := by
          have hT : tmpsF P g = fn.ntmps := by unfold tmpsF; rw [hf]
          have hrf' := hrf (F := Fence.wide) (n := n - 1) (N := S.nx) (ρ0 := ρ) (W0 := W) (Sx := S1) (vx := v) (rd := none) (fn := g) (.inl ⟨rfl, rfl⟩)
          rw [hT] at hrf'
          have hfin : KnOk P S.nx ρ W fn.ntmps (liveF P g) (.va v S1) (finish P Y (liveF P g) fn.results.toList) (fun a0 W0 => LeavesInM Fence.wide (n - 1) P fn a0.tmps (fun
            | .returned v, w'' => next (a.put o.dst v) w''
            | .panicked chain, w'' => Q (.panic chain) a w''
            | .outgrown, _ => LetsOut Q) a0.defers .returning W0) := by
            intro ρ' S' W' t dl a0 hst hfr hdl h4
            refine leave_sound hP.put (fun S2 W2 hst2 h5 => ?_) hst hdl h4
            obtain ⟨vs, q1, q2, q3⟩ := kRets_va h5
            subst q3
            obtain ⟨v', q4, q5⟩ := results_sound hst2.sim hfr q1
            rw [← q2] at q5
            exact ⟨v', q4, hn v' W2 ρ' q5 hst2.sim hst2.ext hst2.nx⟩
          refine callsIn_of_wp_marks hf hb trivial (codeT_sound hih hP.zero hdr (.inl rfl) (rd := none) (fun h => absurd rfl h) hrf' b _ _ _ ρ S W _ [] _ hfin (fun o0 => ?_) ⟨hS, .refl _ _ _, Nat.le_refl _⟩ (FrR.call ha hle) .nil h3)
          cases o0 with
          | ret => exact hfin
          | exit i => intro ρ S W t dl a _ _ _ h; cases h
          | goto l => intro ρ S W t dl a _ _ _ h; cases h
        rcases hF with rfl | ⟨l, rfl⟩
        · exact key
        · exact key
end
end Go.Proofs.YtnfclcfcpgfajaaGreatDoor.Ev

/- Rounds. -/
namespace Go.Proofs.YtnfclcfcpgfajaaGreatDoor.Ev
open Go Go.RowKit
section
variable {P : Program}

/-- The parameters of a round. -/
theorem FrR.params {ρ : Ro} {n lv : Nat} : ∀ {ps : List Tmp} {args args' : List Value} {t : Tr Value} {a : Array Value}, LR ρ args args' → ps.length = args.length → fitsPs n ps = true → FrR ρ n lv t a → FrR ρ n lv (putPs ps args t) ((ps.zip args').foldl (fun tmps (p : Tmp × Value) => tmps.setIfInBounds p.1 p.2) a)
  | [], args, args', t, a, _, _, _, h => by
    cases args <;> exact h
  | p :: ps, [], args', t, a, _, hl, _, _ => by cases hl
  | p :: ps, v :: args, args', t, a, hr, hl, hf, h => by
    obtain ⟨w, m', rfl, h1, h2⟩ := hr.cons_inv
    obtain ⟨g1, g2⟩ := nb_t (show nb (Nat.ble (Nat.succ p) n) (fitsPs n ps) = true from hf)
    have hp := ble_t g1
    refine FrR.params (t := t.put p v) (a := a.setIfInBounds p w) h2 (by simpa using hl) g2 ⟨by simpa using h.1, fun x u hx hu => ?_⟩
    rw [Tr.get_put] at hu
    by_cases e : x = p
    · subst e
      rw [if_pos rfl] at hu
      cases hu
      refine ⟨w, ?_, h1⟩
      have : x < a.size := by rw [h.1]; exact hp
      simp [this]
    · rw [if_neg e] at hu
      obtain ⟨w', q1, q2⟩ := h.2 x u hx hu
      refine ⟨w', ?_, q2⟩
      rw [Array.getElem?_setIfInBounds, if_neg (Ne.symm e)]
      exact q1
theorem yield_run {W : World} {l' : Nat} {r : Loop} (hl : W.heap[l']? = some (.loop r)) {args : Array Value} (hs : args.size = r.params.size) : (Instr.yield l' args).run P W = .ok (.round l' r.fn ((r.params.zip args).foldl (fun tmps (t, a) => tmps.setIfInBounds t a) r.tmps) r.assign r.body) W := by
  simp only [Instr.yield, Instr.getLoop, Sem.run_bind, run_getOb hl rfl, Result.andThen_ok, Sem.run_pure, hs, ne_eq, not_true_eq_false, if_false]
theorem begin_run {W : World} {l' : Nat} {r : Loop} (hl : W.heap[l']? = some (.loop r)) (hs : r.state = .ready) : (Instr.beginRound l').run P W = .ok () { W with heap := W.heap.setIfInBounds l' (.loop { r with state := .busy }) } := by
  simp only [Instr.beginRound, Instr.getLoop, Sem.run_bind, run_getOb hl rfl, Result.andThen_ok, Sem.run_pure, run_setOb hl rfl, hs]
theorem end_run {W : World} {l' : Nat} {r : Loop} (hl : W.heap[l']? = some (.loop r)) (j : Option Code) : (Instr.endRound l' j).run P W = .ok (.bool j.isNone) { W with heap := W.heap.setIfInBounds l' (.loop { r with state := if j.isNone then .ready else .done, pending := j }) } := by
  simp only [Instr.endRound, Instr.getLoop, Sem.run_bind, run_getOb hl rfl, Result.andThen_ok, Sem.run_pure, run_setOb hl rfl]
/-- A record, there and here. -/
theorem Sim.loop {ρ : Ro} {S : St} {W : World} (hS : Sim P ρ S W) {l l' : Nat} (hl : ρ.at_ l = some (l', 0)) {st : LoopState} {pend : Option Out} {fn : FuncId} {tm : Tr Value} {ps : List Tmp} {sg bo : Code} {bl : Nat} (h : S.h.get l = some (.loop st pend fn tm ps sg bo bl)) :
    ∃ r : Loop, W.heap[l']? = some (.loop r) ∧ r.state = st ∧ r.pending = pend.map outCode ∧ r.params.toList = ps ∧ r.assign = sg ∧ r.body = bo ∧ FrR ρ (tmpsF P fn) (liveF P fn) tm r.tmps ∧ ρ.at_ bl = some (r.defers, 0) := by
  obtain ⟨x, hx, _, r, rfl, q⟩ := hS.ob l _ l' 0 h hl
  exact ⟨r, hx, q⟩
theorem setLoop_some {l : Nat} {S S' : St} {st : LoopState} {pend : Option Out} {o : Option Ob} (h : setLoop l S st pend o = some S') : ∃ st0 pend0 fn tm ps sg bo bl, o = some (.loop st0 pend0 fn tm ps sg bo bl) ∧ lowB ≤ l ∧ S' = S.set l (.loop st pend fn tm ps sg bo bl) := by
  cases o with
  | none => cases h
  | some o =>
    cases o with
    | loop st0 pend0 fn tm ps sg bo bl =>
      obtain ⟨h1, h2⟩ := bi_some (show bi (Nat.ble lowB l) (some (S.set l (.loop st pend fn tm ps sg bo bl))) none = some S' from h)
      cases h2
      exact ⟨st0, pend0, fn, tm, ps, sg, bo, bl, rfl, Nat.le_of_ble_eq_true h1, rfl⟩
    | _ => cases h
/-- The end of a round. -/
theorem endRound_sound {N : Nat} {ρ0 ρ : Ro} {W0 W : World} {S S1 : St} {v : Value} (hst : StR P N ρ0 W0 ρ S W) {l l' : Nat} (hl : ρ.at_ l = some (l', 0)) (o : Option Out) (h : kVa o.isNone (setLoop l S (if o.isNone then .ready else .done) o (S.h.get l)) = .va v S1) :
    ∃ W', (Instr.endRound l' (o.map outCode)).run P W = .ok v W' ∧ StR P N ρ0 W0 ρ S1 W' ∧ ∃ b, v = .bool b := by
  cases hs : setLoop l S (if o.isNone then .ready else .done) o (S.h.get l) with
  | none => rw [hs] at h; cases h
  | some S' =>
    rw [hs] at h
    cases h
    obtain ⟨st0, pend0, fn, tm, ps, sg, bo, bl, ho, hlow, rfl⟩ := setLoop_some hs
    obtain ⟨r, hr, e1, e2, e3, e4, e5, e6, e7⟩ := hst.sim.loop hl ho
    obtain ⟨q1, q2⟩ := hst.sim.objset (o' := .loop (if o.isNone then .ready else .done) o fn tm ps sg bo bl) (x := .loop { r with state := if (o.map outCode).isNone then .ready else .done, pending := o.map outCode }) hl ho hlow rfl rfl ⟨rfl, _, rfl, by cases o <;> rfl, rfl, e3, e4, e5, e6, e7⟩
    refine ⟨_, ?_, hst.step q1 q2 (by rw [St.set_nx]; exact Nat.le_refl _), _, rfl⟩
    rw [end_run hr]
    cases o <;> rfl
/-- A round. -/
theorem round_sound {ih : Task → Res} (hih : IhOk P ih) (hdr : DrawOk P) (hrf : RangeOk P ih) (hz : ZeroOk P) {l : Nat} {args : List Value} {S S1 : St} {v : Value} (h : sRound P ih l args S = .va v S1) {ρ : Ro} {W : World} {l' : Nat} {args' : Array Value} (hS : Sim P ρ S W) (hl : ρ.at_ l = some (l', 0)) (ha : LR ρ args args'.toList) :
    UponOk P ρ S W v S1 (Instr.yield l' args') := by
  unfold sRound at h
  cases ho : S.h.get l with
  | none => rw [ho] at h; cases h
  | some ob =>
    rw [ho] at h
    cases ob with
    | loop st pend fn tm ps sg bo bl =>
      have h1 : bi (nb (Nat.beq (lenV args) (lenV ps)) (fitsPs (tmpsF P fn) ps)) (codeT P ih (some l) fn (tmpsF P fn) (liveF P fn) sg (fun t dl S => kBody P ih l fn bo t dl S (S.h.get l)) (fun _ _ _ _ => .no) (putPs ps args tm) [] S) .no = .va v S1 := h
      cases hc : nb (Nat.beq (lenV args) (lenV ps)) (fitsPs (tmpsF P fn) ps) with
      | false => rw [hc] at h1; cases h1
      | true =>
        rw [hc] at h1
        have h2 : codeT P ih (some l) fn (tmpsF P fn) (liveF P fn) sg (fun t dl S => kBody P ih l fn bo t dl S (S.h.get l)) (fun _ _ _ _ => .no) (putPs ps args tm) [] S = .va v S1 := h1
        obtain ⟨c1, c2⟩ := nb_t hc
        have c1' := beq_t c1
        rw [lenV_eq, lenV_eq] at c1'
        obtain ⟨r, hr, e1, e2, e3, e4, e5, e6, e7⟩ := hS.loop hl ho
        intro F n o a next Q hF hn
        have hsz : args'.size = r.params.size := by
          have q1 := ha.1
          have q2 : r.params.toList.length = ps.length := by rw [e3]
          simp only [Array.length_toList] at q1 q2
          omega
        rw [yield_run hr hsz]
        refine ⟨fun hd => (by rw [hF.depth] at hd; cases hd), ?_⟩
        have hfr : FrR ρ (tmpsF P fn) (liveF P fn) (putPs ps args tm) ((r.params.zip args').foldl (fun tmps (t, a) => tmps.setIfInBounds t a) r.tmps) := by
          have := FrR.params (ρ := ρ) ha c1'.symm c2 e6
          rw [← Array.foldl_toList, Array.toList_zip, e3]
          exact this
        have key : RoundIn Fence.wide (n - 1) P l' r.fn ((r.params.zip args').foldl (fun tmps (t, a) => tmps.setIfInBounds t a) r.tmps) r.assign r.body W fun
            | .returned v, w'' => next (a.put o.dst v) w''
            | .panicked chain, w'' => Q (.panic chain) a w''
            | .outgrown, _ => LetsOut Q := by
          have hrd : RdOk (Fence.wide.inRound l') (some l) ρ := .inr ⟨l, l', rfl, rfl, hl⟩
          have hrf' := fun {n : Nat} => hrf (n := n) (N := S.nx) (W0 := W) (Sx := S1) (vx := v) (fn := fn) hrd
          refine roundIn_of_wpIn trivial ?_
          rw [e4, e5]
          refine codeT_sound hih hz hdr hrd.wide hrd.is hrf' sg _ _ _ ρ S W _ [] _ ?_ (fun o0 => ?_) ⟨hS, .refl _ _ _, Nat.le_refl _⟩ hfr .nil h2
          · intro ρ1 S1' W1 t1 dl1 a1 hst1 hfr1 hdl1 h3
            have hl1 := hst1.ext.le.at_ _ _ _ hl
            have h3 : kBody P ih l fn bo t1 dl1 S1' (S1'.h.get l) = .va v S1 := h3
            cases ho1 : S1'.h.get l with
            | none => rw [ho1] at h3; cases h3
            | some ob1 =>
              rw [ho1] at h3
              cases ob1 with
              | loop st1 pend1 fn1 tm1 ps1 sg1 bo1 bl1 =>
                have h4 : bi (nb (isReady st1) (Nat.ble lowB l)) (codeT P ih (some l) fn (tmpsF P fn) (liveF P fn) bo (fun _ _ S => roundEnd l S) (fun o _ _ S => roundJump l S o) t1 dl1 (S1'.set l (.loop .busy pend1 fn1 tm1 ps1 sg1 bo1 bl1))) .no = .va v S1 := h3
                cases hc1 : nb (isReady st1) (Nat.ble lowB l) with
                | false => rw [hc1] at h4; cases h4
                | true =>
                  rw [hc1] at h4
                  have h5 : codeT P ih (some l) fn (tmpsF P fn) (liveF P fn) bo (fun _ _ S => roundEnd l S) (fun o _ _ S => roundJump l S o) t1 dl1 (S1'.set l (.loop .busy pend1 fn1 tm1 ps1 sg1 bo1 bl1)) = .va v S1 := h4
                  obtain ⟨d1, d2⟩ := nb_t hc1
                  have hready : st1 = .ready := by cases st1 <;> first | rfl | cases d1
                  subst hready
                  obtain ⟨r1, hr1, f1, f2, f3, f4, f5, f6, f7⟩ := hst1.sim.loop hl1 ho1
                  refine ⟨_, begin_run hr1 f1, ?_⟩
                  obtain ⟨q1, q2⟩ := hst1.sim.objset (o' := .loop .busy pend1 fn1 tm1 ps1 sg1 bo1 bl1) (x := .loop { r1 with state := .busy }) hl1 ho1 (Nat.le_of_ble_eq_true d2) rfl rfl ⟨rfl, _, rfl, rfl, f2, f3, f4, f5, f6, f7⟩
                  have hst2 := hst1.step q1 q2 (by rw [St.set_nx]; exact Nat.le_refl _)
                  have fin : ∀ (oo : Option Out) {ρ2 : Ro} {S2 : St} {W2 : World}, StR P S.nx ρ W ρ2 S2 W2 → kVa oo.isNone (setLoop l S2 (if oo.isNone then .ready else .done) oo (S2.h.get l)) = .va v S1 → ∃ v' w', (Instr.endRound l' (oo.map outCode)).run P W2 = .ok v' w' ∧ next (a.put o.dst v') w' := by
                    intro oo ρ2 S2 W2 hs2 h6
                    obtain ⟨W3, g1, g2, b, rfl⟩ := endRound_sound hs2 (hs2.ext.le.at_ _ _ _ hl) oo h6
                    exact ⟨_, W3, g1, hn _ W3 ρ2 (.flat rfl) g2.sim g2.ext g2.nx⟩
                  refine codeT_sound hih hz hdr hrd.wide hrd.is hrf' bo _ _ _ ρ1 _ _ t1 dl1 a1 ?_ (fun o1 => ?_) hst2 hfr1 hdl1 h5
                  · intro ρ2 S2 W2 t2 dl2 a2 hst2 _ _ h6
                    exact fin none hst2 h6
                  · intro ρ2 S2 W2 t2 dl2 a2 hst2 _ _ h6
                    have := fin (some o1) hst2 h6
                    cases o1 <;> exact this
              | _ => cases h3
          · intro ρ S W t dl a _ _ _ h
            cases h
        rcases hF with rfl | ⟨l2, rfl⟩
        · exact key
        · exact key
    | _ => cases h
end
end Go.Proofs.YtnfclcfcpgfajaaGreatDoor.Ev

/- Ranges over functions. -/
namespace Go.Proofs.YtnfclcfcpgfajaaGreatDoor.Ev
open Go Go.RowKit
section
variable {P : Program}

/-- A new object that is no row. -/
theorem StR.new {N : Nat} {ρ0 ρ : Ro} {W0 W : World} {S : St} (hst : StR P N ρ0 W0 ρ S W) {o : Ob} {x : Obj} (ho : alone o) (hx : ObR P (ρ.place S.nx W.heap.size 0 0) o W.heap.size 0 x) :
    StR P N ρ0 W0 (ρ.place S.nx W.heap.size 0 0) (S.new o) { W with heap := W.heap.push x } ∧ ρ.Le (ρ.place S.nx W.heap.size 0 0) ∧ (ρ.place S.nx W.heap.size 0 0).at_ S.nx = some (W.heap.size, 0) := by
  have hu := hst.sim.fresh
  obtain ⟨q1, q2⟩ := (hst.sim.new_ ho).place (u := S.nx) (sz := 0) (ez := 0) (o := o) (x := x) (W' := { W with heap := W.heap.push x }) (by rw [St.new_h, if_pos rfl]) hu hst.sim.nx rfl rfl rfl rfl hx
  exact ⟨hst.step q1 q2 (by rw [St.new_nx]; omega), place_le hst.sim hu, Ro.place_at _ _ _ _ _⟩
theorem endLoop_run {W : World} {l' : Nat} {r : Loop} (hl : W.heap[l']? = some (.loop r)) (hs : r.state ≠ .busy) : (Instr.endLoop l').run P W = .ok r.pending { W with heap := W.heap.setIfInBounds l' (.loop { r with state := .exhausted }) } := by
  have h : (r.state == .busy) = false := by
    cases hst : r.state <;> first | rfl | exact absurd hst hs
  simp only [Instr.endLoop, Instr.getLoop, Sem.run_bind, run_getOb hl rfl, Result.andThen_ok, Sem.run_pure, run_setOb hl rfl, h, Bool.false_eq_true, if_false]
/-- The call of a range over a function, and what is behind it. -/
theorem range1_sound {ih : Task → Res} (hih : IhOk P ih) (hN : NumOk P) {F : Fence} {n : Nat} (hF : Wide F) {N : Nat} {ρ0 ρ : Ro} {W0 W : World} {S Sx : St} {vx : Value} {nt lv : Nat} {k : Kn} {x : Kx} {Q : Exit → Go.Act → World → Prop} {t : Tr Value} {dl : List Deferred} {l l' : Nat} {v : Value} {g : Operand} {a a' : Go.Act}
    (hk : KnOk P N ρ0 W0 nt lv (.va vx Sx) k (Q .normal)) (hx : KxOk P N ρ0 W0 nt lv (.va vx Sx) x Q) (hst : StR P N ρ0 W0 ρ S W) (hfr : FrR ρ nt lv t a'.tmps) (hdl : DlR ρ dl a'.defers) (hl : ρ.at_ l = some (l', 0)) (hv : VR ρ v (a.eval g))
    (h : kRange1 ih k x t dl l S v = .va vx Sx) :
    ∃ (d : Deferred) (w₁' : World) (f : FuncId) (args : Array Value) (w₂ : World), (resolve a.eval (rangeCall g l') 0).run P W = .ok d w₁' ∧ (invoke d.target d.args).run P w₁' = .ok (.enter f args) w₂ ∧ CallsIn F (n - 1) P f args w₂ (rangePost F n P l' Q a') := by
  cases v with
  | func fv first cap =>
    obtain ⟨g', b, d, he, hfn, h1, h2⟩ := hv.funcv
    cases fv with
    | func i =>
      have hg : g' = .func i := hfn
      subst hg
      have h3 : kOp (fun _ S => kRangeO k x t dl l S (S.h.get l)) (ih (.call i (first.toList ++ (.func (.yield l) #[] #[] :: cap.toList)) S)) = .va vx Sx := h
      obtain ⟨v1, S1, h4, h5⟩ := kOp_some h3
      obtain ⟨fn, bd, hf, hb⟩ := hih.body _ _ _ _ _ h4 ⟨.yield l, #[], #[], by simp⟩
      refine ⟨{ target := .fn (.func i) d, args := b ++ #[.func (.yield l') #[] #[]] }, W, i, b ++ #[.func (.yield l') #[] #[]] ++ d, W, ?_, ?_, ?_⟩
      · have em : #[Operand.const (.func (.yield l') #[] #[])].map a.eval = #[.func (.yield l') #[] #[]] := by
          rw [List.map_toArray]
          rfl
        simp only [resolve, rangeCall, he, Deferred.ofValue, em]
        rfl
      · exact enter_run hN hf hb _ W
      · have hyield : VR ρ (.func (.yield l) #[] #[]) (.func (.yield l') #[] #[]) := .func ⟨l', rfl, hl⟩ rfl (fun i v w h => by simp at h) rfl (fun i v w h => by simp at h)
        have hu := hih.call i _ S v1 S1 h4 ρ W (b ++ #[.func (.yield l') #[] #[]] ++ d) hst.sim (by
          rw [Array.toList_append, Array.toList_append, List.append_assoc]
          exact h1.append (LR.cons hyield h2))
        have hu' := hu F n { dst := none, op := .move g, type := 0, pos := "", after := #[], guard := none } a' (fun _ w₃ => ∃ jump w₄, (Instr.endLoop l').run P w₃ = .ok jump w₄ ∧
          (match jump with
           | none => Q .normal a' w₄
           | some c => c.wpIn F n P Q a' w₄)) Q hF (fun v' W' σ q1 q2 q3 q4 => ?_)
        · rw [enter_run hN hf hb] at hu'
          have hu2 := hu'.2
          refine CallsIn.mono hu2 fun e w' he => ?_
          cases e <;> exact he
        · have hst1 := hst.step q2 q3 q4
          have hl1 := q3.le.at_ _ _ _ hl
          have h5 : kRangeO k x t dl l S1 (S1.h.get l) = .va vx Sx := h5
          cases ho : S1.h.get l with
          | none => rw [ho] at h5; cases h5
          | some o =>
            rw [ho] at h5
            cases o with
            | loop st pend fn' tm ps sg bo bl =>
              have h6 : bi (isBusy st) .no (bi (Nat.ble lowB l) (kPend k x t dl (S1.set l (.loop .exhausted pend fn' tm ps sg bo bl)) pend) .no) = .va vx Sx := h5
              cases hbs : isBusy st with
              | true => rw [hbs] at h6; cases h6
              | false =>
                rw [hbs] at h6
                cases hlow : Nat.ble lowB l with
                | false => rw [hlow] at h6; cases h6
                | true =>
                  rw [hlow] at h6
                  have h7 : kPend k x t dl (S1.set l (.loop .exhausted pend fn' tm ps sg bo bl)) pend = .va vx Sx := h6
                  obtain ⟨r, hr, e1, e2, e3, e4, e5, e6, e7⟩ := hst1.sim.loop hl1 ho
                  obtain ⟨p1, p2⟩ := hst1.sim.objset (o' := .loop .exhausted pend fn' tm ps sg bo bl) (x := .loop { r with state := .exhausted }) hl1 ho (Nat.le_of_ble_eq_true hlow) rfl rfl ⟨rfl, _, rfl, rfl, e2, e3, e4, e5, e6, e7⟩
                  have hst2 := hst1.step p1 p2 (by rw [St.set_nx]; exact Nat.le_refl _)
                  have hfr2 := hfr.le q3.le
                  have hdl2 := hdl.le q3.le
                  refine ⟨_, _, endLoop_run hr (by rw [e1]; intro hst; rw [hst] at hbs; cases hbs), ?_⟩
                  revert hst2
                  generalize ({ W' with heap := W'.heap.setIfInBounds l' (.loop { r with state := .exhausted }) } : World) = W4
                  intro hst2
                  rw [e2]
                  cases pend with
                  | none => exact hk σ _ _ t dl a' hst2 hfr2 hdl2 h7
                  | some o =>
                    have h8 := hx o σ _ _ t dl a' hst2 hfr2 hdl2 h7
                    cases o with
                    | exit i => exact wpIn_exit h8
                    | goto l => exact wpIn_goto h8
                    | ret => exact wpIn_ret h8
            | _ => cases h5
    | _ => cases h
  | _ => cases h
/-- A range over a function. -/
theorem range_sound {ih : Task → Res} (hih : IhOk P ih) (hN : NumOk P) : RangeOk P ih := by
  intro F n N ρ0 W0 Sx vx rd fn hrd f ps sg bo k x Q ρ S W t dl a hk hx hst hfr hdl h
  have hF := hrd.wide
  have hdep : F.depth.isSome = true → 1 ≤ n := fun hd => by rw [hF.depth] at hd; cases hd
  refine wpIn_rangeFunc fun fn' _ => ?_
  rcases hrd with ⟨rfl, rfl⟩ | ⟨l, l', rfl, rfl, hl0⟩
  · have h1 : kRange1 ih k x t ({ target := .collected S.nx, args := #[] } :: dl) (Nat.succ S.nx) ((S.new (.defs true)).new (.loop .ready none fn t ps.toList sg bo S.nx)) (evF (liveF P fn) t f) = .va vx Sx := h
    obtain ⟨s1, le1, at1⟩ := hst.new (o := .defs true) (x := .deferred (some [])) trivial ⟨rfl, rfl⟩
    have hnx : (S.new (.defs true)).nx = Nat.succ S.nx := St.new_nx _ _
    obtain ⟨s2, le2, at2⟩ := s1.new (o := .loop .ready none fn t ps.toList sg bo S.nx) (x := .loop { state := .ready, pending := none, fn := fn', tmps := a.tmps, params := ps, assign := sg, body := bo, defers := W.heap.size }) trivial
      ⟨rfl, _, rfl, rfl, rfl, rfl, rfl, rfl, (hfr.le le1).le (place_le s1.sim s1.sim.fresh), (place_le s1.sim s1.sim.fresh).at_ _ _ _ at1⟩
    rw [hnx] at s2 le2 at2
    obtain ⟨d, w1, g, args, w2, g1, g2, g3⟩ := range1_sound (a := a) (a' := { a with defers := [{ target := .collected W.heap.size, args := #[] }] ++ a.defers }) (g := f) hih hN (F := Fence.wide) (n := n) hF hk hx s2 ((hfr.le le1).le le2) (.cons (.inr ⟨_, _, rfl, rfl, le2.at_ _ _ _ at1, rfl, rfl⟩) ((hdl.le le1).le le2)) at2 (((evF_rel hfr f).le le1).le le2) h1
    exact ⟨_, _, _, d, w1, g, args, w2, rfl, g1, fun _ _ => hF.fn _, g2, hdep, g3⟩
  · have hl := hst.ext.le.at_ _ _ _ hl0
    have h1 : (match blkO (S.h.get l) with
      | some b => kRange1 ih k x t dl S.nx (S.new (.loop .ready none fn t ps.toList sg bo b)) (evF (liveF P fn) t f)
      | none => .no) = .va vx Sx := h
    cases ho : S.h.get l with
    | none => rw [ho] at h1; cases h1
    | some o =>
      rw [ho] at h1
      cases o with
      | loop st pend fn0 tm ps0 sg0 bo0 bl =>
        have h2 : kRange1 ih k x t dl S.nx (S.new (.loop .ready none fn t ps.toList sg bo bl)) (evF (liveF P fn) t f) = .va vx Sx := h1
        obtain ⟨r, hr, e1, e2, e3, e4, e5, e6, e7⟩ := hst.sim.loop hl ho
        obtain ⟨s2, le2, at2⟩ := hst.new (o := .loop .ready none fn t ps.toList sg bo bl) (x := .loop { state := .ready, pending := none, fn := fn', tmps := a.tmps, params := ps, assign := sg, body := bo, defers := r.defers }) trivial
          ⟨rfl, _, rfl, rfl, rfl, rfl, rfl, rfl, hfr.le (place_le hst.sim hst.sim.fresh), (place_le hst.sim hst.sim.fresh).at_ _ _ _ e7⟩
        obtain ⟨d, w1, g, args, w2, g1, g2, g3⟩ := range1_sound (a := a) (a' := a) (g := f) hih hN (F := Fence.wide.inRound l') (n := n) hF hk hx s2 (hfr.le le2) (hdl.le le2) at2 ((evF_rel hfr f).le le2) h2
        refine ⟨_, [], _, d, w1, g, args, w2, ?_, g1, fun _ _ => hF.fn _, g2, hdep, g3⟩
        simp only [Instr.enterLoop, Instr.getLoop, Fence.inRound_round, Sem.run_bind, run_getOb hr rfl, Result.andThen_ok, Sem.run_pure]
        rfl
      | _ => cases h1
end
end Go.Proofs.YtnfclcfcpgfajaaGreatDoor.Ev

/- What the evaluator answers, the program answers: with the regions that draw their order left open. -/
namespace Go.Proofs.YtnfclcfcpgfajaaGreatDoor.Ev
open Go Go.RowKit
section
variable {P : Program}

theorem func_no {S : St} {x : Nat} {args : List Value} {v : Value} (h : extern S x args = some v) : ∀ f a c, Value.func f a c ∉ args := by
  intro f a c hm
  match args, h, hm with
  | [b, d], h, hm =>
    rcases List.mem_cons.1 hm with rfl | hm
    · simp only [extern] at h
      cases hb : byteOf d with
      | none => simp only [hb] at h; cases h
      | some k => simp only [hb] at h; cases h
    · rcases List.mem_cons.1 hm with rfl | hm
      · cases h
      · cases hm
theorem call_body {ih : Task → Res} {X : FuncId → Nat} {Y : FuncId → Nat → Bool} {g : FuncId} {args : List Value} {S S1 : St} {v : Value} (h : sCall P ih X Y g args S = .va v S1) (hm : ∃ f a c, Value.func f a c ∈ args) : ∃ (fn : Func) (b : Code), P.funcs[g]? = some fn ∧ fn.body = some b := by
  unfold sCall at h
  cases hf : P.funcs[g]? with
  | none => rw [hf] at h; cases h
  | some fn =>
    rw [hf] at h
    have h1 : kFn P ih X Y g args S fn = .va v S1 := h
    unfold kFn at h1
    cases hb : fn.body with
    | some b => exact ⟨fn, b, rfl, hb⟩
    | none =>
      rw [hb] at h1
      have h2 : exRes S (extern S (X g) args) = .va v S1 := h1
      cases he : extern S (X g) args with
      | none => rw [he] at h2; cases h2
      | some v0 =>
        obtain ⟨f, a, c, hm⟩ := hm
        exact absurd hm (func_no he f a c)
/-- With any fuel. -/
theorem run_ok {X : FuncId → Nat} {Y : FuncId → Nat → Bool} (hdr : DrawOk P) (hP : ProgOk P X Y) : ∀ n, IhOk P (run P X Y n)
  | 0 => ⟨(fun _ _ _ _ _ h => by cases h), (fun _ _ _ _ _ h => by cases h), (fun _ _ _ _ _ h => by cases h)⟩
  | n + 1 => by
    have ih := run_ok hdr hP n
    have hr : RangeOk P (run P X Y n) := range_sound ih hP.num
    exact ⟨fun g args S v S1 h ρ W args' hS ha => call_sound ih hdr hr hP (show sCall P (run P X Y n) X Y g args S = .va v S1 from h) hS ha,
      fun g args S v S1 h hm => call_body (show sCall P (run P X Y n) X Y g args S = .va v S1 from h) hm,
      fun l args S v S1 h ρ W l' args' hS hl ha => round_sound ih hdr hr hP.zero (show sRound P (run P X Y n) l args S = .va v S1 from h) hS hl ha⟩
/-- The first state: nothing is known. -/
def St.none_ : St := ⟨.e, 1000, .e, 1⟩
def Ro.first : Ro := ⟨fun _ => none, fun _ => 0, fun _ => 0⟩
theorem Sim.first {W : World} : Sim P Ro.first St.none_ W := by
  have hno : ∀ (b : Nat) (o : Ob), St.none_.h.get b ≠ some o := fun b o h => by
    have h' : (Tr.e : Tr Ob).get b = some o := h
    rw [Tr.get_e] at h'
    cases h'
  exact ⟨fun b B sh h => (by cases h), fun b o h => absurd h (hno b o), fun b o B sh h _ => absurd h (hno b o), fun b b' o o' B sh sh' _ h _ _ _ => absurd h (hno b o), fun b cs ty f base h _ => absurd h (hno b _), fun b b' B sh sh' _ _ h _ => (by cases h), trivial, by decide, by decide⟩
/-- **What the evaluator answers, the program answers, and nothing that was there is touched.** -/
theorem run_sound {X : FuncId → Nat} {Y : FuncId → Nat → Bool} (hdr : DrawOk P) (hP : ProgOk P X Y) {n : Nat} {g : FuncId} {args : List Value} {v : Value} {S1 : St} (h : run P X Y n (.call g args St.none_) = .va v S1) (ha : allL plain args = true) (hv : plain v = true) {W : World}
    (hb : ∃ (fn : Func) (b : Code), P.funcs[g]? = some fn ∧ fn.body = some b) : Calls P g args.toArray W fun e W' => e = .returned v ∧ Below W.heap.size W W' := by
  have hS := Sim.first (P := P) (W := W)
  have hl : LR Ro.first args args.toArray.toList := by
    refine ⟨by simp, fun i u w h1 h2 => ?_⟩
    have h2' : args[i]? = some w := by simpa using h2
    rw [h1] at h2'
    cases h2'
    rw [allL_eq, List.all_eq_true] at ha
    exact plain_flat (ha u (List.mem_of_getElem? h1))
  obtain ⟨fn, b, hf, hbd⟩ := hb
  have hu := (run_ok hdr hP n).call g args St.none_ v S1 h Ro.first W args.toArray hS hl
  have hu' := hu Fence.wide 0 { dst := some 0, op := .move (.const undef), type := 0, pos := "", after := #[], guard := none } { tmps := #[undef], defers := [] } (fun a w => a.tmps[0]? = some v ∧ Below W.heap.size W w) (fun _ _ _ => False) (.inl rfl) (fun v' W' σ q1 q2 q3 q4 => ?_)
  · rw [enter_run hP.num hf hbd] at hu'
    refine callsIn_wide.1 (CallsIn.mono (n := 0) hu'.2 fun e w' he => ?_)
    cases e with
    | returned u =>
      obtain ⟨h1, h2⟩ := he
      have : u = v := by simpa [Act.put] using h1
      exact ⟨by rw [this], h2⟩
    | panicked chain => exact he.elim
    | outgrown =>
      obtain ⟨_, _, hq⟩ := he
      exact hq.elim
  · have := plain_inv hv q1
    subst this
    refine ⟨by simp [Act.put], ?_⟩
    have hk : ∀ B, B < W.heap.size → W'.heap[B]? = W.heap[B]? := fun B hB => q3.keep B hB (fun b sh _ hr => by cases hr)
    exact ⟨q3.os, q3.tape, q3.output, q3.size, hk⟩
end
end Go.Proofs.YtnfclcfcpgfajaaGreatDoor.Ev
