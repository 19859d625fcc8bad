/- A part of the proof that parser laws hold: texts of the walk and of its plain laws, made small. -/
import Derived.Test.YtnfclcfcpgfajaaGreatDoorM21
import Derived.Test.YtnfclcfcpgfajaaGreatDoorM19
import Derived.Maps.OwnIn
import Derived.Stop.RegionWithIn
set_option linter.unusedVariables false
set_option linter.unusedSimpArgs false
/- A type's holes by the program. -/
namespace Go.Proofs.YtnfclcfcpgfajaaGreatDoor
open Go.RowKit Go.Shelf
attribute [local go_sem] Oper.semAt_some

theorem holes_fold : ∀ (e : Ty) (l : List Int), holesT e l = (allT e).foldl addI l := by
  refine Ty.ind fun s n args ih l => ?_
  have hL : ∀ (r : List Ty) (l : List Int), (∀ e ∈ r, e ∈ args) → holesT.holesL r l = (allT.allL r).foldl addI l := by
    intro r
    induction r with
    | nil => intro l _; rfl
    | cons e r ihr =>
      intro l hm
      simp only [holesT.holesL, allT.allL, List.foldl_append]
      rw [← ih e (hm e (by simp)), ihr _ (fun x hx => hm x (by simp [hx]))]
  unfold holesT allT
  by_cases h : holeS s = true
  · rw [if_pos h, if_pos h]; rfl
  · rw [if_neg h, if_neg h, hL args l (fun _ h => h)]

/-- What was there, each once. -/
def onceL (l : List Int) : List Int := l.foldl addI []
theorem onceL_snoc (l : List Int) (n : Int) : onceL (l ++ [n]) = addI (onceL l) n := by simp [onceL]
theorem addI_mem {l : List Int} {n m : Int} : m ∈ addI l n ↔ m ∈ l ∨ m = n := by
  unfold addI
  by_cases h : n ∈ l
  · rw [if_pos h]
    exact ⟨.inl, fun h' => h'.elim id fun e => e ▸ h⟩
  · rw [if_neg h]; simp
theorem foldl_addI_mem (l : List Int) : ∀ (a : List Int) (m : Int), m ∈ l.foldl addI a ↔ m ∈ a ∨ m ∈ l := by
  induction l with
  | nil => intro a m; simp
  | cons x r ih =>
    intro a m
    rw [List.foldl_cons, ih, addI_mem, List.mem_cons]
    constructor
    · rintro ((h | h) | h)
      · exact .inl h
      · exact .inr (.inl h)
      · exact .inr (.inr h)
    · rintro (h | h | h)
      · exact .inl (.inl h)
      · exact .inl (.inr h)
      · exact .inr h
theorem onceL_mem (l : List Int) (m : Int) : m ∈ onceL l ↔ m ∈ l := by unfold onceL; rw [foldl_addI_mem]; simp
theorem onceL_len (l : List Int) : (onceL l).length ≤ l.length := by
  have : ∀ (l a : List Int), (l.foldl addI a).length ≤ a.length + l.length := by
    intro l
    induction l with
    | nil => intro a; simp
    | cons x r ih => intro a; have h1 := ih (addI a x); have h2 := addI_len a x; simp only [List.foldl_cons, List.length_cons]; omega
  have h := this l []
  simp only [List.length_nil, Nat.zero_add] at h
  exact h
theorem allT_len : ∀ e : Ty, (allT e).length ≤ tcnt e := by
  refine Ty.ind fun s n args ih => ?_
  have hL : ∀ (r : List Ty), (∀ e ∈ r, e ∈ args) → (allT.allL r).length ≤ tcnt.cntL r := by
    intro r
    induction r with
    | nil => intro _; simp [allT.allL]
    | cons e r ihr =>
      intro hm
      have h1 := ih e (hm e (by simp))
      have h2 := ihr (fun x hx => hm x (by simp [hx]))
      simp only [allT.allL, tcnt.cntL, List.length_append]; omega
  unfold allT
  simp only [tcnt]
  split
  · simp
  · have := hL args (fun _ h => h); omega

/-- What 'Holes' has at the round's start: the list under way, what it has seen. -/
def HoI (rc mb mc S0 : Nat) (pre : List N64) (W : World) : Prop :=
  ∃ (ov : Value) (f : Lit → Option Value), W.heap[rc]? = some (.cells #[ov] 22 (0, 0)) ∧ W.ownsRow S0 3 1 ov (onceL (pre.map (·.1))).length ((onceL (pre.map (·.1))).map (Value.int .i64)) ∧
    W.heap[mc]? = some (.cells #[.map (some mb)] 107 (0, 0)) ∧ MapOf Tryz.prog W 3 mb pre.length f ∧ (∀ n, In64 n → f (keyN n) = if n ∈ pre.map (·.1) then some (.bool true) else none) ∧ (pre = [] → ov = .slice none 0 0)

theorem HoI.own {rc mb mc S0 : Nat} (h1 : rc < S0) (h2 : mb < S0) (h3 : mc < S0) : OwnFrom S0 (HoI rc mb mc S0) := by
  rintro pre A B row ⟨ov, f, c1, c2, c3, c4, c5, c6⟩ hg hr
  have hk : ∀ i o, A.heap[i]? = some o → (i < S0 ∨ o.isCells = true) → B.heap[i]? = some o := by
    intro i o hi ho
    refine (hg.block i (Array.getElem?_eq_some_iff.1 hi).1 ?_).trans hi
    intro e
    obtain ⟨h5, o', h6, h7⟩ := hr i e.symm
    rw [hi] at h6
    cases h6
    rcases ho with h | h
    · omega
    · rw [h] at h7; cases h7
  refine ⟨ov, f, hk _ _ c1 (.inl h1), ?_, hk _ _ c3 (.inl h3), ?_, c5, c6⟩
  · obtain ⟨q1, q2 | ⟨g, cap, cur, hv, hb, hh, r⟩⟩ := c2
    · exact ⟨q1, .inl q2⟩
    · exact ⟨q1, .inr ⟨g, cap, cur, hv, hb, hk _ _ hh (.inr rfl), r⟩⟩
  · obtain ⟨D, ⟨es, clock, b1, b2, b3, b4⟩, b5⟩ := c4
    exact ⟨D, ⟨es, clock, hk _ _ b1 (.inl h2), b2, b3, b4⟩, b5⟩
theorem HoI.below {rc mb mc S0 : Nat} {pre : List N64} {W W' : World} (h : HoI rc mb mc S0 pre W) (hb : Below W.heap.size W W') : HoI rc mb mc S0 pre W' := by
  obtain ⟨ov, f, c1, c2, c3, c4, c5, c6⟩ := h
  have hk : ∀ i o, W.heap[i]? = some o → W'.heap[i]? = some o := fun i o hi => (hb.block i (Array.getElem?_eq_some_iff.1 hi).1).trans hi
  exact ⟨ov, f, hk _ _ c1, ownsRow_heap c2 (fun g hg => hb.block g (ownBlock_ge c2 hg).2), hk _ _ c3, c4.below hb c4.lt, c5, c6⟩

/-- 'm[k] = v' at the operation, within a fence. -/
theorem wpListIn_put {F : Fence} {nF : Nat} {P : Program} (w : World) {ops : Array Oper} {rest : List Oper} {o : Oper} {a : Act} {Q : Exit → Act → World → Prop}
    (hg : o.guard = none) (m x v : Operand) (t : TypeId) (hop : o.op = Op.mapUpdate t m x v)
    (k e : TypeId) (K : Maps.Keyed P k) (ht : P.underlying t = some (.map k e)) (b n : Nat) (f : Lit → Option Value)
    (hm : a.eval m = .map (some b)) (hown : MapOf P w k b n f) (hn : n < maxLen) (key val : Value) (kl : Lit) (hx : a.eval x = key) (hv : a.eval v = val) (hkey : keyOf P k key = some kl)
    (hK : ∀ w', MapOf P w' k b (n + 1) (updF f kl val) → w.grownBy w' (some b) → wpListIn F nF P ops Q rest (a.put o.dst undef) w') :
    wpListIn F nF P ops Q (o :: rest) a w := by
  refine wpListIn_plain hg fun K' hK' => ?_
  obtain ⟨w', hrun, r1, r2⟩ := hown.update K ht hn hkey (val := val)
  unfold Oper.wpIn
  refine ⟨by simp [Oper.about, hop], ?_⟩
  rw [Oper.semAt_plain F _ _ (by rw [hop]; intro c hc'; cases hc')]
  simp [execOp, hop, hm, hx, hv, hrun, Result.andThen]
  exact hK' _ _ (hK w' r1 r2)
theorem MapOf.at {P : Program} {w w' : World} {k : TypeId} {b n : Nat} {f : Lit → Option Value} (h : MapOf P w k b n f) (hk : w'.heap[b]? = w.heap[b]?) : MapOf P w' k b n f := by
  obtain ⟨D, ⟨es, clock, h1, h2, h3, h4⟩, h5⟩ := h
  exact ⟨D, ⟨es, clock, hk.trans h1, h2, h3, h4⟩, h5⟩
/-- What 'seen' tells behind one more. -/
theorem seen_step {f : Lit → Option Value} {pre : List N64} (h : ∀ n, In64 n → f (keyN n) = if n ∈ pre.map (·.1) then some (.bool true) else none) (x : N64) :
    ∀ n, In64 n → updF f (keyN x.1) (.bool true) (keyN n) = if n ∈ (pre ++ [x]).map (·.1) then some (.bool true) else none := by
  intro n hn
  by_cases e : n = x.1
  · subst e; rw [updF_same, if_pos (by simp)]
  · rw [updF_other (fun h' => e (keyN_inj h')), h n hn]
    by_cases h1 : n ∈ pre.map (·.1)
    · rw [if_pos h1, if_pos (by rw [List.map_append]; exact List.mem_append_left _ h1)]
    · rw [if_neg h1, if_neg]
      rw [List.map_append, List.mem_append]
      rintro (h2 | h2)
      · exact h1 h2
      · simp at h2; exact e h2

theorem ty_Holes_not (e : Ty) (v : Value) (w : World) (hv : IsTy w v e) (hc : chkT e = false) : Calls Tryz.prog 31 #[v] w fun r w' => (∃ z, r = .returned z ∧ IntSl w' z (holesC e) ∧ w'.ownsRow w.heap.size 3 1 z (holesC e).length ((holesC e).map (Value.int .i64))) ∧ Below w.heap.size w w' := by
  have hv0 := hv
  obtain ⟨s, n, l⟩ := e
  obtain ⟨a1, c1, rfl, _⟩ := hv.open
  have hT : Hid (holesC (.mk s n l) = []) := by unfold Hid holesC; rw [if_neg (by rw [hc]; simp)]
  obtain ⟨W1, hW1⟩ : ∃ W, (w.alloc (.cells #[.string s, .int .i64 n, .slice a1 l.length c1] 25)).alloc (.cells #[.slice none 0 0] 22) = W := ⟨_, rfl⟩
  have hb1 : Below w.heap.size w W1 := by rw [← hW1]; exact ((Below.refl _ w).alloc (Nat.le_refl _) _).alloc (by simp) _
  have hz1 : W1.heap.size = w.heap.size + 2 := by rw [← hW1]; simp
  have hchk := Lib.hid (ty_Check _ _ W1 (hv0.below hb1))
  rw [hc] at hchk
  have hcell : Hid (∀ U, Below (w.heap.size + 2) W1 U → U.heap[w.heap.size + 1]? = some (.cells #[.slice none 0 0] 22 (0, 0))) := by
    intro U hU
    rw [← hW1] at hU
    exact new_block2 hU
  have hW1' := Lib.hid hW1
  have hb1' := Lib.hid hb1
  clear hv hv0 hc hW1 hb1
  go_enter Tryz.func31, Tryz.ntmps31
  go_wp2_with fail
  rw [hW1'.out]
  refine hchk.out.mono ?_
  rintro r V ⟨rfl, hB⟩
  have hblk := hcell.out V (hB.mono (by omega))
  have r0 : V.cell? ⟨w.heap.size + 1, 0, none⟩ = some (.slice none 0 0) := by simp [World.cell?, hblk]
  have r1 : V.frozen? ⟨w.heap.size + 1, 0, none⟩ = false := by simp [World.frozen?, hblk]
  have hwV := hb1'.out.trans (hB.mono (by omega))
  go_wp2_with fail
  have hc1 : (V.setCell ⟨w.heap.size + 1, 0, none⟩ (.slice none 0 0)).cell? ⟨w.heap.size + 1, 0, none⟩ = some (.slice none 0 0) := World.cell?_setCell_same' _ _ _ (by rw [r0]; rfl)
  refine bodyPost_ret (v := .slice none 0 0) (by simp [results, Tryz.results31, go_sem, hc1]) rfl ⟨⟨_, rfl, by rw [hT.out]; exact .inl ⟨rfl, rfl⟩, by rw [hT.out]; exact ⟨rfl, .inl ⟨rfl, rfl⟩⟩⟩, ?_⟩
  exact hwV.setCell (by simp) _

set_option maxHeartbeats 2000000 in
set_option maxRecDepth 100000 in
theorem ty_Holes_is (e : Ty) (v : Value) (w : World) (hv : IsTy w v e) (hc : chkT e = true) : Calls Tryz.prog 31 #[v] w fun r w' => (∃ z, r = .returned z ∧ IntSl w' z (holesC e) ∧ w'.ownsRow w.heap.size 3 1 z (holesC e).length ((holesC e).map (Value.int .i64))) ∧ Below w.heap.size w w' := by
  have hv0 := Lib.hid hv
  obtain ⟨s, n, l⟩ := e
  obtain ⟨a1, c1, rfl, _⟩ := hv.open
  have hT : Hid (holesC (.mk s n l) = onceL (allT (.mk s n l))) := by unfold Hid holesC; rw [if_pos hc, holes_fold]; rfl
  have hlen : Hid ((allT (.mk s n l)).length ≤ 2000) := by have := allT_len (.mk s n l); have := chk_cnt hc; unfold Hid; omega
  obtain ⟨W1, hW1⟩ : ∃ W, (w.alloc (.cells #[.string s, .int .i64 n, .slice a1 l.length c1] 25)).alloc (.cells #[.slice none 0 0] 22) = W := ⟨_, rfl⟩
  have hb1 : Below w.heap.size w W1 := by rw [← hW1]; exact ((Below.refl _ w).alloc (Nat.le_refl _) _).alloc (by simp) _
  have hz1 : W1.heap.size = w.heap.size + 2 := by rw [← hW1]; simp
  have hchk := Lib.hid (ty_Check _ _ W1 (hv0.out.below hb1))
  rw [hc] at hchk
  have hcell : Hid (∀ U, Below (w.heap.size + 2) W1 U → U.heap[w.heap.size + 1]? = some (.cells #[.slice none 0 0] 22 (0, 0))) := by
    intro U hU
    rw [← hW1] at hU
    exact new_block2 hU
  have hcells' : Hid (∀ V, Below (w.heap.size + 1) W1 V → V.cell? ⟨w.heap.size, 0, none⟩ = some (.string s) ∧ V.cell? ⟨w.heap.size, 1, none⟩ = some (.int .i64 n) ∧ V.cell? ⟨w.heap.size, 2, none⟩ = some (.slice a1 l.length c1)) := by
    intro V hV
    have g1 : Below (w.heap.size + 1) (w.alloc (.cells #[.string s, .int .i64 n, .slice a1 l.length c1] 25)) W1 := by rw [← hW1]; exact (Below.refl _ _).alloc (by simp) _
    exact box3 (g1.trans hV)
  have hW1' := Lib.hid hW1
  have hb1' := Lib.hid hb1
  have hdd : ∀ k : Nat, (Fence.wide.depth.isSome = true → 1 ≤ k) := fun k h => by cases h
  have hmm := @run_makeMap Tryz.prog
  obtain ⟨k0, k1, k2⟩ := hcells'.out W1 (Below.refl _ _)
  clear hv hc hW1 hb1
  refine (callsIn_wide (n := 6)).1 ?_
  refine callsIn_of_wp_marks Tryz.func31 rfl trivial ?_
  simp only [Tryz.ntmps31, List.size_toArray, List.length_cons, List.length_nil, Nat.reduceAdd, Nat.reduceSub, Array.replicate_succ, Array.replicate_zero, List.push_toArray, List.append_toArray, List.nil_append, List.cons_append]
  gi_wp2_with fail
  rw [hW1'.out]
  refine ⟨trivial, callsIn_wide.2 (hchk.out.mono ?_)⟩
  rintro r V ⟨rfl, hBV⟩
  have hbV : Below (w.heap.size + 2) W1 V := hBV.mono (by omega)
  clear k0 k1 k2
  obtain ⟨k0, k1, k2⟩ := hcells'.out V (hbV.mono (by omega))
  have hvl : w.heap.size + 2 ≤ V.heap.size := by have := hBV.size; omega
  have hvl1 : w.heap.size < V.heap.size := by omega
  gi_wp2_with fail
  refine ⟨trivial, callsIn_wide.2 ((ty_all _ _ _ _).mono ?_)⟩
  rintro r V2 ⟨rfl, hV2⟩
  gi_wp2_with fail
  have hb2 : Below V.heap.size V V2 := by rw [hV2]; exact (((Below.refl _ V).alloc (Nat.le_refl _) _).alloc (by simp) _).alloc (by simp <;> omega) _
  have hz2 : V.heap.size + 3 ≤ V2.heap.size := by rw [hV2]; simp
  have hmap : MapOf Tryz.prog V2 3 V.heap.size 0 (fun _ => none) := by
    rw [hV2]
    refine (MapOf.made Tryz.prog V 3).below (B := V.heap.size + 1) ?_ (by omega)
    exact ((Below.refl _ (V.alloc (.map #[] 0))).alloc (by simp) _).alloc (by simp) _
  have hmc : V2.heap[V.heap.size + 1]? = some (.cells #[.map (some V.heap.size)] 107 (0, 0)) := by
    rw [hV2]
    refine new_block2 (w := V) (o := .map #[] 0) ?_
    exact (Below.refl _ _).alloc (by simp) _
  have htb : ∀ W, Below V2.heap.size V2 W → W.cell? ⟨V.heap.size + 1 + 1, 0, none⟩ = some (.string s) ∧ W.cell? ⟨V.heap.size + 1 + 1, 1, none⟩ = some (.int .i64 n) ∧ W.cell? ⟨V.heap.size + 1 + 1, 2, none⟩ = some (.slice a1 l.length c1) := by
    intro W hW
    have h3 := box3 (w := (V.alloc (.map #[] 0)).alloc (.cells #[.map (some V.heap.size)] 107)) (wr := W) (v0 := .string s) (v1 := .int .i64 n) (v2 := .slice a1 l.length c1) (t := 25) (by rw [hV2] at hW; exact hW.mono (by simp))
    simpa using h3
  have hrc : V2.heap[w.heap.size + 1]? = some (.cells #[.slice none 0 0] 22 (0, 0)) := hcell.out V2 (hbV.trans (hb2.mono (by omega)))
  have hwV2 : Below w.heap.size w V2 := hb1'.out.trans ((hbV.mono (by omega)).trans (hb2.mono (by omega)))
  rw [← hV2]
  have h0 : HoI (w.heap.size + 1) V.heap.size (V.heap.size + 1) V2.heap.size [] V2 ∧ Below w.heap.size w V2 := ⟨⟨.slice none 0 0, fun _ => none, hrc, ⟨rfl, .inl ⟨rfl, rfl⟩⟩, hmc, hmap, fun n _ => by simp, fun _ => rfl⟩, hwV2⟩
  clear hV2 hmap hmc hrc k0 k1 k2 hmm
  refine wpIn_rangeFunc_ownH (F := Fence.wide) rfl (by omega) (gf := 134) (lb := #[.pointer (some ⟨V.heap.size + 1 + 1, 0, none⟩)]) rfl trivial (enters_of Tryz.func134 (by kernel_rfl) rfl)
    (all_stops w _ (fun b => w.heap.size ≤ b) _ _ hv0.out V2 (V.heap.size + 1 + 1) (fun _ h => h) (fun W hW => Below.keepsBut (hwV2.trans (hW.mono (by omega)))) (fun W hW => ⟨_, _, _, rfl, htb W hW⟩))
    (fun h k => h.trans k) (fun W l o o' hl h ho _ => ⟨by simp [World.putObj], fun a v _ hv => cell_kept hv (grownBy_putObj' W l o') (fun r e => by cases e; exact ⟨o, h, ho⟩)⟩) (Below.refl _ _) (fun _ => rfl)
    (fun pre W => HoI (w.heap.size + 1) V.heap.size (V.heap.size + 1) V2.heap.size pre W ∧ Below w.heap.size w W)
    (fun _ _ _ => False)
    (OwnFrom.and (HoI.own (by omega) (by omega) (by omega)) (ownFrom_below (Nat.le_refl _) (by omega)))
    (fun c => fun _ _ _ _ h _ _ => h)
    h0
    (fun x a' _ => ∃ (u0 u5 u6 u7 u8 u9 u10 u11 u12 u13 u14 u15 u16 u17 u18 u19 u20 u21 u22 : Value), a' = { tmps := #[u0, .pointer (some ⟨w.heap.size, 0, none⟩), .pointer (some ⟨w.heap.size + 1, 0, none⟩), .pointer (some ⟨V.heap.size + 1, 0, none⟩), .int .i64 x.1, u5, u6, u7, u8, u9, u10, u11, u12, u13, u14, u15, u16, u17, u18, u19, u20, u21, u22], defers := [] })
    (fun x a' _ _ _ _ hs _ _ => hs)
    ?assign ?body ?done ?stop
  case assign =>
    rintro l' pre x W K hI hK
    gi_wp2
    exact hK _ _ (KeepsFrom.refl _ _) (KeepsBut.refl _ _) hI ⟨_, _, _, _, _, _, _, _, _, _, _, _, _, _, _, _, _, _, _, rfl⟩
  case body =>
    rintro l' pre ⟨x, hx⟩ a' W hl' hr' ⟨⟨ov, f, c1, c2, c3, c4, c5, c6⟩, hBW⟩ ⟨u0, u5, u6, u7, u8, u9, u10, u11, u12, u13, u14, u15, u16, u17, u18, u19, u20, u21, u22, rfl⟩ hpl
    obtain ⟨oa, oc, rfl, _⟩ := ownsRow_form c2
    have K : Maps.Keyed Tryz.prog 3 := Maps.int_keyed Tryz.underlying3
    have hkey := Lib.hid (keyN_of hx)
    have hlook := c4.look K Tryz.underlying107 (z := .bool false) (by kernel_rfl) hkey.out
    rw [c5 x hx] at hlook
    have hmcc : W.cell? ⟨V.heap.size + 1, 0, none⟩ = some (.map (some V.heap.size)) := by simp [World.cell?, c3]
    have hrcc : W.cell? ⟨w.heap.size + 1, 0, none⟩ = some (.slice oa (onceL (pre.map (·.1))).length oc) := by simp [World.cell?, c1]
    have hSW : V2.heap.size ≤ W.heap.size := by
      obtain ⟨r, hr⟩ := hr'
      have := (Array.getElem?_eq_some_iff.1 hr).1
      omega
    have hpn : pre.length < 2001 := by have := hlen.out; omega
    have hM' := Lib.hid c4
    have hc1 := Lib.hid c1
    have hc2 := Lib.hid c2
    have hc3 := Lib.hid c3
    have hc5 := Lib.hid c5
    have hseen := Lib.hid (seen_step c5 ⟨x, hx⟩)
    have hone : Hid (onceL ((pre ++ [(⟨x, hx⟩ : N64)]).map (·.1)) = addI (onceL (pre.map (·.1))) x) := by unfold Hid; rw [List.map_append]; exact onceL_snoc _ _
    have hol : (onceL (pre.map (·.1))).length ≤ 2001 := by have := onceL_len (pre.map (·.1)); rw [List.length_map] at this; omega
    have hne : Hid (pre ++ [(⟨x, hx⟩ : N64)] ≠ []) := by unfold Hid; simp
    clear c1 c2 c3 c4 c5 c6
    by_cases hin : x ∈ pre.map (·.1)
    · rw [if_pos hin] at hlook
      simp only [Option.getD_some] at hlook
      have hsame : Hid (onceL ((pre ++ [(⟨x, hx⟩ : N64)]).map (·.1)) = onceL (pre.map (·.1))) := by
        unfold Hid; rw [hone.out, addI, if_pos ((onceL_mem _ _).2 hin)]
      clear hin
      gi_wp2_with (refine wpListIn_put _ rfl _ _ _ 107 rfl 3 4 K Tryz.underlying107 V.heap.size pre.length f rfl hM'.out (by unfold maxLen; omega) (.int .i64 x) (.bool true) (keyN x) rfl rfl hkey.out ?_; intro W5 hM5 hg5)
      have hB5 : Below w.heap.size W W5 := (Below.refl _ W).grown hg5 (by have := hBW.size; omega) (fun k e => by cases e; omega)
      have hbl : ∀ i o, i ≠ V.heap.size → W.heap[i]? = some o → W5.heap[i]? = some o := fun i o hi ho => (hg5.block i (Array.getElem?_eq_some_iff.1 ho).1 (fun e => hi (by cases e; rfl))).trans ho
      refine ⟨KeepsFrom.of_grownBy hg5 (fun j e => by cases e; omega), Below.keepsBut hB5, ⟨_, _, hbl _ _ (by omega) hc1.out, ?_, hbl _ _ (by omega) hc3.out, ?_, hseen.out, fun h => (hne.out h).elim⟩, hBW.trans hB5⟩
      · rw [hsame.out]
        exact ownsRow_heap hc2.out fun g hg => by
          have := ownBlock_ge hc2.out hg
          exact hg5.block g this.2 (fun e => by cases e; omega)
      · rw [List.length_append]; exact hM5
    · rw [if_neg hin] at hlook
      simp only [Option.getD_none] at hlook
      have hnew : Hid (onceL ((pre ++ [(⟨x, hx⟩ : N64)]).map (·.1)) = onceL (pre.map (·.1)) ++ [x]) := by
        unfold Hid; rw [hone.out, addI, if_neg (fun h => hin ((onceL_mem _ _).1 h))]
      clear hin
      obtain ⟨i0, hi, hz0, hz1', hz2'⟩ := info_of Tryz.infoInt
      obtain ⟨L, hL⟩ : ∃ L, onceL (pre.map (·.1)) = L := ⟨_, rfl⟩
      rw [hL] at hnew hc1 hc2 hol hrcc
      simp only [hL]
      have hrcf : W.frozen? ⟨w.heap.size + 1, 0, none⟩ = false := by have := hc1.out; simp [World.frozen?, this]
      clear hone hL
      gi_wp2_with (first
        | (refine wpListIn_append_own_at _ rfl _ _ 22 rfl V2.heap.size 3 i0 (.int .i64 0) 1 8 Tryz.underlying22 hi hz0 hz1' hz2' rfl (by decide) _ _ _ rfl (hc2.out.alloc _) ⟨W.heap.size, 0, none⟩ 1 1 [.int .i64 x] rfl rfl (cell_one_new _ _ _) (by simp [Value.oneCell']) (by unfold maxLen; omega) (by omega) (by simp <;> omega) ?_; intro v2 w3 hown2 hg2 _ _; obtain ⟨va, vc, rfl, _⟩ := ownsRow_form hown2; have hown2' := Lib.hid hown2; have hgr := Lib.hid hg2; have hbk : Hid (∀ i o, i < V2.heap.size → W.heap[i]? = some o → w3.heap[i]? = some o) := fun i o hi ho => (hgr.out.block i (by simp; omega) (fun e => by have := (ownBlock_ge hc2.out e.symm).1; omega)).trans ((Below.heap_alloc W _ i (by omega)).trans ho); have q0 : w3.cell? ⟨w.heap.size + 1, 0, none⟩ = some (.slice oa L.length oc) := (by have := hbk.out _ _ (by omega) hc1.out; simp [World.cell?, this]); have q1 : w3.frozen? ⟨w.heap.size + 1, 0, none⟩ = false := (by have := hbk.out _ _ (by omega) hc1.out; simp [World.frozen?, this]); have q2 : (w3.setCell ⟨w.heap.size + 1, 0, none⟩ (.slice va (L.length + 1) vc)).cell? ⟨V.heap.size + 1, 0, none⟩ = some (.map (some V.heap.size)) := (by rw [World.cell?_of_block (Below.heap_setCell _ _ _ _ (by simp; omega))]; have := hbk.out _ _ (by omega) hc3.out; simp [World.cell?, this]); have hM4 := Lib.hid (hM'.out.at (w' := w3.setCell ⟨w.heap.size + 1, 0, none⟩ (.slice va (L.length + 1) vc)) (by rw [Below.heap_setCell _ _ _ _ (by simp; omega)]; obtain ⟨_, ⟨es, clock, b1, _⟩, _⟩ := hM'.out; rw [b1]; exact hbk.out _ _ (by omega) b1)); clear hown2 hg2)
        | (refine wpListIn_put _ rfl _ _ _ 107 rfl 3 4 K Tryz.underlying107 V.heap.size pre.length f rfl hM4.out (by unfold maxLen; omega) (.int .i64 x) (.bool true) (keyN x) rfl rfl hkey.out ?_; intro W5 hM5 hg5))
      have hB3 : Below w.heap.size W w3 := ((Below.refl w.heap.size W).alloc hBW.size _).grown hgr.out (by have := hBW.size; simp; omega) (fun k e => by have := (ownBlock_ge hc2.out e).1; have := hwV2.size; omega)
      have hB5 : Below w.heap.size W W5 := (hB3.setCell (by simp) _).grown hg5 (by have := hB3.size; have := hBW.size; simp [World.setCell]; omega) (fun k e => by cases e; omega)
      have hk5 : ∀ i o, i ≠ V.heap.size → (w3.setCell ⟨w.heap.size + 1, 0, none⟩ (.slice va (L.length + 1) vc)).heap[i]? = some o → W5.heap[i]? = some o := fun i o hi ho => (hg5.block i (Array.getElem?_eq_some_iff.1 ho).1 (fun e => hi (by cases e; rfl))).trans ho
      have hrow : ∀ (j : Nat) (o : Obj), (Value.slice oa L.length oc).ownBlock = some j → (W.alloc (.cells #[.int .i64 x] 3)).heap[j]? = some o → o.isCells = true := by
        intro j o e ho
        obtain ⟨_, q | ⟨g', cap, cur, hv, _, hh, _⟩⟩ := hc2.out
        · rw [q.1] at e; cases e
        · rw [hv] at e
          simp only [Value.ownBlock, Option.some.injEq] at e
          subst e
          rw [Below.heap_alloc W _ _ (Array.getElem?_eq_some_iff.1 hh).1, hh] at ho
          cases ho; rfl
      refine ⟨((((KeepsOthers.alloc W _).trans (KeepsOthers.of_grownBy hgr.out hrow)).trans (KeepsOthers.setCell _ _ _)).from _).trans (KeepsFrom.of_grownBy hg5 (fun j e => by cases e; omega)), Below.keepsBut hB5, ⟨.slice va (L.length + 1) vc, _, hk5 _ _ (by omega) ?_, ?_, hk5 _ _ (by omega) ?_, ?_, hseen.out, fun h => (hne.out h).elim⟩, hBW.trans hB5⟩
      · have h3 := hbk.out _ _ (by omega) hc1.out
        simp [World.setCell, Array.getElem?_modify, h3]
      · rw [hnew.out, List.length_append, List.map_append]
        refine ownsRow_heap hown2'.out fun g hg => ?_
        have h6 := ownBlock_ge hown2'.out hg
        rw [hg5.block g (by simp [World.setCell]; exact h6.2) (fun e => by cases e; omega)]
        exact Below.heap_setCell _ _ _ _ (by simp; omega)
      · rw [Below.heap_setCell _ _ _ _ (by simp; omega)]
        exact hbk.out _ _ (by omega) hc3.out
      · rw [List.length_append]; exact hM5
  case done =>
    rintro D xs W hD hys ⟨⟨ov, f, c1, c2, c3, c4, c5, c6⟩, hBW⟩ hKD
    obtain ⟨oa, oc, rfl, _⟩ := ownsRow_form c2
    generalize hom : (onceL (xs.map (·.1))).length = om at c1 c2 c6
    have r0 : W.cell? ⟨w.heap.size + 1, 0, none⟩ = some (.slice oa om oc) := by simp [World.cell?, c1]
    have r1 : W.frozen? ⟨w.heap.size + 1, 0, none⟩ = false := by simp [World.frozen?, c1]
    have hc2 := Lib.hid c2
    have hom' := Lib.hid hom
    have hc6 := Lib.hid c6
    have hys' := Lib.hid hys
    clear c1 c2 c3 c4 c5 c6 hys hom
    gi_wp2_with fail
    have hKD' := (KeepsOthers.setCell W ⟨w.heap.size + 1, 0, none⟩ (.slice oa om oc)).same D _ hKD rfl
    refine ⟨by simp, .inl ⟨_, _, rfl, run_takeDeferred hKD', ?_⟩⟩
    have hc1 : (W.setCell ⟨w.heap.size + 1, 0, none⟩ (.slice oa om oc)).cell? ⟨w.heap.size + 1, 0, none⟩ = some (.slice oa om oc) := World.cell?_setCell_same' _ _ _ (by rw [r0]; rfl)
    have hcr := cell_kept hc1 (grownBy_putObj' _ D (.deferred none)) (fun r e => by cases e; exact ⟨_, hKD', rfl⟩)
    refine ⟨.slice oa om oc, by simp [results, Tryz.results31, go_sem, hcr], ⟨_, rfl, ?_⟩, ?_⟩
    · rw [hT.out, ← hys'.out]
      have hown : (((W.setCell ⟨w.heap.size + 1, 0, none⟩ (.slice oa om oc)).putObj D (.deferred none))).ownsRow V2.heap.size 3 1 (.slice oa om oc) (onceL (xs.map (·.1))).length ((onceL (xs.map (·.1))).map (Value.int .i64)) := by
        refine ownsRow_heap (by rw [hom'.out]; exact hc2.out) fun g hg => ?_
        have hge := ownBlock_ge hc2.out hg
        obtain ⟨_, q | ⟨g', cap, cur, hv, _, hh, _⟩⟩ := hc2.out
        · rw [q.1] at hg; cases hg
        · rw [hv] at hg
          simp only [Value.ownBlock, Option.some.injEq] at hg
          subst hg
          rw [World.putObj_heap_other (fun e => by rw [← e, hh] at hKD; cases hKD)]
          exact Below.heap_setCell _ _ _ _ (by simp; omega)
      have hown2 := hown
      obtain ⟨q1, q2⟩ := hown2
      refine ⟨?_, q1, q2.imp_right fun ⟨g, cap, cur, r1, r2, r3⟩ => ⟨g, cap, cur, r1, Nat.le_trans hwV2.size r2, r3⟩⟩
      by_cases hx : xs = []
      · subst hx
        rw [hc6.out rfl]
        exact .inl ⟨rfl, rfl⟩
      · refine IntSl.of_own (base := V2.heap.size) hown ?_
        intro h
        obtain ⟨y, hy⟩ := List.exists_mem_of_ne_nil _ hx
        have := (onceL_mem (xs.map (·.1)) y.1).2 (List.mem_map_of_mem hy)
        rw [h] at this; simp at this
    · exact (hBW.setCell (by simp) _).grown (grownBy_putObj' _ D _) (by have := hBW.size; simp [World.setCell] at this ⊢; omega) (fun k e => by cases e; omega)
  case stop =>
    rintro D c pre W hD hpre hF hKD
    exact hF.elim
theorem ty_HolesO (e : Ty) (v : Value) (w : World) (hv : IsTy w v e) : Calls Tryz.prog 31 #[v] w fun r w' => (∃ z, r = .returned z ∧ IntSl w' z (holesC e) ∧ w'.ownsRow w.heap.size 3 1 z (holesC e).length ((holesC e).map (Value.int .i64))) ∧ Below w.heap.size w w' := by
  cases h : chkT e
  · exact ty_Holes_not e v w hv h
  · exact ty_Holes_is e v w hv h
theorem ty_Holes (e : Ty) (v : Value) (w : World) (hv : IsTy w v e) : Calls Tryz.prog 31 #[v] w fun r w' => (∃ z, r = .returned z ∧ IntSl w' z (holesC e)) ∧ Below w.heap.size w w' :=
  (ty_HolesO e v w hv).mono fun r w' ⟨⟨z, h1, h2, _⟩, h3⟩ => ⟨⟨z, h1, h2⟩, h3⟩
end Go.Proofs.YtnfclcfcpgfajaaGreatDoor

/- A type whose holes are numbered by their first place, by the program. -/
namespace Go.Proofs.YtnfclcfcpgfajaaGreatDoor
open Go.RowKit

theorem addI_nodup {l : List Int} (h : l.Nodup) (n : Int) : (addI l n).Nodup := by
  unfold addI
  split
  · exact h
  · rename_i hn
    rw [List.nodup_append]
    exact ⟨h, by simp, fun a ha b hb => by simp at hb; subst hb; exact fun e => hn (e ▸ ha)⟩
theorem onceL_nodup (l : List Int) : (onceL l).Nodup := by
  have : ∀ (l a : List Int), a.Nodup → (l.foldl addI a).Nodup := by
    intro l
    induction l with
    | nil => intro a h; exact h
    | cons x r ih => intro a h; exact ih _ (addI_nodup h x)
  exact this l [] (by simp)
/-- What a hole is, by a list of them without doubles. -/
theorem canonF_at {H : List Int} (hH : H.Nodup) {k : Nat} (hk : k < H.length) (n : Int) : fa? (canonF (H.take (k + 1))) n = if n = H[k] then some (.mk ⟨#[]⟩ k []) else fa? (canonF (H.take k)) n := by
  rw [canonF_take H k hk]
  have happ : ∀ (A : List Fa) (f : Fa), fa? (A ++ [f]) n = match fa? A n with | some x => some x | none => if f.n = n then some f.ty else none := by
    intro A f
    induction A with
    | nil => simp [fa?]
    | cons a r ih =>
      simp only [List.cons_append, fa?]
      by_cases h : a.n = n
      · rw [if_pos h, if_pos h]
      · rw [if_neg h, if_neg h, ih]
  rw [happ]
  by_cases e : n = H[k]
  · rw [if_pos e]
    have hno : fa? (canonF (H.take k)) n = none := by
      refine fa_none fun j hj h => ?_
      have hj' : j < k := by rw [canonF_len, List.length_take] at hj; omega
      have h2 : (canonF (H.take k))[j].n = H[j] := by simp [canonF]
      rw [h2, e] at h
      exact (List.pairwise_iff_getElem.1 hH j k (by omega) hk hj') h
    rw [hno]
    simp only
    rw [if_pos e.symm]
  · rw [if_neg e]
    cases fa? (canonF (H.take k)) n with
    | some x => rfl
    | none => simp only; rw [if_neg (fun h => e h.symm)]
/-- On a type that may be, places say what facts say. -/
theorem with_put {F : Int → Option Ty} {L : List Fa} (hF : ∀ n, In64 n → F n = fa? L n) : ∀ (e : Ty) (d : Int) {X : Nat → Prop} {w : World} {v : Value}, TyX X w v e → sndT e d = true → withT F e = putT L e := by
  refine Ty.ind fun s n args ih d X w v hv h => ?_
  obtain ⟨a, c, _, _, hn, _, _, hr⟩ := hv.open
  simp only [sndT, sndT_all, Bool.and_eq_true, List.all_eq_true] at h
  obtain ⟨⟨_, hh⟩, ha⟩ := h
  have hargs : ∀ e ∈ args, withT F e = putT L e := by
    intro e he
    obtain ⟨j, hj, rfl⟩ := List.getElem_of_mem he
    obtain ⟨b, off, _, hat⟩ := hr.arg (by rintro rfl; simp at hj)
    obtain ⟨_, _, _, _, _, ge⟩ := hat j hj
    exact ih _ he _ ge (ha _ he)
  rw [withT, putT, withL_map, putL_map, List.map_congr_left hargs, hF n hn]
  unfold headT at hh
  simp only [Bool.and_eq_true] at hh
  cases hs : holeS s
  · have h0 : ¬ s.size = 0 := by rw [holeS_size] at hs; simpa using hs
    rw [if_neg h0] at hh
    rw [if_neg (by simp), if_neg (by simp)]
    have : n = 0 := by simpa using hh.2
    rw [this]
  · have h0 : s.size = 0 := by rw [holeS_size] at hs; simpa using hs
    rw [if_pos h0] at hh
    have hl : args = [] := by
      have := hh.2
      simp only [Bool.and_eq_true, decide_eq_true_eq] at this
      exact List.length_eq_zero_iff.1 this.2
    subst hl
    have hs' := str_nil hs
    subst hs'
    cases fa? L n with
    | some x => simp
    | none => simp

set_option maxHeartbeats 4000000 in
set_option maxRecDepth 100000 in
theorem ty_Canon (e : Ty) (v : Value) (w : World) (hv : IsTy w v e) : Calls Tryz.prog 32 #[v] w fun r w' => ∃ u, r = .returned u ∧ IsTy w' u (canonT e) ∧ Below w.heap.size w w' := by
  obtain ⟨s, n, l⟩ := e
  obtain ⟨a1, c1, rfl, _, hn, hs, hl, _⟩ := hv.open
  have h64 := Lib.hid (holes_in64 (.mk s n l) [] hv (by simp))
  obtain ⟨W1, hW1⟩ : ∃ W, ((w.alloc (.cells #[.string s, .int .i64 n, .slice a1 l.length c1] 25)).alloc (.cells #[.string ⟨#[]⟩, .int .i64 0, .slice none 0 0] 25)) = W := ⟨_, rfl⟩
  have hz1 : W1.heap.size = w.heap.size + 2 := by rw [← hW1]; simp
  have hb1 : Below w.heap.size w W1 := by rw [← hW1]; exact ((Below.refl _ w).alloc (Nat.le_refl _) _).alloc (by simp) _
  have hcells' : Hid (∀ V, Below (w.heap.size + 1) W1 V → V.cell? ⟨w.heap.size, 0, none⟩ = some (.string s) ∧ V.cell? ⟨w.heap.size, 1, none⟩ = some (.int .i64 n) ∧ V.cell? ⟨w.heap.size, 2, none⟩ = some (.slice a1 l.length c1)) := by
    intro V hV
    have g1 : Below (w.heap.size + 1) (w.alloc (.cells #[.string s, .int .i64 n, .slice a1 l.length c1] 25)) W1 := by rw [← hW1]; exact (Below.refl _ _).alloc (by simp) _
    exact box3 (g1.trans hV)
  have hres' : Hid (∀ U, Below (w.heap.size + 2) W1 U → U.heap[w.heap.size + 1]? = some (.cells #[.string ⟨#[]⟩, .int .i64 0, .slice none 0 0] 25 (0, 0))) := by
    intro U hU
    rw [← hW1] at hU
    exact new_block2 hU
  have hW1' := Lib.hid hW1
  have hb1' := Lib.hid hb1
  have hv0 := Lib.hid hv
  obtain ⟨k0, k1, k2⟩ := hcells'.out W1 (Below.refl _ _)
  clear hW1
  have hc := Lib.hid (ty_Check (.mk s n l) _ W1 (hv0.out.below hb1'.out))
  cases hq : chkT (.mk s n l)
  · have hT : Hid (canonT (.mk s n l) = zeroT) := by unfold Hid canonT; rw [if_neg (by rw [hq]; simp)]
    rw [hq] at hc
    clear hq hv
    go_enter Tryz.func32, Tryz.ntmps32
    go_wp2_with fail
    rw [hW1'.out]
    refine hc.out.mono ?_
    rintro e V ⟨rfl, hBV⟩
    have hbr : Below (w.heap.size + 2) W1 V := hBV.mono (by omega)
    have hwV := hb1'.out.trans (hBV.mono (by omega))
    have hrr := Lib.hid (hres'.out V hbr)
    obtain ⟨r0, r1, r2⟩ := cells_of hrr.out
    have rf0 := frozen_of hrr.out 0
    have rf1 := frozen_of hrr.out 1
    have rf2 := frozen_of hrr.out 2
    go_wp2_with fail
    have hU := set_box3 hrr.out (.string ⟨#[]⟩) (.int .i64 0) (.slice none 0 0)
    change bodyPost _ _ _ _ _ (World.box3 V (w.heap.size + 1) (.string ⟨#[]⟩) (.int .i64 0) (.slice none 0 0))
    generalize World.box3 V (w.heap.size + 1) (.string ⟨#[]⟩) (.int .i64 0) (.slice none 0 0) = U at hU ⊢
    obtain ⟨⟨u0, u1, u2⟩, hBU, -, hUk⟩ := hU
    clear r0 r1 r2
    refine bodyPost_ret (results_ty rfl _ _ rfl u0 u1 u2) rfl ?_
    exact ⟨_, rfl, by rw [hT.out]; exact zeroT_is _, hwV.trans (hBU.mono (by omega))⟩
  · have hT : Hid (canonT (.mk s n l) = putT (canonF (holesT (.mk s n l) [])) (.mk s n l)) := by unfold Hid canonT; rw [if_pos hq]
    have hcnt := Lib.hid (chk_cnt hq)
    have hlen : Hid ((holesT (.mk s n l) []).length ≤ 2000) := by
      have := holesT_len (.mk s n l) []
      have := hcnt.out
      unfold Hid; simp at *; omega
    have hnd : Hid ((holesT (.mk s n l) []).Nodup) := by unfold Hid; rw [holes_fold]; exact onceL_nodup _
    have hh := Lib.hid (fun V (hV : Below w.heap.size w V) => ty_Holes (.mk s n l) _ V (hv0.out.below hV))
    have hhc : holesC (.mk s n l) = holesT (.mk s n l) [] := by unfold holesC; rw [if_pos hq]
    rw [hhc] at hh
    have hsnd : sndT (.mk s n l) 60 = true := by simp only [chkT, Bool.and_eq_true] at hq; exact hq.2
    have hwp : Hid (∀ H, withT (fun n => fa? (canonF H) n) (.mk s n l) = putT (canonF H) (.mk s n l)) := fun H => with_put (fun _ _ => rfl) _ 60 hv0.out hsnd
    obtain ⟨H, hH⟩ : ∃ H, holesT (.mk s n l) [] = H := ⟨_, rfl⟩
    rw [hH] at hh hlen h64 hT hnd
    have hlen' := hlen.out
    rw [hq] at hc
    have hmm := @run_makeMap Tryz.prog
    have K : Maps.Keyed Tryz.prog 3 := Maps.int_keyed Tryz.underlying3
    clear hq hv hH hlen hhc hsnd
    go_enter Tryz.func32, Tryz.ntmps32
    go_wp2_with fail
    rw [hW1'.out]
    refine hc.out.mono ?_
    rintro e V ⟨rfl, hBV⟩
    have hbV : Below (w.heap.size + 2) W1 V := hBV.mono (by omega)
    have hwV := Lib.hid (hb1'.out.trans (hbV.mono (by omega)))
    have hvl : w.heap.size + 2 ≤ V.heap.size := by have := hbV.size; omega
    have hvl1 : w.heap.size < V.heap.size := by omega
    clear k0 k1 k2
    obtain ⟨k0, k1, k2⟩ := hcells'.out _ (hbV.mono (by omega))
    have hbm : Below V.heap.size V (V.alloc (.map #[] 0)) := (Below.refl _ V).alloc (Nat.le_refl _) _
    have hbm' := Lib.hid hbm
    have hwm := Lib.hid (hwV.out.trans (hbm.mono (by omega)))
    go_wp2_with fail
    refine (hh.out _ hwm.out).mono ?_
    rintro e V2 ⟨⟨z, rfl, hz⟩, hB2⟩
    obtain ⟨za, zc, rfl⟩ := hz.form
    have hB2V : Below V.heap.size V V2 := hbm'.out.trans (hB2.mono (by simp))
    have hbV2 : Below (w.heap.size + 2) W1 V2 := hbV.trans (hB2V.mono (by omega))
    have hz' := Lib.hid hz
    have hm0 : Hid (MapOf Tryz.prog V2 3 V.heap.size 0 (fun _ => none)) := (MapOf.made Tryz.prog V 3).below (B := V.heap.size + 1) (hB2.mono (by simp)) (by omega)
    have hzV2 : V.heap.size + 1 ≤ V2.heap.size := by have := hB2.size; simpa using this
    clear hz hB2 k0 k1 k2 hmm hbm
    go_wp2_with fail
    go_loopw [4, 5, 14] (fun _ _ i wr => ∃ (k : Nat) (f : Lit → Option Value), k ≤ H.length ∧ i = .int .i64 k ∧ Hid (MapOf Tryz.prog wr 3 V.heap.size k f) ∧ Hid (∀ n, In64 n → (fa? (canonF (H.take k)) n = none ∧ f (keyN n) = none) ∨ ∃ j : Nat, fa? (canonF (H.take k)) n = some (.mk ⟨#[]⟩ j []) ∧ j < 2000 ∧ f (keyN n) = some (.agg #[.string ⟨#[]⟩, .int .i64 j, .slice none 0 0])) ∧ Below V.heap.size V2 wr ∧ Keeps V2 wr) (fun _ _ i _ => H.length - (intOf i).toNat)
    case atStart => exact ⟨0, _, by omega, rfl, hm0, fun n _ => .inl ⟨rfl, rfl⟩, Below.refl _ _, Keeps.of_below (Below.refl _ _)⟩
    case round =>
      obtain ⟨k, f, hk, rfl, hM, hF, hBr, hKr⟩ := hrel
      have hzr := hBr.size
      by_cases h1 : k < H.length
      · obtain ⟨b, off, rfl, hc⟩ := hz'.out.at.2 (by rintro rfl; simp at h1)
        have g0 := hKr _ _ (hc k h1)
        have hin := Lib.hid (h64.out _ (List.getElem_mem h1))
        have hkey := Lib.hid (keyN_of hin.out)
        have hstep := Lib.hid (fun n => canonF_at hnd.out h1 n)
        have hKr' := Lib.hid hKr
        clear hc hKr
        go_wp2_with (at_mapUpdate; refine wpList_put _ rfl _ _ _ 140 rfl 3 25 K Tryz.underlying140 V.heap.size k f rfl hM.out (by unfold maxLen; omega) (.int .i64 H[k]) (.agg #[.string ⟨#[]⟩, .int .i64 k, .slice none 0 0]) (keyN H[k]) rfl rfl hkey.out ?_; intro w5 hM5 hg5)
        go_roundw
        case rel =>
          refine ⟨k + 1, _, by omega, by go_num, hM5, ?_, hBr.grown hg5 (by omega) (fun q e => by cases e; exact Nat.le_refl _), fun a x hx => ?_⟩
          · intro n hn
            by_cases e : n = H[k]
            · refine .inr ⟨k, ?_, by omega, ?_⟩
              · rw [hstep.out, if_pos e]
              · rw [e, updF_same]
            · rcases hF.out n hn with ⟨h2, h3⟩ | ⟨j, h2, h3, h4⟩
              · refine .inl ⟨by rw [hstep.out, if_neg e]; exact h2, ?_⟩
                rw [updF_other (fun h' => e (keyN_inj h'))]; exact h3
              · refine .inr ⟨j, by rw [hstep.out, if_neg e]; exact h2, h3, ?_⟩
                rw [updF_other (fun h' => e (keyN_inj h'))]; exact h4
          · have h2 := hKr'.out a x hx
            refine (World.cell?_of_block (hg5.block a.block (cell_block h2) (fun e => ?_))).trans h2
            have e' : a.block = V.heap.size := by simpa using e
            obtain ⟨_, ⟨es, clock, b1, _⟩, _⟩ := hM.out
            rw [← e'] at b1
            simp [World.cell?, b1] at h2
        case measure => simp [intOf]; omega
      · have e : k = H.length := by omega
        have hbr : Below (w.heap.size + 2) W1 wr := hbV2.trans (hBr.mono (by omega))
        have hwr := Lib.hid (hb1'.out.trans (hbr.mono (by omega)))
        obtain ⟨k0, k1, k2⟩ := hcells'.out _ (hbr.mono (by omega))
        have hput := Lib.hid (ty_with (.mk s n l) _ (fun c => c = w.heap.size + 1) (.map (some V.heap.size)) (fun n => fa? (canonF H) n) wr (TyX.later (KeepsBut.of_below hwr.out) (fun b hb h => by omega) hv0.out)
          (.inr ⟨V.heap.size, k, f, rfl, hM.out, fun n hn => by
            rcases hF.out n hn with ⟨h2, h3⟩ | ⟨j, h2, h3, h4⟩
            · rw [e, List.take_length] at h2; exact .inl ⟨h2, h3⟩
            · rw [e, List.take_length] at h2
              exact .inr ⟨_, _, h2, h4, TyX.shut (l := []) (fun _ => rfl) ⟨by omega, by omega⟩ (show (0 : Nat) ≤ lenMax from Nat.zero_le _) (Nat.zero_le _) (.inl rfl)⟩⟩)
          (fun b h => by have := hbr.size; omega) (by have := hcnt.out; omega))
        clear hF hM e hKr
        go_wp2_with fail
        with_reducible refine hput.out.mono ?_
        rintro e V3 ⟨u, rfl, hu, hB3⟩
        obtain ⟨ua, uc, rfl⟩ := hu.form
        have hu' := Lib.hid hu
        have hbr3 : Below (w.heap.size + 2) W1 V3 := hbr.trans (hB3.mono (by have := hbr.size; omega))
        have hwV3 := Lib.hid (hb1'.out.trans (hbr3.mono (by omega)))
        have hrr := Lib.hid (hres'.out V3 hbr3)
        obtain ⟨r0, r1, r2⟩ := cells_of hrr.out
        have rf0 := frozen_of hrr.out 0
        have rf1 := frozen_of hrr.out 1
        have rf2 := frozen_of hrr.out 2
        clear hu
        generalize (withT (fun n => fa? (canonF H) n) (.mk s n l)).name = us at hu' ⊢
        generalize (withT (fun n => fa? (canonF H) n) (.mk s n l)).n = un at hu' ⊢
        generalize (withT (fun n => fa? (canonF H) n) (.mk s n l)).args.length = um at hu' ⊢
        go_wp2_with fail
        have hU := set_box3 hrr.out (.string us) (.int .i64 un) (.slice ua um uc)
        change bodyPost _ _ _ _ _ (World.box3 V3 (w.heap.size + 1) (.string us) (.int .i64 un) (.slice ua um uc))
        generalize World.box3 V3 (w.heap.size + 1) (.string us) (.int .i64 un) (.slice ua um uc) = U at hU ⊢
        obtain ⟨⟨u0, u1, u2⟩, hBU, -, hUk⟩ := hU
        clear r0 r1 r2
        refine bodyPost_ret (results_ty rfl _ _ rfl u0 u1 u2) rfl ?_
        refine ⟨_, rfl, ?_, hwV3.out.trans (hBU.mono (by omega))⟩
        rw [hT.out, ← hwp.out]
        exact ty_kept (X := fun _ => False) (hu'.out.less fun b hb => hb.elim (fun h => h.elim) id) hUk
end Go.Proofs.YtnfclcfcpgfajaaGreatDoor

/- A type with facts in its places, by the program. -/
namespace Go.Proofs.YtnfclcfcpgfajaaGreatDoor
open Go.RowKit Go.Shelf
attribute [local go_sem] Oper.semAt_some

theorem with_id : ∀ e : Ty, withT (fun _ => none) e = e := by
  refine Ty.ind fun s n l ih => ?_
  rw [withT, withL_map, if_neg (by simp), List.map_congr_left (g := id) (fun x hx => ih x hx), List.map_id]

/-- A fact's value in a row. -/
def rowV (w : World) (a : Option Addr) (i : Nat) : Value := match a with
  | some ad => .agg #[(w.cell? ⟨ad.block, ad.off + i * 4, none⟩).getD undef, (w.cell? ⟨ad.block, ad.off + i * 4 + 1, none⟩).getD undef, (w.cell? ⟨ad.block, ad.off + i * 4 + 2, none⟩).getD undef, (w.cell? ⟨ad.block, ad.off + i * 4 + 3, none⟩).getD undef]
  | none => undef
theorem FaRow.vals {X : Nat → Prop} {w : World} {a : Option Addr} {L : List Fa} (h : FaRow X w a L) : ∀ i (hi : i < L.length), ∃ b off a1 c1, a = some ⟨b, off, none⟩ ∧ rowV w a i = .agg #[.int .i64 L[i].n, .string L[i].ty.name, .int .i64 L[i].ty.n, .slice a1 L[i].ty.args.length c1] ∧
    w.cell? ⟨b, off + i * 4, none⟩ = some (.int .i64 L[i].n) ∧ w.cell? ⟨b, off + i * 4 + 1, none⟩ = some (.string L[i].ty.name) ∧ w.cell? ⟨b, off + i * 4 + 2, none⟩ = some (.int .i64 L[i].ty.n) ∧ w.cell? ⟨b, off + i * 4 + 3, none⟩ = some (.slice a1 L[i].ty.args.length c1) ∧
    TyX X w (.agg #[.string L[i].ty.name, .int .i64 L[i].ty.n, .slice a1 L[i].ty.args.length c1]) L[i].ty ∧ In64 L[i].n := by
  intro i hi
  obtain ⟨b, off, rfl, hat⟩ := h.at (by rintro rfl; simp at hi)
  obtain ⟨a1, c1, g0, g1, g2, g3, ge, gn⟩ := hat i hi
  exact ⟨b, off, a1, c1, rfl, by simp [rowV, g0, g1, g2, g3], g0, g1, g2, g3, ge, gn⟩

/-- Facts by their places, the last one first. -/
def pick (L : List Fa) (pre : List (Ix L)) : List Fa := (pre.map fun j => L[j.1]'j.2).reverse
theorem pick_snoc (L : List Fa) (pre : List (Ix L)) (x : Ix L) : pick L (pre ++ [x]) = L[x.1]'x.2 :: pick L pre := by simp [pick]
theorem pick_all (L : List Fa) (ys : List (Ix L)) (h : ys.map (·.1) = revIx L.length) : pick L ys = L := by
  have h1 : ys.reverse.map (·.1) = List.range L.length := by rw [List.map_reverse, h, revIx, List.reverse_reverse]
  rw [pick, ← List.map_reverse]
  refine List.ext_getElem ?_ ?_
  · have := congrArg List.length h1
    simpa using this
  · intro i hi hj
    have h2 : (ys.reverse.map (·.1))[i]? = (List.range L.length)[i]? := by rw [h1]
    have hi' : i < ys.reverse.length := by simpa using hi
    rw [List.getElem?_map, List.getElem?_eq_getElem hi', List.getElem?_eq_getElem (by simpa using hj)] at h2
    simp only [Option.map_some, Option.some.injEq, List.getElem_range] at h2
    rw [List.getElem_map]
    simp only [h2]

/-- What Apply has at the round's start: the map of what was seen. -/
def ApI (X : Nat → Prop) (mb mc : Nat) (L : List Fa) (pre : List (Ix L)) (W : World) : Prop :=
  ∃ f : Lit → Option Value, W.heap[mc]? = some (.cells #[.map (some mb)] 140 (0, 0)) ∧ MapOf Tryz.prog W 3 mb pre.length f ∧ ∀ n, In64 n → (fa? (pick L pre) n = none ∧ f (keyN n) = none) ∨ ∃ e v, fa? (pick L pre) n = some e ∧ f (keyN n) = some v ∧ TyX X W v e
theorem ApI.own {X : Nat → Prop} {mb mc S0 : Nat} {L : List Fa} (h2 : mb < S0) (h3 : mc < S0) : OwnFrom S0 (ApI X mb mc L) := by
  rintro pre A B row ⟨f, c3, c4, c5⟩ hg hr
  have hk : ∀ i o, A.heap[i]? = some o → i < S0 → B.heap[i]? = some o := by
    intro i o hi ho
    refine (hg.block i (Array.getElem?_eq_some_iff.1 hi).1 ?_).trans hi
    intro e
    have := (hr i e.symm).1
    omega
  have hK : Keeps A B := fun a v hv => cell_kept hv hg (fun r e => (hr r e).2)
  refine ⟨f, hk _ _ c3 h3, ?_, fun n hn => ?_⟩
  · obtain ⟨D, ⟨es, clock, b1, b2, b3, b4⟩, b5⟩ := c4
    exact ⟨D, ⟨es, clock, hk _ _ b1 h2, b2, b3, b4⟩, b5⟩
  · rcases c5 n hn with h | ⟨e, v, q1, q2, q3⟩
    · exact .inl h
    · exact .inr ⟨e, v, q1, q2, TyX.keeps hK _ _ q3⟩

theorem keeps_put {V W5 : World} {mb : Nat} (hg : V.grownBy W5 (some mb)) (hm : ∃ o : Obj, V.heap[mb]? = some o ∧ o.isCells = false) : Keeps V W5 :=
  fun a v hv => cell_kept hv hg (fun r e => by cases e; exact hm)
theorem MapOf.obj {P : Program} {w : World} {k : TypeId} {b n : Nat} {f : Lit → Option Value} (h : MapOf P w k b n f) : ∃ o : Obj, w.heap[b]? = some o ∧ o.isCells = false := by
  obtain ⟨_, ⟨es, clock, b1, _⟩, _⟩ := h
  exact ⟨_, b1, rfl⟩

theorem zeroT_isX (X : Nat → Prop) (w : World) : TyX X w (.agg #[.string ⟨#[]⟩, .int .i64 0, .slice none 0 0]) zeroT := TyX.shut (l := []) (fun _ => rfl) ⟨by omega, by omega⟩ (show (0 : Nat) ≤ lenMax from Nat.zero_le _) (Nat.zero_le _) (.inl rfl)
set_option maxHeartbeats 1000000 in
set_option maxRecDepth 100000 in
theorem ty_Apply_not (aL : Option Addr) (cL : Nat) (L : List Fa) (e : Ty) (v : Value) (w : World) (X : Nat → Prop) (hLl : L.length ≤ lenMax) (hL : FaRow X w aL L) (hv : TyX X w v e) (hbad : (chkT e && L.all goodF) = false) : Calls Tryz.prog 53 #[.slice aL L.length cL, v] w fun r w' => ∃ u, r = .returned u ∧ TyX X w' u (applyT L e) ∧ Below w.heap.size w w' := by
  obtain ⟨s, n, l⟩ := e
  obtain ⟨a1, c1, rfl, _, hn, hs, hl, _⟩ := hv.open
  have hT : Hid (applyT L (.mk s n l) = zeroT) := by unfold Hid applyT; rw [if_neg (by rw [hbad]; simp)]
  obtain ⟨W1, hW1⟩ : ∃ W, ((((w.alloc (.cells #[.string s, .int .i64 n, .slice a1 l.length c1] 25)).alloc (.cells #[.string ⟨#[]⟩, .int .i64 0, .slice none 0 0] 25)).alloc (.map #[] 0)).alloc (.cells #[.map (some (w.heap.size + 1 + 1))] 140)) = W := ⟨_, rfl⟩
  have hz1 : W1.heap.size = w.heap.size + 4 := by rw [← hW1]; simp
  have hb1 : Below w.heap.size w W1 := by rw [← hW1]; exact ((((Below.refl _ w).alloc (Nat.le_refl _) _).alloc (by simp) _).alloc (by simp <;> omega) _).alloc (by simp <;> omega) _
  have hcells' : Hid (∀ V, Below (w.heap.size + 1) W1 V → V.cell? ⟨w.heap.size, 0, none⟩ = some (.string s) ∧ V.cell? ⟨w.heap.size, 1, none⟩ = some (.int .i64 n) ∧ V.cell? ⟨w.heap.size, 2, none⟩ = some (.slice a1 l.length c1)) := by
    intro V hV
    have g1 : Below (w.heap.size + 1) (w.alloc (.cells #[.string s, .int .i64 n, .slice a1 l.length c1] 25)) W1 := by rw [← hW1]; exact (((Below.refl _ _).alloc (by simp) _).alloc (by simp) _).alloc (by simp <;> omega) _
    exact box3 (g1.trans hV)
  have hres' : Hid (∀ U, Below (w.heap.size + 2) W1 U → U.heap[w.heap.size + 1]? = some (.cells #[.string ⟨#[]⟩, .int .i64 0, .slice none 0 0] 25 (0, 0))) := by
    intro U hU
    refine new_block2 (w := w) (o := .cells #[.string s, .int .i64 n, .slice a1 l.length c1] 25) ?_
    refine Below.trans ?_ hU
    rw [← hW1]; exact ((Below.refl _ _).alloc (by simp) _).alloc (by simp) _
  have hW1' := Lib.hid hW1
  have hb1' := Lib.hid hb1
  obtain ⟨k0, k1, k2⟩ := hcells'.out W1 (Below.refl _ _)
  have hc := Lib.hid (ty_Check (.mk s n l) _ W1 ((hv.less (Y := fun _ => False) (fun _ h => h.elim)).below hb1))
  have hmm := @run_makeMap Tryz.prog
  have hct := Lib.hid (fun V (hV : Below w.heap.size w V) => contains_Fact aL L cL 101 #[] (fun f => !goodF f) V hLl ((FaRow.later (KeepsBut.refl X w) (fun _ _ h => h.elim) hL).keeps (Keeps.of_below hV)) (fun e _ v W _ hx => by simpa using ty_bad e v W hx) (enters_of Tryz.func101 (by kernel_rfl) rfl))
  have hLl' : L.length ≤ 140737488355328 := by unfold lenMax at hLl; omega
  cases hq : chkT (.mk s n l)
  · rw [hq] at hc
    clear hq hv hbad hW1 hL hct
    go_enter Tryz.func53, Tryz.ntmps53
    go_wp2_with fail
    rw [hW1'.out]
    refine hc.out.mono ?_
    rintro e V ⟨rfl, hBV⟩
    have hbr : Below (w.heap.size + 2) W1 V := hBV.mono (by omega)
    have hwV := hb1'.out.trans (hBV.mono (by omega))
    have hrr := Lib.hid (hres'.out V hbr)
    obtain ⟨r0, r1, r2⟩ := cells_of hrr.out
    have rf0 := frozen_of hrr.out 0
    have rf1 := frozen_of hrr.out 1
    have rf2 := frozen_of hrr.out 2
    go_wp2_with fail
    have hU := set_box3 hrr.out (.string ⟨#[]⟩) (.int .i64 0) (.slice none 0 0)
    change bodyPost _ _ _ _ _ (World.box3 V (w.heap.size + 1) (.string ⟨#[]⟩) (.int .i64 0) (.slice none 0 0))
    generalize World.box3 V (w.heap.size + 1) (.string ⟨#[]⟩) (.int .i64 0) (.slice none 0 0) = U at hU ⊢
    obtain ⟨⟨u0, u1, u2⟩, hBU, -, hUk⟩ := hU
    clear r0 r1 r2
    refine bodyPost_ret (results_ty rfl _ _ rfl u0 u1 u2) rfl ?_
    exact ⟨_, rfl, by rw [hT.out]; exact zeroT_isX _ _, hwV.trans (hBU.mono (by omega))⟩
  · have hany : L.any (fun f => !goodF f) = true := by
      rw [hq, Bool.true_and] at hbad
      rw [List.any_eq_not_all_not]
      simp only [Bool.not_not]
      rw [show (L.all fun x => goodF x) = L.all goodF from rfl, hbad]; rfl
    rw [hany] at hct
    rw [hq] at hc
    clear hq hv hbad hW1 hL hany
    go_enter Tryz.func53, Tryz.ntmps53
    go_wp2_with fail
    rw [hW1'.out]
    refine hc.out.mono ?_
    rintro e V0 ⟨rfl, hBV0⟩
    have hwV0 := Lib.hid (hb1'.out.trans (hBV0.mono (by omega)))
    go_wp2_with fail
    refine (hct.out _ hwV0.out).mono ?_
    rintro e V ⟨rfl, hBV⟩
    have hz0 := hBV0.size
    have hbr : Below (w.heap.size + 2) W1 V := (hBV0.mono (by omega)).trans (hBV.mono (by omega))
    have hwV := hb1'.out.trans (hbr.mono (by omega))
    have hrr := Lib.hid (hres'.out V hbr)
    obtain ⟨r0, r1, r2⟩ := cells_of hrr.out
    have rf0 := frozen_of hrr.out 0
    have rf1 := frozen_of hrr.out 1
    have rf2 := frozen_of hrr.out 2
    go_wp2_with fail
    have hU := set_box3 hrr.out (.string ⟨#[]⟩) (.int .i64 0) (.slice none 0 0)
    change bodyPost _ _ _ _ _ (World.box3 V (w.heap.size + 1) (.string ⟨#[]⟩) (.int .i64 0) (.slice none 0 0))
    generalize World.box3 V (w.heap.size + 1) (.string ⟨#[]⟩) (.int .i64 0) (.slice none 0 0) = U at hU ⊢
    obtain ⟨⟨u0, u1, u2⟩, hBU, -, hUk⟩ := hU
    clear r0 r1 r2
    refine bodyPost_ret (results_ty rfl _ _ rfl u0 u1 u2) rfl ?_
    exact ⟨_, rfl, by rw [hT.out]; exact zeroT_isX _ _, hwV.trans (hBU.mono (by omega))⟩

set_option maxHeartbeats 4000000 in
set_option maxRecDepth 100000 in
theorem ty_Apply_is (aL : Option Addr) (cL : Nat) (L : List Fa) (e : Ty) (v : Value) (w : World) (X : Nat → Prop) (hX : ∀ b, X b → b < w.heap.size) (hLl : L.length ≤ lenMax) (hL : FaRow X w aL L) (hv : TyX X w v e) (hgood : (chkT e && L.all goodF) = true) : Calls Tryz.prog 53 #[.slice aL L.length cL, v] w fun r w' => ∃ u, r = .returned u ∧ TyX X w' u (applyT L e) ∧ Below w.heap.size w w' := by
  have hv0 := Lib.hid hv
  have hL0 := Lib.hid hL
  obtain ⟨s, n, l⟩ := e
  obtain ⟨a1, c1, rfl, _, hn, hs, hl, _⟩ := hv.open
  have hq : chkT (.mk s n l) = true := by simp only [Bool.and_eq_true] at hgood; exact hgood.1
  have hgd : ∀ f ∈ L, goodF f = true := by simp only [Bool.and_eq_true, List.all_eq_true] at hgood; exact hgood.2
  have hsnd : sndT (.mk s n l) 60 = true := by simp only [chkT, Bool.and_eq_true] at hq; exact hq.2
  have hcnt := Lib.hid (chk_cnt hq)
  have hT : Hid (applyT L (.mk s n l) = withT (fun n => fa? L n) (.mk s n l)) := by
    unfold Hid applyT
    rw [if_pos hgood]
    exact (with_put (fun _ _ => rfl) _ 60 hv hsnd).symm
  obtain ⟨W1, hW1⟩ : ∃ W, ((((w.alloc (.cells #[.string s, .int .i64 n, .slice a1 l.length c1] 25)).alloc (.cells #[.string ⟨#[]⟩, .int .i64 0, .slice none 0 0] 25)).alloc (.map #[] 0)).alloc (.cells #[.map (some (w.heap.size + 1 + 1))] 140)) = W := ⟨_, rfl⟩
  have hz1 : W1.heap.size = w.heap.size + 4 := by rw [← hW1]; simp
  have hb1 : Below w.heap.size w W1 := by rw [← hW1]; exact ((((Below.refl _ w).alloc (Nat.le_refl _) _).alloc (by simp) _).alloc (by simp <;> omega) _).alloc (by simp <;> omega) _
  have hcells' : Hid (∀ V, Below (w.heap.size + 1) W1 V → V.cell? ⟨w.heap.size, 0, none⟩ = some (.string s) ∧ V.cell? ⟨w.heap.size, 1, none⟩ = some (.int .i64 n) ∧ V.cell? ⟨w.heap.size, 2, none⟩ = some (.slice a1 l.length c1)) := by
    intro V hV
    have g1 : Below (w.heap.size + 1) (w.alloc (.cells #[.string s, .int .i64 n, .slice a1 l.length c1] 25)) W1 := by rw [← hW1]; exact (((Below.refl _ _).alloc (by simp) _).alloc (by simp) _).alloc (by simp <;> omega) _
    exact box3 (g1.trans hV)
  have hres' : Hid (∀ U, Below (w.heap.size + 2) W1 U → U.heap[w.heap.size + 1]? = some (.cells #[.string ⟨#[]⟩, .int .i64 0, .slice none 0 0] 25 (0, 0))) := by
    intro U hU
    refine new_block2 (w := w) (o := .cells #[.string s, .int .i64 n, .slice a1 l.length c1] 25) ?_
    refine Below.trans ?_ hU
    rw [← hW1]; exact ((Below.refl _ _).alloc (by simp) _).alloc (by simp) _
  have hmap1 : Hid (MapOf Tryz.prog W1 3 (w.heap.size + 2) 0 (fun _ => none)) := by
    unfold Hid
    rw [← hW1]
    have h := MapOf.made Tryz.prog ((w.alloc (.cells #[.string s, .int .i64 n, .slice a1 l.length c1] 25)).alloc (.cells #[.string ⟨#[]⟩, .int .i64 0, .slice none 0 0] 25)) 3
    simp only [World.size_alloc] at h
    refine h.below (B := w.heap.size + 3) ?_ (by omega)
    exact (Below.refl _ _).alloc (by simp) _
  have hmc1 : Hid (∀ U, Below (w.heap.size + 4) W1 U → U.heap[w.heap.size + 3]? = some (.cells #[.map (some (w.heap.size + 2))] 140 (0, 0))) := by
    intro U hU
    rw [← hW1] at hU
    have h := new_block2 (w := (w.alloc (.cells #[.string s, .int .i64 n, .slice a1 l.length c1] 25)).alloc (.cells #[.string ⟨#[]⟩, .int .i64 0, .slice none 0 0] 25)) (o := .map #[] 0) (t := 140) (vs := #[.map (some (w.heap.size + 1 + 1))]) (U := U) (by simpa using hU)
    simpa using h
  have hW1' := Lib.hid hW1
  have hb1' := Lib.hid hb1
  obtain ⟨k0, k1, k2⟩ := hcells'.out W1 (Below.refl _ _)
  have hc := Lib.hid (ty_Check (.mk s n l) _ W1 ((hv.less (Y := fun _ => False) (fun _ h => h.elim)).below hb1))
  rw [hq] at hc
  have hmm := @run_makeMap Tryz.prog
  have hct := Lib.hid (fun V (hV : Below w.heap.size w V) => contains_Fact aL L cL 101 #[] (fun f => !goodF f) V hLl ((FaRow.later (KeepsBut.refl X w) (fun _ _ h => h.elim) hL).keeps (Keeps.of_below hV)) (fun e _ v W _ hx => by simpa using ty_bad e v W hx) (enters_of Tryz.func101 (by kernel_rfl) rfl))
  have hany : L.any (fun f => !goodF f) = false := by
    rw [List.any_eq_not_all_not]
    simp only [Bool.not_not]
    rw [List.all_eq_true.2 hgd]; rfl
  rw [hany] at hct
  have hLl' : L.length ≤ 140737488355328 := by unfold lenMax at hLl; omega
  have hgd' := Lib.hid hgd
  have hvals := Lib.hid hL.vals
  have hdd : ∀ k : Nat, (Fence.wide.depth.isSome = true → 1 ≤ k) := fun k h => by cases h
  clear hq hv hgood hW1 hL hany hgd hsnd
  refine (callsIn_wide (n := 6)).1 ?_
  refine callsIn_of_wp_marks Tryz.func53 rfl trivial ?_
  simp only [Tryz.ntmps53, List.size_toArray, List.length_cons, List.length_nil, Nat.reduceAdd, Nat.reduceSub, Array.replicate_succ, Array.replicate_zero, List.push_toArray, List.append_toArray, List.nil_append, List.cons_append]
  gi_wp2_with fail
  rw [hW1'.out]
  refine ⟨trivial, callsIn_wide.2 (hc.out.mono ?_)⟩
  rintro e V0 ⟨rfl, hBV0⟩
  have hwV0 := Lib.hid (hb1'.out.trans (hBV0.mono (by omega)))
  gi_wp2_with fail
  refine ⟨trivial, callsIn_wide.2 ((hct.out _ hwV0.out).mono ?_)⟩
  rintro e V ⟨rfl, hBV⟩
  have hz0 := hBV0.size
  have hbr : Below (w.heap.size + 4) W1 V := (hBV0.mono (by omega)).trans (hBV.mono (by omega))
  have hwV := hb1'.out.trans (hbr.mono (by omega))
  have hvz := hbr.size
  gi_wp2_with fail
  refine ⟨trivial, callsIn_wide.2 ((backward_Fact _ _ ⟨_, _, _, rfl⟩).mono ?_)⟩
  rintro r V2 ⟨rfl, hV2⟩
  have hb2 : Below V.heap.size V V2 := by rw [hV2]; exact (Below.refl _ V).alloc (Nat.le_refl _) _
  have hz2 : V2.heap.size = V.heap.size + 1 := by rw [hV2]; simp
  have hwV2 : Below w.heap.size w V2 := hwV.trans (hb2.mono (by omega))
  have hbr2 : Below (w.heap.size + 4) W1 V2 := hbr.trans (hb2.mono (by omega))
  have hbx : V2.cell? ⟨V.heap.size, 0, none⟩ = some (.slice aL L.length cL) := by rw [hV2, World.cell?_alloc_at _ _ _ _ rfl]; rfl
  clear hV2 k0 k1 k2
  have h0 : ApI (fun c => X c ∨ c = w.heap.size + 1) (w.heap.size + 2) (w.heap.size + 3) L [] V2 ∧ Below (w.heap.size + 2) W1 V2 := ⟨⟨fun _ => none, hmc1.out _ hbr2, hmap1.out.below hbr2 (by omega), fun n _ => .inl ⟨rfl, rfl⟩⟩, hbr2.mono (by omega)⟩
  gi_wp2_with fail
  refine wpIn_rangeFunc_ownH (F := Fence.wide) rfl (by omega) (gf := 179) (lb := #[.pointer (some ⟨V.heap.size, 0, none⟩)]) rfl trivial (enters_of Tryz.func179 (by kernel_rfl) rfl)
    (back_stops _ L hLl (rowV w aL) aL cL V2 V.heap.size (KeepsBut (fun _ => False)) (fun A => KeepsBut.refl _ _) (fun h k => h.trans k) (fun W U hW hU => ⟨hU.2 _ _ (fun h => h) (Keeps.of_below hW _ _ hbx), fun hne => by
      have hKK : ∀ a v, w.cell? a = some v → U.cell? a = some v := fun a v h => hU.2 _ _ (fun h => h) (Keeps.of_below hW _ _ (Keeps.of_below hwV2 _ _ h))
      obtain ⟨b, off, _, _, ha, _⟩ := hvals.out 0 (List.length_pos_iff.2 hne)
      refine ⟨b, off, ha, fun i hi => ?_⟩
      obtain ⟨b', off', a1, c1, ha', hr, g0, g1, g2, g3, _⟩ := hvals.out i hi
      rw [ha] at ha'
      simp only [Option.some.injEq, Addr.mk.injEq, and_true] at ha'
      obtain ⟨rfl, rfl⟩ := ha'
      exact ⟨_, _, _, _, hr, hKK _ _ g0, hKK _ _ g1, hKK _ _ g2, hKK _ _ g3⟩⟩))
    (fun h k => h.trans k) (fun W l o o' hl h ho _ => ⟨by simp [World.putObj], fun a v _ hv => cell_kept hv (grownBy_putObj' W l o') (fun r e => by cases e; exact ⟨o, h, ho⟩)⟩) (Below.refl _ _) (fun _ => rfl)
    (fun pre W => ApI (fun c => X c ∨ c = w.heap.size + 1) (w.heap.size + 2) (w.heap.size + 3) L pre W ∧ Below (w.heap.size + 2) W1 W)
    (fun _ _ _ => False)
    (OwnFrom.and (ApI.own (by omega) (by omega)) (ownFrom_below (by omega) (by omega)))
    (fun c => fun _ _ _ _ h _ _ => h)
    h0
    (fun x a' W => ∃ (B : Nat) (u1 u2 u6 u7 u9 u10 u11 u12 u13 u14 u15 u16 u17 u18 u19 u20 u21 u22 u23 u24 u25 u26 u27 u28 u29 u30 u31 : Value) (a2 : Option Addr) (c2 : Nat), a' = { tmps := #[.slice aL L.length cL, u1, u2, .pointer (some ⟨w.heap.size, 0, none⟩), .pointer (some ⟨w.heap.size + 1, 0, none⟩), .pointer (some ⟨w.heap.size + 3, 0, none⟩), u6, u7, .pointer (some ⟨B, 0, none⟩), u9, u10, u11, u12, u13, u14, u15, u16, u17, u18, u19, u20, u21, u22, u23, u24, u25, u26, u27, u28, u29, u30, u31], defers := [] } ∧
      W.cell? ⟨B, 0, none⟩ = some (.int .i64 (L[x.1]'x.2).n) ∧ W.cell? ⟨B, 1, none⟩ = some (.string (L[x.1]'x.2).ty.name) ∧ W.cell? ⟨B, 2, none⟩ = some (.int .i64 (L[x.1]'x.2).ty.n) ∧ W.cell? ⟨B, 3, none⟩ = some (.slice a2 (L[x.1]'x.2).ty.args.length c2) ∧
      TyX X w (.agg #[.string (L[x.1]'x.2).ty.name, .int .i64 (L[x.1]'x.2).ty.n, .slice a2 (L[x.1]'x.2).ty.args.length c2]) (L[x.1]'x.2).ty ∧ In64 (L[x.1]'x.2).n)
    (fun x a' _ A B row hs hg hr => by
      obtain ⟨Bf, u1, u2, u6, u7, u9, u10, u11, u12, u13, u14, u15, u16, u17, u18, u19, u20, u21, u22, u23, u24, u25, u26, u27, u28, u29, u30, u31, a2, c2, e0, g0, g1, g2, g3, h4⟩ := hs
      have hK : Keeps A B := fun a v hv => cell_kept hv hg (fun r e => (hr r e).2)
      exact ⟨Bf, u1, u2, u6, u7, u9, u10, u11, u12, u13, u14, u15, u16, u17, u18, u19, u20, u21, u22, u23, u24, u25, u26, u27, u28, u29, u30, u31, a2, c2, e0, hK _ _ g0, hK _ _ g1, hK _ _ g2, hK _ _ g3, h4⟩)
    ?assign ?body ?done ?stop
  case assign =>
    rintro l' pre x W K hI hK
    obtain ⟨b', off', a2, c2, ha', hr, g0, g1, g2, g3, ge, gn⟩ := hvals.out x.1 x.2
    simp only [hr]
    have hfin := Lib.hid (fun a' (ha : ∃ (u1 u2 u6 u7 u9 u10 u11 u12 u13 u14 u15 u16 u17 u18 u19 u20 u21 u22 u23 u24 u25 u26 u27 u28 u29 u30 u31 : Value), a' = ({ tmps := #[.slice aL L.length cL, u1, u2, .pointer (some ⟨w.heap.size, 0, none⟩), .pointer (some ⟨w.heap.size + 1, 0, none⟩), .pointer (some ⟨w.heap.size + 3, 0, none⟩), u6, u7, .pointer (some ⟨W.heap.size, 0, none⟩), u9, u10, u11, u12, u13, u14, u15, u16, u17, u18, u19, u20, u21, u22, u23, u24, u25, u26, u27, u28, u29, u30, u31], defers := [] } : Act)) => by
      obtain ⟨u1, u2, u6, u7, u9, u10, u11, u12, u13, u14, u15, u16, u17, u18, u19, u20, u21, u22, u23, u24, u25, u26, u27, u28, u29, u30, u31, ha⟩ := ha
      have hb4 := box4 (w := W) (v0 := .int .i64 (L[x.1]'x.2).n) (v1 := .string (L[x.1]'x.2).ty.name) (v2 := .int .i64 (L[x.1]'x.2).ty.n) (v3 := .slice a2 (L[x.1]'x.2).ty.args.length c2) (t := 68) (Below.refl _ _)
      have hbl : Below W.heap.size W (W.alloc (.cells #[.int .i64 (L[x.1]'x.2).n, .string (L[x.1]'x.2).ty.name, .int .i64 (L[x.1]'x.2).ty.n, .slice a2 (L[x.1]'x.2).ty.args.length c2] 68)) := (Below.refl _ _).alloc (Nat.le_refl _) _
      exact hK a' _ ((KeepsOthers.alloc W _).from _) (KeepsBut.of_below hbl) ((OwnFrom.and (ApI.own (S0 := V2.heap.size) (by omega) (by omega)) (ownFrom_below (by omega) (by omega))).alloc _ hI) ⟨W.heap.size, u1, u2, u6, u7, u9, u10, u11, u12, u13, u14, u15, u16, u17, u18, u19, u20, u21, u22, u23, u24, u25, u26, u27, u28, u29, u30, u31, a2, c2, ha, hb4.1, hb4.2.1, hb4.2.2.1, hb4.2.2.2, ge, gn⟩)
    clear hK ge gn g0 g1 g2 g3 ha' hr
    gi_wp2
    exact hfin.out _ ⟨_, _, _, _, _, _, _, _, _, _, _, _, _, _, _, _, _, _, _, _, _, _, _, _, _, _, _, rfl⟩
  case body =>
    rintro l' pre x a' W hl' hr' ⟨⟨f, c3, c4, c5⟩, hBR⟩ ⟨B, u1, u2, u6, u7, u9, u10, u11, u12, u13, u14, u15, u16, u17, u18, u19, u20, u21, u22, u23, u24, u25, u26, u27, u28, u29, u30, u31, a2, c2, rfl, g0, g1, g2, g3, ge, gn⟩ hpl
    have hBW := hb1'.out.trans (hBR.mono (by omega))
    have K : Maps.Keyed Tryz.prog 3 := Maps.int_keyed Tryz.underlying3
    have hxg := hgd'.out _ (List.getElem_mem x.2)
    have hck : chkT (L[x.1]'x.2).ty = true := by simp only [goodF, Bool.and_eq_true] at hxg; exact hxg.1
    have hpk := Lib.hid (pick_snoc L pre x)
    obtain ⟨fx, hfx⟩ : ∃ fx, L[x.1]'x.2 = fx := ⟨_, rfl⟩
    rw [hfx] at g0 g1 g2 g3 ge gn hck hpk
    have hkey := Lib.hid (keyN_of gn)
    have hmcc : W.cell? ⟨w.heap.size + 3, 0, none⟩ = some (.map (some (w.heap.size + 2))) := by simp [World.cell?, c3]
    have hSW : V2.heap.size ≤ W.heap.size := by
      obtain ⟨r, hr⟩ := hr'
      have := (Array.getElem?_eq_some_iff.1 hr).1
      omega
    have hW' : Below W.heap.size W W.drew := (Below.refl _ _).drew
    have hput := Lib.hid (ty_with fx.ty _ (fun c => X c ∨ c = w.heap.size + 1) (.map none) (fun _ => none) W.drew (TyX.later (KeepsBut.of_below (hBW.trans (hW'.mono (by omega)))) (fun b hb h => h.elim id (fun h => by omega)) ge) (.inl ⟨rfl, fun _ => rfl⟩) (fun b h => by show b < W.heap.size; exact h.elim (fun h => by have := hX b h; omega) (fun h => by omega)) (by have := chk_cnt hck; omega))
    rw [with_id] at hput
    have hpn : pre.length < 140737488355328 := by omega
    have hM := Lib.hid c4
    have hc3 := Lib.hid c3
    have hc5 := Lib.hid c5
    have hfn := Lib.hid (show In64 fx.n from gn)
    have hg0 := Lib.hid g0
    have hkk : Hid (∀ V3, Below W.heap.size W.drew V3 → V3.cell? ⟨w.heap.size + 3, 0, none⟩ = some (.map (some (w.heap.size + 2))) ∧ V3.cell? ⟨B, 0, none⟩ = some (.int .i64 fx.n) ∧ V3.cell? ⟨B, 1, none⟩ = some (.string fx.ty.name) ∧ V3.cell? ⟨B, 2, none⟩ = some (.int .i64 fx.ty.n) ∧ V3.cell? ⟨B, 3, none⟩ = some (.slice a2 fx.ty.args.length c2)) := by
      intro V3 hb
      have hb' : Below W.heap.size W V3 := hW'.trans hb
      have hK : Keeps W V3 := Keeps.of_below hb'
      exact ⟨hK _ _ hmcc, hK _ _ g0, hK _ _ g1, hK _ _ g2, hK _ _ g3⟩
    have hend : Hid (∀ V3 W5 u, TyX (fun c => X c ∨ c = w.heap.size + 1) V3 u fx.ty → Below W.drew.heap.size W.drew V3 → MapOf Tryz.prog W5 3 (w.heap.size + 2) (pre.length + 1) (updF f (keyN fx.n) u) → V3.grownBy W5 (some (w.heap.size + 2)) →
        KeepsFrom V2.heap.size W W5 ∧ KeepsBut (fun _ => False) W W5 ∧ ApI (fun c => X c ∨ c = w.heap.size + 1) (w.heap.size + 2) (w.heap.size + 3) L (pre ++ [x]) W5 ∧ Below (w.heap.size + 2) W1 W5) := by
      intro V3 W5 u hu hB3 hM5 hg5
      have hb3 : Below W.heap.size W V3 := hW'.trans hB3
      have hk3 := keeps_put hg5 (hM.out.below hb3 hM.out.lt).obj
      have hk : Keeps W W5 := fun a v h => hk3 _ _ (Keeps.of_below hb3 _ _ h)
      refine ⟨KeepsFrom.trans ⟨hb3.size, fun k o _ h _ => (hb3.block k (Array.getElem?_eq_some_iff.1 h).1).trans h⟩ (KeepsFrom.of_grownBy hg5 (fun j e => by cases e; omega)), ⟨Nat.le_trans hb3.size hg5.size, fun a v _ h => hk a v h⟩, ⟨_, ?_, by rw [List.length_append]; exact hM5, ?_⟩, (hBR.trans (hb3.mono (by omega))).grown hg5 (by have := hb3.size; omega) (fun k e => by cases e; omega)⟩
      · have h1 := (hb3.block _ (Array.getElem?_eq_some_iff.1 hc3.out).1).trans hc3.out
        exact (hg5.block _ (Array.getElem?_eq_some_iff.1 h1).1 (fun e => by simp only [Option.some.injEq] at e; omega)).trans h1
      · intro n hn
        rw [hpk.out]
        by_cases e : fx.n = n
        · refine .inr ⟨fx.ty, u, by simp [fa?, e], by rw [e, updF_same], TyX.keeps hk3 _ _ hu⟩
        · have h1 : fa? (fx :: pick L pre) n = fa? (pick L pre) n := by simp [fa?, e]
          rw [h1, updF_other (fun h => e (keyN_inj h).symm)]
          rcases hc5.out n hn with h | ⟨e1, v1, q1, q2, q3⟩
          · exact .inl h
          · exact .inr ⟨e1, v1, q1, q2, TyX.keeps hk _ _ q3⟩
    clear c3 c4 c5 hck hxg ge gn hfx
    gi_wp2_with fail
    gi_region_with (refine ⟨trivial, callsIn_round (hput.out.mono ?_)⟩; rintro e V3 ⟨u, rfl, hu, hB3⟩; obtain ⟨ua, uc, rfl⟩ := hu.form; obtain ⟨q0, q1, q2, q3, q4⟩ := hkk.out V3 hB3; obtain ⟨W5, hrun, hM5, hg5⟩ := (hM.out.below (hW'.trans hB3) hM.out.lt).update K Tryz.underlying140 (by unfold maxLen; omega) hkey.out (val := .agg #[.string fx.ty.name, .int .i64 fx.ty.n, .slice ua fx.ty.args.length uc]))
    all_goals
      gi_wp2_with fail
      exact hend.out V3 W5 _ hu hB3 hM5 hg5
  case done =>
    rintro D xs W hD hys ⟨⟨f, c3, c4, c5⟩, hBR⟩ hKD
    rw [pick_all L xs hys] at c5
    have hBW := hb1'.out.trans (hBR.mono (by omega))
    have hzr := hBR.size
    have hmcc : W.cell? ⟨w.heap.size + 3, 0, none⟩ = some (.map (some (w.heap.size + 2))) := by simp [World.cell?, c3]
    have hput := Lib.hid (ty_with (.mk s n l) _ (fun c => X c ∨ c = w.heap.size + 1) (.map (some (w.heap.size + 2))) (fun n => fa? L n) W (TyX.later (KeepsBut.of_below hBW) (fun b hb h => h.elim id (fun h => by omega)) hv0.out)
      (.inr ⟨_, _, f, rfl, c4, fun n hn => c5 n hn⟩) (fun b h => h.elim (fun h => by have := hX b h; omega) (fun h => by omega)) (by have := hcnt.out; omega))
    obtain ⟨k0, k1, k2⟩ := hcells'.out _ (hBR.mono (by omega))
    have hDW : D < W.heap.size := (Array.getElem?_eq_some_iff.1 hKD).1
    clear c3 c4 c5
    gi_wp2_with fail
    refine ⟨trivial, callsIn_wide.2 (hput.out.mono ?_)⟩
    rintro e V3 ⟨u, rfl, hu, hB3⟩
    obtain ⟨ua, uc, rfl⟩ := hu.form
    have hu' := Lib.hid hu
    have hbr3 : Below (w.heap.size + 2) W1 V3 := hBR.trans (hB3.mono (by omega))
    have hwV3 := Lib.hid (hb1'.out.trans (hbr3.mono (by omega)))
    have hrr := Lib.hid (hres'.out V3 hbr3)
    obtain ⟨r0, r1, r2⟩ := cells_of hrr.out
    have rf0 := frozen_of hrr.out 0
    have rf1 := frozen_of hrr.out 1
    have rf2 := frozen_of hrr.out 2
    have hD3 := Lib.hid ((hB3.block _ hDW).trans hKD)
    clear hu
    generalize (withT (fun n => fa? L n) (.mk s n l)).name = us at hu' ⊢
    generalize (withT (fun n => fa? L n) (.mk s n l)).n = un at hu' ⊢
    generalize (withT (fun n => fa? L n) (.mk s n l)).args.length = um at hu' ⊢
    gi_wp2_with fail
    have hU := set_box3 hrr.out (.string us) (.int .i64 un) (.slice ua um uc)
    change bodyPostM _ _ _ _ _ _ _ (World.box3 V3 (w.heap.size + 1) (.string us) (.int .i64 un) (.slice ua um uc))
    have hDU : (World.box3 V3 (w.heap.size + 1) (.string us) (.int .i64 un) (.slice ua um uc)).heap[D]? = some (.deferred (some [])) := by
      unfold World.box3
      rw [Below.heap_setCell _ _ _ _ (by simp; omega), Below.heap_setCell _ _ _ _ (by simp; omega), Below.heap_setCell _ _ _ _ (by simp; omega)]
      exact hD3.out
    generalize World.box3 V3 (w.heap.size + 1) (.string us) (.int .i64 un) (.slice ua um uc) = U at hU hDU ⊢
    obtain ⟨⟨u0, u1, u2⟩, hBU, -, hUk⟩ := hU
    have hg := grownBy_putObj' U D (.deferred none)
    have hkp : Keeps U (U.putObj D (.deferred none)) := fun a v hv => cell_kept hv hg (fun r e => by cases e; exact ⟨_, hDU, rfl⟩)
    refine ⟨by simp, .inl ⟨_, _, rfl, run_takeDeferred hDU, ?_⟩⟩
    refine ⟨.agg #[.string us, .int .i64 un, .slice ua um uc], results_ty rfl _ _ rfl (hkp _ _ u0) (hkp _ _ u1) (hkp _ _ u2), _, rfl, ?_, ?_⟩
    · rw [hT.out]
      exact TyX.keeps hkp _ _ (ty_kept hu'.out hUk)
    · exact (hwV3.out.trans (hBU.mono (by omega))).grown hg (by have := hwV3.out.size; have := hBU.size; omega) (fun k e => by cases e; omega)
  case stop =>
    rintro D c pre W hD hpre hF hKD
    exact hF.elim
theorem ty_ApplyX (aL : Option Addr) (cL : Nat) (L : List Fa) (e : Ty) (v : Value) (w : World) (X : Nat → Prop) (hX : ∀ b, X b → b < w.heap.size) (hLl : L.length ≤ lenMax) (hL : FaRow X w aL L) (hv : TyX X w v e) : Calls Tryz.prog 53 #[.slice aL L.length cL, v] w fun r w' => ∃ u, r = .returned u ∧ TyX X w' u (applyT L e) ∧ Below w.heap.size w w' := by
  cases h : (chkT e && L.all goodF)
  · exact ty_Apply_not aL cL L e v w X hLl hL hv h
  · exact ty_Apply_is aL cL L e v w X hX hLl hL hv h
theorem ty_Apply (aL : Option Addr) (cL : Nat) (L : List Fa) (e : Ty) (v : Value) (w : World) (hLl : L.length ≤ lenMax) (hL : FaRow (fun _ => False) w aL L) (hv : IsTy w v e) : Calls Tryz.prog 53 #[.slice aL L.length cL, v] w fun r w' => ∃ u, r = .returned u ∧ IsTy w' u (applyT L e) ∧ Below w.heap.size w w' :=
  ty_ApplyX aL cL L e v w _ (fun _ h => h.elim) hLl hL hv
end Go.Proofs.YtnfclcfcpgfajaaGreatDoor

/- Lists of numbers: the library's IndexFunc, ContainsFunc, Contains. -/
namespace Go.Proofs.YtnfclcfcpgfajaaGreatDoor
open Go.RowKit Go.Shelf

/-- Numbers in a row. -/
def IntAt (w : World) (a : Option Addr) (l : List Int) : Prop := l ≠ [] → ∃ b off, a = some ⟨b, off, none⟩ ∧ ∀ i (h : i < l.length), w.cell? ⟨b, off + i, none⟩ = some (.int .i64 l[i])
theorem IntAt.keeps {w W : World} {a : Option Addr} {l : List Int} (h : IntAt w a l) (hk : Keeps w W) : IntAt W a l := fun hne => by
  obtain ⟨b, off, h1, h2⟩ := h hne
  exact ⟨b, off, h1, fun i hi => hk _ _ (h2 i hi)⟩
theorem range_get {n k : Nat} (h : k < (List.range n).length) : (List.range n)[k] = k := by simp

set_option maxHeartbeats 800000 in
theorem index_Int (a : Option Addr) (l : List Int) (cap g : Nat) (lb : Array Value) (p : Nat → Bool) (I : Nat → World → Prop) (w : World) (hl : l.length ≤ lenMax) (hr : ∀ k W, I k W → IntAt W a l) (h0 : I 0 w)
    (hp : ∀ k (hk : k < l.length) W, I k W → Calls Tryz.prog g (#[.int .i64 l[k]] ++ lb) W fun r W' => r = .returned (.bool (p k)) ∧ I (k + 1) W')
    (henter : ∀ args w, (callFunc g args).run Tryz.prog w = .ok (.enter g args) w) :
    Calls Tryz.prog 100 #[.slice a l.length cap, .func (.func g) #[] lb] w fun r w' => r = .returned (.int .i64 (idxI p (List.range l.length))) ∧ ∃ k, k ≤ l.length ∧ I k w' := by
  unfold lenMax at hl
  have hp' := Lib.hid hp
  have hr' := Lib.hid hr
  have h0' := Lib.hid h0
  clear hp hr h0
  go_enter Tryz.func100, Tryz.ntmps100
  go_wp2_with fail
  go_loopw [8] (fun i wr => ∃ k : Nat, k ≤ l.length ∧ i = .int .i64 k ∧ Hid (∀ j (hj : j < k), p j = false) ∧ Hid (I k wr)) (fun i _ => l.length - (intOf i).toNat)
  case atStart => exact ⟨0, by omega, rfl, fun j hj => by omega, h0'⟩
  case round =>
    obtain ⟨k, hk, rfl, hall, hI⟩ := hrel
    by_cases h1 : k < l.length
    · obtain ⟨b, off, rfl, harg⟩ := hr'.out k wr hI.out (by rintro rfl; simp at h1)
      have g0 := harg k h1
      have hcall := Lib.hid (hp'.out k h1 _ hI.out)
      clear harg
      cases h3 : p k
      · rw [h3] at hcall
        have h3' := Lib.hid h3
        clear h3
        go_wp2_with fail
        refine hcall.out.mono ?_
        rintro e w1 ⟨rfl, hI1⟩
        have hI1' := Lib.hid hI1
        clear hI1
        go_wp2_with fail
        go_roundw
        case rel => exact ⟨k + 1, by omega, by go_num, fun j hj => by
          rcases Nat.lt_or_ge j k with h | h
          · exact hall.out j h
          · obtain rfl : j = k := by omega
            exact h3'.out, hI1'⟩
        case measure => simp [intOf]; omega
      · rw [h3] at hcall
        have h3' := Lib.hid h3
        clear h3
        go_wp2_with fail
        refine hcall.out.mono ?_
        rintro e w1 ⟨rfl, hI1⟩
        have hI1' := Lib.hid hI1
        clear hI1
        go_wp2_with fail
        go_ret
        refine ⟨ret_int (idxI_at (l := List.range l.length) (k := k) (by simpa using h1) (fun j hj => by rw [range_get]; exact hall.out j hj) (by rw [range_get]; exact h3'.out)).symm, k + 1, by omega, hI1'.out⟩
    · go_wp2_with fail
      go_ret
      exact ⟨ret_int (idxI_none fun j hj => by rw [range_get]; exact hall.out j (by simp at hj; omega)).symm, k, hk, hI.out⟩

theorem contains_Int (a : Option Addr) (l : List Int) (cap g : Nat) (lb : Array Value) (p : Nat → Bool) (I : Nat → World → Prop) (w : World) (hl : l.length ≤ lenMax) (hr : ∀ k W, I k W → IntAt W a l) (h0 : I 0 w)
    (hp : ∀ k (hk : k < l.length) W, I k W → Calls Tryz.prog g (#[.int .i64 l[k]] ++ lb) W fun r W' => r = .returned (.bool (p k)) ∧ I (k + 1) W')
    (henter : ∀ args w, (callFunc g args).run Tryz.prog w = .ok (.enter g args) w) :
    Calls Tryz.prog 58 #[.slice a l.length cap, .func (.func g) #[] lb] w fun r w' => r = .returned (.bool ((List.range l.length).any p)) ∧ ∃ k, k ≤ l.length ∧ I k w' := by
  have h := Lib.hid (index_Int a l cap g lb p I w hl hr h0 hp henter)
  clear hp hr h0
  go_enter Tryz.func58, Tryz.ntmps58
  go_wp2_with fail
  refine h.out.mono ?_
  rintro e w1 ⟨rfl, hI⟩
  have hI' := Lib.hid hI
  clear hI
  go_wp2_with fail
  go_ret
  exact ⟨ret_bool (idxI_any p _), hI'.out⟩

set_option maxHeartbeats 800000 in
/-- The place of a number. -/
theorem index_num (a : Option Addr) (l : List Int) (cap : Nat) (n : Int) (w : World) (hl : l.length ≤ lenMax) (hr : IntAt w a l) :
    Calls Tryz.prog 107 #[.slice a l.length cap, .int .i64 n] w fun r w' => r = .returned (.int .i64 (idxI (fun x => decide (n = x)) l)) ∧ w' = w := by
  unfold lenMax at hl
  have hr' := Lib.hid hr
  clear hr
  go_enter Tryz.func107, Tryz.ntmps107
  go_wp2_with fail
  go_loopw [8] (fun i wr => ∃ k : Nat, k ≤ l.length ∧ i = .int .i64 k ∧ Hid (∀ j (hj : j < k) (h : j < l.length), decide (n = l[j]) = false) ∧ wr = w) (fun i _ => l.length - (intOf i).toNat)
  case atStart => exact ⟨0, by omega, rfl, fun j hj => by omega, rfl⟩
  case round =>
    obtain ⟨k, hk, rfl, hall, rfl⟩ := hrel
    by_cases h1 : k < l.length
    · obtain ⟨b, off, rfl, harg⟩ := hr'.out (by rintro rfl; simp at h1)
      have g0 := harg k h1
      clear harg
      by_cases h3 : n = l[k]
      · have h3' := Lib.hid h3
        clear h3
        obtain ⟨y, hy⟩ : ∃ y, l[k] = y := ⟨_, rfl⟩
        have hny : n = y := h3'.out.trans hy
        rw [hy] at g0
        subst hny
        go_wp2_with fail
        go_ret
        exact ⟨ret_int (idxI_at h1 (fun j hj => hall.out j hj (by omega)) (decide_eq_true hy.symm)).symm, rfl⟩
      · obtain ⟨y, hy⟩ : ∃ y, l[k] = y := ⟨_, rfl⟩
        rw [hy] at g0 h3
        go_wp2_with fail
        go_roundw
        case rel => exact ⟨k + 1, by omega, by go_num, fun j hj h => by
          rcases Nat.lt_or_ge j k with h' | h'
          · exact hall.out j h' h
          · obtain rfl : j = k := by omega
            rw [hy]
            exact decide_eq_false h3, trivial⟩
        case measure => simp [intOf]; omega
    · go_wp2_with fail
      go_ret
      exact ⟨ret_int (idxI_none fun j hj => hall.out j (by omega) hj).symm, rfl⟩
theorem contains_num (a : Option Addr) (l : List Int) (cap : Nat) (n : Int) (w : World) (hl : l.length ≤ lenMax) (hr : IntAt w a l) :
    Calls Tryz.prog 61 #[.slice a l.length cap, .int .i64 n] w fun r w' => r = .returned (.bool (decide (n ∈ l))) ∧ w' = w := by
  have h := Lib.hid (index_num a l cap n w hl hr)
  clear hr
  go_enter Tryz.func61, Tryz.ntmps61
  go_wp2_with fail
  refine h.out.mono ?_
  rintro e w1 ⟨rfl, rfl⟩
  go_wp2_with fail
  go_ret
  refine ⟨ret_bool ((idxI_any _ l).trans ?_), rfl⟩
  rw [Bool.eq_iff_iff, List.any_eq_true, decide_eq_true_iff]
  constructor
  · rintro ⟨x, h1, h2⟩
    rw [of_decide_eq_true h2]
    exact h1
  · exact fun h => ⟨n, h, decide_eq_true rfl⟩
end Go.Proofs.YtnfclcfcpgfajaaGreatDoor
