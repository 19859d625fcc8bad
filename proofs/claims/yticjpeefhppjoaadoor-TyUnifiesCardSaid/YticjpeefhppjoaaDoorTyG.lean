/- A type's holes by the program. -/
import Derived.Test.YticjpeefhppjoaaDoorTyE
import Derived.Test.YticjpeefhppjoaaDoorTyH
import Derived.Test.YticjpeefhppjoaaDoorTyW
import Derived.Maps.OwnIn
namespace Go.Proofs.YticjpeefhppjoaaDoor
open Go.RowKit Go.Shelf
attribute [local go_sem] Oper.semAt_some

theorem holes_fold : ∀ (e : Ty) (l : List Int), holesT e l = (allT e).foldl addI l := by
  refine Ty.ind fun s n args ih l => ?_
  have hL : ∀ (r : List Ty) (l : List Int), (∀ e ∈ r, e ∈ args) → holesT.holesL r l = (allT.allL r).foldl addI l := by
    intro r
    induction r with
    | nil => intro l _; rfl
    | cons e r ihr =>
      intro l hm
      simp only [holesT.holesL, allT.allL, List.foldl_append]
      rw [← ih e (hm e (by simp)), ihr _ (fun x hx => hm x (by simp [hx]))]
  unfold holesT allT
  by_cases h : holeS s = true
  · rw [if_pos h, if_pos h]; rfl
  · rw [if_neg h, if_neg h, hL args l (fun _ h => h)]

/-- What was there, each once. -/
def onceL (l : List Int) : List Int := l.foldl addI []
theorem onceL_snoc (l : List Int) (n : Int) : onceL (l ++ [n]) = addI (onceL l) n := by simp [onceL]
theorem addI_mem {l : List Int} {n m : Int} : m ∈ addI l n ↔ m ∈ l ∨ m = n := by
  unfold addI
  by_cases h : n ∈ l
  · rw [if_pos h]
    exact ⟨.inl, fun h' => h'.elim id fun e => e ▸ h⟩
  · rw [if_neg h]; simp
theorem foldl_addI_mem (l : List Int) : ∀ (a : List Int) (m : Int), m ∈ l.foldl addI a ↔ m ∈ a ∨ m ∈ l := by
  induction l with
  | nil => intro a m; simp
  | cons x r ih =>
    intro a m
    rw [List.foldl_cons, ih, addI_mem, List.mem_cons]
    constructor
    · rintro ((h | h) | h)
      · exact .inl h
      · exact .inr (.inl h)
      · exact .inr (.inr h)
    · rintro (h | h | h)
      · exact .inl (.inl h)
      · exact .inl (.inr h)
      · exact .inr h
theorem onceL_mem (l : List Int) (m : Int) : m ∈ onceL l ↔ m ∈ l := by unfold onceL; rw [foldl_addI_mem]; simp
theorem onceL_len (l : List Int) : (onceL l).length ≤ l.length := by
  have : ∀ (l a : List Int), (l.foldl addI a).length ≤ a.length + l.length := by
    intro l
    induction l with
    | nil => intro a; simp
    | cons x r ih => intro a; have h1 := ih (addI a x); have h2 := addI_len a x; simp only [List.foldl_cons, List.length_cons]; omega
  have h := this l []
  simp only [List.length_nil, Nat.zero_add] at h
  exact h
theorem allT_len : ∀ e : Ty, (allT e).length ≤ tcnt e := by
  refine Ty.ind fun s n args ih => ?_
  have hL : ∀ (r : List Ty), (∀ e ∈ r, e ∈ args) → (allT.allL r).length ≤ tcnt.cntL r := by
    intro r
    induction r with
    | nil => intro _; simp [allT.allL]
    | cons e r ihr =>
      intro hm
      have h1 := ih e (hm e (by simp))
      have h2 := ihr (fun x hx => hm x (by simp [hx]))
      simp only [allT.allL, tcnt.cntL, List.length_append]; omega
  unfold allT
  simp only [tcnt]
  split
  · simp
  · have := hL args (fun _ h => h); omega

/-- What 'Holes' has at the round's start: the list under way, what it has seen. -/
def HoI (rc mb mc S0 : Nat) (pre : List N64) (W : World) : Prop :=
  ∃ (ov : Value) (f : Lit → Option Value), W.heap[rc]? = some (.cells #[ov] 27 (0, 0)) ∧ W.ownsRow S0 3 1 ov (onceL (pre.map (·.1))).length ((onceL (pre.map (·.1))).map (Value.int .i64)) ∧
    W.heap[mc]? = some (.cells #[.map (some mb)] 50 (0, 0)) ∧ MapOf Tryd.prog W 3 mb pre.length f ∧ (∀ n, In64 n → f (keyN n) = if n ∈ pre.map (·.1) then some (.bool true) else none) ∧ (pre = [] → ov = .slice none 0 0)

theorem HoI.own {rc mb mc S0 : Nat} (h1 : rc < S0) (h2 : mb < S0) (h3 : mc < S0) : OwnFrom S0 (HoI rc mb mc S0) := by
  rintro pre A B row ⟨ov, f, c1, c2, c3, c4, c5, c6⟩ hg hr
  have hk : ∀ i o, A.heap[i]? = some o → (i < S0 ∨ o.isCells = true) → B.heap[i]? = some o := by
    intro i o hi ho
    refine (hg.block i (Array.getElem?_eq_some_iff.1 hi).1 ?_).trans hi
    intro e
    obtain ⟨h5, o', h6, h7⟩ := hr i e.symm
    rw [hi] at h6
    cases h6
    rcases ho with h | h
    · omega
    · rw [h] at h7; cases h7
  refine ⟨ov, f, hk _ _ c1 (.inl h1), ?_, hk _ _ c3 (.inl h3), ?_, c5, c6⟩
  · obtain ⟨q1, q2 | ⟨g, cap, cur, hv, hb, hh, r⟩⟩ := c2
    · exact ⟨q1, .inl q2⟩
    · exact ⟨q1, .inr ⟨g, cap, cur, hv, hb, hk _ _ hh (.inr rfl), r⟩⟩
  · obtain ⟨D, ⟨es, clock, b1, b2, b3, b4⟩, b5⟩ := c4
    exact ⟨D, ⟨es, clock, hk _ _ b1 (.inl h2), b2, b3, b4⟩, b5⟩
theorem HoI.below {rc mb mc S0 : Nat} {pre : List N64} {W W' : World} (h : HoI rc mb mc S0 pre W) (hb : Below W.heap.size W W') : HoI rc mb mc S0 pre W' := by
  obtain ⟨ov, f, c1, c2, c3, c4, c5, c6⟩ := h
  have hk : ∀ i o, W.heap[i]? = some o → W'.heap[i]? = some o := fun i o hi => (hb.block i (Array.getElem?_eq_some_iff.1 hi).1).trans hi
  exact ⟨ov, f, hk _ _ c1, ownsRow_heap c2 (fun g hg => hb.block g (ownBlock_ge c2 hg).2), hk _ _ c3, c4.below hb c4.lt, c5, c6⟩

/-- 'm[k] = v' at the operation, within a fence. -/
theorem wpListIn_put {F : Fence} {nF : Nat} {P : Program} (w : World) {ops : Array Oper} {rest : List Oper} {o : Oper} {a : Act} {Q : Exit → Act → World → Prop}
    (hg : o.guard = none) (m x v : Operand) (t : TypeId) (hop : o.op = Op.mapUpdate t m x v)
    (k e : TypeId) (K : Maps.Keyed P k) (ht : P.underlying t = some (.map k e)) (b n : Nat) (f : Lit → Option Value)
    (hm : a.eval m = .map (some b)) (hown : MapOf P w k b n f) (hn : n < maxLen) (key val : Value) (kl : Lit) (hx : a.eval x = key) (hv : a.eval v = val) (hkey : keyOf P k key = some kl)
    (hK : ∀ w', MapOf P w' k b (n + 1) (updF f kl val) → w.grownBy w' (some b) → wpListIn F nF P ops Q rest (a.put o.dst undef) w') :
    wpListIn F nF P ops Q (o :: rest) a w := by
  refine wpListIn_plain hg fun K' hK' => ?_
  obtain ⟨w', hrun, r1, r2⟩ := hown.update K ht hn hkey (val := val)
  unfold Oper.wpIn
  refine ⟨by simp [Oper.about, hop], ?_⟩
  rw [Oper.semAt_plain F _ _ (by rw [hop]; intro c hc'; cases hc')]
  simp [execOp, hop, hm, hx, hv, hrun, Result.andThen]
  exact hK' _ _ (hK w' r1 r2)
theorem MapOf.at {P : Program} {w w' : World} {k : TypeId} {b n : Nat} {f : Lit → Option Value} (h : MapOf P w k b n f) (hk : w'.heap[b]? = w.heap[b]?) : MapOf P w' k b n f := by
  obtain ⟨D, ⟨es, clock, h1, h2, h3, h4⟩, h5⟩ := h
  exact ⟨D, ⟨es, clock, hk.trans h1, h2, h3, h4⟩, h5⟩
/-- What 'seen' tells behind one more. -/
theorem seen_step {f : Lit → Option Value} {pre : List N64} (h : ∀ n, In64 n → f (keyN n) = if n ∈ pre.map (·.1) then some (.bool true) else none) (x : N64) :
    ∀ n, In64 n → updF f (keyN x.1) (.bool true) (keyN n) = if n ∈ (pre ++ [x]).map (·.1) then some (.bool true) else none := by
  intro n hn
  by_cases e : n = x.1
  · subst e; rw [updF_same, if_pos (by simp)]
  · rw [updF_other (fun h' => e (keyN_inj h')), h n hn]
    by_cases h1 : n ∈ pre.map (·.1)
    · rw [if_pos h1, if_pos (by rw [List.map_append]; exact List.mem_append_left _ h1)]
    · rw [if_neg h1, if_neg]
      rw [List.map_append, List.mem_append]
      rintro (h2 | h2)
      · exact h1 h2
      · simp at h2; exact e h2

theorem ty_Holes_not (e : Ty) (v : Value) (w : World) (hv : IsTy w v e) (hc : chkT e = false) : Calls Tryd.prog 13 #[v] w fun r w' => (∃ z, r = .returned z ∧ IntSl w' z (holesC e)) ∧ Below w.heap.size w w' := by
  have hv0 := hv
  obtain ⟨s, n, l⟩ := e
  obtain ⟨a1, c1, rfl, _⟩ := hv.open
  have hT : Hid (holesC (.mk s n l) = []) := by unfold Hid holesC; rw [if_neg (by rw [hc]; simp)]
  obtain ⟨W1, hW1⟩ : ∃ W, (w.alloc (.cells #[.string s, .int .i64 n, .slice a1 l.length c1] 24)).alloc (.cells #[.slice none 0 0] 27) = W := ⟨_, rfl⟩
  have hb1 : Below w.heap.size w W1 := by rw [← hW1]; exact ((Below.refl _ w).alloc (Nat.le_refl _) _).alloc (by simp) _
  have hz1 : W1.heap.size = w.heap.size + 2 := by rw [← hW1]; simp
  have hchk := Lib.hid (ty_Check _ _ W1 (hv0.below hb1))
  rw [hc] at hchk
  have hcell : Hid (∀ U, Below (w.heap.size + 2) W1 U → U.heap[w.heap.size + 1]? = some (.cells #[.slice none 0 0] 27 (0, 0))) := by
    intro U hU
    rw [← hW1] at hU
    exact new_block2 hU
  have hW1' := Lib.hid hW1
  have hb1' := Lib.hid hb1
  clear hv hv0 hc hW1 hb1
  go_enter Tryd.func13, Tryd.ntmps13
  go_wp2_with fail
  rw [hW1'.out]
  refine hchk.out.mono ?_
  rintro r V ⟨rfl, hB⟩
  have hblk := hcell.out V (hB.mono (by omega))
  have r0 : V.cell? ⟨w.heap.size + 1, 0, none⟩ = some (.slice none 0 0) := by simp [World.cell?, hblk]
  have r1 : V.frozen? ⟨w.heap.size + 1, 0, none⟩ = false := by simp [World.frozen?, hblk]
  have hwV := hb1'.out.trans (hB.mono (by omega))
  go_wp2_with fail
  have hc1 : (V.setCell ⟨w.heap.size + 1, 0, none⟩ (.slice none 0 0)).cell? ⟨w.heap.size + 1, 0, none⟩ = some (.slice none 0 0) := World.cell?_setCell_same' _ _ _ (by rw [r0]; rfl)
  refine bodyPost_ret (v := .slice none 0 0) (by simp [results, Tryd.results13, go_sem, hc1]) rfl ⟨⟨_, rfl, by rw [hT.out]; exact .inl ⟨rfl, rfl⟩⟩, ?_⟩
  exact hwV.setCell (by simp) _

set_option maxHeartbeats 2000000 in
set_option maxRecDepth 100000 in
theorem ty_Holes_is (e : Ty) (v : Value) (w : World) (hv : IsTy w v e) (hc : chkT e = true) : Calls Tryd.prog 13 #[v] w fun r w' => (∃ z, r = .returned z ∧ IntSl w' z (holesC e)) ∧ Below w.heap.size w w' := by
  have hv0 := Lib.hid hv
  obtain ⟨s, n, l⟩ := e
  obtain ⟨a1, c1, rfl, _⟩ := hv.open
  have hT : Hid (holesC (.mk s n l) = onceL (allT (.mk s n l))) := by unfold Hid holesC; rw [if_pos hc, holes_fold]; rfl
  have hlen : Hid ((allT (.mk s n l)).length ≤ 2000) := by have := allT_len (.mk s n l); have := chk_cnt hc; unfold Hid; omega
  obtain ⟨W1, hW1⟩ : ∃ W, (w.alloc (.cells #[.string s, .int .i64 n, .slice a1 l.length c1] 24)).alloc (.cells #[.slice none 0 0] 27) = W := ⟨_, rfl⟩
  have hb1 : Below w.heap.size w W1 := by rw [← hW1]; exact ((Below.refl _ w).alloc (Nat.le_refl _) _).alloc (by simp) _
  have hz1 : W1.heap.size = w.heap.size + 2 := by rw [← hW1]; simp
  have hchk := Lib.hid (ty_Check _ _ W1 (hv0.out.below hb1))
  rw [hc] at hchk
  have hcell : Hid (∀ U, Below (w.heap.size + 2) W1 U → U.heap[w.heap.size + 1]? = some (.cells #[.slice none 0 0] 27 (0, 0))) := by
    intro U hU
    rw [← hW1] at hU
    exact new_block2 hU
  have hcells' : Hid (∀ V, Below (w.heap.size + 1) W1 V → V.cell? ⟨w.heap.size, 0, none⟩ = some (.string s) ∧ V.cell? ⟨w.heap.size, 1, none⟩ = some (.int .i64 n) ∧ V.cell? ⟨w.heap.size, 2, none⟩ = some (.slice a1 l.length c1)) := by
    intro V hV
    have g1 : Below (w.heap.size + 1) (w.alloc (.cells #[.string s, .int .i64 n, .slice a1 l.length c1] 24)) W1 := by rw [← hW1]; exact (Below.refl _ _).alloc (by simp) _
    exact box3 (g1.trans hV)
  have hW1' := Lib.hid hW1
  have hb1' := Lib.hid hb1
  have hdd : ∀ k : Nat, (Fence.wide.depth.isSome = true → 1 ≤ k) := fun k h => by cases h
  have hmm := @run_makeMap Tryd.prog
  obtain ⟨k0, k1, k2⟩ := hcells'.out W1 (Below.refl _ _)
  clear hv hc hW1 hb1
  refine (callsIn_wide (n := 6)).1 ?_
  refine callsIn_of_wp_marks Tryd.func13 rfl trivial ?_
  simp only [Tryd.ntmps13, List.size_toArray, List.length_cons, List.length_nil, Nat.reduceAdd, Nat.reduceSub, Array.replicate_succ, Array.replicate_zero, List.push_toArray, List.append_toArray, List.nil_append, List.cons_append]
  gi_wp2_with fail
  rw [hW1'.out]
  refine ⟨trivial, callsIn_wide.2 (hchk.out.mono ?_)⟩
  rintro r V ⟨rfl, hBV⟩
  have hbV : Below (w.heap.size + 2) W1 V := hBV.mono (by omega)
  clear k0 k1 k2
  obtain ⟨k0, k1, k2⟩ := hcells'.out V (hbV.mono (by omega))
  have hvl : w.heap.size + 2 ≤ V.heap.size := by have := hBV.size; omega
  have hvl1 : w.heap.size < V.heap.size := by omega
  gi_wp2_with fail
  refine ⟨trivial, callsIn_wide.2 ((ty_all _ _ _ _).mono ?_)⟩
  rintro r V2 ⟨rfl, hV2⟩
  gi_wp2_with fail
  have hb2 : Below V.heap.size V V2 := by rw [hV2]; exact (((Below.refl _ V).alloc (Nat.le_refl _) _).alloc (by simp) _).alloc (by simp <;> omega) _
  have hz2 : V.heap.size + 3 ≤ V2.heap.size := by rw [hV2]; simp
  have hmap : MapOf Tryd.prog V2 3 V.heap.size 0 (fun _ => none) := by
    rw [hV2]
    refine (MapOf.made Tryd.prog V 3).below (B := V.heap.size + 1) ?_ (by omega)
    exact ((Below.refl _ (V.alloc (.map #[] 0))).alloc (by simp) _).alloc (by simp) _
  have hmc : V2.heap[V.heap.size + 1]? = some (.cells #[.map (some V.heap.size)] 50 (0, 0)) := by
    rw [hV2]
    refine new_block2 (w := V) (o := .map #[] 0) ?_
    exact (Below.refl _ _).alloc (by simp) _
  have htb : ∀ W, Below V2.heap.size V2 W → W.cell? ⟨V.heap.size + 1 + 1, 0, none⟩ = some (.string s) ∧ W.cell? ⟨V.heap.size + 1 + 1, 1, none⟩ = some (.int .i64 n) ∧ W.cell? ⟨V.heap.size + 1 + 1, 2, none⟩ = some (.slice a1 l.length c1) := by
    intro W hW
    have h3 := box3 (w := (V.alloc (.map #[] 0)).alloc (.cells #[.map (some V.heap.size)] 50)) (wr := W) (v0 := .string s) (v1 := .int .i64 n) (v2 := .slice a1 l.length c1) (t := 24) (by rw [hV2] at hW; exact hW.mono (by simp))
    simpa using h3
  have hrc : V2.heap[w.heap.size + 1]? = some (.cells #[.slice none 0 0] 27 (0, 0)) := hcell.out V2 (hbV.trans (hb2.mono (by omega)))
  have hwV2 : Below w.heap.size w V2 := hb1'.out.trans ((hbV.mono (by omega)).trans (hb2.mono (by omega)))
  rw [← hV2]
  have h0 : HoI (w.heap.size + 1) V.heap.size (V.heap.size + 1) V2.heap.size [] V2 ∧ Below w.heap.size w V2 := ⟨⟨.slice none 0 0, fun _ => none, hrc, ⟨rfl, .inl ⟨rfl, rfl⟩⟩, hmc, hmap, fun n _ => by simp, fun _ => rfl⟩, hwV2⟩
  clear hV2 hmap hmc hrc k0 k1 k2 hmm
  refine wpIn_rangeFunc_ownH (F := Fence.wide) rfl (by omega) (gf := 50) (lb := #[.pointer (some ⟨V.heap.size + 1 + 1, 0, none⟩)]) rfl trivial (enters_of Tryd.func50 (by kernel_rfl) rfl)
    (all_stops w _ (fun b => w.heap.size ≤ b) _ _ hv0.out V2 (V.heap.size + 1 + 1) (fun _ h => h) (fun W hW => Below.keepsBut (hwV2.trans (hW.mono (by omega)))) (fun W hW => ⟨_, _, _, rfl, htb W hW⟩))
    (fun h k => h.trans k) (fun W l o o' hl h ho _ => ⟨by simp [World.putObj], fun a v _ hv => cell_kept hv (grownBy_putObj' W l o') (fun r e => by cases e; exact ⟨o, h, ho⟩)⟩) (Below.refl _ _) (fun _ => rfl)
    (fun pre W => HoI (w.heap.size + 1) V.heap.size (V.heap.size + 1) V2.heap.size pre W ∧ Below w.heap.size w W)
    (fun _ _ _ => False)
    (OwnFrom.and (HoI.own (by omega) (by omega) (by omega)) (ownFrom_below (Nat.le_refl _) (by omega)))
    (fun c => fun _ _ _ _ h _ _ => h)
    h0
    (fun x a' _ => ∃ (u0 u5 u6 u7 u8 u9 u10 u11 u12 u13 u14 u15 u16 u17 u18 u19 u20 u21 u22 : Value), a' = { tmps := #[u0, .pointer (some ⟨w.heap.size, 0, none⟩), .pointer (some ⟨w.heap.size + 1, 0, none⟩), .pointer (some ⟨V.heap.size + 1, 0, none⟩), .int .i64 x.1, u5, u6, u7, u8, u9, u10, u11, u12, u13, u14, u15, u16, u17, u18, u19, u20, u21, u22], defers := [] })
    (fun x a' _ _ _ _ hs _ _ => hs)
    ?assign ?body ?done ?stop
  case assign =>
    rintro l' pre x W K hI hK
    gi_wp2
    exact hK _ _ (KeepsFrom.refl _ _) (KeepsBut.refl _ _) hI ⟨_, _, _, _, _, _, _, _, _, _, _, _, _, _, _, _, _, _, _, rfl⟩
  case body =>
    rintro l' pre ⟨x, hx⟩ a' W hl' hr' ⟨⟨ov, f, c1, c2, c3, c4, c5, c6⟩, hBW⟩ ⟨u0, u5, u6, u7, u8, u9, u10, u11, u12, u13, u14, u15, u16, u17, u18, u19, u20, u21, u22, rfl⟩ hpl
    obtain ⟨oa, oc, rfl, _⟩ := ownsRow_form c2
    have K : Maps.Keyed Tryd.prog 3 := Maps.int_keyed Tryd.underlying3
    have hkey := Lib.hid (keyN_of hx)
    have hlook := c4.look K Tryd.underlying50 (z := .bool false) (by kernel_rfl) hkey.out
    rw [c5 x hx] at hlook
    have hmcc : W.cell? ⟨V.heap.size + 1, 0, none⟩ = some (.map (some V.heap.size)) := by simp [World.cell?, c3]
    have hrcc : W.cell? ⟨w.heap.size + 1, 0, none⟩ = some (.slice oa (onceL (pre.map (·.1))).length oc) := by simp [World.cell?, c1]
    have hSW : V2.heap.size ≤ W.heap.size := by
      obtain ⟨r, hr⟩ := hr'
      have := (Array.getElem?_eq_some_iff.1 hr).1
      omega
    have hpn : pre.length < 2001 := by have := hlen.out; omega
    have hM' := Lib.hid c4
    have hc1 := Lib.hid c1
    have hc2 := Lib.hid c2
    have hc3 := Lib.hid c3
    have hc5 := Lib.hid c5
    have hseen := Lib.hid (seen_step c5 ⟨x, hx⟩)
    have hone : Hid (onceL ((pre ++ [(⟨x, hx⟩ : N64)]).map (·.1)) = addI (onceL (pre.map (·.1))) x) := by unfold Hid; rw [List.map_append]; exact onceL_snoc _ _
    have hol : (onceL (pre.map (·.1))).length ≤ 2001 := by have := onceL_len (pre.map (·.1)); rw [List.length_map] at this; omega
    have hne : Hid (pre ++ [(⟨x, hx⟩ : N64)] ≠ []) := by unfold Hid; simp
    clear c1 c2 c3 c4 c5 c6
    by_cases hin : x ∈ pre.map (·.1)
    · rw [if_pos hin] at hlook
      simp only [Option.getD_some] at hlook
      have hsame : Hid (onceL ((pre ++ [(⟨x, hx⟩ : N64)]).map (·.1)) = onceL (pre.map (·.1))) := by
        unfold Hid; rw [hone.out, addI, if_pos ((onceL_mem _ _).2 hin)]
      clear hin
      gi_wp2_with (refine wpListIn_put _ rfl _ _ _ 50 rfl 3 4 K Tryd.underlying50 V.heap.size pre.length f rfl hM'.out (by unfold maxLen; omega) (.int .i64 x) (.bool true) (keyN x) rfl rfl hkey.out ?_; intro W5 hM5 hg5)
      have hB5 : Below w.heap.size W W5 := (Below.refl _ W).grown hg5 (by have := hBW.size; omega) (fun k e => by cases e; omega)
      have hbl : ∀ i o, i ≠ V.heap.size → W.heap[i]? = some o → W5.heap[i]? = some o := fun i o hi ho => (hg5.block i (Array.getElem?_eq_some_iff.1 ho).1 (fun e => hi (by cases e; rfl))).trans ho
      refine ⟨KeepsFrom.of_grownBy hg5 (fun j e => by cases e; omega), Below.keepsBut hB5, ⟨_, _, hbl _ _ (by omega) hc1.out, ?_, hbl _ _ (by omega) hc3.out, ?_, hseen.out, fun h => (hne.out h).elim⟩, hBW.trans hB5⟩
      · rw [hsame.out]
        exact ownsRow_heap hc2.out fun g hg => by
          have := ownBlock_ge hc2.out hg
          exact hg5.block g this.2 (fun e => by cases e; omega)
      · rw [List.length_append]; exact hM5
    · rw [if_neg hin] at hlook
      simp only [Option.getD_none] at hlook
      have hnew : Hid (onceL ((pre ++ [(⟨x, hx⟩ : N64)]).map (·.1)) = onceL (pre.map (·.1)) ++ [x]) := by
        unfold Hid; rw [hone.out, addI, if_neg (fun h => hin ((onceL_mem _ _).1 h))]
      clear hin
      obtain ⟨i0, hi, hz0, hz1', hz2'⟩ := info_of Tryd.infoInt
      obtain ⟨L, hL⟩ : ∃ L, onceL (pre.map (·.1)) = L := ⟨_, rfl⟩
      rw [hL] at hnew hc1 hc2 hol hrcc
      simp only [hL]
      have hrcf : W.frozen? ⟨w.heap.size + 1, 0, none⟩ = false := by have := hc1.out; simp [World.frozen?, this]
      clear hone hL
      gi_wp2_with (first
        | (refine wpListIn_append_own_at _ rfl _ _ 27 rfl V2.heap.size 3 i0 (.int .i64 0) 1 8 Tryd.underlying27 hi hz0 hz1' hz2' rfl (by decide) _ _ _ rfl (hc2.out.alloc _) ⟨W.heap.size, 0, none⟩ 1 1 [.int .i64 x] rfl rfl (cell_one_new _ _ _) (by simp [Value.oneCell']) (by unfold maxLen; omega) (by omega) (by simp <;> omega) ?_; intro v2 w3 hown2 hg2 _ _; obtain ⟨va, vc, rfl, _⟩ := ownsRow_form hown2; have hown2' := Lib.hid hown2; have hgr := Lib.hid hg2; have hbk : Hid (∀ i o, i < V2.heap.size → W.heap[i]? = some o → w3.heap[i]? = some o) := fun i o hi ho => (hgr.out.block i (by simp; omega) (fun e => by have := (ownBlock_ge hc2.out e.symm).1; omega)).trans ((Below.heap_alloc W _ i (by omega)).trans ho); have q0 : w3.cell? ⟨w.heap.size + 1, 0, none⟩ = some (.slice oa L.length oc) := (by have := hbk.out _ _ (by omega) hc1.out; simp [World.cell?, this]); have q1 : w3.frozen? ⟨w.heap.size + 1, 0, none⟩ = false := (by have := hbk.out _ _ (by omega) hc1.out; simp [World.frozen?, this]); have q2 : (w3.setCell ⟨w.heap.size + 1, 0, none⟩ (.slice va (L.length + 1) vc)).cell? ⟨V.heap.size + 1, 0, none⟩ = some (.map (some V.heap.size)) := (by rw [World.cell?_of_block (Below.heap_setCell _ _ _ _ (by simp; omega))]; have := hbk.out _ _ (by omega) hc3.out; simp [World.cell?, this]); have hM4 := Lib.hid (hM'.out.at (w' := w3.setCell ⟨w.heap.size + 1, 0, none⟩ (.slice va (L.length + 1) vc)) (by rw [Below.heap_setCell _ _ _ _ (by simp; omega)]; obtain ⟨_, ⟨es, clock, b1, _⟩, _⟩ := hM'.out; rw [b1]; exact hbk.out _ _ (by omega) b1)); clear hown2 hg2)
        | (refine wpListIn_put _ rfl _ _ _ 50 rfl 3 4 K Tryd.underlying50 V.heap.size pre.length f rfl hM4.out (by unfold maxLen; omega) (.int .i64 x) (.bool true) (keyN x) rfl rfl hkey.out ?_; intro W5 hM5 hg5))
      have hB3 : Below w.heap.size W w3 := ((Below.refl w.heap.size W).alloc hBW.size _).grown hgr.out (by have := hBW.size; simp; omega) (fun k e => by have := (ownBlock_ge hc2.out e).1; have := hwV2.size; omega)
      have hB5 : Below w.heap.size W W5 := (hB3.setCell (by simp) _).grown hg5 (by have := hB3.size; have := hBW.size; simp [World.setCell]; omega) (fun k e => by cases e; omega)
      have hk5 : ∀ i o, i ≠ V.heap.size → (w3.setCell ⟨w.heap.size + 1, 0, none⟩ (.slice va (L.length + 1) vc)).heap[i]? = some o → W5.heap[i]? = some o := fun i o hi ho => (hg5.block i (Array.getElem?_eq_some_iff.1 ho).1 (fun e => hi (by cases e; rfl))).trans ho
      have hrow : ∀ (j : Nat) (o : Obj), (Value.slice oa L.length oc).ownBlock = some j → (W.alloc (.cells #[.int .i64 x] 3)).heap[j]? = some o → o.isCells = true := by
        intro j o e ho
        obtain ⟨_, q | ⟨g', cap, cur, hv, _, hh, _⟩⟩ := hc2.out
        · rw [q.1] at e; cases e
        · rw [hv] at e
          simp only [Value.ownBlock, Option.some.injEq] at e
          subst e
          rw [Below.heap_alloc W _ _ (Array.getElem?_eq_some_iff.1 hh).1, hh] at ho
          cases ho; rfl
      refine ⟨((((KeepsOthers.alloc W _).trans (KeepsOthers.of_grownBy hgr.out hrow)).trans (KeepsOthers.setCell _ _ _)).from _).trans (KeepsFrom.of_grownBy hg5 (fun j e => by cases e; omega)), Below.keepsBut hB5, ⟨.slice va (L.length + 1) vc, _, hk5 _ _ (by omega) ?_, ?_, hk5 _ _ (by omega) ?_, ?_, hseen.out, fun h => (hne.out h).elim⟩, hBW.trans hB5⟩
      · have h3 := hbk.out _ _ (by omega) hc1.out
        simp [World.setCell, Array.getElem?_modify, h3]
      · rw [hnew.out, List.length_append, List.map_append]
        refine ownsRow_heap hown2'.out fun g hg => ?_
        have h6 := ownBlock_ge hown2'.out hg
        rw [hg5.block g (by simp [World.setCell]; exact h6.2) (fun e => by cases e; omega)]
        exact Below.heap_setCell _ _ _ _ (by simp; omega)
      · rw [Below.heap_setCell _ _ _ _ (by simp; omega)]
        exact hbk.out _ _ (by omega) hc3.out
      · rw [List.length_append]; exact hM5
  case done =>
    rintro D xs W hD hys ⟨⟨ov, f, c1, c2, c3, c4, c5, c6⟩, hBW⟩ hKD
    obtain ⟨oa, oc, rfl, _⟩ := ownsRow_form c2
    generalize hom : (onceL (xs.map (·.1))).length = om at c1 c2 c6
    have r0 : W.cell? ⟨w.heap.size + 1, 0, none⟩ = some (.slice oa om oc) := by simp [World.cell?, c1]
    have r1 : W.frozen? ⟨w.heap.size + 1, 0, none⟩ = false := by simp [World.frozen?, c1]
    have hc2 := Lib.hid c2
    have hom' := Lib.hid hom
    have hc6 := Lib.hid c6
    have hys' := Lib.hid hys
    clear c1 c2 c3 c4 c5 c6 hys hom
    gi_wp2_with fail
    have hKD' := (KeepsOthers.setCell W ⟨w.heap.size + 1, 0, none⟩ (.slice oa om oc)).same D _ hKD rfl
    refine ⟨by simp, .inl ⟨_, _, rfl, run_takeDeferred hKD', ?_⟩⟩
    have hc1 : (W.setCell ⟨w.heap.size + 1, 0, none⟩ (.slice oa om oc)).cell? ⟨w.heap.size + 1, 0, none⟩ = some (.slice oa om oc) := World.cell?_setCell_same' _ _ _ (by rw [r0]; rfl)
    have hcr := cell_kept hc1 (grownBy_putObj' _ D (.deferred none)) (fun r e => by cases e; exact ⟨_, hKD', rfl⟩)
    refine ⟨.slice oa om oc, by simp [results, Tryd.results13, go_sem, hcr], ⟨_, rfl, ?_⟩, ?_⟩
    · rw [hT.out, ← hys'.out]
      by_cases hx : xs = []
      · subst hx
        rw [hc6.out rfl]
        exact .inl ⟨rfl, rfl⟩
      · refine IntSl.of_own (base := V2.heap.size) (ownsRow_heap (by rw [hom'.out]; exact hc2.out) fun g hg => ?_) ?_
        · have hge := ownBlock_ge hc2.out hg
          obtain ⟨_, q | ⟨g', cap, cur, hv, _, hh, _⟩⟩ := hc2.out
          · rw [q.1] at hg; cases hg
          · rw [hv] at hg
            simp only [Value.ownBlock, Option.some.injEq] at hg
            subst hg
            rw [World.putObj_heap_other (fun e => by rw [← e, hh] at hKD; cases hKD)]
            exact Below.heap_setCell _ _ _ _ (by simp; omega)
        · intro h
          obtain ⟨y, hy⟩ := List.exists_mem_of_ne_nil _ hx
          have := (onceL_mem (xs.map (·.1)) y.1).2 (List.mem_map_of_mem hy)
          rw [h] at this; simp at this
    · exact (hBW.setCell (by simp) _).grown (grownBy_putObj' _ D _) (by have := hBW.size; simp [World.setCell] at this ⊢; omega) (fun k e => by cases e; omega)
  case stop =>
    rintro D c pre W hD hpre hF hKD
    exact hF.elim
theorem ty_Holes (e : Ty) (v : Value) (w : World) (hv : IsTy w v e) : Calls Tryd.prog 13 #[v] w fun r w' => (∃ z, r = .returned z ∧ IntSl w' z (holesC e)) ∧ Below w.heap.size w w' := by
  cases h : chkT e
  · exact ty_Holes_not e v w hv h
  · exact ty_Holes_is e v w hv h
end Go.Proofs.YticjpeefhppjoaaDoor
