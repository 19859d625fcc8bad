/- Whether a hole is in a type, by the program. -/
import Derived.Test.YticjpeefhppjoaaDoorTyU
import Derived.Test.YticjpeefhppjoaaDoorTyL
namespace Go.Proofs.YticjpeefhppjoaaDoor
open Go.RowKit Go.Shelf
attribute [local go_sem] Oper.semAt_some

/-- Holes one by one: is one of them it, or is it in what they are? -/
def wStep (f : Ty → List Int → Option (List Int × Bool)) (L : List Fa) (n : Int) : List Int → List Int → Option (List Int × Bool)
  | [], seen => some (seen, false)
  | h :: r, seen => if h = n then some (seen, true) else match fa? L h with
    | none => wStep f L n r seen
    | some x => if h ∈ seen then wStep f L n r seen else match f x (h :: seen) with
      | none => none
      | some (s, true) => some (s, true)
      | some (s, false) => wStep f L n r s
def withinP (L : List Fa) (n : Int) : Nat → Ty → List Int → Option (List Int × Bool)
  | 0, _, _ => none
  | k + 1, t, seen => wStep (withinP L n k) L n (allT t) seen

theorem wStep_append (f : Ty → List Int → Option (List Int × Bool)) (L : List Fa) (n : Int) : ∀ (a b seen : List Int), wStep f L n (a ++ b) seen = match wStep f L n a seen with | some (s, false) => wStep f L n b s | r => r
  | [], b, seen => by simp [wStep]
  | h :: r, b, seen => by
    have ih := wStep_append f L n r b
    simp only [List.cons_append, wStep]
    by_cases h1 : h = n
    · simp [h1]
    · simp only [h1, if_false]
      cases fa? L h with
      | none => exact ih seen
      | some x =>
        simp only
        by_cases h2 : h ∈ seen
        · simp only [h2, if_true]; exact ih seen
        · simp only [h2, if_false]
          cases f x (h :: seen) with
          | none => rfl
          | some p =>
            obtain ⟨s, b'⟩ := p
            cases b'
            · exact ih s
            · rfl
/-- Behind one more hole. -/
theorem wStep_snoc {f : Ty → List Int → Option (List Int × Bool)} {L : List Fa} {n : Int} {a seen S : List Int} (h : wStep f L n a seen = some (S, false)) (x : Int) : wStep f L n (a ++ [x]) seen = wStep f L n [x] S := by
  rw [wStep_append, h]
theorem wStep_prefix {f : Ty → List Int → Option (List Int × Bool)} {L : List Fa} {n : Int} {a b seen S : List Int} {out : List Int × Bool} (ha : a <+: b) (h : wStep f L n a seen = some (S, true)) (ho : wStep f L n b seen = some out) : out = (S, true) := by
  obtain ⟨c, rfl⟩ := ha
  rw [wStep_append, h] at ho
  simpa using ho.symm
theorem wStep_defined {f : Ty → List Int → Option (List Int × Bool)} {L : List Fa} {n : Int} {a b seen : List Int} {out : List Int × Bool} (ha : a <+: b) (ho : wStep f L n b seen = some out) : ∃ p, wStep f L n a seen = some p := by
  obtain ⟨c, rfl⟩ := ha
  rw [wStep_append] at ho
  cases h : wStep f L n a seen with
  | none => rw [h] at ho; cases ho
  | some p => exact ⟨p, rfl⟩

/-- A map in memory is a set of numbers, each of which facts tell. -/
def SnIs (L : List Fa) (w : World) (sb : Nat) (seen : List Int) : Prop :=
  ∃ f, MapOf Tryd.prog w 3 sb seen.length f ∧ (∀ n, In64 n → f (keyN n) = if n ∈ seen then some (.bool true) else none) ∧ seen.Nodup ∧ ∀ x ∈ seen, (fa? L x).isSome = true
theorem fa_dom : ∀ {L : List Fa} {n : Int}, (fa? L n).isSome = true → n ∈ L.map (·.n)
  | [], n, h => by simp [fa?] at h
  | a :: r, n, h => by
    by_cases e : a.n = n
    · simp [e]
    · simp only [fa?, if_neg e] at h
      exact List.mem_cons_of_mem _ (fa_dom h)
theorem SnIs.len {L : List Fa} {w : World} {sb : Nat} {seen : List Int} (h : SnIs L w sb seen) : seen.length ≤ L.length := by
  obtain ⟨f, _, _, h3, h4⟩ := h
  have := nodup_len seen (L.map (·.n)) h3 fun x hx => fa_dom (h4 x hx)
  simpa using this
theorem SnIs.lt {L : List Fa} {w : World} {sb : Nat} {seen : List Int} (h : SnIs L w sb seen) : sb < w.heap.size := by obtain ⟨f, hM, _⟩ := h; exact hM.lt
theorem SnIs.obj {L : List Fa} {w : World} {sb : Nat} {seen : List Int} (h : SnIs L w sb seen) : ∃ o : Obj, w.heap[sb]? = some o ∧ o.isCells = false := by obtain ⟨f, hM, _⟩ := h; exact hM.obj
theorem SnIs.at {L : List Fa} {w w' : World} {sb : Nat} {seen : List Int} (h : SnIs L w sb seen) (hk : w'.heap[sb]? = w.heap[sb]?) : SnIs L w' sb seen := by
  obtain ⟨f, h1, h2⟩ := h
  exact ⟨f, h1.at hk, h2⟩
theorem MpIs.at {w₀ w w' : World} {mb : Nat} {L : List Fa} (h : MpIs w₀ w mb L) (hk : w'.heap[mb]? = w.heap[mb]?) : MpIs w₀ w' mb L := by
  obtain ⟨f, h1, h2⟩ := h
  exact ⟨f, h1.at hk, h2⟩
theorem KeepsFrom.of_belowB {B mb : Nat} {W W' : World} (h : BelowB W.heap.size mb W W') (hm : mb < B) : KeepsFrom B W W' :=
  ⟨h.size, fun k o hk hko _ => (h.block k (Array.getElem?_eq_some_iff.1 hko).1 (by omega)).trans hko⟩

theorem BelowB.setCell {B mb : Nat} {a b : World} (h : BelowB B mb a b) {ad : Addr} (hB : B ≤ ad.block) (v : Value) : BelowB B mb a (b.setCell ad v) := h.trans (BelowB.of_below ((Below.refl _ _).setCell hB v))
theorem BelowB.alloc {B mb : Nat} {a b : World} (h : BelowB B mb a b) (hB : B ≤ b.heap.size) (o : Obj) : BelowB B mb a (b.alloc o) := h.trans (BelowB.of_below ((Below.refl _ _).alloc hB o))
/-- What the loop of 'within' has at a round's start. -/
def WiI (L : List Fa) (f : Ty → List Int → Option (List Int × Bool)) (n : Int) (seen : List Int) (sb B : Nat) (V2 : World) (pre : List N64) (W : World) : Prop :=
  ∃ S, wStep f L n (pre.map (·.1)) seen = some (S, false) ∧ SnIs L W sb S ∧ BelowB B sb V2 W ∧ seen.length ≤ S.length
theorem WiI.own {L : List Fa} {f : Ty → List Int → Option (List Int × Bool)} {n : Int} {seen : List Int} {sb B S0 : Nat} {V2 : World} (h1 : sb < S0) (h2 : B ≤ S0) (h3 : B ≤ V2.heap.size) : OwnFrom S0 (WiI L f n seen sb B V2) := by
  rintro pre A C row ⟨S, q1, q2, q3, q4⟩ hg hr
  have hk : ∀ i, i < A.heap.size → i < S0 → C.heap[i]? = A.heap[i]? := by
    intro i hi ho
    refine hg.block i hi ?_
    intro e
    have := (hr i e.symm).1
    omega
  refine ⟨S, q1, q2.at (hk _ q2.lt h1), q3.trans ⟨hg.os, hg.tape, hg.output, hg.size, fun k hk1 hk2 => ?_⟩, q4⟩
  exact hk _ (by have := q3.size; omega) (by omega)

set_option maxHeartbeats 4000000 in
set_option maxRecDepth 100000 in
theorem ty_within (w₀ : World) (mk mb : Nat) (L : List Fa) (hLl : L.length ≤ 1000000) (n : Int) : ∀ (fuel : Nat) (e : Ty) (v : Value) (w : World) (sb : Nat) (seen : List Int), L.length < fuel + seen.length → MkIs w mk mb → MpIs w₀ w mb L → IsTy w₀ v e → KeepsBut (fun _ => False) w₀ w → SnIs L w sb seen → sb ≠ mk → sb ≠ mb → tcnt e ≤ 100000 → (∀ x e, fa? L x = some e → tcnt e ≤ 100000) →
    Calls Tryd.prog 64 #[.pointer (some ⟨mk, 0, none⟩), .int .i64 n, v, .map (some sb)] w fun z w' => ∃ out, withinP L n fuel e seen = some out ∧ z = .returned (.bool out.2) ∧ (out.2 = false → SnIs L w' sb out.1 ∧ seen.length ≤ out.1.length) ∧ BelowB w.heap.size sb w w' := by
  intro fuel
  induction fuel with
  | zero => intro e v w sb seen h _ _ _ _ hs; have := hs.len; omega
  | succ fuel ih =>
  intro e v w sb seen hfu hk hm hv h0 hs hsk hsm hct hcL
  have hv0 := Lib.hid hv
  obtain ⟨s, m, l⟩ := e
  obtain ⟨a1, c1, rfl, _, hn, _⟩ := hv.open
  have hlen : Hid ((allT (.mk s m l)).length ≤ 100000) := by have := allT_len (.mk s m l); unfold Hid; omega
  have hm' := Lib.hid hm
  have hk' := Lib.hid hk
  have hs' := Lib.hid hs
  have h0' := Lib.hid h0
  have ih' := Lib.hid ih
  have hcL' := Lib.hid hcL
  have hmk := hk.lt
  have hmb := hm.lt
  have hsb := hs.lt
  obtain ⟨W1, hW1⟩ : ∃ W, ((((w.alloc (.cells #[.pointer (some ⟨mk, 0, none⟩)] 64)).alloc (.cells #[.int .i64 n] 3)).alloc (.cells #[.string s, .int .i64 m, .slice a1 l.length c1] 24)).alloc (.cells #[.map (some sb)] 50)).alloc (.cells #[.bool false] 4) = W := ⟨_, rfl⟩
  have hz1 : W1.heap.size = w.heap.size + 5 := by rw [← hW1]; simp
  have hb1 : Below w.heap.size w W1 := by rw [← hW1]; exact (((((Below.refl _ w).alloc (Nat.le_refl _) _).alloc (by simp) _).alloc (by simp <;> omega) _).alloc (by simp <;> omega) _).alloc (by simp <;> omega) _
  have hcells' : Hid (∀ V : World, (∀ i, i < w.heap.size + 5 → i ≠ sb → V.heap[i]? = W1.heap[i]?) → V.cell? ⟨w.heap.size, 0, none⟩ = some (.pointer (some ⟨mk, 0, none⟩)) ∧ V.cell? ⟨w.heap.size + 1, 0, none⟩ = some (.int .i64 n) ∧ (V.cell? ⟨w.heap.size + 2, 0, none⟩ = some (.string s) ∧ V.cell? ⟨w.heap.size + 2, 1, none⟩ = some (.int .i64 m) ∧ V.cell? ⟨w.heap.size + 2, 2, none⟩ = some (.slice a1 l.length c1)) ∧ V.cell? ⟨w.heap.size + 3, 0, none⟩ = some (.map (some sb)) ∧ V.heap[w.heap.size + 4]? = some (.cells #[.bool false] 4 (0, 0))) := by
    intro V hV
    have q0 := hV w.heap.size (by omega) (by omega)
    have q1 := hV (w.heap.size + 1) (by omega) (by omega)
    have q2 := hV (w.heap.size + 2) (by omega) (by omega)
    have q3 := hV (w.heap.size + 3) (by omega) (by omega)
    have q4 := hV (w.heap.size + 4) (by omega) (by omega)
    have e0 : W1.heap[w.heap.size]? = some (.cells #[.pointer (some ⟨mk, 0, none⟩)] 64 (0, 0)) := by
      rw [← hW1]; exact new_block ((((Below.refl _ _).alloc (by simp) _).alloc (by simp) _).alloc (by simp <;> omega) _ |>.alloc (by simp <;> omega) _)
    have e1 : W1.heap[w.heap.size + 1]? = some (.cells #[.int .i64 n] 3 (0, 0)) := by
      have h := new_block (w := w.alloc (.cells #[.pointer (some ⟨mk, 0, none⟩)] 64)) (U := W1) (vs := #[.int .i64 n]) (t := 3) (by rw [← hW1]; exact (((Below.refl _ _).alloc (by simp) _).alloc (by simp) _).alloc (by simp <;> omega) _)
      simpa using h
    have e2 : W1.heap[w.heap.size + 2]? = some (.cells #[.string s, .int .i64 m, .slice a1 l.length c1] 24 (0, 0)) := by
      have h := new_block (w := (w.alloc (.cells #[.pointer (some ⟨mk, 0, none⟩)] 64)).alloc (.cells #[.int .i64 n] 3)) (U := W1) (vs := #[.string s, .int .i64 m, .slice a1 l.length c1]) (t := 24) (by rw [← hW1]; exact ((Below.refl _ _).alloc (by simp) _).alloc (by simp) _)
      simpa using h
    have e3 : W1.heap[w.heap.size + 3]? = some (.cells #[.map (some sb)] 50 (0, 0)) := by
      have h := new_block (w := ((w.alloc (.cells #[.pointer (some ⟨mk, 0, none⟩)] 64)).alloc (.cells #[.int .i64 n] 3)).alloc (.cells #[.string s, .int .i64 m, .slice a1 l.length c1] 24)) (U := W1) (vs := #[.map (some sb)]) (t := 50) (by rw [← hW1]; exact (Below.refl _ _).alloc (by simp) _)
      simpa using h
    have e4 : W1.heap[w.heap.size + 4]? = some (.cells #[.bool false] 4 (0, 0)) := by
      have h := new_block (w := (((w.alloc (.cells #[.pointer (some ⟨mk, 0, none⟩)] 64)).alloc (.cells #[.int .i64 n] 3)).alloc (.cells #[.string s, .int .i64 m, .slice a1 l.length c1] 24)).alloc (.cells #[.map (some sb)] 50)) (U := W1) (vs := #[.bool false]) (t := 4) (by rw [← hW1]; exact Below.refl _ _)
      simpa using h
    rw [e0] at q0; rw [e1] at q1; rw [e2] at q2; rw [e3] at q3; rw [e4] at q4
    refine ⟨by simp [World.cell?, q0], by simp [World.cell?, q1], ⟨by simp [World.cell?, q2], by simp [World.cell?, q2], by simp [World.cell?, q2]⟩, by simp [World.cell?, q3], q4⟩
  have hW1' := Lib.hid hW1
  have hb1' := Lib.hid hb1
  have hdd : ∀ k : Nat, (Fence.wide.depth.isSome = true → 1 ≤ k) := fun k h => by cases h
  obtain ⟨k0, k1, ⟨k2, k3, k4⟩, k5, k6⟩ := hcells'.out W1 (fun _ _ _ => rfl)
  clear hv hW1 hm hk hs h0 hb1 ih hcL hct
  refine (callsIn_wide (n := 6)).1 ?_
  refine callsIn_of_wp_marks Tryd.func64 rfl trivial ?_
  simp only [Tryd.ntmps64, List.size_toArray, List.length_cons, List.length_nil, Nat.reduceAdd, Nat.reduceSub, Array.replicate_succ, Array.replicate_zero, List.push_toArray, List.append_toArray, List.nil_append, List.cons_append]
  gi_wp2_with fail
  rw [hW1'.out]
  refine ⟨trivial, callsIn_wide.2 ((ty_all _ _ _ _).mono ?_)⟩
  rintro r V2 ⟨rfl, hV2⟩
  have hb2 : Below W1.heap.size W1 V2 := by rw [hV2]; exact (Below.refl _ W1).alloc (Nat.le_refl _) _
  have hz2 : V2.heap.size = w.heap.size + 6 := by rw [hV2]; simp; omega
  have hwV2 : Below w.heap.size w V2 := hb1'.out.trans (hb2.mono (by omega))
  have htb : ∀ W, Below V2.heap.size V2 W → W.cell? ⟨W1.heap.size, 0, none⟩ = some (.string s) ∧ W.cell? ⟨W1.heap.size, 1, none⟩ = some (.int .i64 m) ∧ W.cell? ⟨W1.heap.size, 2, none⟩ = some (.slice a1 l.length c1) := by
    intro W hW
    rw [hV2] at hW
    exact box3 (hW.mono (by simp))
  rw [hz1] at htb
  clear hV2 k0 k1 k2 k3 k4 k5 k6
  gi_wp2_with fail
  have hI0 : WiI L (withinP L n fuel) n seen sb (w.heap.size + 5) V2 [] V2 := ⟨seen, rfl, hs'.out.at ((hwV2.block sb hsb)), BelowB.refl _ _ _, Nat.le_refl _⟩
  refine wpIn_rangeFunc_ownH (F := Fence.wide) rfl (by omega) (gf := 50) (lb := #[.pointer (some ⟨w.heap.size + 5, 0, none⟩)]) rfl trivial (enters_of Tryd.func50 (by kernel_rfl) rfl)
    (all_stops w₀ _ (fun b => w.heap.size ≤ b) _ _ hv0.out V2 (w.heap.size + 5) (fun b hb => Nat.le_trans h0'.out.1 hb) (fun W hW => (h0'.out.wider fun _ h => h.elim).trans (Below.keepsBut (hwV2.trans (hW.mono (by omega))))) (fun W hW => ⟨_, _, _, rfl, htb W hW⟩))
    (fun h k => h.trans k) (fun W l o o' hl h ho _ => ⟨by simp [World.putObj], fun a v _ hv => cell_kept hv (grownBy_putObj' W l o') (fun r e => by cases e; exact ⟨o, h, ho⟩)⟩) (Below.refl _ _) (fun _ => rfl)
    (WiI L (withinP L n fuel) n seen sb (w.heap.size + 5) V2)
    (fun c pre W => c = .ret ∧ (∃ S, wStep (withinP L n fuel) L n (pre.map (·.1)) seen = some (S, true)) ∧ W.heap[w.heap.size + 4]? = some (.cells #[.bool true] 4 (0, 0)) ∧ BelowB w.heap.size sb w W)
    (WiI.own (by omega) (by omega) (by omega))
    (fun c pre A C row hI hg hr => by
      obtain ⟨i1, i2, i3, i4⟩ := hI
      have hz := (Array.getElem?_eq_some_iff.1 i3).1
      refine ⟨i1, i2, (hg.block _ hz (fun e => by have := (hr _ e.symm).1; omega)).trans i3, i4.trans ⟨hg.os, hg.tape, hg.output, hg.size, fun k hk1 hk2 => ?_⟩⟩
      exact hg.block _ (by omega) (fun e => by have := (hr _ e.symm).1; omega))
    hI0
    (fun x a' _ => ∃ (u0 u1 u2 u3 u10 u11 u12 u13 u14 u15 u16 u17 u18 u19 u20 u21 u22 u23 u24 u25 u26 u27 u28 u29 u30 u31 u32 u33 u34 u35 u36 u37 u38 u39 u40 : Value), a' = { tmps := #[u0, u1, u2, u3, .pointer (some ⟨w.heap.size, 0, none⟩), .pointer (some ⟨w.heap.size + 1, 0, none⟩), .pointer (some ⟨w.heap.size + 2, 0, none⟩), .pointer (some ⟨w.heap.size + 3, 0, none⟩), .pointer (some ⟨w.heap.size + 4, 0, none⟩), .int .i64 x.1, u10, u11, u12, u13, u14, u15, u16, u17, u18, u19, u20, u21, u22, u23, u24, u25, u26, u27, u28, u29, u30, u31, u32, u33, u34, u35, u36, u37, u38, u39, u40], defers := [] })
    (fun x a' _ _ _ _ hs _ _ => hs)
    ?assign ?body ?done ?stop
  case assign =>
    rintro l' pre x W K hI hK
    gi_wp2
    exact hK _ _ (KeepsFrom.refl _ _) (KeepsBut.refl _ _) hI ⟨_, _, _, _, _, _, _, _, _, _, _, _, _, _, _, _, _, _, _, _, _, _, _, _, _, _, _, _, _, _, _, _, _, _, _, rfl⟩
  case body =>
    rintro l' pre ⟨x, hx⟩ a' W hl' hr' ⟨S, q1, q2, q3, q4⟩ ⟨u0, u1, u2, u3, u10, u11, u12, u13, u14, u15, u16, u17, u18, u19, u20, u21, u22, u23, u24, u25, u26, u27, u28, u29, u30, u31, u32, u33, u34, u35, u36, u37, u38, u39, u40, rfl⟩ hpl
    have hSW : V2.heap.size ≤ W.heap.size := q3.size
    have hblk : ∀ i, i < w.heap.size + 5 → i ≠ sb → W.heap[i]? = W1.heap[i]? := fun i h1 h2 => (q3.block i h1 h2).trans (hb2.block i (by omega))
    have hblw : ∀ i, i < w.heap.size → i ≠ sb → W.heap[i]? = w.heap[i]? := fun i h1 h2 => (hblk i (by omega) h2).trans (hb1'.out.block i h1)
    obtain ⟨k0, k1, k2, k5, k6⟩ := hcells'.out W hblk
    have hsnoc := Lib.hid (wStep_snoc q1 x)
    have hpre : Hid ((pre ++ [(⟨x, hx⟩ : N64)]).map (·.1) = pre.map (·.1) ++ [x]) := by unfold Hid; simp
    by_cases hxn : x = n
    · subst hxn
      have hst : Hid (∃ S, wStep (withinP L x fuel) L x ((pre ++ [(⟨x, hx⟩ : N64)]).map (·.1)) seen = some (S, true)) := ⟨S, by rw [hpre.out, hsnoc.out]; simp [wStep]⟩
      have c0 : W.cell? ⟨w.heap.size + 4, 0, none⟩ = some (.bool false) := by simp [World.cell?, k6]
      have c1 : W.frozen? ⟨w.heap.size + 4, 0, none⟩ = false := by simp [World.frozen?, k6]
      have k6' := Lib.hid k6
      have hblw' := Lib.hid hblw
      have q3' := Lib.hid q3
      clear hblk hblw q1 q2 q3 hsnoc hpre k6
      gi_wp2_with fail
      refine ⟨(KeepsOthers.setCell _ _ _).from _, rfl, hst.out, by have h := k6'.out; simp [World.setCell, Array.getElem?_modify, h], ?_⟩
      exact ((BelowB.of_below hwV2).trans (q3'.out.mono (by omega))).setCell (by simp) _
    · have hMW : MpIs w₀ W mb L := hm'.out.at (hblw mb hmb (fun e => hsm e.symm))
      have hkW : MkIs W mk mb := (hblw mk hmk (fun e => hsk e.symm)).trans hk'.out
      have mkc := hkW.cell
      obtain ⟨fb, ys, yn, ya, ym, yc, hlk, hfb⟩ := hMW.look hx
      have hlkW := hlk W (Below.refl _ _)
      obtain ⟨Wa, hWa⟩ : ∃ V, W.alloc (.cells #[.string ys, .int .i64 yn, .slice ya ym yc] 24) = V := ⟨_, rfl⟩
      have hbWa : Below W.heap.size W Wa := by rw [← hWa]; exact (Below.refl _ _).alloc (Nat.le_refl _) _
      have hzWa : Wa.heap.size = W.heap.size + 1 := by rw [← hWa]; simp
      have hxa : BoxT Wa W.heap.size (.string ys) (.int .i64 yn) (.slice ya ym yc) := by
        have h := new_block (Below.refl _ (W.alloc (.cells #[.string ys, .int .i64 yn, .slice ya ym yc] 24)))
        rw [hWa] at h; exact h
      have hxa' := Lib.hid hxa
      obtain ⟨x0, x1, x2⟩ := hxa.cells
      have kk : Hid (∀ V : World, (∀ i, i < W.heap.size → i ≠ sb → V.heap[i]? = W.heap[i]?) → V.cell? ⟨w.heap.size, 0, none⟩ = some (.pointer (some ⟨mk, 0, none⟩)) ∧ V.cell? ⟨w.heap.size + 1, 0, none⟩ = some (.int .i64 n) ∧ V.cell? ⟨w.heap.size + 3, 0, none⟩ = some (.map (some sb)) ∧ V.heap[w.heap.size + 4]? = some (.cells #[.bool false] 4 (0, 0)) ∧ MkIs V mk mb ∧ MpIs w₀ V mb L) := by
        intro V hV
        obtain ⟨j0, j1, _, j5, j6⟩ := hcells'.out V (fun i h1 h2 => (hV i (by omega) h2).trans (hblk i h1 h2))
        exact ⟨j0, j1, j5, j6, (hV mk (by omega) (fun e => hsk e.symm)).trans hkW, hMW.at (hV mb (by omega) (fun e => hsm e.symm))⟩
      obtain ⟨j0, j1, j5, j6, _, _⟩ := kk.out Wa (fun i h1 _ => hbWa.block i h1)
      have K : Maps.Keyed Tryd.prog 3 := Maps.int_keyed Tryd.underlying3
      have hkey := Lib.hid (keyN_of hx)
      have q2' := Lib.hid q2
      have q3' := Lib.hid q3
      have hSl := q2.len
      have hSb := q2.lt
      obtain ⟨f, hM, hfS, hnd, hdom⟩ := q2
      have hlook := (hM.below hbWa hM.lt).look K Tryd.underlying50 (z := .bool false) (by kernel_rfl) hkey.out
      rw [hfS x hx] at hlook
      have hWae := Lib.hid hWa
      have hxn' : Hid (∀ r, wStep (withinP L n fuel) L n [x] S = r → (x ∈ S ∨ fa? L x = none) → r = some (S, false)) := by
        rintro r rfl h
        simp only [wStep, hxn, if_false]
        rcases h with h | h
        · cases fa? L x with
          | none => rfl
          | some e => simp [h]
        · rw [h]
      have hgo : Hid ((x ∈ S ∨ fa? L x = none) → KeepsFrom (w.heap.size + 6) W Wa ∧ KeepsBut (fun b => w.heap.size ≤ b) W Wa ∧ WiI L (withinP L n fuel) n seen sb (w.heap.size + 5) V2 (pre ++ [⟨x, hx⟩]) Wa) := by
        intro h
        refine ⟨KeepsFrom.of_belowB (BelowB.of_below hbWa) (mb := sb) (by omega), KeepsBut.of_below hbWa, S, ?_, q2'.out.at (hbWa.block sb hSb), q3'.out.trans (BelowB.of_below (hbWa.mono (by omega))), q4⟩
        rw [hpre.out, hsnoc.out]
        exact hxn'.out _ rfl h
      have hxnf : ((x : Int) == n) = false := by rw [beq_eq_false_iff_ne]; exact hxn
      have hlt1 : w.heap.size < W.heap.size := by omega
      have hlt3 : w.heap.size + 3 < W.heap.size := by omega
      clear hlk hMW hkW hxa hblk hblw q1 q3 hWa k6 j6
      by_cases hxS : x ∈ S
      · rw [if_pos hxS] at hlook
        simp only [Option.getD_some] at hlook
        have hxS' := Lib.hid hxS
        clear hxS hfb hxn
        rw [← hWae.out] at hlook j0 j1 j5 x0 x1 x2
        gi_wp2_with fail
        rw [hWae.out]
        exact hgo.out (.inl hxS'.out)
      · rw [if_neg hxS] at hlook
        simp only [Option.getD_none] at hlook
        rw [← hWae.out] at hlook j0 j1 j5 x0 x1 x2
        cases fb
        · have hF : Hid (fa? L x = none) := by
            rcases hfb with ⟨_, h⟩ | ⟨h, _⟩
            · exact h
            · cases h
          clear hxS hfb hxn
          gi_wp2_with fail
          rw [hWae.out]
          exact hgo.out (.inr hF.out)
        · obtain ⟨ex, hF, hxe⟩ : ∃ e, fa? L x = some e ∧ IsTy w₀ (.agg #[.string ys, .int .i64 yn, .slice ya ym yc]) e := by
            rcases hfb with ⟨h, _⟩ | ⟨_, h⟩
            · cases h
            · exact h
          have hxS' := Lib.hid hxS
          have hF' := Lib.hid hF
          have hxe' := Lib.hid hxe
          have hput := Lib.hid (MapOf.update (P := Tryd.prog) (w := Wa) (hM.below hbWa hM.lt) K Tryd.underlying50 (by unfold maxLen; omega) hkey.out (val := .bool true))
          clear hxS hfb hxn hF hxe
          gi_wp2_with (refine wpListIn_put _ rfl _ _ _ 50 rfl 3 4 K Tryd.underlying50 sb S.length f rfl (by rw [hWae.out]; exact hM.below hbWa hM.lt) (by unfold maxLen; omega) (.int .i64 x) (.bool true) (keyN x) rfl rfl hkey.out ?_; intro W5 hM5 hg5; rw [hWae.out] at hg5; obtain ⟨j0', j1', j5', j6', hk5, hm5⟩ := kk.out W5 (fun i h1 h2 => (hg5.block i (by omega) (fun e => h2 (by simpa using e))).trans (hbWa.block i h1)); have hx5 : BoxT W5 W.heap.size (.string ys) (.int .i64 yn) (.slice ya ym yc) := (hg5.block _ (by omega) (fun e => by simp only [Option.some.injEq] at e; omega)).trans hxa'.out; obtain ⟨x0', x1', x2'⟩ := hx5.cells)
          have hsn5 : SnIs L W5 sb (x :: S) := by
            refine ⟨_, hM5, fun y hy => ?_, List.nodup_cons.2 ⟨hxS'.out, hnd⟩, fun y hy => ?_⟩
            · by_cases e : y = x
              · subst e; rw [updF_same, if_pos (by simp)]
              · rw [updF_other (fun h => e (keyN_inj h)), hfS y hy]
                by_cases h1 : y ∈ S
                · rw [if_pos h1, if_pos (by simp [h1])]
                · rw [if_neg h1, if_neg (by simp [h1, e])]
            · rcases List.mem_cons.1 hy with rfl | h
              · rw [hF'.out]; rfl
              · exact hdom y h
          have hB5 : BelowB W.heap.size sb W W5 := (BelowB.of_below hbWa).trans (BelowB.of_grown hg5 (by omega))
          have hwW : BelowB w.heap.size sb w W := (BelowB.of_below hwV2).trans (q3'.out.mono (by omega))
          have hwW5 : BelowB w.heap.size sb w W5 := hwW.trans (hB5.mono (by omega))
          have hk05 : KeepsBut (fun _ => False) w₀ W5 := h0'.out.trans ⟨hwW5.size, fun a v _ hv => hwW5.keeps hs'.out.obj a v hv⟩
          have hrec := Lib.hid (ih'.out ex _ W5 sb (x :: S) (by simp only [List.length_cons]; omega) hk5 hm5 hxe'.out hk05 hsn5 hsk hsm (hcL'.out _ _ hF'.out) hcL'.out)
          have hz5 : W.heap.size + 1 ≤ W5.heap.size := by have := hg5.size; omega
          have hB5' := Lib.hid hB5
          have hwW' := Lib.hid hwW
          have hobjW := Lib.hid q2'.out.obj
          clear hsn5 hk05 hB5 hwW hwW5 hM5 hg5 hk5 hm5 hx5 j0' j1' j5' j6' x0' x1' x2' hput hM hfS hnd hdom hlook hlkW mkc k0 k1 k2 k5 j0 j1 j5 x0 x1 x2
          refine ⟨trivial, callsIn_round (hrec.out.mono ?_)⟩
          rintro e W6 ⟨⟨S', b'⟩, hw, rfl, hsn6, hB6⟩
          have hB6W : BelowB W.heap.size sb W W6 := hB5'.out.trans (hB6.mono (by omega))
          have hfin : Hid (wStep (withinP L n fuel) L n ((pre ++ [(⟨x, hx⟩ : N64)]).map (·.1)) seen = some (S', b')) := by
            unfold Hid
            rw [hpre.out, hsnoc.out]
            simp only [wStep, hF'.out]
            rw [if_neg (by simpa using hxnf), if_neg hxS'.out, hw]
            cases b' <;> rfl
          have hB6' := Lib.hid hB6W
          have hsn6' := Lib.hid hsn6
          have hw6 : W.heap.size ≤ W6.heap.size := hB6W.size
          have k6 : W6.heap[w.heap.size + 4]? = some (.cells #[.bool false] 4 (0, 0)) := (kk.out W6 (fun i h1 h2 => hB6W.block i h1 h2)).2.2.2.1
          have k6' := Lib.hid k6
          have c0 : W6.cell? ⟨w.heap.size + 4, 0, none⟩ = some (.bool false) := by simp [World.cell?, k6]
          have c1 : W6.frozen? ⟨w.heap.size + 4, 0, none⟩ = false := by simp [World.frozen?, k6]
          clear hw hB6 hB6W hsn6 k6 hF' hxe' hxS'
          cases b'
          · gi_wp2_with fail
            refine ⟨KeepsFrom.of_belowB hB6'.out (by omega), ⟨hB6'.out.size, fun a v _ hv => hB6'.out.keeps hobjW.out a v hv⟩, S', hfin.out, (hsn6'.out (by first | rfl | trivial)).1, q3'.out.trans (hB6'.out.mono (by omega)), ?_⟩
            have := (hsn6'.out (by first | rfl | trivial)).2
            simp only [List.length_cons] at this
            omega
          · gi_wp2_with fail
            refine ⟨KeepsFrom.trans (KeepsFrom.of_belowB hB6'.out (by omega)) ((KeepsOthers.setCell _ _ _).from _), rfl, ⟨S', hfin.out⟩, by have h := k6'.out; simp [World.setCell, Array.getElem?_modify, h], ?_⟩
            exact (hwW'.out.trans (hB6'.out.mono (by omega))).setCell (by simp) _
  case done =>
    rintro D xs W hD hys ⟨S, q1, q2, q3, q4⟩ hKD
    rw [hys] at q1
    have hSW : V2.heap.size ≤ W.heap.size := q3.size
    have hblk : ∀ i, i < w.heap.size + 5 → i ≠ sb → W.heap[i]? = W1.heap[i]? := fun i h1 h2 => (q3.block i h1 h2).trans (hb2.block i (by omega))
    obtain ⟨_, _, _, _, k6⟩ := hcells'.out W hblk
    have k6' := Lib.hid k6
    have c0 : W.cell? ⟨w.heap.size + 4, 0, none⟩ = some (.bool false) := by simp [World.cell?, k6]
    have c1 : W.frozen? ⟨w.heap.size + 4, 0, none⟩ = false := by simp [World.frozen?, k6]
    have q1' := Lib.hid q1
    have q2' := Lib.hid q2
    have hwW := Lib.hid ((BelowB.of_below hwV2).trans (q3.mono (by omega)))
    clear q1 q2 q3 k6 hblk hys
    gi_wp2_with fail
    have hDU : (W.setCell ⟨w.heap.size + 4, 0, none⟩ (.bool false)).heap[D]? = some (.deferred (some [])) := by
      rw [Below.heap_setCell _ _ _ _ (by simp; omega)]; exact hKD
    have hu : (W.setCell ⟨w.heap.size + 4, 0, none⟩ (.bool false)).cell? ⟨w.heap.size + 4, 0, none⟩ = some (.bool false) := World.cell?_setCell_same' _ _ _ (by rw [c0]; rfl)
    have hwU := hwW.out.setCell (ad := ⟨w.heap.size + 4, 0, none⟩) (by simp) (.bool false)
    have hsU : SnIs L (W.setCell ⟨w.heap.size + 4, 0, none⟩ (.bool false)) sb S := q2'.out.at (by rw [Below.heap_setCell _ _ _ _ (by simp; omega)])
    have hzU : (W.setCell ⟨w.heap.size + 4, 0, none⟩ (.bool false)).heap.size = W.heap.size := by simp [World.setCell]
    generalize W.setCell ⟨w.heap.size + 4, 0, none⟩ (.bool false) = U at hDU hu hwU hsU hzU ⊢
    have hg := grownBy_putObj' U D (.deferred none)
    have hcr := cell_kept hu hg (fun r e => by cases e; exact ⟨_, hDU, rfl⟩)
    refine ⟨by simp, .inl ⟨_, _, rfl, run_takeDeferred hDU, ?_⟩⟩
    refine ⟨.bool false, by simp [results, Tryd.results64, go_sem, hcr], (S, false), q1'.out, rfl, fun _ => ⟨hsU.at (hg.block sb (by omega) (fun e => by simp only [Option.some.injEq] at e; omega)), q4⟩, ?_⟩
    exact hwU.trans (BelowB.of_below ((Below.refl _ U).grown hg (by omega) (fun k e => by cases e; omega)))
  case stop =>
    rintro D c pre W hD hpre ⟨rfl, ⟨S, h1⟩, h2, h3⟩ hKD
    have hu : W.cell? ⟨w.heap.size + 4, 0, none⟩ = some (.bool true) := by simp [World.cell?, h2]
    have hzW := (Array.getElem?_eq_some_iff.1 h2).1
    have hout : Hid (withinP L n (fuel + 1) (.mk s m l) seen = some (S, true)) := by
      obtain ⟨c, hc⟩ := hpre
      unfold Hid
      rw [withinP, ← hc, wStep_append, h1]
    clear hpre h1
    gi_wp2_with fail
    have hg := grownBy_putObj' W D (.deferred none)
    have hcr := cell_kept hu hg (fun r e => by cases e; exact ⟨_, hKD, rfl⟩)
    have hDW := (Array.getElem?_eq_some_iff.1 hKD).1
    refine ⟨by simp, .inl ⟨_, _, rfl, run_takeDeferred hKD, ?_⟩⟩
    refine ⟨.bool true, by simp [results, Tryd.results64, go_sem, hcr], (S, true), hout.out, rfl, fun h => (by cases h), ?_⟩
    exact h3.trans (BelowB.of_below ((Below.refl _ W).grown hg (by omega) (fun k e => by cases e; omega)))
end Go.Proofs.YticjpeefhppjoaaDoor
