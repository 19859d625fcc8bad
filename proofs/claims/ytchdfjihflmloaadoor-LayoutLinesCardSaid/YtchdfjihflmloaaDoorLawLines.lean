/- LayoutLines: lines of one column are parted by a ; each. -/
import Derived.Test.YtchdfjihflmloaaDoorLayH
namespace Go.Proofs.YtchdfjihflmloaaDoor
open Go.RowKit

/-- Truth values in a row of cells. -/
def BoolRow (w : World) (a : Option Addr) (l : List Bool) : Prop :=
  l = [] ∨ ∃ b off, a = some ⟨b, off, none⟩ ∧ ∀ i (h : i < l.length), w.cell? ⟨b, off + i, none⟩ = some (.bool l[i])
theorem BoolRow.keeps {w W : World} {a : Option Addr} {l : List Bool} (h : BoolRow w a l) (hk : Keeps w W) : BoolRow W a l := by
  rcases h with h | ⟨b, off, rfl, h⟩
  · exact .inl h
  · exact .inr ⟨b, off, rfl, fun i hi => hk _ _ (h i hi)⟩
theorem cells_new (w : World) (L : List Value) (ty : TypeId) : ∀ j v, L[j]? = some v → (w.alloc (.cells L.toArray ty)).cell? ((⟨w.heap.size, 0, none⟩ : Addr).add j) = some v := by
  intro j v hj
  rw [addr_plus, Nat.zero_add, World.cell?_alloc_at _ _ _ _ rfl]
  simpa using hj
theorem linesT_append : ∀ (a : List Int) (n : Int) (c : Int), linesT n (a ++ [c]) = linesT n a ++ [xT c (n + a.length), yT c (n + a.length)]
  | [], n, c => by simp [linesT]
  | d :: r, n, c => by
    rw [List.cons_append, linesT, linesT, linesT_append r (n + 1) c]
    simp only [List.length_cons, List.cons_append]
    rw [show n + 1 + (r.length : Int) = n + ((r.length + 1 : Nat) : Int) by omega]
theorem take_lines {C : List Int} {k : Nat} (h : k < C.length) : linesT 1 (C.take (k + 1)) = linesT 1 (C.take k) ++ [xT C[k] ((k : Int) + 1), yT C[k] ((k : Int) + 1)] := by
  rw [List.take_succ_eq_append_getElem h, linesT_append, List.length_take, Nat.min_eq_left (by omega), Int.add_comm 1]
/-- How many lines behind the first one begin in column b. -/
def inB (b : Int) (C : List Int) (k : Nat) : Nat := (((C.take k).drop 1).filter fun c => decide (c = b)).length
theorem inB_zero (b : Int) (C : List Int) : inB b C 0 = 0 := by simp [inB]
theorem inB_one (b : Int) (C : List Int) : inB b C 1 = 0 := by cases C <;> simp [inB]
theorem inB_succ {b : Int} {C : List Int} {k : Nat} (h : k + 1 < C.length) : inB b C (k + 2) = inB b C (k + 1) + if C[k + 1] = b then 1 else 0 := by
  unfold inB
  rw [List.take_succ_eq_append_getElem h, List.drop_append_of_le_length (by rw [List.length_take]; omega), List.filter_append, List.length_append]
  congr 1
  by_cases hc : C[k + 1] = b
  · simp [hc]
  · simp [hc]
theorem inB_le (b : Int) (C : List Int) (k : Nat) : inB b C k ≤ k := by
  unfold inB
  have := List.length_filter_le (fun c => decide (c = b)) ((C.take k).drop 1)
  rw [List.length_drop, List.length_take] at this
  omega
/-- The columns that the law gives its lines. -/
def colF (cols : Bs) (fur : List Bool) (i : Nat) : Int := if 0 < i ∧ fur.getD i false = true then 1 + ((cols.getD 0 0).toNat : Int) + 1 + ((cols.getD i 0).toNat : Int) else 1 + ((cols.getD 0 0).toNat : Int)
def colC (cols : Bs) (fur : List Bool) : List Int := (List.range cols.length).map (colF cols fur)
theorem colC_len (cols : Bs) (fur : List Bool) : (colC cols fur).length = cols.length := by simp [colC]
theorem colC_at (cols : Bs) (fur : List Bool) (i : Nat) (h : i < (colC cols fur).length) : (colC cols fur)[i] = colF cols fur i := by simp [colC]
theorem colF_ge (cols : Bs) (fur : List Bool) (i : Nat) : 1 + ((cols.getD 0 0).toNat : Int) ≤ colF cols fur i := by unfold colF; split <;> omega
theorem semi_out (b : Int) (cs : List Int) (e : Tk) : ((mkT bOpen (xT b 1) :: xT b 1 :: yT b 1 :: (linesO b 2 cs ++ [mkT bShut e])).filter fun t => keyT t semiT).length = (cs.filter fun c => decide (c = b)).length := by
  rw [List.filter_cons_of_neg (by rw [keyT_mk]; decide), List.filter_cons_of_neg (by rw [(xy_key b 1 semiT).1]; simp), List.filter_cons_of_neg (by rw [(xy_key b 1 semiT).2.1]; simp), List.filter_append, List.length_append, linesO_semi, List.filter_cons_of_neg (by rw [keyT_mk]; decide)]
  simp
theorem take_semi {m : List Tk} {k : Nat} {t : Tk} (h : k < m.length) (ht : m[k] = t) : ((m.take (k + 1)).filter fun t => keyT t semiT).length = ((m.take k).filter fun t => keyT t semiT).length + if keyT t semiT = true then 1 else 0 := by
  rw [List.take_succ_eq_append_getElem h, List.filter_append, List.length_append, ht]
  congr 1
  by_cases hk : keyT t semiT = true
  · simp [hk]
  · simp [hk]

set_option maxHeartbeats 4000000 in
set_option maxRecDepth 100000 in
theorem layoutLines_c (a : Option Addr) (cols : Bs) (cap : Nat) (a2 : Option Addr) (fur : List Bool) (cap2 : Nat) (w : World) (hr : ByteRow w a cols) (hr2 : BoolRow w a2 fur) (hE : RngOk w) (hM : MaxOk w) :
    Calls Tryd.prog 12 #[.slice a cols.length cap, .slice a2 fur.length cap2] w fun e w' => e = .returned (.bool true) ∧ Below w.heap.size w w' := by
  have hup := Lib.hid (lay_awake w hE hM)
  have hr' := Lib.hid hr
  have hr2' := Lib.hid hr2
  clear hE hM hr hr2
  by_cases h0 : cols.length = 0
  · have hc0 : ((cols.length : Int) == 0) = true := by simp; exact List.length_eq_zero_iff.1 h0
    go_enter Tryd.func12, Tryd.ntmps12
    go_wp2_with fail
    refine hup.out.mono ?_
    rintro e V ⟨rfl, hB⟩
    go_wp2_with fail
    go_ret
    exact ⟨rfl, hB⟩
  · have hc0 : ((cols.length : Int) == 0) = false := beq_eq_false_iff_ne.2 (by omega)
    by_cases h100 : 100 < cols.length
    · have hc1 : decide ((100 : Int) < (cols.length : Int)) = true := decide_eq_true (by omega)
      have hc1i : (100 : Int) < (cols.length : Int) := by omega
      go_enter Tryd.func12, Tryd.ntmps12
      go_wp2_with fail
      refine hup.out.mono ?_
      rintro e V ⟨rfl, hB⟩
      go_wp2_with fail
      go_ret
      exact ⟨rfl, hB⟩
    · have hc1 : decide ((100 : Int) < (cols.length : Int)) = false := decide_eq_false (by omega)
      by_cases hf : fur.length < cols.length
      · have hc2 : (fur.length : Int) < (cols.length : Int) := by omega
        have hc2d : decide (fur.length < cols.length) = true := decide_eq_true hf
        go_enter Tryd.func12, Tryd.ntmps12
        go_wp2_with fail
        refine hup.out.mono ?_
        rintro e V ⟨rfl, hB⟩
        go_wp2_with fail
        go_ret
        exact ⟨rfl, hB⟩
      · have hc2 : ¬ (fur.length : Int) < (cols.length : Int) := by omega
        have hc2d : decide (fur.length < cols.length) = false := decide_eq_false hf
        have hpos : 0 < cols.length := by omega
        obtain ⟨b, off, rfl, hcell⟩ : ∃ b off, a = some ⟨b, off, none⟩ ∧ ∀ i (h : i < cols.length), w.cell? ⟨b, off + i, none⟩ = some (.int .u8 cols[i].toNat) := by
          rcases hr'.out with h | h
          · subst h; simp at hpos
          · exact h
        obtain ⟨b2, off2, rfl, hcell2⟩ : ∃ b off, a2 = some ⟨b, off, none⟩ ∧ ∀ i (h : i < fur.length), w.cell? ⟨b, off + i, none⟩ = some (.bool fur[i]) := by
          rcases hr2'.out with h | h
          · subst h; simp only [List.length_nil] at hf; omega
          · exact h
        have hcell' := Lib.hid hcell
        have hcell2' := Lib.hid hcell2
        obtain ⟨C, hC⟩ : ∃ C, colC cols fur = C := ⟨_, rfl⟩
        have hCl : Hid (C.length = cols.length) := by unfold Hid; rw [← hC, colC_len]
        obtain ⟨b0, hb0⟩ : ∃ x : Nat, (cols[0]).toNat = x := ⟨_, rfl⟩
        have hb255 : b0 ≤ 255 := by rw [← hb0]; have := cols[0].toNat_lt; omega
        have hC0 : Hid (∀ i (h : i < C.length) (h2 : i < fur.length) (h3 : i < cols.length), C[i] = if 0 < i ∧ fur[i] = true then 1 + (b0 : Int) + 1 + ((cols[i]).toNat : Int) else 1 + (b0 : Int)) := by
          subst hC
          intro i h h2 h3
          rw [colC_at]
          unfold colF
          rw [show fur.getD i false = fur[i] by simp [List.getD, h2], show cols.getD 0 0 = cols[0] by simp [List.getD, hpos], show cols.getD i 0 = cols[i] by simp [List.getD, h3], hb0]
        have hc00 := hcell 0 hpos
        rw [hb0, Nat.add_zero] at hc00
        have hc00' := Lib.hid hc00
        have hCge : Hid (∀ c ∈ C, 1 + (b0 : Int) ≤ c) := by
          intro c hc
          obtain ⟨i, hi, rfl⟩ := List.getElem_of_mem hc
          have hl := hCl.out
          rw [hC0.out i hi (by omega) (by omega)]
          split <;> omega
        have hw0 : IntKind.i64.wrap (1 + (b0 : Int)) = 1 + (b0 : Int) := IntWalk.i64_in _ (by omega)
        have hfl : cols.length ≤ fur.length := by omega
        have h100' : cols.length ≤ 100 := by omega
        clear hcell hcell2 hC hb0 hc00 h100 hf h0
        go_enter Tryd.func12, Tryd.ntmps12
        go_wp2_with fail
        refine hup.out.mono ?_
        rintro e W1 ⟨rfl, hB⟩
        have hbW1 := Lib.hid hB
        have hq0 := Keeps.of_below hB _ _ hc00'.out
        clear hB
        go_wp2_with fail
        go_loopw [6, 8, 9] (fun v p i W => ∃ (k n : Nat) (va : Option Addr) (vc : Nat), k ≤ cols.length ∧ i = .int .i64 k ∧ p = .int .i64 n ∧ v = .slice va (2 * k) vc ∧ n ≤ k ∧ Hid (n = inB (1 + (b0 : Int)) C k) ∧ Hid (W.ownsRow W1.heap.size 33 5 (.slice va (2 * k) vc) (2 * k) (tkCs (linesT 1 (C.take k)))) ∧ Hid (Below W1.heap.size W1 W)) (fun _ _ i _ => cols.length - (intOf i).toNat)
        case atStart => exact ⟨0, 0, none, 0, Nat.zero_le _, rfl, rfl, rfl, Nat.le_refl _, (inB_zero _ _).symm, ⟨rfl, .inl ⟨rfl, rfl⟩⟩, Below.refl _ _⟩
        case round =>
          obtain ⟨k, n, va, vc, hk, rfl, rfl, rfl, hnk, hcn, hown, hbW⟩ := hrel
          obtain ⟨Wr, rfl⟩ : ∃ W, W = wr := ⟨_, rfl⟩
          clear hw0 hq0
          by_cases hlt : k < cols.length
          · have hki : (k : Int) < (cols.length : Int) := by omega
            have hltC : k < C.length := by have := hCl.out; omega
            have hbb := Lib.hid (hbW1.out.trans (hbW.out.mono hbW1.out.size))
            have hCk0 := hC0.out k hltC (by omega) hlt
            cases k with
            | zero =>
              have hCk : Hid (C[0] = 1 + (b0 : Int)) := by unfold Hid; rw [hCk0, if_neg (by omega)]
              clear hCk0
              obtain rfl : n = 0 := by omega
              have hb2 : Below Wr.heap.size Wr (Wr.alloc (.cells (tkCs [xT (1 + (b0 : Int)) (((0 : Nat) : Int) + 1), yT (1 + (b0 : Int)) (((0 : Nat) : Int) + 1)]).toArray 33)) := (Below.refl _ _).alloc (Nat.le_refl _) _
              have hown2 := Lib.hid (ownsRow_heap hown.out (w' := Wr.alloc (.cells (tkCs [xT (1 + (b0 : Int)) (((0 : Nat) : Int) + 1), yT (1 + (b0 : Int)) (((0 : Nat) : Int) + 1)]).toArray 33)) fun g hg => hb2.block g (ownBlock_ge hown.out hg).2)
              have hnews : ∀ ad, some (⟨Wr.heap.size, 0, none⟩ : Addr) = some ad → ∀ j u, (tkCs [xT (1 + (b0 : Int)) (((0 : Nat) : Int) + 1), yT (1 + (b0 : Int)) (((0 : Nat) : Int) + 1)])[j]? = some u → (Wr.alloc (.cells (tkCs [xT (1 + (b0 : Int)) (((0 : Nat) : Int) + 1), yT (1 + (b0 : Int)) (((0 : Nat) : Int) + 1)]).toArray 33)).cell? (ad.add j) = some u := by
                intro ad had
                cases had
                exact cells_new Wr _ _
              have hnews' := Lib.hid hnews
              have hzW := Lib.hid hbW.out.size
              have hb2' := Lib.hid hb2
              obtain ⟨i0, hi, hz0, hz1', hz2'⟩ := info_of Tryd.infoTk
              have hq1 : 2 * 0 + 2 ≤ maxLen := by unfold maxLen; omega
              have hq2 : (2 * 0 + 2) * 48 ≤ 140737488355328 := by omega
              have hq3 : W1.heap.size ≤ (Wr.alloc (.cells (tkCs [xT (1 + (b0 : Int)) (((0 : Nat) : Int) + 1), yT (1 + (b0 : Int)) (((0 : Nat) : Int) + 1)]).toArray 33)).heap.size := Nat.le_trans hzW.out hb2.size
              have hq4 := tkCs_one [xT (1 + (b0 : Int)) (((0 : Nat) : Int) + 1), yT (1 + (b0 : Int)) (((0 : Nat) : Int) + 1)]
              have hq1' := Lib.hid hq1
              have hq2' := Lib.hid hq2
              have hq3' := Lib.hid hq3
              have hq4' := Lib.hid hq4
              have hw1 : IntKind.i64.wrap (((0 : Nat) : Int) + 1) = ((0 : Nat) : Int) + 1 := IntWalk.i64_in _ (by omega)
              have hw2 : IntKind.i64.wrap (1 + (b0 : Int) + 2) = 1 + (b0 : Int) + 2 := IntWalk.i64_in _ (by omega)
              clear hnews hb2 hq1 hq2 hq3 hq4
              go_wp2_with (at_builtin; go_must (refine wpList_append_own_src rfl (Operand.tmp 65) (Operand.tmp 75) 24 rfl W1.heap.size 33 i0 (.agg #[.int .i64 0, .string ⟨#[]⟩, .int .i64 0, .int .i64 0, .int .i64 0]) 5 48 Tryd.underlying24 hi hz0 hz1' hz2' rfl (by decide) _ _ _ rfl hown2.out (some ⟨Wr.heap.size, 0, none⟩) 2 2 (tkCs [xT (1 + (b0 : Int)) (((0 : Nat) : Int) + 1), yT (1 + (b0 : Int)) (((0 : Nat) : Int) + 1)]) rfl (fun e => (nomatch e)) rfl hnews'.out hq4'.out hq1'.out hq2'.out hq3'.out ?_); intro v2 w3 hown3 hg3 _; have hb3 := Lib.hid ((hbW.out.trans (hb2'.out.mono hzW.out)).grown hg3 hq3'.out (fun q e => (ownBlock_ge hown2.out e).1)); obtain ⟨va2, vc2, rfl, _⟩ := tk_own_form hown3; have hown3' := Lib.hid hown3; clear hown3 hg3)
              go_roundw
              case rel => exact ⟨0 + 1, 0, va2, vc2, by omega, by go_num, by go_num, by simp <;> omega, by omega, (inB_one _ _).symm, by have h := hown3'.out; unfold Hid; rw [take_lines hltC, tkCs_append, hCk.out]; rw [show 2 * (0 + 1) = 2 * 0 + 2 by omega]; exact h, hb3⟩
              case measure => simp [intOf] <;> omega
            | succ k =>
              have hkf : k + 1 < fur.length := by omega
              obtain ⟨fv, hfv⟩ : ∃ x, fur[k + 1] = x := ⟨_, rfl⟩
              obtain ⟨cv, hcv⟩ : ∃ x : Nat, (cols[k + 1]).toNat = x := ⟨_, rfl⟩
              have hcv255 : cv ≤ 255 := by rw [← hcv]; have := cols[k + 1].toNat_lt; omega
              have q2 := Keeps.of_below hbb.out _ _ (hcell2'.out (k + 1) hkf)
              have q1 := Keeps.of_below hbb.out _ _ (hcell'.out (k + 1) hlt)
              rw [hfv] at q2 hCk0
              rw [hcv] at q1 hCk0
              have hkg : (0 : Int) < ((k + 1 : Nat) : Int) := by omega
              have hkgd : decide ((0 : Int) < ((k + 1 : Nat) : Int)) = true := decide_eq_true hkg
              have hkg2 : (0 : Int) < (k : Int) + 1 := by omega
              have hkgd2 : decide ((0 : Int) < (k : Int) + 1) = true := decide_eq_true hkg2
              have hkf2 : (k : Int) + 1 < (fur.length : Int) := by omega
              clear hfv hcv
              cases fv with
              | true =>
                have hCk : Hid (C[k + 1] = 1 + (b0 : Int) + 1 + (cv : Int)) := by unfold Hid; rw [hCk0, if_pos ⟨by omega, rfl⟩]
                have hin : Hid (n = inB (1 + (b0 : Int)) C (k + 2)) := by have h := inB_succ (b := 1 + (b0 : Int)) hltC; rw [hCk.out, if_neg (by omega), ← hcn.out] at h; exact h.symm
                have hv1 : IntKind.i64.wrap (1 + (b0 : Int) + 1) = 1 + (b0 : Int) + 1 := IntWalk.i64_in _ (by omega)
                have hv2 : IntKind.i64.wrap (1 + (b0 : Int) + 1 + (cv : Int)) = 1 + (b0 : Int) + 1 + (cv : Int) := IntWalk.i64_in _ (by omega)
                clear hCk0
                have hb2 : Below Wr.heap.size Wr (Wr.alloc (.cells (tkCs [xT (1 + (b0 : Int) + 1 + (cv : Int)) (((k + 1 : Nat) : Int) + 1), yT (1 + (b0 : Int) + 1 + (cv : Int)) (((k + 1 : Nat) : Int) + 1)]).toArray 33)) := (Below.refl _ _).alloc (Nat.le_refl _) _
                have hown2 := Lib.hid (ownsRow_heap hown.out (w' := Wr.alloc (.cells (tkCs [xT (1 + (b0 : Int) + 1 + (cv : Int)) (((k + 1 : Nat) : Int) + 1), yT (1 + (b0 : Int) + 1 + (cv : Int)) (((k + 1 : Nat) : Int) + 1)]).toArray 33)) fun g hg => hb2.block g (ownBlock_ge hown.out hg).2)
                have hnews : ∀ ad, some (⟨Wr.heap.size, 0, none⟩ : Addr) = some ad → ∀ j u, (tkCs [xT (1 + (b0 : Int) + 1 + (cv : Int)) (((k + 1 : Nat) : Int) + 1), yT (1 + (b0 : Int) + 1 + (cv : Int)) (((k + 1 : Nat) : Int) + 1)])[j]? = some u → (Wr.alloc (.cells (tkCs [xT (1 + (b0 : Int) + 1 + (cv : Int)) (((k + 1 : Nat) : Int) + 1), yT (1 + (b0 : Int) + 1 + (cv : Int)) (((k + 1 : Nat) : Int) + 1)]).toArray 33)).cell? (ad.add j) = some u := by
                  intro ad had
                  cases had
                  exact cells_new Wr _ _
                have hnews' := Lib.hid hnews
                have hzW := Lib.hid hbW.out.size
                have hb2' := Lib.hid hb2
                obtain ⟨i0, hi, hz0, hz1', hz2'⟩ := info_of Tryd.infoTk
                have hq1 : 2 * (k + 1) + 2 ≤ maxLen := by unfold maxLen; omega
                have hq2 : (2 * (k + 1) + 2) * 48 ≤ 140737488355328 := by omega
                have hq3 : W1.heap.size ≤ (Wr.alloc (.cells (tkCs [xT (1 + (b0 : Int) + 1 + (cv : Int)) (((k + 1 : Nat) : Int) + 1), yT (1 + (b0 : Int) + 1 + (cv : Int)) (((k + 1 : Nat) : Int) + 1)]).toArray 33)).heap.size := Nat.le_trans hzW.out hb2.size
                have hq4 := tkCs_one [xT (1 + (b0 : Int) + 1 + (cv : Int)) (((k + 1 : Nat) : Int) + 1), yT (1 + (b0 : Int) + 1 + (cv : Int)) (((k + 1 : Nat) : Int) + 1)]
                have hq1' := Lib.hid hq1
                have hq2' := Lib.hid hq2
                have hq3' := Lib.hid hq3
                have hq4' := Lib.hid hq4
                have hw1 : IntKind.i64.wrap (((k + 1 : Nat) : Int) + 1) = ((k + 1 : Nat) : Int) + 1 := IntWalk.i64_in _ (by omega)
                have hw2 : IntKind.i64.wrap (1 + (b0 : Int) + 1 + (cv : Int) + 2) = 1 + (b0 : Int) + 1 + (cv : Int) + 2 := IntWalk.i64_in _ (by omega)
                clear hnews hb2 hq1 hq2 hq3 hq4
                go_wp2_with (at_builtin; go_must (refine wpList_append_own_src rfl (Operand.tmp 65) (Operand.tmp 75) 24 rfl W1.heap.size 33 i0 (.agg #[.int .i64 0, .string ⟨#[]⟩, .int .i64 0, .int .i64 0, .int .i64 0]) 5 48 Tryd.underlying24 hi hz0 hz1' hz2' rfl (by decide) _ _ _ rfl hown2.out (some ⟨Wr.heap.size, 0, none⟩) 2 2 (tkCs [xT (1 + (b0 : Int) + 1 + (cv : Int)) (((k + 1 : Nat) : Int) + 1), yT (1 + (b0 : Int) + 1 + (cv : Int)) (((k + 1 : Nat) : Int) + 1)]) rfl (fun e => (nomatch e)) rfl hnews'.out hq4'.out hq1'.out hq2'.out hq3'.out ?_); intro v2 w3 hown3 hg3 _; have hb3 := Lib.hid ((hbW.out.trans (hb2'.out.mono hzW.out)).grown hg3 hq3'.out (fun q e => (ownBlock_ge hown2.out e).1)); obtain ⟨va2, vc2, rfl, _⟩ := tk_own_form hown3; have hown3' := Lib.hid hown3; clear hown3 hg3)
                go_roundw
                case rel => exact ⟨k + 1 + 1, n, va2, vc2, by omega, by go_num, by go_num, by simp <;> omega, by omega, hin, by have h := hown3'.out; unfold Hid; rw [take_lines hltC, tkCs_append, hCk.out]; rw [show 2 * (k + 1 + 1) = 2 * (k + 1) + 2 by omega]; exact h, hb3⟩
                case measure => simp [intOf] <;> omega
              | false =>
                have hCk : Hid (C[k + 1] = 1 + (b0 : Int)) := by unfold Hid; rw [hCk0, if_neg (by simp)]
                have hin : Hid (n + 1 = inB (1 + (b0 : Int)) C (k + 2)) := by have h := inB_succ (b := 1 + (b0 : Int)) hltC; rw [hCk.out, if_pos rfl, ← hcn.out] at h; exact h.symm
                have hv1 : IntKind.i64.wrap ((n : Int) + 1) = (n : Int) + 1 := IntWalk.i64_in _ (by omega)
                clear hCk0
                have hb2 : Below Wr.heap.size Wr (Wr.alloc (.cells (tkCs [xT (1 + (b0 : Int)) (((k + 1 : Nat) : Int) + 1), yT (1 + (b0 : Int)) (((k + 1 : Nat) : Int) + 1)]).toArray 33)) := (Below.refl _ _).alloc (Nat.le_refl _) _
                have hown2 := Lib.hid (ownsRow_heap hown.out (w' := Wr.alloc (.cells (tkCs [xT (1 + (b0 : Int)) (((k + 1 : Nat) : Int) + 1), yT (1 + (b0 : Int)) (((k + 1 : Nat) : Int) + 1)]).toArray 33)) fun g hg => hb2.block g (ownBlock_ge hown.out hg).2)
                have hnews : ∀ ad, some (⟨Wr.heap.size, 0, none⟩ : Addr) = some ad → ∀ j u, (tkCs [xT (1 + (b0 : Int)) (((k + 1 : Nat) : Int) + 1), yT (1 + (b0 : Int)) (((k + 1 : Nat) : Int) + 1)])[j]? = some u → (Wr.alloc (.cells (tkCs [xT (1 + (b0 : Int)) (((k + 1 : Nat) : Int) + 1), yT (1 + (b0 : Int)) (((k + 1 : Nat) : Int) + 1)]).toArray 33)).cell? (ad.add j) = some u := by
                  intro ad had
                  cases had
                  exact cells_new Wr _ _
                have hnews' := Lib.hid hnews
                have hzW := Lib.hid hbW.out.size
                have hb2' := Lib.hid hb2
                obtain ⟨i0, hi, hz0, hz1', hz2'⟩ := info_of Tryd.infoTk
                have hq1 : 2 * (k + 1) + 2 ≤ maxLen := by unfold maxLen; omega
                have hq2 : (2 * (k + 1) + 2) * 48 ≤ 140737488355328 := by omega
                have hq3 : W1.heap.size ≤ (Wr.alloc (.cells (tkCs [xT (1 + (b0 : Int)) (((k + 1 : Nat) : Int) + 1), yT (1 + (b0 : Int)) (((k + 1 : Nat) : Int) + 1)]).toArray 33)).heap.size := Nat.le_trans hzW.out hb2.size
                have hq4 := tkCs_one [xT (1 + (b0 : Int)) (((k + 1 : Nat) : Int) + 1), yT (1 + (b0 : Int)) (((k + 1 : Nat) : Int) + 1)]
                have hq1' := Lib.hid hq1
                have hq2' := Lib.hid hq2
                have hq3' := Lib.hid hq3
                have hq4' := Lib.hid hq4
                have hw1 : IntKind.i64.wrap (((k + 1 : Nat) : Int) + 1) = ((k + 1 : Nat) : Int) + 1 := IntWalk.i64_in _ (by omega)
                have hw2 : IntKind.i64.wrap (1 + (b0 : Int) + 2) = 1 + (b0 : Int) + 2 := IntWalk.i64_in _ (by omega)
                clear hnews hb2 hq1 hq2 hq3 hq4
                go_wp2_with (at_builtin; go_must (refine wpList_append_own_src rfl (Operand.tmp 65) (Operand.tmp 75) 24 rfl W1.heap.size 33 i0 (.agg #[.int .i64 0, .string ⟨#[]⟩, .int .i64 0, .int .i64 0, .int .i64 0]) 5 48 Tryd.underlying24 hi hz0 hz1' hz2' rfl (by decide) _ _ _ rfl hown2.out (some ⟨Wr.heap.size, 0, none⟩) 2 2 (tkCs [xT (1 + (b0 : Int)) (((k + 1 : Nat) : Int) + 1), yT (1 + (b0 : Int)) (((k + 1 : Nat) : Int) + 1)]) rfl (fun e => (nomatch e)) rfl hnews'.out hq4'.out hq1'.out hq2'.out hq3'.out ?_); intro v2 w3 hown3 hg3 _; have hb3 := Lib.hid ((hbW.out.trans (hb2'.out.mono hzW.out)).grown hg3 hq3'.out (fun q e => (ownBlock_ge hown2.out e).1)); obtain ⟨va2, vc2, rfl, _⟩ := tk_own_form hown3; have hown3' := Lib.hid hown3; clear hown3 hg3)
                go_roundw
                case rel => exact ⟨k + 1 + 1, n + 1, va2, vc2, by omega, by go_num, by go_num, by simp <;> omega, by omega, hin, by have h := hown3'.out; unfold Hid; rw [take_lines hltC, tkCs_append, hCk.out]; rw [show 2 * (k + 1 + 1) = 2 * (k + 1) + 2 by omega]; exact h, hb3⟩
                case measure => simp [intOf] <;> omega
          · obtain rfl : k = cols.length := by omega
            obtain ⟨L, hL⟩ : ∃ L, linesT 1 (C.take cols.length) = L := ⟨_, rfl⟩
            have hLl : L.length = 2 * cols.length := by rw [← hL, linesT_len, List.length_take, hCl.out, Nat.min_self]
            have hm : ∃ m, layF L = .ok m ∧ m.length = 2 * cols.length + 2 + n ∧ (m.filter fun t => keyT t semiT).length = n ∧ (∃ h : 0 < m.length, m[0].text = [123]) ∧ ∃ h : 2 * cols.length + 1 + n < m.length, m[2 * cols.length + 1 + n].text = [125] := by
              have hcl := hCl.out
              have hge := hCge.out
              have hn := hcn.out
              have h00 := hC0.out 0 (by omega) (by omega) hpos
              rw [if_neg (by omega)] at h00
              rw [List.take_of_length_le (by omega)] at hL
              cases C with
              | nil => simp at hcl; omega
              | cons c cs =>
                simp only [List.getElem_cons_zero] at h00
                subst h00
                have hl := layF_lines (1 + (b0 : Int)) (by omega) cs (fun d hd => hge d (by simp [hd]))
                rw [hL] at hl
                have hin : inB (1 + (b0 : Int)) ((1 + (b0 : Int)) :: cs) cols.length = (cs.filter fun c => decide (c = 1 + (b0 : Int))).length := by
                  unfold inB
                  rw [List.take_of_length_le (by omega)]
                  rfl
                rw [List.length_cons] at hcl
                have hol := linesO_len (1 + (b0 : Int)) cs 2
                rw [hin] at hn
                refine ⟨_, hl, by simp only [List.length_cons, List.length_append, List.length_singleton, List.length_nil, hol]; omega, by rw [semi_out]; exact hn.symm, ⟨by simp, rfl⟩, ⟨by simp only [List.length_cons, List.length_append, List.length_singleton, List.length_nil, hol]; omega, ?_⟩⟩
                have e : 2 * cols.length + 1 + n = (mkT bOpen (xT (1 + (b0 : Int)) 1) :: xT (1 + (b0 : Int)) 1 :: yT (1 + (b0 : Int)) 1 :: linesO (1 + (b0 : Int)) 2 cs).length := by simp only [List.length_cons, hol]; omega
                have e2 : ∀ (A : List Tk) (x : Tk) (i : Nat) (h : i < (A ++ [x]).length), i = A.length → (A ++ [x])[i] = x := by
                  intro A x i h hi
                  subst hi
                  simp
                exact congrArg Tk.text (e2 (mkT bOpen (xT (1 + (b0 : Int)) 1) :: xT (1 + (b0 : Int)) 1 :: yT (1 + (b0 : Int)) 1 :: linesO (1 + (b0 : Int)) 2 cs) _ _ (by simp only [List.cons_append, List.length_cons, List.length_append, List.length_singleton, List.length_nil, hol]; omega) e)
            obtain ⟨m, hF, hml, hms, ⟨hm0, hmt0⟩, ⟨hmk, hmt1⟩⟩ := hm
            have hownL := hown.out
            rw [hL, ← hLl] at hownL
            obtain ⟨_, _, hve, hva, hvc⟩ := tk_own_form hownL
            simp only [Value.slice.injEq] at hve
            obtain ⟨rfl, _, rfl⟩ := hve
            have hlay := lay_Layout va L vc Wr (by omega) hvc hva (TkSl.own hownL).at.2.2
            rw [hF, hLl] at hlay
            have hlay' := Lib.hid hlay
            have hbb := Lib.hid (hbW1.out.trans (hbW.out.mono hbW1.out.size))
            have hms' := Lib.hid hms
            have hmt0' := Lib.hid hmt0
            have hmt1' := Lib.hid hmt1
            have hml' := Lib.hid hml
            have hm5 : m.length ≤ 400 := by omega
            have hn100 : n ≤ 100 := by omega
            clear hlay hF hL hownL hva hvc hms hmt0 hmt1 hml hLl hown
            go_wp2_with fail
            refine hlay'.out.mono ?_
            rintro e V1 ⟨⟨v, rfl, hv⟩, hB⟩
            obtain ⟨a1, c1, rfl⟩ := hv.open
            obtain ⟨W3, hW3⟩ : ∃ W, V1.alloc (.cells #[.int .i64 0, .int .i64 0] 26) = W := ⟨_, rfl⟩
            have hb1 : Below V1.heap.size V1 W3 := by rw [← hW3]; exact (Below.refl _ _).alloc (Nat.le_refl _) _
            have hbW3 := Lib.hid ((hbb.out.trans (hB.mono hbb.out.size)).trans (hb1.mono (hbb.out.trans (hB.mono hbb.out.size)).size))
            have hS2 := Lib.hid (hv.keeps (Keeps.of_below hb1))
            have hW3' := Lib.hid hW3
            clear hW3 hb1 hB hv
            go_upto_region 17 with (fail)
            rw [hW3'.out]
            go_wp2_with fail
            go_loopw [14, 15] (fun s i W => ∃ k : Nat, k ≤ m.length ∧ i = .int .i64 k ∧ s = .int .i64 (((m.take k).filter fun t => keyT t semiT).length : Int) ∧ W = W3) (fun _ i _ => m.length - (intOf i).toNat)
            case atStart => exact ⟨0, Nat.zero_le _, rfl, rfl, rfl⟩
            case round =>
              obtain ⟨k, hk, rfl, rfl, rfl⟩ := hrel
              by_cases hlt : k < m.length
              · have hki : (k : Int) < (m.length : Int) := by omega
                obtain ⟨b, off, rfl, hcell⟩ := hS2.out.at.2.2.at (by rintro rfl; simp at hlt)
                obtain ⟨g0, g1, _, _, _⟩ := hcell k hlt
                obtain ⟨t, ht⟩ : ∃ t, m[k] = t := ⟨_, rfl⟩
                rw [ht] at g0 g1
                have hts := Lib.hid (take_semi hlt ht)
                obtain ⟨sn, hsn⟩ : ∃ x, ((m.take k).filter fun t => keyT t semiT).length = x := ⟨_, rfl⟩
                have hsl : sn ≤ k := by
                  have := List.length_filter_le (fun t => keyT t semiT) (m.take k)
                  rw [hsn, List.length_take] at this
                  omega
                rw [hsn] at hts ⊢
                have hw : IntKind.i64.wrap ((sn : Int) + 1) = (sn : Int) + 1 := IntWalk.i64_in _ (by omega)
                clear hcell ht hsn
                by_cases h4 : t.kind = 4
                · have k4 : (t.kind == 4) = true := by simpa using h4
                  by_cases hx : t.text = [59]
                  · have f1 := txt_t hx
                    have hs : Hid (((m.take (k + 1)).filter fun t => keyT t semiT).length = sn + 1) := by unfold Hid; rw [hts.out, if_pos (keyT_t (s := semiT) h4 hx)]
                    clear h4 hx
                    go_wp2_with fail
                    go_roundw
                    case rel => exact ⟨k + 1, by omega, by go_num, by rw [hs.out]; go_num, trivial⟩
                    case measure => simp [intOf]; omega
                  · have f1 := txt_f hx
                    have hs : Hid (((m.take (k + 1)).filter fun t => keyT t semiT).length = sn) := by unfold Hid; rw [hts.out, if_neg (by rw [keyT_x (s := semiT) hx]; simp)]; rfl
                    clear h4 hx
                    go_wp2_with fail
                    go_roundw
                    case rel => exact ⟨k + 1, by omega, by go_num, by rw [hs.out], trivial⟩
                    case measure => simp [intOf]; omega
                · have k4 : (t.kind == 4) = false := by simpa using h4
                  have hs : Hid (((m.take (k + 1)).filter fun t => keyT t semiT).length = sn) := by unfold Hid; rw [hts.out, if_neg (by rw [keyT_k (s := semiT) h4]; simp)]; rfl
                  clear h4
                  go_wp2_with fail
                  go_roundw
                  case rel => exact ⟨k + 1, by omega, by go_num, by rw [hs.out], trivial⟩
                  case measure => simp [intOf]; omega
              · obtain rfl : k = m.length := by omega
                rw [List.take_length, hms'.out, hml'.out]
                have hml := hml'.out
                obtain ⟨b, off, rfl, hcell⟩ := hS2.out.at.2.2.at (by rintro rfl; simp at hm0)
                obtain ⟨_, g1, _, _, _⟩ := hcell 0 hm0
                obtain ⟨_, e1, _, _, _⟩ := hcell (2 * cols.length + 1 + n) hmk
                rw [hmt0'.out] at g1
                rw [hmt1'.out] at e1
                rw [Nat.zero_mul, Nat.add_zero] at g1
                have u1 : ((tS [123]).toList == [123]) = true := txt_t rfl
                have u2 : ((tS [125]).toList == [125]) = true := txt_t rfl
                clear hcell hmt0' hmt1'
                go_wp2_with fail
                go_ret
                exact ⟨rfl, hbW3.out⟩
end Go.Proofs.YtchdfjihflmloaaDoor
