/- The reference's newline, walked. -/
import Derived.Test.YtchdfjihflmloaaGreatDoorRlP
namespace Go.Proofs.YtchdfjihflmloaaGreatDoor
open Go.RowKit

theorem semi_yes {st1 : List Int} {q c : Int} (h : lastS st1 = q) (hg : 0 < q) (hc : q = c) : st1.head? = some c ∧ 0 < c := by
  subst hc
  cases st1 with
  | nil => simp [lastS] at h; omega
  | cons x r =>
    have h1 : x = q := h
    subst h1
    exact ⟨rfl, hg⟩
theorem semi_no {st1 : List Int} {q c : Int} (h : lastS st1 = q) (hn : ¬ (0 < q ∧ q = c)) : ¬ (st1.head? = some c ∧ 0 < c) := by
  rintro ⟨h1, h2⟩
  cases st1 with
  | nil => cases h1
  | cons x r =>
    have h3 : x = q := h
    simp at h1
    subst h3 h1
    exact hn ⟨h2, rfl⟩
set_option maxHeartbeats 4000000 in
set_option maxRecDepth 100000 in
theorem r03_newline {v : Value} {ts : List Tk} {st : List Int} (t : Tk) (W : World) (h : StV W v ts st) (hl : ts.length + st.length ≤ 1000000 - 1) :
    Calls Tryz.prog 22 #[v, tkV t] W fun e W' => ∃ z, e = .returned z ∧ StV W' z (ts ++ (lineS t st).1) (lineS t st).2 ∧ Below W.heap.size W W' := by
  obtain ⟨y0, y1, rfl⟩ : ∃ y0 y1, v = .agg #[y0, y1] := by obtain ⟨_, _, _, _, h1, _⟩ := h; exact ⟨_, _, h1⟩
  have hN0 := NlI.new (t := t) h
  obtain ⟨W1, hW1⟩ : ∃ V, ((W.alloc (.cells #[y0, y1] 49)).alloc (.cells #[.int .i64 t.kind, .string (tS t.text), .int .i64 t.num, .int .i64 t.line, .int .i64 t.col] 34)).alloc (.cells #[.slice none 0 0, .slice none 0 0] 49) = V := ⟨_, rfl⟩
  rw [hW1] at hN0
  have hN := Lib.hid hN0
  have hW1' := Lib.hid hW1
  clear hW1 hN0 h
  unfold tkV
  go_enter Tryz.func22, Tryz.ntmps22
  go_upto_region 0 with (fail)
  go_wp2_with fail
  rw [hW1'.out]
  obtain ⟨p, hp⟩ : ∃ p : Int → Bool, (fun c => decide (t.col < c)) = p := ⟨_, rfl⟩
  have hpc : Hid (∀ c, p c = decide (t.col < c)) := by subst hp; exact fun c => rfl
  have hln : Hid (lineS t st = (List.replicate (shutW p st).1 (mkT bShut t) ++ (if (shutW p st).2.head? = some t.col ∧ 0 < t.col then [mkT semiT t] else []), (shutW p st).2)) := by subst hp; rfl
  clear hp
  go_loopg [5] st.length (fun k _ wr => ∃ (x0 x1 : Value) (ts1 : List Tk) (st1 : List Int), k = st1.length ∧ Hid (NlI W t wr x0 x1 ts1 st1) ∧ Hid (ts1 ++ List.replicate (shutW p st1).1 (mkT bShut t) = ts ++ List.replicate (shutW p st).1 (mkT bShut t)) ∧ Hid ((shutW p st1).2 = (shutW p st).2) ∧ Hid (ts1.length + st1.length = ts.length + st.length))
  case atStart => exact ⟨y0, y1, ts, st, rfl, hN, rfl, rfl, rfl⟩
  case round =>
    obtain ⟨x0, x1, ts1, st1, rfl, hI, hA, hS, hn⟩ := hrel
    obtain ⟨X, rfl⟩ : ∃ X, X = wr := ⟨_, rfl⟩
    obtain ⟨q, hq⟩ : ∃ q, lastS st1 = q := ⟨_, rfl⟩
    have hla : Hid (∀ V, Below X.heap.size X V → Calls Tryz.prog 25 #[.agg #[x0, x1]] V fun e V' => e = .returned (.int .i64 q) ∧ Below V.heap.size V V') := fun V hV => by
      rw [← hq]; exact r03_last V (hI.out.stv.keeps (Keeps.of_below hV)) (by have := hn.out; omega)
    have hst : Hid (∀ V, Below X.heap.size X V → V.cell? ⟨W.heap.size, 0, none⟩ = some x0 ∧ V.cell? ⟨W.heap.size, 1, none⟩ = some x1 ∧ V.cell? ⟨W.heap.size + 1, 4, none⟩ = some (.int .i64 t.col)) := fun V hV => by
      obtain ⟨⟨a0, a1, _⟩, ⟨_, _, _, _, b4⟩, _⟩ := (hI.out.below hV).cells
      exact ⟨a0, a1, b4⟩
    have hq' := Lib.hid hq
    clear hq
    by_cases hg : 0 < q
    · have hgd : decide (0 < q) = true := decide_eq_true hg
      obtain ⟨b2, hb2⟩ : ∃ b, decide (t.col < q) = b := ⟨_, rfl⟩
      have hb2' := Lib.hid hb2
      have hg' := Lib.hid hg
      clear hg
      go_upto_region 1 with (fail)
      refine wp_region_inv (fun f a Vr => ∃ x : Nat → Value, a = ⟨#[.agg #[y0, y1], .agg #[.int .i64 t.kind, .string (tS t.text), .int .i64 t.num, .int .i64 t.line, .int .i64 t.col], .pointer (some ⟨W.heap.size, 0, none⟩), .pointer (some ⟨W.heap.size + 1, 0, none⟩), .pointer (some ⟨W.heap.size + 2, 0, none⟩), x 0, x 1, x 2, x 3, x 4, x 5, x 6, x 7, x 8, x 9, u15, u16, u17, u18, undef, undef, undef, undef, undef, undef, undef, undef, undef, undef, undef, undef, undef, undef], []⟩ ∧ (Below X.heap.size X Vr) ∧ VO [some (.agg #[x0, x1]), some (.int .i64 q), some (.bool true), some (.bool true), some (.agg #[x0, x1]), some (.int .i64 q), some (.pointer (some ⟨W.heap.size + 1, 4, none⟩)), some (.int .i64 t.col), some (.bool b2), some (.bool b2)] f x) (by kernel_rfl) (by kernel_rfl) (rs := [0, 1, 2, 3, 4, 5, 6, 7, 8, 9]) (by kernel_rfl) ?start ?steps ?last
      case start => exact ⟨fun i => ([u5, u6, u7, u8, u9, u10, u11, u12, u13, u14] : List Value).getD i undef, rfl, (Below.refl _ _).drew, VO.nil _ _⟩
      case steps =>
        refine (KeepsI.cons (ds := []) rfl (by kernel_rfl) ?s0 (KeepsI.cons (ds := [0]) rfl (by kernel_rfl) ?s1 (KeepsI.cons (ds := [1]) rfl (by kernel_rfl) ?s2 (KeepsI.cons (ds := [2]) rfl (by kernel_rfl) ?s3 (KeepsI.cons (ds := [3]) rfl (by kernel_rfl) ?s4 (KeepsI.cons (ds := [4, 3]) rfl (by kernel_rfl) ?s5 (KeepsI.cons (ds := [3]) rfl (by kernel_rfl) ?s6 (KeepsI.cons (ds := [6, 3]) rfl (by kernel_rfl) ?s7 (KeepsI.cons (ds := [5, 7, 3]) rfl (by kernel_rfl) ?s8 (KeepsI.cons (ds := [3, 8]) rfl (by kernel_rfl) ?s9 KeepsI.nil))))))))))
        all_goals (intro f a Vr hf hd hcl hI K' hK; obtain ⟨x, rfl, c0, hx⟩ := hI)
        case s0 =>
          have n1 : f 1 = false := by cases h : f 1; rfl; exact absurd (hcl 1 0 (by kernel_rfl) (h)) (by rw [hf]; simp)
          have n5 : f 5 = false := by cases h : f 5; rfl; exact absurd (hcl 1 0 (by kernel_rfl) (hcl 2 1 (by kernel_rfl) (hcl 3 2 (by kernel_rfl) (hcl 5 3 (by kernel_rfl) (h))))) (by rw [hf]; simp)
          obtain ⟨a0, a1, b4⟩ := hst.out Vr c0
          clear n1 n5
          go_simp
          exact hK _ _ ⟨(upd x 0 (.agg #[x0, x1])), rfl, c0, (hx.set 0 rfl)⟩
        case s1 =>
          have e0 := hx.get 0 rfl (hd 0 (by simp))
          rw [e0]
          clear e0
          have n5 : f 5 = false := by cases h : f 5; rfl; exact absurd (hcl 2 1 (by kernel_rfl) (hcl 3 2 (by kernel_rfl) (hcl 5 3 (by kernel_rfl) (h)))) (by rw [hf]; simp)
          go_simp
          refine (hla.out Vr c0).mono ?_
          rintro e V ⟨rfl, hB⟩
          exact hK _ _ ⟨upd (upd x 0 (.agg #[x0, x1])) 1 (.int .i64 q), rfl, c0.trans (hB.mono c0.size), (hx.put 0 rfl).set 1 rfl⟩
        case s2 =>
          have e1 := hx.get 1 rfl (hd 1 (by simp))
          rw [e1]
          clear e1
          go_simp
          exact hK _ _ ⟨(upd (upd x 1 (.int .i64 q)) 2 (.bool true)), rfl, c0, ((hx.put 1 rfl).set 2 rfl)⟩
        case s3 =>
          have e2 := hx.get 2 rfl (hd 2 (by simp))
          rw [e2]
          clear e2
          go_simp
          exact hK _ _ ⟨(upd (upd x 2 (.bool true)) 3 (.bool true)), rfl, c0, ((hx.put 2 rfl).set 3 rfl)⟩
        case s4 =>
          have e3 := hx.get 3 rfl (hd 3 (by simp))
          rw [e3]
          clear e3
          have n5 : f 5 = false := by cases h : f 5; rfl; exact absurd (hcl 5 4 (by kernel_rfl) (h)) (by rw [hf]; simp)
          have y1 : f 1 = true := hcl 2 1 (by kernel_rfl) (hcl 3 2 (by kernel_rfl) (hd 3 (by simp)))
          obtain ⟨a0, a1, b4⟩ := hst.out Vr c0
          clear n5 y1
          go_simp
          exact hK _ _ ⟨(upd (upd x 3 (.bool true)) 4 (.agg #[x0, x1])), rfl, c0, ((hx.put 3 rfl).set 4 rfl)⟩
        case s5 =>
          have e4 := hx.get 4 rfl (hd 4 (by simp))
          have e3 := hx.get 3 rfl (hd 3 (by simp))
          rw [e4, e3]
          clear e4 e3
          have y1 : f 1 = true := hcl 2 1 (by kernel_rfl) (hcl 3 2 (by kernel_rfl) (hd 3 (by simp)))
          go_simp
          refine (hla.out Vr c0).mono ?_
          rintro e V ⟨rfl, hB⟩
          exact hK _ _ ⟨upd (upd (upd x 4 (.agg #[x0, x1])) 3 (.bool true)) 5 (.int .i64 q), rfl, c0.trans (hB.mono c0.size), ((hx.put 4 rfl).put 3 rfl).set 5 rfl⟩
        case s6 =>
          have e3 := hx.get 3 rfl (hd 3 (by simp))
          rw [e3]
          clear e3
          go_simp
          exact hK _ _ ⟨(upd (upd x 3 (.bool true)) 6 (.pointer (some ⟨W.heap.size + 1, 4, none⟩))), rfl, c0, ((hx.put 3 rfl).set 6 rfl)⟩
        case s7 =>
          have e6 := hx.get 6 rfl (hd 6 (by simp))
          have e3 := hx.get 3 rfl (hd 3 (by simp))
          rw [e6, e3]
          clear e6 e3
          have y1 : f 1 = true := hcl 2 1 (by kernel_rfl) (hcl 3 2 (by kernel_rfl) (hd 3 (by simp)))
          obtain ⟨a0, a1, b4⟩ := hst.out Vr c0
          clear y1
          go_simp
          exact hK _ _ ⟨(upd (upd (upd x 6 (.pointer (some ⟨W.heap.size + 1, 4, none⟩))) 3 (.bool true)) 7 (.int .i64 t.col)), rfl, c0, (((hx.put 6 rfl).put 3 rfl).set 7 rfl)⟩
        case s8 =>
          have e5 := hx.get 5 rfl (hd 5 (by simp))
          have e7 := hx.get 7 rfl (hd 7 (by simp))
          have e3 := hx.get 3 rfl (hd 3 (by simp))
          rw [e5, e7, e3]
          clear e5 e7 e3
          go_simp
          exact hK _ _ ⟨(upd (upd (upd (upd x 5 (.int .i64 q)) 7 (.int .i64 t.col)) 3 (.bool true)) 8 (.bool b2)), rfl, c0, ((((hx.put 5 rfl).put 7 rfl).put 3 rfl).set 8 rfl)⟩
        case s9 =>
          have e3 := hx.get 3 rfl (hd 3 (by simp))
          have e8 := hx.get 8 rfl (hd 8 (by simp))
          rw [e3, e8]
          clear e3 e8
          go_simp
          exact hK _ _ ⟨(upd (upd (upd x 3 (.bool true)) 8 (.bool b2)) 9 (.bool b2)), rfl, c0, (((hx.put 3 rfl).put 8 rfl).set 9 rfl)⟩
      case last =>
        rintro f a Vr hf ⟨x, rfl, c0, hx⟩
        have e9 := hx.get 9 rfl (hf 9 (by simp))
        rw [e9]
        clear hx e9
        obtain ⟨V, rfl⟩ : ∃ V, V = Vr := ⟨_, rfl⟩
        obtain ⟨z, rfl⟩ : ∃ z, z = x := ⟨_, rfl⟩
        have hIV := Lib.hid (hI.out.below c0)
        clear c0 hst hla
        clear hb2
        cases b2 with
        | true =>
          obtain ⟨r, hr⟩ : ∃ r, st1 = q :: r := by
            cases st1 with
            | nil => have h1 := hq'.out; have h2 := hg'.out; simp [lastS] at h1; omega
            | cons c r => exact ⟨r, by have h1 : c = q := hq'.out; rw [h1]⟩
          subst hr
          have hstep : Hid (shutW p (q :: r) = ((shutW p r).1 + 1, (shutW p r).2)) := shutW_go ⟨hg'.out, by rw [hpc.out]; exact hb2'.out⟩
          obtain ⟨⟨a0, a1, af⟩, ⟨b0, b1, b2, b3, b4⟩, _⟩ := hIV.out.cells
          have hlen : Hid (ts1.length ≤ 1000000 ∧ r.length ≤ 1000000) := by have := hn.out; rw [List.length_cons] at this; unfold Hid; omega
          have hput := Lib.hid (r03_put bShut t V hIV.out.stv hlen.out.1)
          unfold tkV at hput
          go_wp2_with fail
          refine hput.out.mono ?_
          rintro e V2 ⟨y, rfl, hy, hB⟩
          have hI2 := Lib.hid (hIV.out.below hB)
          have hsh := Lib.hid (r03_shut V2 hy hlen.out.2)
          clear hB a0 a1 af b0 b1 b2 b3 b4 hy
          go_wp2_with fail
          refine hsh.out.mono ?_
          rintro e V3 ⟨y2, rfl, hy2, hB⟩
          have hI3 := hI2.out.below hB
          clear hB
          obtain ⟨ya, yn, yc, yb, ym, yd, rfl⟩ := hy2.agg
          obtain ⟨⟨a0, a1, af⟩, _, _, _, _⟩ := hI3.cells
          have hI4 := Lib.hid (hI3.set hy2)
          clear hI3 hy2
          go_wp2_with fail
          go_roundg r.length
          case measure => simp
          case rel => exact ⟨_, _, _, r, rfl, hI4, by unfold Hid; rw [← hA.out, hstep.out, List.append_assoc, List.singleton_append, ← List.replicate_succ], by unfold Hid; rw [← hS.out, hstep.out], by have := hn.out; unfold Hid; simp at this ⊢; omega⟩
        | false =>
          have hsh : Hid (shutW p st1 = (0, st1)) := by
            unfold Hid
            cases st1 with
            | nil => rfl
            | cons c r =>
              have hc : c = q := hq'.out
              exact shutW_stop (fun h => by subst hc; have h2 := h.2; rw [hpc.out, hb2'.out] at h2; cases h2)
          have hA2 : Hid (ts1 = ts ++ List.replicate (shutW p st).1 (mkT bShut t)) := by have h := hA.out; rw [hsh.out] at h; unfold Hid; simpa using h
          have hS2 : Hid (st1 = (shutW p st).2) := by have h := hS.out; rw [hsh.out] at h; exact h
          have hla : Hid (∀ Q, Below V.heap.size V Q → Calls Tryz.prog 25 #[.agg #[x0, x1]] Q fun e V' => e = .returned (.int .i64 q) ∧ Below Q.heap.size Q V') := fun Q hQ => by
            rw [← hq'.out]; exact r03_last Q (hIV.out.stv.keeps (Keeps.of_below hQ)) (by have := hn.out; omega)
          have hst : Hid (∀ Q, Below V.heap.size V Q → Q.cell? ⟨W.heap.size, 0, none⟩ = some x0 ∧ Q.cell? ⟨W.heap.size, 1, none⟩ = some x1 ∧ Q.cell? ⟨W.heap.size + 1, 4, none⟩ = some (.int .i64 t.col)) := fun Q hQ => by
            obtain ⟨⟨a0, a1, _⟩, ⟨_, _, _, _, b4⟩, _⟩ := (hIV.out.below hQ).cells
            exact ⟨a0, a1, b4⟩
          obtain ⟨b3, hb3⟩ : ∃ b, (q == t.col) = b := ⟨_, rfl⟩
          have hb3' := Lib.hid hb3
          go_upto_region 3 with (fail)
          refine wp_region_inv (fun f a Vr => ∃ x : Nat → Value, a = ⟨#[.agg #[y0, y1], .agg #[.int .i64 t.kind, .string (tS t.text), .int .i64 t.num, .int .i64 t.line, .int .i64 t.col], .pointer (some ⟨W.heap.size, 0, none⟩), .pointer (some ⟨W.heap.size + 1, 0, none⟩), .pointer (some ⟨W.heap.size + 2, 0, none⟩), z 0, z 1, z 2, z 3, z 4, z 5, z 6, z 7, z 8, .bool false, u15, u16, u17, u18, x 0, x 1, x 2, x 3, x 4, x 5, x 6, x 7, x 8, x 9, undef, undef, undef, undef], []⟩ ∧ (Below V.heap.size V Vr) ∧ VO [some (.agg #[x0, x1]), some (.int .i64 q), some (.bool true), some (.bool true), some (.agg #[x0, x1]), some (.int .i64 q), some (.pointer (some ⟨W.heap.size + 1, 4, none⟩)), some (.int .i64 t.col), some (.bool b3), some (.bool b3)] f x) (by kernel_rfl) (by kernel_rfl) (rs := [0, 1, 2, 3, 4, 5, 6, 7, 8, 9]) (by kernel_rfl) ?kstart ?ksteps ?klast
          case kstart => exact ⟨fun _ => undef, rfl, (Below.refl _ _).drew, VO.nil _ _⟩
          case ksteps =>
            refine (KeepsI.cons (ds := []) rfl (by kernel_rfl) ?ks0 (KeepsI.cons (ds := [0]) rfl (by kernel_rfl) ?ks1 (KeepsI.cons (ds := [1]) rfl (by kernel_rfl) ?ks2 (KeepsI.cons (ds := [2]) rfl (by kernel_rfl) ?ks3 (KeepsI.cons (ds := [3]) rfl (by kernel_rfl) ?ks4 (KeepsI.cons (ds := [4, 3]) rfl (by kernel_rfl) ?ks5 (KeepsI.cons (ds := [3]) rfl (by kernel_rfl) ?ks6 (KeepsI.cons (ds := [6, 3]) rfl (by kernel_rfl) ?ks7 (KeepsI.cons (ds := [5, 7, 3]) rfl (by kernel_rfl) ?ks8 (KeepsI.cons (ds := [3, 8]) rfl (by kernel_rfl) ?ks9 KeepsI.nil))))))))))
            all_goals (intro f a Vr hf hd hcl hI K' hK; obtain ⟨x, rfl, c0, hx⟩ := hI)
            case ks0 =>
              have n1 : f 1 = false := by cases h : f 1; rfl; exact absurd (hcl 1 0 (by kernel_rfl) (h)) (by rw [hf]; simp)
              have n5 : f 5 = false := by cases h : f 5; rfl; exact absurd (hcl 1 0 (by kernel_rfl) (hcl 2 1 (by kernel_rfl) (hcl 3 2 (by kernel_rfl) (hcl 5 3 (by kernel_rfl) (h))))) (by rw [hf]; simp)
              obtain ⟨a0, a1, b4⟩ := hst.out Vr c0
              clear n1 n5
              go_simp
              exact hK _ _ ⟨(upd x 0 (.agg #[x0, x1])), rfl, c0, (hx.set 0 rfl)⟩
            case ks1 =>
              have e0 := hx.get 0 rfl (hd 0 (by simp))
              rw [e0]
              clear e0
              have n5 : f 5 = false := by cases h : f 5; rfl; exact absurd (hcl 2 1 (by kernel_rfl) (hcl 3 2 (by kernel_rfl) (hcl 5 3 (by kernel_rfl) (h)))) (by rw [hf]; simp)
              go_simp
              refine (hla.out Vr c0).mono ?_
              rintro e V ⟨rfl, hB⟩
              exact hK _ _ ⟨upd (upd x 0 (.agg #[x0, x1])) 1 (.int .i64 q), rfl, c0.trans (hB.mono c0.size), (hx.put 0 rfl).set 1 rfl⟩
            case ks2 =>
              have e1 := hx.get 1 rfl (hd 1 (by simp))
              rw [e1]
              clear e1
              go_simp
              exact hK _ _ ⟨(upd (upd x 1 (.int .i64 q)) 2 (.bool true)), rfl, c0, ((hx.put 1 rfl).set 2 rfl)⟩
            case ks3 =>
              have e2 := hx.get 2 rfl (hd 2 (by simp))
              rw [e2]
              clear e2
              go_simp
              exact hK _ _ ⟨(upd (upd x 2 (.bool true)) 3 (.bool true)), rfl, c0, ((hx.put 2 rfl).set 3 rfl)⟩
            case ks4 =>
              have e3 := hx.get 3 rfl (hd 3 (by simp))
              rw [e3]
              clear e3
              have n5 : f 5 = false := by cases h : f 5; rfl; exact absurd (hcl 5 4 (by kernel_rfl) (h)) (by rw [hf]; simp)
              have y1 : f 1 = true := hcl 2 1 (by kernel_rfl) (hcl 3 2 (by kernel_rfl) (hd 3 (by simp)))
              obtain ⟨a0, a1, b4⟩ := hst.out Vr c0
              clear n5 y1
              go_simp
              exact hK _ _ ⟨(upd (upd x 3 (.bool true)) 4 (.agg #[x0, x1])), rfl, c0, ((hx.put 3 rfl).set 4 rfl)⟩
            case ks5 =>
              have e4 := hx.get 4 rfl (hd 4 (by simp))
              have e3 := hx.get 3 rfl (hd 3 (by simp))
              rw [e4, e3]
              clear e4 e3
              have y1 : f 1 = true := hcl 2 1 (by kernel_rfl) (hcl 3 2 (by kernel_rfl) (hd 3 (by simp)))
              go_simp
              refine (hla.out Vr c0).mono ?_
              rintro e V ⟨rfl, hB⟩
              exact hK _ _ ⟨upd (upd (upd x 4 (.agg #[x0, x1])) 3 (.bool true)) 5 (.int .i64 q), rfl, c0.trans (hB.mono c0.size), ((hx.put 4 rfl).put 3 rfl).set 5 rfl⟩
            case ks6 =>
              have e3 := hx.get 3 rfl (hd 3 (by simp))
              rw [e3]
              clear e3
              go_simp
              exact hK _ _ ⟨(upd (upd x 3 (.bool true)) 6 (.pointer (some ⟨W.heap.size + 1, 4, none⟩))), rfl, c0, ((hx.put 3 rfl).set 6 rfl)⟩
            case ks7 =>
              have e6 := hx.get 6 rfl (hd 6 (by simp))
              have e3 := hx.get 3 rfl (hd 3 (by simp))
              rw [e6, e3]
              clear e6 e3
              have y1 : f 1 = true := hcl 2 1 (by kernel_rfl) (hcl 3 2 (by kernel_rfl) (hd 3 (by simp)))
              obtain ⟨a0, a1, b4⟩ := hst.out Vr c0
              clear y1
              go_simp
              exact hK _ _ ⟨(upd (upd (upd x 6 (.pointer (some ⟨W.heap.size + 1, 4, none⟩))) 3 (.bool true)) 7 (.int .i64 t.col)), rfl, c0, (((hx.put 6 rfl).put 3 rfl).set 7 rfl)⟩
            case ks8 =>
              have e5 := hx.get 5 rfl (hd 5 (by simp))
              have e7 := hx.get 7 rfl (hd 7 (by simp))
              have e3 := hx.get 3 rfl (hd 3 (by simp))
              rw [e5, e7, e3]
              clear e5 e7 e3
              go_simp
              exact hK _ _ ⟨(upd (upd (upd (upd x 5 (.int .i64 q)) 7 (.int .i64 t.col)) 3 (.bool true)) 8 (.bool b3)), rfl, c0, ((((hx.put 5 rfl).put 7 rfl).put 3 rfl).set 8 rfl)⟩
            case ks9 =>
              have e3 := hx.get 3 rfl (hd 3 (by simp))
              have e8 := hx.get 8 rfl (hd 8 (by simp))
              rw [e3, e8]
              clear e3 e8
              go_simp
              exact hK _ _ ⟨(upd (upd (upd x 3 (.bool true)) 8 (.bool b3)) 9 (.bool b3)), rfl, c0, (((hx.put 3 rfl).put 8 rfl).set 9 rfl)⟩
          case klast =>
            rintro f a Vr hf ⟨x, rfl, c0, hx⟩
            have e9 := hx.get 9 rfl (hf 9 (by simp))
            rw [e9]
            clear hx e9
            obtain ⟨Y, rfl⟩ : ∃ Y, Y = Vr := ⟨_, rfl⟩
            have hIY := Lib.hid (hIV.out.below c0)
            clear c0 hst hla
            cases b3 with
            | true =>
              have hfi : Hid (ts1 ++ [mkT semiT t] = ts ++ (lineS t st).1 ∧ st1 = (lineS t st).2) := by
                unfold Hid
                rw [hln.out, ← hS2.out]
                simp only
                rw [if_pos (semi_yes hq'.out hg'.out (by simpa using hb3'.out)), ← List.append_assoc, ← hA2.out]
                exact ⟨rfl, trivial⟩
              obtain ⟨⟨a0, a1, af⟩, ⟨b0, b1, b2, b3, b4⟩, _⟩ := hIY.out.cells
              have hput := Lib.hid (r03_put semiT t Y hIY.out.stv (by have := hn.out; omega))
              unfold tkV at hput
              go_wp2_with fail
              refine hput.out.mono ?_
              rintro e V2 ⟨y, rfl, hy, hB⟩
              have hI2 := Lib.hid (hIY.out.below hB)
              clear hB a0 a1 af b0 b1 b2 b3 b4
              obtain ⟨ya, yn, yc, yb, ym, yd, rfl⟩ := hy.agg
              have hI3 := Lib.hid (hI2.out.set hy)
              clear hy
              obtain ⟨⟨a0, a1, af⟩, _, _, _, _⟩ := hI2.out.cells
              go_upto_region 5 with (fail)
              obtain ⟨V3, hV3⟩ : ∃ Q, (V2.setCell ⟨W.heap.size, 0, none⟩ (.slice ya yn yc)).setCell ⟨W.heap.size, 1, none⟩ (.slice yb ym yd) = Q := ⟨_, rfl⟩
              rw [hV3] at hI3 ⊢
              clear hV3 a0 a1 af
              have hE := Lib.hid hI3.out.ends
              obtain ⟨⟨a0, a1, af⟩, _, e0, e1, ef⟩ := hI3.out.cells
              go_wp2_with fail
              refine bodyPost_ret (results_st rfl _ _ rfl hE.out.1.cells.1) rfl ⟨_, rfl, by rw [← hfi.out.1, ← hfi.out.2]; exact hE.out.2.1, hE.out.2.2⟩
            | false =>
              obtain ⟨xa, xn, xc, xb, xm, xd, hxe⟩ := hIY.out.stv.agg
              simp only [Value.agg.injEq, Array.mk.injEq, List.cons.injEq, and_true] at hxe
              obtain ⟨rfl, rfl⟩ := hxe
              have hfi : Hid (ts1 = ts ++ (lineS t st).1 ∧ st1 = (lineS t st).2) := by
                unfold Hid
                rw [hln.out, ← hS2.out]
                simp only
                rw [if_neg (semi_no hq'.out (fun h => by have hb := hb3'.out; simp at hb; exact hb h.2)), List.append_nil]
                exact ⟨hA2.out, trivial⟩
              have hE := Lib.hid hIY.out.ends
              obtain ⟨⟨a0, a1, af⟩, _, e0, e1, ef⟩ := hIY.out.cells
              go_wp2_with fail
              refine bodyPost_ret (results_st rfl _ _ rfl hE.out.1.cells.1) rfl ⟨_, rfl, by rw [← hfi.out.1, ← hfi.out.2]; exact hE.out.2.1, hE.out.2.2⟩
    · have hgd : decide (0 < q) = false := decide_eq_false hg
      have hg' : Hid (q ≤ 0) := by unfold Hid; omega
      clear hg
      go_upto_region 1 with (fail)
      refine wp_region_inv (fun f a Vr => ∃ x : Nat → Value, a = ⟨#[.agg #[y0, y1], .agg #[.int .i64 t.kind, .string (tS t.text), .int .i64 t.num, .int .i64 t.line, .int .i64 t.col], .pointer (some ⟨W.heap.size, 0, none⟩), .pointer (some ⟨W.heap.size + 1, 0, none⟩), .pointer (some ⟨W.heap.size + 2, 0, none⟩), x 0, x 1, x 2, x 3, x 4, x 5, x 6, x 7, x 8, x 9, u15, u16, u17, u18, undef, undef, undef, undef, undef, undef, undef, undef, undef, undef, undef, undef, undef, undef], []⟩ ∧ (Below X.heap.size X Vr) ∧ VO [some (.agg #[x0, x1]), some (.int .i64 q), some (.bool false), some (.bool false), some (undef), some (undef), some (undef), some (undef), some (undef), some (.bool false)] f x) (by kernel_rfl) (by kernel_rfl) (rs := [0, 1, 2, 3, 4, 5, 6, 7, 8, 9]) (by kernel_rfl) ?start ?steps ?last
      case start => exact ⟨fun i => ([u5, u6, u7, u8, u9, u10, u11, u12, u13, u14] : List Value).getD i undef, rfl, (Below.refl _ _).drew, VO.nil _ _⟩
      case steps =>
        refine (KeepsI.cons (ds := []) rfl (by kernel_rfl) ?s0 (KeepsI.cons (ds := [0]) rfl (by kernel_rfl) ?s1 (KeepsI.cons (ds := [1]) rfl (by kernel_rfl) ?s2 (KeepsI.cons (ds := [2]) rfl (by kernel_rfl) ?s3 (KeepsI.cons (ds := [3]) rfl (by kernel_rfl) ?s4 (KeepsI.cons (ds := [4, 3]) rfl (by kernel_rfl) ?s5 (KeepsI.cons (ds := [3]) rfl (by kernel_rfl) ?s6 (KeepsI.cons (ds := [6, 3]) rfl (by kernel_rfl) ?s7 (KeepsI.cons (ds := [5, 7, 3]) rfl (by kernel_rfl) ?s8 (KeepsI.cons (ds := [3, 8]) rfl (by kernel_rfl) ?s9 KeepsI.nil))))))))))
        all_goals (intro f a Vr hf hd hcl hI K' hK; obtain ⟨x, rfl, c0, hx⟩ := hI)
        case s0 =>
          have n1 : f 1 = false := by cases h : f 1; rfl; exact absurd (hcl 1 0 (by kernel_rfl) (h)) (by rw [hf]; simp)
          obtain ⟨a0, a1, b4⟩ := hst.out Vr c0
          clear n1
          go_simp
          exact hK _ _ ⟨(upd x 0 (.agg #[x0, x1])), rfl, c0, (hx.set 0 rfl)⟩
        case s1 =>
          have e0 := hx.get 0 rfl (hd 0 (by simp))
          rw [e0]
          clear e0
          go_simp
          refine (hla.out Vr c0).mono ?_
          rintro e V ⟨rfl, hB⟩
          exact hK _ _ ⟨upd (upd x 0 (.agg #[x0, x1])) 1 (.int .i64 q), rfl, c0.trans (hB.mono c0.size), (hx.put 0 rfl).set 1 rfl⟩
        case s2 =>
          have e1 := hx.get 1 rfl (hd 1 (by simp))
          rw [e1]
          clear e1
          go_simp
          exact hK _ _ ⟨(upd (upd x 1 (.int .i64 q)) 2 (.bool false)), rfl, c0, ((hx.put 1 rfl).set 2 rfl)⟩
        case s3 =>
          have e2 := hx.get 2 rfl (hd 2 (by simp))
          rw [e2]
          clear e2
          go_simp
          exact hK _ _ ⟨(upd (upd x 2 (.bool false)) 3 (.bool false)), rfl, c0, ((hx.put 2 rfl).set 3 rfl)⟩
        case s4 =>
          have e3 := hx.get 3 rfl (hd 3 (by simp))
          rw [e3]
          clear e3
          go_simp
          exact hK _ _ ⟨(upd (upd x 3 (.bool false)) 4 (undef)), rfl, c0, ((hx.put 3 rfl).set 4 rfl)⟩
        case s5 =>
          have e4 := hx.get 4 rfl (hd 4 (by simp))
          have e3 := hx.get 3 rfl (hd 3 (by simp))
          rw [e4, e3]
          clear e4 e3
          go_simp
          exact hK _ _ ⟨(upd (upd (upd x 4 (undef)) 3 (.bool false)) 5 (undef)), rfl, c0, (((hx.put 4 rfl).put 3 rfl).set 5 rfl)⟩
        case s6 =>
          have e3 := hx.get 3 rfl (hd 3 (by simp))
          rw [e3]
          clear e3
          go_simp
          exact hK _ _ ⟨(upd (upd x 3 (.bool false)) 6 (undef)), rfl, c0, ((hx.put 3 rfl).set 6 rfl)⟩
        case s7 =>
          have e6 := hx.get 6 rfl (hd 6 (by simp))
          have e3 := hx.get 3 rfl (hd 3 (by simp))
          rw [e6, e3]
          clear e6 e3
          go_simp
          exact hK _ _ ⟨(upd (upd (upd x 6 (undef)) 3 (.bool false)) 7 (undef)), rfl, c0, (((hx.put 6 rfl).put 3 rfl).set 7 rfl)⟩
        case s8 =>
          have e5 := hx.get 5 rfl (hd 5 (by simp))
          have e7 := hx.get 7 rfl (hd 7 (by simp))
          have e3 := hx.get 3 rfl (hd 3 (by simp))
          rw [e5, e7, e3]
          clear e5 e7 e3
          go_simp
          exact hK _ _ ⟨(upd (upd (upd (upd x 5 (undef)) 7 (undef)) 3 (.bool false)) 8 (undef)), rfl, c0, ((((hx.put 5 rfl).put 7 rfl).put 3 rfl).set 8 rfl)⟩
        case s9 =>
          have e3 := hx.get 3 rfl (hd 3 (by simp))
          have e8 := hx.get 8 rfl (hd 8 (by simp))
          rw [e3, e8]
          clear e3 e8
          go_simp
          exact hK _ _ ⟨(upd (upd (upd x 3 (.bool false)) 8 (undef)) 9 (.bool false)), rfl, c0, (((hx.put 3 rfl).put 8 rfl).set 9 rfl)⟩
      case last =>
        rintro f a Vr hf ⟨x, rfl, c0, hx⟩
        have e9 := hx.get 9 rfl (hf 9 (by simp))
        rw [e9]
        clear hx e9
        obtain ⟨V, rfl⟩ : ∃ V, V = Vr := ⟨_, rfl⟩
        obtain ⟨z, rfl⟩ : ∃ z, z = x := ⟨_, rfl⟩
        have hIV := Lib.hid (hI.out.below c0)
        clear c0 hst hla
        have hsh : Hid (shutW p st1 = (0, st1)) := by
          unfold Hid
          cases st1 with
          | nil => rfl
          | cons c r =>
            have hc : c = q := hq'.out
            exact shutW_stop (fun h => by subst hc; have h2 := hg'.out; omega)
        have hA2 : Hid (ts1 = ts ++ List.replicate (shutW p st).1 (mkT bShut t)) := by have h := hA.out; rw [hsh.out] at h; unfold Hid; simpa using h
        have hS2 : Hid (st1 = (shutW p st).2) := by have h := hS.out; rw [hsh.out] at h; exact h
        have hla : Hid (∀ Q, Below V.heap.size V Q → Calls Tryz.prog 25 #[.agg #[x0, x1]] Q fun e V' => e = .returned (.int .i64 q) ∧ Below Q.heap.size Q V') := fun Q hQ => by
          rw [← hq'.out]; exact r03_last Q (hIV.out.stv.keeps (Keeps.of_below hQ)) (by have := hn.out; omega)
        have hst : Hid (∀ Q, Below V.heap.size V Q → Q.cell? ⟨W.heap.size, 0, none⟩ = some x0 ∧ Q.cell? ⟨W.heap.size, 1, none⟩ = some x1 ∧ Q.cell? ⟨W.heap.size + 1, 4, none⟩ = some (.int .i64 t.col)) := fun Q hQ => by
          obtain ⟨⟨a0, a1, _⟩, ⟨_, _, _, _, b4⟩, _⟩ := (hIV.out.below hQ).cells
          exact ⟨a0, a1, b4⟩
        go_upto_region 3 with (fail)
        refine wp_region_inv (fun f a Vr => ∃ x : Nat → Value, a = ⟨#[.agg #[y0, y1], .agg #[.int .i64 t.kind, .string (tS t.text), .int .i64 t.num, .int .i64 t.line, .int .i64 t.col], .pointer (some ⟨W.heap.size, 0, none⟩), .pointer (some ⟨W.heap.size + 1, 0, none⟩), .pointer (some ⟨W.heap.size + 2, 0, none⟩), z 0, z 1, z 2, z 3, z 4, z 5, z 6, z 7, z 8, .bool false, u15, u16, u17, u18, x 0, x 1, x 2, x 3, x 4, x 5, x 6, x 7, x 8, x 9, undef, undef, undef, undef], []⟩ ∧ (Below V.heap.size V Vr) ∧ VO [some (.agg #[x0, x1]), some (.int .i64 q), some (.bool false), some (.bool false), some (undef), some (undef), some (undef), some (undef), some (undef), some (.bool false)] f x) (by kernel_rfl) (by kernel_rfl) (rs := [0, 1, 2, 3, 4, 5, 6, 7, 8, 9]) (by kernel_rfl) ?kstart ?ksteps ?klast
        case kstart => exact ⟨fun _ => undef, rfl, (Below.refl _ _).drew, VO.nil _ _⟩
        case ksteps =>
          refine (KeepsI.cons (ds := []) rfl (by kernel_rfl) ?ks0 (KeepsI.cons (ds := [0]) rfl (by kernel_rfl) ?ks1 (KeepsI.cons (ds := [1]) rfl (by kernel_rfl) ?ks2 (KeepsI.cons (ds := [2]) rfl (by kernel_rfl) ?ks3 (KeepsI.cons (ds := [3]) rfl (by kernel_rfl) ?ks4 (KeepsI.cons (ds := [4, 3]) rfl (by kernel_rfl) ?ks5 (KeepsI.cons (ds := [3]) rfl (by kernel_rfl) ?ks6 (KeepsI.cons (ds := [6, 3]) rfl (by kernel_rfl) ?ks7 (KeepsI.cons (ds := [5, 7, 3]) rfl (by kernel_rfl) ?ks8 (KeepsI.cons (ds := [3, 8]) rfl (by kernel_rfl) ?ks9 KeepsI.nil))))))))))
          all_goals (intro f a Vr hf hd hcl hI K' hK; obtain ⟨x, rfl, c0, hx⟩ := hI)
          case ks0 =>
            have n1 : f 1 = false := by cases h : f 1; rfl; exact absurd (hcl 1 0 (by kernel_rfl) (h)) (by rw [hf]; simp)
            obtain ⟨a0, a1, b4⟩ := hst.out Vr c0
            clear n1
            go_simp
            exact hK _ _ ⟨(upd x 0 (.agg #[x0, x1])), rfl, c0, (hx.set 0 rfl)⟩
          case ks1 =>
            have e0 := hx.get 0 rfl (hd 0 (by simp))
            rw [e0]
            clear e0
            go_simp
            refine (hla.out Vr c0).mono ?_
            rintro e V ⟨rfl, hB⟩
            exact hK _ _ ⟨upd (upd x 0 (.agg #[x0, x1])) 1 (.int .i64 q), rfl, c0.trans (hB.mono c0.size), (hx.put 0 rfl).set 1 rfl⟩
          case ks2 =>
            have e1 := hx.get 1 rfl (hd 1 (by simp))
            rw [e1]
            clear e1
            go_simp
            exact hK _ _ ⟨(upd (upd x 1 (.int .i64 q)) 2 (.bool false)), rfl, c0, ((hx.put 1 rfl).set 2 rfl)⟩
          case ks3 =>
            have e2 := hx.get 2 rfl (hd 2 (by simp))
            rw [e2]
            clear e2
            go_simp
            exact hK _ _ ⟨(upd (upd x 2 (.bool false)) 3 (.bool false)), rfl, c0, ((hx.put 2 rfl).set 3 rfl)⟩
          case ks4 =>
            have e3 := hx.get 3 rfl (hd 3 (by simp))
            rw [e3]
            clear e3
            go_simp
            exact hK _ _ ⟨(upd (upd x 3 (.bool false)) 4 (undef)), rfl, c0, ((hx.put 3 rfl).set 4 rfl)⟩
          case ks5 =>
            have e4 := hx.get 4 rfl (hd 4 (by simp))
            have e3 := hx.get 3 rfl (hd 3 (by simp))
            rw [e4, e3]
            clear e4 e3
            go_simp
            exact hK _ _ ⟨(upd (upd (upd x 4 (undef)) 3 (.bool false)) 5 (undef)), rfl, c0, (((hx.put 4 rfl).put 3 rfl).set 5 rfl)⟩
          case ks6 =>
            have e3 := hx.get 3 rfl (hd 3 (by simp))
            rw [e3]
            clear e3
            go_simp
            exact hK _ _ ⟨(upd (upd x 3 (.bool false)) 6 (undef)), rfl, c0, ((hx.put 3 rfl).set 6 rfl)⟩
          case ks7 =>
            have e6 := hx.get 6 rfl (hd 6 (by simp))
            have e3 := hx.get 3 rfl (hd 3 (by simp))
            rw [e6, e3]
            clear e6 e3
            go_simp
            exact hK _ _ ⟨(upd (upd (upd x 6 (undef)) 3 (.bool false)) 7 (undef)), rfl, c0, (((hx.put 6 rfl).put 3 rfl).set 7 rfl)⟩
          case ks8 =>
            have e5 := hx.get 5 rfl (hd 5 (by simp))
            have e7 := hx.get 7 rfl (hd 7 (by simp))
            have e3 := hx.get 3 rfl (hd 3 (by simp))
            rw [e5, e7, e3]
            clear e5 e7 e3
            go_simp
            exact hK _ _ ⟨(upd (upd (upd (upd x 5 (undef)) 7 (undef)) 3 (.bool false)) 8 (undef)), rfl, c0, ((((hx.put 5 rfl).put 7 rfl).put 3 rfl).set 8 rfl)⟩
          case ks9 =>
            have e3 := hx.get 3 rfl (hd 3 (by simp))
            have e8 := hx.get 8 rfl (hd 8 (by simp))
            rw [e3, e8]
            clear e3 e8
            go_simp
            exact hK _ _ ⟨(upd (upd (upd x 3 (.bool false)) 8 (undef)) 9 (.bool false)), rfl, c0, (((hx.put 3 rfl).put 8 rfl).set 9 rfl)⟩
        case klast =>
          rintro f a Vr hf ⟨x, rfl, c0, hx⟩
          have e9 := hx.get 9 rfl (hf 9 (by simp))
          rw [e9]
          clear hx e9
          obtain ⟨Y, rfl⟩ : ∃ Y, Y = Vr := ⟨_, rfl⟩
          have hIY := Lib.hid (hIV.out.below c0)
          clear c0 hst hla
          obtain ⟨xa, xn, xc, xb, xm, xd, hxe⟩ := hIY.out.stv.agg
          simp only [Value.agg.injEq, Array.mk.injEq, List.cons.injEq, and_true] at hxe
          obtain ⟨rfl, rfl⟩ := hxe
          have hfi : Hid (ts1 = ts ++ (lineS t st).1 ∧ st1 = (lineS t st).2) := by
            unfold Hid
            rw [hln.out, ← hS2.out]
            simp only
            rw [if_neg (semi_no hq'.out (fun h => by have hg := hg'.out; have := h.1; omega)), List.append_nil]
            exact ⟨hA2.out, trivial⟩
          have hE := Lib.hid hIY.out.ends
          obtain ⟨⟨a0, a1, af⟩, _, e0, e1, ef⟩ := hIY.out.cells
          go_wp2_with fail
          refine bodyPost_ret (results_st rfl _ _ rfl hE.out.1.cells.1) rfl ⟨_, rfl, by rw [← hfi.out.1, ← hfi.out.2]; exact hE.out.2.1, hE.out.2.2⟩
end Go.Proofs.YtchdfjihflmloaaGreatDoor

namespace Go.Proofs.YtchdfjihflmloaaGreatDoor
open Go.RowKit

set_option maxHeartbeats 4000000 in
set_option maxRecDepth 100000 in
theorem r03_closing {v : Value} {ts : List Tk} {st : List Int} (t : Tk) (W : World) (h : StV W v ts st) (hl : ts.length + st.length ≤ 1000000 - 1) :
    Calls Tryz.prog 23 #[v, tkV t] W fun e W' => ∃ z ts' st', e = .returned (.tuple #[z, .bool (fitS t st).isSome]) ∧ StV W' z ts' st' ∧ (∀ o2 s2, fitS t st = some (o2, s2) → ts' = ts ++ o2 ∧ st' = s2) ∧ Below W.heap.size W W' := by
  obtain ⟨y0, y1, rfl⟩ : ∃ y0 y1, v = .agg #[y0, y1] := by obtain ⟨_, _, _, _, h1, _⟩ := h; exact ⟨_, _, h1⟩
  have hN0 := NlI.new (t := t) h
  obtain ⟨W1, hW1⟩ : ∃ V, ((W.alloc (.cells #[y0, y1] 49)).alloc (.cells #[.int .i64 t.kind, .string (tS t.text), .int .i64 t.num, .int .i64 t.line, .int .i64 t.col] 34)).alloc (.cells #[.slice none 0 0, .slice none 0 0] 49) = V := ⟨_, rfl⟩
  rw [hW1] at hN0
  have hN := Lib.hid hN0
  have hW1' := Lib.hid hW1
  clear hW1 hN0 h
  have hk1 : Hid (∀ V, Calls Tryz.prog 19 #[.agg #[.int .i64 t.kind, .string (tS t.text), .int .i64 t.num, .int .i64 t.line, .int .i64 t.col], .string ⟨#[41]⟩] V fun e V' => e = .returned (.bool (keyT t pShut)) ∧ Below V.heap.size V V') := fun V => r03_key t ⟨#[41]⟩ V
  have hk2 : Hid (∀ V, Calls Tryz.prog 19 #[.agg #[.int .i64 t.kind, .string (tS t.text), .int .i64 t.num, .int .i64 t.line, .int .i64 t.col], .string ⟨#[125]⟩] V fun e V' => e = .returned (.bool (keyT t bShut)) ∧ Below V.heap.size V V') := fun V => r03_key t ⟨#[125]⟩ V
  obtain ⟨⟨a0, a1, af⟩, ⟨b0, b1, b2, b3, b4⟩, _⟩ := hN.out.cells
  unfold tkV
  cases h1 : keyT t pShut with
  | true =>
    rw [h1] at hk1
    have hfit : Hid (fitS t st = fitA (-1) (List.replicate (shutW (fun _ => true) st).1 (mkT bShut t)) (shutW (fun _ => true) st).2) := fit_round h1
    clear h1
    go_enter Tryz.func23, Tryz.ntmps23
    go_upto_region 1 with (fail)
    rw [hW1'.out]
    go_wp2_with fail
    refine (hk1.out _).mono ?_
    rintro e V ⟨rfl, hB⟩
    have hIV := Lib.hid (hN.out.below hB)
    clear hB a0 a1 af b0 b1 b2 b3 b4
    go_wp2_with fail
    go_loopg [8] st.length (fun k _ wr => ∃ (x0 x1 : Value) (ts1 : List Tk) (st1 : List Int), k = st1.length ∧ Hid (NlI W t wr x0 x1 ts1 st1) ∧ Hid (ts1 ++ List.replicate (shutW (fun _ => true) st1).1 (mkT bShut t) = ts ++ List.replicate (shutW (fun _ => true) st).1 (mkT bShut t)) ∧ Hid ((shutW (fun _ => true) st1).2 = (shutW (fun _ => true) st).2) ∧ Hid (ts1.length + st1.length = ts.length + st.length))
    case atStart => exact ⟨y0, y1, ts, st, rfl, hIV, rfl, rfl, rfl⟩
    case round =>
      obtain ⟨x0, x1, ts1, st1, rfl, hI, hA, hS, hn⟩ := hrel
      obtain ⟨X, rfl⟩ : ∃ X, X = wr := ⟨_, rfl⟩
      obtain ⟨q, hq⟩ : ∃ q, lastS st1 = q := ⟨_, rfl⟩
      have hla := r03_last X hI.out.stv (by have := hn.out; omega)
      rw [hq] at hla
      have hla' := Lib.hid hla
      have hq' := Lib.hid hq
      clear hq hla
      obtain ⟨⟨a0, a1, af⟩, ⟨b0, b1, b2, b3, b4⟩, _⟩ := hI.out.cells
      by_cases hg : 0 < q
      · have hg' := Lib.hid hg
        obtain ⟨r, hr⟩ : ∃ r, st1 = q :: r := by
          cases st1 with
          | nil => have h1 := hq'.out; simp [lastS] at h1; omega
          | cons c r => exact ⟨r, by have h1 : c = q := hq'.out; rw [h1]⟩
        subst hr
        have hstep : Hid (shutW (fun _ => true) (q :: r) = ((shutW (fun _ => true) r).1 + 1, (shutW (fun _ => true) r).2)) := shutW_go ⟨hg, rfl⟩
        have hlen : Hid (ts1.length ≤ 1000000 ∧ r.length ≤ 1000000) := by have := hn.out; rw [List.length_cons] at this; unfold Hid; omega
        go_wp2_with fail
        refine hla'.out.mono ?_
        rintro e V1 ⟨rfl, hB⟩
        have hI1 := Lib.hid (hI.out.below hB)
        clear hB a0 a1 af b0 b1 b2 b3 b4
        obtain ⟨⟨a0, a1, af⟩, ⟨b0, b1, b2, b3, b4⟩, _⟩ := hI1.out.cells
        have hput := Lib.hid (r03_put bShut t V1 hI1.out.stv hlen.out.1)
        unfold tkV at hput
        go_wp2_with fail
        refine hput.out.mono ?_
        rintro e V2 ⟨y, rfl, hy, hB⟩
        have hI2 := Lib.hid (hI1.out.below hB)
        have hsh := Lib.hid (r03_shut V2 hy hlen.out.2)
        clear hB a0 a1 af b0 b1 b2 b3 b4 hy
        go_wp2_with fail
        refine hsh.out.mono ?_
        rintro e V3 ⟨y2, rfl, hy2, hB⟩
        have hI3 := hI2.out.below hB
        clear hB
        obtain ⟨ya, yn, yc, yb, ym, yd, rfl⟩ := hy2.agg
        obtain ⟨⟨a0, a1, af⟩, _, _, _, _⟩ := hI3.cells
        have hI4 := Lib.hid (hI3.set hy2)
        clear hI3 hy2
        go_wp2_with fail
        go_roundg r.length
        case measure => simp
        case rel => exact ⟨_, _, _, r, rfl, hI4, by unfold Hid; rw [← hA.out, hstep.out, List.append_assoc, List.singleton_append, ← List.replicate_succ], by unfold Hid; rw [← hS.out, hstep.out], by have := hn.out; unfold Hid; simp at this ⊢; omega⟩
      · have hg' : Hid (q ≤ 0) := by unfold Hid; omega
        have hsh : Hid (shutW (fun _ => true) st1 = (0, st1)) := by
          unfold Hid
          cases st1 with
          | nil => rfl
          | cons c r =>
            have hc : c = q := hq'.out
            exact shutW_stop (fun h => by subst hc; exact hg h.1)
        have hA2 : Hid (ts1 = ts ++ List.replicate (shutW (fun _ => true) st).1 (mkT bShut t)) := by have h := hA.out; rw [hsh.out] at h; unfold Hid; simpa using h
        have hS2 : Hid (st1 = (shutW (fun _ => true) st).2) := by have h := hS.out; rw [hsh.out] at h; exact h
        have hfi : Hid (fitS t st = fitA (-1) (List.replicate (shutW (fun _ => true) st).1 (mkT bShut t)) st1) := by unfold Hid; rw [hS2.out]; exact hfit.out
        go_wp2_with fail
        refine hla'.out.mono ?_
        rintro e V1 ⟨rfl, hB⟩
        have hI1 := Lib.hid (hI.out.below hB)
        have hla2 := r03_last V1 hI1.out.stv (by have := hn.out; omega)
        rw [hq'.out] at hla2
        have hla2' := Lib.hid hla2
        clear hB a0 a1 af b0 b1 b2 b3 b4 hla2
        obtain ⟨⟨a0, a1, af⟩, ⟨b0, b1, b2, b3, b4⟩, _⟩ := hI1.out.cells
        by_cases hm : q = -1
        · have hqm : (q != -1) = false := by simpa using hm
          obtain ⟨r, hr⟩ : ∃ r, st1 = -1 :: r := by
            cases st1 with
            | nil => have h1 := hq'.out; simp [lastS] at h1; omega
            | cons c r => exact ⟨r, by have h1 : c = q := hq'.out; rw [h1, hm]⟩
          subst hr
          have hfs : Hid (fitS t st = some (List.replicate (shutW (fun _ => true) st).1 (mkT bShut t), r)) := by unfold Hid; rw [hfi.out]; rfl
          clear hm
          go_wp2_with fail
          refine hla2'.out.mono ?_
          rintro e V2 ⟨rfl, hB⟩
          have hI2 := Lib.hid (hI1.out.below hB)
          have hsh2 := Lib.hid (r03_shut V2 hI2.out.stv (by have := hn.out; simp at this; omega))
          clear hB a0 a1 af b0 b1 b2 b3 b4
          obtain ⟨⟨a0, a1, af⟩, ⟨b0, b1, b2, b3, b4⟩, _⟩ := hI2.out.cells
          go_wp2_with fail
          refine hsh2.out.mono ?_
          rintro e V3 ⟨y2, rfl, hy2, hB⟩
          have hI3 := Lib.hid (hI2.out.below hB)
          clear hB a0 a1 af b0 b1 b2 b3 b4
          obtain ⟨ya, yn, yc, yb, ym, yd, rfl⟩ := hy2.agg
          have hE := Lib.hid (hI3.out.ends' hy2)
          clear hy2
          obtain ⟨_, _, e0, e1, ef⟩ := hI3.out.cells
          go_wp2_with fail
          refine bodyPost_ret (results_stb rfl _ _ rfl rfl hE.out.1.cells.1) rfl ⟨_, _, _, by rw [hfs.out]; rfl, hE.out.2.1, fun o2 s2 h => by rw [hfs.out] at h; simp at h; obtain ⟨rfl, rfl⟩ := h; exact ⟨hA2.out, rfl⟩, hE.out.2.2⟩
        · have hqm : (q != -1) = true := by simpa using hm
          have hfs : Hid (fitS t st = none) := by
            unfold Hid
            rw [hfi.out]
            cases st1 with
            | nil => rfl
            | cons c r => have h1 : c = q := hq'.out; rw [fitA, if_neg (by rw [h1]; exact hm)]
          clear hm
          go_wp2_with fail
          refine hla2'.out.mono ?_
          rintro e V2 ⟨rfl, hB⟩
          have hI2 := Lib.hid (hI1.out.below hB)
          clear hB a0 a1 af b0 b1 b2 b3 b4
          obtain ⟨ya, yn, yc, yb, ym, yd, hxe⟩ := hI2.out.stv.agg
          simp only [Value.agg.injEq, Array.mk.injEq, List.cons.injEq, and_true] at hxe
          obtain ⟨rfl, rfl⟩ := hxe
          have hE := Lib.hid hI2.out.ends
          obtain ⟨⟨a0, a1, af⟩, _, e0, e1, ef⟩ := hI2.out.cells
          go_wp2_with fail
          refine bodyPost_ret (results_stb rfl _ _ rfl rfl hE.out.1.cells.1) rfl ⟨_, _, _, by rw [hfs.out]; rfl, hE.out.2.1, fun o2 s2 h => by rw [hfs.out] at h; exact (nomatch h), hE.out.2.2⟩
  | false =>
    rw [h1] at hk1
    cases h2 : keyT t bShut with
    | true =>
      rw [h2] at hk2
      have hfit : Hid (fitS t st = fitA 0 [] st) := fit_brace h1 h2
      clear h1 h2
      obtain ⟨q, hq⟩ : ∃ q, lastS st = q := ⟨_, rfl⟩
      have hq' := Lib.hid hq
      clear hq
      go_enter Tryz.func23, Tryz.ntmps23
      go_upto_region 1 with (fail)
      rw [hW1'.out]
      go_wp2_with fail
      refine (hk1.out _).mono ?_
      rintro e V ⟨rfl, hB⟩
      have hIV := Lib.hid (hN.out.below hB)
      clear hB a0 a1 af b0 b1 b2 b3 b4
      obtain ⟨⟨a0, a1, af⟩, ⟨b0, b1, b2, b3, b4⟩, _⟩ := hIV.out.cells
      go_wp2_with fail
      refine (hk2.out _).mono ?_
      rintro e V1 ⟨rfl, hB⟩
      have hI1 := Lib.hid (hIV.out.below hB)
      have hla2 := r03_last V1 hI1.out.stv (by omega)
      rw [hq'.out] at hla2
      have hla2' := Lib.hid hla2
      clear hB a0 a1 af b0 b1 b2 b3 b4 hla2
      obtain ⟨⟨a0, a1, af⟩, ⟨b0, b1, b2, b3, b4⟩, _⟩ := hI1.out.cells
      by_cases hm : q = 0
      · have hqm : (q != 0) = false := by simpa using hm
        obtain ⟨r, hr⟩ : ∃ r, st = 0 :: r := by
          cases st with
          | nil => have h1 := hq'.out; simp [lastS] at h1; omega
          | cons c r => exact ⟨r, by have h1 : c = q := hq'.out; rw [h1, hm]⟩
        subst hr
        have hfs : Hid (fitS t (0 :: r) = some ([], r)) := by unfold Hid; rw [hfit.out]; rfl
        clear hm
        go_wp2_with fail
        refine hla2'.out.mono ?_
        rintro e V2 ⟨rfl, hB⟩
        have hI2 := Lib.hid (hI1.out.below hB)
        have hsh2 := Lib.hid (r03_shut V2 hI2.out.stv (by simp at hl; omega))
        clear hB a0 a1 af b0 b1 b2 b3 b4
        obtain ⟨⟨a0, a1, af⟩, ⟨b0, b1, b2, b3, b4⟩, _⟩ := hI2.out.cells
        go_wp2_with fail
        refine hsh2.out.mono ?_
        rintro e V3 ⟨y2, rfl, hy2, hB⟩
        have hI3 := Lib.hid (hI2.out.below hB)
        clear hB a0 a1 af b0 b1 b2 b3 b4
        obtain ⟨ya, yn, yc, yb, ym, yd, rfl⟩ := hy2.agg
        have hE := Lib.hid (hI3.out.ends' hy2)
        clear hy2
        obtain ⟨_, _, e0, e1, ef⟩ := hI3.out.cells
        go_wp2_with fail
        refine bodyPost_ret (results_stb rfl _ _ rfl rfl hE.out.1.cells.1) rfl ⟨_, _, _, by rw [hfs.out]; rfl, hE.out.2.1, fun o2 s2 h => by rw [hfs.out] at h; simp at h; obtain ⟨rfl, rfl⟩ := h; exact ⟨by simp, rfl⟩, hE.out.2.2⟩
      · have hqm : (q != 0) = true := by simpa using hm
        have hfs : Hid (fitS t st = none) := by
          unfold Hid
          rw [hfit.out]
          cases st with
          | nil => rfl
          | cons c r => have h1 : c = q := hq'.out; rw [fitA, if_neg (by rw [h1]; exact hm)]
        clear hm
        go_wp2_with fail
        refine hla2'.out.mono ?_
        rintro e V2 ⟨rfl, hB⟩
        have hI2 := Lib.hid (hI1.out.below hB)
        clear hB a0 a1 af b0 b1 b2 b3 b4
        obtain ⟨ya, yn, yc, yb, ym, yd, hxe⟩ := hI2.out.stv.agg
        simp only [Value.agg.injEq, Array.mk.injEq, List.cons.injEq, and_true] at hxe
        obtain ⟨rfl, rfl⟩ := hxe
        have hE := Lib.hid hI2.out.ends
        obtain ⟨⟨a0, a1, af⟩, _, e0, e1, ef⟩ := hI2.out.cells
        go_wp2_with fail
        refine bodyPost_ret (results_stb rfl _ _ rfl rfl hE.out.1.cells.1) rfl ⟨_, _, _, by rw [hfs.out]; rfl, hE.out.2.1, fun o2 s2 h => by rw [hfs.out] at h; exact (nomatch h), hE.out.2.2⟩
    | false =>
      rw [h2] at hk2
      have hfs : Hid (fitS t st = some ([], st)) := by unfold Hid fitS; rw [if_neg (by rw [h1]; simp), if_neg (by rw [h2]; simp)]
      clear h1 h2
      go_enter Tryz.func23, Tryz.ntmps23
      go_upto_region 1 with (fail)
      rw [hW1'.out]
      go_wp2_with fail
      refine (hk1.out _).mono ?_
      rintro e V ⟨rfl, hB⟩
      have hIV := Lib.hid (hN.out.below hB)
      clear hB a0 a1 af b0 b1 b2 b3 b4
      obtain ⟨⟨a0, a1, af⟩, ⟨b0, b1, b2, b3, b4⟩, _⟩ := hIV.out.cells
      go_wp2_with fail
      refine (hk2.out _).mono ?_
      rintro e V1 ⟨rfl, hB⟩
      have hI1 := Lib.hid (hIV.out.below hB)
      clear hB a0 a1 af b0 b1 b2 b3 b4
      obtain ⟨ya, yn, yc, yb, ym, yd, hxe⟩ := hI1.out.stv.agg
      simp only [Value.agg.injEq, Array.mk.injEq, List.cons.injEq, and_true] at hxe
      obtain ⟨rfl, rfl⟩ := hxe
      have hE := Lib.hid hI1.out.ends
      obtain ⟨⟨a0, a1, af⟩, _, e0, e1, ef⟩ := hI1.out.cells
      go_wp2_with fail
      refine bodyPost_ret (results_stb rfl _ _ rfl rfl hE.out.1.cells.1) rfl ⟨_, _, _, by rw [hfs.out]; rfl, hE.out.2.1, fun o2 s2 h => by rw [hfs.out] at h; simp at h; obtain ⟨rfl, rfl⟩ := h; exact ⟨by simp, rfl⟩, hE.out.2.2⟩
end Go.Proofs.YtchdfjihflmloaaGreatDoor

namespace Go.Proofs.YtchdfjihflmloaaGreatDoor
open Go.RowKit

set_option maxHeartbeats 4000000 in
set_option maxRecDepth 100000 in
theorem r03_behind {v : Value} {ts : List Tk} {st : List Int} (a : Option Addr) (l : List Tk) (cap k : Nat) (hk : k < l.length) (W : World) (h : StV W v ts st) (hl : ts.length + st.length ≤ 1000000 - 2) (hll : l.length ≤ 1000000) (hrow : TkRow W a l) :
    Calls Tryz.prog 24 #[v, .slice a l.length cap, .int .i64 (k : Int)] W fun e W' => ∃ z, e = .returned (.tuple #[z, .bool (behS l[k] (l.drop (k + 1)).head? st).2.2]) ∧ StV W' z (ts ++ (behS l[k] (l.drop (k + 1)).head? st).1) (behS l[k] (l.drop (k + 1)).head? st).2.1 ∧ Below W.heap.size W W' := by
  obtain ⟨y0, y1, rfl⟩ : ∃ y0 y1, v = .agg #[y0, y1] := by obtain ⟨_, _, _, _, h1, _⟩ := h; exact ⟨_, _, h1⟩
  obtain ⟨t, ht⟩ : ∃ t, l[k] = t := ⟨_, rfl⟩
  obtain ⟨b, off, rfl, hcell⟩ := hrow.at (by rintro rfl; simp at hk)
  obtain ⟨g0, g1, g2, g3, g4⟩ := hcell k hk
  rw [ht] at g0 g1 g2 g3 g4 ⊢
  have hN0 := NlB.new (t := t) h
  obtain ⟨W0, hW0⟩ : ∃ V, (W.alloc (.cells #[y0, y1] 49)).alloc (.cells #[.slice none 0 0, .slice none 0 0] 49) = V := ⟨_, rfl⟩
  have hbW0 : Below W.heap.size W W0 := by rw [← hW0]; exact ((Below.refl _ _).alloc (Nat.le_refl _) _).alloc (by simp) _
  have hzW0 : W0.heap.size = W.heap.size + 2 := by rw [← hW0]; simp
  rw [hW0] at hN0
  obtain ⟨W1, hW1⟩ : ∃ V, W0.alloc (.cells #[.int .i64 t.kind, .string (tS t.text), .int .i64 t.num, .int .i64 t.line, .int .i64 t.col] 34) = V := ⟨_, rfl⟩
  rw [hW1] at hN0
  have hN := Lib.hid hN0
  have hW1' := Lib.hid hW1
  have hW0' := Lib.hid hW0
  have hcell' := Lib.hid hcell
  have hki : (k : Int) < (l.length : Int) := by omega
  replace g0 := Keeps.of_below hbW0 _ _ g0
  replace g1 := Keeps.of_below hbW0 _ _ g1
  replace g2 := Keeps.of_below hbW0 _ _ g2
  replace g3 := Keeps.of_below hbW0 _ _ g3
  replace g4 := Keeps.of_below hbW0 _ _ g4
  have hpos : W0.heap.size = W.heap.size + 2 := hzW0
  have hpos' := Lib.hid hpos
  clear hW1 hW0 hN0 h hcell hrow hbW0 ht hzW0
  have hk1 : Hid (∀ V, Calls Tryz.prog 19 #[.agg #[.int .i64 t.kind, .string (tS t.text), .int .i64 t.num, .int .i64 t.line, .int .i64 t.col], .string ⟨#[40]⟩] V fun e V' => e = .returned (.bool (keyT t pOpen)) ∧ Below V.heap.size V V') := fun V => r03_key t ⟨#[40]⟩ V
  have hk2 : Hid (∀ V, Calls Tryz.prog 19 #[.agg #[.int .i64 t.kind, .string (tS t.text), .int .i64 t.num, .int .i64 t.line, .int .i64 t.col], .string ⟨#[123]⟩] V fun e V' => e = .returned (.bool (keyT t bOpen)) ∧ Below V.heap.size V V') := fun V => r03_key t ⟨#[123]⟩ V
  have hk3 : Hid (∀ V, Calls Tryz.prog 19 #[.agg #[.int .i64 t.kind, .string (tS t.text), .int .i64 t.num, .int .i64 t.line, .int .i64 t.col], .string ⟨#[111, 102]⟩] V fun e V' => e = .returned (.bool (keyT t [111, 102])) ∧ Below V.heap.size V V') := fun V => r03_key t ⟨#[111, 102]⟩ V
  have hk4 : Hid (∀ V, Calls Tryz.prog 19 #[.agg #[.int .i64 t.kind, .string (tS t.text), .int .i64 t.num, .int .i64 t.line, .int .i64 t.col], .string ⟨#[100, 111]⟩] V fun e V' => e = .returned (.bool (keyT t [100, 111])) ∧ Below V.heap.size V V') := fun V => r03_key t ⟨#[100, 111]⟩ V
  have hk5 : Hid (∀ V, Calls Tryz.prog 19 #[.agg #[.int .i64 t.kind, .string (tS t.text), .int .i64 t.num, .int .i64 t.line, .int .i64 t.col], .string ⟨#[100, 111, 115]⟩] V fun e V' => e = .returned (.bool (keyT t [100, 111, 115])) ∧ Below V.heap.size V V') := fun V => r03_key t ⟨#[100, 111, 115]⟩ V
  have hbt : blockT t = (keyT t [111, 102] || keyT t [100, 111] || keyT t [100, 111, 115]) := by
    unfold blockT keyT blockW
    rw [Bool.eq_iff_iff]
    simp
    constructor
    · rintro ⟨a, b | b | b⟩ <;> simp [a, b]
    · rintro ((h | h) | h) <;> simp [h.1, h.2]
  have hlow : Hid (∀ V, Below W.heap.size W V → ∀ i (h : i < l.length), V.cell? ⟨b, off + i * 5, none⟩ = some (.int .i64 l[i].kind) ∧ V.cell? ⟨b, off + i * 5 + 1, none⟩ = some (.string (tS l[i].text)) ∧ V.cell? ⟨b, off + i * 5 + 2, none⟩ = some (.int .i64 l[i].num) ∧ V.cell? ⟨b, off + i * 5 + 3, none⟩ = some (.int .i64 l[i].line) ∧ V.cell? ⟨b, off + i * 5 + 4, none⟩ = some (.int .i64 l[i].col)) := fun V hV i hi => by
    obtain ⟨q0, q1, q2, q3, q4⟩ := hcell'.out i hi
    exact ⟨Keeps.of_below hV _ _ q0, Keeps.of_below hV _ _ q1, Keeps.of_below hV _ _ q2, Keeps.of_below hV _ _ q3, Keeps.of_below hV _ _ q4⟩
  obtain ⟨nx, hnx⟩ : ∃ nx, (l.drop (k + 1)).head? = nx := ⟨_, rfl⟩
  rw [hnx]
  cases h1 : keyT t pOpen with
  | true =>
    rw [h1] at hk1
    have hbe : Hid (behS t nx st = ([], -1 :: st, false)) := by unfold Hid behS; rw [if_pos h1]
    clear h1 hbt
    go_enter Tryz.func24, Tryz.ntmps24
    go_upto_region 1 with (fail)
    rw [hW0'.out]
    go_upto_region 2 with (fail)
    rw [hW1'.out]
    clear g0 g1 g2 g3 g4 hpos
    obtain ⟨⟨a0, a1, af⟩, ⟨b0, b1, b2, b3, b4⟩, _⟩ := hN.out.cells
    go_wp2_with fail
    refine (hk1.out _).mono ?_
    rintro e V ⟨rfl, hB⟩
    have hI := Lib.hid (hN.out.below hB)
    have hop := Lib.hid (r03_open (-1) V hI.out.stv (by omega))
    clear hB a0 a1 af b0 b1 b2 b3 b4
    obtain ⟨⟨a0, a1, af⟩, _, _⟩ := hI.out.cells
    go_wp2_with fail
    refine hop.out.mono ?_
    rintro e V2 ⟨y2, rfl, hy2, hB⟩
    have hI3 := Lib.hid (hI.out.below hB)
    clear hB a0 a1 af
    obtain ⟨ya, yn, yc, yb, ym, yd, rfl⟩ := hy2.agg
    have hE := Lib.hid (hI3.out.ends' hy2)
    clear hy2
    obtain ⟨_, _, e0, e1, ef⟩ := hI3.out.cells
    go_wp2_with fail
    refine bodyPost_ret (results_stb rfl _ _ rfl rfl hE.out.1.cells.1) rfl ⟨_, by rw [hbe.out]; rfl, by rw [hbe.out, List.append_nil]; exact hE.out.2.1, hE.out.2.2⟩
  | false =>
    rw [h1] at hk1
    cases h2 : keyT t bOpen with
    | true =>
      rw [h2] at hk2
      have hbe : Hid (behS t nx st = ([], 0 :: st, false)) := by unfold Hid behS; rw [if_neg (by rw [h1]; simp), if_pos h2]
      clear h1 h2 hbt
      go_enter Tryz.func24, Tryz.ntmps24
      go_upto_region 1 with (fail)
      rw [hW0'.out]
      go_upto_region 2 with (fail)
      rw [hW1'.out]
      clear g0 g1 g2 g3 g4 hpos
      obtain ⟨⟨a0, a1, af⟩, ⟨b0, b1, b2, b3, b4⟩, _⟩ := hN.out.cells
      go_wp2_with fail
      refine (hk1.out _).mono ?_
      rintro e V0 ⟨rfl, hB⟩
      have hI0 := Lib.hid (hN.out.below hB)
      clear hB a0 a1 af b0 b1 b2 b3 b4
      obtain ⟨⟨a0, a1, af⟩, ⟨b0, b1, b2, b3, b4⟩, _⟩ := hI0.out.cells
      go_wp2_with fail
      refine (hk2.out _).mono ?_
      rintro e V ⟨rfl, hB⟩
      have hI := Lib.hid (hI0.out.below hB)
      have hop := Lib.hid (r03_open 0 V hI.out.stv (by omega))
      clear hB a0 a1 af b0 b1 b2 b3 b4
      obtain ⟨⟨a0, a1, af⟩, _, _⟩ := hI.out.cells
      go_wp2_with fail
      refine hop.out.mono ?_
      rintro e V2 ⟨y2, rfl, hy2, hB⟩
      have hI3 := Lib.hid (hI.out.below hB)
      clear hB a0 a1 af
      obtain ⟨ya, yn, yc, yb, ym, yd, rfl⟩ := hy2.agg
      have hE := Lib.hid (hI3.out.ends' hy2)
      clear hy2
      obtain ⟨_, _, e0, e1, ef⟩ := hI3.out.cells
      go_wp2_with fail
      refine bodyPost_ret (results_stb rfl _ _ rfl rfl hE.out.1.cells.1) rfl ⟨_, by rw [hbe.out]; rfl, by rw [hbe.out, List.append_nil]; exact hE.out.2.1, hE.out.2.2⟩
    | false =>
      rw [h2] at hk2
      have h1' := Lib.hid h1
      have h2' := Lib.hid h2
      clear h1 h2
      go_enter Tryz.func24, Tryz.ntmps24
      go_upto_region 1 with (fail)
      rw [hW0'.out]
      go_upto_region 2 with (fail)
      rw [hW1'.out]
      clear g0 g1 g2 g3 g4 hpos
      obtain ⟨⟨a0, a1, af⟩, ⟨b0, b1, b2, b3, b4⟩, _⟩ := hN.out.cells
      go_wp2_with fail
      refine (hk1.out _).mono ?_
      rintro e V0 ⟨rfl, hB⟩
      have hI0 := Lib.hid (hN.out.below hB)
      clear hB a0 a1 af b0 b1 b2 b3 b4
      obtain ⟨⟨a0, a1, af⟩, ⟨b0, b1, b2, b3, b4⟩, _⟩ := hI0.out.cells
      go_wp2_with fail
      refine (hk2.out _).mono ?_
      rintro e V ⟨rfl, hB⟩
      have hI := Lib.hid (hI0.out.below hB)
      clear hB a0 a1 af b0 b1 b2 b3 b4
      obtain ⟨⟨a0, a1, af⟩, ⟨b0, b1, b2, b3, b4⟩, _⟩ := hI.out.cells
      have hbt' := Lib.hid hbt
      clear hbt
      go_upto_region 6 with (fail)
      go_cut [33] from 21 to 33 (fun x X => x = .bool (!blockT t) ∧ Hid (NlB W t X y0 y1 ts st))
      case first =>
        cases h3 : keyT t [111, 102] with
        | true =>
          rw [h3] at hk3 hbt'
          clear h3
          go_wp2_with fail
          refine (hk3.out _).mono ?_
          rintro e V3 ⟨rfl, hB⟩
          have hI3 := Lib.hid (hI.out.below hB)
          go_wp2_with fail
          go_meet
          case rel => exact ⟨by rw [hbt'.out]; rfl, hI3⟩
        | false =>
          rw [h3] at hk3 hbt'
          clear h3
          cases h4 : keyT t [100, 111] with
          | true =>
            rw [h4] at hk4 hbt'
            clear h4
            go_wp2_with fail
            refine (hk3.out _).mono ?_
            rintro e V3 ⟨rfl, hB⟩
            have hI3 := Lib.hid (hI.out.below hB)
            clear hB a0 a1 af b0 b1 b2 b3 b4
            obtain ⟨⟨a0, a1, af⟩, ⟨b0, b1, b2, b3, b4⟩, _⟩ := hI3.out.cells
            go_wp2_with fail
            refine (hk4.out _).mono ?_
            rintro e V4 ⟨rfl, hB⟩
            have hI4 := Lib.hid (hI3.out.below hB)
            go_wp2_with fail
            go_meet
            case rel => exact ⟨by rw [hbt'.out]; rfl, hI4⟩
          | false =>
            rw [h4] at hk4 hbt'
            clear h4
            obtain ⟨h5, hh5⟩ : ∃ x, keyT t [100, 111, 115] = x := ⟨_, rfl⟩
            rw [hh5] at hk5 hbt'
            clear hh5
            go_wp2_with fail
            refine (hk3.out _).mono ?_
            rintro e V3 ⟨rfl, hB⟩
            have hI3 := Lib.hid (hI.out.below hB)
            clear hB a0 a1 af b0 b1 b2 b3 b4
            obtain ⟨⟨a0, a1, af⟩, ⟨b0, b1, b2, b3, b4⟩, _⟩ := hI3.out.cells
            go_wp2_with fail
            refine (hk4.out _).mono ?_
            rintro e V4 ⟨rfl, hB⟩
            have hI4 := Lib.hid (hI3.out.below hB)
            clear hB a0 a1 af b0 b1 b2 b3 b4
            obtain ⟨⟨a0, a1, af⟩, ⟨b0, b1, b2, b3, b4⟩, _⟩ := hI4.out.cells
            go_wp2_with fail
            refine (hk5.out _).mono ?_
            rintro e V5 ⟨rfl, hB⟩
            have hI5 := Lib.hid (hI4.out.below hB)
            go_wp2_with fail
            go_meet
            case rel => exact ⟨by rw [hbt'.out]; simp, hI5⟩
      case rest =>
      obtain ⟨rfl, hX⟩ := hcut
      obtain ⟨X, rfl⟩ : ∃ X, X = wc := ⟨_, rfl⟩
      clear hI hI0 a0 a1 af b0 b1 b2 b3 b4 hk1 hk2 hk3 hk4 hk5
      cases h3 : blockT t with
      | false =>
        have hbe : Hid (behS t nx st = ([], st, false)) := by unfold Hid behS; rw [if_neg (by rw [h1'.out]; simp), if_neg (by rw [h2'.out]; simp), if_neg (by rw [h3]; simp)]
        clear h3
        obtain ⟨xa, xn, xc, xb, xm, xd, hxe⟩ := hX.out.stv.agg
        simp only [Value.agg.injEq, Array.mk.injEq, List.cons.injEq, and_true] at hxe
        obtain ⟨rfl, rfl⟩ := hxe
        have hE := Lib.hid hX.out.ends
        obtain ⟨⟨a0, a1, af⟩, _, e0, e1, ef⟩ := hX.out.cells
        go_wp2_with fail
        refine bodyPost_ret (results_stb rfl _ _ rfl rfl hE.out.1.cells.1) rfl ⟨_, by rw [hbe.out]; rfl, by rw [hbe.out, List.append_nil]; exact hE.out.2.1, hE.out.2.2⟩
      | true =>
        have h3' := Lib.hid h3
        clear h3
        have hw : IntKind.i64.wrap ((k : Int) + 1) = (k : Int) + 1 := IntWalk.i64_in _ (by omega)
        by_cases hk1 : k + 1 < l.length
        · obtain ⟨u, hu⟩ : ∃ u, l[k + 1] = u := ⟨_, rfl⟩
          have hnu : nx = some u := by rw [← hnx, List.head?_drop, List.getElem?_eq_getElem hk1, hu]
          subst hnu
          have hu' := Lib.hid hu
          have hnx' := Lib.hid hnx
          clear hnx
          have hk1i : (k : Int) + 1 < (l.length : Int) := by omega
          have hk1d : decide (k + 1 < l.length) = true := decide_eq_true hk1
          have hk1e : decide ((k : Int) + 1 < (l.length : Int)) = true := decide_eq_true hk1i
          have hku : Hid (∀ V, Calls Tryz.prog 19 #[.agg #[.int .i64 u.kind, .string (tS u.text), .int .i64 u.num, .int .i64 u.line, .int .i64 u.col], .string ⟨#[123]⟩] V fun e V' => e = .returned (.bool (keyT u bOpen)) ∧ Below V.heap.size V V') := fun V => r03_key u ⟨#[123]⟩ V
          obtain ⟨q0, q1, q2, q3, q4⟩ := hlow.out X hX.out.low (k + 1) hk1
          rw [hu] at q0 q1 q2 q3 q4
          clear hu
          cases h4 : keyT u bOpen with
          | true =>
            rw [h4] at hku
            have hbe : Hid (behS t (some u) st = ([], st, false)) := by unfold Hid behS; rw [if_neg (by rw [h1'.out]; simp), if_neg (by rw [h2'.out]; simp), if_pos h3'.out]; simp only; rw [if_pos h4]
            clear h4
            go_wp2_with fail
            refine (hku.out _).mono ?_
            rintro e V3 ⟨rfl, hB⟩
            have hI3 := Lib.hid (hX.out.below hB)
            clear hB
            obtain ⟨xa, xn, xc, xb, xm, xd, hxe⟩ := hI3.out.stv.agg
            simp only [Value.agg.injEq, Array.mk.injEq, List.cons.injEq, and_true] at hxe
            obtain ⟨rfl, rfl⟩ := hxe
            have hE := Lib.hid hI3.out.ends
            obtain ⟨⟨a0, a1, af⟩, _, e0, e1, ef⟩ := hI3.out.cells
            go_wp2_with fail
            refine bodyPost_ret (results_stb rfl _ _ rfl rfl hE.out.1.cells.1) rfl ⟨_, by rw [hbe.out]; rfl, by rw [hbe.out, List.append_nil]; exact hE.out.2.1, hE.out.2.2⟩
          | false =>
            rw [h4] at hku
            have h4' := Lib.hid h4
            clear h4
            go_wp2_with fail
            refine (hku.out _).mono ?_
            rintro e V3 ⟨rfl, hB⟩
            have hI3 := Lib.hid (hX.out.below hB)
            clear hB q0 q1 q2 q3 q4
            go_upto_region 10 with (fail)
            obtain ⟨X3, rfl⟩ : ∃ Q, Q = V3 := ⟨_, rfl⟩
            have hst : Hid (∀ V, Below X3.heap.size X3 V → V.cell? ⟨W.heap.size, 0, none⟩ = some y0 ∧ V.cell? ⟨W.heap.size, 1, none⟩ = some y1 ∧ V.cell? ⟨b, off + (k + 1) * 5 + 4, none⟩ = some (.int .i64 u.col)) := fun V hV => by
              have hI := hI3.out.below hV
              obtain ⟨⟨a0, a1, _⟩, _⟩ := hI.cells
              have h := (hlow.out V hI.low (k + 1) hk1).2.2.2.2
              rw [hu'.out] at h
              exact ⟨a0, a1, h⟩
            have hco : Hid (∀ V, Below X3.heap.size X3 V → Calls Tryz.prog 35 #[.agg #[y0, y1]] V fun e V' => e = .returned (.int .i64 (colS st)) ∧ Below V.heap.size V V') := fun V hV => r03_column V (hI3.out.stv.keeps (Keeps.of_below hV)) (by omega)
            obtain ⟨b3, hb3⟩ : ∃ b, decide (colS st < u.col) = b := ⟨_, rfl⟩
            have hb3' := Lib.hid hb3
            refine wp_region_inv (fun f a Vr => ∃ x : Nat → Value, a = ⟨#[.agg #[y0, y1], .slice (some ⟨b, off, none⟩) l.length cap, .int .i64 (k : Int), .pointer (some ⟨W.heap.size, 0, none⟩), undef, undef, .pointer (some ⟨W.heap.size + 1, 0, none⟩), .bool false, .pointer (some ⟨W.heap.size + 2, 0, none⟩), .slice (some ⟨b, off, none⟩) l.length cap, .int .i64 (k : Int), .pointer (some ⟨b, off + k * 5, none⟩), .agg #[.int .i64 t.kind, .string (tS t.text), .int .i64 t.num, .int .i64 t.line, .int .i64 t.col], .agg #[.int .i64 t.kind, .string (tS t.text), .int .i64 t.num, .int .i64 t.line, .int .i64 t.col], .bool false, undef, undef, .agg #[.int .i64 t.kind, .string (tS t.text), .int .i64 t.num, .int .i64 t.line, .int .i64 t.col], .bool false, undef, undef, u21, u22, u23, u24, u25, u26, u27, u28, u29, u30, u31, u32, .bool false, undef, .int .i64 (k : Int), .int .i64 ((k : Int) + 1), .slice (some ⟨b, off, none⟩) l.length cap, .int .i64 (l.length : Int), .bool true, .bool true, .slice (some ⟨b, off, none⟩) l.length cap, .int .i64 (k : Int), .int .i64 ((k : Int) + 1), .pointer (some ⟨b, off + (k + 1) * 5, none⟩), .agg #[.int .i64 u.kind, .string (tS u.text), .int .i64 u.num, .int .i64 u.line, .int .i64 u.col], .bool false, .bool false, undef, x 0, x 1, x 2, x 3, x 4, x 5, x 6, x 7, x 8, x 9, x 10, x 11, x 12, x 13, x 14, x 15, undef, undef, undef, undef, undef, undef, undef, undef, undef, undef, undef, undef, undef, undef, undef, undef, undef, undef, undef], []⟩ ∧ (Below X3.heap.size X3 Vr) ∧ VO [some (.int .i64 (k : Int)), some (.int .i64 ((k : Int) + 1)), some (.slice (some ⟨b, off, none⟩) l.length cap), some (.int .i64 (l.length : Int)), some (.bool true), some (.bool true), some (.slice (some ⟨b, off, none⟩) l.length cap), some (.int .i64 (k : Int)), some (.int .i64 ((k : Int) + 1)), some (.pointer (some ⟨b, off + (k + 1) * 5, none⟩)), some (.pointer (some ⟨b, off + (k + 1) * 5 + 4, none⟩)), some (.int .i64 u.col), some (.agg #[y0, y1]), some (.int .i64 (colS st)), some (.bool b3), some (.bool b3)] f x) (by kernel_rfl) (by kernel_rfl) (rs := [0, 1, 2, 3, 4, 5, 6, 7, 8, 9, 10, 11, 12, 13, 14, 15]) (by kernel_rfl) ?start ?steps ?last
            case start => exact ⟨fun i => ([undef, undef, undef, undef, undef, undef, undef, undef, undef, undef, undef, undef, undef, undef, undef, undef] : List Value).getD i undef, rfl, (Below.refl _ _).drew, VO.nil _ _⟩
            case steps =>
              refine (KeepsI.cons (ds := []) rfl (by kernel_rfl) ?s0 (KeepsI.cons (ds := [0]) rfl (by kernel_rfl) ?s1 (KeepsI.cons (ds := []) rfl (by kernel_rfl) ?s2 (KeepsI.cons (ds := [2]) rfl (by kernel_rfl) ?s3 (KeepsI.cons (ds := [1, 3]) rfl (by kernel_rfl) ?s4 (KeepsI.cons (ds := [4]) rfl (by kernel_rfl) ?s5 (KeepsI.cons (ds := [5]) rfl (by kernel_rfl) ?s6 (KeepsI.cons (ds := [5]) rfl (by kernel_rfl) ?s7 (KeepsI.cons (ds := [7, 5]) rfl (by kernel_rfl) ?s8 (KeepsI.cons (ds := [6, 8, 5]) rfl (by kernel_rfl) ?s9 (KeepsI.cons (ds := [9, 5]) rfl (by kernel_rfl) ?s10 (KeepsI.cons (ds := [10, 5]) rfl (by kernel_rfl) ?s11 (KeepsI.cons (ds := [5]) rfl (by kernel_rfl) ?s12 (KeepsI.cons (ds := [12, 5]) rfl (by kernel_rfl) ?s13 (KeepsI.cons (ds := [11, 13, 5]) rfl (by kernel_rfl) ?s14 (KeepsI.cons (ds := [5, 14]) rfl (by kernel_rfl) ?s15 KeepsI.nil))))))))))))))))
              all_goals (intro f a Vr hf hd hcl hI K' hK; obtain ⟨x, rfl, c0, hx⟩ := hI)
              case s0 =>
                go_simp
                exact hK _ _ ⟨(upd x 0 (.int .i64 (k : Int))), rfl, c0, (hx.set 0 rfl)⟩
              case s1 =>
                have e0 := hx.get 0 rfl (hd 0 (by simp))
                rw [e0]
                clear e0
                go_simp
                exact hK _ _ ⟨(upd (upd x 0 (.int .i64 (k : Int))) 1 (.int .i64 ((k : Int) + 1))), rfl, c0, ((hx.put 0 rfl).set 1 rfl)⟩
              case s2 =>
                go_simp
                exact hK _ _ ⟨(upd x 2 (.slice (some ⟨b, off, none⟩) l.length cap)), rfl, c0, (hx.set 2 rfl)⟩
              case s3 =>
                have e2 := hx.get 2 rfl (hd 2 (by simp))
                rw [e2]
                clear e2
                go_simp
                exact hK _ _ ⟨(upd (upd x 2 (.slice (some ⟨b, off, none⟩) l.length cap)) 3 (.int .i64 (l.length : Int))), rfl, c0, ((hx.put 2 rfl).set 3 rfl)⟩
              case s4 =>
                have e1 := hx.get 1 rfl (hd 1 (by simp))
                have e3 := hx.get 3 rfl (hd 3 (by simp))
                rw [e1, e3]
                clear e1 e3
                go_simp
                exact hK _ _ ⟨(upd (upd (upd x 1 (.int .i64 ((k : Int) + 1))) 3 (.int .i64 (l.length : Int))) 4 (.bool true)), rfl, c0, (((hx.put 1 rfl).put 3 rfl).set 4 rfl)⟩
              case s5 =>
                have e4 := hx.get 4 rfl (hd 4 (by simp))
                rw [e4]
                clear e4
                go_simp
                exact hK _ _ ⟨(upd (upd x 4 (.bool true)) 5 (.bool true)), rfl, c0, ((hx.put 4 rfl).set 5 rfl)⟩
              case s6 =>
                have e5 := hx.get 5 rfl (hd 5 (by simp))
                rw [e5]
                clear e5
                go_simp
                exact hK _ _ ⟨(upd (upd x 5 (.bool true)) 6 (.slice (some ⟨b, off, none⟩) l.length cap)), rfl, c0, ((hx.put 5 rfl).set 6 rfl)⟩
              case s7 =>
                have e5 := hx.get 5 rfl (hd 5 (by simp))
                rw [e5]
                clear e5
                go_simp
                exact hK _ _ ⟨(upd (upd x 5 (.bool true)) 7 (.int .i64 (k : Int))), rfl, c0, ((hx.put 5 rfl).set 7 rfl)⟩
              case s8 =>
                have e7 := hx.get 7 rfl (hd 7 (by simp))
                have e5 := hx.get 5 rfl (hd 5 (by simp))
                rw [e7, e5]
                clear e7 e5
                go_simp
                exact hK _ _ ⟨(upd (upd (upd x 7 (.int .i64 (k : Int))) 5 (.bool true)) 8 (.int .i64 ((k : Int) + 1))), rfl, c0, (((hx.put 7 rfl).put 5 rfl).set 8 rfl)⟩
              case s9 =>
                have e6 := hx.get 6 rfl (hd 6 (by simp))
                have e8 := hx.get 8 rfl (hd 8 (by simp))
                have e5 := hx.get 5 rfl (hd 5 (by simp))
                rw [e6, e8, e5]
                clear e6 e8 e5
                go_simp
                exact hK _ _ ⟨(upd (upd (upd (upd x 6 (.slice (some ⟨b, off, none⟩) l.length cap)) 8 (.int .i64 ((k : Int) + 1))) 5 (.bool true)) 9 (.pointer (some ⟨b, off + (k + 1) * 5, none⟩))), rfl, c0, ((((hx.put 6 rfl).put 8 rfl).put 5 rfl).set 9 rfl)⟩
              case s10 =>
                have e9 := hx.get 9 rfl (hd 9 (by simp))
                have e5 := hx.get 5 rfl (hd 5 (by simp))
                rw [e9, e5]
                clear e9 e5
                go_simp
                exact hK _ _ ⟨(upd (upd (upd x 9 (.pointer (some ⟨b, off + (k + 1) * 5, none⟩))) 5 (.bool true)) 10 (.pointer (some ⟨b, off + (k + 1) * 5 + 4, none⟩))), rfl, c0, (((hx.put 9 rfl).put 5 rfl).set 10 rfl)⟩
              case s11 =>
                have e10 := hx.get 10 rfl (hd 10 (by simp))
                have e5 := hx.get 5 rfl (hd 5 (by simp))
                rw [e10, e5]
                clear e10 e5
                obtain ⟨a0, a1, b4⟩ := hst.out Vr c0
                go_simp
                exact hK _ _ ⟨(upd (upd (upd x 10 (.pointer (some ⟨b, off + (k + 1) * 5 + 4, none⟩))) 5 (.bool true)) 11 (.int .i64 u.col)), rfl, c0, (((hx.put 10 rfl).put 5 rfl).set 11 rfl)⟩
              case s12 =>
                have e5 := hx.get 5 rfl (hd 5 (by simp))
                rw [e5]
                clear e5
                have n13 : f 13 = false := by cases h : f 13; rfl; exact absurd (hcl 13 12 (by kernel_rfl) (h)) (by rw [hf]; simp)
                obtain ⟨a0, a1, b4⟩ := hst.out Vr c0
                clear n13
                go_simp
                exact hK _ _ ⟨(upd (upd x 5 (.bool true)) 12 (.agg #[y0, y1])), rfl, c0, ((hx.put 5 rfl).set 12 rfl)⟩
              case s13 =>
                have e12 := hx.get 12 rfl (hd 12 (by simp))
                have e5 := hx.get 5 rfl (hd 5 (by simp))
                rw [e12, e5]
                clear e12 e5
                go_simp
                refine (hco.out Vr c0).mono ?_
                rintro e V ⟨rfl, hB⟩
                exact hK _ _ ⟨upd (upd (upd x 12 (.agg #[y0, y1])) 5 (.bool true)) 13 (.int .i64 (colS st)), rfl, c0.trans (hB.mono c0.size), ((hx.put 12 rfl).put 5 rfl).set 13 rfl⟩
              case s14 =>
                have e11 := hx.get 11 rfl (hd 11 (by simp))
                have e13 := hx.get 13 rfl (hd 13 (by simp))
                have e5 := hx.get 5 rfl (hd 5 (by simp))
                rw [e11, e13, e5]
                clear e11 e13 e5
                go_simp
                exact hK _ _ ⟨(upd (upd (upd (upd x 11 (.int .i64 u.col)) 13 (.int .i64 (colS st))) 5 (.bool true)) 14 (.bool b3)), rfl, c0, ((((hx.put 11 rfl).put 13 rfl).put 5 rfl).set 14 rfl)⟩
              case s15 =>
                have e5 := hx.get 5 rfl (hd 5 (by simp))
                have e14 := hx.get 14 rfl (hd 14 (by simp))
                rw [e5, e14]
                clear e5 e14
                go_simp
                exact hK _ _ ⟨(upd (upd (upd x 5 (.bool true)) 14 (.bool b3)) 15 (.bool b3)), rfl, c0, (((hx.put 5 rfl).put 14 rfl).set 15 rfl)⟩
            case last =>
              rintro f a Vr hf ⟨x, rfl, c0, hx⟩
              clear hb3
              have e15 := hx.get 15 rfl (hf 15 (by simp))
              rw [e15]
              clear hx e15
              obtain ⟨z, rfl⟩ : ∃ z, z = x := ⟨_, rfl⟩
              obtain ⟨Y, rfl⟩ : ∃ Y, Y = Vr := ⟨_, rfl⟩
              cases b3 with
              | true =>
                have hbe : Hid (behS t (some u) st = ([mkT bOpen u], u.col :: st, true)) := by unfold Hid behS; rw [if_neg (by rw [h1'.out]; simp), if_neg (by rw [h2'.out]; simp), if_pos h3'.out]; simp only; rw [if_neg (by rw [h4'.out]; simp), if_pos (of_decide_eq_true hb3'.out)]
                have hI3 := Lib.hid (hI3.out.below c0)
                clear c0 hst hco
                have hst : Hid (∀ V, Below Y.heap.size Y V → V.cell? ⟨W.heap.size, 0, none⟩ = some y0 ∧ V.cell? ⟨W.heap.size, 1, none⟩ = some y1 ∧ True ∧ True ∧ True ∧ True ∧ True ∧ V.cell? ⟨b, off + (k + 1) * 5, none⟩ = some (.int .i64 u.kind) ∧ V.cell? ⟨b, off + (k + 1) * 5 + 1, none⟩ = some (.string (tS u.text)) ∧ V.cell? ⟨b, off + (k + 1) * 5 + 2, none⟩ = some (.int .i64 u.num) ∧ V.cell? ⟨b, off + (k + 1) * 5 + 3, none⟩ = some (.int .i64 u.line) ∧ V.cell? ⟨b, off + (k + 1) * 5 + 4, none⟩ = some (.int .i64 u.col)) := fun V hV => by
                  have hI := hI3.out.below hV
                  obtain ⟨⟨a0, a1, _⟩, _⟩ := hI.cells
                  obtain ⟨q0, q1, q2, q3, q4⟩ := hlow.out V hI.low (k + 1) hk1
                  rw [hu'.out] at q0 q1 q2 q3 q4
                  exact ⟨a0, a1, trivial, trivial, trivial, trivial, trivial, q0, q1, q2, q3, q4⟩
                have hpu : Hid (∀ V, Below Y.heap.size Y V → Calls Tryz.prog 21 #[.agg #[y0, y1], .string ⟨#[123]⟩, .agg #[.int .i64 u.kind, .string (tS u.text), .int .i64 u.num, .int .i64 u.line, .int .i64 u.col]] V fun e V' => ∃ z, e = .returned z ∧ StV V' z (ts ++ [mkT bOpen u]) st ∧ Below V.heap.size V V') := fun V hV => r03_put bOpen u V (hI3.out.stv.keeps (Keeps.of_below hV)) (by omega)
                have hop : Hid (∀ (V : World) (v : Value), Below Y.heap.size Y V → StV V v (ts ++ [mkT bOpen u]) st → Calls Tryz.prog 20 #[v, .int .i64 u.col] V fun e V' => ∃ z, e = .returned z ∧ StV V' z (ts ++ [mkT bOpen u]) (u.col :: st) ∧ Below V.heap.size V V') := fun V v hV hs => r03_open u.col V hs (by omega)
                go_upto_region 11 with (fail)
                refine wp_region_inv (fun f a Vr => ∃ x : Nat → Value, a = ⟨#[.agg #[y0, y1], .slice (some ⟨b, off, none⟩) l.length cap, .int .i64 (k : Int), .pointer (some ⟨W.heap.size, 0, none⟩), undef, undef, .pointer (some ⟨W.heap.size + 1, 0, none⟩), x 15, .pointer (some ⟨W.heap.size + 2, 0, none⟩), .slice (some ⟨b, off, none⟩) l.length cap, .int .i64 (k : Int), .pointer (some ⟨b, off + k * 5, none⟩), .agg #[.int .i64 t.kind, .string (tS t.text), .int .i64 t.num, .int .i64 t.line, .int .i64 t.col], .agg #[.int .i64 t.kind, .string (tS t.text), .int .i64 t.num, .int .i64 t.line, .int .i64 t.col], .bool false, undef, undef, .agg #[.int .i64 t.kind, .string (tS t.text), .int .i64 t.num, .int .i64 t.line, .int .i64 t.col], .bool false, undef, undef, u21, u22, u23, u24, u25, u26, u27, u28, u29, u30, u31, u32, .bool false, undef, .int .i64 (k : Int), .int .i64 ((k : Int) + 1), .slice (some ⟨b, off, none⟩) l.length cap, .int .i64 (l.length : Int), .bool true, .bool true, .slice (some ⟨b, off, none⟩) l.length cap, .int .i64 (k : Int), .int .i64 ((k : Int) + 1), .pointer (some ⟨b, off + (k + 1) * 5, none⟩), .agg #[.int .i64 u.kind, .string (tS u.text), .int .i64 u.num, .int .i64 u.line, .int .i64 u.col], .bool false, .bool false, undef, z 0, z 1, z 2, z 3, z 4, z 5, z 6, z 7, z 8, z 9, z 10, z 11, z 12, z 13, z 14, .bool true, x 0, x 1, x 2, x 3, x 4, x 5, x 6, x 7, x 8, x 9, x 10, x 11, x 12, x 13, undef, undef, undef, undef, undef], []⟩ ∧ (f 14 = false → Below Y.heap.size Y Vr) ∧ (f 6 = true → f 13 = false → f 14 = false → StV Vr (x 6) (ts ++ [mkT bOpen u]) (st)) ∧ (f 13 = true → f 14 = false → StV Vr (x 13) (ts ++ [mkT bOpen u]) (u.col :: st)) ∧ (f 14 = true → ∃ z0 z1, Box2 Vr 49 (W.heap.size + 1) z0 z1 ∧ StV Vr (.agg #[z0, z1]) (ts ++ [mkT bOpen u]) (u.col :: st) ∧ Below W.heap.size W Vr) ∧ VO [some (.agg #[y0, y1]), some (.slice (some ⟨b, off, none⟩) l.length cap), some (.int .i64 (k : Int)), some (.int .i64 ((k : Int) + 1)), some (.pointer (some ⟨b, off + (k + 1) * 5, none⟩)), some (.agg #[.int .i64 u.kind, .string (tS u.text), .int .i64 u.num, .int .i64 u.line, .int .i64 u.col]), none, some (.slice (some ⟨b, off, none⟩) l.length cap), some (.int .i64 (k : Int)), some (.int .i64 ((k : Int) + 1)), some (.pointer (some ⟨b, off + (k + 1) * 5, none⟩)), some (.pointer (some ⟨b, off + (k + 1) * 5 + 4, none⟩)), some (.int .i64 u.col), none, none, some (.bool true)] f x) (by kernel_rfl) (by kernel_rfl) (rs := [0, 1, 2, 3, 4, 5, 6, 7, 8, 9, 10, 11, 12, 13, 14, 15]) (by kernel_rfl) ?kstart ?ksteps ?klast
                case kstart => exact ⟨fun i => ([undef, undef, undef, undef, undef, undef, undef, undef, undef, undef, undef, undef, undef, undef, undef, .bool false] : List Value).getD i undef, rfl, fun _ => (Below.refl _ _).drew, by simp, by simp, by simp, VO.nil _ _⟩
                case ksteps =>
                  refine (KeepsI.cons (ds := []) rfl (by kernel_rfl) ?ks0 (KeepsI.cons (ds := []) rfl (by kernel_rfl) ?ks1 (KeepsI.cons (ds := []) rfl (by kernel_rfl) ?ks2 (KeepsI.cons (ds := [2]) rfl (by kernel_rfl) ?ks3 (KeepsI.cons (ds := [1, 3]) rfl (by kernel_rfl) ?ks4 (KeepsI.cons (ds := [4]) rfl (by kernel_rfl) ?ks5 (KeepsI.cons (ds := [0, 5]) rfl (by kernel_rfl) ?ks6 (KeepsI.cons (ds := []) rfl (by kernel_rfl) ?ks7 (KeepsI.cons (ds := []) rfl (by kernel_rfl) ?ks8 (KeepsI.cons (ds := [8]) rfl (by kernel_rfl) ?ks9 (KeepsI.cons (ds := [7, 9]) rfl (by kernel_rfl) ?ks10 (KeepsI.cons (ds := [10]) rfl (by kernel_rfl) ?ks11 (KeepsI.cons (ds := [11]) rfl (by kernel_rfl) ?ks12 (KeepsI.cons (ds := [6, 12]) rfl (by kernel_rfl) ?ks13 (KeepsI.cons (ds := [13]) rfl (by kernel_rfl) ?ks14 (KeepsI.cons (ds := []) rfl (by kernel_rfl) ?ks15 KeepsI.nil))))))))))))))))
                  all_goals (intro f a Vr hf hd hcl hI K' hK; obtain ⟨x, rfl, c0, c1, c2, c3, hx⟩ := hI)
                  case ks0 =>
                    have n6 : f 6 = false := by cases h : f 6; rfl; exact absurd (hcl 6 0 (by kernel_rfl) (h)) (by rw [hf]; simp)
                    have n13 : f 13 = false := by cases h : f 13; rfl; exact absurd (hcl 6 0 (by kernel_rfl) (hcl 13 6 (by kernel_rfl) (h))) (by rw [hf]; simp)
                    have n14 : f 14 = false := by cases h : f 14; rfl; exact absurd (hcl 6 0 (by kernel_rfl) (hcl 13 6 (by kernel_rfl) (hcl 14 13 (by kernel_rfl) (h)))) (by rw [hf]; simp)
                    have hb := c0 n14
                    obtain ⟨a0, a1, b0, b1, b2, b3, b4, q0, q1, q2, q3, q4⟩ := hst.out Vr hb
                    clear hb
                    clear n6 n13 n14
                    go_simp
                    exact hK _ _ ⟨(upd x 0 (.agg #[y0, y1])), rfl, c0, c1, c2, c3, (hx.set 0 rfl)⟩
                  case ks1 =>
                    go_simp
                    exact hK _ _ ⟨(upd x 1 (.slice (some ⟨b, off, none⟩) l.length cap)), rfl, c0, c1, c2, c3, (hx.set 1 rfl)⟩
                  case ks2 =>
                    go_simp
                    exact hK _ _ ⟨(upd x 2 (.int .i64 (k : Int))), rfl, c0, c1, c2, c3, (hx.set 2 rfl)⟩
                  case ks3 =>
                    have e2 := hx.get 2 rfl (hd 2 (by simp))
                    rw [e2]
                    clear e2
                    go_simp
                    exact hK _ _ ⟨(upd (upd x 2 (.int .i64 (k : Int))) 3 (.int .i64 ((k : Int) + 1))), rfl, c0, c1, c2, c3, ((hx.put 2 rfl).set 3 rfl)⟩
                  case ks4 =>
                    have e1 := hx.get 1 rfl (hd 1 (by simp))
                    have e3 := hx.get 3 rfl (hd 3 (by simp))
                    rw [e1, e3]
                    clear e1 e3
                    go_simp
                    exact hK _ _ ⟨(upd (upd (upd x 1 (.slice (some ⟨b, off, none⟩) l.length cap)) 3 (.int .i64 ((k : Int) + 1))) 4 (.pointer (some ⟨b, off + (k + 1) * 5, none⟩))), rfl, c0, c1, c2, c3, (((hx.put 1 rfl).put 3 rfl).set 4 rfl)⟩
                  case ks5 =>
                    have e4 := hx.get 4 rfl (hd 4 (by simp))
                    rw [e4]
                    clear e4
                    have n6 : f 6 = false := by cases h : f 6; rfl; exact absurd (hcl 6 5 (by kernel_rfl) (h)) (by rw [hf]; simp)
                    have n13 : f 13 = false := by cases h : f 13; rfl; exact absurd (hcl 6 5 (by kernel_rfl) (hcl 13 6 (by kernel_rfl) (h))) (by rw [hf]; simp)
                    have n14 : f 14 = false := by cases h : f 14; rfl; exact absurd (hcl 6 5 (by kernel_rfl) (hcl 13 6 (by kernel_rfl) (hcl 14 13 (by kernel_rfl) (h)))) (by rw [hf]; simp)
                    have hb := c0 n14
                    obtain ⟨a0, a1, b0, b1, b2, b3, b4, q0, q1, q2, q3, q4⟩ := hst.out Vr hb
                    clear hb
                    clear n6 n13 n14
                    go_simp
                    exact hK _ _ ⟨(upd (upd x 4 (.pointer (some ⟨b, off + (k + 1) * 5, none⟩))) 5 (.agg #[.int .i64 u.kind, .string (tS u.text), .int .i64 u.num, .int .i64 u.line, .int .i64 u.col])), rfl, c0, c1, c2, c3, ((hx.put 4 rfl).set 5 rfl)⟩
                  case ks6 =>
                    have e0 := hx.get 0 rfl (hd 0 (by simp))
                    have e5 := hx.get 5 rfl (hd 5 (by simp))
                    rw [e0, e5]
                    clear e0 e5
                    have n13 : f 13 = false := by cases h : f 13; rfl; exact absurd (hcl 13 6 (by kernel_rfl) (h)) (by rw [hf]; simp)
                    have n14 : f 14 = false := by cases h : f 14; rfl; exact absurd (hcl 13 6 (by kernel_rfl) (hcl 14 13 (by kernel_rfl) (h))) (by rw [hf]; simp)
                    have hb := c0 n14
                    go_simp
                    refine (hpu.out Vr hb).mono ?_
                    rintro e V1 ⟨z1, rfl, hz1, hB⟩
                    exact hK _ _ ⟨upd (upd (upd x 0 (.agg #[y0, y1])) 5 (.agg #[.int .i64 u.kind, .string (tS u.text), .int .i64 u.num, .int .i64 u.line, .int .i64 u.col])) 6 z1, rfl, fun _ => hb.trans (hB.mono hb.size), fun _ _ _ => hz1, fun h => absurd (n13.symm.trans h) (by decide), fun h => absurd (n14.symm.trans h) (by decide), VO.free ((hx.put 0 rfl).put 5 rfl) 6 rfl _⟩
                  case ks7 =>
                    go_simp
                    exact hK _ _ ⟨(upd x 7 (.slice (some ⟨b, off, none⟩) l.length cap)), rfl, c0, c1, c2, c3, (hx.set 7 rfl)⟩
                  case ks8 =>
                    go_simp
                    exact hK _ _ ⟨(upd x 8 (.int .i64 (k : Int))), rfl, c0, c1, c2, c3, (hx.set 8 rfl)⟩
                  case ks9 =>
                    have e8 := hx.get 8 rfl (hd 8 (by simp))
                    rw [e8]
                    clear e8
                    go_simp
                    exact hK _ _ ⟨(upd (upd x 8 (.int .i64 (k : Int))) 9 (.int .i64 ((k : Int) + 1))), rfl, c0, c1, c2, c3, ((hx.put 8 rfl).set 9 rfl)⟩
                  case ks10 =>
                    have e7 := hx.get 7 rfl (hd 7 (by simp))
                    have e9 := hx.get 9 rfl (hd 9 (by simp))
                    rw [e7, e9]
                    clear e7 e9
                    go_simp
                    exact hK _ _ ⟨(upd (upd (upd x 7 (.slice (some ⟨b, off, none⟩) l.length cap)) 9 (.int .i64 ((k : Int) + 1))) 10 (.pointer (some ⟨b, off + (k + 1) * 5, none⟩))), rfl, c0, c1, c2, c3, (((hx.put 7 rfl).put 9 rfl).set 10 rfl)⟩
                  case ks11 =>
                    have e10 := hx.get 10 rfl (hd 10 (by simp))
                    rw [e10]
                    clear e10
                    go_simp
                    exact hK _ _ ⟨(upd (upd x 10 (.pointer (some ⟨b, off + (k + 1) * 5, none⟩))) 11 (.pointer (some ⟨b, off + (k + 1) * 5 + 4, none⟩))), rfl, c0, c1, c2, c3, ((hx.put 10 rfl).set 11 rfl)⟩
                  case ks12 =>
                    have e11 := hx.get 11 rfl (hd 11 (by simp))
                    rw [e11]
                    clear e11
                    have n13 : f 13 = false := by cases h : f 13; rfl; exact absurd (hcl 13 12 (by kernel_rfl) (h)) (by rw [hf]; simp)
                    have n14 : f 14 = false := by cases h : f 14; rfl; exact absurd (hcl 13 12 (by kernel_rfl) (hcl 14 13 (by kernel_rfl) (h))) (by rw [hf]; simp)
                    have hb := c0 n14
                    obtain ⟨a0, a1, b0, b1, b2, b3, b4, q0, q1, q2, q3, q4⟩ := hst.out Vr hb
                    clear hb
                    clear n13 n14
                    go_simp
                    exact hK _ _ ⟨(upd (upd x 11 (.pointer (some ⟨b, off + (k + 1) * 5 + 4, none⟩))) 12 (.int .i64 u.col)), rfl, c0, c1, c2, c3, ((hx.put 11 rfl).set 12 rfl)⟩
                  case ks13 =>
                    have e12 := hx.get 12 rfl (hd 12 (by simp))
                    rw [e12]
                    clear e12
                    have n14 : f 14 = false := by cases h : f 14; rfl; exact absurd (hcl 14 13 (by kernel_rfl) (h)) (by rw [hf]; simp)
                    have y6 : f 6 = true := hd 6 (by simp)
                    have hb := c0 n14
                    have hs := c1 y6 hf n14
                    go_simp
                    refine (hop.out Vr _ hb hs).mono ?_
                    rintro e V1 ⟨z2, rfl, hz2, hB⟩
                    exact hK _ _ ⟨upd (upd x 12 (.int .i64 u.col)) 13 z2, rfl, fun _ => hb.trans (hB.mono hb.size), fun _ h => (nomatch h), fun _ _ => hz2, fun h => absurd (n14.symm.trans h) (by decide), VO.free (hx.put 12 rfl) 13 rfl _⟩
                  case ks14 =>
                    have y6 : f 6 = true := hcl 13 6 (by kernel_rfl) (hd 13 (by simp))
                    have y13 : f 13 = true := hd 13 (by simp)
                    have hb := c0 hf
                    have hs := c2 y13 hf
                    obtain ⟨ya, yn, yc, yb, ym, yd, e2⟩ := hs.agg
                    have hs2 := hs
                    rw [e2] at hs2
                    have hIr := hI3.out.below hb
                    have hE := hIr.ends' hs2
                    obtain ⟨_, _, e0, e1, ef⟩ := hIr.cells
                    rw [e2]
                    have hE := Lib.hid hE
                    clear hs hs2 hIr c0 c1 c2 c3
                    go_simp
                    exact hK _ _ ⟨upd x 13 (.agg #[.slice ya yn yc, .slice yb ym yd]), rfl, fun h => (nomatch h), fun _ _ h => (nomatch h), fun _ h => (nomatch h), fun _ => ⟨_, _, hE.out.1, hE.out.2.1, hE.out.2.2⟩, VO.done (VO.keep hx 13 rfl _) 14 rfl⟩
                  case ks15 =>
                    go_simp
                    exact hK _ _ ⟨(upd x 15 (.bool true)), rfl, c0, c1, c2, c3, (hx.set 15 rfl)⟩
                case klast =>
                  rintro f a Vr hf ⟨x, rfl, c0, c1, c2, c3, hx⟩
                  obtain ⟨z0, z1, hbx, hsv, hlw⟩ := c3 (hf 14 (by simp))
                  have e7 := hx.get 15 rfl (hf 15 (by simp))
                  rw [e7]
                  clear c0 c1 c2 c3 hx e7 hst hpu hop
                  have hbx := Lib.hid hbx
                  have hsv := Lib.hid hsv
                  have hlw := Lib.hid hlw
                  go_wp2_with fail
                  refine bodyPost_ret (results_stb rfl _ _ rfl rfl hbx.out.cells.1) rfl ⟨_, by rw [hbe.out]; rfl, by rw [hbe.out]; simpa using hsv.out, hlw.out⟩
              | false =>
                have hbe : Hid (behS t (some u) st = ([mkT bOpen t, mkT bShut t], st, false)) := by unfold Hid behS; rw [if_neg (by rw [h1'.out]; simp), if_neg (by rw [h2'.out]; simp), if_pos h3'.out]; simp only; rw [if_neg (by rw [h4'.out]; simp), if_neg (of_decide_eq_false hb3'.out)]
                have hI3 := Lib.hid (hI3.out.below c0)
                clear c0 hst hco
                have hst : Hid (∀ V, Below Y.heap.size Y V → V.cell? ⟨W.heap.size, 0, none⟩ = some y0 ∧ V.cell? ⟨W.heap.size, 1, none⟩ = some y1 ∧ V.cell? ⟨W.heap.size + 2, 0, none⟩ = some (.int .i64 t.kind) ∧ V.cell? ⟨W.heap.size + 2, 1, none⟩ = some (.string (tS t.text)) ∧ V.cell? ⟨W.heap.size + 2, 2, none⟩ = some (.int .i64 t.num) ∧ V.cell? ⟨W.heap.size + 2, 3, none⟩ = some (.int .i64 t.line) ∧ V.cell? ⟨W.heap.size + 2, 4, none⟩ = some (.int .i64 t.col) ∧ True ∧ True ∧ True ∧ True ∧ True) := fun V hV => by
                  obtain ⟨⟨a0, a1, _⟩, ⟨b0, b1, b2, b3, b4⟩, _⟩ := (hI3.out.below hV).cells
                  exact ⟨a0, a1, b0, b1, b2, b3, b4, trivial, trivial, trivial, trivial, trivial⟩
                have hpu : Hid (∀ V, Below Y.heap.size Y V → Calls Tryz.prog 21 #[.agg #[y0, y1], .string ⟨#[123]⟩, .agg #[.int .i64 t.kind, .string (tS t.text), .int .i64 t.num, .int .i64 t.line, .int .i64 t.col]] V fun e V' => ∃ z, e = .returned z ∧ StV V' z (ts ++ [mkT bOpen t]) st ∧ Below V.heap.size V V') := fun V hV => r03_put bOpen t V (hI3.out.stv.keeps (Keeps.of_below hV)) (by omega)
                have hop : Hid (∀ (V : World) (v : Value), Below Y.heap.size Y V → StV V v (ts ++ [mkT bOpen t]) st → Calls Tryz.prog 21 #[v, .string ⟨#[125]⟩, .agg #[.int .i64 t.kind, .string (tS t.text), .int .i64 t.num, .int .i64 t.line, .int .i64 t.col]] V fun e V' => ∃ z, e = .returned z ∧ StV V' z (ts ++ [mkT bOpen t] ++ [mkT bShut t]) st ∧ Below V.heap.size V V') := fun V v hV hs => r03_put bShut t V hs (by simp; omega)
                go_upto_region 12 with (fail)
                refine wp_region_inv (fun f a Vr => ∃ x : Nat → Value, a = ⟨#[.agg #[y0, y1], .slice (some ⟨b, off, none⟩) l.length cap, .int .i64 (k : Int), .pointer (some ⟨W.heap.size, 0, none⟩), undef, undef, .pointer (some ⟨W.heap.size + 1, 0, none⟩), x 6, .pointer (some ⟨W.heap.size + 2, 0, none⟩), .slice (some ⟨b, off, none⟩) l.length cap, .int .i64 (k : Int), .pointer (some ⟨b, off + k * 5, none⟩), .agg #[.int .i64 t.kind, .string (tS t.text), .int .i64 t.num, .int .i64 t.line, .int .i64 t.col], .agg #[.int .i64 t.kind, .string (tS t.text), .int .i64 t.num, .int .i64 t.line, .int .i64 t.col], .bool false, undef, undef, .agg #[.int .i64 t.kind, .string (tS t.text), .int .i64 t.num, .int .i64 t.line, .int .i64 t.col], .bool false, undef, undef, u21, u22, u23, u24, u25, u26, u27, u28, u29, u30, u31, u32, .bool false, undef, .int .i64 (k : Int), .int .i64 ((k : Int) + 1), .slice (some ⟨b, off, none⟩) l.length cap, .int .i64 (l.length : Int), .bool true, .bool true, .slice (some ⟨b, off, none⟩) l.length cap, .int .i64 (k : Int), .int .i64 ((k : Int) + 1), .pointer (some ⟨b, off + (k + 1) * 5, none⟩), .agg #[.int .i64 u.kind, .string (tS u.text), .int .i64 u.num, .int .i64 u.line, .int .i64 u.col], .bool false, .bool false, undef, z 0, z 1, z 2, z 3, z 4, z 5, z 6, z 7, z 8, z 9, z 10, z 11, z 12, z 13, z 14, .bool false, undef, undef, undef, undef, undef, undef, undef, undef, undef, undef, undef, undef, undef, undef, x 0, x 1, x 2, x 3, x 4], []⟩ ∧ (f 5 = false → Below Y.heap.size Y Vr) ∧ (f 2 = true → f 4 = false → f 5 = false → StV Vr (x 2) (ts ++ [mkT bOpen t]) (st)) ∧ (f 4 = true → f 5 = false → StV Vr (x 4) (ts ++ [mkT bOpen t] ++ [mkT bShut t]) (st)) ∧ (f 5 = true → ∃ z0 z1, Box2 Vr 49 (W.heap.size + 1) z0 z1 ∧ StV Vr (.agg #[z0, z1]) (ts ++ [mkT bOpen t] ++ [mkT bShut t]) (st) ∧ Below W.heap.size W Vr) ∧ VO [some (.agg #[y0, y1]), some (.agg #[.int .i64 t.kind, .string (tS t.text), .int .i64 t.num, .int .i64 t.line, .int .i64 t.col]), none, some (.agg #[.int .i64 t.kind, .string (tS t.text), .int .i64 t.num, .int .i64 t.line, .int .i64 t.col]), none, none, some (.bool false)] f x) (by kernel_rfl) (by kernel_rfl) (rs := [0, 1, 2, 3, 4, 5, 6]) (by kernel_rfl) ?mstart ?msteps ?mlast
                case mstart => exact ⟨fun i => ([undef, undef, undef, undef, undef, undef, .bool false] : List Value).getD i undef, rfl, fun _ => (Below.refl _ _).drew, by simp, by simp, by simp, VO.nil _ _⟩
                case msteps =>
                  refine (KeepsI.cons (ds := []) rfl (by kernel_rfl) ?ms0 (KeepsI.cons (ds := []) rfl (by kernel_rfl) ?ms1 (KeepsI.cons (ds := [0, 1]) rfl (by kernel_rfl) ?ms2 (KeepsI.cons (ds := []) rfl (by kernel_rfl) ?ms3 (KeepsI.cons (ds := [2, 3]) rfl (by kernel_rfl) ?ms4 (KeepsI.cons (ds := [4]) rfl (by kernel_rfl) ?ms5 (KeepsI.cons (ds := []) rfl (by kernel_rfl) ?ms6 KeepsI.nil)))))))
                  all_goals (intro f a Vr hf hd hcl hI K' hK; obtain ⟨x, rfl, c0, c1, c2, c3, hx⟩ := hI)
                  case ms0 =>
                    have n2 : f 2 = false := by cases h : f 2; rfl; exact absurd (hcl 2 0 (by kernel_rfl) (h)) (by rw [hf]; simp)
                    have n4 : f 4 = false := by cases h : f 4; rfl; exact absurd (hcl 2 0 (by kernel_rfl) (hcl 4 2 (by kernel_rfl) (h))) (by rw [hf]; simp)
                    have n5 : f 5 = false := by cases h : f 5; rfl; exact absurd (hcl 2 0 (by kernel_rfl) (hcl 4 2 (by kernel_rfl) (hcl 5 4 (by kernel_rfl) (h)))) (by rw [hf]; simp)
                    have hb := c0 n5
                    obtain ⟨a0, a1, b0, b1, b2, b3, b4, q0, q1, q2, q3, q4⟩ := hst.out Vr hb
                    clear hb
                    clear n2 n4 n5
                    go_simp
                    exact hK _ _ ⟨(upd x 0 (.agg #[y0, y1])), rfl, c0, c1, c2, c3, (hx.set 0 rfl)⟩
                  case ms1 =>
                    have n2 : f 2 = false := by cases h : f 2; rfl; exact absurd (hcl 2 1 (by kernel_rfl) (h)) (by rw [hf]; simp)
                    have n4 : f 4 = false := by cases h : f 4; rfl; exact absurd (hcl 2 1 (by kernel_rfl) (hcl 4 2 (by kernel_rfl) (h))) (by rw [hf]; simp)
                    have n5 : f 5 = false := by cases h : f 5; rfl; exact absurd (hcl 2 1 (by kernel_rfl) (hcl 4 2 (by kernel_rfl) (hcl 5 4 (by kernel_rfl) (h)))) (by rw [hf]; simp)
                    have hb := c0 n5
                    obtain ⟨a0, a1, b0, b1, b2, b3, b4, q0, q1, q2, q3, q4⟩ := hst.out Vr hb
                    clear hb
                    clear n2 n4 n5
                    go_simp
                    exact hK _ _ ⟨(upd x 1 (.agg #[.int .i64 t.kind, .string (tS t.text), .int .i64 t.num, .int .i64 t.line, .int .i64 t.col])), rfl, c0, c1, c2, c3, (hx.set 1 rfl)⟩
                  case ms2 =>
                    have e0 := hx.get 0 rfl (hd 0 (by simp))
                    have e1 := hx.get 1 rfl (hd 1 (by simp))
                    rw [e0, e1]
                    clear e0 e1
                    have n4 : f 4 = false := by cases h : f 4; rfl; exact absurd (hcl 4 2 (by kernel_rfl) (h)) (by rw [hf]; simp)
                    have n5 : f 5 = false := by cases h : f 5; rfl; exact absurd (hcl 4 2 (by kernel_rfl) (hcl 5 4 (by kernel_rfl) (h))) (by rw [hf]; simp)
                    have hb := c0 n5
                    go_simp
                    refine (hpu.out Vr hb).mono ?_
                    rintro e V1 ⟨z1, rfl, hz1, hB⟩
                    exact hK _ _ ⟨upd (upd (upd x 0 (.agg #[y0, y1])) 1 (.agg #[.int .i64 t.kind, .string (tS t.text), .int .i64 t.num, .int .i64 t.line, .int .i64 t.col])) 2 z1, rfl, fun _ => hb.trans (hB.mono hb.size), fun _ _ _ => hz1, fun h => absurd (n4.symm.trans h) (by decide), fun h => absurd (n5.symm.trans h) (by decide), VO.free ((hx.put 0 rfl).put 1 rfl) 2 rfl _⟩
                  case ms3 =>
                    have n4 : f 4 = false := by cases h : f 4; rfl; exact absurd (hcl 4 3 (by kernel_rfl) (h)) (by rw [hf]; simp)
                    have n5 : f 5 = false := by cases h : f 5; rfl; exact absurd (hcl 4 3 (by kernel_rfl) (hcl 5 4 (by kernel_rfl) (h))) (by rw [hf]; simp)
                    have hb := c0 n5
                    obtain ⟨a0, a1, b0, b1, b2, b3, b4, q0, q1, q2, q3, q4⟩ := hst.out Vr hb
                    clear hb
                    clear n4 n5
                    go_simp
                    exact hK _ _ ⟨(upd x 3 (.agg #[.int .i64 t.kind, .string (tS t.text), .int .i64 t.num, .int .i64 t.line, .int .i64 t.col])), rfl, c0, c1, c2, c3, (hx.set 3 rfl)⟩
                  case ms4 =>
                    have e3 := hx.get 3 rfl (hd 3 (by simp))
                    rw [e3]
                    clear e3
                    have n5 : f 5 = false := by cases h : f 5; rfl; exact absurd (hcl 5 4 (by kernel_rfl) (h)) (by rw [hf]; simp)
                    have y2 : f 2 = true := hd 2 (by simp)
                    have hb := c0 n5
                    have hs := c1 y2 hf n5
                    go_simp
                    refine (hop.out Vr _ hb hs).mono ?_
                    rintro e V1 ⟨z2, rfl, hz2, hB⟩
                    exact hK _ _ ⟨upd (upd x 3 (.agg #[.int .i64 t.kind, .string (tS t.text), .int .i64 t.num, .int .i64 t.line, .int .i64 t.col])) 4 z2, rfl, fun _ => hb.trans (hB.mono hb.size), fun _ h => (nomatch h), fun _ _ => hz2, fun h => absurd (n5.symm.trans h) (by decide), VO.free (hx.put 3 rfl) 4 rfl _⟩
                  case ms5 =>
                    have y2 : f 2 = true := hcl 4 2 (by kernel_rfl) (hd 4 (by simp))
                    have y4 : f 4 = true := hd 4 (by simp)
                    have hb := c0 hf
                    have hs := c2 y4 hf
                    obtain ⟨ya, yn, yc, yb, ym, yd, e2⟩ := hs.agg
                    have hs2 := hs
                    rw [e2] at hs2
                    have hIr := hI3.out.below hb
                    have hE := hIr.ends' hs2
                    obtain ⟨_, _, e0, e1, ef⟩ := hIr.cells
                    rw [e2]
                    have hE := Lib.hid hE
                    clear hs hs2 hIr c0 c1 c2 c3
                    go_simp
                    exact hK _ _ ⟨upd x 4 (.agg #[.slice ya yn yc, .slice yb ym yd]), rfl, fun h => (nomatch h), fun _ _ h => (nomatch h), fun _ h => (nomatch h), fun _ => ⟨_, _, hE.out.1, hE.out.2.1, hE.out.2.2⟩, VO.done (VO.keep hx 4 rfl _) 5 rfl⟩
                  case ms6 =>
                    go_simp
                    exact hK _ _ ⟨(upd x 6 (.bool false)), rfl, c0, c1, c2, c3, (hx.set 6 rfl)⟩
                case mlast =>
                  rintro f a Vr hf ⟨x, rfl, c0, c1, c2, c3, hx⟩
                  obtain ⟨z0, z1, hbx, hsv, hlw⟩ := c3 (hf 5 (by simp))
                  have e7 := hx.get 6 rfl (hf 6 (by simp))
                  rw [e7]
                  clear c0 c1 c2 c3 hx e7 hst hpu hop
                  have hbx := Lib.hid hbx
                  have hsv := Lib.hid hsv
                  have hlw := Lib.hid hlw
                  go_wp2_with fail
                  refine bodyPost_ret (results_stb rfl _ _ rfl rfl hbx.out.cells.1) rfl ⟨_, by rw [hbe.out]; rfl, by rw [hbe.out]; simpa using hsv.out, hlw.out⟩
        · have hnu : nx = none := by rw [← hnx, List.head?_drop, List.getElem?_eq_none (by omega)]
          subst hnu
          have hbe : Hid (behS t none st = ([mkT bOpen t, mkT bShut t], st, false)) := by unfold Hid behS; rw [if_neg (by rw [h1'.out]; simp), if_neg (by rw [h2'.out]; simp), if_pos h3'.out]
          have hk1i : ¬ (k : Int) + 1 < (l.length : Int) := by omega
          have hk1d : decide (k + 1 < l.length) = false := decide_eq_false hk1
          have hk1e : decide ((k : Int) + 1 < (l.length : Int)) = false := decide_eq_false hk1i
          clear hnx hk1
          go_upto_region 10 with (fail)
          refine wp_region_inv (fun f a Vr => ∃ x : Nat → Value, a = ⟨#[.agg #[y0, y1], .slice (some ⟨b, off, none⟩) l.length cap, .int .i64 (k : Int), .pointer (some ⟨W.heap.size, 0, none⟩), undef, undef, .pointer (some ⟨W.heap.size + 1, 0, none⟩), .bool false, .pointer (some ⟨W.heap.size + 2, 0, none⟩), .slice (some ⟨b, off, none⟩) l.length cap, .int .i64 (k : Int), .pointer (some ⟨b, off + k * 5, none⟩), .agg #[.int .i64 t.kind, .string (tS t.text), .int .i64 t.num, .int .i64 t.line, .int .i64 t.col], .agg #[.int .i64 t.kind, .string (tS t.text), .int .i64 t.num, .int .i64 t.line, .int .i64 t.col], .bool false, undef, undef, .agg #[.int .i64 t.kind, .string (tS t.text), .int .i64 t.num, .int .i64 t.line, .int .i64 t.col], .bool false, undef, undef, u21, u22, u23, u24, u25, u26, u27, u28, u29, u30, u31, u32, .bool !true, undef, .int .i64 (k : Int), .int .i64 ((k : Int) + 1), .slice (some ⟨b, off, none⟩) l.length cap, .int .i64 (l.length : Int), .bool false, .bool false, undef, undef, undef, undef, undef, undef, .bool false, undef, x 0, x 1, x 2, x 3, x 4, x 5, x 6, x 7, x 8, x 9, x 10, x 11, x 12, x 13, x 14, x 15, undef, undef, undef, undef, undef, undef, undef, undef, undef, undef, undef, undef, undef, undef, undef, undef, undef, undef, undef], []⟩ ∧ (Below X.heap.size X Vr) ∧ VO [some (.int .i64 (k : Int)), some (.int .i64 ((k : Int) + 1)), some (.slice (some ⟨b, off, none⟩) l.length cap), some (.int .i64 (l.length : Int)), some (.bool false), some (.bool false), some (undef), some (undef), some (undef), some (undef), some (undef), some (undef), some (undef), some (undef), some (undef), some (.bool false)] f x) (by kernel_rfl) (by kernel_rfl) (rs := [0, 1, 2, 3, 4, 5, 6, 7, 8, 9, 10, 11, 12, 13, 14, 15]) (by kernel_rfl) ?start ?steps ?last
          case start => exact ⟨fun i => ([undef, undef, undef, undef, undef, undef, undef, undef, undef, undef, undef, undef, undef, undef, undef, undef] : List Value).getD i undef, rfl, (Below.refl _ _).drew, VO.nil _ _⟩
          case steps =>
            refine (KeepsI.cons (ds := []) rfl (by kernel_rfl) ?s0 (KeepsI.cons (ds := [0]) rfl (by kernel_rfl) ?s1 (KeepsI.cons (ds := []) rfl (by kernel_rfl) ?s2 (KeepsI.cons (ds := [2]) rfl (by kernel_rfl) ?s3 (KeepsI.cons (ds := [1, 3]) rfl (by kernel_rfl) ?s4 (KeepsI.cons (ds := [4]) rfl (by kernel_rfl) ?s5 (KeepsI.cons (ds := [5]) rfl (by kernel_rfl) ?s6 (KeepsI.cons (ds := [5]) rfl (by kernel_rfl) ?s7 (KeepsI.cons (ds := [7, 5]) rfl (by kernel_rfl) ?s8 (KeepsI.cons (ds := [6, 8, 5]) rfl (by kernel_rfl) ?s9 (KeepsI.cons (ds := [9, 5]) rfl (by kernel_rfl) ?s10 (KeepsI.cons (ds := [10, 5]) rfl (by kernel_rfl) ?s11 (KeepsI.cons (ds := [5]) rfl (by kernel_rfl) ?s12 (KeepsI.cons (ds := [12, 5]) rfl (by kernel_rfl) ?s13 (KeepsI.cons (ds := [11, 13, 5]) rfl (by kernel_rfl) ?s14 (KeepsI.cons (ds := [5, 14]) rfl (by kernel_rfl) ?s15 KeepsI.nil))))))))))))))))
            all_goals (intro f a Vr hf hd hcl hI K' hK; obtain ⟨x, rfl, c0, hx⟩ := hI)
            case s0 =>
              go_simp
              exact hK _ _ ⟨(upd x 0 (.int .i64 (k : Int))), rfl, c0, (hx.set 0 rfl)⟩
            case s1 =>
              have e0 := hx.get 0 rfl (hd 0 (by simp))
              rw [e0]
              clear e0
              go_simp
              exact hK _ _ ⟨(upd (upd x 0 (.int .i64 (k : Int))) 1 (.int .i64 ((k : Int) + 1))), rfl, c0, ((hx.put 0 rfl).set 1 rfl)⟩
            case s2 =>
              go_simp
              exact hK _ _ ⟨(upd x 2 (.slice (some ⟨b, off, none⟩) l.length cap)), rfl, c0, (hx.set 2 rfl)⟩
            case s3 =>
              have e2 := hx.get 2 rfl (hd 2 (by simp))
              rw [e2]
              clear e2
              go_simp
              exact hK _ _ ⟨(upd (upd x 2 (.slice (some ⟨b, off, none⟩) l.length cap)) 3 (.int .i64 (l.length : Int))), rfl, c0, ((hx.put 2 rfl).set 3 rfl)⟩
            case s4 =>
              have e1 := hx.get 1 rfl (hd 1 (by simp))
              have e3 := hx.get 3 rfl (hd 3 (by simp))
              rw [e1, e3]
              clear e1 e3
              go_simp
              exact hK _ _ ⟨(upd (upd (upd x 1 (.int .i64 ((k : Int) + 1))) 3 (.int .i64 (l.length : Int))) 4 (.bool false)), rfl, c0, (((hx.put 1 rfl).put 3 rfl).set 4 rfl)⟩
            case s5 =>
              have e4 := hx.get 4 rfl (hd 4 (by simp))
              rw [e4]
              clear e4
              go_simp
              exact hK _ _ ⟨(upd (upd x 4 (.bool false)) 5 (.bool false)), rfl, c0, ((hx.put 4 rfl).set 5 rfl)⟩
            case s6 =>
              have e5 := hx.get 5 rfl (hd 5 (by simp))
              rw [e5]
              clear e5
              go_simp
              exact hK _ _ ⟨(upd (upd x 5 (.bool false)) 6 (undef)), rfl, c0, ((hx.put 5 rfl).set 6 rfl)⟩
            case s7 =>
              have e5 := hx.get 5 rfl (hd 5 (by simp))
              rw [e5]
              clear e5
              go_simp
              exact hK _ _ ⟨(upd (upd x 5 (.bool false)) 7 (undef)), rfl, c0, ((hx.put 5 rfl).set 7 rfl)⟩
            case s8 =>
              have e7 := hx.get 7 rfl (hd 7 (by simp))
              have e5 := hx.get 5 rfl (hd 5 (by simp))
              rw [e7, e5]
              clear e7 e5
              go_simp
              exact hK _ _ ⟨(upd (upd (upd x 7 (undef)) 5 (.bool false)) 8 (undef)), rfl, c0, (((hx.put 7 rfl).put 5 rfl).set 8 rfl)⟩
            case s9 =>
              have e6 := hx.get 6 rfl (hd 6 (by simp))
              have e8 := hx.get 8 rfl (hd 8 (by simp))
              have e5 := hx.get 5 rfl (hd 5 (by simp))
              rw [e6, e8, e5]
              clear e6 e8 e5
              go_simp
              exact hK _ _ ⟨(upd (upd (upd (upd x 6 (undef)) 8 (undef)) 5 (.bool false)) 9 (undef)), rfl, c0, ((((hx.put 6 rfl).put 8 rfl).put 5 rfl).set 9 rfl)⟩
            case s10 =>
              have e9 := hx.get 9 rfl (hd 9 (by simp))
              have e5 := hx.get 5 rfl (hd 5 (by simp))
              rw [e9, e5]
              clear e9 e5
              go_simp
              exact hK _ _ ⟨(upd (upd (upd x 9 (undef)) 5 (.bool false)) 10 (undef)), rfl, c0, (((hx.put 9 rfl).put 5 rfl).set 10 rfl)⟩
            case s11 =>
              have e10 := hx.get 10 rfl (hd 10 (by simp))
              have e5 := hx.get 5 rfl (hd 5 (by simp))
              rw [e10, e5]
              clear e10 e5
              go_simp
              exact hK _ _ ⟨(upd (upd (upd x 10 (undef)) 5 (.bool false)) 11 (undef)), rfl, c0, (((hx.put 10 rfl).put 5 rfl).set 11 rfl)⟩
            case s12 =>
              have e5 := hx.get 5 rfl (hd 5 (by simp))
              rw [e5]
              clear e5
              go_simp
              exact hK _ _ ⟨(upd (upd x 5 (.bool false)) 12 (undef)), rfl, c0, ((hx.put 5 rfl).set 12 rfl)⟩
            case s13 =>
              have e12 := hx.get 12 rfl (hd 12 (by simp))
              have e5 := hx.get 5 rfl (hd 5 (by simp))
              rw [e12, e5]
              clear e12 e5
              go_simp
              exact hK _ _ ⟨(upd (upd (upd x 12 (undef)) 5 (.bool false)) 13 (undef)), rfl, c0, (((hx.put 12 rfl).put 5 rfl).set 13 rfl)⟩
            case s14 =>
              have e11 := hx.get 11 rfl (hd 11 (by simp))
              have e13 := hx.get 13 rfl (hd 13 (by simp))
              have e5 := hx.get 5 rfl (hd 5 (by simp))
              rw [e11, e13, e5]
              clear e11 e13 e5
              go_simp
              exact hK _ _ ⟨(upd (upd (upd (upd x 11 (undef)) 13 (undef)) 5 (.bool false)) 14 (undef)), rfl, c0, ((((hx.put 11 rfl).put 13 rfl).put 5 rfl).set 14 rfl)⟩
            case s15 =>
              have e5 := hx.get 5 rfl (hd 5 (by simp))
              have e14 := hx.get 14 rfl (hd 14 (by simp))
              rw [e5, e14]
              clear e5 e14
              go_simp
              exact hK _ _ ⟨(upd (upd (upd x 5 (.bool false)) 14 (undef)) 15 (.bool false)), rfl, c0, (((hx.put 5 rfl).put 14 rfl).set 15 rfl)⟩
          case last =>
            rintro f a Vr hf ⟨x, rfl, c0, hx⟩
            have e15 := hx.get 15 rfl (hf 15 (by simp))
            rw [e15]
            clear hx e15
            obtain ⟨z, rfl⟩ : ∃ z, z = x := ⟨_, rfl⟩
            obtain ⟨Y, rfl⟩ : ∃ Y, Y = Vr := ⟨_, rfl⟩
            have hI3 := Lib.hid (hX.out.below c0)
            clear c0
            have hst : Hid (∀ V, Below Y.heap.size Y V → V.cell? ⟨W.heap.size, 0, none⟩ = some y0 ∧ V.cell? ⟨W.heap.size, 1, none⟩ = some y1 ∧ V.cell? ⟨W.heap.size + 2, 0, none⟩ = some (.int .i64 t.kind) ∧ V.cell? ⟨W.heap.size + 2, 1, none⟩ = some (.string (tS t.text)) ∧ V.cell? ⟨W.heap.size + 2, 2, none⟩ = some (.int .i64 t.num) ∧ V.cell? ⟨W.heap.size + 2, 3, none⟩ = some (.int .i64 t.line) ∧ V.cell? ⟨W.heap.size + 2, 4, none⟩ = some (.int .i64 t.col) ∧ True ∧ True ∧ True ∧ True ∧ True) := fun V hV => by
              obtain ⟨⟨a0, a1, _⟩, ⟨b0, b1, b2, b3, b4⟩, _⟩ := (hI3.out.below hV).cells
              exact ⟨a0, a1, b0, b1, b2, b3, b4, trivial, trivial, trivial, trivial, trivial⟩
            have hpu : Hid (∀ V, Below Y.heap.size Y V → Calls Tryz.prog 21 #[.agg #[y0, y1], .string ⟨#[123]⟩, .agg #[.int .i64 t.kind, .string (tS t.text), .int .i64 t.num, .int .i64 t.line, .int .i64 t.col]] V fun e V' => ∃ z, e = .returned z ∧ StV V' z (ts ++ [mkT bOpen t]) st ∧ Below V.heap.size V V') := fun V hV => r03_put bOpen t V (hI3.out.stv.keeps (Keeps.of_below hV)) (by omega)
            have hop : Hid (∀ (V : World) (v : Value), Below Y.heap.size Y V → StV V v (ts ++ [mkT bOpen t]) st → Calls Tryz.prog 21 #[v, .string ⟨#[125]⟩, .agg #[.int .i64 t.kind, .string (tS t.text), .int .i64 t.num, .int .i64 t.line, .int .i64 t.col]] V fun e V' => ∃ z, e = .returned z ∧ StV V' z (ts ++ [mkT bOpen t] ++ [mkT bShut t]) st ∧ Below V.heap.size V V') := fun V v hV hs => r03_put bShut t V hs (by simp; omega)
            go_upto_region 12 with (fail)
            refine wp_region_inv (fun f a Vr => ∃ x : Nat → Value, a = ⟨#[.agg #[y0, y1], .slice (some ⟨b, off, none⟩) l.length cap, .int .i64 (k : Int), .pointer (some ⟨W.heap.size, 0, none⟩), undef, undef, .pointer (some ⟨W.heap.size + 1, 0, none⟩), x 6, .pointer (some ⟨W.heap.size + 2, 0, none⟩), .slice (some ⟨b, off, none⟩) l.length cap, .int .i64 (k : Int), .pointer (some ⟨b, off + k * 5, none⟩), .agg #[.int .i64 t.kind, .string (tS t.text), .int .i64 t.num, .int .i64 t.line, .int .i64 t.col], .agg #[.int .i64 t.kind, .string (tS t.text), .int .i64 t.num, .int .i64 t.line, .int .i64 t.col], .bool false, undef, undef, .agg #[.int .i64 t.kind, .string (tS t.text), .int .i64 t.num, .int .i64 t.line, .int .i64 t.col], .bool false, undef, undef, u21, u22, u23, u24, u25, u26, u27, u28, u29, u30, u31, u32, .bool !true, undef, .int .i64 (k : Int), .int .i64 ((k : Int) + 1), .slice (some ⟨b, off, none⟩) l.length cap, .int .i64 (l.length : Int), .bool false, .bool false, undef, undef, undef, undef, undef, undef, .bool false, undef, z 0, z 1, z 2, z 3, z 4, z 5, z 6, z 7, z 8, z 9, z 10, z 11, z 12, z 13, z 14, .bool false, undef, undef, undef, undef, undef, undef, undef, undef, undef, undef, undef, undef, undef, undef, x 0, x 1, x 2, x 3, x 4], []⟩ ∧ (f 5 = false → Below Y.heap.size Y Vr) ∧ (f 2 = true → f 4 = false → f 5 = false → StV Vr (x 2) (ts ++ [mkT bOpen t]) (st)) ∧ (f 4 = true → f 5 = false → StV Vr (x 4) (ts ++ [mkT bOpen t] ++ [mkT bShut t]) (st)) ∧ (f 5 = true → ∃ z0 z1, Box2 Vr 49 (W.heap.size + 1) z0 z1 ∧ StV Vr (.agg #[z0, z1]) (ts ++ [mkT bOpen t] ++ [mkT bShut t]) (st) ∧ Below W.heap.size W Vr) ∧ VO [some (.agg #[y0, y1]), some (.agg #[.int .i64 t.kind, .string (tS t.text), .int .i64 t.num, .int .i64 t.line, .int .i64 t.col]), none, some (.agg #[.int .i64 t.kind, .string (tS t.text), .int .i64 t.num, .int .i64 t.line, .int .i64 t.col]), none, none, some (.bool false)] f x) (by kernel_rfl) (by kernel_rfl) (rs := [0, 1, 2, 3, 4, 5, 6]) (by kernel_rfl) ?mstart ?msteps ?mlast
            case mstart => exact ⟨fun i => ([undef, undef, undef, undef, undef, undef, .bool false] : List Value).getD i undef, rfl, fun _ => (Below.refl _ _).drew, by simp, by simp, by simp, VO.nil _ _⟩
            case msteps =>
              refine (KeepsI.cons (ds := []) rfl (by kernel_rfl) ?ms0 (KeepsI.cons (ds := []) rfl (by kernel_rfl) ?ms1 (KeepsI.cons (ds := [0, 1]) rfl (by kernel_rfl) ?ms2 (KeepsI.cons (ds := []) rfl (by kernel_rfl) ?ms3 (KeepsI.cons (ds := [2, 3]) rfl (by kernel_rfl) ?ms4 (KeepsI.cons (ds := [4]) rfl (by kernel_rfl) ?ms5 (KeepsI.cons (ds := []) rfl (by kernel_rfl) ?ms6 KeepsI.nil)))))))
              all_goals (intro f a Vr hf hd hcl hI K' hK; obtain ⟨x, rfl, c0, c1, c2, c3, hx⟩ := hI)
              case ms0 =>
                have n2 : f 2 = false := by cases h : f 2; rfl; exact absurd (hcl 2 0 (by kernel_rfl) (h)) (by rw [hf]; simp)
                have n4 : f 4 = false := by cases h : f 4; rfl; exact absurd (hcl 2 0 (by kernel_rfl) (hcl 4 2 (by kernel_rfl) (h))) (by rw [hf]; simp)
                have n5 : f 5 = false := by cases h : f 5; rfl; exact absurd (hcl 2 0 (by kernel_rfl) (hcl 4 2 (by kernel_rfl) (hcl 5 4 (by kernel_rfl) (h)))) (by rw [hf]; simp)
                have hb := c0 n5
                obtain ⟨a0, a1, b0, b1, b2, b3, b4, q0, q1, q2, q3, q4⟩ := hst.out Vr hb
                clear hb
                clear n2 n4 n5
                go_simp
                exact hK _ _ ⟨(upd x 0 (.agg #[y0, y1])), rfl, c0, c1, c2, c3, (hx.set 0 rfl)⟩
              case ms1 =>
                have n2 : f 2 = false := by cases h : f 2; rfl; exact absurd (hcl 2 1 (by kernel_rfl) (h)) (by rw [hf]; simp)
                have n4 : f 4 = false := by cases h : f 4; rfl; exact absurd (hcl 2 1 (by kernel_rfl) (hcl 4 2 (by kernel_rfl) (h))) (by rw [hf]; simp)
                have n5 : f 5 = false := by cases h : f 5; rfl; exact absurd (hcl 2 1 (by kernel_rfl) (hcl 4 2 (by kernel_rfl) (hcl 5 4 (by kernel_rfl) (h)))) (by rw [hf]; simp)
                have hb := c0 n5
                obtain ⟨a0, a1, b0, b1, b2, b3, b4, q0, q1, q2, q3, q4⟩ := hst.out Vr hb
                clear hb
                clear n2 n4 n5
                go_simp
                exact hK _ _ ⟨(upd x 1 (.agg #[.int .i64 t.kind, .string (tS t.text), .int .i64 t.num, .int .i64 t.line, .int .i64 t.col])), rfl, c0, c1, c2, c3, (hx.set 1 rfl)⟩
              case ms2 =>
                have e0 := hx.get 0 rfl (hd 0 (by simp))
                have e1 := hx.get 1 rfl (hd 1 (by simp))
                rw [e0, e1]
                clear e0 e1
                have n4 : f 4 = false := by cases h : f 4; rfl; exact absurd (hcl 4 2 (by kernel_rfl) (h)) (by rw [hf]; simp)
                have n5 : f 5 = false := by cases h : f 5; rfl; exact absurd (hcl 4 2 (by kernel_rfl) (hcl 5 4 (by kernel_rfl) (h))) (by rw [hf]; simp)
                have hb := c0 n5
                go_simp
                refine (hpu.out Vr hb).mono ?_
                rintro e V1 ⟨z1, rfl, hz1, hB⟩
                exact hK _ _ ⟨upd (upd (upd x 0 (.agg #[y0, y1])) 1 (.agg #[.int .i64 t.kind, .string (tS t.text), .int .i64 t.num, .int .i64 t.line, .int .i64 t.col])) 2 z1, rfl, fun _ => hb.trans (hB.mono hb.size), fun _ _ _ => hz1, fun h => absurd (n4.symm.trans h) (by decide), fun h => absurd (n5.symm.trans h) (by decide), VO.free ((hx.put 0 rfl).put 1 rfl) 2 rfl _⟩
              case ms3 =>
                have n4 : f 4 = false := by cases h : f 4; rfl; exact absurd (hcl 4 3 (by kernel_rfl) (h)) (by rw [hf]; simp)
                have n5 : f 5 = false := by cases h : f 5; rfl; exact absurd (hcl 4 3 (by kernel_rfl) (hcl 5 4 (by kernel_rfl) (h))) (by rw [hf]; simp)
                have hb := c0 n5
                obtain ⟨a0, a1, b0, b1, b2, b3, b4, q0, q1, q2, q3, q4⟩ := hst.out Vr hb
                clear hb
                clear n4 n5
                go_simp
                exact hK _ _ ⟨(upd x 3 (.agg #[.int .i64 t.kind, .string (tS t.text), .int .i64 t.num, .int .i64 t.line, .int .i64 t.col])), rfl, c0, c1, c2, c3, (hx.set 3 rfl)⟩
              case ms4 =>
                have e3 := hx.get 3 rfl (hd 3 (by simp))
                rw [e3]
                clear e3
                have n5 : f 5 = false := by cases h : f 5; rfl; exact absurd (hcl 5 4 (by kernel_rfl) (h)) (by rw [hf]; simp)
                have y2 : f 2 = true := hd 2 (by simp)
                have hb := c0 n5
                have hs := c1 y2 hf n5
                go_simp
                refine (hop.out Vr _ hb hs).mono ?_
                rintro e V1 ⟨z2, rfl, hz2, hB⟩
                exact hK _ _ ⟨upd (upd x 3 (.agg #[.int .i64 t.kind, .string (tS t.text), .int .i64 t.num, .int .i64 t.line, .int .i64 t.col])) 4 z2, rfl, fun _ => hb.trans (hB.mono hb.size), fun _ h => (nomatch h), fun _ _ => hz2, fun h => absurd (n5.symm.trans h) (by decide), VO.free (hx.put 3 rfl) 4 rfl _⟩
              case ms5 =>
                have y2 : f 2 = true := hcl 4 2 (by kernel_rfl) (hd 4 (by simp))
                have y4 : f 4 = true := hd 4 (by simp)
                have hb := c0 hf
                have hs := c2 y4 hf
                obtain ⟨ya, yn, yc, yb, ym, yd, e2⟩ := hs.agg
                have hs2 := hs
                rw [e2] at hs2
                have hIr := hI3.out.below hb
                have hE := hIr.ends' hs2
                obtain ⟨_, _, e0, e1, ef⟩ := hIr.cells
                rw [e2]
                have hE := Lib.hid hE
                clear hs hs2 hIr c0 c1 c2 c3
                go_simp
                exact hK _ _ ⟨upd x 4 (.agg #[.slice ya yn yc, .slice yb ym yd]), rfl, fun h => (nomatch h), fun _ _ h => (nomatch h), fun _ h => (nomatch h), fun _ => ⟨_, _, hE.out.1, hE.out.2.1, hE.out.2.2⟩, VO.done (VO.keep hx 4 rfl _) 5 rfl⟩
              case ms6 =>
                go_simp
                exact hK _ _ ⟨(upd x 6 (.bool false)), rfl, c0, c1, c2, c3, (hx.set 6 rfl)⟩
            case mlast =>
              rintro f a Vr hf ⟨x, rfl, c0, c1, c2, c3, hx⟩
              obtain ⟨z0, z1, hbx, hsv, hlw⟩ := c3 (hf 5 (by simp))
              have e7 := hx.get 6 rfl (hf 6 (by simp))
              rw [e7]
              clear c0 c1 c2 c3 hx e7 hst hpu hop
              have hbx := Lib.hid hbx
              have hsv := Lib.hid hsv
              have hlw := Lib.hid hlw
              go_wp2_with fail
              refine bodyPost_ret (results_stb rfl _ _ rfl rfl hbx.out.cells.1) rfl ⟨_, by rw [hbe.out]; rfl, by rw [hbe.out]; simpa using hsv.out, hlw.out⟩
end Go.Proofs.YtchdfjihflmloaaGreatDoor
