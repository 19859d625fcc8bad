/- The reference's Key, Same, Text, walked. -/
import Derived.Test.YtchdfjihflmloaaGreatDoorLexV
import Derived.Test.YtchdfjihflmloaaGreatDoorLxC
import Derived.BigQuiet
namespace Go.Proofs.YtchdfjihflmloaaGreatDoor
open Go.RowKit

deriving instance DecidableEq for Tk

theorem tk_fields : (Tryz.prog.fieldsOf 34).toList.map (fun f => (f.name != "_", f.type, f.offset)) = [(true, 3, 0), (true, 9, 1), (true, 3, 2), (true, 3, 3), (true, 3, 4)] := by kernel_rfl
theorem neq_tk (w : World) (t u : Tk) : (binOp .neq 34 (tkV t) (tkV u)).run Tryz.prog w = .ok (.bool (!decide (t = u))) w := by
  unfold tkV
  rw [run_neq_struct, run_equalIn_struct w 9999 34 _ _ (by kernel_rfl) (by kernel_rfl)]
  have hf := tk_fields
  generalize (Tryz.prog.fieldsOf 34).toList = fs at hf
  obtain ⟨f0, f1, f2, f3, f4, rfl⟩ : ∃ f0 f1 f2 f3 f4, fs = [f0, f1, f2, f3, f4] := by
    have hn : fs.length = 5 := by have := congrArg List.length hf; simpa using this
    match fs, hn with
    | [a, b, c, d, e], _ => exact ⟨a, b, c, d, e, rfl⟩
  simp at hf
  obtain ⟨⟨n0, t0, o0⟩, ⟨n1, t1, o1⟩, ⟨n2, t2, o2⟩, ⟨n3, t3, o3⟩, n4, t4, o4⟩ := hf
  simp [Op.eqFields, n0, n1, n2, n3, n4, t0, t1, t2, t3, t4, o0, o1, o2, o3, o4, go_sem]
  have hs : (ByteArray.toList (tS t.text) = ByteArray.toList (tS u.text)) ↔ t.text = u.text := by rw [toL, toL, bS_tS, bS_tS]
  cases t
  cases u
  simp only [Tk.mk.injEq] at hs ⊢
  repeat' split
  all_goals simp_all

theorem guard_tk : Tryz.prog.eqGuardType Tryz.prog.depth 34 = false := by kernel_rfl
attribute [-go_sem] run_neq_struct run_eql_struct

set_option maxHeartbeats 1600000 in
theorem r02_Same (v u : Value) (l m : List Tk) (w : World) (hv : TkSl w v l) (hu : TkSl w u m) (hl : l.length ≤ 1000000) (hm : m.length ≤ 1000000) : Calls Tryz.prog 7 #[v, u] w fun r w' => r = .returned (.bool (decide (l = m))) ∧ Below w.heap.size w w' := by
  obtain ⟨a, c, rfl, _, hr⟩ := hv
  obtain ⟨a2, c2, rfl, _, hr2⟩ := hu
  have hr' := Lib.hid hr
  have hr2' := Lib.hid hr2
  clear hr hr2
  go_enter Tryz.func7, Tryz.ntmps7
  by_cases hlen : l.length = m.length
  · have hli : (l.length : Int) = (m.length : Int) := by omega
    rw [hlen]
    go_wp2_with fail
    go_loopw [5] (fun n W => ∃ k : Nat, k ≤ m.length ∧ n = .int .i64 k ∧ Hid (∀ i (hi : i < k) (h1 : i < l.length) (h2 : i < m.length), l[i] = m[i]) ∧ Hid (Below w.heap.size w W)) (fun n _ => m.length - (intOf n).toNat)
    case atStart => exact ⟨0, by omega, rfl, fun i hi => by omega, Below.refl _ _⟩
    case round =>
      obtain ⟨k, hk, rfl, hall, hB⟩ := hrel
      by_cases hlt : k < m.length
      · obtain ⟨b, off, rfl, hc⟩ := (hr'.out.keeps (Keeps.of_below hB.out)).at (by rintro rfl; simp at hlen; omega)
        obtain ⟨b2, off2, rfl, hc2⟩ := (hr2'.out.keeps (Keeps.of_below hB.out)).at (by rintro rfl; simp at hlt)
        have hltl : k < l.length := by omega
        obtain ⟨g0, g1, g2, g3, g4⟩ := hc k hltl
        obtain ⟨e0, e1, e2, e3, e4⟩ := hc2 k hlt
        have hki : (k : Int) < (m.length : Int) := by omega
        have hgd := guard_tk
        have hnq : ∀ w : World, (binOp .neq 34 (.agg #[.int .i64 l[k].kind, .string (tS l[k].text), .int .i64 l[k].num, .int .i64 l[k].line, .int .i64 l[k].col]) (.agg #[.int .i64 m[k].kind, .string (tS m[k].text), .int .i64 m[k].num, .int .i64 m[k].line, .int .i64 m[k].col])).run Tryz.prog w = .ok (.bool (!decide (l[k] = m[k]))) w := fun w => neq_tk w l[k] m[k]
        clear hc hc2
        obtain ⟨eb, heb⟩ : ∃ eb, decide (l[k] = m[k]) = eb := ⟨_, rfl⟩
        rw [heb] at hnq
        have heb' := Lib.hid heb
        clear heb
        cases eb
        · go_wp2_with fail
          go_quiet (fail)
          go_wp2_with fail
          go_ret
          exact ⟨ret_bool (decide_eq_false (fun e => by have h1 := heb'.out; subst e; simp at h1)).symm, below_drewN' hB.out _⟩
        · go_wp2_with fail
          go_quiet (fail)
          go_wp2_with fail
          go_roundw
          case rel => exact ⟨k + 1, by omega, by go_num, (fun i hi h1 h2 => by
            rcases Nat.lt_or_ge i k with h | h
            · exact hall.out i h h1 h2
            · obtain rfl : i = k := by omega
              exact of_decide_eq_true heb'.out), below_drewN' hB.out _⟩
          case measure => simp [intOf]; omega
      · go_wp2_with fail
        go_ret
        exact ⟨ret_bool (decide_eq_true (List.ext_getElem hlen fun i h1 h2 => hall.out i (by omega) h1 h2)).symm, hB.out⟩
  · have hli : ((l.length : Int) == (m.length : Int)) = false := beq_eq_false_iff_ne.2 (by omega)
    go_wp2_with fail
    go_ret
    exact ⟨ret_bool (decide_eq_false (fun e => hlen (by rw [e]))).symm, Below.refl _ _⟩
end Go.Proofs.YtchdfjihflmloaaGreatDoor
