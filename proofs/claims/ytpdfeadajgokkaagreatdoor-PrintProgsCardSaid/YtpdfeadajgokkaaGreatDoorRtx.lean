/- The reference's digits. -/
import Derived.Test.YtpdfeadajgokkaaGreatDoorTypes
import Derived.Test.YtpdfeadajgokkaaGreatDoorText
import Derived.Test.YtpdfeadajgokkaaGreatDoorProg
import Derived.Deep.RegionWith
import Derived.Laws.IdiomStrings
import Derived.Lib.ItoaNum
import Derived.Lib.ItoaLen
import Derived.PlainAid
import Derived.IntWalk
import Derived.Test.YtpdfeadajgokkaaGreatDoorTx
import Derived.Deep.RegionHeld3
namespace Go.Proofs.YtpdfeadajgokkaaGreatDoor
open Go.RowKit

set_option maxRecDepth 100000 in
theorem conv1 (V : World) (B : Nat) (b : UInt8) (h : V.cell? ⟨B, 0, none⟩ = some (.int .u8 b.toNat)) : (Go.convert 76 9 (.slice (some ⟨B, 0, none⟩) 1 1)).run Tryz.prog V = .ok (.string ⟨#[b]⟩) V :=
  Go.run_convert_bytes_back (P := Tryz.prog) V 76 9 5 ⟨B, 0, none⟩ 1 [b] Tryz.underlying76 Tryz.underlying5 Tryz.underlying9 (fun j hj => by
    obtain rfl : j = 0 := by simp at hj; exact hj
    simpa [Addr.add] using h)

set_option maxHeartbeats 800000 in
set_option maxRecDepth 100000 in
theorem r_digits : ∀ (n : Nat) (w : World), n ≤ 9223372036854775807 → Calls Tryz.prog 57 #[.int .i64 n] w fun r w' => r = .returned (.string (mkS (Lib.decDigits n))) ∧ Below w.heap.size w w' := by
  intro n
  induction n using Nat.strongRecOn with
  | ind n ih' =>
  have ih := Lib.hid ih'
  clear ih'
  intro w hn
  have hn' := Lib.hid hn
  clear hn
  by_cases h1 : n < 10
  · have hz : ((UInt8.ofNat (48 + n)).toNat : Int) = 48 + (n : Int) := by
      rcases (by omega : n = 0 ∨ n = 1 ∨ n = 2 ∨ n = 3 ∨ n = 4 ∨ n = 5 ∨ n = 6 ∨ n = 7 ∨ n = 8 ∨ n = 9) with rfl | rfl | rfl | rfl | rfl | rfl | rfl | rfl | rfl | rfl <;> rfl
    have hcv := conv1 (w.alloc (.cells #[.int .u8 (48 + (n : Int))] 5)) w.heap.size (UInt8.ofNat (48 + n)) (by rw [World.cell?_alloc_at _ _ _ _ rfl, hz]; rfl)
    clear hz
    go_enter Tryz.func57, Tryz.ntmps57
    go_wp2_with fail
    go_ret
    exact ⟨ret_str (by rw [Lib.decDigits, dif_pos h1, UInt8.ofNat_add]; rfl), (Below.refl _ _).alloc (Nat.le_refl _) _⟩
  · have hm : n % 10 < 10 := Nat.mod_lt _ (by omega)
    have hz : ((UInt8.ofNat (48 + n % 10)).toNat : Int) = 48 + (n : Int) % 10 := by
      rcases (by omega : n % 10 = 0 ∨ n % 10 = 1 ∨ n % 10 = 2 ∨ n % 10 = 3 ∨ n % 10 = 4 ∨ n % 10 = 5 ∨ n % 10 = 6 ∨ n % 10 = 7 ∨ n % 10 = 8 ∨ n % 10 = 9) with h | h | h | h | h | h | h | h | h | h <;> (rw [h, show (n : Int) % 10 = ((n % 10 : Nat) : Int) from by omega, h]; rfl)
    have hcv : ∀ (V : World) (B : Nat), V.cell? ⟨B, 0, none⟩ = some (.int .u8 (48 + (n : Int) % 10)) → (Go.convert 76 9 (.slice (some ⟨B, 0, none⟩) 1 1)).run Tryz.prog V = .ok (.string ⟨#[UInt8.ofNat (48 + n % 10)]⟩) V := fun V B h => conv1 V B _ (by rw [h, hz])
    have hcall := Lib.hid (fun W => ih.out (n / 10) (by omega) W (by have := hn'.out; omega))
    rw [show ((n / 10 : Nat) : Int) = (n : Int) / 10 from by omega] at hcall
    have hlen := Lib.hid (Lib.decDigits_length (n / 10))
    obtain ⟨D, hD⟩ : ∃ D, mkS (Lib.decDigits (n / 10)) = D := ⟨_, rfl⟩
    have hfin : Hid (mkS (Lib.decDigits n) = D ++ ⟨#[UInt8.ofNat (48 + n % 10)]⟩) := by
      unfold Hid
      rw [Lib.decDigits, dif_neg h1, ← hD]
      apply ByteArray.ext
      rw [ByteArray.data_append]
      simp [mkS]
    have hDs : D.size ≤ 30 := by
      have h2 := Lib.nDigits_le20 (n / 10) (by have := hn'.out; omega)
      rw [Lib.size_eq, ← hD]
      show (Lib.decDigits (n / 10)).length ≤ 30
      rw [hlen.out]; omega
    rw [hD] at hcall
    have w2 : (n : Int).tmod 10 = (n : Int) % 10 := Int.tmod_eq_emod_of_nonneg (by omega)
    have w1 : IntKind.i64.wrap ((n : Int) / 10) = (n : Int) / 10 := IntWalk.i64_in _ (by have := hn'.out; omega)
    have w3 : IntKind.i64.wrap (48 + (n : Int) % 10) = 48 + (n : Int) % 10 := IntWalk.i64_in _ (by omega)
    have w4 : IntKind.u8.wrap (48 + (n : Int) % 10) = 48 + (n : Int) % 10 := by simp only [IntKind.wrap, IntKind.bits, IntKind.signed]; simp; omega
    have hc1 : ∀ (V : World), (Go.convert 76 9 (.slice (some ⟨V.heap.size, 0, none⟩) 1 1)).run Tryz.prog (V.alloc (.cells #[.int .u8 (48 + (n : Int) % 10)] 5)) = .ok (.string ⟨#[UInt8.ofNat (48 + n % 10)]⟩) (V.alloc (.cells #[.int .u8 (48 + (n : Int) % 10)] 5)) := fun V => hcv _ _ (by rw [World.cell?_alloc_at _ _ _ _ rfl]; rfl)
    have hc3 := hcv (w.alloc (.cells #[.int .u8 (48 + (n : Int) % 10)] 5)).drew w.heap.size (show (w.alloc (.cells #[.int .u8 (48 + (n : Int) % 10)] 5)).cell? ⟨w.heap.size, 0, none⟩ = some (.int .u8 (48 + (n : Int) % 10)) from by rw [World.cell?_alloc_at _ _ _ _ rfl]; rfl)
    have hcv' := Lib.hid hcv
    clear hz hm hD hcv
    go_enter Tryz.func57, Tryz.ntmps57
    go_wp2_with fail
    go_region_with (go_at_call 57; (with_reducible refine (hcall.out _).mono ?_); rintro e w1 ⟨rfl, hB1⟩; try have hc2 := hcv'.out w1 w.heap.size (Keeps.of_below hB1 ⟨w.heap.size, 0, none⟩ (.int .u8 (48 + (n : Int) % 10)) (show (w.alloc (.cells #[.int .u8 (48 + (n : Int) % 10)] 5)).cell? ⟨w.heap.size, 0, none⟩ = some (.int .u8 (48 + (n : Int) % 10)) from by rw [World.cell?_alloc_at _ _ _ _ rfl]; rfl)))
    all_goals
      have hf := hfin.out
      rw [UInt8.ofNat_add] at hf
      have hf' := Lib.hid hf.symm
      clear hf
      go_wp2_with fail
      go_ret
      refine ⟨ret_str hf'.out, ?_⟩
      first
        | exact (((Below.refl w.heap.size w).drew).trans hB1).alloc (by have := hB1.size; simpa using this) _
        | exact ((((Below.refl w.heap.size w).alloc (Nat.le_refl _) _).drew).trans (hB1.mono (by simp)))
end Go.Proofs.YtpdfeadajgokkaaGreatDoor

namespace Go.Proofs.YtpdfeadajgokkaaGreatDoor
open Go.RowKit

/-- What the reference's Text is asked. -/
def RT (e : Ex) : Prop := ∀ (v : Value) (W : World), IsEx W v e → Calls Tryz.prog 25 #[v] W fun r w' => r = .returned (.string (mkS (textE e))) ∧ Below W.heap.size W w'
def RA (e : Ex) : Prop := ∀ (v : Value) (W : World), IsEx W v e → Calls Tryz.prog 58 #[v] W fun r w' => r = .returned (.string (mkS (atomE e))) ∧ Below W.heap.size W w'

theorem sz_mkS (l : List UInt8) : (mkS l).size = l.length := by rw [Lib.size_eq]; rfl
theorem bs_inj {a b : Str} (h : bs a = bs b) : a = b := by
  obtain ⟨⟨a⟩⟩ := a; obtain ⟨⟨b⟩⟩ := b
  simp [bs] at h; rw [h]
theorem bs_cat (a b : Str) : bs (a ++ b) = bs a ++ bs b := by unfold bs; rw [show (a ++ b).data = a.data ++ b.data from ByteArray.data_append]; simp

theorem r_atom (e : Ex) (h : RT e) (hl : (textE e).length ≤ 1099511627775) : RA e := by
  obtain ⟨k, s, n, l, ks⟩ := e
  intro v w hv
  have hv0 := hv
  obtain ⟨a1, c1, a2, c2, rfl, hk, _⟩ := hv.open
  have hB0 : Below (w.heap.size + 1) (w.alloc (.cells #[.int .i64 k, .string s, .int .i64 n, .slice a1 l.length c1, .slice a2 ks.length c2] 40)) (w.alloc (.cells #[.int .i64 k, .string s, .int .i64 n, .slice a1 l.length c1, .slice a2 ks.length c2] 40)) := Below.refl _ _
  have hbw := Lib.hid (below_box hB0)
  obtain ⟨S, hS⟩ : ∃ S, mkS (textE (.mk k s n l ks)) = S := ⟨_, rfl⟩
  have hcall := Lib.hid (h _ _ (hv0.keeps (keeps_box hB0)))
  have hsz : S.size ≤ 1099511627775 := by rw [← hS, sz_mkS]; exact hl
  have hat : Hid (mkS (atomE (.mk k s n l ks)) = if k ≤ 3 then S else ⟨#[40]⟩ ++ S ++ ⟨#[41]⟩) := by
    unfold Hid
    refine bs_inj ?_
    rw [bs_mkS]
    by_cases h3 : k ≤ 3
    · rw [show atomE (.mk k s n l ks) = textE (.mk k s n l ks) from by simp [atomE, atomT, Ex.kind, h3], if_pos h3, ← hS]; rfl
    · rw [show atomE (.mk k s n l ks) = paren (textE (.mk k s n l ks)) from by simp [atomE, atomT, Ex.kind, h3], if_neg h3, bs_cat, bs_cat, ← hS]; rfl
  rw [hS] at hcall
  clear hv hv0 hB0 h hl hS
  by_cases h3 : k ≤ 3
  · rw [if_pos h3] at hat
    go_enter Tryz.func58, Tryz.ntmps58
    go_wp2_with fail
    refine hcall.out.mono ?_
    rintro e w1 ⟨rfl, hB1⟩
    obtain ⟨k0, k1, k2, k3, k4⟩ := box5 (hB1.mono (by simp))
    have hb1 := hbw.out.trans (hB1.mono (by simp))
    clear hB1
    go_wp2_with fail
    go_ret
    exact ⟨ret_str hat.out.symm, hb1⟩
  · rw [if_neg h3] at hat
    go_enter Tryz.func58, Tryz.ntmps58
    go_wp2_with fail
    refine hcall.out.mono ?_
    rintro e w1 ⟨rfl, hB1⟩
    obtain ⟨k0, k1, k2, k3, k4⟩ := box5 (hB1.mono (by simp))
    have hb1 := hbw.out.trans (hB1.mono (by simp))
    clear hB1
    go_wp2_with fail
    go_ret
    exact ⟨ret_str hat.out.symm, hb1⟩

theorem nmT_take_succ (l : List Str) (k : Nat) (h : k < l.length) : nmT (l.take (k + 1)) = nmT (l.take k) ++ (32 :: bs l[k]) := by
  rw [List.take_succ_eq_append_getElem h]; simp only [nmT, List.flatMap_append, List.flatMap_cons, List.flatMap_nil, List.append_nil]
theorem nmT_take_le (l : List Str) (k : Nat) : (nmT (l.take k)).length ≤ (nmT l).length := by
  have : nmT l = nmT (l.take k) ++ nmT (l.drop k) := by
    have h := congrArg nmT (List.take_append_drop k l)
    rw [← h]; simp only [nmT, List.flatMap_append]
  rw [this]; simp

set_option maxHeartbeats 400000 in
theorem r_names (a : Option Addr) (l : List Str) (c : Nat) (w : World) (hl : l.length ≤ lenMax) (hr : StrRow w a l) (hlen : (nmT l).length ≤ 1099511627775) :
    Calls Tryz.prog 55 #[.slice a l.length c] w fun r w' => r = .returned (.string (mkS (nmT l))) ∧ Below w.heap.size w w' := by
  unfold lenMax at hl
  have hlen' := Lib.hid hlen
  clear hlen
  go_enter Tryz.func55, Tryz.ntmps55
  go_wp2_with fail
  go_loop [3, 4] (fun s i => ∃ (k : Nat) (S : Str), k ≤ l.length ∧ i = .int .i64 k ∧ s = .string S ∧ Hid (S = mkS (nmT (l.take k)))) (fun _ i => l.length - (intOf i).toNat)
  case atStart => exact ⟨0, _, by omega, rfl, rfl, rfl⟩
  case round =>
    obtain ⟨k, S, hk, rfl, rfl, hS⟩ := hrel
    by_cases hlt : k < l.length
    · rcases hr with h | ⟨b, off, rfl, g⟩
      · simp [h] at hlt
      have e1 := (g k hlt).1
      have hb : S.size + 1 + l[k].size ≤ 1099511627775 := by
        have h1 := nmT_take_le l (k + 1)
        rw [nmT_take_succ l k hlt] at h1
        have h2 := hlen'.out
        simp only [List.length_append, List.length_cons] at h1
        have h3 : (bs l[k]).length = l[k].size := by rw [Lib.size_eq]; rfl
        rw [hS.out, sz_mkS]; omega
      have hn : Hid (S ++ ⟨#[32]⟩ ++ l[k] = mkS (nmT (l.take (k + 1)))) := by
        refine bs_inj ?_
        rw [bs_cat, bs_cat, hS.out, nmT_take_succ l k hlt]
        simp [bs, mkS]
      have hb1 : S.size + 1 ≤ 1099511627775 := by omega
      clear g
      go_wp2_with fail
      go_round
      case rel => exact ⟨k + 1, _, by omega, by go_num, rfl, hn⟩
      case measure => simp [intOf]; omega
    · have e : k = l.length := by omega
      have e' := Lib.hid e
      clear e
      go_wp2_with fail
      go_ret
      exact ⟨ret_str (by rw [hS.out, e'.out, List.take_length]), Below.refl _ _⟩
end Go.Proofs.YtpdfeadajgokkaaGreatDoor

namespace Go.Proofs.YtpdfeadajgokkaaGreatDoor
open Go.RowKit

theorem atom_le2 (e : Ex) : (atomE e).length ≤ (textE e).length + 2 := by
  rcases atom_cases e with h | h <;> rw [h] <;> simp

set_option maxHeartbeats 4000000 in
set_option maxRecDepth 100000 in
theorem r_text5 (p : Ex) (hp : RT p) (lp : (textE p).length ≤ 1099511627775) (q : Ex) (hq : RT q) (lq : (textE q).length ≤ 1099511627775) : RT (.mk 5 ⟨#[]⟩ 0 [] [p, q]) := by
  intro v w hv
  obtain ⟨a1, c1, a2, c2, rfl, _, _, hs, hls, hks, hl, hr⟩ := hv.open
  unfold lenMax at hs
  obtain ⟨b, off, rfl, hkid⟩ := hr.kid (by simp)
  obtain ⟨x0, y0, z0, u0, g00, g01, g02, g03, g04, ge0⟩ := hkid 0 (by simp)
  obtain ⟨x1, y1, z1, u1, g10, g11, g12, g13, g14, ge1⟩ := hkid 1 (by simp)
  simp only [List.getElem_cons_zero, List.getElem_cons_succ, Nat.zero_mul, Nat.one_mul, Nat.add_zero, Nat.reduceMul, Nat.reduceAdd, Nat.add_assoc] at g00 g01 g02 g03 g04 ge0 g10 g11 g12 g13 g14 ge1
  simp only [List.length_cons, List.length_nil, Nat.zero_add, Nat.reduceAdd] at *
  have hS : Hid (∀ V, Below (w.heap.size + 1) (w.alloc (.cells #[.int .i64 5, .string ⟨#[]⟩, .int .i64 0, .slice a1 0 c1, .slice (some ⟨b, off, none⟩) 2 c2] 40)) V → Below (w.heap.size + 1) (w.alloc (.cells #[.int .i64 5, .string ⟨#[]⟩, .int .i64 0, .slice a1 0 c1, .slice (some ⟨b, off, none⟩) 2 c2] 40)) V ∧ V.cell? ⟨w.heap.size, 0, none⟩ = some (.int .i64 5) ∧ V.cell? ⟨w.heap.size, 1, none⟩ = some (.string ⟨#[]⟩) ∧ V.cell? ⟨w.heap.size, 2, none⟩ = some (.int .i64 0) ∧ V.cell? ⟨w.heap.size, 3, none⟩ = some (.slice a1 0 c1) ∧ V.cell? ⟨w.heap.size, 4, none⟩ = some (.slice (some ⟨b, off, none⟩) 2 c2) ∧ V.cell? ⟨b, off, none⟩ = some (.int .i64 p.kind) ∧ V.cell? ⟨b, off + 1, none⟩ = some (.string p.name) ∧ V.cell? ⟨b, off + 2, none⟩ = some (.int .i64 p.num) ∧ V.cell? ⟨b, off + 3, none⟩ = some (.slice x0 p.names.length y0) ∧ V.cell? ⟨b, off + 4, none⟩ = some (.slice z0 p.kids.length u0) ∧ V.cell? ⟨b, off + 5, none⟩ = some (.int .i64 q.kind) ∧ V.cell? ⟨b, off + 6, none⟩ = some (.string q.name) ∧ V.cell? ⟨b, off + 7, none⟩ = some (.int .i64 q.num) ∧ V.cell? ⟨b, off + 8, none⟩ = some (.slice x1 q.names.length y1) ∧ V.cell? ⟨b, off + 9, none⟩ = some (.slice z1 q.kids.length u1)) := by
    intro V hb
    have bx := box5 hb
    have hk := keeps_box hb
    exact ⟨hb, bx.1, bx.2.1, bx.2.2.1, bx.2.2.2.1, bx.2.2.2.2, hk _ _ g00, hk _ _ g01, hk _ _ g02, hk _ _ g03, hk _ _ g04, hk _ _ g10, hk _ _ g11, hk _ _ g12, hk _ _ g13, hk _ _ g14⟩
  obtain ⟨S0, hS0⟩ : ∃ S, mkS (atomE p) = S := ⟨_, rfl⟩
  have z0' : S0.size ≤ 1099511627777 := by rw [← hS0, sz_mkS]; have := atom_le2 p; omega
  have hC0 : Hid (∀ V, Below (w.heap.size + 1) (w.alloc (.cells #[.int .i64 5, .string ⟨#[]⟩, .int .i64 0, .slice a1 0 c1, .slice (some ⟨b, off, none⟩) 2 c2] 40)) V → Calls Tryz.prog 58 #[(.agg #[.int .i64 p.kind, .string p.name, .int .i64 p.num, .slice x0 p.names.length y0, .slice z0 p.kids.length u0])] V fun r w' => r = .returned (.string S0) ∧ Below (w.heap.size + 1) (w.alloc (.cells #[.int .i64 5, .string ⟨#[]⟩, .int .i64 0, .slice a1 0 c1, .slice (some ⟨b, off, none⟩) 2 c2] 40)) w') := by
    intro V hb
    rw [← hS0]
    refine ((r_atom p hp lp) _ V (ge0.keeps (keeps_box hb))).mono ?_
    rintro r w' ⟨rfl, hB⟩
    exact ⟨rfl, hb.trans (hB.mono (by have := hb.size; simpa using this))⟩
  obtain ⟨S1, hS1⟩ : ∃ S, mkS (atomE q) = S := ⟨_, rfl⟩
  have z1' : S1.size ≤ 1099511627777 := by rw [← hS1, sz_mkS]; have := atom_le2 q; omega
  have hC1 : Hid (∀ V, Below (w.heap.size + 1) (w.alloc (.cells #[.int .i64 5, .string ⟨#[]⟩, .int .i64 0, .slice a1 0 c1, .slice (some ⟨b, off, none⟩) 2 c2] 40)) V → Calls Tryz.prog 58 #[(.agg #[.int .i64 q.kind, .string q.name, .int .i64 q.num, .slice x1 q.names.length y1, .slice z1 q.kids.length u1])] V fun r w' => r = .returned (.string S1) ∧ Below (w.heap.size + 1) (w.alloc (.cells #[.int .i64 5, .string ⟨#[]⟩, .int .i64 0, .slice a1 0 c1, .slice (some ⟨b, off, none⟩) 2 c2] 40)) w') := by
    intro V hb
    rw [← hS1]
    refine ((r_atom q hq lq) _ V (ge1.keeps (keeps_box hb))).mono ?_
    rintro r w' ⟨rfl, hB⟩
    exact ⟨rfl, hb.trans (hB.mono (by have := hb.size; simpa using this))⟩
  have hfin : Hid (S0 ++ (⟨#[32]⟩ : Str) ++ S1 = mkS (textE (.mk 5 ⟨#[]⟩ 0 [] [p, q]))) := by
    refine bs_inj ?_
    rw [bs_mkS, tx_app]
    simp only [bs_cat, ← hS0, ← hS1, bs_mkS]
    simp [bs]
  have hst := Lib.hid (hS.out _ (Below.refl _ _))
  obtain ⟨_, k0, k1, k2, k3, k4, _⟩ := hS.out _ (Below.refl _ _)
  have hno1 : ¬ (9223372036854775807 < S0.size + 1) := by omega
  have hno2 : ¬ (9223372036854775807 < S0.size + 1 + S1.size) := by omega
  have hb0 := Lib.hid ((Below.refl w.heap.size w).alloc (Nat.le_refl _) (.cells #[.int .i64 5, .string ⟨#[]⟩, .int .i64 0, .slice a1 0 c1, .slice (some ⟨b, off, none⟩) 2 c2] 40))
  have hdr := Lib.hid (hS.out _ ((Below.refl _ _).drew))
  clear hv hkid hr hp lp hS0 ge0 hq lq hS1 ge1
  go_enter Tryz.func25, Tryz.ntmps25
  go_wp2_with fail
  go_region_held3 (fun V => Below (w.heap.size + 1) (w.alloc (.cells #[.int .i64 5, .string ⟨#[]⟩, .int .i64 0, .slice a1 0 c1, .slice (some ⟨b, off, none⟩) 2 c2] 40)) V ∧ V.cell? ⟨w.heap.size, 0, none⟩ = some (.int .i64 5) ∧ V.cell? ⟨w.heap.size, 1, none⟩ = some (.string ⟨#[]⟩) ∧ V.cell? ⟨w.heap.size, 2, none⟩ = some (.int .i64 0) ∧ V.cell? ⟨w.heap.size, 3, none⟩ = some (.slice a1 0 c1) ∧ V.cell? ⟨w.heap.size, 4, none⟩ = some (.slice (some ⟨b, off, none⟩) 2 c2) ∧ V.cell? ⟨b, off, none⟩ = some (.int .i64 p.kind) ∧ V.cell? ⟨b, off + 1, none⟩ = some (.string p.name) ∧ V.cell? ⟨b, off + 2, none⟩ = some (.int .i64 p.num) ∧ V.cell? ⟨b, off + 3, none⟩ = some (.slice x0 p.names.length y0) ∧ V.cell? ⟨b, off + 4, none⟩ = some (.slice z0 p.kids.length u0) ∧ V.cell? ⟨b, off + 5, none⟩ = some (.int .i64 q.kind) ∧ V.cell? ⟨b, off + 6, none⟩ = some (.string q.name) ∧ V.cell? ⟨b, off + 7, none⟩ = some (.int .i64 q.num) ∧ V.cell? ⟨b, off + 8, none⟩ = some (.slice x1 q.names.length y1) ∧ V.cell? ⟨b, off + 9, none⟩ = some (.slice z1 q.kids.length u1)) ((first | exact hdr.out | exact hS.out _ (by assumption) | exact hS.out _ (Below.drew (by assumption))))
    (first | (go_at_call 58; (with_reducible refine (hC0.out _ (by first | assumption | exact Below.drew (by assumption))).mono ?_); rintro e w1 ⟨rfl, hb1⟩) | (go_at_call 58; (with_reducible refine (hC1.out _ (by first | assumption | exact Below.drew (by assumption))).mono ?_); rintro e w1 ⟨rfl, hb1⟩))
  all_goals
    go_wp2_with fail
    go_ret
    exact ⟨ret_str hfin.out, below_box hb1⟩

set_option maxHeartbeats 4000000 in
set_option maxRecDepth 100000 in
theorem r_text4 (x : Str) (p : Ex) (hp : RT p) (lp : (textE p).length ≤ 1099511627775) : RT (.mk 4 ⟨#[]⟩ 0 [x] [p]) := by
  intro v w hv
  obtain ⟨a1, c1, a2, c2, rfl, _, _, hs, hls, hks, hl, hr⟩ := hv.open
  unfold lenMax at hs
  rcases hl with h | ⟨b2, o2, rfl, hl⟩
  · simp at h
  have n0 := hl 0 (by simp)
  simp only [List.getElem_cons_zero, Nat.add_zero] at n0
  obtain ⟨n0, hx⟩ := n0
  unfold lenMax at hx
  obtain ⟨b, off, rfl, hkid⟩ := hr.kid (by simp)
  obtain ⟨x0, y0, z0, u0, g00, g01, g02, g03, g04, ge0⟩ := hkid 0 (by simp)
  simp only [List.getElem_cons_zero, List.getElem_cons_succ, Nat.zero_mul, Nat.one_mul, Nat.add_zero, Nat.reduceMul, Nat.reduceAdd, Nat.add_assoc] at g00 g01 g02 g03 g04 ge0
  simp only [List.length_cons, List.length_nil, Nat.zero_add, Nat.reduceAdd] at *
  have hS : Hid (∀ V, Below (w.heap.size + 1) (w.alloc (.cells #[.int .i64 4, .string ⟨#[]⟩, .int .i64 0, .slice (some ⟨b2, o2, none⟩) 1 c1, .slice (some ⟨b, off, none⟩) 1 c2] 40)) V → Below (w.heap.size + 1) (w.alloc (.cells #[.int .i64 4, .string ⟨#[]⟩, .int .i64 0, .slice (some ⟨b2, o2, none⟩) 1 c1, .slice (some ⟨b, off, none⟩) 1 c2] 40)) V ∧ V.cell? ⟨w.heap.size, 0, none⟩ = some (.int .i64 4) ∧ V.cell? ⟨w.heap.size, 1, none⟩ = some (.string ⟨#[]⟩) ∧ V.cell? ⟨w.heap.size, 2, none⟩ = some (.int .i64 0) ∧ V.cell? ⟨w.heap.size, 3, none⟩ = some (.slice (some ⟨b2, o2, none⟩) 1 c1) ∧ V.cell? ⟨w.heap.size, 4, none⟩ = some (.slice (some ⟨b, off, none⟩) 1 c2) ∧ V.cell? ⟨b, off, none⟩ = some (.int .i64 p.kind) ∧ V.cell? ⟨b, off + 1, none⟩ = some (.string p.name) ∧ V.cell? ⟨b, off + 2, none⟩ = some (.int .i64 p.num) ∧ V.cell? ⟨b, off + 3, none⟩ = some (.slice x0 p.names.length y0) ∧ V.cell? ⟨b, off + 4, none⟩ = some (.slice z0 p.kids.length u0) ∧ V.cell? ⟨b2, o2, none⟩ = some (.string x)) := by
    intro V hb
    have bx := box5 hb
    have hk := keeps_box hb
    exact ⟨hb, bx.1, bx.2.1, bx.2.2.1, bx.2.2.2.1, bx.2.2.2.2, hk _ _ g00, hk _ _ g01, hk _ _ g02, hk _ _ g03, hk _ _ g04, hk _ _ n0⟩
  obtain ⟨S0, hS0⟩ : ∃ S, mkS (textE p) = S := ⟨_, rfl⟩
  have z0' : S0.size ≤ 1099511627777 := by rw [← hS0, sz_mkS]; omega
  have hC0 : Hid (∀ V, Below (w.heap.size + 1) (w.alloc (.cells #[.int .i64 4, .string ⟨#[]⟩, .int .i64 0, .slice (some ⟨b2, o2, none⟩) 1 c1, .slice (some ⟨b, off, none⟩) 1 c2] 40)) V → Calls Tryz.prog 25 #[(.agg #[.int .i64 p.kind, .string p.name, .int .i64 p.num, .slice x0 p.names.length y0, .slice z0 p.kids.length u0])] V fun r w' => r = .returned (.string S0) ∧ Below (w.heap.size + 1) (w.alloc (.cells #[.int .i64 4, .string ⟨#[]⟩, .int .i64 0, .slice (some ⟨b2, o2, none⟩) 1 c1, .slice (some ⟨b, off, none⟩) 1 c2] 40)) w') := by
    intro V hb
    rw [← hS0]
    refine (hp _ V (ge0.keeps (keeps_box hb))).mono ?_
    rintro r w' ⟨rfl, hB⟩
    exact ⟨rfl, hb.trans (hB.mono (by have := hb.size; simpa using this))⟩
  have hfin : Hid ((⟨#[92]⟩ : Str) ++ x ++ (⟨#[32, 45, 62, 32]⟩ : Str) ++ S0 = mkS (textE (.mk 4 ⟨#[]⟩ 0 [x] [p]))) := by
    refine bs_inj ?_
    rw [bs_mkS, tx_lam]
    simp only [bs_cat, ← hS0, bs_mkS]
    simp [bs]
  have hst := Lib.hid (hS.out _ (Below.refl _ _))
  obtain ⟨_, k0, k1, k2, k3, k4, _⟩ := hS.out _ (Below.refl _ _)
  have hxx : x.size ≤ 140737488355328 := hx
  have hno1 : ¬ (9223372036854775807 < 1 + x.size) := by omega
  have hno2 : ¬ (9223372036854775807 < 1 + x.size + 4) := by omega
  have hno3 : ¬ (9223372036854775807 < 1 + x.size + 4 + S0.size) := by omega
  have hb0 := Lib.hid ((Below.refl w.heap.size w).alloc (Nat.le_refl _) (.cells #[.int .i64 4, .string ⟨#[]⟩, .int .i64 0, .slice (some ⟨b2, o2, none⟩) 1 c1, .slice (some ⟨b, off, none⟩) 1 c2] 40))
  have hdr := Lib.hid (hS.out _ ((Below.refl _ _).drew))
  clear hv hkid hr hp lp hS0 ge0
  go_enter Tryz.func25, Tryz.ntmps25
  go_wp2_with fail
  go_region_held3 (fun V => Below (w.heap.size + 1) (w.alloc (.cells #[.int .i64 4, .string ⟨#[]⟩, .int .i64 0, .slice (some ⟨b2, o2, none⟩) 1 c1, .slice (some ⟨b, off, none⟩) 1 c2] 40)) V ∧ V.cell? ⟨w.heap.size, 0, none⟩ = some (.int .i64 4) ∧ V.cell? ⟨w.heap.size, 1, none⟩ = some (.string ⟨#[]⟩) ∧ V.cell? ⟨w.heap.size, 2, none⟩ = some (.int .i64 0) ∧ V.cell? ⟨w.heap.size, 3, none⟩ = some (.slice (some ⟨b2, o2, none⟩) 1 c1) ∧ V.cell? ⟨w.heap.size, 4, none⟩ = some (.slice (some ⟨b, off, none⟩) 1 c2) ∧ V.cell? ⟨b, off, none⟩ = some (.int .i64 p.kind) ∧ V.cell? ⟨b, off + 1, none⟩ = some (.string p.name) ∧ V.cell? ⟨b, off + 2, none⟩ = some (.int .i64 p.num) ∧ V.cell? ⟨b, off + 3, none⟩ = some (.slice x0 p.names.length y0) ∧ V.cell? ⟨b, off + 4, none⟩ = some (.slice z0 p.kids.length u0) ∧ V.cell? ⟨b2, o2, none⟩ = some (.string x)) ((first | exact hdr.out | exact hS.out _ (by assumption) | exact hS.out _ (Below.drew (by assumption))))
    (first | (go_at_call 25; (with_reducible refine (hC0.out _ (by first | assumption | exact Below.drew (by assumption))).mono ?_); rintro e w1 ⟨rfl, hb1⟩))
  all_goals
    go_wp2_with fail
    go_ret
    exact ⟨ret_str hfin.out, below_box hb1⟩

set_option maxHeartbeats 4000000 in
set_option maxRecDepth 100000 in
theorem r_text6 (x : Str) (p : Ex) (hp : RT p) (lp : (textE p).length ≤ 1099511627775) (q : Ex) (hq : RT q) (lq : (textE q).length ≤ 1099511627775) : RT (.mk 6 ⟨#[]⟩ 0 [x] [p, q]) := by
  intro v w hv
  obtain ⟨a1, c1, a2, c2, rfl, _, _, hs, hls, hks, hl, hr⟩ := hv.open
  unfold lenMax at hs
  rcases hl with h | ⟨b2, o2, rfl, hl⟩
  · simp at h
  have n0 := hl 0 (by simp)
  simp only [List.getElem_cons_zero, Nat.add_zero] at n0
  obtain ⟨n0, hx⟩ := n0
  unfold lenMax at hx
  obtain ⟨b, off, rfl, hkid⟩ := hr.kid (by simp)
  obtain ⟨x0, y0, z0, u0, g00, g01, g02, g03, g04, ge0⟩ := hkid 0 (by simp)
  obtain ⟨x1, y1, z1, u1, g10, g11, g12, g13, g14, ge1⟩ := hkid 1 (by simp)
  simp only [List.getElem_cons_zero, List.getElem_cons_succ, Nat.zero_mul, Nat.one_mul, Nat.add_zero, Nat.reduceMul, Nat.reduceAdd, Nat.add_assoc] at g00 g01 g02 g03 g04 ge0 g10 g11 g12 g13 g14 ge1
  simp only [List.length_cons, List.length_nil, Nat.zero_add, Nat.reduceAdd] at *
  have hS : Hid (∀ V, Below (w.heap.size + 1) (w.alloc (.cells #[.int .i64 6, .string ⟨#[]⟩, .int .i64 0, .slice (some ⟨b2, o2, none⟩) 1 c1, .slice (some ⟨b, off, none⟩) 2 c2] 40)) V → Below (w.heap.size + 1) (w.alloc (.cells #[.int .i64 6, .string ⟨#[]⟩, .int .i64 0, .slice (some ⟨b2, o2, none⟩) 1 c1, .slice (some ⟨b, off, none⟩) 2 c2] 40)) V ∧ V.cell? ⟨w.heap.size, 0, none⟩ = some (.int .i64 6) ∧ V.cell? ⟨w.heap.size, 1, none⟩ = some (.string ⟨#[]⟩) ∧ V.cell? ⟨w.heap.size, 2, none⟩ = some (.int .i64 0) ∧ V.cell? ⟨w.heap.size, 3, none⟩ = some (.slice (some ⟨b2, o2, none⟩) 1 c1) ∧ V.cell? ⟨w.heap.size, 4, none⟩ = some (.slice (some ⟨b, off, none⟩) 2 c2) ∧ V.cell? ⟨b, off, none⟩ = some (.int .i64 p.kind) ∧ V.cell? ⟨b, off + 1, none⟩ = some (.string p.name) ∧ V.cell? ⟨b, off + 2, none⟩ = some (.int .i64 p.num) ∧ V.cell? ⟨b, off + 3, none⟩ = some (.slice x0 p.names.length y0) ∧ V.cell? ⟨b, off + 4, none⟩ = some (.slice z0 p.kids.length u0) ∧ V.cell? ⟨b, off + 5, none⟩ = some (.int .i64 q.kind) ∧ V.cell? ⟨b, off + 6, none⟩ = some (.string q.name) ∧ V.cell? ⟨b, off + 7, none⟩ = some (.int .i64 q.num) ∧ V.cell? ⟨b, off + 8, none⟩ = some (.slice x1 q.names.length y1) ∧ V.cell? ⟨b, off + 9, none⟩ = some (.slice z1 q.kids.length u1) ∧ V.cell? ⟨b2, o2, none⟩ = some (.string x)) := by
    intro V hb
    have bx := box5 hb
    have hk := keeps_box hb
    exact ⟨hb, bx.1, bx.2.1, bx.2.2.1, bx.2.2.2.1, bx.2.2.2.2, hk _ _ g00, hk _ _ g01, hk _ _ g02, hk _ _ g03, hk _ _ g04, hk _ _ g10, hk _ _ g11, hk _ _ g12, hk _ _ g13, hk _ _ g14, hk _ _ n0⟩
  obtain ⟨S0, hS0⟩ : ∃ S, mkS (textE p) = S := ⟨_, rfl⟩
  have z0' : S0.size ≤ 1099511627777 := by rw [← hS0, sz_mkS]; omega
  have hC0 : Hid (∀ V, Below (w.heap.size + 1) (w.alloc (.cells #[.int .i64 6, .string ⟨#[]⟩, .int .i64 0, .slice (some ⟨b2, o2, none⟩) 1 c1, .slice (some ⟨b, off, none⟩) 2 c2] 40)) V → Calls Tryz.prog 25 #[(.agg #[.int .i64 p.kind, .string p.name, .int .i64 p.num, .slice x0 p.names.length y0, .slice z0 p.kids.length u0])] V fun r w' => r = .returned (.string S0) ∧ Below (w.heap.size + 1) (w.alloc (.cells #[.int .i64 6, .string ⟨#[]⟩, .int .i64 0, .slice (some ⟨b2, o2, none⟩) 1 c1, .slice (some ⟨b, off, none⟩) 2 c2] 40)) w') := by
    intro V hb
    rw [← hS0]
    refine (hp _ V (ge0.keeps (keeps_box hb))).mono ?_
    rintro r w' ⟨rfl, hB⟩
    exact ⟨rfl, hb.trans (hB.mono (by have := hb.size; simpa using this))⟩
  obtain ⟨S1, hS1⟩ : ∃ S, mkS (textE q) = S := ⟨_, rfl⟩
  have z1' : S1.size ≤ 1099511627777 := by rw [← hS1, sz_mkS]; omega
  have hC1 : Hid (∀ V, Below (w.heap.size + 1) (w.alloc (.cells #[.int .i64 6, .string ⟨#[]⟩, .int .i64 0, .slice (some ⟨b2, o2, none⟩) 1 c1, .slice (some ⟨b, off, none⟩) 2 c2] 40)) V → Calls Tryz.prog 25 #[(.agg #[.int .i64 q.kind, .string q.name, .int .i64 q.num, .slice x1 q.names.length y1, .slice z1 q.kids.length u1])] V fun r w' => r = .returned (.string S1) ∧ Below (w.heap.size + 1) (w.alloc (.cells #[.int .i64 6, .string ⟨#[]⟩, .int .i64 0, .slice (some ⟨b2, o2, none⟩) 1 c1, .slice (some ⟨b, off, none⟩) 2 c2] 40)) w') := by
    intro V hb
    rw [← hS1]
    refine (hq _ V (ge1.keeps (keeps_box hb))).mono ?_
    rintro r w' ⟨rfl, hB⟩
    exact ⟨rfl, hb.trans (hB.mono (by have := hb.size; simpa using this))⟩
  have hfin : Hid ((⟨#[108, 101, 116, 32]⟩ : Str) ++ x ++ (⟨#[32, 61, 32]⟩ : Str) ++ S0 ++ (⟨#[32, 105, 110, 32]⟩ : Str) ++ S1 = mkS (textE (.mk 6 ⟨#[]⟩ 0 [x] [p, q]))) := by
    refine bs_inj ?_
    rw [bs_mkS, tx_let]
    simp only [bs_cat, ← hS0, ← hS1, bs_mkS]
    simp [bs]
  have hst := Lib.hid (hS.out _ (Below.refl _ _))
  obtain ⟨_, k0, k1, k2, k3, k4, _⟩ := hS.out _ (Below.refl _ _)
  have hxx : x.size ≤ 140737488355328 := hx
  have hno1 : ¬ (9223372036854775807 < 4 + x.size) := by omega
  have hno2 : ¬ (9223372036854775807 < 4 + x.size + 3) := by omega
  have hno3 : ¬ (9223372036854775807 < 4 + x.size + 3 + S0.size) := by omega
  have hno4 : ¬ (9223372036854775807 < 4 + x.size + 3 + S0.size + 4) := by omega
  have hno5 : ¬ (9223372036854775807 < 4 + x.size + 3 + S0.size + 4 + S1.size) := by omega
  have hb0 := Lib.hid ((Below.refl w.heap.size w).alloc (Nat.le_refl _) (.cells #[.int .i64 6, .string ⟨#[]⟩, .int .i64 0, .slice (some ⟨b2, o2, none⟩) 1 c1, .slice (some ⟨b, off, none⟩) 2 c2] 40))
  have hdr := Lib.hid (hS.out _ ((Below.refl _ _).drew))
  clear hv hkid hr hp lp hS0 ge0 hq lq hS1 ge1
  go_enter Tryz.func25, Tryz.ntmps25
  go_wp2_with fail
  go_region_held3 (fun V => Below (w.heap.size + 1) (w.alloc (.cells #[.int .i64 6, .string ⟨#[]⟩, .int .i64 0, .slice (some ⟨b2, o2, none⟩) 1 c1, .slice (some ⟨b, off, none⟩) 2 c2] 40)) V ∧ V.cell? ⟨w.heap.size, 0, none⟩ = some (.int .i64 6) ∧ V.cell? ⟨w.heap.size, 1, none⟩ = some (.string ⟨#[]⟩) ∧ V.cell? ⟨w.heap.size, 2, none⟩ = some (.int .i64 0) ∧ V.cell? ⟨w.heap.size, 3, none⟩ = some (.slice (some ⟨b2, o2, none⟩) 1 c1) ∧ V.cell? ⟨w.heap.size, 4, none⟩ = some (.slice (some ⟨b, off, none⟩) 2 c2) ∧ V.cell? ⟨b, off, none⟩ = some (.int .i64 p.kind) ∧ V.cell? ⟨b, off + 1, none⟩ = some (.string p.name) ∧ V.cell? ⟨b, off + 2, none⟩ = some (.int .i64 p.num) ∧ V.cell? ⟨b, off + 3, none⟩ = some (.slice x0 p.names.length y0) ∧ V.cell? ⟨b, off + 4, none⟩ = some (.slice z0 p.kids.length u0) ∧ V.cell? ⟨b, off + 5, none⟩ = some (.int .i64 q.kind) ∧ V.cell? ⟨b, off + 6, none⟩ = some (.string q.name) ∧ V.cell? ⟨b, off + 7, none⟩ = some (.int .i64 q.num) ∧ V.cell? ⟨b, off + 8, none⟩ = some (.slice x1 q.names.length y1) ∧ V.cell? ⟨b, off + 9, none⟩ = some (.slice z1 q.kids.length u1) ∧ V.cell? ⟨b2, o2, none⟩ = some (.string x)) ((first | exact hdr.out | exact hS.out _ (by assumption) | exact hS.out _ (Below.drew (by assumption))))
    (first | (go_at_call 25; (with_reducible refine (hC0.out _ (by first | assumption | exact Below.drew (by assumption))).mono ?_); rintro e w1 ⟨rfl, hb1⟩) | (go_at_call 25; (with_reducible refine (hC1.out _ (by first | assumption | exact Below.drew (by assumption))).mono ?_); rintro e w1 ⟨rfl, hb1⟩))
  all_goals
    go_wp2_with fail
    go_ret
    exact ⟨ret_str hfin.out, below_box hb1⟩

set_option maxHeartbeats 4000000 in
set_option maxRecDepth 100000 in
theorem r_text8 (l : List Str) (hnl : (nmT l).length ≤ 1099511627775) (s : Str) (p : Ex) (hp : RT p) (lp : (textE p).length ≤ 1099511627775) : RT (.mk 8 s 0 l [p]) := by
  intro v w hv
  obtain ⟨a1, c1, a2, c2, rfl, _, _, hs, hls, hks, hl, hr⟩ := hv.open
  unfold lenMax at hs
  obtain ⟨b, off, rfl, hkid⟩ := hr.kid (by simp)
  obtain ⟨x0, y0, z0, u0, g00, g01, g02, g03, g04, ge0⟩ := hkid 0 (by simp)
  simp only [List.getElem_cons_zero, List.getElem_cons_succ, Nat.zero_mul, Nat.one_mul, Nat.add_zero, Nat.reduceMul, Nat.reduceAdd, Nat.add_assoc] at g00 g01 g02 g03 g04 ge0
  have hlr := Lib.hid hl
  have hlsm := hls
  simp only [List.length_cons, List.length_nil, Nat.zero_add, Nat.reduceAdd] at *
  have hS : Hid (∀ V, Below (w.heap.size + 1) (w.alloc (.cells #[.int .i64 8, .string s, .int .i64 0, .slice a1 l.length c1, .slice (some ⟨b, off, none⟩) 1 c2] 40)) V → Below (w.heap.size + 1) (w.alloc (.cells #[.int .i64 8, .string s, .int .i64 0, .slice a1 l.length c1, .slice (some ⟨b, off, none⟩) 1 c2] 40)) V ∧ V.cell? ⟨w.heap.size, 0, none⟩ = some (.int .i64 8) ∧ V.cell? ⟨w.heap.size, 1, none⟩ = some (.string s) ∧ V.cell? ⟨w.heap.size, 2, none⟩ = some (.int .i64 0) ∧ V.cell? ⟨w.heap.size, 3, none⟩ = some (.slice a1 l.length c1) ∧ V.cell? ⟨w.heap.size, 4, none⟩ = some (.slice (some ⟨b, off, none⟩) 1 c2) ∧ V.cell? ⟨b, off, none⟩ = some (.int .i64 p.kind) ∧ V.cell? ⟨b, off + 1, none⟩ = some (.string p.name) ∧ V.cell? ⟨b, off + 2, none⟩ = some (.int .i64 p.num) ∧ V.cell? ⟨b, off + 3, none⟩ = some (.slice x0 p.names.length y0) ∧ V.cell? ⟨b, off + 4, none⟩ = some (.slice z0 p.kids.length u0)) := by
    intro V hb
    have bx := box5 hb
    have hk := keeps_box hb
    exact ⟨hb, bx.1, bx.2.1, bx.2.2.1, bx.2.2.2.1, bx.2.2.2.2, hk _ _ g00, hk _ _ g01, hk _ _ g02, hk _ _ g03, hk _ _ g04⟩
  obtain ⟨S0, hS0⟩ : ∃ S, mkS (textE p) = S := ⟨_, rfl⟩
  have z0' : S0.size ≤ 1099511627777 := by rw [← hS0, sz_mkS]; omega
  have hC0 : Hid (∀ V, Below (w.heap.size + 1) (w.alloc (.cells #[.int .i64 8, .string s, .int .i64 0, .slice a1 l.length c1, .slice (some ⟨b, off, none⟩) 1 c2] 40)) V → Calls Tryz.prog 25 #[(.agg #[.int .i64 p.kind, .string p.name, .int .i64 p.num, .slice x0 p.names.length y0, .slice z0 p.kids.length u0])] V fun r w' => r = .returned (.string S0) ∧ Below (w.heap.size + 1) (w.alloc (.cells #[.int .i64 8, .string s, .int .i64 0, .slice a1 l.length c1, .slice (some ⟨b, off, none⟩) 1 c2] 40)) w') := by
    intro V hb
    rw [← hS0]
    refine (hp _ V (ge0.keeps (keeps_box hb))).mono ?_
    rintro r w' ⟨rfl, hB⟩
    exact ⟨rfl, hb.trans (hB.mono (by have := hb.size; simpa using this))⟩
  obtain ⟨SN, hSN⟩ : ∃ S, mkS (nmT l) = S := ⟨_, rfl⟩
  have zn' : SN.size ≤ 1099511627775 := by rw [← hSN, sz_mkS]; exact hnl
  have hCN : Hid (∀ V, Below (w.heap.size + 1) (w.alloc (.cells #[.int .i64 8, .string s, .int .i64 0, .slice a1 l.length c1, .slice (some ⟨b, off, none⟩) 1 c2] 40)) V → Calls Tryz.prog 55 #[.slice a1 l.length c1] V fun r w' => r = .returned (.string SN) ∧ Below (w.heap.size + 1) (w.alloc (.cells #[.int .i64 8, .string s, .int .i64 0, .slice a1 l.length c1, .slice (some ⟨b, off, none⟩) 1 c2] 40)) w') := by
    intro V hb
    rw [← hSN]
    refine (r_names a1 l c1 V hlsm (hlr.out.keeps (keeps_box hb)) hnl).mono ?_
    rintro r w' ⟨rfl, hB⟩
    exact ⟨rfl, hb.trans (hB.mono (by have := hb.size; simpa using this))⟩
  have hfin : Hid (s ++ SN ++ (⟨#[32, 45, 62, 32]⟩ : Str) ++ S0 = mkS (textE (.mk 8 s 0 l [p]))) := by
    refine bs_inj ?_
    rw [bs_mkS, tx_alt]
    simp only [bs_cat, ← hSN, ← hS0, bs_mkS]
    simp [bs]
  have hst := Lib.hid (hS.out _ (Below.refl _ _))
  obtain ⟨_, k0, k1, k2, k3, k4, _⟩ := hS.out _ (Below.refl _ _)
  have hno1 : ¬ (9223372036854775807 < s.size + SN.size) := by omega
  have hno2 : ¬ (9223372036854775807 < s.size + SN.size + 4) := by omega
  have hno3 : ¬ (9223372036854775807 < s.size + SN.size + 4 + S0.size) := by omega
  have hb0 := Lib.hid ((Below.refl w.heap.size w).alloc (Nat.le_refl _) (.cells #[.int .i64 8, .string s, .int .i64 0, .slice a1 l.length c1, .slice (some ⟨b, off, none⟩) 1 c2] 40))
  have hdr := Lib.hid (hS.out _ ((Below.refl _ _).drew))
  clear hv hkid hr hp lp hS0 ge0 hnl hSN hlr hl
  go_enter Tryz.func25, Tryz.ntmps25
  go_wp2_with fail
  go_region_held3 (fun V => Below (w.heap.size + 1) (w.alloc (.cells #[.int .i64 8, .string s, .int .i64 0, .slice a1 l.length c1, .slice (some ⟨b, off, none⟩) 1 c2] 40)) V ∧ V.cell? ⟨w.heap.size, 0, none⟩ = some (.int .i64 8) ∧ V.cell? ⟨w.heap.size, 1, none⟩ = some (.string s) ∧ V.cell? ⟨w.heap.size, 2, none⟩ = some (.int .i64 0) ∧ V.cell? ⟨w.heap.size, 3, none⟩ = some (.slice a1 l.length c1) ∧ V.cell? ⟨w.heap.size, 4, none⟩ = some (.slice (some ⟨b, off, none⟩) 1 c2) ∧ V.cell? ⟨b, off, none⟩ = some (.int .i64 p.kind) ∧ V.cell? ⟨b, off + 1, none⟩ = some (.string p.name) ∧ V.cell? ⟨b, off + 2, none⟩ = some (.int .i64 p.num) ∧ V.cell? ⟨b, off + 3, none⟩ = some (.slice x0 p.names.length y0) ∧ V.cell? ⟨b, off + 4, none⟩ = some (.slice z0 p.kids.length u0)) ((first | exact hdr.out | exact hS.out _ (by assumption) | exact hS.out _ (Below.drew (by assumption))))
    (first | (go_at_call 55; (with_reducible refine (hCN.out _ (by first | assumption | exact Below.drew (by assumption))).mono ?_); rintro e w1 ⟨rfl, hb1⟩) | (go_at_call 25; (with_reducible refine (hC0.out _ (by first | assumption | exact Below.drew (by assumption))).mono ?_); rintro e w1 ⟨rfl, hb1⟩))
  all_goals
    go_wp2_with fail
    go_ret
    exact ⟨ret_str hfin.out, below_box hb1⟩

set_option maxHeartbeats 4000000 in
set_option maxRecDepth 100000 in
theorem r_text9 (s : Str) (p : Ex) (hp : RT p) (lp : (textE p).length ≤ 1099511627775) (q : Ex) (hq : RT q) (lq : (textE q).length ≤ 1099511627775) : RT (.mk 9 s 0 [] [p, q]) := by
  intro v w hv
  obtain ⟨a1, c1, a2, c2, rfl, _, _, hs, hls, hks, hl, hr⟩ := hv.open
  unfold lenMax at hs
  obtain ⟨b, off, rfl, hkid⟩ := hr.kid (by simp)
  obtain ⟨x0, y0, z0, u0, g00, g01, g02, g03, g04, ge0⟩ := hkid 0 (by simp)
  obtain ⟨x1, y1, z1, u1, g10, g11, g12, g13, g14, ge1⟩ := hkid 1 (by simp)
  simp only [List.getElem_cons_zero, List.getElem_cons_succ, Nat.zero_mul, Nat.one_mul, Nat.add_zero, Nat.reduceMul, Nat.reduceAdd, Nat.add_assoc] at g00 g01 g02 g03 g04 ge0 g10 g11 g12 g13 g14 ge1
  simp only [List.length_cons, List.length_nil, Nat.zero_add, Nat.reduceAdd] at *
  have hS : Hid (∀ V, Below (w.heap.size + 1) (w.alloc (.cells #[.int .i64 9, .string s, .int .i64 0, .slice a1 0 c1, .slice (some ⟨b, off, none⟩) 2 c2] 40)) V → Below (w.heap.size + 1) (w.alloc (.cells #[.int .i64 9, .string s, .int .i64 0, .slice a1 0 c1, .slice (some ⟨b, off, none⟩) 2 c2] 40)) V ∧ V.cell? ⟨w.heap.size, 0, none⟩ = some (.int .i64 9) ∧ V.cell? ⟨w.heap.size, 1, none⟩ = some (.string s) ∧ V.cell? ⟨w.heap.size, 2, none⟩ = some (.int .i64 0) ∧ V.cell? ⟨w.heap.size, 3, none⟩ = some (.slice a1 0 c1) ∧ V.cell? ⟨w.heap.size, 4, none⟩ = some (.slice (some ⟨b, off, none⟩) 2 c2) ∧ V.cell? ⟨b, off, none⟩ = some (.int .i64 p.kind) ∧ V.cell? ⟨b, off + 1, none⟩ = some (.string p.name) ∧ V.cell? ⟨b, off + 2, none⟩ = some (.int .i64 p.num) ∧ V.cell? ⟨b, off + 3, none⟩ = some (.slice x0 p.names.length y0) ∧ V.cell? ⟨b, off + 4, none⟩ = some (.slice z0 p.kids.length u0) ∧ V.cell? ⟨b, off + 5, none⟩ = some (.int .i64 q.kind) ∧ V.cell? ⟨b, off + 6, none⟩ = some (.string q.name) ∧ V.cell? ⟨b, off + 7, none⟩ = some (.int .i64 q.num) ∧ V.cell? ⟨b, off + 8, none⟩ = some (.slice x1 q.names.length y1) ∧ V.cell? ⟨b, off + 9, none⟩ = some (.slice z1 q.kids.length u1)) := by
    intro V hb
    have bx := box5 hb
    have hk := keeps_box hb
    exact ⟨hb, bx.1, bx.2.1, bx.2.2.1, bx.2.2.2.1, bx.2.2.2.2, hk _ _ g00, hk _ _ g01, hk _ _ g02, hk _ _ g03, hk _ _ g04, hk _ _ g10, hk _ _ g11, hk _ _ g12, hk _ _ g13, hk _ _ g14⟩
  obtain ⟨S0, hS0⟩ : ∃ S, mkS (atomE p) = S := ⟨_, rfl⟩
  have z0' : S0.size ≤ 1099511627777 := by rw [← hS0, sz_mkS]; have := atom_le2 p; omega
  have hC0 : Hid (∀ V, Below (w.heap.size + 1) (w.alloc (.cells #[.int .i64 9, .string s, .int .i64 0, .slice a1 0 c1, .slice (some ⟨b, off, none⟩) 2 c2] 40)) V → Calls Tryz.prog 58 #[(.agg #[.int .i64 p.kind, .string p.name, .int .i64 p.num, .slice x0 p.names.length y0, .slice z0 p.kids.length u0])] V fun r w' => r = .returned (.string S0) ∧ Below (w.heap.size + 1) (w.alloc (.cells #[.int .i64 9, .string s, .int .i64 0, .slice a1 0 c1, .slice (some ⟨b, off, none⟩) 2 c2] 40)) w') := by
    intro V hb
    rw [← hS0]
    refine ((r_atom p hp lp) _ V (ge0.keeps (keeps_box hb))).mono ?_
    rintro r w' ⟨rfl, hB⟩
    exact ⟨rfl, hb.trans (hB.mono (by have := hb.size; simpa using this))⟩
  obtain ⟨S1, hS1⟩ : ∃ S, mkS (atomE q) = S := ⟨_, rfl⟩
  have z1' : S1.size ≤ 1099511627777 := by rw [← hS1, sz_mkS]; have := atom_le2 q; omega
  have hC1 : Hid (∀ V, Below (w.heap.size + 1) (w.alloc (.cells #[.int .i64 9, .string s, .int .i64 0, .slice a1 0 c1, .slice (some ⟨b, off, none⟩) 2 c2] 40)) V → Calls Tryz.prog 58 #[(.agg #[.int .i64 q.kind, .string q.name, .int .i64 q.num, .slice x1 q.names.length y1, .slice z1 q.kids.length u1])] V fun r w' => r = .returned (.string S1) ∧ Below (w.heap.size + 1) (w.alloc (.cells #[.int .i64 9, .string s, .int .i64 0, .slice a1 0 c1, .slice (some ⟨b, off, none⟩) 2 c2] 40)) w') := by
    intro V hb
    rw [← hS1]
    refine ((r_atom q hq lq) _ V (ge1.keeps (keeps_box hb))).mono ?_
    rintro r w' ⟨rfl, hB⟩
    exact ⟨rfl, hb.trans (hB.mono (by have := hb.size; simpa using this))⟩
  have hfin : Hid (S0 ++ (⟨#[32]⟩ : Str) ++ s ++ (⟨#[32]⟩ : Str) ++ S1 = mkS (textE (.mk 9 s 0 [] [p, q]))) := by
    refine bs_inj ?_
    rw [bs_mkS, tx_op]
    simp only [bs_cat, ← hS0, ← hS1, bs_mkS]
    simp [bs]
  have hst := Lib.hid (hS.out _ (Below.refl _ _))
  obtain ⟨_, k0, k1, k2, k3, k4, _⟩ := hS.out _ (Below.refl _ _)
  have hno1 : ¬ (9223372036854775807 < S0.size + 1) := by omega
  have hno2 : ¬ (9223372036854775807 < S0.size + 1 + s.size) := by omega
  have hno3 : ¬ (9223372036854775807 < S0.size + 1 + s.size + 1) := by omega
  have hno4 : ¬ (9223372036854775807 < S0.size + 1 + s.size + 1 + S1.size) := by omega
  have hb0 := Lib.hid ((Below.refl w.heap.size w).alloc (Nat.le_refl _) (.cells #[.int .i64 9, .string s, .int .i64 0, .slice a1 0 c1, .slice (some ⟨b, off, none⟩) 2 c2] 40))
  have hdr := Lib.hid (hS.out _ ((Below.refl _ _).drew))
  clear hv hkid hr hp lp hS0 ge0 hq lq hS1 ge1
  go_enter Tryz.func25, Tryz.ntmps25
  go_wp2_with fail
  go_region_held3 (fun V => Below (w.heap.size + 1) (w.alloc (.cells #[.int .i64 9, .string s, .int .i64 0, .slice a1 0 c1, .slice (some ⟨b, off, none⟩) 2 c2] 40)) V ∧ V.cell? ⟨w.heap.size, 0, none⟩ = some (.int .i64 9) ∧ V.cell? ⟨w.heap.size, 1, none⟩ = some (.string s) ∧ V.cell? ⟨w.heap.size, 2, none⟩ = some (.int .i64 0) ∧ V.cell? ⟨w.heap.size, 3, none⟩ = some (.slice a1 0 c1) ∧ V.cell? ⟨w.heap.size, 4, none⟩ = some (.slice (some ⟨b, off, none⟩) 2 c2) ∧ V.cell? ⟨b, off, none⟩ = some (.int .i64 p.kind) ∧ V.cell? ⟨b, off + 1, none⟩ = some (.string p.name) ∧ V.cell? ⟨b, off + 2, none⟩ = some (.int .i64 p.num) ∧ V.cell? ⟨b, off + 3, none⟩ = some (.slice x0 p.names.length y0) ∧ V.cell? ⟨b, off + 4, none⟩ = some (.slice z0 p.kids.length u0) ∧ V.cell? ⟨b, off + 5, none⟩ = some (.int .i64 q.kind) ∧ V.cell? ⟨b, off + 6, none⟩ = some (.string q.name) ∧ V.cell? ⟨b, off + 7, none⟩ = some (.int .i64 q.num) ∧ V.cell? ⟨b, off + 8, none⟩ = some (.slice x1 q.names.length y1) ∧ V.cell? ⟨b, off + 9, none⟩ = some (.slice z1 q.kids.length u1)) ((first | exact hdr.out | exact hS.out _ (by assumption) | exact hS.out _ (Below.drew (by assumption))))
    (first | (go_at_call 58; (with_reducible refine (hC0.out _ (by first | assumption | exact Below.drew (by assumption))).mono ?_); rintro e w1 ⟨rfl, hb1⟩) | (go_at_call 58; (with_reducible refine (hC1.out _ (by first | assumption | exact Below.drew (by assumption))).mono ?_); rintro e w1 ⟨rfl, hb1⟩))
  all_goals
    go_wp2_with fail
    go_ret
    exact ⟨ret_str hfin.out, below_box hb1⟩

set_option maxHeartbeats 4000000 in
set_option maxRecDepth 100000 in
theorem r_text10 (p : Ex) (hp : RT p) (lp : (textE p).length ≤ 1099511627775) (q : Ex) (hq : RT q) (lq : (textE q).length ≤ 1099511627775) (t : Ex) (ht : RT t) (lt : (textE t).length ≤ 1099511627775) : RT (.mk 10 ⟨#[]⟩ 0 [] [p, q, t]) := by
  intro v w hv
  obtain ⟨a1, c1, a2, c2, rfl, _, _, hs, hls, hks, hl, hr⟩ := hv.open
  unfold lenMax at hs
  obtain ⟨b, off, rfl, hkid⟩ := hr.kid (by simp)
  obtain ⟨x0, y0, z0, u0, g00, g01, g02, g03, g04, ge0⟩ := hkid 0 (by simp)
  obtain ⟨x1, y1, z1, u1, g10, g11, g12, g13, g14, ge1⟩ := hkid 1 (by simp)
  obtain ⟨x2, y2, z2, u2, g20, g21, g22, g23, g24, ge2⟩ := hkid 2 (by simp)
  simp only [List.getElem_cons_zero, List.getElem_cons_succ, Nat.zero_mul, Nat.one_mul, Nat.add_zero, Nat.reduceMul, Nat.reduceAdd, Nat.add_assoc] at g00 g01 g02 g03 g04 ge0 g10 g11 g12 g13 g14 ge1 g20 g21 g22 g23 g24 ge2
  simp only [List.length_cons, List.length_nil, Nat.zero_add, Nat.reduceAdd] at *
  have hS : Hid (∀ V, Below (w.heap.size + 1) (w.alloc (.cells #[.int .i64 10, .string ⟨#[]⟩, .int .i64 0, .slice a1 0 c1, .slice (some ⟨b, off, none⟩) 3 c2] 40)) V → Below (w.heap.size + 1) (w.alloc (.cells #[.int .i64 10, .string ⟨#[]⟩, .int .i64 0, .slice a1 0 c1, .slice (some ⟨b, off, none⟩) 3 c2] 40)) V ∧ V.cell? ⟨w.heap.size, 0, none⟩ = some (.int .i64 10) ∧ V.cell? ⟨w.heap.size, 1, none⟩ = some (.string ⟨#[]⟩) ∧ V.cell? ⟨w.heap.size, 2, none⟩ = some (.int .i64 0) ∧ V.cell? ⟨w.heap.size, 3, none⟩ = some (.slice a1 0 c1) ∧ V.cell? ⟨w.heap.size, 4, none⟩ = some (.slice (some ⟨b, off, none⟩) 3 c2) ∧ V.cell? ⟨b, off, none⟩ = some (.int .i64 p.kind) ∧ V.cell? ⟨b, off + 1, none⟩ = some (.string p.name) ∧ V.cell? ⟨b, off + 2, none⟩ = some (.int .i64 p.num) ∧ V.cell? ⟨b, off + 3, none⟩ = some (.slice x0 p.names.length y0) ∧ V.cell? ⟨b, off + 4, none⟩ = some (.slice z0 p.kids.length u0) ∧ V.cell? ⟨b, off + 5, none⟩ = some (.int .i64 q.kind) ∧ V.cell? ⟨b, off + 6, none⟩ = some (.string q.name) ∧ V.cell? ⟨b, off + 7, none⟩ = some (.int .i64 q.num) ∧ V.cell? ⟨b, off + 8, none⟩ = some (.slice x1 q.names.length y1) ∧ V.cell? ⟨b, off + 9, none⟩ = some (.slice z1 q.kids.length u1) ∧ V.cell? ⟨b, off + 10, none⟩ = some (.int .i64 t.kind) ∧ V.cell? ⟨b, off + 11, none⟩ = some (.string t.name) ∧ V.cell? ⟨b, off + 12, none⟩ = some (.int .i64 t.num) ∧ V.cell? ⟨b, off + 13, none⟩ = some (.slice x2 t.names.length y2) ∧ V.cell? ⟨b, off + 14, none⟩ = some (.slice z2 t.kids.length u2)) := by
    intro V hb
    have bx := box5 hb
    have hk := keeps_box hb
    exact ⟨hb, bx.1, bx.2.1, bx.2.2.1, bx.2.2.2.1, bx.2.2.2.2, hk _ _ g00, hk _ _ g01, hk _ _ g02, hk _ _ g03, hk _ _ g04, hk _ _ g10, hk _ _ g11, hk _ _ g12, hk _ _ g13, hk _ _ g14, hk _ _ g20, hk _ _ g21, hk _ _ g22, hk _ _ g23, hk _ _ g24⟩
  obtain ⟨S0, hS0⟩ : ∃ S, mkS (textE p) = S := ⟨_, rfl⟩
  have z0' : S0.size ≤ 1099511627777 := by rw [← hS0, sz_mkS]; omega
  have hC0 : Hid (∀ V, Below (w.heap.size + 1) (w.alloc (.cells #[.int .i64 10, .string ⟨#[]⟩, .int .i64 0, .slice a1 0 c1, .slice (some ⟨b, off, none⟩) 3 c2] 40)) V → Calls Tryz.prog 25 #[(.agg #[.int .i64 p.kind, .string p.name, .int .i64 p.num, .slice x0 p.names.length y0, .slice z0 p.kids.length u0])] V fun r w' => r = .returned (.string S0) ∧ Below (w.heap.size + 1) (w.alloc (.cells #[.int .i64 10, .string ⟨#[]⟩, .int .i64 0, .slice a1 0 c1, .slice (some ⟨b, off, none⟩) 3 c2] 40)) w') := by
    intro V hb
    rw [← hS0]
    refine (hp _ V (ge0.keeps (keeps_box hb))).mono ?_
    rintro r w' ⟨rfl, hB⟩
    exact ⟨rfl, hb.trans (hB.mono (by have := hb.size; simpa using this))⟩
  obtain ⟨S1, hS1⟩ : ∃ S, mkS (textE q) = S := ⟨_, rfl⟩
  have z1' : S1.size ≤ 1099511627777 := by rw [← hS1, sz_mkS]; omega
  have hC1 : Hid (∀ V, Below (w.heap.size + 1) (w.alloc (.cells #[.int .i64 10, .string ⟨#[]⟩, .int .i64 0, .slice a1 0 c1, .slice (some ⟨b, off, none⟩) 3 c2] 40)) V → Calls Tryz.prog 25 #[(.agg #[.int .i64 q.kind, .string q.name, .int .i64 q.num, .slice x1 q.names.length y1, .slice z1 q.kids.length u1])] V fun r w' => r = .returned (.string S1) ∧ Below (w.heap.size + 1) (w.alloc (.cells #[.int .i64 10, .string ⟨#[]⟩, .int .i64 0, .slice a1 0 c1, .slice (some ⟨b, off, none⟩) 3 c2] 40)) w') := by
    intro V hb
    rw [← hS1]
    refine (hq _ V (ge1.keeps (keeps_box hb))).mono ?_
    rintro r w' ⟨rfl, hB⟩
    exact ⟨rfl, hb.trans (hB.mono (by have := hb.size; simpa using this))⟩
  obtain ⟨S2, hS2⟩ : ∃ S, mkS (textE t) = S := ⟨_, rfl⟩
  have z2' : S2.size ≤ 1099511627777 := by rw [← hS2, sz_mkS]; omega
  have hC2 : Hid (∀ V, Below (w.heap.size + 1) (w.alloc (.cells #[.int .i64 10, .string ⟨#[]⟩, .int .i64 0, .slice a1 0 c1, .slice (some ⟨b, off, none⟩) 3 c2] 40)) V → Calls Tryz.prog 25 #[(.agg #[.int .i64 t.kind, .string t.name, .int .i64 t.num, .slice x2 t.names.length y2, .slice z2 t.kids.length u2])] V fun r w' => r = .returned (.string S2) ∧ Below (w.heap.size + 1) (w.alloc (.cells #[.int .i64 10, .string ⟨#[]⟩, .int .i64 0, .slice a1 0 c1, .slice (some ⟨b, off, none⟩) 3 c2] 40)) w') := by
    intro V hb
    rw [← hS2]
    refine (ht _ V (ge2.keeps (keeps_box hb))).mono ?_
    rintro r w' ⟨rfl, hB⟩
    exact ⟨rfl, hb.trans (hB.mono (by have := hb.size; simpa using this))⟩
  have hfin : Hid ((⟨#[105, 102, 32]⟩ : Str) ++ S0 ++ (⟨#[32, 116, 104, 101, 110, 32]⟩ : Str) ++ S1 ++ (⟨#[32, 101, 108, 115, 101, 32]⟩ : Str) ++ S2 = mkS (textE (.mk 10 ⟨#[]⟩ 0 [] [p, q, t]))) := by
    refine bs_inj ?_
    rw [bs_mkS, tx_if]
    simp only [bs_cat, ← hS0, ← hS1, ← hS2, bs_mkS]
    simp [bs]
  have hst := Lib.hid (hS.out _ (Below.refl _ _))
  obtain ⟨_, k0, k1, k2, k3, k4, _⟩ := hS.out _ (Below.refl _ _)
  have hno1 : ¬ (9223372036854775807 < 3 + S0.size) := by omega
  have hno2 : ¬ (9223372036854775807 < 3 + S0.size + 6) := by omega
  have hno3 : ¬ (9223372036854775807 < 3 + S0.size + 6 + S1.size) := by omega
  have hno4 : ¬ (9223372036854775807 < 3 + S0.size + 6 + S1.size + 6) := by omega
  have hno5 : ¬ (9223372036854775807 < 3 + S0.size + 6 + S1.size + 6 + S2.size) := by omega
  have hb0 := Lib.hid ((Below.refl w.heap.size w).alloc (Nat.le_refl _) (.cells #[.int .i64 10, .string ⟨#[]⟩, .int .i64 0, .slice a1 0 c1, .slice (some ⟨b, off, none⟩) 3 c2] 40))
  have hdr := Lib.hid (hS.out _ ((Below.refl _ _).drew))
  clear hv hkid hr hp lp hS0 ge0 hq lq hS1 ge1 ht lt hS2 ge2
  go_enter Tryz.func25, Tryz.ntmps25
  go_wp2_with fail
  go_region_held3 (fun V => Below (w.heap.size + 1) (w.alloc (.cells #[.int .i64 10, .string ⟨#[]⟩, .int .i64 0, .slice a1 0 c1, .slice (some ⟨b, off, none⟩) 3 c2] 40)) V ∧ V.cell? ⟨w.heap.size, 0, none⟩ = some (.int .i64 10) ∧ V.cell? ⟨w.heap.size, 1, none⟩ = some (.string ⟨#[]⟩) ∧ V.cell? ⟨w.heap.size, 2, none⟩ = some (.int .i64 0) ∧ V.cell? ⟨w.heap.size, 3, none⟩ = some (.slice a1 0 c1) ∧ V.cell? ⟨w.heap.size, 4, none⟩ = some (.slice (some ⟨b, off, none⟩) 3 c2) ∧ V.cell? ⟨b, off, none⟩ = some (.int .i64 p.kind) ∧ V.cell? ⟨b, off + 1, none⟩ = some (.string p.name) ∧ V.cell? ⟨b, off + 2, none⟩ = some (.int .i64 p.num) ∧ V.cell? ⟨b, off + 3, none⟩ = some (.slice x0 p.names.length y0) ∧ V.cell? ⟨b, off + 4, none⟩ = some (.slice z0 p.kids.length u0) ∧ V.cell? ⟨b, off + 5, none⟩ = some (.int .i64 q.kind) ∧ V.cell? ⟨b, off + 6, none⟩ = some (.string q.name) ∧ V.cell? ⟨b, off + 7, none⟩ = some (.int .i64 q.num) ∧ V.cell? ⟨b, off + 8, none⟩ = some (.slice x1 q.names.length y1) ∧ V.cell? ⟨b, off + 9, none⟩ = some (.slice z1 q.kids.length u1) ∧ V.cell? ⟨b, off + 10, none⟩ = some (.int .i64 t.kind) ∧ V.cell? ⟨b, off + 11, none⟩ = some (.string t.name) ∧ V.cell? ⟨b, off + 12, none⟩ = some (.int .i64 t.num) ∧ V.cell? ⟨b, off + 13, none⟩ = some (.slice x2 t.names.length y2) ∧ V.cell? ⟨b, off + 14, none⟩ = some (.slice z2 t.kids.length u2)) ((first | exact hdr.out | exact hS.out _ (by assumption) | exact hS.out _ (Below.drew (by assumption))))
    (first | (go_at_call 25; (with_reducible refine (hC0.out _ (by first | assumption | exact Below.drew (by assumption))).mono ?_); rintro e w1 ⟨rfl, hb1⟩) | (go_at_call 25; (with_reducible refine (hC1.out _ (by first | assumption | exact Below.drew (by assumption))).mono ?_); rintro e w1 ⟨rfl, hb1⟩) | (go_at_call 25; (with_reducible refine (hC2.out _ (by first | assumption | exact Below.drew (by assumption))).mono ?_); rintro e w1 ⟨rfl, hb1⟩))
  all_goals
    go_wp2_with fail
    go_ret
    exact ⟨ret_str hfin.out, below_box hb1⟩

set_option maxHeartbeats 4000000 in
set_option maxRecDepth 100000 in
theorem r_text13 (x : Str) (p : Ex) (hp : RT p) (lp : (textE p).length ≤ 1099511627775) : RT (.mk 13 ⟨#[]⟩ 0 [x] [p]) := by
  intro v w hv
  obtain ⟨a1, c1, a2, c2, rfl, _, _, hs, hls, hks, hl, hr⟩ := hv.open
  unfold lenMax at hs
  rcases hl with h | ⟨b2, o2, rfl, hl⟩
  · simp at h
  have n0 := hl 0 (by simp)
  simp only [List.getElem_cons_zero, Nat.add_zero] at n0
  obtain ⟨n0, hx⟩ := n0
  unfold lenMax at hx
  obtain ⟨b, off, rfl, hkid⟩ := hr.kid (by simp)
  obtain ⟨x0, y0, z0, u0, g00, g01, g02, g03, g04, ge0⟩ := hkid 0 (by simp)
  simp only [List.getElem_cons_zero, List.getElem_cons_succ, Nat.zero_mul, Nat.one_mul, Nat.add_zero, Nat.reduceMul, Nat.reduceAdd, Nat.add_assoc] at g00 g01 g02 g03 g04 ge0
  simp only [List.length_cons, List.length_nil, Nat.zero_add, Nat.reduceAdd] at *
  have hS : Hid (∀ V, Below (w.heap.size + 1) (w.alloc (.cells #[.int .i64 13, .string ⟨#[]⟩, .int .i64 0, .slice (some ⟨b2, o2, none⟩) 1 c1, .slice (some ⟨b, off, none⟩) 1 c2] 40)) V → Below (w.heap.size + 1) (w.alloc (.cells #[.int .i64 13, .string ⟨#[]⟩, .int .i64 0, .slice (some ⟨b2, o2, none⟩) 1 c1, .slice (some ⟨b, off, none⟩) 1 c2] 40)) V ∧ V.cell? ⟨w.heap.size, 0, none⟩ = some (.int .i64 13) ∧ V.cell? ⟨w.heap.size, 1, none⟩ = some (.string ⟨#[]⟩) ∧ V.cell? ⟨w.heap.size, 2, none⟩ = some (.int .i64 0) ∧ V.cell? ⟨w.heap.size, 3, none⟩ = some (.slice (some ⟨b2, o2, none⟩) 1 c1) ∧ V.cell? ⟨w.heap.size, 4, none⟩ = some (.slice (some ⟨b, off, none⟩) 1 c2) ∧ V.cell? ⟨b, off, none⟩ = some (.int .i64 p.kind) ∧ V.cell? ⟨b, off + 1, none⟩ = some (.string p.name) ∧ V.cell? ⟨b, off + 2, none⟩ = some (.int .i64 p.num) ∧ V.cell? ⟨b, off + 3, none⟩ = some (.slice x0 p.names.length y0) ∧ V.cell? ⟨b, off + 4, none⟩ = some (.slice z0 p.kids.length u0) ∧ V.cell? ⟨b2, o2, none⟩ = some (.string x)) := by
    intro V hb
    have bx := box5 hb
    have hk := keeps_box hb
    exact ⟨hb, bx.1, bx.2.1, bx.2.2.1, bx.2.2.2.1, bx.2.2.2.2, hk _ _ g00, hk _ _ g01, hk _ _ g02, hk _ _ g03, hk _ _ g04, hk _ _ n0⟩
  obtain ⟨S0, hS0⟩ : ∃ S, mkS (textE p) = S := ⟨_, rfl⟩
  have z0' : S0.size ≤ 1099511627777 := by rw [← hS0, sz_mkS]; omega
  have hC0 : Hid (∀ V, Below (w.heap.size + 1) (w.alloc (.cells #[.int .i64 13, .string ⟨#[]⟩, .int .i64 0, .slice (some ⟨b2, o2, none⟩) 1 c1, .slice (some ⟨b, off, none⟩) 1 c2] 40)) V → Calls Tryz.prog 25 #[(.agg #[.int .i64 p.kind, .string p.name, .int .i64 p.num, .slice x0 p.names.length y0, .slice z0 p.kids.length u0])] V fun r w' => r = .returned (.string S0) ∧ Below (w.heap.size + 1) (w.alloc (.cells #[.int .i64 13, .string ⟨#[]⟩, .int .i64 0, .slice (some ⟨b2, o2, none⟩) 1 c1, .slice (some ⟨b, off, none⟩) 1 c2] 40)) w') := by
    intro V hb
    rw [← hS0]
    refine (hp _ V (ge0.keeps (keeps_box hb))).mono ?_
    rintro r w' ⟨rfl, hB⟩
    exact ⟨rfl, hb.trans (hB.mono (by have := hb.size; simpa using this))⟩
  have hfin : Hid (x ++ (⟨#[32, 60, 45, 32]⟩ : Str) ++ S0 = mkS (textE (.mk 13 ⟨#[]⟩ 0 [x] [p]))) := by
    refine bs_inj ?_
    rw [bs_mkS, tx_bind]
    simp only [bs_cat, ← hS0, bs_mkS]
    simp [bs]
  have hst := Lib.hid (hS.out _ (Below.refl _ _))
  obtain ⟨_, k0, k1, k2, k3, k4, _⟩ := hS.out _ (Below.refl _ _)
  have hxx : x.size ≤ 140737488355328 := hx
  have hno1 : ¬ (9223372036854775807 < x.size + 4) := by omega
  have hno2 : ¬ (9223372036854775807 < x.size + 4 + S0.size) := by omega
  have hb0 := Lib.hid ((Below.refl w.heap.size w).alloc (Nat.le_refl _) (.cells #[.int .i64 13, .string ⟨#[]⟩, .int .i64 0, .slice (some ⟨b2, o2, none⟩) 1 c1, .slice (some ⟨b, off, none⟩) 1 c2] 40))
  have hdr := Lib.hid (hS.out _ ((Below.refl _ _).drew))
  clear hv hkid hr hp lp hS0 ge0
  go_enter Tryz.func25, Tryz.ntmps25
  go_wp2_with fail
  go_region_held3 (fun V => Below (w.heap.size + 1) (w.alloc (.cells #[.int .i64 13, .string ⟨#[]⟩, .int .i64 0, .slice (some ⟨b2, o2, none⟩) 1 c1, .slice (some ⟨b, off, none⟩) 1 c2] 40)) V ∧ V.cell? ⟨w.heap.size, 0, none⟩ = some (.int .i64 13) ∧ V.cell? ⟨w.heap.size, 1, none⟩ = some (.string ⟨#[]⟩) ∧ V.cell? ⟨w.heap.size, 2, none⟩ = some (.int .i64 0) ∧ V.cell? ⟨w.heap.size, 3, none⟩ = some (.slice (some ⟨b2, o2, none⟩) 1 c1) ∧ V.cell? ⟨w.heap.size, 4, none⟩ = some (.slice (some ⟨b, off, none⟩) 1 c2) ∧ V.cell? ⟨b, off, none⟩ = some (.int .i64 p.kind) ∧ V.cell? ⟨b, off + 1, none⟩ = some (.string p.name) ∧ V.cell? ⟨b, off + 2, none⟩ = some (.int .i64 p.num) ∧ V.cell? ⟨b, off + 3, none⟩ = some (.slice x0 p.names.length y0) ∧ V.cell? ⟨b, off + 4, none⟩ = some (.slice z0 p.kids.length u0) ∧ V.cell? ⟨b2, o2, none⟩ = some (.string x)) ((first | exact hdr.out | exact hS.out _ (by assumption) | exact hS.out _ (Below.drew (by assumption))))
    (first | (go_at_call 25; (with_reducible refine (hC0.out _ (by first | assumption | exact Below.drew (by assumption))).mono ?_); rintro e w1 ⟨rfl, hb1⟩))
  all_goals
    go_wp2_with fail
    go_ret
    exact ⟨ret_str hfin.out, below_box hb1⟩

end Go.Proofs.YtpdfeadajgokkaaGreatDoor

namespace Go.Proofs.YtpdfeadajgokkaaGreatDoor
open Go.RowKit

theorem seq_snoc (L : List (List UInt8)) (x : List UInt8) : seqT (L ++ [x]) = seqT L ++ ((if 0 < L.length then [32, 59, 32] else []) ++ x) := by
  induction L with
  | nil => simp [seq_one, seq_nil]
  | cons y r ih =>
    cases r with
    | nil => simp [seq_cons, seq_one]
    | cons z r =>
      simp only [List.cons_append, seq_cons] at ih ⊢
      rw [ih]
      simp
theorem seq_take_le (L : List (List UInt8)) (k : Nat) : (seqT (L.take k)).length ≤ (seqT L).length := by
  have h : ∀ (A B : List (List UInt8)), (seqT A).length ≤ (seqT (A ++ B)).length := by
    intro A B
    induction B generalizing A with
    | nil => simp
    | cons b B ih =>
      have h1 := ih (A ++ [b])
      rw [List.append_assoc, List.singleton_append] at h1
      have h2 : (seqT A).length ≤ (seqT (A ++ [b])).length := by rw [seq_snoc, List.length_append]; omega
      omega
  have := h (L.take k) (L.drop k)
  rwa [List.take_append_drop] at this
theorem seq_mem_le (L : List (List UInt8)) {x : List UInt8} (h : x ∈ L) : x.length ≤ (seqT L).length := join_mem_le _ _ h

set_option maxHeartbeats 1600000 in
theorem r_list (ks : List Ex) (a : Option Addr) (c fr : Nat) (w : World) (hl : ks.length ≤ lenMax) (hf : fr ≤ ks.length) (hT : ∀ e ∈ ks.drop fr, RT e) (hr : ExRow w a ks) (hlen : (seqT ((ks.drop fr).map textE)).length ≤ 1099511627775) :
    Calls Tryz.prog 59 #[.slice a ks.length c, .int .i64 fr] w fun r w' => r = .returned (.string (mkS ([123, 32] ++ (seqT ((ks.drop fr).map textE) ++ [32, 125])))) ∧ Below w.heap.size w w' := by
  unfold lenMax at hl
  have hlen' := Lib.hid hlen
  have hT' := Lib.hid hT
  clear hlen hT
  go_enter Tryz.func59, Tryz.ntmps59
  go_wp2_with fail
  go_loopw [5, 6] (fun s i wr => ∃ (k : Nat) (S : Str), fr ≤ k ∧ k ≤ ks.length ∧ i = .int .i64 k ∧ s = .string S ∧ Hid (S = mkS ([123, 32] ++ seqT (((ks.drop fr).map textE).take (k - fr)))) ∧ Below w.heap.size w wr) (fun _ i _ => ks.length - (intOf i).toNat)
  case atStart => exact ⟨fr, _, by omega, by omega, rfl, rfl, by unfold Hid; simp [seq_nil]; rfl, Below.refl _ _⟩
  case round =>
    obtain ⟨k, S, hk0, hk, rfl, rfl, hS, hB⟩ := hrel
    by_cases hlt : k < ks.length
    · obtain ⟨b, off, rfl, hkid⟩ := (hr.keeps (Keeps.of_below hB)).kid (by rintro rfl; simp at hlt)
      obtain ⟨a3, c3, a4, c4, g0, g1, g2, g3, g4, ge⟩ := hkid k hlt
      have hdl : k - fr < (ks.drop fr).length := by rw [List.length_drop]; omega
      have hel : Hid ((ks.drop fr)[k - fr] = ks[k]) := by
        unfold Hid
        rw [List.getElem_drop]
        congr 1
        omega
      have hmem : ks[k] ∈ ks.drop fr := by rw [← hel.out]; exact List.getElem_mem hdl
      obtain ⟨S1, hS1⟩ : ∃ S, mkS (textE ks[k]) = S := ⟨_, rfl⟩
      have hcall := Lib.hid (hT'.out _ hmem _ wr ge)
      rw [hS1] at hcall
      have hsnoc : Hid (seqT (((ks.drop fr).map textE).take (k + 1 - fr)) = seqT (((ks.drop fr).map textE).take (k - fr)) ++ ((if fr < k then [32, 59, 32] else []) ++ textE ks[k])) := by
        unfold Hid
        rw [show k + 1 - fr = k - fr + 1 from by omega, List.take_succ_eq_append_getElem (by rw [List.length_map]; exact hdl), seq_snoc]
        congr 2
        · rw [List.length_take, List.length_map]
          by_cases h : fr < k
          · rw [if_pos h, if_pos (by omega)]
          · rw [if_neg h, if_neg (by omega)]
        · rw [List.getElem_map, hel.out]
      have hle := seq_take_le ((ks.drop fr).map textE) (k + 1 - fr)
      rw [hsnoc.out] at hle
      have hz1 : S.size + 3 + S1.size ≤ 1099511627800 := by
        have h1 := seq_mem_le ((ks.drop fr).map textE) (List.mem_map.2 ⟨_, hmem, rfl⟩)
        have h2 := hlen'.out
        simp only [List.length_append] at hle
        rw [hS.out, ← hS1, sz_mkS, sz_mkS]
        simp only [List.length_append, List.length_cons, List.length_nil]
        omega
      clear hkid ge hmem hle
      by_cases h0 : fr < k
      · have hn : Hid (S ++ ⟨#[32, 59, 32]⟩ ++ S1 = mkS ([123, 32] ++ seqT (((ks.drop fr).map textE).take (k + 1 - fr)))) := by
          refine bs_inj ?_
          rw [bs_cat, bs_cat, hS.out, ← hS1, hsnoc.out, if_pos h0]
          simp [bs, mkS]
        have hi : (fr : Int) < (k : Int) := by omega
        clear hS1
        go_wp2_with fail
        refine hcall.out.mono ?_
        rintro e w1 ⟨rfl, hB1⟩
        have hB1' := hB.trans (hB1.mono hB.size)
        clear hB1
        go_wp2_with fail
        go_roundw
        case rel => exact ⟨k + 1, _, by omega, by omega, by go_num, rfl, hn, hB1'⟩
        case measure => simp [intOf]; omega
      · have hn : Hid (S ++ S1 = mkS ([123, 32] ++ seqT (((ks.drop fr).map textE).take (k + 1 - fr)))) := by
          refine bs_inj ?_
          rw [bs_cat, hS.out, ← hS1, hsnoc.out, if_neg h0]
          simp [bs, mkS]
        have hi : (k : Int) ≤ (fr : Int) := by omega
        clear hS1
        go_wp2_with fail
        refine hcall.out.mono ?_
        rintro e w1 ⟨rfl, hB1⟩
        have hB1' := hB.trans (hB1.mono hB.size)
        clear hB1
        go_wp2_with fail
        go_roundw
        case rel => exact ⟨k + 1, _, by omega, by omega, by go_num, rfl, hn, hB1'⟩
        case measure => simp [intOf]; omega
    · have hn : Hid (S ++ ⟨#[32, 125]⟩ = mkS ([123, 32] ++ (seqT ((ks.drop fr).map textE) ++ [32, 125]))) := by
        refine bs_inj ?_
        rw [bs_cat, hS.out, List.take_of_length_le (by rw [List.length_map, List.length_drop]; omega)]
        simp [bs, mkS]
      have hz1 : S.size ≤ 1099511627800 := by
        have h2 := hlen'.out
        have hle := seq_take_le ((ks.drop fr).map textE) (k - fr)
        rw [hS.out, sz_mkS]
        simp only [List.length_append, List.length_cons, List.length_nil]
        omega
      go_wp2_with fail
      go_ret
      exact ⟨ret_str hn.out, hB⟩

set_option maxRecDepth 100000 in
theorem RT.leaf {k : Int} {s : Str} (h : k = 2 ∨ k = 3) : RT (.mk k s 0 [] []) := by
  intro v w hv
  obtain ⟨a1, c1, a2, c2, rfl, _⟩ := hv.open
  have hb0 := Lib.hid ((Below.refl w.heap.size w).alloc (Nat.le_refl _) (.cells #[.int .i64 k, .string s, .int .i64 0, .slice a1 0 c1, .slice a2 0 c2] 40))
  have hT : Hid (s = mkS (textE (.mk k s 0 [] []))) := by
    rcases h with rfl | rfl
    · rw [tx_var]; rfl
    · rw [tx_con]; rfl
  clear hv
  simp only [List.length_nil]
  rcases h with rfl | rfl
  all_goals
    go_enter Tryz.func25, Tryz.ntmps25
    go_wp2_with fail
    go_ret
    exact ⟨ret_str hT.out, hb0.out⟩
set_option maxRecDepth 100000 in
theorem RT.int {n : Int} (h0 : 0 ≤ n) (h9 : n ≤ 9223372036854775807) : RT (.mk 1 ⟨#[]⟩ n [] []) := by
  intro v w hv
  obtain ⟨a1, c1, a2, c2, rfl, _⟩ := hv.open
  obtain ⟨u, rfl⟩ := Int.eq_ofNat_of_zero_le h0
  have hb0 := Lib.hid ((Below.refl w.heap.size w).alloc (Nat.le_refl _) (.cells #[.int .i64 1, .string ⟨#[]⟩, .int .i64 u, .slice a1 0 c1, .slice a2 0 c2] 40))
  have hcall := Lib.hid (r_digits u (w.alloc (.cells #[.int .i64 1, .string ⟨#[]⟩, .int .i64 u, .slice a1 0 c1, .slice a2 0 c2] 40)) (by omega))
  have hT : Hid (mkS (Lib.decDigits u) = mkS (textE (.mk 1 ⟨#[]⟩ u [] []))) := by
    rw [tx_int, Lib.itoa, if_neg (by omega)]; rfl
  clear hv h9 h0
  simp only [List.length_nil]
  go_enter Tryz.func25, Tryz.ntmps25
  go_wp2_with fail
  refine hcall.out.mono ?_
  rintro e w1 ⟨rfl, hB1⟩
  go_wp2_with fail
  go_ret
  exact ⟨ret_str hT.out, hb0.out.trans (hB1.mono (by simp))⟩

set_option maxRecDepth 100000 in
theorem r_text11 (ks : List Ex) (hT : ∀ e ∈ ks, RT e) (hlen : (seqT (ks.map textE)).length ≤ 1099511627775) : RT (.mk 11 ⟨#[]⟩ 0 [] ks) := by
  intro v w hv
  obtain ⟨a1, c1, a2, c2, rfl, _, _, _, _, hks, _, hr⟩ := hv.open
  simp only [List.length_nil]
  have hB0 : Below (w.heap.size + 1) (w.alloc (.cells #[.int .i64 11, .string ⟨#[]⟩, .int .i64 0, .slice a1 0 c1, .slice a2 ks.length c2] 40)) (w.alloc (.cells #[.int .i64 11, .string ⟨#[]⟩, .int .i64 0, .slice a1 0 c1, .slice a2 ks.length c2] 40)) := Below.refl _ _
  have hbw := Lib.hid (below_box hB0)
  obtain ⟨k0, k1, k2, k3, k4⟩ := box5 hB0
  have hcall := Lib.hid (r_list ks a2 c2 0 _ hks (by omega) (by simpa using hT) (hr.keeps (keeps_box hB0)) (by simpa using hlen))
  obtain ⟨S0, hS0⟩ : ∃ S, mkS ([123, 32] ++ (seqT ((ks.drop 0).map textE) ++ [32, 125])) = S := ⟨_, rfl⟩
  have hz : S0.size ≤ 1099511627785 := by
    rw [← hS0, sz_mkS]; simp only [List.length_append, List.length_cons, List.length_nil, List.drop_zero]; omega
  have hfin : Hid ((⟨#[100, 111, 32]⟩ : Str) ++ S0 = mkS (textE (.mk 11 ⟨#[]⟩ 0 [] ks))) := by
    refine bs_inj ?_
    rw [bs_mkS, tx_do, bs_cat, ← hS0]
    simp [bs, mkS]
  rw [hS0] at hcall
  unfold lenMax at hks
  clear hv hr hB0 hT hlen hS0
  go_enter Tryz.func25, Tryz.ntmps25
  go_wp2_with fail
  refine hcall.out.mono ?_
  rintro e w1 ⟨rfl, hB1⟩
  go_wp2_with fail
  go_ret
  exact ⟨ret_str hfin.out, hbw.out.trans (hB1.mono (by simp))⟩

set_option maxRecDepth 100000 in
theorem r_text12 (ks : List Ex) (hT : ∀ e ∈ ks, RT e) (hlen : (seqT (ks.map textE)).length ≤ 1099511627775) : RT (.mk 12 ⟨#[]⟩ 0 [] ks) := by
  intro v w hv
  obtain ⟨a1, c1, a2, c2, rfl, _, _, _, _, hks, _, hr⟩ := hv.open
  simp only [List.length_nil]
  have hB0 : Below (w.heap.size + 1) (w.alloc (.cells #[.int .i64 12, .string ⟨#[]⟩, .int .i64 0, .slice a1 0 c1, .slice a2 ks.length c2] 40)) (w.alloc (.cells #[.int .i64 12, .string ⟨#[]⟩, .int .i64 0, .slice a1 0 c1, .slice a2 ks.length c2] 40)) := Below.refl _ _
  have hbw := Lib.hid (below_box hB0)
  obtain ⟨k0, k1, k2, k3, k4⟩ := box5 hB0
  have hcall := Lib.hid (r_list ks a2 c2 0 _ hks (by omega) (by simpa using hT) (hr.keeps (keeps_box hB0)) (by simpa using hlen))
  obtain ⟨S0, hS0⟩ : ∃ S, mkS ([123, 32] ++ (seqT ((ks.drop 0).map textE) ++ [32, 125])) = S := ⟨_, rfl⟩
  have hz : S0.size ≤ 1099511627785 := by
    rw [← hS0, sz_mkS]; simp only [List.length_append, List.length_cons, List.length_nil, List.drop_zero]; omega
  have hfin : Hid ((⟨#[100, 111, 115, 32]⟩ : Str) ++ S0 = mkS (textE (.mk 12 ⟨#[]⟩ 0 [] ks))) := by
    refine bs_inj ?_
    rw [bs_mkS, tx_dos, bs_cat, ← hS0]
    simp [bs, mkS]
  rw [hS0] at hcall
  unfold lenMax at hks
  clear hv hr hB0 hT hlen hS0
  go_enter Tryz.func25, Tryz.ntmps25
  go_wp2_with fail
  refine hcall.out.mono ?_
  rintro e w1 ⟨rfl, hB1⟩
  go_wp2_with fail
  go_ret
  exact ⟨ret_str hfin.out, hbw.out.trans (hB1.mono (by simp))⟩

set_option maxHeartbeats 4000000 in
set_option maxRecDepth 100000 in
theorem r_text7 (p : Ex) (rs : List Ex) (hp : RT p) (lp : (textE p).length ≤ 1099511627775) (hT : ∀ e ∈ rs, RT e) (hlen : (seqT (rs.map textE)).length ≤ 1099511627775) : RT (.mk 7 ⟨#[]⟩ 0 [] (p :: rs)) := by
  intro v w hv
  obtain ⟨a1, c1, a2, c2, rfl, _, _, _, _, hks, _, hr⟩ := hv.open
  obtain ⟨b, off, rfl, hkid⟩ := hr.kid (by simp)
  obtain ⟨x0, y0, z0, u0, g0, g1, g2, g3, g4, ge⟩ := hkid 0 (by simp)
  simp only [List.getElem_cons_zero, Nat.zero_mul, Nat.add_zero] at g0 g1 g2 g3 g4 ge
  simp only [List.length_cons, List.length_nil] at *
  have hS : Hid (∀ V, Below (w.heap.size + 1) (w.alloc (.cells #[.int .i64 7, .string ⟨#[]⟩, .int .i64 0, .slice a1 0 c1, .slice (some ⟨b, off, none⟩) (rs.length + 1) c2] 40)) V → Below (w.heap.size + 1) (w.alloc (.cells #[.int .i64 7, .string ⟨#[]⟩, .int .i64 0, .slice a1 0 c1, .slice (some ⟨b, off, none⟩) (rs.length + 1) c2] 40)) V ∧ V.cell? ⟨w.heap.size, 0, none⟩ = some (.int .i64 7) ∧ V.cell? ⟨w.heap.size, 1, none⟩ = some (.string ⟨#[]⟩) ∧ V.cell? ⟨w.heap.size, 2, none⟩ = some (.int .i64 0) ∧ V.cell? ⟨w.heap.size, 3, none⟩ = some (.slice a1 0 c1) ∧ V.cell? ⟨w.heap.size, 4, none⟩ = some (.slice (some ⟨b, off, none⟩) (rs.length + 1) c2) ∧ V.cell? ⟨b, off, none⟩ = some (.int .i64 p.kind) ∧ V.cell? ⟨b, off + 1, none⟩ = some (.string p.name) ∧ V.cell? ⟨b, off + 2, none⟩ = some (.int .i64 p.num) ∧ V.cell? ⟨b, off + 3, none⟩ = some (.slice x0 p.names.length y0) ∧ V.cell? ⟨b, off + 4, none⟩ = some (.slice z0 p.kids.length u0)) := by
    intro V hb
    have bx := box5 hb
    have hk := keeps_box hb
    exact ⟨hb, bx.1, bx.2.1, bx.2.2.1, bx.2.2.2.1, bx.2.2.2.2, hk _ _ g0, hk _ _ g1, hk _ _ g2, hk _ _ g3, hk _ _ g4⟩
  obtain ⟨S0, hS0⟩ : ∃ S, mkS (textE p) = S := ⟨_, rfl⟩
  have z0' : S0.size ≤ 1099511627777 := by rw [← hS0, sz_mkS]; omega
  have hC0 : Hid (∀ V, Below (w.heap.size + 1) (w.alloc (.cells #[.int .i64 7, .string ⟨#[]⟩, .int .i64 0, .slice a1 0 c1, .slice (some ⟨b, off, none⟩) (rs.length + 1) c2] 40)) V → Calls Tryz.prog 25 #[(.agg #[.int .i64 p.kind, .string p.name, .int .i64 p.num, .slice x0 p.names.length y0, .slice z0 p.kids.length u0])] V fun r w' => r = .returned (.string S0) ∧ Below (w.heap.size + 1) (w.alloc (.cells #[.int .i64 7, .string ⟨#[]⟩, .int .i64 0, .slice a1 0 c1, .slice (some ⟨b, off, none⟩) (rs.length + 1) c2] 40)) w') := by
    intro V hb
    rw [← hS0]
    refine (hp _ V (ge.keeps (keeps_box hb))).mono ?_
    rintro r w' ⟨rfl, hB⟩
    exact ⟨rfl, hb.trans (hB.mono (by have := hb.size; simpa using this))⟩
  obtain ⟨S1, hS1⟩ : ∃ S, mkS ([123, 32] ++ (seqT (((p :: rs).drop 1).map textE) ++ [32, 125])) = S := ⟨_, rfl⟩
  have z1' : S1.size ≤ 1099511627785 := by
    rw [← hS1, sz_mkS]; simp only [List.length_append, List.length_cons, List.length_nil, List.drop_succ_cons, List.drop_zero]; omega
  have hC1 : Hid (∀ V, Below (w.heap.size + 1) (w.alloc (.cells #[.int .i64 7, .string ⟨#[]⟩, .int .i64 0, .slice a1 0 c1, .slice (some ⟨b, off, none⟩) (rs.length + 1) c2] 40)) V → Calls Tryz.prog 59 #[.slice (some ⟨b, off, none⟩) (rs.length + 1) c2, .int .i64 1] V fun r w' => r = .returned (.string S1) ∧ Below (w.heap.size + 1) (w.alloc (.cells #[.int .i64 7, .string ⟨#[]⟩, .int .i64 0, .slice a1 0 c1, .slice (some ⟨b, off, none⟩) (rs.length + 1) c2] 40)) w') := by
    intro V hb
    rw [← hS1]
    refine (r_list (p :: rs) (some ⟨b, off, none⟩) c2 1 V hks (by simp) (by simpa using hT) (hr.keeps (keeps_box hb)) (by simpa using hlen)).mono ?_
    rintro r w' ⟨rfl, hB⟩
    exact ⟨rfl, hb.trans (hB.mono (by have := hb.size; simpa using this))⟩
  have hfin : Hid ((⟨#[99, 97, 115, 101, 32]⟩ : Str) ++ S0 ++ ⟨#[32, 111, 102, 32]⟩ ++ S1 = mkS (textE (.mk 7 ⟨#[]⟩ 0 [] (p :: rs)))) := by
    refine bs_inj ?_
    rw [bs_mkS, tx_case, bs_cat, bs_cat, bs_cat, ← hS0, ← hS1]
    simp [bs, mkS]
  obtain ⟨_, k0, k1, k2, k3, k4, _⟩ := hS.out _ (Below.refl _ _)
  unfold lenMax at hks
  have hi : (0 : Int) < (rs.length : Int) + 1 := by omega
  have hno1 : ¬ (9223372036854775807 < 5 + S0.size) := by omega
  have hno2 : ¬ (9223372036854775807 < 5 + S0.size + 4) := by omega
  have hno3 : ¬ (9223372036854775807 < 5 + S0.size + 4 + S1.size) := by omega
  have hdr := Lib.hid (hS.out _ ((Below.refl _ _).drew))
  clear hv hkid hr hp lp hT hlen hS0 hS1 ge
  go_enter Tryz.func25, Tryz.ntmps25
  go_wp2_with fail
  go_region_held3 (fun V => Below (w.heap.size + 1) (w.alloc (.cells #[.int .i64 7, .string ⟨#[]⟩, .int .i64 0, .slice a1 0 c1, .slice (some ⟨b, off, none⟩) (rs.length + 1) c2] 40)) V ∧ V.cell? ⟨w.heap.size, 0, none⟩ = some (.int .i64 7) ∧ V.cell? ⟨w.heap.size, 1, none⟩ = some (.string ⟨#[]⟩) ∧ V.cell? ⟨w.heap.size, 2, none⟩ = some (.int .i64 0) ∧ V.cell? ⟨w.heap.size, 3, none⟩ = some (.slice a1 0 c1) ∧ V.cell? ⟨w.heap.size, 4, none⟩ = some (.slice (some ⟨b, off, none⟩) (rs.length + 1) c2) ∧ V.cell? ⟨b, off, none⟩ = some (.int .i64 p.kind) ∧ V.cell? ⟨b, off + 1, none⟩ = some (.string p.name) ∧ V.cell? ⟨b, off + 2, none⟩ = some (.int .i64 p.num) ∧ V.cell? ⟨b, off + 3, none⟩ = some (.slice x0 p.names.length y0) ∧ V.cell? ⟨b, off + 4, none⟩ = some (.slice z0 p.kids.length u0)) ((first | exact hdr.out | exact hS.out _ (by assumption) | exact hS.out _ (Below.drew (by assumption))))
    (first | (go_at_call 25; (with_reducible refine (hC0.out _ (by first | assumption | exact Below.drew (by assumption))).mono ?_); rintro e w1 ⟨rfl, hb1⟩) | (go_at_call 59; (with_reducible refine (hC1.out _ (by first | assumption | exact Below.drew (by assumption))).mono ?_); rintro e w1 ⟨rfl, hb1⟩))
  all_goals
    go_wp2_with fail
    go_ret
    exact ⟨ret_str hfin.out, below_box hb1⟩

/-- The reference's text of a tree that may be is what the program's is. -/
theorem r_Text : ∀ {e : Ex}, Snd e → NumOk e → (textE e).length ≤ 1099511627775 → RT e := by
  intro e h
  have nk : ∀ {k : Int} {s : Str} {n : Int} {l : List Str} {ks : List Ex}, NumOk (.mk k s n l ks) → (-9223372036854775808 ≤ n ∧ n ≤ 9223372036854775807) ∧ ∀ e ∈ ks, NumOk e := fun h => by cases h with | mk h hk => exact ⟨h, hk⟩
  have al : ∀ e : Ex, (textE e).length ≤ (atomE e).length := fun e => by rcases atom_cases e with h | h <;> rw [h] <;> simp <;> omega
  induction h with
  | int h0 => intro hn _; exact RT.int h0 (nk hn).1.2
  | var h => intro _ _; exact RT.leaf (.inl rfl)
  | con h => intro _ _; exact RT.leaf (.inr rfl)
  | @lam x a h _ _ ih =>
    intro hn hl
    have h1 : (textE a).length ≤ 1099511627775 := by rw [tx_lam] at hl; simp only [List.length_cons, List.length_append] at hl; omega
    exact r_text4 x a (ih ((nk hn).2 _ (by simp)) h1) h1
  | @app a b _ _ _ _ i1 i2 =>
    intro hn hl
    have ha := al a; have hb := al b
    have h1 : (textE a).length ≤ 1099511627775 := by rw [tx_app] at hl; simp only [List.length_cons, List.length_append] at hl; omega
    have h2 : (textE b).length ≤ 1099511627775 := by rw [tx_app] at hl; simp only [List.length_cons, List.length_append] at hl; omega
    exact r_text5 a (i1 ((nk hn).2 _ (by simp)) h1) h1 b (i2 ((nk hn).2 _ (by simp)) h2) h2
  | @lt x a b h _ _ _ _ i1 i2 =>
    intro hn hl
    have h1 : (textE a).length ≤ 1099511627775 := by rw [tx_let] at hl; simp only [List.length_cons, List.length_append] at hl; omega
    have h2 : (textE b).length ≤ 1099511627775 := by rw [tx_let] at hl; simp only [List.length_cons, List.length_append] at hl; omega
    exact r_text6 x a (i1 ((nk hn).2 _ (by simp)) h1) h1 b (i2 ((nk hn).2 _ (by simp)) h2) h2
  | @cs a r _ _ _ _ _ i1 i2 =>
    intro hn hl
    have h1 : (textE a).length ≤ 1099511627775 := by rw [tx_case] at hl; simp only [List.length_cons, List.length_append] at hl; omega
    have h2 : (seqT (r.map textE)).length ≤ 1099511627775 := by rw [tx_case] at hl; simp only [List.length_cons, List.length_append] at hl; omega
    exact r_text7 a r (i1 ((nk hn).2 _ (by simp)) h1) h1 (fun e he => i2 e he ((nk hn).2 _ (by simp [he])) (Nat.le_trans (seq_mem_le _ (List.mem_map.2 ⟨e, he, rfl⟩)) h2)) h2
  | @alt c l a h _ _ _ ih =>
    intro hn hl
    have h1 : (textE a).length ≤ 1099511627775 := by rw [tx_alt] at hl; simp only [List.length_cons, List.length_append] at hl; omega
    have h2 : (nmT l).length ≤ 1099511627775 := by rw [tx_alt] at hl; simp only [List.length_cons, List.length_append] at hl; omega
    exact r_text8 l h2 c a (ih ((nk hn).2 _ (by simp)) h1) h1
  | @op o a b h _ _ _ _ i1 i2 =>
    intro hn hl
    have ha := al a; have hb := al b
    have h1 : (textE a).length ≤ 1099511627775 := by rw [tx_op] at hl; simp only [List.length_cons, List.length_append] at hl; omega
    have h2 : (textE b).length ≤ 1099511627775 := by rw [tx_op] at hl; simp only [List.length_cons, List.length_append] at hl; omega
    exact r_text9 o a (i1 ((nk hn).2 _ (by simp)) h1) h1 b (i2 ((nk hn).2 _ (by simp)) h2) h2
  | @iff a b c _ _ _ _ _ _ i1 i2 i3 =>
    intro hn hl
    have h1 : (textE a).length ≤ 1099511627775 := by rw [tx_if] at hl; simp only [List.length_cons, List.length_append] at hl; omega
    have h2 : (textE b).length ≤ 1099511627775 := by rw [tx_if] at hl; simp only [List.length_cons, List.length_append] at hl; omega
    have h3 : (textE c).length ≤ 1099511627775 := by rw [tx_if] at hl; simp only [List.length_cons, List.length_append] at hl; omega
    exact r_text10 a (i1 ((nk hn).2 _ (by simp)) h1) h1 b (i2 ((nk hn).2 _ (by simp)) h2) h2 c (i3 ((nk hn).2 _ (by simp)) h3) h3
  | @blk k r z h _ _ _ _ i1 i2 =>
    intro hn hl
    have h1 : (seqT ((r ++ [z]).map textE)).length ≤ 1099511627775 := by
      rcases h with rfl | rfl
      · rw [tx_do] at hl; simp only [List.length_cons, List.length_append] at hl ⊢; omega
      · rw [tx_dos] at hl; simp only [List.length_cons, List.length_append] at hl ⊢; omega
    have hT : ∀ e ∈ r ++ [z], RT e := by
      intro e he
      have hle := Nat.le_trans (seq_mem_le _ (List.mem_map.2 ⟨e, he, rfl⟩)) h1
      rcases List.mem_append.1 he with h' | h'
      · exact i1 e h' ((nk hn).2 _ he) hle
      · rw [List.mem_singleton] at h'; subst h'; exact i2 ((nk hn).2 _ he) hle
    rcases h with rfl | rfl
    · exact r_text11 _ hT h1
    · exact r_text12 _ hT h1
  | @bind x a h _ _ ih =>
    intro hn hl
    have h1 : (textE a).length ≤ 1099511627775 := by rw [tx_bind] at hl; simp only [List.length_cons, List.length_append] at hl; omega
    exact r_text13 x a (ih ((nk hn).2 _ (by simp)) h1) h1
end Go.Proofs.YtpdfeadajgokkaaGreatDoor
