/- A type's text: digits, and what it is. -/
import Derived.Test.YticjpeefhppjoaaDoorTyC
import Derived.Test.YticjpeefhppjoaaDoorShelf
import Derived.Deep.RegionWith
import Derived.Deep.RegionHeld3
import Derived.Laws.IdiomStrings
import Derived.Lib.ItoaNum
import Derived.Lib.ItoaLen
import Derived.Lib.SmallJoins
import Derived.PlainAid
import Derived.IntWalk
namespace Go.Proofs.YticjpeefhppjoaaDoor
open Go.RowKit

def bs (s : Str) : List UInt8 := s.data.toList
def mkS (l : List UInt8) : Str := ⟨l.toArray⟩
theorem bs_mkS (l : List UInt8) : bs (mkS l) = l := rfl
theorem mkS_bs (s : Str) : mkS (bs s) = s := rfl
theorem sz_mkS (l : List UInt8) : (mkS l).size = l.length := by rw [Lib.size_eq]; rfl
theorem bs_inj {a b : Str} (h : bs a = bs b) : a = b := by
  obtain ⟨⟨a⟩⟩ := a; obtain ⟨⟨b⟩⟩ := b
  simp [bs] at h; rw [h]
theorem bs_cat (a b : Str) : bs (a ++ b) = bs a ++ bs b := by unfold bs; rw [show (a ++ b).data = a.data ++ b.data from ByteArray.data_append]; simp
theorem bs_len (s : Str) : (bs s).length = s.size := by rw [Lib.size_eq]; rfl
/-- The table that the standard library reads where it writes a number. -/
def Tab (w : World) : Prop := Lib.TabIs Tryd.prog w "internal/strconv.uint64pow10" .u64 Lib.pow10Tab
theorem Tab.below {w w' : World} (h : Tab w) (hb : Below w.heap.size w w') : Tab w' := by
  have h1 : (Tryd.prog.globalNamed "internal/strconv.uint64pow10").isSome = true := by kernel_rfl
  obtain ⟨g, hg⟩ := Option.isSome_iff_exists.1 h1
  exact Joins.tab_stays hg h hb (Nat.le_refl _)

set_option maxRecDepth 100000 in
theorem conv1 (V : World) (B : Nat) (b : UInt8) (h : V.cell? ⟨B, 0, none⟩ = some (.int .u8 b.toNat)) : (Go.convert 83 9 (.slice (some ⟨B, 0, none⟩) 1 1)).run Tryd.prog V = .ok (.string ⟨#[b]⟩) V :=
  Go.run_convert_bytes_back (P := Tryd.prog) V 83 9 5 ⟨B, 0, none⟩ 1 [b] Tryd.underlying83 Tryd.underlying5 Tryd.underlying9 (fun j hj => by
    obtain rfl : j = 0 := by simp at hj; exact hj
    simpa [Addr.add] using h)

set_option maxHeartbeats 800000 in
set_option maxRecDepth 100000 in
theorem r_digits : ∀ (n : Nat) (w : World), n ≤ 9223372036854775807 → Calls Tryd.prog 58 #[.int .i64 n] w fun r w' => r = .returned (.string (mkS (Lib.decDigits n))) ∧ Below w.heap.size w w' := by
  intro n
  induction n using Nat.strongRecOn with
  | ind n ih' =>
  have ih := Lib.hid ih'
  clear ih'
  intro w hn
  have hn' := Lib.hid hn
  clear hn
  by_cases h1 : n < 10
  · have hz : ((UInt8.ofNat (48 + n)).toNat : Int) = 48 + (n : Int) := by
      rcases (by omega : n = 0 ∨ n = 1 ∨ n = 2 ∨ n = 3 ∨ n = 4 ∨ n = 5 ∨ n = 6 ∨ n = 7 ∨ n = 8 ∨ n = 9) with rfl | rfl | rfl | rfl | rfl | rfl | rfl | rfl | rfl | rfl <;> rfl
    have hcv := conv1 (w.alloc (.cells #[.int .u8 (48 + (n : Int))] 5)) w.heap.size (UInt8.ofNat (48 + n)) (by rw [World.cell?_alloc_at _ _ _ _ rfl, hz]; rfl)
    clear hz
    go_enter Tryd.func58, Tryd.ntmps58
    go_wp2_with fail
    go_ret
    exact ⟨ret_str (by rw [Lib.decDigits, dif_pos h1, UInt8.ofNat_add]; rfl), (Below.refl _ _).alloc (Nat.le_refl _) _⟩
  · have hm : n % 10 < 10 := Nat.mod_lt _ (by omega)
    have hz : ((UInt8.ofNat (48 + n % 10)).toNat : Int) = 48 + (n : Int) % 10 := by
      rcases (by omega : n % 10 = 0 ∨ n % 10 = 1 ∨ n % 10 = 2 ∨ n % 10 = 3 ∨ n % 10 = 4 ∨ n % 10 = 5 ∨ n % 10 = 6 ∨ n % 10 = 7 ∨ n % 10 = 8 ∨ n % 10 = 9) with h | h | h | h | h | h | h | h | h | h <;> (rw [h, show (n : Int) % 10 = ((n % 10 : Nat) : Int) from by omega, h]; rfl)
    have hcv : ∀ (V : World) (B : Nat), V.cell? ⟨B, 0, none⟩ = some (.int .u8 (48 + (n : Int) % 10)) → (Go.convert 83 9 (.slice (some ⟨B, 0, none⟩) 1 1)).run Tryd.prog V = .ok (.string ⟨#[UInt8.ofNat (48 + n % 10)]⟩) V := fun V B h => conv1 V B _ (by rw [h, hz])
    have hcall := Lib.hid (fun W => ih.out (n / 10) (by omega) W (by have := hn'.out; omega))
    rw [show ((n / 10 : Nat) : Int) = (n : Int) / 10 from by omega] at hcall
    have hlen := Lib.hid (Lib.decDigits_length (n / 10))
    obtain ⟨D, hD⟩ : ∃ D, mkS (Lib.decDigits (n / 10)) = D := ⟨_, rfl⟩
    have hfin : Hid (mkS (Lib.decDigits n) = D ++ ⟨#[UInt8.ofNat (48 + n % 10)]⟩) := by
      unfold Hid
      rw [Lib.decDigits, dif_neg h1, ← hD]
      apply ByteArray.ext
      rw [ByteArray.data_append]
      simp [mkS]
    have hDs : D.size ≤ 30 := by
      have h2 := Lib.nDigits_le20 (n / 10) (by have := hn'.out; omega)
      rw [Lib.size_eq, ← hD]
      show (Lib.decDigits (n / 10)).length ≤ 30
      rw [hlen.out]; omega
    rw [hD] at hcall
    have w2 : (n : Int).tmod 10 = (n : Int) % 10 := Int.tmod_eq_emod_of_nonneg (by omega)
    have w1 : IntKind.i64.wrap ((n : Int) / 10) = (n : Int) / 10 := IntWalk.i64_in _ (by have := hn'.out; omega)
    have w3 : IntKind.i64.wrap (48 + (n : Int) % 10) = 48 + (n : Int) % 10 := IntWalk.i64_in _ (by omega)
    have w4 : IntKind.u8.wrap (48 + (n : Int) % 10) = 48 + (n : Int) % 10 := by simp only [IntKind.wrap, IntKind.bits, IntKind.signed]; simp; omega
    have hc1 : ∀ (V : World), (Go.convert 83 9 (.slice (some ⟨V.heap.size, 0, none⟩) 1 1)).run Tryd.prog (V.alloc (.cells #[.int .u8 (48 + (n : Int) % 10)] 5)) = .ok (.string ⟨#[UInt8.ofNat (48 + n % 10)]⟩) (V.alloc (.cells #[.int .u8 (48 + (n : Int) % 10)] 5)) := fun V => hcv _ _ (by rw [World.cell?_alloc_at _ _ _ _ rfl]; rfl)
    have hc3 := hcv (w.alloc (.cells #[.int .u8 (48 + (n : Int) % 10)] 5)).drew w.heap.size (show (w.alloc (.cells #[.int .u8 (48 + (n : Int) % 10)] 5)).cell? ⟨w.heap.size, 0, none⟩ = some (.int .u8 (48 + (n : Int) % 10)) from by rw [World.cell?_alloc_at _ _ _ _ rfl]; rfl)
    have hcv' := Lib.hid hcv
    clear hz hm hD hcv
    go_enter Tryd.func58, Tryd.ntmps58
    go_wp2_with fail
    go_region_with (go_at_call 58; (with_reducible refine (hcall.out _).mono ?_); rintro e w1 ⟨rfl, hB1⟩; try have hc2 := hcv'.out w1 w.heap.size (Keeps.of_below hB1 ⟨w.heap.size, 0, none⟩ (.int .u8 (48 + (n : Int) % 10)) (show (w.alloc (.cells #[.int .u8 (48 + (n : Int) % 10)] 5)).cell? ⟨w.heap.size, 0, none⟩ = some (.int .u8 (48 + (n : Int) % 10)) from by rw [World.cell?_alloc_at _ _ _ _ rfl]; rfl)))
    all_goals
      have hf := hfin.out
      rw [UInt8.ofNat_add] at hf
      have hf' := Lib.hid hf.symm
      clear hf
      go_wp2_with fail
      go_ret
      refine ⟨ret_str hf'.out, ?_⟩
      first
        | exact (((Below.refl w.heap.size w).drew).trans hB1).alloc (by have := hB1.size; simpa using this) _
        | exact ((((Below.refl w.heap.size w).alloc (Nat.le_refl _) _).drew).trans (hB1.mono (by simp)))

def parT (b : Bool) (l : List UInt8) : List UInt8 := if b = true then l else 40 :: (l ++ [41])
/-- Operands, each with a byte 32 ahead. -/
def tyRest (ts : List (List UInt8)) : List UInt8 := ts.flatMap fun a => 32 :: a
def tyBody (s : Str) (n : Int) (ts : List (List UInt8)) : List UInt8 :=
  if holeS s = true then (if n < 26 then [UInt8.ofNat (97 + n.toNat)] else 116 :: Lib.itoa n)
  else if (s.toList == [45, 62]) = true ∧ ts.length = 2 then ts.getD 0 [] ++ ([32, 45, 62, 32] ++ ts.getD 1 []) else bs s ++ tyRest ts
/-- A type's text. -/
def textT : Ty → List UInt8
  | .mk s n l => tyBody s n (atomsT l)
where atomsT : List Ty → List (List UInt8)
  | [] => []
  | e :: r => parT (e.args.length == 0) (textT e) :: atomsT r
def atomT (e : Ty) : List UInt8 := parT (e.args.length == 0) (textT e)
theorem atomsT_map (l : List Ty) : textT.atomsT l = l.map atomT := by
  induction l with
  | nil => rfl
  | cons e r ih => simp only [textT.atomsT, List.map_cons, ih]; rfl
theorem atomT_len (e : Ty) : (atomT e).length ≤ (textT e).length + 2 := by
  unfold atomT parT; split <;> simp
theorem tyRest_succ (l : List Ty) (k : Nat) (h : k < l.length) : tyRest ((l.take (k + 1)).map atomT) = tyRest ((l.take k).map atomT) ++ (32 :: atomT l[k]) := by
  rw [List.take_succ_eq_append_getElem h]; simp only [tyRest, List.map_append, List.map_cons, List.map_nil, List.flatMap_append, List.flatMap_cons, List.flatMap_nil, List.append_nil]
theorem tyRest_le (l : List Ty) (h : ∀ e ∈ l, (textT e).length + 8 ≤ 40 * tcnt e) : (tyRest (l.map atomT)).length ≤ 40 * tcnt.cntL l := by
  induction l with
  | nil => simp [tyRest, tcnt.cntL]
  | cons e r ih =>
    have h1 := h e (by simp)
    have h2 := atomT_len e
    have h3 := ih fun x hx => h x (by simp [hx])
    simp only [tyRest, List.map_cons, List.flatMap_cons, List.length_append, List.length_cons, tcnt.cntL] at h3 ⊢
    omega
theorem itoa_len {n : Int} (h0 : 0 ≤ n) (h9 : n ≤ 9223372036854775807) : (Lib.itoa n).length ≤ 20 := by
  obtain ⟨u, rfl⟩ := Int.eq_ofNat_of_zero_le h0
  rw [Lib.itoa, if_neg (by omega)]
  have h2 := Lib.nDigits_le20 u (by omega)
  have h3 := Lib.decDigits_length u
  simp only [Int.toNat_natCast, Int.ofNat_eq_natCast] at *
  omega
/-- The text of a type that may be is short. -/
theorem textT_len : ∀ (e : Ty) (d : Int) {X : Nat → Prop} {w : World} {v : Value}, TyX X w v e → sndT e d = true → (textT e).length + 8 ≤ 40 * tcnt e := by
  refine Ty.ind fun s n l ih d X w v hv h => ?_
  obtain ⟨a, c, _, _, hn, _, _, hr⟩ := hv.open
  simp only [sndT, sndT_all, Bool.and_eq_true, List.all_eq_true] at h
  obtain ⟨⟨_, hh⟩, ha⟩ := h
  have hargs : ∀ e ∈ l, (textT e).length + 8 ≤ 40 * tcnt e := by
    intro e he
    obtain ⟨j, hj, rfl⟩ := List.getElem_of_mem he
    obtain ⟨b, off, _, hat⟩ := hr.arg (by rintro rfl; simp at hj)
    obtain ⟨_, _, _, _, _, ge⟩ := hat j hj
    exact ih _ he _ ge (ha _ he)
  have hrest := tyRest_le l hargs
  unfold headT at hh
  simp only [Bool.and_eq_true, decide_eq_true_eq] at hh
  rw [textT, atomsT_map, tyBody]
  simp only [tcnt]
  cases hs : holeS s
  · rw [if_neg (by simp)]
    split
    · rename_i h2
      obtain ⟨x, y, rfl⟩ : ∃ x y, l = [x, y] := by
        have h3 := h2.2
        rw [List.length_map] at h3
        match l, h3 with
        | [x, y], _ => exact ⟨x, y, rfl⟩
      have h4 := hargs x (by simp)
      have h5 := hargs y (by simp)
      have h6 := atomT_len x
      have h7 := atomT_len y
      simp only [List.map_cons, List.map_nil, List.getD_cons_zero, List.getD_cons_succ, List.length_append, List.length_cons, List.length_nil, tcnt.cntL]
      omega
    · rw [List.length_append, bs_len]; omega
  · rw [if_pos rfl]
    have h0 : s.size = 0 := by rw [holeS_size] at hs; simpa using hs
    rw [if_pos h0] at hh
    simp only [Bool.and_eq_true, decide_eq_true_eq] at hh
    split
    · simp; omega
    · have := itoa_len hh.2.1 hn.2
      simp only [List.length_cons]; omega
end Go.Proofs.YticjpeefhppjoaaDoor
