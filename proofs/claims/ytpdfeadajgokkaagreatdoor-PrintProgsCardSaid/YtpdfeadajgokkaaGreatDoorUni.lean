/- One text, one tree. -/
import Derived.Test.YtpdfeadajgokkaaGreatDoorLong
import Derived.Test.YtpdfeadajgokkaaGreatDoorPprog
import Derived.Test.YtpdfeadajgokkaaGreatDoorTypes
import Derived.Test.YtpdfeadajgokkaaGreatDoorProg
import Derived.Test.YtpdfeadajgokkaaGreatDoorSigB
import Derived.Test.YtpdfeadajgokkaaGreatDoorTprog
import Derived.Test.YtpdfeadajgokkaaGreatDoorShort
namespace Go.Proofs.YtpdfeadajgokkaaGreatDoor

/-- No byte of a word comes next. -/
def Bnd (r : List UInt8) : Prop := ∀ x t, r = x :: t → prtB x = false
theorem Bnd.nil : Bnd [] := fun x t h => by cases h
theorem Bnd.cons {x : UInt8} {t : List UInt8} (h : prtB x = false) : Bnd (x :: t) := fun y s e => by cases e; exact h
theorem span_eq : ∀ {a b r1 r2 : List UInt8}, (∀ x ∈ a, prtB x = true) → (∀ x ∈ b, prtB x = true) → Bnd r1 → Bnd r2 → a ++ r1 = b ++ r2 → a = b ∧ r1 = r2
  | [], [], _, _, _, _, _, _, h => ⟨rfl, h⟩
  | [], y :: b, r1, r2, _, hb, h1, _, h => by
    have := h1 y (b ++ r2) h
    rw [hb y (by simp)] at this; cases this
  | x :: a, [], r1, r2, ha, _, _, h2, h => by
    have := h2 x (a ++ r1) h.symm
    rw [ha x (by simp)] at this; cases this
  | x :: a, y :: b, r1, r2, ha, hb, h1, h2, h => by
    simp only [List.cons_append, List.cons.injEq] at h
    obtain ⟨rfl, h⟩ := h
    have h3 := span_eq (fun z hz => ha z (by simp [hz])) (fun z hz => hb z (by simp [hz])) h1 h2 h
    exact ⟨by rw [h3.1], h3.2⟩
/-- The first word. -/
def fw (l : List UInt8) : List UInt8 := l.takeWhile prtB
theorem fw_app {a r : List UInt8} (ha : ∀ x ∈ a, prtB x = true) (hr : Bnd r) : fw (a ++ r) = a := by
  induction a with
  | nil =>
    cases r with
    | nil => rfl
    | cons x t => simp [fw, hr x t rfl]
  | cons x a ih =>
    have := ih fun y hy => ha y (by simp [hy])
    simp only [fw, List.cons_append, List.takeWhile_cons, ha x (by simp), if_true] at this ⊢
    rw [this]

def kwL : List (List UInt8) := [[99, 97, 115, 101], [111, 102], [108, 101, 116], [105, 110], [100, 111], [100, 111, 115], [105, 102], [116, 104, 101, 110], [101, 108, 115, 101], [100, 97, 116, 97]]
/-- A word that is none of the key words. -/
structure Wd (a : List UInt8) : Prop where
  all : ∀ x ∈ a, prtB x = true
  ne : a ≠ []
  kw : a ∉ kwL
theorem wd_name {s : Str} (h : nameB s = true) : Wd (bs s) := by
  have hf := nameB_fit h
  refine ⟨?_, (fun e => by have := name_pos hf; rw [e] at this; simp at this), ?_⟩
  · simp only [fitB, Bool.and_eq_true, Lib.toList_data, List.all_eq_true] at hf
    exact hf.2
  · simp only [nameB, Bool.and_eq_true, Bool.not_eq_true', wordB, Lib.toList_data] at h
    have := h.2
    intro hm
    have h2 : kwL.contains (bs s) = true := List.contains_iff_mem.2 hm
    rw [show kwL.contains (bs s) = false from this] at h2; cases h2
theorem head_small {s : Str} (h : nameB s = true) : ∃ x t, bs s = x :: t ∧ smlB x = true := by
  simp only [nameB, Bool.and_eq_true, Lib.toList_data] at h
  have := h.1.2
  show ∃ x t, s.data.toList = x :: t ∧ _
  cases hd : s.data.toList with
  | nil => rw [hd] at this; simp at this
  | cons x t => rw [hd] at this; exact ⟨x, t, rfl, by simpa using this⟩
theorem head_great {s : Str} (h : conB s = true) : ∃ x t, bs s = x :: t ∧ grtB x = true := by
  simp only [conB, Bool.and_eq_true, Lib.toList_data] at h
  have := h.2
  show ∃ x t, s.data.toList = x :: t ∧ _
  cases hd : s.data.toList with
  | nil => rw [hd] at this; simp at this
  | cons x t => rw [hd] at this; exact ⟨x, t, rfl, by simpa using this⟩
theorem kw_small : ∀ a ∈ kwL, ∃ x t, a = x :: t ∧ smlB x = true := by
  intro a h
  simp only [kwL, List.mem_cons, List.not_mem_nil, or_false] at h
  rcases h with rfl | rfl | rfl | rfl | rfl | rfl | rfl | rfl | rfl | rfl <;> exact ⟨_, _, rfl, by decide⟩
theorem sml_grt {x : UInt8} (h : smlB x = true) (h' : grtB x = true) : False := by
  simp only [smlB, grtB, decide_eq_true_eq] at h h'; omega
theorem sml_dig {x : UInt8} (h : smlB x = true) (h' : digB x = true) : False := by
  simp only [smlB, digB, decide_eq_true_eq] at h h'; omega
theorem grt_dig {x : UInt8} (h : grtB x = true) (h' : digB x = true) : False := by
  simp only [grtB, digB, decide_eq_true_eq] at h h'; omega
theorem wd_con {s : Str} (h : conB s = true) : Wd (bs s) := by
  have hf := conB_fit h
  obtain ⟨x, t, hx, hg⟩ := head_great h
  refine ⟨?_, (fun e => by rw [hx] at e; cases e), fun hm => ?_⟩
  · simp only [fitB, Bool.and_eq_true, Lib.toList_data, List.all_eq_true] at hf
    exact hf.2
  · obtain ⟨y, u, e, hs⟩ := kw_small _ hm
    rw [hx] at e
    simp only [List.cons.injEq] at e
    exact sml_grt hs (e.1 ▸ hg)
theorem dig_all (u : Nat) : ∀ x ∈ Lib.decDigits u, digB x = true := by
  induction u using Nat.strongRecOn with
  | ind u ih =>
    rw [Lib.decDigits]
    have hd : ∀ m : Nat, m < 10 → digB (UInt8.ofNat (48 + m)) = true := by
      intro m hm
      rcases (by omega : m = 0 ∨ m = 1 ∨ m = 2 ∨ m = 3 ∨ m = 4 ∨ m = 5 ∨ m = 6 ∨ m = 7 ∨ m = 8 ∨ m = 9) with rfl | rfl | rfl | rfl | rfl | rfl | rfl | rfl | rfl | rfl <;> decide
    split
    · intro x hx; simp only [List.mem_singleton] at hx; subst hx; exact hd u (by omega)
    · intro x hx
      rcases List.mem_append.1 hx with h | h
      · exact ih (u / 10) (by omega) x h
      · simp only [List.mem_singleton] at h; subst h; exact hd _ (by omega)
theorem dig_ne (u : Nat) : Lib.decDigits u ≠ [] := by
  rw [Lib.decDigits]; split <;> simp
theorem dig_prt {x : UInt8} (h : digB x = true) : prtB x = true := by simp [prtB, h]
theorem wd_dig (u : Nat) : Wd (Lib.decDigits u) := by
  refine ⟨fun x hx => dig_prt (dig_all u x hx), dig_ne u, fun hm => ?_⟩
  obtain ⟨y, t, e, hs⟩ := kw_small _ hm
  exact sml_dig hs (dig_all u y (by rw [e]; simp))
def dv (l : List UInt8) : Nat := l.foldl (fun a c => 10 * a + (c.toNat - 48)) 0
theorem dv_dec (u : Nat) : dv (Lib.decDigits u) = u := by
  induction u using Nat.strongRecOn with
  | ind u ih =>
    rw [Lib.decDigits]
    have hd : ∀ m : Nat, m < 10 → (UInt8.ofNat (48 + m)).toNat - 48 = m := by
      intro m hm
      rcases (by omega : m = 0 ∨ m = 1 ∨ m = 2 ∨ m = 3 ∨ m = 4 ∨ m = 5 ∨ m = 6 ∨ m = 7 ∨ m = 8 ∨ m = 9) with rfl | rfl | rfl | rfl | rfl | rfl | rfl | rfl | rfl | rfl <;> decide
    split
    · rename_i h
      show 10 * 0 + ((UInt8.ofNat (48 + u)).toNat - 48) = u
      rw [hd u h]; omega
    · have := ih (u / 10) (by omega)
      unfold dv at this ⊢
      rw [List.foldl_append, this]
      simp only [List.foldl_cons, List.foldl_nil, hd _ (Nat.mod_lt u (by omega : 10 > 0))]
      omega
theorem itoa_inj {a b : Int} (ha : 0 ≤ a) (hb : 0 ≤ b) (h : Lib.itoa a = Lib.itoa b) : a = b := by
  rw [Lib.itoa, Lib.itoa, if_neg (by omega), if_neg (by omega)] at h
  have := congrArg dv h
  rw [dv_dec, dv_dec] at this
  omega

/-- What may come behind a tree's text. -/
inductive Fol : List UInt8 → Prop
  | nil : Fol []
  | par (r : List UInt8) : Fol (41 :: r)
  | semi (r : List UInt8) : Fol (32 :: 59 :: r)
  | brace (r : List UInt8) : Fol (32 :: 125 :: r)
  | kin (r : List UInt8) : Fol (32 :: 105 :: 110 :: 32 :: r)
  | kof (r : List UInt8) : Fol (32 :: 111 :: 102 :: 32 :: r)
  | kthen (r : List UInt8) : Fol (32 :: 116 :: 104 :: 101 :: 110 :: 32 :: r)
  | kelse (r : List UInt8) : Fol (32 :: 101 :: 108 :: 115 :: 101 :: 32 :: r)
theorem Fol.bnd {r : List UInt8} (h : Fol r) : Bnd r := by
  cases h <;> first | exact .nil | exact .cons (by decide)

/-- Which kind of text begins here, by its first word. -/
def clsT (l : List UInt8) : Nat :=
  if l.head? = some 92 then 4
  else if fw l = [108, 101, 116] then 6
  else if fw l = [99, 97, 115, 101] then 7
  else if fw l = [105, 102] then 10
  else if fw l = [100, 111] then 11
  else if fw l = [100, 111, 115] then 12
  else 0
/-- What comes behind the first piece. -/
def clsR (l : List UInt8) : Nat :=
  match l with
  | 32 :: c :: t =>
    if c = 59 ∨ c = 125 then 0
    else if c = 60 ∧ t.head? = some 45 then 3
    else if c = 45 ∧ t.head? = some 62 then 4
    else if c = 43 ∨ c = 45 ∨ c = 42 ∨ c = 47 ∨ c = 61 ∨ c = 60 then 2
    else if c = 40 then 1
    else if fw (c :: t) ∈ kwL then 0 else 1
  | _ => 0
theorem clsR_fol {r : List UInt8} (h : Fol r) : clsR r = 0 := by
  cases h with
  | nil => rfl
  | par => rfl
  | semi => rfl
  | brace => rfl
  | kin r => have : fw (105 :: 110 :: 32 :: r) = [105, 110] := fw_app (a := [105, 110]) (by decide) (.cons (by decide)); simp [clsR, this, kwL]
  | kof r => have : fw (111 :: 102 :: 32 :: r) = [111, 102] := fw_app (a := [111, 102]) (by decide) (.cons (by decide)); simp [clsR, this, kwL]
  | kthen r => have : fw (116 :: 104 :: 101 :: 110 :: 32 :: r) = [116, 104, 101, 110] := fw_app (a := [116, 104, 101, 110]) (by decide) (.cons (by decide)); simp [clsR, this, kwL]
  | kelse r => have : fw (101 :: 108 :: 115 :: 101 :: 32 :: r) = [101, 108, 115, 101] := fw_app (a := [101, 108, 115, 101]) (by decide) (.cons (by decide)); simp [clsR, this, kwL]

/-- The first piece of a text, or an operand: a word, or a tree in brackets. -/
inductive Pc
  | word (a : List UInt8)
  | tree (e : Ex)
def Pc.out : Pc → List UInt8
  | .word a => a
  | .tree e => 40 :: (textE e ++ [41])
def Pc.ok : Pc → Prop
  | .word a => Wd a
  | .tree e => Snd e ∧ inner e
/-- An operand's piece. -/
def pcOf (e : Ex) : Pc :=
  match e with
  | .mk k s n _ _ => if k = 1 then .word (Lib.itoa n) else if k = 2 ∨ k = 3 then .word (bs s) else .tree e
theorem pc_out {e : Ex} (h : Snd e) : atomE e = (pcOf e).out ∧ (inner e → (pcOf e).ok) := by
  cases h with
  | int h0 =>
    obtain ⟨u, rfl⟩ := Int.eq_ofNat_of_zero_le h0
    refine ⟨by simp [atomE, atomT, Ex.kind, pcOf, Pc.out, tx_int], fun _ => ?_⟩
    simp only [pcOf, if_pos, Pc.ok]
    rw [Lib.itoa, if_neg (by omega)]; exact wd_dig _
  | var h => exact ⟨by simp [atomE, atomT, Ex.kind, pcOf, Pc.out, tx_var], fun _ => by simpa [pcOf, Pc.ok] using wd_name h⟩
  | con h => exact ⟨by simp [atomE, atomT, Ex.kind, pcOf, Pc.out, tx_con], fun _ => by simpa [pcOf, Pc.ok] using wd_con h⟩
  | lam a b c => exact ⟨by simp [atomE, atomT, Ex.kind, pcOf, Pc.out, paren], fun i => by simpa [pcOf, Pc.ok] using ⟨Snd.lam a b c, i⟩⟩
  | app a b c d => exact ⟨by simp [atomE, atomT, Ex.kind, pcOf, Pc.out, paren], fun i => by simpa [pcOf, Pc.ok] using ⟨Snd.app a b c d, i⟩⟩
  | lt a b c d e => exact ⟨by simp [atomE, atomT, Ex.kind, pcOf, Pc.out, paren], fun i => by simpa [pcOf, Pc.ok] using ⟨Snd.lt a b c d e, i⟩⟩
  | cs a b c d e => exact ⟨by simp [atomE, atomT, Ex.kind, pcOf, Pc.out, paren], fun i => by simpa [pcOf, Pc.ok] using ⟨Snd.cs a b c d e, i⟩⟩
  | alt a b c d => exact ⟨by simp [atomE, atomT, Ex.kind, pcOf, Pc.out, paren], fun i => by simpa [pcOf, Pc.ok] using ⟨Snd.alt a b c d, i⟩⟩
  | op a b c d e => exact ⟨by simp [atomE, atomT, Ex.kind, pcOf, Pc.out, paren], fun i => by simpa [pcOf, Pc.ok] using ⟨Snd.op a b c d e, i⟩⟩
  | iff a b c d e f => exact ⟨by simp [atomE, atomT, Ex.kind, pcOf, Pc.out, paren], fun i => by simpa [pcOf, Pc.ok] using ⟨Snd.iff a b c d e f, i⟩⟩
  | blk a b c d e => rcases a with rfl | rfl
                     · exact ⟨by simp [atomE, atomT, Ex.kind, pcOf, Pc.out, paren], fun i => by simpa [pcOf, Pc.ok] using ⟨Snd.blk (.inl rfl) b c d e, i⟩⟩
                     · exact ⟨by simp [atomE, atomT, Ex.kind, pcOf, Pc.out, paren], fun i => by simpa [pcOf, Pc.ok] using ⟨Snd.blk (.inr rfl) b c d e, i⟩⟩
  | bind a b c => exact ⟨by simp [atomE, atomT, Ex.kind, pcOf, Pc.out, paren], fun i => by simpa [pcOf, Pc.ok] using ⟨Snd.bind a b c, i⟩⟩
end Go.Proofs.YtpdfeadajgokkaaGreatDoor

namespace Go.Proofs.YtpdfeadajgokkaaGreatDoor

theorem str_ext' {a b : Str} (h : bs a = bs b) : a = b := by
  obtain ⟨⟨a⟩⟩ := a; obtain ⟨⟨b⟩⟩ := b
  simp [bs] at h; rw [h]

/-- What is to be shown of a tree. -/
def One (e : Ex) : Prop := Snd e → ∀ f r1 r2, Snd f → (e.kind = 8 ↔ f.kind = 8) → Fol r1 → Fol r2 → textE e ++ r1 = textE f ++ r2 → e = f ∧ r1 = r2

theorem pc_eq {P Q : Pc} {T1 T2 : List UInt8} (hP : P.ok) (hQ : Q.ok) (hi : ∀ e, P = .tree e → One e) (h1 : Bnd T1) (h2 : Bnd T2) (h : P.out ++ T1 = Q.out ++ T2) : P = Q ∧ T1 = T2 := by
  have word_tree : ∀ (a : List UInt8) (e : Ex) (U V : List UInt8), Wd a → a ++ U = 40 :: V → False := by
    intro a e U V ha hh
    cases a with
    | nil => exact ha.ne rfl
    | cons x t =>
      simp only [List.cons_append, List.cons.injEq] at hh
      have := ha.all x (by simp)
      rw [hh.1] at this; revert this; decide
  cases P with
  | word a =>
    cases Q with
    | word b =>
      obtain ⟨rfl, rfl⟩ := span_eq hP.all hQ.all h1 h2 h
      exact ⟨rfl, rfl⟩
    | tree f => exact (word_tree a f T1 (textE f ++ [41] ++ T2) hP (by simpa [Pc.out] using h)).elim
  | tree e =>
    cases Q with
    | word b => exact (word_tree b e T2 (textE e ++ [41] ++ T1) hQ (by simpa [Pc.out] using h.symm)).elim
    | tree f =>
      have h' : textE e ++ (41 :: T1) = textE f ++ (41 :: T2) := by simpa [Pc.out] using h
      obtain ⟨rfl, h3⟩ := hi e rfl hP.1 f _ _ hQ.1 ⟨fun h => (hP.2.1 h).elim, fun h => (hQ.2.1 h).elim⟩ (.par _) (.par _) h'
      simp only [List.cons.injEq, true_and] at h3
      exact ⟨rfl, h3⟩
theorem pc_inj {a b : Ex} (ha : Snd a) (hb : Snd b) (h : pcOf a = pcOf b) : a = b := by
  have leaf : ∀ {e : Ex} {w : List UInt8}, Snd e → pcOf e = .word w → (∃ n, 0 ≤ n ∧ e = .mk 1 ⟨#[]⟩ n [] [] ∧ w = Lib.itoa n) ∨ (∃ s, nameB s = true ∧ e = .mk 2 s 0 [] [] ∧ w = bs s) ∨ (∃ s, conB s = true ∧ e = .mk 3 s 0 [] [] ∧ w = bs s) := by
    intro e w he hw
    cases he with
    | @int n h0 => simp only [pcOf, if_pos, Pc.word.injEq] at hw; exact .inl ⟨n, h0, rfl, hw.symm⟩
    | @var s h => simp [pcOf] at hw; exact .inr (.inl ⟨s, h, rfl, hw.symm⟩)
    | @con s h => simp [pcOf] at hw; exact .inr (.inr ⟨s, h, rfl, hw.symm⟩)
    | blk h => rcases h with rfl | rfl <;> simp [pcOf] at hw
    | _ => simp [pcOf] at hw
  have tree : ∀ {e f : Ex}, Snd e → pcOf e = .tree f → e = f := by
    intro e f he hw
    cases he with
    | int h0 => simp [pcOf] at hw
    | var h => simp [pcOf] at hw
    | con h => simp [pcOf] at hw
    | blk h => rcases h with rfl | rfl <;> (simp [pcOf] at hw; exact hw)
    | _ => simp [pcOf] at hw; exact hw
  cases hx : pcOf a with
  | tree f => rw [tree ha hx, tree hb (h ▸ hx)]
  | word w =>
    have hi : ∀ n : Int, 0 ≤ n → ∃ x t, Lib.itoa n = x :: t ∧ digB x = true := by
      intro n h0
      obtain ⟨u, rfl⟩ := Int.eq_ofNat_of_zero_le h0
      rw [Lib.itoa, if_neg (by omega)]
      cases hd : Lib.decDigits (Int.toNat u) with
      | nil => exact (dig_ne _ hd).elim
      | cons x t => exact ⟨x, t, rfl, dig_all _ x (by rw [hd]; simp)⟩
    rcases leaf ha hx with ⟨n, h0, rfl, e1⟩ | ⟨s, h0, rfl, e1⟩ | ⟨s, h0, rfl, e1⟩ <;> rcases leaf hb (h ▸ hx) with ⟨m, g0, rfl, e2⟩ | ⟨z, g0, rfl, e2⟩ | ⟨z, g0, rfl, e2⟩
    · rw [itoa_inj h0 g0 (e1 ▸ e2)]
    · obtain ⟨x, t, hx1, hx2⟩ := hi n h0
      obtain ⟨y, u, hy1, hy2⟩ := head_small g0
      rw [← e1, e2, hy1] at hx1
      simp only [List.cons.injEq] at hx1
      exact (sml_dig hy2 (hx1.1 ▸ hx2)).elim
    · obtain ⟨x, t, hx1, hx2⟩ := hi n h0
      obtain ⟨y, u, hy1, hy2⟩ := head_great g0
      rw [← e1, e2, hy1] at hx1
      simp only [List.cons.injEq] at hx1
      exact (grt_dig hy2 (hx1.1 ▸ hx2)).elim
    · obtain ⟨x, t, hx1, hx2⟩ := hi m g0
      obtain ⟨y, u, hy1, hy2⟩ := head_small h0
      rw [← e2, e1, hy1] at hx1
      simp only [List.cons.injEq] at hx1
      exact (sml_dig hy2 (hx1.1 ▸ hx2)).elim
    · rw [str_ext' (e1 ▸ e2 : bs s = bs z)]
    · obtain ⟨x, t, hx1, hx2⟩ := head_small h0
      obtain ⟨y, u, hy1, hy2⟩ := head_great g0
      rw [← e1, e2, hy1] at hx1
      simp only [List.cons.injEq] at hx1
      exact (sml_grt hx2 (hx1.1 ▸ hy2)).elim
    · obtain ⟨x, t, hx1, hx2⟩ := hi m g0
      obtain ⟨y, u, hy1, hy2⟩ := head_great h0
      rw [← e2, e1, hy1] at hx1
      simp only [List.cons.injEq] at hx1
      exact (grt_dig hy2 (hx1.1 ▸ hx2)).elim
    · obtain ⟨x, t, hx1, hx2⟩ := head_great h0
      obtain ⟨y, u, hy1, hy2⟩ := head_small g0
      rw [← e1, e2, hy1] at hx1
      simp only [List.cons.injEq] at hx1
      exact (sml_grt hy2 (hx1.1 ▸ hx2)).elim
    · rw [str_ext' (e1 ▸ e2 : bs s = bs z)]

theorem nm_eq : ∀ {l m : List Str} {T1 T2 : List UInt8}, (∀ x ∈ l, nameB x = true) → (∀ x ∈ m, nameB x = true) → nmT l ++ (32 :: 45 :: T1) = nmT m ++ (32 :: 45 :: T2) → l = m ∧ T1 = T2
  | [], [], _, _, _, _, h => by simpa [nmT] using h
  | [], y :: m, T1, T2, _, hm, h => by
    obtain ⟨z, t, hz, hs⟩ := head_small (hm y (by simp))
    simp [nmT, hz] at h
    rw [← h.1] at hs; exact absurd hs (by decide)
  | x :: l, [], T1, T2, hl, _, h => by
    obtain ⟨z, t, hz, hs⟩ := head_small (hl x (by simp))
    simp [nmT, hz] at h
    rw [h.1] at hs; exact absurd hs (by decide)
  | x :: l, y :: m, T1, T2, hl, hm, h => by
    have hb : ∀ (k : List Str) (T : List UInt8), Bnd (nmT k ++ (32 :: 45 :: T)) := by
      intro k T
      cases k with
      | nil => exact .cons (by decide)
      | cons a r => exact .cons (by decide)
    have h' : bs x ++ (nmT l ++ (32 :: 45 :: T1)) = bs y ++ (nmT m ++ (32 :: 45 :: T2)) := by simpa [nmT] using h
    obtain ⟨e1, e2⟩ := span_eq (wd_name (hl x (by simp))).all (wd_name (hm y (by simp))).all (hb _ _) (hb _ _) h'
    obtain ⟨rfl, rfl⟩ := nm_eq (fun z hz => hl z (by simp [hz])) (fun z hz => hm z (by simp [hz])) e2
    exact ⟨by rw [str_ext' e1], rfl⟩

theorem seq_eq : ∀ {l m : List Ex} {T1 T2 : List UInt8}, l ≠ [] → m ≠ [] → (∀ e ∈ l, Snd e ∧ One e) → (∀ e ∈ m, Snd e) → (∀ e ∈ l, ∀ f ∈ m, (e.kind = 8 ↔ f.kind = 8)) → seqT (l.map textE) ++ (32 :: 125 :: T1) = seqT (m.map textE) ++ (32 :: 125 :: T2) → l = m ∧ T1 = T2
  | [], _, _, _, h, _, _, _, _, _ => (h rfl).elim
  | _ :: _, [], _, _, _, h, _, _, _, _ => (h rfl).elim
  | [x], [y], T1, T2, _, _, hl, hm, hk, h => by
    simp only [List.map_cons, List.map_nil, seq_one] at h
    obtain ⟨rfl, h2⟩ := (hl x (by simp)).2 (hl x (by simp)).1 y _ _ (hm y (by simp)) (hk x (by simp) y (by simp)) (.brace _) (.brace _) h
    exact ⟨rfl, by simpa using h2⟩
  | [x], y :: y2 :: m, T1, T2, _, _, hl, hm, hk, h => by
    simp only [List.map_cons, List.map_nil, seq_one, seq_cons, List.append_assoc] at h
    obtain ⟨rfl, h2⟩ := (hl x (by simp)).2 (hl x (by simp)).1 y _ _ (hm y (by simp)) (hk x (by simp) y (by simp)) (.brace _) (.semi _) h
    simp at h2
  | x :: x2 :: l, [y], T1, T2, _, _, hl, hm, hk, h => by
    simp only [List.map_cons, List.map_nil, seq_one, seq_cons, List.append_assoc] at h
    obtain ⟨rfl, h2⟩ := (hl x (by simp)).2 (hl x (by simp)).1 y _ _ (hm y (by simp)) (hk x (by simp) y (by simp)) (.semi _) (.brace _) h
    simp at h2
  | x :: x2 :: l, y :: y2 :: m, T1, T2, _, _, hl, hm, hk, h => by
    simp only [List.map_cons, seq_cons, List.append_assoc] at h
    obtain ⟨rfl, h2⟩ := (hl x (by simp)).2 (hl x (by simp)).1 y _ _ (hm y (by simp)) (hk x (by simp) y (by simp)) (.semi _) (.semi _) h
    obtain ⟨h3, h4⟩ := seq_eq (l := x2 :: l) (m := y2 :: m) (T1 := T1) (T2 := T2) (by simp) (by simp) (fun e he => hl e (by simp [List.mem_cons.1 he])) (fun e he => hm e (by simp [List.mem_cons.1 he])) (fun e he f hf => hk e (by simp [List.mem_cons.1 he]) f (by simp [List.mem_cons.1 hf])) (by simpa [seqT] using h2)
    exact ⟨by rw [h3], h4⟩

def topK (k : Int) : Nat := if k = 4 then 4 else if k = 6 then 6 else if k = 7 then 7 else if k = 10 then 10 else if k = 11 then 11 else if k = 12 then 12 else 0
/-- A text of a word, or of a tree in brackets, and what comes behind. -/
structure Sh (e : Ex) (r : List UInt8) (P : Pc) (T : List UInt8) : Prop where
  eq : textE e ++ r = P.out ++ T
  ok : P.ok
  bnd : Bnd T
  form : (clsR T = 0 ∧ T = r ∧ P = pcOf e ∧ ∃ w, P = .word w) ∨ (clsR T = 1 ∧ ∃ a b, Snd a ∧ inner a ∧ Snd b ∧ inner b ∧ e = .mk 5 ⟨#[]⟩ 0 [] [a, b] ∧ P = pcOf a ∧ T = 32 :: ((pcOf b).out ++ r)) ∨
    (clsR T = 2 ∧ ∃ o a b, (doesB o || holdsB o) = true ∧ Snd a ∧ inner a ∧ Snd b ∧ inner b ∧ e = .mk 9 o 0 [] [a, b] ∧ P = pcOf a ∧ T = 32 :: (bs o ++ (32 :: ((pcOf b).out ++ r)))) ∨
    (clsR T = 3 ∧ ∃ x a, nameB x = true ∧ Snd a ∧ inner a ∧ e = .mk 13 ⟨#[]⟩ 0 [x] [a] ∧ P = .word (bs x) ∧ T = 32 :: 60 :: 45 :: 32 :: (textE a ++ r))
theorem clsR_pc {P : Pc} (h : P.ok) {T : List UInt8} (hT : Bnd T) : clsR (32 :: (P.out ++ T)) = 1 := by
  cases P with
  | tree e => rfl
  | word a =>
    have hf := fw_app h.all hT
    cases a with
    | nil => exact (h.ne rfl).elim
    | cons x t =>
      have hx := h.all x (by simp)
      have hne : ∀ c : UInt8, prtB c = false → x ≠ c := fun c hc e => by rw [e, hc] at hx; cases hx
      simp only [Pc.out, List.cons_append] at hf ⊢
      simp only [clsR, hne 59 (by decide), hne 125 (by decide), hne 60 (by decide), hne 45 (by decide), hne 43 (by decide), hne 42 (by decide), hne 47 (by decide), hne 61 (by decide), hne 40 (by decide), or_self, false_and, if_false, hf, if_neg h.kw]
theorem clsR_op {o : Str} (h : (doesB o || holdsB o) = true) (T : List UInt8) : clsR (32 :: (bs o ++ (32 :: T))) = 2 := by
  have := op_some h
  simp only [List.mem_cons, List.not_mem_nil, or_false] at this
  rcases this with e | e | e | e | e | e <;> rw [e] <;> rfl
theorem shape0 {e : Ex} (he : Snd e) (h8 : e.kind ≠ 8) (ht : topK e.kind = 0) {r : List UInt8} (hr : Fol r) : ∃ P T, Sh e r P T := by
  cases he with
  | int h0 =>
    have hp := pc_out (Snd.int h0)
    exact ⟨pcOf (.mk 1 ⟨#[]⟩ _ [] []), r, ⟨by rw [← hp.1]; simp [atomE, atomT, Ex.kind], hp.2 (by simp [inner, Ex.kind]), hr.bnd, .inl ⟨clsR_fol hr, rfl, rfl, by simp [pcOf]⟩⟩⟩
  | var h0 =>
    have hp := pc_out (Snd.var h0)
    exact ⟨pcOf (.mk 2 _ 0 [] []), r, ⟨by rw [← hp.1]; simp [atomE, atomT, Ex.kind], hp.2 (by simp [inner, Ex.kind]), hr.bnd, .inl ⟨clsR_fol hr, rfl, rfl, by simp [pcOf]⟩⟩⟩
  | con h0 =>
    have hp := pc_out (Snd.con h0)
    exact ⟨pcOf (.mk 3 _ 0 [] []), r, ⟨by rw [← hp.1]; simp [atomE, atomT, Ex.kind], hp.2 (by simp [inner, Ex.kind]), hr.bnd, .inl ⟨clsR_fol hr, rfl, rfl, by simp [pcOf]⟩⟩⟩
  | @app a b ha ia hb ib =>
    refine ⟨pcOf a, 32 :: ((pcOf b).out ++ r), ⟨?_, (pc_out ha).2 ia, .cons (by decide), .inr (.inl ⟨clsR_pc ((pc_out hb).2 ib) hr.bnd, a, b, ha, ia, hb, ib, rfl, rfl, rfl⟩)⟩⟩
    rw [tx_app, (pc_out ha).1, (pc_out hb).1]; simp
  | @op o a b ho ha ia hb ib =>
    refine ⟨pcOf a, 32 :: (bs o ++ (32 :: ((pcOf b).out ++ r))), ⟨?_, (pc_out ha).2 ia, .cons (by decide), .inr (.inr (.inl ⟨clsR_op ho _, o, a, b, ho, ha, ia, hb, ib, rfl, rfl, rfl⟩))⟩⟩
    rw [tx_op, (pc_out ha).1, (pc_out hb).1]; simp
  | @bind x a hx ha ia =>
    refine ⟨.word (bs x), 32 :: 60 :: 45 :: 32 :: (textE a ++ r), ⟨?_, wd_name hx, .cons (by decide), .inr (.inr (.inr ⟨rfl, x, a, hx, ha, ia, rfl, rfl, rfl⟩))⟩⟩
    rw [tx_bind]; simp [Pc.out]
  | alt => exact (h8 rfl).elim
  | blk h => rcases h with rfl | rfl <;> simp [topK, Ex.kind] at ht
  | _ => simp [topK, Ex.kind] at ht
theorem clsT_text {e : Ex} (he : Snd e) (h8 : e.kind ≠ 8) {r : List UInt8} (hr : Fol r) : clsT (textE e ++ r) = topK e.kind := by
  by_cases ht : topK e.kind = 0
  · obtain ⟨P, T, h⟩ := shape0 he h8 ht hr
    rw [h.eq, ht]
    have hok := h.ok
    cases P with
    | tree a =>
      have : fw (40 :: (textE a ++ [41] ++ T)) = [] := rfl
      simp [clsT, Pc.out, fw, show prtB 40 = false from by decide]
    | word w =>
      have hf : fw (w ++ T) = w := fw_app hok.all h.bnd
      have hk : ∀ c ∈ kwL, w ≠ c := fun c hc e => hok.kw (e ▸ hc)
      have hh : (w ++ T).head? ≠ some 92 := by
        cases w with
        | nil => exact (hok.ne rfl).elim
        | cons x t =>
          intro e
          simp at e
          have := hok.all x (by simp)
          rw [e] at this; revert this; decide
      simp only [clsT, Pc.out, hf, if_neg hh, if_neg (hk [108, 101, 116] (by simp [kwL])), if_neg (hk [99, 97, 115, 101] (by simp [kwL])), if_neg (hk [105, 102] (by simp [kwL])), if_neg (hk [100, 111] (by simp [kwL])), if_neg (hk [100, 111, 115] (by simp [kwL]))]
  · have hw : ∀ (a t : List UInt8), (∀ x ∈ a, prtB x = true) → fw (a ++ (32 :: t)) = a := fun a t ha => fw_app ha (.cons (by decide))
    cases he with
    | lam => rw [tx_lam]; simp [clsT, topK, Ex.kind]
    | @lt x a b =>
      rw [tx_let]
      have := hw [108, 101, 116] (bs x ++ ([32, 61, 32] ++ (textE a ++ ([32, 105, 110, 32] ++ textE b))) ++ r) (by decide)
      simp only [List.cons_append, List.nil_append] at this ⊢
      simp only [clsT, this, topK, Ex.kind]; rfl
    | @cs a l =>
      rw [tx_case]
      have := hw [99, 97, 115, 101] (textE a ++ ([32, 111, 102, 32, 123, 32] ++ (seqT (l.map textE) ++ [32, 125])) ++ r) (by decide)
      simp only [List.cons_append, List.nil_append] at this ⊢
      simp only [clsT, this, topK, Ex.kind]; rfl
    | @iff a b c =>
      rw [tx_if]
      have := hw [105, 102] (textE a ++ ([32, 116, 104, 101, 110, 32] ++ (textE b ++ ([32, 101, 108, 115, 101, 32] ++ textE c))) ++ r) (by decide)
      simp only [List.cons_append, List.nil_append] at this ⊢
      simp only [clsT, this, topK, Ex.kind]; rfl
    | @blk k l z h =>
      rcases h with rfl | rfl
      · rw [tx_do]
        have := hw [100, 111] ([123, 32] ++ (seqT ((l ++ [z]).map textE) ++ [32, 125]) ++ r) (by decide)
        simp only [List.cons_append, List.nil_append] at this ⊢
        simp only [clsT, this, topK, Ex.kind]; rfl
      · rw [tx_dos]
        have := hw [100, 111, 115] ([123, 32] ++ (seqT ((l ++ [z]).map textE) ++ [32, 125]) ++ r) (by decide)
        simp only [List.cons_append, List.nil_append] at this ⊢
        simp only [clsT, this, topK, Ex.kind]; rfl
    | alt => exact (h8 rfl).elim
    | _ => exact (ht (by simp [topK, Ex.kind])).elim
end Go.Proofs.YtpdfeadajgokkaaGreatDoor

namespace Go.Proofs.YtpdfeadajgokkaaGreatDoor

theorem top_of {e f : Ex} {r1 r2 : List UInt8} (he : Snd e) (hf : Snd f) (h8 : e.kind ≠ 8) (g8 : f.kind ≠ 8) (h1 : Fol r1) (h2 : Fol r2) (h : textE e ++ r1 = textE f ++ r2) : topK e.kind = topK f.kind := by
  rw [← clsT_text he h8 h1, ← clsT_text hf g8 h2, h]

theorem uniq0 {e f : Ex} {r1 r2 : List UInt8} (he : Snd e) (hi : ∀ x ∈ e.kids, One x) (hf : Snd f) (h8 : e.kind ≠ 8) (g8 : f.kind ≠ 8) (ht : topK e.kind = 0) (hg : topK f.kind = 0) (h1 : Fol r1) (h2 : Fol r2) (h : textE e ++ r1 = textE f ++ r2) : e = f ∧ r1 = r2 := by
  obtain ⟨P, T, hP⟩ := shape0 he h8 ht h1
  obtain ⟨Q, U, hQ⟩ := shape0 hf g8 hg h2
  have hin : ∀ a b : Ex, (a.kind ≠ 8 ∧ a.kind ≠ 13) → (b.kind ≠ 8 ∧ b.kind ≠ 13) → (a.kind = 8 ↔ b.kind = 8) := fun a b ha hb => ⟨fun h => (ha.1 h).elim, fun h => (hb.1 h).elim⟩
  have htr : ∀ {a b : Ex}, pcOf a = .tree b → a = b := by
    intro a b hab
    obtain ⟨k, s, n, l, ks⟩ := a
    simp only [pcOf] at hab
    split at hab
    · cases hab
    · split at hab
      · cases hab
      · simpa using hab
  have hPt : ∀ x, P = .tree x → One x := by
    intro x hx
    rcases hP.form with ⟨_, _, _, w, hw⟩ | ⟨_, a, b, _, _, _, _, rfl, hp, _⟩ | ⟨_, o, a, b, _, _, _, _, _, rfl, hp, _⟩ | ⟨_, x', a, _, _, _, rfl, hp, _⟩
    · rw [hw] at hx; cases hx
    · rw [hp] at hx; rw [← htr hx]; exact hi a (by simp [Ex.kids])
    · rw [hp] at hx; rw [← htr hx]; exact hi a (by simp [Ex.kids])
    · rw [hp] at hx; cases hx
  have hcls : clsR T = clsR U ∧ P = Q ∧ T = U := by
    have := pc_eq hP.ok hQ.ok hPt hP.bnd hQ.bnd (by rw [← hP.eq, ← hQ.eq, h])
    exact ⟨by rw [this.2], this⟩
  obtain ⟨hc, hPQ, hTU⟩ := hcls
  rcases hP.form with ⟨hc1, hT, hp, w, hw⟩ | ⟨hc1, a, b, ha, ia, hb, ib, rfl, hp, hT⟩ | ⟨hc1, o, a, b, ho, ha, ia, hb, ib, rfl, hp, hT⟩ | ⟨hc1, x, a, hx, ha, ia, rfl, hp, hT⟩ <;>
    rcases hQ.form with ⟨hc2, hU, hq, w', hw'⟩ | ⟨hc2, a', b', ha', ia', hb', ib', rfl, hq, hU⟩ | ⟨hc2, o', a', b', ho', ha', ia', hb', ib', rfl, hq, hU⟩ | ⟨hc2, x', a', hx', ha', ia', rfl, hq, hU⟩ <;>
    (try (rw [hc1, hc2] at hc; cases hc; done))
  · exact ⟨pc_inj he hf (by rw [← hp, ← hq, hPQ]), by rw [← hT, ← hU, hTU]⟩
  · have e1 := pc_inj ha ha' (by rw [← hp, ← hq, hPQ])
    subst e1
    rw [hT, hU] at hTU
    simp only [List.cons.injEq, true_and] at hTU
    obtain ⟨e2, e3⟩ := pc_eq ((pc_out hb).2 ib) ((pc_out hb').2 ib') (fun x hx => by rw [← htr hx]; exact hi b (by simp [Ex.kids])) h1.bnd h2.bnd hTU
    have e4 := pc_inj hb hb' e2
    subst e4
    exact ⟨rfl, e3⟩
  · have e1 := pc_inj ha ha' (by rw [← hp, ← hq, hPQ])
    subst e1
    rw [hT, hU] at hTU
    simp only [List.cons.injEq, true_and] at hTU
    have hsp : ∀ (u v : List UInt8) (A B : List UInt8), u ∈ ([[43], [45], [42], [47], [61, 61], [60]] : List (List UInt8)) → v ∈ ([[43], [45], [42], [47], [61, 61], [60]] : List (List UInt8)) → u ++ (32 :: A) = v ++ (32 :: B) → u = v ∧ A = B := by
      intro u v A B hu hv huv
      simp only [List.mem_cons, List.not_mem_nil, or_false] at hu hv
      rcases hu with rfl | rfl | rfl | rfl | rfl | rfl <;> rcases hv with rfl | rfl | rfl | rfl | rfl | rfl <;> simp at huv <;> first | exact ⟨rfl, huv⟩ | cases huv
    obtain ⟨e5, e6⟩ := hsp _ _ _ _ (op_some ho) (op_some ho') hTU
    have e7 := str_ext' e5
    subst e7
    obtain ⟨e2, e3⟩ := pc_eq ((pc_out hb).2 ib) ((pc_out hb').2 ib') (fun x hx => by rw [← htr hx]; exact hi b (by simp [Ex.kids])) h1.bnd h2.bnd e6
    have e4 := pc_inj hb hb' e2
    subst e4
    exact ⟨rfl, e3⟩
  · rw [hp, hq] at hPQ
    have e1 := str_ext' (Pc.word.inj hPQ)
    subst e1
    rw [hT, hU] at hTU
    simp only [List.cons.injEq, true_and] at hTU
    obtain ⟨rfl, e3⟩ := hi a (by simp [Ex.kids]) ha a' _ _ ha' (hin _ _ ia ia') h1 h2 hTU
    exact ⟨rfl, e3⟩

theorem one_all : ∀ e, One e := by
  refine Ex.ind fun k s n l ks ih => ?_
  intro he f r1 r2 hf hkk h1 h2 h
  have hin : ∀ {a b : Ex}, inner a → inner b → (a.kind = 8 ↔ b.kind = 8) := fun ha hb => ⟨fun h => (ha.1 h).elim, fun h => (hb.1 h).elim⟩
  have hi : ∀ x ∈ (Ex.mk k s n l ks).kids, One x := ih
  generalize hee : Ex.mk k s n l ks = e at *
  have hspan : ∀ {x y : Str} {A B : List UInt8}, nameB x = true → nameB y = true → bs x ++ (32 :: A) = bs y ++ (32 :: B) → x = y ∧ A = B := by
    intro x y A B hx hy hh
    obtain ⟨e1, e2⟩ := span_eq (wd_name hx).all (wd_name hy).all (.cons (by decide)) (.cons (by decide)) hh
    exact ⟨str_ext' e1, by simpa using e2⟩
  by_cases h8 : e.kind = 8
  · have g8 := hkk.1 h8
    cases he with
    | @alt c l a hc hl ha ia =>
      cases hf with
      | @alt c' l' a' hc' hl' ha' ia' =>
        rw [tx_alt, tx_alt] at h
        simp only [List.append_assoc] at h
        have hb : ∀ (k : List Str) (T : List UInt8), Bnd (nmT k ++ (32 :: 45 :: T)) := by
          intro k T
          cases k with
          | nil => exact .cons (by decide)
          | cons a r => exact .cons (by decide)
        obtain ⟨e1, e2⟩ := span_eq (wd_con hc).all (wd_con hc').all (hb _ _) (hb _ _) h
        have e1' := str_ext' e1
        subst e1'
        simp only [namesB, Bool.and_eq_true, List.all_eq_true] at hl hl'
        obtain ⟨rfl, e3⟩ := nm_eq hl.1 hl'.1 e2
        have e5 : textE a ++ r1 = textE a' ++ r2 := by simpa using e3
        obtain ⟨rfl, e4⟩ := hi a (by simp [Ex.kids]) ha a' _ _ ha' (hin ia ia') h1 h2 e5
        exact ⟨rfl, e4⟩
      | blk hk => rcases hk with rfl | rfl <;> simp [Ex.kind] at g8
      | _ => simp [Ex.kind] at g8
    | blk hk => rcases hk with rfl | rfl <;> simp [Ex.kind] at h8
    | _ => simp [Ex.kind] at h8
  have g8 : f.kind ≠ 8 := fun hh => h8 (hkk.2 hh)
  have htop := top_of he hf h8 g8 h1 h2 h
  by_cases ht : topK e.kind = 0
  · exact uniq0 he hi hf h8 g8 ht (htop ▸ ht) h1 h2 h
  cases he with
  | @lam x a hx ha ia =>
    cases hf with
    | @lam y b hy hb ib =>
      rw [tx_lam, tx_lam] at h
      simp only [List.cons_append, List.append_assoc, List.nil_append, List.cons.injEq, true_and] at h
      obtain ⟨rfl, e2⟩ := hspan hx hy h
      simp only [List.cons.injEq, true_and] at e2
      obtain ⟨rfl, e4⟩ := hi a (by simp [Ex.kids]) ha b _ _ hb (hin ia ib) h1 h2 e2
      exact ⟨rfl, e4⟩
    | blk hk => rcases hk with rfl | rfl <;> simp [topK, Ex.kind] at htop
    | _ => simp [topK, Ex.kind] at htop
  | @lt x a c hx ha ia hc ic =>
    cases hf with
    | @lt y b d hy hb ib hd id' =>
      rw [tx_let, tx_let] at h
      simp only [List.cons_append, List.append_assoc, List.nil_append, List.cons.injEq, true_and] at h
      obtain ⟨rfl, e2⟩ := hspan hx hy h
      simp only [List.cons.injEq, true_and] at e2
      obtain ⟨rfl, e4⟩ := hi a (by simp [Ex.kids]) ha b _ _ hb (hin ia ib) (.kin _) (.kin _) e2
      simp only [List.cons.injEq, true_and] at e4
      obtain ⟨rfl, e5⟩ := hi c (by simp [Ex.kids]) hc d _ _ hd (hin ic id') h1 h2 e4
      exact ⟨rfl, e5⟩
    | blk hk => rcases hk with rfl | rfl <;> simp [topK, Ex.kind] at htop
    | _ => simp [topK, Ex.kind] at htop
  | @cs a r ha ia hr hk8 hs =>
    cases hf with
    | @cs b q hb ib hq qk8 qs =>
      rw [tx_case, tx_case] at h
      simp only [List.cons_append, List.append_assoc, List.nil_append, List.cons.injEq, true_and] at h
      obtain ⟨rfl, e2⟩ := hi a (by simp [Ex.kids]) ha b _ _ hb (hin ia ib) (.kof _) (.kof _) h
      simp only [List.cons.injEq, true_and] at e2
      obtain ⟨rfl, e4⟩ := seq_eq hr hq (fun e he => ⟨hs e he, hi e (by simp [Ex.kids, he])⟩) qs (fun e he g hg => ⟨fun _ => qk8 g hg, fun _ => hk8 e he⟩) e2
      exact ⟨rfl, e4⟩
    | blk hk => rcases hk with rfl | rfl <;> simp [topK, Ex.kind] at htop
    | _ => simp [topK, Ex.kind] at htop
  | @iff a b c ha ia hb ib hc ic =>
    cases hf with
    | @iff a' b' c' ha' ia' hb' ib' hc' ic' =>
      rw [tx_if, tx_if] at h
      simp only [List.cons_append, List.append_assoc, List.nil_append, List.cons.injEq, true_and] at h
      obtain ⟨rfl, e2⟩ := hi a (by simp [Ex.kids]) ha a' _ _ ha' (hin ia ia') (.kthen _) (.kthen _) h
      simp only [List.cons.injEq, true_and] at e2
      obtain ⟨rfl, e3⟩ := hi b (by simp [Ex.kids]) hb b' _ _ hb' (hin ib ib') (.kelse _) (.kelse _) e2
      simp only [List.cons.injEq, true_and] at e3
      obtain ⟨rfl, e4⟩ := hi c (by simp [Ex.kids]) hc c' _ _ hc' (hin ic ic') h1 h2 e3
      exact ⟨rfl, e4⟩
    | blk hk => rcases hk with rfl | rfl <;> simp [topK, Ex.kind] at htop
    | _ => simp [topK, Ex.kind] at htop
  | @blk k r z hk hk8 hs hz iz =>
    cases hf with
    | @blk k' q y hk' qk8 qs hy iy =>
      have hkk' : k = k' := by
        rcases hk with rfl | rfl <;> rcases hk' with rfl | rfl <;> simp [topK, Ex.kind] at htop <;> rfl
      subst hkk'
      have hsq : seqT ((r ++ [z]).map textE) ++ (32 :: 125 :: r1) = seqT ((q ++ [y]).map textE) ++ (32 :: 125 :: r2) := by
        rcases hk with rfl | rfl
        · rw [tx_do, tx_do] at h
          simpa using h
        · rw [tx_dos, tx_dos] at h
          simpa using h
      have hall : ∀ {r : List Ex} {z : Ex}, (∀ e ∈ r, e.kind ≠ 8) → inner z → ∀ e ∈ r ++ [z], e.kind ≠ 8 := by
        intro r z h1 h2 e he
        rcases List.mem_append.1 he with h | h
        · exact h1 e h
        · rw [List.mem_singleton] at h; subst h; exact h2.1
      have hsnd : ∀ {r : List Ex} {z : Ex}, (∀ e ∈ r, Snd e) → Snd z → ∀ e ∈ r ++ [z], Snd e := by
        intro r z h1 h2 e he
        rcases List.mem_append.1 he with h | h
        · exact h1 e h
        · rw [List.mem_singleton] at h; subst h; exact h2
      obtain ⟨e3, e4⟩ := seq_eq (by simp) (by simp) (fun e he => ⟨hsnd hs hz e he, hi e (by simpa [Ex.kids] using he)⟩) (hsnd qs hy) (fun e he g hg => ⟨fun hh => (hall hk8 iz e he hh).elim, fun hh => (hall qk8 iy g hg hh).elim⟩) hsq
      exact ⟨by rw [e3], e4⟩
    | _ => rcases hk with rfl | rfl <;> simp [topK, Ex.kind] at htop
  | alt => exact (h8 rfl).elim
  | _ => exact (ht (by simp [topK, Ex.kind])).elim

/-- Trees that may be have one text just if they are one tree. -/
theorem text_inj {a b : Ex} (ha : Snd a) (ia : inner a) (hb : Snd b) (ib : inner b) (h : textE a = textE b) : a = b :=
  (one_all a ha b [] [] hb ⟨fun h => (ia.1 h).elim, fun h => (ib.1 h).elim⟩ .nil .nil (by rw [h])).1
end Go.Proofs.YtpdfeadajgokkaaGreatDoor

namespace Go.Proofs.YtpdfeadajgokkaaGreatDoor

theorem Sg.eta (e : Sg) : e = .mk e.name e.args := by cases e; rfl
def taT (l : List Sg) : List UInt8 := l.flatMap fun e => 32 :: sgAtom e
theorem taT_tail (l : List Sg) : Lib.joinTail [32] (l.map sgAtom) = taT l := by
  simp [Lib.joinTail, taT, List.flatMap, List.map_map, Function.comp_def]
/-- A written type that may be, at some depth. -/
def GoodS (e : Sg) : Prop := ∃ m, sigB e m = true
theorem good_sub {s : Str} {l : List Sg} (h : GoodS (.mk s l)) : headB s l.length = true ∧ ∀ e ∈ l, GoodS e := by
  obtain ⟨m, h⟩ := h
  simp only [sigB, Bool.and_eq_true, sigL_all, List.all_eq_true] at h
  exact ⟨h.1.2, fun e he => ⟨_, h.2 e he⟩⟩
theorem head_cases {s : Str} {n : Nat} (h : headB s n = true) : conB s = true ∨ (nameB s = true ∧ n = 0) ∨ (bs s = [45, 62] ∧ n = 2) := by
  simp only [headB, Bool.or_eq_true, Bool.and_eq_true, beq_iff_eq, Lib.toList_data] at h
  rcases h with (h | h) | h
  · exact .inl h
  · exact .inr (.inl ⟨h.1, by omega⟩)
  · exact .inr (.inr ⟨h.1, by omega⟩)
/-- The three forms of a written type's text as a part. -/
theorem satom_cases {e : Sg} (h : GoodS e) : (e.args = [] ∧ Wd (bs e.name) ∧ sgAtom e = bs e.name) ∨
    (e.args ≠ [] ∧ Wd (bs e.name) ∧ sgAtom e = 40 :: (bs e.name ++ (taT e.args ++ [41]))) ∨
    (∃ a b, e = .mk ⟨#[45, 62]⟩ [a, b] ∧ sgAtom e = 40 :: (sgAtom a ++ (32 :: 45 :: 62 :: 32 :: (sgAtom b ++ [41])))) := by
  obtain ⟨s, l⟩ := e
  have hh := (good_sub h).1
  by_cases hl : l = []
  · subst hl
    refine .inl ⟨rfl, ?_, by simp [sgAtom, Sg.args, Sg.name]⟩
    rcases head_cases hh with h | h | h
    · exact wd_con h
    · exact wd_name h.1
    · exact absurd h.2 (by simp)
  · have hl0 : l.length ≠ 0 := fun h => hl (List.length_eq_zero_iff.1 h)
    have hat : sgAtom (.mk s l) = paren (sgText (.mk s l)) := by unfold sgAtom; rw [if_neg (by simpa [Sg.args] using hl0)]
    rcases head_cases hh with h | h | h
    · refine .inr (.inl ⟨hl, wd_con h, ?_⟩)
      have hn : ¬ (bs s = [45, 62] ∧ l.length = 2) := by
        rintro ⟨h1, -⟩
        obtain ⟨x, t, hx, hg⟩ := head_great h
        rw [h1] at hx
        simp only [List.cons.injEq] at hx
        rw [← hx.1] at hg; exact absurd hg (by decide)
      rw [hat, sgText, sgAtoms_map, sgBody, if_neg hn, Lib.join_cons, taT_tail]
      simp [paren, Sg.name, Sg.args]
    · exact absurd h.2 hl0
    · refine .inr (.inr ?_)
      obtain ⟨a, b, rfl⟩ := len2 h.2
      have hs : s = ⟨#[45, 62]⟩ := str_ext' h.1
      subst hs
      refine ⟨a, b, rfl, ?_⟩
      rw [hat, sgText, sgAtoms_map, sgBody, if_pos h]
      simp [paren, Lib.join_cons, Lib.joinTail]
def OneS (e : Sg) : Prop := GoodS e → ∀ f r1 r2, GoodS f → Bnd r1 → Bnd r2 → sgAtom e ++ r1 = sgAtom f ++ r2 → e = f ∧ r1 = r2
theorem Wd.ne40 {a : List UInt8} (h : Wd a) (U V : List UInt8) : a ++ U ≠ 40 :: V := by
  intro hh
  cases a with
  | nil => exact h.ne rfl
  | cons x t =>
    simp only [List.cons_append, List.cons.injEq] at hh
    have := h.all x (by simp)
    rw [hh.1] at this; revert this; decide
/-- A word against a part. -/
theorem word_atom {a : List UInt8} (ha : Wd a) {f : Sg} (hf : GoodS f) {r1 r2 : List UInt8} (h1 : Bnd r1) (h2 : Bnd r2) (h : a ++ r1 = sgAtom f ++ r2) : f.args = [] ∧ a = bs f.name ∧ r1 = r2 := by
  rcases satom_cases hf with ⟨e1, e2, e3⟩ | ⟨e1, e2, e3⟩ | ⟨x, y, e1, e3⟩
  · rw [e3] at h
    obtain ⟨h3, h4⟩ := span_eq ha.all e2.all h1 h2 h
    exact ⟨e1, h3, h4⟩
  · rw [e3] at h; exact (ha.ne40 _ _ h).elim
  · rw [e3] at h; exact (ha.ne40 _ _ h).elim
/-- How a part begins. -/
theorem atom_head {e : Sg} (h : GoodS e) : ∃ x t, sgAtom e = x :: t ∧ (x = 40 ∨ prtB x = true) ∧ x ≠ 45 := by
  have hp : ∀ {a : List UInt8}, Wd a → ∃ x t, a = x :: t ∧ prtB x = true ∧ x ≠ 45 := by
    intro a ha
    cases a with
    | nil => exact (ha.ne rfl).elim
    | cons x t => exact ⟨x, t, rfl, ha.all x (by simp), by rintro rfl; exact absurd (ha.all 45 (by simp)) (by decide)⟩
  rcases satom_cases h with ⟨e1, e2, e3⟩ | ⟨e1, e2, e3⟩ | ⟨x, y, e1, e3⟩
  · obtain ⟨x, t, h1, h2, h3⟩ := hp e2
    exact ⟨x, t, by rw [e3, h1], .inr h2, h3⟩
  · exact ⟨_, _, e3, .inl rfl, by decide⟩
  · exact ⟨_, _, e3, .inl rfl, by decide⟩
/-- What may come behind a list of parts. -/
inductive FolS : List UInt8 → Prop
  | nil : FolS []
  | par (r : List UInt8) : FolS (41 :: r)
  | bar (r : List UInt8) : FolS (32 :: 124 :: r)
  | semi (r : List UInt8) : FolS (32 :: 59 :: r)
  | brace (r : List UInt8) : FolS (32 :: 125 :: r)
theorem FolS.bnd {r : List UInt8} (h : FolS r) : Bnd r := by
  cases h <;> first | exact .nil | exact .cons (by decide)
theorem ta_bnd (l : List Sg) {r : List UInt8} (h : FolS r) : Bnd (taT l ++ r) := by
  cases l with
  | nil => exact h.bnd
  | cons a t => exact .cons (by decide)
theorem fol_atom {e : Sg} (h : GoodS e) {r T : List UInt8} (hr : FolS r) (hh : r = 32 :: (sgAtom e ++ T)) : False := by
  obtain ⟨x, t, hx, h1, h2⟩ := atom_head h
  rw [hx] at hh
  cases hr with
  | nil => cases hh
  | par => simp at hh
  | _ =>
    simp only [List.cons_append, List.cons.injEq, true_and] at hh
    rcases h1 with h1 | h1
    · rw [h1] at hh; exact absurd hh.1 (by decide)
    · rw [← hh.1] at h1; exact absurd h1 (by decide)
theorem ta_eq : ∀ {l m : List Sg} {r1 r2 : List UInt8}, (∀ e ∈ l, GoodS e ∧ OneS e) → (∀ e ∈ m, GoodS e) → FolS r1 → FolS r2 → taT l ++ r1 = taT m ++ r2 → l = m ∧ r1 = r2
  | [], [], _, _, _, _, _, _, h => by simpa [taT] using h
  | [], y :: m, r1, r2, _, hm, h1, _, h => by
    refine (fol_atom (hm y (by simp)) (T := taT m ++ r2) h1 ?_).elim
    simpa [taT] using h
  | x :: l, [], r1, r2, hl, _, _, h2, h => by
    refine (fol_atom (hl x (by simp)).1 (T := taT l ++ r1) h2 ?_).elim
    simpa [taT] using h.symm
  | x :: l, y :: m, r1, r2, hl, hm, h1, h2, h => by
    have h' : sgAtom x ++ (taT l ++ r1) = sgAtom y ++ (taT m ++ r2) := by simpa [taT] using h
    obtain ⟨rfl, h3⟩ := (hl x (by simp)).2 (hl x (by simp)).1 y _ _ (hm y (by simp)) (ta_bnd l h1) (ta_bnd m h2) h'
    obtain ⟨rfl, rfl⟩ := ta_eq (fun e he => hl e (by simp [he])) (fun e he => hm e (by simp [he])) h1 h2 h3
    exact ⟨rfl, rfl⟩
theorem ta_arrow {e : Sg} {l : List Sg} (hl : l ≠ []) (hg : ∀ e ∈ l, GoodS e) {r T : List UInt8} (h : taT l ++ r = 32 :: 45 :: T) : False := by
  cases l with
  | nil => exact hl rfl
  | cons y m =>
    obtain ⟨x, t, hx, h1, h2⟩ := atom_head (hg y (by simp))
    simp only [taT, List.flatMap_cons, hx, List.cons_append, List.cons.injEq, true_and] at h
    exact h2 h.1
theorem oneS_all : ∀ e, OneS e := by
  refine Sg.ind fun s l ih => ?_
  intro he f r1 r2 hf h1 h2 h
  have hgl := (good_sub he).2
  rcases satom_cases he with ⟨e1, e2, e3⟩ | ⟨e1, e2, e3⟩ | ⟨x, y, e1, e3⟩
  · rw [e3] at h
    obtain ⟨h3, h4, h5⟩ := word_atom e2 hf h1 h2 h
    refine ⟨?_, h5⟩
    obtain ⟨t, k⟩ := f
    simp only [Sg.name, Sg.args] at e1 h3 h4
    rw [e1, h3, str_ext' h4]
  · rcases satom_cases hf with ⟨g1, g2, g3⟩ | ⟨g1, g2, g3⟩ | ⟨x', y', g1, g3⟩
    · rw [e3, g3] at h; exact (g2.ne40 _ _ h.symm).elim
    · obtain ⟨t, k⟩ := f
      simp only [Sg.name, Sg.args] at e1 e2 e3 g1 g2 g3
      rw [e3, g3] at h
      simp only [List.cons_append, List.append_assoc, List.cons.injEq, true_and] at h
      obtain ⟨h3, h4⟩ := span_eq e2.all g2.all (ta_bnd l (.par _)) (ta_bnd k (.par _)) h
      obtain ⟨rfl, h5⟩ := ta_eq (fun e he => ⟨hgl e he, ih e he⟩) (good_sub hf).2 (.par _) (.par _) h4
      exact ⟨by rw [str_ext' h3], by simpa using h5⟩
    · subst g1
      rw [e3, g3] at h
      simp only [List.cons_append, List.append_assoc, List.cons.injEq, true_and] at h
      obtain ⟨h3, h4, h5⟩ := word_atom e2 ((good_sub hf).2 x' (by simp)) (ta_bnd _ (.par _)) (.cons (by decide)) h
      exact (ta_arrow (e := .mk s l) e1 hgl h5).elim
  · rw [e1] at e3 he
    simp only [Sg.mk.injEq] at e1
    obtain ⟨rfl, rfl⟩ := e1
    rcases satom_cases hf with ⟨g1, g2, g3⟩ | ⟨g1, g2, g3⟩ | ⟨x', y', g1, g3⟩
    · rw [e3, g3] at h; exact (g2.ne40 _ _ h.symm).elim
    · obtain ⟨t, k⟩ := f
      simp only [Sg.name, Sg.args] at g1 g2 g3
      rw [e3, g3] at h
      simp only [List.cons_append, List.append_assoc, List.cons.injEq, true_and] at h
      obtain ⟨h3, h4, h5⟩ := word_atom g2 (hgl x (by simp)) (ta_bnd _ (.par _)) (.cons (by decide)) h.symm
      exact (ta_arrow (e := .mk t k) g1 (good_sub hf).2 h5).elim
    · subst g1
      rw [e3, g3] at h
      simp only [List.cons_append, List.append_assoc, List.cons.injEq, true_and] at h
      obtain ⟨rfl, h3⟩ := ih x (by simp) (hgl x (by simp)) x' _ _ ((good_sub hf).2 x' (by simp)) (.cons (by decide)) (.cons (by decide)) h
      simp only [List.cons.injEq, true_and] at h3
      obtain ⟨rfl, h4⟩ := ih y (by simp) (hgl y (by simp)) y' _ _ ((good_sub hf).2 y' (by simp)) (.cons (by decide)) (.cons (by decide)) h3
      exact ⟨rfl, by simpa using h4⟩

/-- A constructor's text. -/
def formT (f : Sg) : List UInt8 := bs f.name ++ taT f.args
theorem form_one {f g : Sg} {r1 r2 : List UInt8} (hf : formB f = true) (hg : formB g = true) (h1 : FolS r1) (h2 : FolS r2) (h : formT f ++ r1 = formT g ++ r2) : f = g ∧ r1 = r2 := by
  obtain ⟨s, l⟩ := f
  obtain ⟨t, k⟩ := g
  simp only [formB, Bool.and_eq_true, List.all_eq_true, Sg.name, Sg.args] at hf hg
  simp only [formT, Sg.name, Sg.args, List.append_assoc] at h
  obtain ⟨h3, h4⟩ := span_eq (wd_con hf.1.1).all (wd_con hg.1.1).all (ta_bnd l h1) (ta_bnd k h2) h
  obtain ⟨rfl, h5⟩ := ta_eq (fun e he => ⟨⟨_, hf.2 e he⟩, oneS_all e⟩) (fun e he => ⟨_, hg.2 e he⟩) h1 h2 h4
  exact ⟨by rw [str_ext' h3], h5⟩
/-- What may come behind a part of a program. -/
inductive FolE : List UInt8 → Prop
  | semi (r : List UInt8) : FolE (32 :: 59 :: r)
  | brace (r : List UInt8) : FolE (32 :: 125 :: r)
theorem FolE.toS {r : List UInt8} (h : FolE r) : FolS r := by cases h <;> constructor
theorem FolE.toF {r : List UInt8} (h : FolE r) : Fol r := by cases h <;> constructor
def barT (l : List Sg) : List UInt8 := l.flatMap fun f => 32 :: 124 :: 32 :: formT f
theorem bar_fol (l : List Sg) {r : List UInt8} (h : FolE r) : FolS (barT l ++ r) := by
  cases l with
  | nil => exact h.toS
  | cons a t => exact .bar _
theorem bar_eq : ∀ {l m : List Sg} {r1 r2 : List UInt8}, (∀ e ∈ l, formB e = true) → (∀ e ∈ m, formB e = true) → FolE r1 → FolE r2 → barT l ++ r1 = barT m ++ r2 → l = m ∧ r1 = r2
  | [], [], _, _, _, _, _, _, h => by simpa [barT] using h
  | [], y :: m, r1, r2, _, _, h1, _, h => by cases h1 <;> simp [barT] at h
  | x :: l, [], r1, r2, _, _, _, h2, h => by cases h2 <;> simp [barT] at h
  | x :: l, y :: m, r1, r2, hl, hm, h1, h2, h => by
    have h' : formT x ++ (barT l ++ r1) = formT y ++ (barT m ++ r2) := by simpa [barT] using h
    obtain ⟨rfl, h3⟩ := form_one (hl x (by simp)) (hm y (by simp)) (bar_fol l h1) (bar_fol m h2) h'
    obtain ⟨rfl, rfl⟩ := bar_eq (fun e he => hl e (by simp [he])) (fun e he => hm e (by simp [he])) h1 h2 h3
    exact ⟨rfl, rfl⟩
theorem nm_eq2 : ∀ {l m : List Str} {T1 T2 : List UInt8}, (∀ x ∈ l, nameB x = true) → (∀ x ∈ m, nameB x = true) → nmT l ++ (32 :: 61 :: T1) = nmT m ++ (32 :: 61 :: T2) → l = m ∧ T1 = T2
  | [], [], _, _, _, _, h => by simpa [nmT] using h
  | [], y :: m, T1, T2, _, hm, h => by
    obtain ⟨z, t, hz, hs⟩ := head_small (hm y (by simp))
    simp [nmT, hz] at h
    rw [← h.1] at hs; exact absurd hs (by decide)
  | x :: l, [], T1, T2, hl, _, h => by
    obtain ⟨z, t, hz, hs⟩ := head_small (hl x (by simp))
    simp [nmT, hz] at h
    rw [h.1] at hs; exact absurd hs (by decide)
  | x :: l, y :: m, T1, T2, hl, hm, h => by
    have hb : ∀ (k : List Str) (T : List UInt8), Bnd (nmT k ++ (32 :: 61 :: T)) := by
      intro k T
      cases k with
      | nil => exact .cons (by decide)
      | cons a r => exact .cons (by decide)
    have h' : bs x ++ (nmT l ++ (32 :: 61 :: T1)) = bs y ++ (nmT m ++ (32 :: 61 :: T2)) := by simpa [nmT] using h
    obtain ⟨e1, e2⟩ := span_eq (wd_name (hl x (by simp))).all (wd_name (hm y (by simp))).all (hb _ _) (hb _ _) h'
    obtain ⟨rfl, rfl⟩ := nm_eq2 (fun z hz => hl z (by simp [hz])) (fun z hz => hm z (by simp [hz])) e2
    exact ⟨by rw [str_ext' e1], rfl⟩
theorem joinSp_cons (x : Str) (r : List Str) : joinSp (x :: r) = bs x ++ nmT r := by
  simp only [joinSp, List.map_cons, Lib.join_cons]
  congr 1
  simp [Lib.joinTail, nmT, List.flatMap, List.map_map, Function.comp_def, bs]
theorem nm_app (a b : List Str) : nmT (a ++ b) = nmT a ++ nmT b := by simp [nmT]
theorem formW_nm (f : Sg) : nmT (formW f) = 32 :: formT f := by
  have : ∀ l : List Sg, nmT (l.map fun e => mkS (sgAtom e)) = taT l := by
    intro l
    simp [nmT, taT, List.flatMap_map, bs, mkS]
  simp only [formW, nmT, List.flatMap_cons] at this ⊢
  rw [this]; rfl
theorem data_text (d : Dt) (h : d.forms ≠ []) : ∃ f r, d.forms = f :: r ∧ dataT d = [100, 97, 116, 97] ++ (32 :: (bs d.name ++ (nmT d.params ++ (32 :: 61 :: 32 :: (formT f ++ barT r))))) := by
  obtain ⟨nm, ps, fs⟩ := d
  cases fs with
  | nil => exact (h rfl).elim
  | cons f r =>
    refine ⟨f, r, rfl, ?_⟩
    have hb : nmT (r.flatMap fun f => (⟨#[124]⟩ : Str) :: formW f) = barT r := by
      induction r with
      | nil => rfl
      | cons g r ih =>
        rw [List.flatMap_cons, nm_app, ih (by simp)]
        have : nmT ((⟨#[124]⟩ : Str) :: formW g) = 32 :: 124 :: nmT (formW g) := by simp [nmT, bs]
        rw [this, formW_nm]
        simp [barT]
    have e : dataW ⟨nm, ps, f :: r⟩ = (⟨#[100, 97, 116, 97]⟩ : Str) :: (nm :: ps ++ ((⟨#[61]⟩ : Str) :: (formW f ++ r.flatMap fun f => (⟨#[124]⟩ : Str) :: formW f))) := by simp [dataW, formsW]
    rw [dataT, e, joinSp_cons, List.cons_append]
    have e2 : ∀ (x : Str) (l : List Str), nmT (x :: l) = 32 :: (bs x ++ nmT l) := by intro x l; simp [nmT]
    rw [e2, nm_app, e2, nm_app, formW_nm, hb]
    simp [bs]
theorem data_one {d g : Dt} {r1 r2 : List UInt8} (hd : datB d = true) (hg : datB g = true) (h1 : FolE r1) (h2 : FolE r2) (h : dataT d ++ r1 = dataT g ++ r2) : d = g ∧ r1 = r2 := by
  simp only [datB, namesB, Bool.and_eq_true, decide_eq_true_eq, List.all_eq_true] at hd hg
  obtain ⟨f, r, hf, ht⟩ := data_text d (fun e => by rw [e] at hd; simp at hd)
  obtain ⟨f', r', hf', ht'⟩ := data_text g (fun e => by rw [e] at hg; simp at hg)
  obtain ⟨nm, ps, fs⟩ := d
  obtain ⟨nm', ps', fs'⟩ := g
  simp only at hd hg hf hf' ht ht'
  subst hf
  subst hf'
  rw [ht, ht'] at h
  simp only [List.append_assoc, List.cons_append, List.nil_append, List.cons.injEq, true_and] at h
  have hb : ∀ (k : List Str) (T : List UInt8), Bnd (nmT k ++ (32 :: 61 :: T)) := by
    intro k T
    cases k with
    | nil => exact .cons (by decide)
    | cons a r => exact .cons (by decide)
  obtain ⟨e1, e2⟩ := span_eq (wd_con hd.1.1.1.1).all (wd_con hg.1.1.1.1).all (hb _ _) (hb _ _) h
  obtain ⟨rfl, e3⟩ := nm_eq2 hd.1.1.1.2.1 hg.1.1.1.2.1 e2
  simp only [List.cons.injEq, true_and] at e3
  obtain ⟨rfl, e4⟩ := form_one (hd.2 f (by simp)) (hg.2 f' (by simp)) (bar_fol r h1) (bar_fol r' h2) e3
  obtain ⟨rfl, e5⟩ := bar_eq (fun e he => hd.2 e (by simp [he])) (fun e he => hg.2 e (by simp [he])) h1 h2 e4
  exact ⟨by rw [str_ext' e1], e5⟩
theorem def_text (d : Df) : defT d = bs d.name ++ (32 :: 61 :: 32 :: textE d.body) := by
  simp [defT, defW, joinSp_cons, nmT, bs, mkS]
theorem chk_inner {e : Ex} (h : chkB e = true) : inner e := by
  simp only [chkB, Bool.and_eq_true, decide_eq_true_eq, Bool.not_eq_true', Bool.or_eq_false_iff, beq_eq_false_iff_ne, bne_iff_ne] at h
  exact ⟨fun hh => by simp [hh] at h, fun hh => by simp [hh] at h⟩
theorem def_one {d g : Df} {r1 r2 : List UInt8} (hd : defB d = true) (hg : defB g = true) (h1 : FolE r1) (h2 : FolE r2) (h : defT d ++ r1 = defT g ++ r2) : d = g ∧ r1 = r2 := by
  obtain ⟨nm, e⟩ := d
  obtain ⟨nm', f⟩ := g
  simp only [defB, Bool.and_eq_true] at hd hg
  simp only [def_text, List.append_assoc, List.cons_append] at h
  obtain ⟨e1, e2⟩ := span_eq (wd_name hd.1).all (wd_name hg.1).all (.cons (by decide)) (.cons (by decide)) h
  simp only [List.cons.injEq, true_and] at e2
  have i1 := chk_inner hd.2
  have i2 := chk_inner hg.2
  obtain ⟨rfl, e3⟩ := one_all e (chk_snd hd.2) f _ _ (chk_snd hg.2) ⟨fun h => (i1.1 h).elim, fun h => (i2.1 h).elim⟩ h1.toF h2.toF e2
  exact ⟨by rw [str_ext' e1], e3⟩
theorem data_def {d : Dt} {g : Df} {r1 r2 : List UInt8} (hd : datB d = true) (hg : defB g = true) (h : dataT d ++ r1 = defT g ++ r2) : False := by
  simp only [datB, Bool.and_eq_true, decide_eq_true_eq] at hd
  simp only [defB, Bool.and_eq_true] at hg
  obtain ⟨f, r, hf, ht⟩ := data_text d (fun e => by rw [e] at hd; simp at hd)
  rw [ht, def_text] at h
  rw [List.append_assoc, List.append_assoc] at h
  obtain ⟨e1, _⟩ := span_eq (a := [100, 97, 116, 97]) (by decide) (wd_name hg.1).all (.cons (by decide)) (.cons (by decide)) h
  exact (wd_name hg.1).kw (by rw [← e1]; simp [kwL])

/-- A part of a program, its text. -/
def PgT : Dt ⊕ Df → List UInt8
  | .inl d => dataT d
  | .inr d => defT d
def PgtB : Dt ⊕ Df → Bool
  | .inl d => datB d
  | .inr d => defB d
theorem pgt_one {a b : Dt ⊕ Df} {r1 r2 : List UInt8} (ha : PgtB a = true) (hb : PgtB b = true) (h1 : FolE r1) (h2 : FolE r2) (h : PgT a ++ r1 = PgT b ++ r2) : a = b ∧ r1 = r2 := by
  cases a <;> cases b
  · obtain ⟨rfl, h'⟩ := data_one ha hb h1 h2 h; exact ⟨rfl, h'⟩
  · exact (data_def ha hb h).elim
  · exact (data_def hb ha h.symm).elim
  · obtain ⟨rfl, h'⟩ := def_one ha hb h1 h2 h; exact ⟨rfl, h'⟩
theorem pts_eq : ∀ {l m : List (Dt ⊕ Df)}, l ≠ [] → m ≠ [] → (∀ e ∈ l, PgtB e = true) → (∀ e ∈ m, PgtB e = true) → Lib.join (l.map PgT) [32, 59, 32] ++ [32, 125] = Lib.join (m.map PgT) [32, 59, 32] ++ [32, 125] → l = m
  | [], _, h, _, _, _, _ => (h rfl).elim
  | _ :: _, [], _, h, _, _, _ => (h rfl).elim
  | [x], [y], _, _, hl, hm, h => by
    simp only [List.map_cons, List.map_nil, Lib.join_one] at h
    obtain ⟨rfl, _⟩ := pgt_one (hl x (by simp)) (hm y (by simp)) (.brace _) (.brace _) h
    rfl
  | [x], y :: y2 :: m, _, _, hl, hm, h => by
    simp only [List.map_cons, List.map_nil, Lib.join_one, Lib.join_cons, Lib.joinTail, List.flatten_cons, List.cons_append, List.nil_append, List.append_assoc] at h
    obtain ⟨rfl, h2⟩ := pgt_one (hl x (by simp)) (hm y (by simp)) (.brace _) (.semi _) h
    simp at h2
  | x :: x2 :: l, [y], _, _, hl, hm, h => by
    simp only [List.map_cons, List.map_nil, Lib.join_one, Lib.join_cons, Lib.joinTail, List.flatten_cons, List.cons_append, List.nil_append, List.append_assoc] at h
    obtain ⟨rfl, h2⟩ := pgt_one (hl x (by simp)) (hm y (by simp)) (.semi _) (.brace _) h
    simp at h2
  | x :: x2 :: l, y :: y2 :: m, _, _, hl, hm, h => by
    have hj : ∀ (a b : Dt ⊕ Df) (k : List (Dt ⊕ Df)), Lib.join ((a :: b :: k).map PgT) [32, 59, 32] = PgT a ++ (32 :: 59 :: 32 :: Lib.join ((b :: k).map PgT) [32, 59, 32]) := by
      intro a b k
      simp [Lib.join_cons, Lib.joinTail]
    rw [hj, hj, List.append_assoc, List.append_assoc] at h
    obtain ⟨rfl, h2⟩ := pgt_one (hl x (by simp)) (hm y (by simp)) (.semi _) (.semi _) h
    have h2 : Lib.join ((x2 :: l).map PgT) [32, 59, 32] ++ [32, 125] = Lib.join ((y2 :: m).map PgT) [32, 59, 32] ++ [32, 125] := by
      have h3 := congrArg (fun z => z.drop 3) h2
      exact h3
    rw [pts_eq (l := x2 :: l) (m := y2 :: m) (by simp) (by simp) (fun e he => hl e (by simp [List.mem_cons.1 he])) (fun e he => hm e (by simp [List.mem_cons.1 he])) h2]
def ptsOf (p : Pg) : List (Dt ⊕ Df) := p.datas.map .inl ++ p.defs.map .inr
theorem ptsOf_inj {p q : Pg} (h : ptsOf p = ptsOf q) : p = q := by
  have e1 : ∀ p : Pg, (ptsOf p).filterMap Sum.getLeft? = p.datas := by
    intro p; simp [ptsOf, List.filterMap_map, Function.comp_def]
  have e2 : ∀ p : Pg, (ptsOf p).filterMap Sum.getRight? = p.defs := by
    intro p; simp [ptsOf, List.filterMap_map, Function.comp_def]
  obtain ⟨a, b⟩ := p
  obtain ⟨c, d⟩ := q
  have := e1 ⟨a, b⟩; rw [h, e1] at this
  have h2 := e2 ⟨a, b⟩; rw [h, e2] at h2
  simp only at this h2
  rw [this, h2]
theorem progL_pts (p : Pg) : progL p = (ptsOf p).map PgT := by
  simp [progL, ptsOf, PgT, Function.comp_def]
/-- One text, one program. -/
theorem prog_inj {p q : Pg} (hp : progB p = true) (hq : progB q = true) (h : progT p = progT q) : p = q := by
  have hall : ∀ {p : Pg}, progB p = true → ∀ e ∈ ptsOf p, PgtB e = true := by
    intro p hp e he
    simp only [progB, Bool.and_eq_true, List.all_eq_true] at hp
    simp only [ptsOf, List.mem_append, List.mem_map] at he
    rcases he with ⟨d, hd, rfl⟩ | ⟨d, hd, rfl⟩
    · exact hp.1.2 d hd
    · exact hp.2 d hd
  have ht : ∀ p : Pg, ptsOf p ≠ [] → progT p = [123, 32] ++ (Lib.join ((ptsOf p).map PgT) [32, 59, 32] ++ [32, 125]) := by
    intro p hp
    rw [progT, if_neg (by rw [progL_pts]; simpa using hp), progW, joinSp_cons, progL_pts]
    simp [nmT, bs, mkS]
  have h0 : ∀ p : Pg, ptsOf p = [] → progT p = [123, 32, 125] := by
    intro p hp
    rw [progT, if_pos (by rw [progL_pts, hp]; rfl)]
  by_cases hp0 : ptsOf p = [] <;> by_cases hq0 : ptsOf q = []
  · exact ptsOf_inj (by rw [hp0, hq0])
  · rw [h0 p hp0, ht q hq0] at h
    have := congrArg List.length h
    simp at this <;> omega
  · rw [h0 q hq0, ht p hp0] at h
    have := congrArg List.length h
    simp at this <;> omega
  · rw [ht p hp0, ht q hq0] at h
    exact ptsOf_inj (pts_eq hp0 hq0 (hall hp) (hall hq) (by simpa using h))
end Go.Proofs.YtpdfeadajgokkaaGreatDoor

namespace Go.Proofs.YtpdfeadajgokkaaGreatDoor
open Go.RowKit

/-- Some answer, which, if it is yes, says P; nothing below has turned. -/
def SomeB (P : Prop) (W : World) (r : Ending) (w' : World) : Prop := ∃ b : Bool, r = .returned (.bool b) ∧ (b = true → P) ∧ Below W.heap.size W w'

def Tb : Nat → Nat
  | 0 => 5100
  | d + 1 => 5100 + (if 28 ≤ d + 1 then 2 else 1) * (110 + Tb d)
def atomsL (l : List Sg) : Nat := (l.map fun e => (sgAtom e).length + 1).sum
theorem atomsL_succ (l : List Sg) (k : Nat) (h : k < l.length) : atomsL (l.take (k + 1)) = atomsL (l.take k) + ((sgAtom l[k]).length + 1) := by
  rw [List.take_succ_eq_append_getElem h]; simp only [atomsL, List.map_append, List.map_cons, List.map_nil, List.sum_append, List.sum_cons, List.sum_nil]; omega
theorem join_sum (x : List UInt8) (l : List Sg) : (Lib.join (x :: l.map sgAtom) [32]).length = x.length + atomsL l := by
  rw [join_len]
  simp only [atomsL, List.map_map]
  congr 2
  refine List.map_congr_left fun e _ => ?_
  simp only [Function.comp_apply, List.length_cons, List.length_nil]; omega
theorem sgText_le (s : Str) (l : List Sg) (hs : s.size ≤ 100) : (sgText (.mk s l)).length ≤ 104 + atomsL l := by
  have hb : (bs s).length = s.size := by rw [Lib.size_eq]; rfl
  unfold sgText sgBody
  rw [sgAtoms_map]
  split
  · rename_i h
    obtain ⟨a, b, rfl⟩ := len2 h.2
    simp [Lib.join_cons, Lib.joinTail, atomsL]; omega
  · rw [join_sum]; omega
theorem sgAtom_le3 (e : Sg) (hs : e.name.size ≤ 100) : (sgAtom e).length + 1 ≤ 110 + atomsL e.args := by
  obtain ⟨s, l⟩ := e
  have hb : (bs s).length = s.size := by rw [Lib.size_eq]; rfl
  simp only [Sg.name, Sg.args] at hs ⊢
  by_cases h : l.length = 0
  · rw [show sgAtom (.mk s l) = bs s from by simp [sgAtom, Sg.args, Sg.name, h]]; omega
  · rw [show sgAtom (.mk s l) = paren (sgText (.mk s l)) from by simp [sgAtom, Sg.args, h]]
    have := sgText_le s l hs
    simp [paren]; omega

/-- What the guard says of a list of written types. -/
def ThinP (l : List Sg) (deep : Int) : Prop := atomsL l + 5100 ≤ 102 * l.length + Tb deep.toNat
def ThinC (l : List Sg) : Prop := ∀ (a : Option Addr) (c : Nat) (deep : Int) (w : World), l.length ≤ lenMax → SgRow w a l → -100 ≤ deep → deep ≤ 100 →
  Calls Tryz.prog 18 #[.slice a l.length c, .int .i64 deep] w (SomeB (ThinP l deep) w)

set_option maxHeartbeats 4000000 in
set_option maxRecDepth 100000 in
theorem thin_list (l : List Sg) (ih : ∀ e ∈ l, ThinC e.args) : ThinC l := by
  intro a c deep w hl hr hd0 hd1
  unfold lenMax at hl
  have ih' := Lib.hid ih
  clear ih
  go_enter Tryz.func18, Tryz.ntmps18
  go_wp2_with fail
  go_loopw [5, 6] (fun s i wr => ∃ (k m : Nat), k ≤ l.length ∧ i = .int .i64 k ∧ s = .int .i64 m ∧ m ≤ 2 ∧ Hid ((deep < 28 → m ≤ 1) ∧ (deep ≤ 0 → m = 0) ∧ atomsL (l.take k) ≤ 102 * k + m * (110 + Tb (deep - 1).toNat)) ∧ Below w.heap.size w wr) (fun _ i _ => l.length - (intOf i).toNat)
  case atStart => exact ⟨0, 0, by omega, rfl, rfl, by omega, ⟨by omega, by omega, by simp [atomsL]⟩, Below.refl _ _⟩
  case round =>
    obtain ⟨k, m, hk, rfl, rfl, hm2, hinv, hB⟩ := hrel
    by_cases hlt : k < l.length
    · obtain ⟨b, off, rfl, harg⟩ := (hr.keeps (Keeps.of_below hB)).arg (by rintro rfl; simp at hlt)
      obtain ⟨a2, c2, g0, g1, ge⟩ := harg k hlt
      have hmem := List.getElem_mem hlt
      obtain ⟨x1, x2, hx, hns, hfl, hflr⟩ : ∃ x1 x2, (a2, c2) = (x1, x2) ∧ l[k].name.size ≤ lenMax ∧ l[k].args.length ≤ lenMax ∧ SgRow wr a2 l[k].args := by
        have ge' := ge
        generalize l[k] = x at ge'
        obtain ⟨s, fl⟩ := x
        obtain ⟨x1, x2, hx, h1, h2, h3⟩ := IsSg.open ge'
        simp only [Sg.name, Sg.args, Value.agg.injEq, Array.mk.injEq, List.cons.injEq, Value.slice.injEq, and_true, true_and] at hx
        obtain ⟨rfl, rfl⟩ := hx
        exact ⟨_, _, rfl, h1, h2, h3⟩
      have hsucc := Lib.hid (atomsL_succ l k hlt)
      have hat := Lib.hid (sgAtom_le3 l[k])
      have hC := Lib.hid (fun hd : 0 < deep => ih'.out _ hmem a2 c2 (deep - 1) wr hfl hflr (by omega) (by omega))
      obtain ⟨e, he⟩ : ∃ e, l[k] = e := ⟨_, rfl⟩
      have hleaf : Hid (e.args.length = 0 → e.name.size ≤ 100 → (sgAtom e).length + 1 ≤ 101) := fun h0 h1 => by
        have hb : (bs e.name).length = e.name.size := by rw [Lib.size_eq]; rfl
        unfold sgAtom
        rw [if_pos h0]; omega
      rw [he] at g0 g1 hns hfl hsucc hat hC
      unfold lenMax at hns hfl
      clear harg ge hmem hflr hx he
      by_cases h1 : 50 < e.args.length
      · go_wp2_with fail
        go_ret
        exact ⟨false, rfl, by simp, hB⟩
      by_cases h2 : 100 < e.name.size
      · go_wp2_with fail
        go_ret
        exact ⟨false, rfl, by simp, hB⟩
      by_cases h3 : e.args.length = 0
      · have h3' : ((e.args.length : Int) == 0) = true := by rw [h3]; rfl
        have hnew : Hid ((deep < 28 → m ≤ 1) ∧ (deep ≤ 0 → m = 0) ∧ atomsL (l.take (k + 1)) ≤ 102 * (k + 1) + m * (110 + Tb (deep - 1).toNat)) := by
          refine ⟨hinv.out.1, hinv.out.2.1, ?_⟩
          rw [hsucc.out]
          have h4 := hleaf.out h3 (by omega)
          have h5 := hinv.out.2.2
          omega
        clear h3
        go_wp2_with fail
        go_roundw
        case rel => exact ⟨k + 1, m, by omega, by go_num, rfl, hm2, hnew, hB⟩
        case measure => simp [intOf]; omega
      have h3' : ((e.args.length : Int) == 0) = false := by rw [beq_eq_false_iff_ne]; omega
      clear h3
      by_cases q1 : m + 1 ≤ 2
      case neg =>
        have q1' : ¬ ((m : Int) + 1 ≤ 2) := by omega
        go_wp2_with fail
        go_ret
        exact ⟨false, rfl, by simp, hB⟩
      by_cases q2 : 0 < deep
      case neg =>
        go_wp2_with fail
        go_ret
        exact ⟨false, rfl, by simp, hB⟩
      by_cases q3 : 28 ≤ deep ∨ m = 0
      case neg =>
        have q4 : deep < 28 := by omega
        have q5 : (((m : Int) + 1) == 1) = false := by rw [beq_eq_false_iff_ne]; omega
        clear q3
        go_wp2_with fail
        go_ret
        exact ⟨false, rfl, by simp, hB⟩
      have hq3 := Lib.hid q3
      have q4 : (28 ≤ deep) ∨ (deep < 28 ∧ (((m : Int) + 1) == 1) = true) := by
        by_cases h : 28 ≤ deep
        · exact .inl h
        · refine .inr ⟨by omega, ?_⟩
          rw [beq_iff_eq]; omega
      clear q3
      rcases q4 with q4 | ⟨q4, q5⟩
      all_goals
        go_wp2_with fail
        refine (hC.out q2).mono ?_
        rintro r w1 ⟨bb, rfl, hbb, hB1⟩
        have hB1' := hB.trans (hB1.mono hB.size)
        clear hB1
        cases bb
        · go_wp2_with fail
          go_ret
          exact ⟨false, rfl, by simp, hB1'⟩
        · have hnew : Hid ((deep < 28 → m + 1 ≤ 1) ∧ (deep ≤ 0 → m + 1 = 0) ∧ atomsL (l.take (k + 1)) ≤ 102 * (k + 1) + (m + 1) * (110 + Tb (deep - 1).toNat)) := by
            refine ⟨fun h => ?_, fun h => ?_, ?_⟩
            · have := hq3.out; omega
            · omega
            · rw [hsucc.out]
              have h5 := hinv.out.2.2
              have h6 := hbb rfl
              have h7 := hat.out (by omega)
              unfold ThinP at h6
              rw [Nat.add_mul, Nat.one_mul]
              omega
          clear hbb
          go_wp2_with fail
          go_roundw
          case rel => exact ⟨k + 1, m + 1, by omega, by go_num, by go_num, by omega, hnew, hB1'⟩
          case measure => simp [intOf]; omega
    · have hfin : Hid (ThinP l deep) := by
        unfold Hid ThinP
        have h := hinv.out
        rw [List.take_of_length_le (by omega)] at h
        obtain ⟨h1, h2, h3⟩ := h
        have hkl : k = l.length := by omega
        rw [hkl] at h3
        by_cases hd : deep ≤ 0
        · rw [h2 hd] at h3
          rw [show deep.toNat = 0 from by omega, Tb]
          omega
        · obtain ⟨d, hdd⟩ : ∃ d : Nat, deep = (d : Int) + 1 := ⟨(deep - 1).toNat, by omega⟩
          rw [show deep.toNat = d + 1 from by omega, Tb]
          rw [show (deep - 1).toNat = d from by omega] at h3
          by_cases h28 : 28 ≤ d + 1
          · rw [if_pos h28]
            have : m * (110 + Tb d) ≤ 2 * (110 + Tb d) := Nat.mul_le_mul_right _ hm2
            omega
          · rw [if_neg h28]
            have : m * (110 + Tb d) ≤ 1 * (110 + Tb d) := Nat.mul_le_mul_right _ (h1 (by omega))
            omega
      go_wp2_with fail
      go_ret
      exact ⟨true, rfl, fun _ => hfin.out, hB⟩
theorem thin_all : ∀ e : Sg, ThinC e.args := Sg.ind fun _ l ih => thin_list l fun e he => ih e he
theorem Tb33 : Tb 33 ≤ 100000000 := by decide
theorem Tb32 : Tb 32 ≤ 100000000 := by decide
end Go.Proofs.YtpdfeadajgokkaaGreatDoor

namespace Go.Proofs.YtpdfeadajgokkaaGreatDoor
open Go.RowKit

theorem r_Thin (s : Sg) (v : Value) (w : World) (hv : IsSg w v s) : Calls Tryz.prog 7 #[v] w (SomeB ((sgText s).length ≤ 200000000) w) := by
  have hv0 := hv
  obtain ⟨nm, l⟩ := s
  obtain ⟨a1, c1, rfl, _⟩ := hv.open
  have hb0 : Below w.heap.size w ((w.alloc (.cells #[.string nm, .slice a1 l.length c1] 28)).alloc (.cells #[.string nm, .slice a1 l.length c1] 28)) := ((Below.refl _ _).alloc (Nat.le_refl _) _).alloc (by simp) _
  have hcall := Lib.hid (thin_all (.mk ⟨#[]⟩ [.mk nm l]) (some ⟨w.heap.size + 1, 0, none⟩) 1 33 _ (by simp [Sg.args, lenMax]) (show SgRow ((w.alloc (.cells #[.string nm, .slice a1 l.length c1] 28)).alloc (.cells #[.string nm, .slice a1 l.length c1] 28)) (some ⟨w.heap.size + 1, 0, none⟩) [.mk nm l] from .inr ⟨_, _, rfl, fun i hi => by
    obtain rfl : i = 0 := by simp at hi; exact hi
    exact ⟨_, _, by rw [World.cell?_alloc_at _ _ _ _ (by simp)]; rfl, by rw [World.cell?_alloc_at _ _ _ _ (by simp)]; rfl, IsSg.keeps (Keeps.of_below hb0) _ _ hv0⟩⟩) (by omega) (by omega))
  have hle : Hid (ThinP [.mk nm l] 33 → (sgText (.mk nm l)).length ≤ 200000000) := fun h => by
    unfold ThinP at h
    have h2 := Tb33
    have h3 := sgText_le_atom (.mk nm l)
    simp only [atomsL, List.map_cons, List.map_nil, List.sum_cons, List.sum_nil, List.length_cons, List.length_nil] at h
    rw [show ((33 : Int).toNat) = 33 from rfl] at h
    omega
  have hb0' := Lib.hid hb0
  simp only [Sg.args, List.length_cons, List.length_nil, Nat.zero_add] at hcall
  clear hv hv0 hb0
  go_enter Tryz.func7, Tryz.ntmps7
  go_wp2_with fail
  refine hcall.out.mono ?_
  rintro r w1 ⟨bb, rfl, hbb, hB1⟩
  go_wp2_with fail
  go_ret
  exact ⟨bb, rfl, fun h => hle.out (hbb h), hb0'.out.trans (hB1.mono (by simp; omega))⟩

def FormP (f : Sg) : Prop := f.name.size ≤ 100 ∧ f.args.length ≤ 50 ∧ atomsL f.args ≤ 100000000
theorem r_form (f : Sg) (v : Value) (w : World) (hv : IsSg w v f) : Calls Tryz.prog 17 #[v] w (SomeB (FormP f) w) := by
  obtain ⟨nm, l⟩ := f
  obtain ⟨a1, c1, rfl, hs, hn, hr⟩ := hv.open
  have hb0 : Below w.heap.size w (w.alloc (.cells #[.string nm, .slice a1 l.length c1] 46)) := (Below.refl _ _).alloc (Nat.le_refl _) _
  have hcall := Lib.hid (thin_all (.mk ⟨#[]⟩ l) a1 c1 32 _ hn (hr.keeps (Keeps.of_below hb0)) (by omega) (by omega))
  simp only [Sg.args] at hcall
  unfold lenMax at hs hn
  have hb0' := Lib.hid hb0
  clear hv hb0 hr
  by_cases h1 : 100 < nm.size
  · go_enter Tryz.func17, Tryz.ntmps17
    go_wp2_with fail
    go_ret
    exact ⟨false, rfl, by simp, hb0'.out⟩
  by_cases h2 : 50 < l.length
  · go_enter Tryz.func17, Tryz.ntmps17
    go_wp2_with fail
    go_ret
    exact ⟨false, rfl, by simp, hb0'.out⟩
  go_enter Tryz.func17, Tryz.ntmps17
  go_wp2_with fail
  refine hcall.out.mono ?_
  rintro r w1 ⟨bb, rfl, hbb, hB1⟩
  have hle : Hid (bb = true → FormP (.mk nm l)) := fun h => by
    have h3 := hbb h
    unfold ThinP at h3
    have h2 := Tb32
    rw [show ((32 : Int).toNat) = 32 from rfl] at h3
    exact ⟨by show nm.size ≤ 100; omega, by show l.length ≤ 50; omega, by show atomsL l ≤ _; omega⟩
  clear hbb
  go_wp2_with fail
  go_ret
  exact ⟨bb, rfl, hle.out, hb0'.out.trans (hB1.mono (by simp))⟩

def DatP (d : Dt) : Prop := d.name.size ≤ 100 ∧ d.params.length ≤ 50 ∧ d.forms.length ≤ 50 ∧ ∀ f ∈ d.forms, FormP f
def FewP (p : Pg) : Prop := p.datas.length ≤ 50 ∧ p.defs.length ≤ 50 ∧ (∀ d ∈ p.defs, fewB d.body = true ∧ d.name.size ≤ 100) ∧ ∀ d ∈ p.datas, DatP d

theorem IsDf.body2 {w : World} {v0 v1 v2 v3 v4 v5 : Value} {d : Df} (h : IsDf w (.agg #[v0, v1, v2, v3, v4, v5]) d) : IsEx w (.agg #[v1, v2, v3, v4, v5]) d.body ∧ d.name.size ≤ lenMax := by
  obtain ⟨x1, x2, x3, x4, x5, hv, hn, he⟩ := h
  simp only [Value.agg.injEq, Array.mk.injEq, List.cons.injEq, and_true] at hv
  obtain ⟨-, rfl, rfl, rfl, rfl, rfl⟩ := hv
  exact ⟨he, hn⟩

set_option maxHeartbeats 4000000 in
set_option maxRecDepth 100000 in
theorem r_FewProg (p : Pg) (v : Value) (w : World) (hv : IsPg w v p) : Calls Tryz.prog 6 #[v] w (SomeB (FewP p) w) := by
  obtain ⟨ds, fs⟩ := p
  obtain ⟨a1, c1, a2, c2, rfl, hds, hfs, hdr, hfr⟩ := hv
  simp only at hds hfs hdr hfr
  unfold lenMax at hds hfs
  have hB0 : Below (w.heap.size + 1) (w.alloc (.cells #[.slice a1 ds.length c1, .slice a2 fs.length c2] 25)) (w.alloc (.cells #[.slice a1 ds.length c1, .slice a2 fs.length c2] 25)) := Below.refl _ _
  have hbw := Lib.hid (below_box hB0)
  obtain ⟨k0, k1⟩ := box2 hB0
  have hdr' := Lib.hid hdr
  have hfr' := Lib.hid hfr
  clear hdr hfr hB0
  by_cases h1 : 50 < ds.length
  · go_enter Tryz.func6, Tryz.ntmps6
    go_wp2_with fail
    go_ret
    exact ⟨false, rfl, by simp, hbw.out⟩
  by_cases h2 : 50 < fs.length
  · go_enter Tryz.func6, Tryz.ntmps6
    go_wp2_with fail
    go_ret
    exact ⟨false, rfl, by simp, hbw.out⟩
  go_enter Tryz.func6, Tryz.ntmps6
  go_wp2_with fail
  go_loopw [3] (fun i wr => ∃ k : Nat, k ≤ fs.length ∧ i = .int .i64 k ∧ Hid (∀ j (hj : j < k) (hl : j < fs.length), fewB fs[j].body = true ∧ fs[j].name.size ≤ 100) ∧ Below (w.heap.size + 1) (w.alloc (.cells #[.slice a1 ds.length c1, .slice a2 fs.length c2] 25)) wr) (fun i _ => fs.length - (intOf i).toNat)
  case atStart => exact ⟨0, by omega, rfl, fun j hj => by omega, Below.refl _ _⟩
  case round =>
    clear k0 k1
    obtain ⟨k, hk, rfl, hall, hB⟩ := hrel
    obtain ⟨k0, k1⟩ := box2 hB
    have hz := size_box hB
    by_cases hlt : k < fs.length
    · obtain ⟨b, off, rfl, hat⟩ := (hfr'.out.keeps (Keeps.of_below (below_box hB))).at (by rintro rfl; simp at hlt)
      obtain ⟨a3, c3, a4, c4, g0, g1, g2, g3, g4, g5, ge⟩ := hat k hlt
      have hb2 := ge.body2
      have hcall := Lib.hid (r04_Few fs[k].body _ wr hb2.1)
      have hnm := hb2.2
      unfold lenMax at hnm
      have hk2 : Hid (∀ V, Below wr.heap.size wr V → V.cell? ⟨b, off + k * 6, none⟩ = some (.string fs[k].name)) := fun V hb => Keeps.of_below hb _ _ g0
      clear ge hat hb2
      cases hf : fewB fs[k].body
      · rw [hf] at hcall
        clear hf
        go_wp2_with fail
        refine hcall.out.mono ?_
        rintro r w1 ⟨rfl, hB1⟩
        go_wp2_with fail
        go_ret
        exact ⟨false, rfl, by simp, below_box (hB.trans (hB1.mono hz))⟩
      · rw [hf] at hcall
        have hf' := Lib.hid hf
        clear hf
        by_cases hn : 100 < fs[k].name.size
        · go_wp2_with fail
          refine hcall.out.mono ?_
          rintro r w1 ⟨rfl, hB1⟩
          have hB1' := hB.trans (hB1.mono hz)
          have g0' := hk2.out _ hB1
          obtain ⟨j0, j1⟩ := box2 hB1'
          clear hB1 g0 k0 k1
          go_wp2_with fail
          go_ret
          exact ⟨false, rfl, by simp, below_box hB1'⟩
        · go_wp2_with fail
          refine hcall.out.mono ?_
          rintro r w1 ⟨rfl, hB1⟩
          have hB1' := hB.trans (hB1.mono hz)
          have g0' := hk2.out _ hB1
          obtain ⟨j0, j1⟩ := box2 hB1'
          clear hB1 g0 k0 k1
          go_wp2_with fail
          go_roundw
          case rel => exact ⟨k + 1, by omega, by go_num, fun j hj hl => by
            rcases Nat.lt_or_ge j k with h | h
            · exact hall.out j h hl
            · obtain rfl : j = k := by omega
              exact ⟨hf'.out, by omega⟩, hB1'⟩
          case measure => simp [intOf]; omega
    · have hdefs : Hid (∀ d ∈ fs, fewB d.body = true ∧ d.name.size ≤ 100) := fun d hd => by
        obtain ⟨j, hj, rfl⟩ := List.getElem_of_mem hd
        exact hall.out j (by omega) hj
      have hBx := hB
      clear hall hz
      go_wp2_with fail
      go_loopw [5] (fun i wr => ∃ k : Nat, k ≤ ds.length ∧ i = .int .i64 k ∧ Hid (∀ j (hj : j < k) (hl : j < ds.length), DatP ds[j]) ∧ Below (w.heap.size + 1) (w.alloc (.cells #[.slice a1 ds.length c1, .slice a2 fs.length c2] 25)) wr) (fun i _ => ds.length - (intOf i).toNat)
      case atStart => exact ⟨0, by omega, rfl, fun j hj => by omega, hBx⟩
      case round =>
        clear hBx hB k0 k1 hlt hk
        obtain ⟨k, hk, rfl, hall, hB⟩ := hrel
        obtain ⟨k0, k1⟩ := box2 hB
        have hz := size_box hB
        by_cases hlt : k < ds.length
        · obtain ⟨b, off, rfl, hat⟩ := (hdr'.out.keeps (Keeps.of_below (below_box hB))).at (by rintro rfl; simp at hlt)
          obtain ⟨a3, c3, a4, c4, g0, g1, g2, ge⟩ := hat k hlt
          obtain ⟨y1, y2, y3, y4, hy, _, hyn, hyp, hyf, _, hyr⟩ := ge
          simp only [Value.agg.injEq, Array.mk.injEq, List.cons.injEq, Value.slice.injEq, and_true, true_and] at hy
          obtain ⟨⟨rfl, rfl⟩, rfl, rfl⟩ := hy
          unfold lenMax at hyn hyp hyf
          have hyr' := Lib.hid hyr
          obtain ⟨d, hd⟩ : ∃ d, ds[k] = d := ⟨_, rfl⟩
          have hd' := Lib.hid hd
          rw [hd] at g0 g1 g2 hyn hyp hyf hyr'
          have hBa := hB.alloc hz (.cells #[.string d.name, .slice a3 d.params.length c3, .slice a4 d.forms.length c4] 49)
          obtain ⟨q0, q1, q2⟩ := box3 (w := wr) (v0 := .string d.name) (v1 := .slice a3 d.params.length c3) (v2 := .slice a4 d.forms.length c4) (t := 49) (Below.refl _ _)
          clear hat hyr hd
          by_cases n1 : 100 < d.name.size
          · go_wp2_with fail
            go_ret
            exact ⟨false, rfl, by simp, below_box hBa⟩
          by_cases n2 : 50 < d.params.length
          · go_wp2_with fail
            go_ret
            exact ⟨false, rfl, by simp, below_box hBa⟩
          by_cases n3 : 50 < d.forms.length
          · go_wp2_with fail
            go_ret
            exact ⟨false, rfl, by simp, below_box hBa⟩
          have hzz : w.heap.size < wr.heap.size := by omega
          go_wp2_with fail
          go_loopw [7] (fun i wi => ∃ m : Nat, m ≤ d.forms.length ∧ i = .int .i64 m ∧ Hid (∀ j (hj : j < m) (hl : j < d.forms.length), FormP d.forms[j]) ∧ Below (wr.heap.size + 1) (wr.alloc (.cells #[.string d.name, .slice a3 d.params.length c3, .slice a4 d.forms.length c4] 49)) wi) (fun i _ => d.forms.length - (intOf i).toNat)
          case atStart => exact ⟨0, by omega, rfl, fun j hj => by omega, Below.refl _ _⟩
          case round =>
            clear q0 q1 q2
            obtain ⟨m, hm, rfl, hall2, hB2⟩ := hrel
            obtain ⟨q0, q1, q2⟩ := box3 hB2
            have hz2 := size_box hB2
            have hbw2 := below_box hB2
            by_cases hlt2 : m < d.forms.length
            · obtain ⟨b5, off5, rfl, harg⟩ := (hyr'.out.keeps (Keeps.of_below hbw2)).arg (by intro h; rw [h] at hlt2; simp at hlt2)
              obtain ⟨a6, c6, r0, r1, ge⟩ := harg m hlt2
              have hcall := Lib.hid (r_form _ _ _ ge)
              clear ge harg
              go_wp2_with fail
              refine hcall.out.mono ?_
              rintro r w2 ⟨bb, rfl, hbb, hB3⟩
              have hB3' := hB2.trans (hB3.mono hz2)
              clear hB3
              cases bb
              · go_wp2_with fail
                go_ret
                exact ⟨false, rfl, by simp, below_box (hB.trans ((below_box hB3').mono hz))⟩
              · have hbb' := Lib.hid (hbb rfl)
                clear hbb
                go_wp2_with fail
                go_roundw
                case rel => exact ⟨m + 1, by omega, by go_num, fun j hj hl => by
                  rcases Nat.lt_or_ge j m with h | h
                  · exact hall2.out j h hl
                  · obtain rfl : j = m := by omega
                    exact hbb'.out, hB3'⟩
                case measure => simp [intOf]; omega
            · have hnew : Hid (DatP ds[k]) := by
                rw [hd'.out]
                refine ⟨by omega, by omega, by omega, fun f hf => ?_⟩
                obtain ⟨j, hj, rfl⟩ := List.getElem_of_mem hf
                exact hall2.out j (by omega) hj
              have hBn := hB.trans (hbw2.mono hz)
              go_wp2_with fail
              go_roundw
              case rel => exact ⟨k + 1, by omega, by go_num, fun j hj hl => by
                rcases Nat.lt_or_ge j k with h | h
                · exact hall.out j h hl
                · obtain rfl : j = k := by omega
                  exact hnew.out, hBn⟩
              case measure => simp [intOf]; omega
        · have hfin : Hid (FewP ⟨ds, fs⟩) := ⟨by show ds.length ≤ 50; omega, by show fs.length ≤ 50; omega, hdefs.out, fun d hd => by
            obtain ⟨j, hj, rfl⟩ := List.getElem_of_mem hd
            exact hall.out j (by have : j < ds.length := hj; omega) (show j < ds.length from hj)⟩
          go_wp2_with fail
          go_ret
          exact ⟨true, rfl, fun _ => hfin.out, below_box hB⟩
end Go.Proofs.YtpdfeadajgokkaaGreatDoor

namespace Go.Proofs.YtpdfeadajgokkaaGreatDoor
open Go.RowKit

theorem sum_le (K m : Nat) (r : List (List UInt8)) (h : ∀ x ∈ r, x.length ≤ K) : (r.map fun y => m + y.length).sum ≤ r.length * (m + K) := by
  induction r with
  | nil => simp
  | cons y r ih =>
    have h2 := h y (by simp)
    have h3 := ih fun z hz => h z (by simp [hz])
    simp only [List.map_cons, List.sum_cons, List.length_cons, Nat.add_mul, Nat.one_mul] at h3 ⊢
    omega
theorem join_le (K : Nat) (sep : List UInt8) : ∀ l : List (List UInt8), (∀ x ∈ l, x.length ≤ K) → (Lib.join l sep).length ≤ l.length * (sep.length + K)
  | [], _ => by simp [Lib.join_nil]
  | x :: r, h => by
    rw [join_len]
    have h1 := h x (by simp)
    have := sum_le K sep.length r fun z hz => h z (by simp [hz])
    simp only [List.length_cons, Nat.add_mul, Nat.one_mul] at this ⊢
    omega
theorem flat_le {α : Type} (g : α → List UInt8) (K : Nat) (l : List α) (h : ∀ x ∈ l, (g x).length ≤ K) : (l.flatMap g).length ≤ l.length * K := by
  induction l with
  | nil => simp
  | cons y r ih =>
    have h2 := h y (by simp)
    have h3 := ih fun z hz => h z (by simp [hz])
    simp only [List.flatMap_cons, List.length_append, List.length_cons, Nat.add_mul, Nat.one_mul]
    omega
theorem fit_len {s : Str} (h : fitB s = true) : (bs s).length ≤ 20 := by
  simp only [fitB, Bool.and_eq_true, decide_eq_true_eq, Lib.toList_data] at h
  exact h.1.2
theorem taT_len (l : List Sg) : (taT l).length = atomsL l := by
  induction l with
  | nil => rfl
  | cons e r ih =>
    simp only [taT, atomsL, List.flatMap_cons, List.length_append, List.length_cons, List.map_cons, List.sum_cons] at ih ⊢
    omega
theorem form_len {f : Sg} (h : FormP f) : (formT f).length ≤ 100000100 := by
  have h1 := h.1
  have h2 := h.2.2
  have h3 : (bs f.name).length = f.name.size := bs_len _
  rw [formT, List.length_append, taT_len]
  omega
theorem data_len {d : Dt} (h : DatP d) (hd : datB d = true) : (dataT d).length ≤ 5100000000 := by
  obtain ⟨f, r, hf, ht⟩ := data_text d (fun e => by simp [datB, e] at hd)
  rw [ht]
  obtain ⟨h1, h2, h3, h4⟩ := h
  rw [hf] at h3 h4
  simp only [datB, namesB, Bool.and_eq_true, List.all_eq_true] at hd
  have e1 : (bs d.name).length ≤ 20 := fit_len (conB_fit hd.1.1.1.1)
  have e2 : (nmT d.params).length ≤ d.params.length * 21 := flat_le _ _ _ fun x hx => by
    have := fit_len (nameB_fit (hd.1.1.1.2.1 x hx))
    simp only [List.length_cons]; omega
  have e3 := form_len (h4 f (by simp))
  have e4 : (barT r).length ≤ r.length * 100000103 := flat_le _ _ _ fun x hx => by
    have := form_len (h4 x (by simp [hx]))
    simp only [List.length_cons]; omega
  simp only [List.length_append, List.length_cons, List.length_nil] at h3 ⊢
  omega
theorem DfRow.mem {w : World} {a : Option Addr} {l : List Df} (h : DfRow w a l) {d : Df} (hd : d ∈ l) : ∃ v, IsEx w v d.body := by
  rcases h with h | ⟨b, off, _, h⟩
  · rw [h] at hd; simp at hd
  · obtain ⟨i, hi, rfl⟩ := List.getElem_of_mem hd
    obtain ⟨_, _, _, _, _, _, _, _, _, _, _, _, ge⟩ := h i hi
    exact ⟨_, ge.body2.1⟩
theorem few_open {e : Ex} (h : fewB e = true) : cnt e ≤ 2000 ∧ dep e ≤ 40 ∧ shortB e = true := by
  simpa [fewB, and_assoc] using h
theorem few_len {e : Ex} {w : World} {v : Value} (h : fewB e = true) (hv : IsEx w v e) (hc : chkB e = true) : (textE e).length ≤ 9800000 := by
  have := text_le (chk_snd hc) (few_open h).2.2 hv.numOk
  have := (few_open h).1
  omega
theorem few_prog_len {p : Pg} {w : World} {v : Value} (hf : FewP p) (hv : IsPg w v p) (hp : progB p = true) : (progT p).length ≤ 1099511627775 := by
  unfold progT
  by_cases h0 : progL p = []
  · rw [if_pos h0]; simp
  rw [if_neg h0, progW, joinSp_cons]
  obtain ⟨a1, c1, a2, c2, _, _, _, _, hdr⟩ := hv
  obtain ⟨h1, h2, h3, h4⟩ := hf
  simp only [progB, Bool.and_eq_true, List.all_eq_true, decide_eq_true_eq] at hp
  have hj : (Lib.join (progL p) [32, 59, 32]).length ≤ (progL p).length * (3 + 5100000000) := join_le _ _ _ fun x hx => by
    simp only [progL, List.mem_append, List.mem_map] at hx
    rcases hx with ⟨d, hd, rfl⟩ | ⟨d, hd, rfl⟩
    · exact data_len (h4 d hd) (hp.1.2 d hd)
    · obtain ⟨u, hu⟩ := hdr.mem hd
      have hb := hp.2 d hd
      simp only [defB, Bool.and_eq_true] at hb
      have := few_len (h3 d hd).1 hu hb.2
      have h5 := fit_len (nameB_fit hb.1)
      rw [def_text]
      simp only [List.length_append, List.length_cons]
      omega
  have hl : (progL p).length ≤ 80 := by simp [progL]; omega
  simp only [nmT, List.flatMap_cons, List.flatMap_nil, List.length_append, List.length_cons, List.length_nil, bs, mkS]
  omega
end Go.Proofs.YtpdfeadajgokkaaGreatDoor
