/- A part of the proof that parser laws hold: texts of the walk and of its plain laws, made small. -/
import Derived.Test.YtnfclcfcpgfajaaGreatDoorM06
import Derived.RangeFuncLeaves
import Derived.Below
set_option linter.unusedVariables false
set_option linter.unusedSimpArgs false
/- What an abstract heap says of a world: values up to the names of blocks and the room of slices. -/
namespace Go.Proofs.YtnfclcfcpgfajaaGreatDoor.Ev
open Go Go.RowKit

/-- Where blocks lie: by the abstract block: the block, and where in it; by the block: its cells, and the cells of an element. -/
structure Ro where
  at_ : Nat → Option (Nat × Nat)
  room : Nat → Nat
  esz : Nat → Nat
def AR (ρ : Ro) (a b : Addr) : Prop := a.spot = none ∧ ∃ sh, ρ.at_ a.block = some (b.block, sh) ∧ b = ⟨b.block, sh + a.off, none⟩
def FnR (ρ : Ro) (f g : Fn) : Prop :=
  match f with
  | .func i => g = .func i
  | .yield l => ∃ l', g = .yield l' ∧ ρ.at_ l = some (l', 0)
  | _ => False
inductive VR (ρ : Ro) : Value → Value → Prop where
  | top (w : Value) : VR ρ (.complex .f32 0 0) w
  | flat {v : Value} (h : plain1 v = true) : VR ρ v v
  | ptr {a b : Addr} (h : AR ρ a b) : VR ρ (.pointer (some a)) (.pointer (some b))
  | slice {a b : Addr} {n c : Nat} (h : AR ρ a b) (hc : c < U) : VR ρ (.slice (some a) n c) (.slice (some b) n c)
  | sliceU {a b : Addr} {n c : Nat} (h : AR ρ a b) (hn : n ≤ c) (hU : n < U) (hr : b.off + c * ρ.esz b.block ≤ ρ.room b.block) : VR ρ (.slice (some a) n U) (.slice (some b) n c)
  | sliceE (a b : Addr) : VR ρ (.slice (some a) 0 U) (.slice (some b) 0 0)
  | sliceZ (a b : Addr) : VR ρ (.slice (some a) 0 0) (.slice (some b) 0 0)
  | map {r r' : Nat} (h : ρ.at_ r = some (r', 0)) : VR ρ (.map (some r)) (.map (some r'))
  | func {f g : Fn} {a b c d : Array Value} (h : FnR ρ f g) (ha : a.size = b.size) (h1 : ∀ (i : Nat) (v w : Value), a[i]? = some v → b[i]? = some w → VR ρ v w) (hc : c.size = d.size) (h2 : ∀ (i : Nat) (v w : Value), c[i]? = some v → d[i]? = some w → VR ρ v w) : VR ρ (.func f a c) (.func g b d)
  | iface {t : TypeId} {v w : Value} (h : VR ρ v w) : VR ρ (.iface t v) (.iface t w)
  | agg {a b : Array Value} (hs : a.size = b.size) (h : ∀ (i : Nat) (v w : Value), a[i]? = some v → b[i]? = some w → VR ρ v w) : VR ρ (.agg a) (.agg b)
  | tuple {a b : Array Value} (hs : a.size = b.size) (h : ∀ (i : Nat) (v w : Value), a[i]? = some v → b[i]? = some w → VR ρ v w) : VR ρ (.tuple a) (.tuple b)
/-- Lists of values. -/
def LR (ρ : Ro) (l m : List Value) : Prop := l.length = m.length ∧ ∀ (i : Nat) (v w : Value), l[i]? = some v → m[i]? = some w → VR ρ v w
/-- A map of places grows. -/
structure Ro.Le (ρ σ : Ro) : Prop where
  at_ : ∀ b B sh, ρ.at_ b = some (B, sh) → σ.at_ b = some (B, sh)
  room : ∀ b B sh, ρ.at_ b = some (B, sh) → σ.room B = ρ.room B ∧ σ.esz B = ρ.esz B
theorem Ro.Le.refl (ρ : Ro) : ρ.Le ρ := ⟨fun _ _ _ h => h, fun _ _ _ _ => ⟨rfl, rfl⟩⟩
theorem Ro.Le.trans {ρ σ τ : Ro} (h : ρ.Le σ) (k : σ.Le τ) : ρ.Le τ :=
  ⟨fun b B sh e => k.at_ b B sh (h.at_ b B sh e), fun b B sh e => ⟨((k.room b B sh (h.at_ b B sh e)).1).trans (h.room b B sh e).1, ((k.room b B sh (h.at_ b B sh e)).2).trans (h.room b B sh e).2⟩⟩
theorem AR.le {ρ σ : Ro} {a b : Addr} (h : AR ρ a b) (k : ρ.Le σ) : AR σ a b := let ⟨hs, sh, h1, h2⟩ := h; ⟨hs, sh, k.at_ _ _ _ h1, h2⟩
theorem FnR.le {ρ σ : Ro} {f g : Fn} (h : FnR ρ f g) (k : ρ.Le σ) : FnR σ f g := by
  cases f with
  | func i => exact h
  | yield l => obtain ⟨l', h1, h2⟩ := h; exact ⟨l', h1, k.at_ _ _ _ h2⟩
  | _ => exact h.elim
theorem VR.le {ρ σ : Ro} {v w : Value} (h : VR ρ v w) (k : ρ.Le σ) : VR σ v w := by
  induction h with
  | top w => exact .top w
  | flat h => exact .flat h
  | ptr h => exact .ptr (h.le k)
  | slice h hc => exact .slice (h.le k) hc
  | sliceU h hn hU hr =>
    have hk := h.le k
    obtain ⟨_, sh, h1, _⟩ := h
    exact .sliceU hk hn hU (by rw [(k.room _ _ _ h1).1, (k.room _ _ _ h1).2]; exact hr)
  | sliceE a b => exact .sliceE a b
  | sliceZ a b => exact .sliceZ a b
  | map h => exact .map (k.at_ _ _ _ h)
  | func h ha _ hc _ ih1 ih2 => exact .func (h.le k) ha ih1 hc ih2
  | iface _ ih => exact .iface ih
  | agg hs _ ih => exact .agg hs ih
  | tuple hs _ ih => exact .tuple hs ih
theorem LR.le {ρ σ : Ro} {l m : List Value} (h : LR ρ l m) (k : ρ.Le σ) : LR σ l m := ⟨h.1, fun i v w a b => (h.2 i v w a b).le k⟩
theorem LR.nil {ρ : Ro} : LR ρ [] [] := ⟨rfl, fun i v w h => by simp at h⟩
theorem LR.cons {ρ : Ro} {v w : Value} {l m : List Value} (h : VR ρ v w) (k : LR ρ l m) : LR ρ (v :: l) (w :: m) :=
  ⟨by simp [k.1], fun i => by
    cases i with
    | zero => simp only [List.getElem?_cons_zero, Option.some.injEq]; rintro _ _ rfl rfl; exact h
    | succ i => simp only [List.getElem?_cons_succ]; exact k.2 i⟩
theorem LR.head {ρ : Ro} {v w : Value} {l m : List Value} (h : LR ρ (v :: l) (w :: m)) : VR ρ v w := h.2 0 v w rfl rfl
theorem LR.tail {ρ : Ro} {v w : Value} {l m : List Value} (h : LR ρ (v :: l) (w :: m)) : LR ρ l m := ⟨by simpa using h.1, fun i => h.2 (i + 1)⟩
theorem LR.cons_inv {ρ : Ro} {v : Value} {l m : List Value} (h : LR ρ (v :: l) m) : ∃ w m', m = w :: m' ∧ VR ρ v w ∧ LR ρ l m' := by
  cases m with
  | nil => exact absurd h.1 (by simp)
  | cons w m => exact ⟨w, m, rfl, h.head, h.tail⟩
theorem LR.nil_inv {ρ : Ro} {m : List Value} (h : LR ρ [] m) : m = [] := List.length_eq_zero_iff.1 h.1.symm
theorem LR.append {ρ : Ro} : ∀ {l m l' m' : List Value}, LR ρ l m → LR ρ l' m' → LR ρ (l ++ l') (m ++ m')
  | [], m, _, _, h, k => by rw [h.nil_inv]; exact k
  | v :: l, m, _, _, h, k => by
    obtain ⟨w, m', rfl, h1, h2⟩ := h.cons_inv
    exact LR.cons h1 (h2.append k)
theorem LR.get {ρ : Ro} {l m : List Value} (h : LR ρ l m) {i : Nat} {v : Value} (hv : l[i]? = some v) : ∃ w, m[i]? = some w ∧ VR ρ v w := by
  have hi : i < m.length := by rw [← h.1]; exact (List.getElem?_eq_some_iff.1 hv).1
  exact ⟨m[i], by simp [hi], h.2 i v _ hv (by simp [hi])⟩
theorem LR.take {ρ : Ro} {l m : List Value} (h : LR ρ l m) (n : Nat) : LR ρ (l.take n) (m.take n) :=
  ⟨by simp [h.1], fun i v w a b => by
    rw [List.getElem?_take] at a b
    by_cases hi : i < n
    · rw [if_pos hi] at a b; exact h.2 i v w a b
    · rw [if_neg hi] at a; cases a⟩
theorem LR.drop {ρ : Ro} {l m : List Value} (h : LR ρ l m) (n : Nat) : LR ρ (l.drop n) (m.drop n) :=
  ⟨by simp [h.1], fun i v w a b => by rw [List.getElem?_drop] at a b; exact h.2 _ v w a b⟩
theorem LR.flat {ρ : Ro} : ∀ {l : List Value}, l.all plain1 = true → LR ρ l l
  | [], _ => LR.nil
  | v :: l, h => by
    rw [List.all_cons, Bool.and_eq_true] at h
    exact LR.cons (.flat h.1) (LR.flat h.2)
theorem LR.arr {ρ : Ro} {a b : Array Value} (h : LR ρ a.toList b.toList) : a.size = b.size ∧ ∀ (i : Nat) (v w : Value), a[i]? = some v → b[i]? = some w → VR ρ v w :=
  ⟨by simpa using h.1, fun i v w x y => h.2 i v w (by simpa using x) (by simpa using y)⟩
theorem LR.of_arr {ρ : Ro} {a b : Array Value} (hs : a.size = b.size) (h : ∀ (i : Nat) (v w : Value), a[i]? = some v → b[i]? = some w → VR ρ v w) : LR ρ a.toList b.toList :=
  ⟨by simpa using hs, fun i v w x y => h i v w (by simpa using x) (by simpa using y)⟩
theorem LR.toArr {ρ : Ro} {l m : List Value} (h : LR ρ l m) : VR ρ (.agg l.toArray) (.agg m.toArray) := .agg (LR.arr (by simpa using h)).1 (LR.arr (a := l.toArray) (b := m.toArray) (by simpa using h)).2
/-- What is plain is itself. -/
theorem plain_flat {ρ : Ro} {v : Value} (h : plain v = true) : VR ρ v v := by
  cases v with
  | agg cs =>
    have h1 : cs.toList.all plain1 = true := by rw [← allL_eq]; exact h
    have h2 := LR.flat (ρ := ρ) h1
    exact .agg rfl (LR.arr h2).2
  | tuple cs =>
    have h1 : cs.toList = [] := List.isEmpty_iff.1 h
    refine .tuple rfl fun i v w hv => ?_
    have : cs = #[] := by apply Array.toList_inj.1; simpa using h1
    rw [this] at hv
    simp at hv
  | _ => exact .flat h
/-- What a plain value is related to. -/
theorem flat_inv {ρ : Ro} {v w : Value} (h : plain1 v = true) (k : VR ρ v w) : w = v := by
  cases k with
  | flat _ => rfl
  | top _ => simp [plain1] at h
  | ptr _ => simp [plain1] at h
  | slice _ _ => simp [plain1] at h
  | sliceU _ _ _ _ => simp [plain1] at h
  | sliceE _ _ => simp [plain1] at h
  | sliceZ _ _ => simp [plain1] at h
  | map _ => simp [plain1] at h
  | func _ _ _ _ _ => simp [plain1] at h
  | iface _ => simp [plain1] at h
  | agg _ _ => simp [plain1] at h
  | tuple _ _ => simp [plain1] at h
theorem plain_inv {ρ : Ro} {v w : Value} (h : plain v = true) (k : VR ρ v w) : w = v := by
  cases v with
  | agg cs =>
    have h1 : cs.toList.all plain1 = true := by rw [← allL_eq]; exact h
    cases k with
    | flat h => simp [plain1] at h
    | agg hs hk =>
      rename_i ds
      congr 1
      apply Array.ext hs.symm
      intro i h2 h3
      have := hk i cs[i] ds[i] (by simp [h3]) (by simp [h2])
      exact flat_inv (by rw [List.all_eq_true] at h1; exact h1 _ (by simp)) this
  | tuple cs =>
    have h1 : cs.toList = [] := List.isEmpty_iff.1 h
    cases k with
    | flat h => simp [plain1] at h
    | tuple hs hk =>
      rename_i ds
      have e : cs = #[] := by apply Array.toList_inj.1; simpa using h1
      subst e
      congr 1
      exact Array.size_eq_zero_iff.1 hs.symm
  | _ => exact flat_inv h k

/-- What an entry of a map is. -/
def EntR (ρ : Ro) (es fs : List MapEntry) : Prop := es.length = fs.length ∧ ∀ (i : Nat) (e f : MapEntry), es[i]? = some e → fs[i]? = some f → VR ρ e.key f.key ∧ VR ρ e.val f.val ∧ e.born = f.born
def outCode : Out → Code
  | .exit i => .exit i
  | .goto l => .goto l
  | .ret => .ret
/-- A frame's temporaries. -/
def FrR (ρ : Ro) (n lv : Nat) (t : Tr Value) (a : Array Value) : Prop := a.size = n ∧ ∀ x v, bitOf lv x = true → t.get x = some v → ∃ w, a[x]? = some w ∧ VR ρ v w
theorem FrR.le {ρ σ : Ro} {n lv : Nat} {t : Tr Value} {a : Array Value} (h : FrR ρ n lv t a) (k : ρ.Le σ) : FrR σ n lv t a :=
  ⟨h.1, fun x v hx hv => let ⟨w, h1, h2⟩ := h.2 x v hx hv; ⟨w, h1, h2.le k⟩⟩
theorem EntR.le {ρ σ : Ro} {es fs : List MapEntry} (h : EntR ρ es fs) (k : ρ.Le σ) : EntR σ es fs :=
  ⟨h.1, fun i e f x y => ⟨(h.2 i e f x y).1.le k, (h.2 i e f x y).2.1.le k, (h.2 i e f x y).2.2⟩⟩
/-- What a block says of an object. -/
def ObR (P : Program) (ρ : Ro) (o : Ob) (B sh : Nat) (x : Obj) : Prop :=
  match o with
  | .row cs ty _ _ => ∃ c e fz, x = .cells c e fz ∧ c.size = ρ.room B ∧ sizeT P ty = some (ρ.esz B) ∧ sh + cs.length ≤ c.size ∧ (fz.1 = fz.2 ∨ c.size ≤ fz.1) ∧ (isU8T (ti P ty) = false → fz.1 = fz.2) ∧
      ∀ (i : Nat) (v w : Value), cs[i]? = some v → c[sh + i]? = some w → VR ρ v w
  | .map es k => sh = 0 ∧ ∃ fs, x = .map fs k ∧ EntR ρ es fs.toList
  | .loop st pend fn tm ps sg bo bl => sh = 0 ∧ ∃ r : Loop, x = .loop r ∧ r.state = st ∧ r.pending = pend.map outCode ∧ r.params.toList = ps ∧ r.assign = sg ∧ r.body = bo ∧ FrR ρ (tmpsF P fn) (liveF P fn) tm r.tmps ∧ ρ.at_ bl = some (r.defers, 0)
  | .defs b => sh = 0 ∧ x = .deferred (if b = true then some [] else none)
theorem ObR.le {P : Program} {ρ σ : Ro} {o : Ob} {b B sh : Nat} {x : Obj} (h : ObR P ρ o B sh x) (k : ρ.Le σ) (hb : ρ.at_ b = some (B, sh)) : ObR P σ o B sh x := by
  cases o with
  | row cs ty f base =>
    obtain ⟨c, e, fz, h1, h2, h3, h4, h5, h6, h7⟩ := h
    exact ⟨c, e, fz, h1, by rw [(k.room _ _ _ hb).1]; exact h2, by rw [(k.room _ _ _ hb).2]; exact h3, h4, h5, h6, fun i v w x y => (h7 i v w x y).le k⟩
  | map es c => obtain ⟨h1, fs, h2, h3⟩ := h; exact ⟨h1, fs, h2, h3.le k⟩
  | loop st pend fn tm ps sg bo bl =>
    obtain ⟨h1, r, h2, h3, h4, h6, h7, h8, h9, h10⟩ := h
    exact ⟨h1, r, h2, h3, h4, h6, h7, h8, h9.le k, k.at_ _ _ _ h10⟩
  | defs b => exact h
def isRow : Ob → Bool
  | .row .. => true
  | _ => false
/-- The abstract heap S says of the world W, by the places ρ. -/
structure Sim (P : Program) (ρ : Ro) (S : St) (W : World) : Prop where
  low : ∀ b B sh, ρ.at_ b = some (B, sh) → b < S.nx ∧ B < W.heap.size
  new : ∀ b o, S.h.get b = some o → b < S.nx
  ob : ∀ b o B sh, S.h.get b = some o → ρ.at_ b = some (B, sh) → ∃ x, W.heap[B]? = some x ∧ ObR P ρ o B sh x
  fam : ∀ b b' o o' B sh sh', b ≠ b' → S.h.get b = some o → S.h.get b' = some o' → ρ.at_ b = some (B, sh) → ρ.at_ b' = some (B, sh') →
    ∃ cs ty f base cs' base', o = .row cs ty f base ∧ o' = .row cs' ty f base' ∧ f ≠ 0 ∧ base + sh' = base' + sh
  mem : ∀ b cs ty f base, S.h.get b = some (.row cs ty f base) → f ≠ 0 → f < S.nf ∧ ∃ l, S.fam.get f = some l ∧ b ∈ l
  base : ∀ b b' B sh sh', b < lowB → lowB ≤ b' → ρ.at_ b = some (B, sh) → ρ.at_ b' = some (B, sh') → False
  glob : True
  nf : 0 < S.nf
  nx : lowB ≤ S.nx
/-- From one pair to a later one: blocks are placed anew from number N on. -/
structure Ext (N : Nat) (ρ : Ro) (W : World) (σ : Ro) (W' : World) : Prop where
  le : ρ.Le σ
  fresh : ∀ b, ρ.at_ b = none → σ.at_ b ≠ none → N ≤ b
  size : W.heap.size ≤ W'.heap.size
  keep : ∀ B, B < W.heap.size → (∀ b sh, lowB ≤ b → ρ.at_ b ≠ some (B, sh)) → W'.heap[B]? = W.heap[B]?
  old : ∀ b B sh, σ.at_ b = some (B, sh) → ρ.at_ b = none → lowB ≤ b ∧ (W.heap.size ≤ B ∨ ∃ b0 sh0, lowB ≤ b0 ∧ ρ.at_ b0 = some (B, sh0))
  os : W'.os = W.os
  tape : W'.tape = W.tape
  output : W'.output = W.output
theorem Ext.refl (N : Nat) (ρ : Ro) (W : World) : Ext N ρ W ρ W :=
  ⟨.refl ρ, fun _ h k => absurd h k, Nat.le_refl _, fun _ _ _ => rfl, fun _ _ _ h k => (by rw [h] at k; cases k), rfl, rfl, rfl⟩
theorem Ext.mono {N M : Nat} {ρ σ : Ro} {W W' : World} (h : Ext N ρ W σ W') (hm : M ≤ N) : Ext M ρ W σ W' := { h with fresh := fun b h1 h2 => Nat.le_trans hm (h.fresh b h1 h2) }
theorem Ext.any {N : Nat} (M : Nat) {ρ : Ro} {W W' : World} (h : Ext N ρ W ρ W') : Ext M ρ W ρ W' := { h with fresh := fun _ h1 h2 => absurd h1 h2 }
theorem Ext.trans {N : Nat} {ρ σ τ : Ro} {W W' W'' : World} (h : Ext N ρ W σ W') (k : Ext N σ W' τ W'') : Ext N ρ W τ W'' where
  le := h.le.trans k.le
  fresh := fun b h1 h2 => by
    cases hs : σ.at_ b with
    | none => exact k.fresh b hs h2
    | some p => exact h.fresh b h1 (by rw [hs]; simp)
  size := Nat.le_trans h.size k.size
  keep := fun B hB hn => by
    rw [k.keep B (Nat.lt_of_lt_of_le hB h.size) (fun b sh hb hs => ?_), h.keep B hB hn]
    cases hr : ρ.at_ b with
    | none =>
      rcases (h.old b B sh hs hr).2 with h1 | ⟨b0, sh0, h1, h2⟩
      · omega
      · exact hn b0 sh0 h1 h2
    | some p =>
      obtain ⟨B', sh'⟩ := p
      have := h.le.at_ b B' sh' hr
      rw [hs] at this
      cases this
      exact hn b sh hb hr
  old := fun b B sh ht hr => by
    cases hs : σ.at_ b with
    | some p =>
      obtain ⟨B', sh'⟩ := p
      have := k.le.at_ b B' sh' hs
      rw [ht] at this
      cases this
      exact h.old b B sh hs hr
    | none =>
      obtain ⟨h1, h2⟩ := k.old b B sh ht hs
      refine ⟨h1, ?_⟩
      rcases h2 with h2 | ⟨b0, sh0, h2, h3⟩
      · exact .inl (Nat.le_trans h.size h2)
      · cases hr0 : ρ.at_ b0 with
        | none => exact (h.old b0 B sh0 h3 hr0).2
        | some p =>
          obtain ⟨B', sh'⟩ := p
          have := h.le.at_ b0 B' sh' hr0
          rw [h3] at this
          cases this
          exact .inr ⟨b0, sh0, h2, hr0⟩
  os := k.os.trans h.os
  tape := k.tape.trans h.tape
  output := k.output.trans h.output
/-- The world alone goes on: blocks that are told of say the same. -/
theorem Sim.drew {P : Program} {ρ : Ro} {S : St} {W : World} (h : Sim P ρ S W) : Sim P ρ S W.drew := ⟨h.low, h.new, h.ob, h.fam, h.mem, h.base, h.glob, h.nf, h.nx⟩
theorem Ext.drew (N : Nat) (ρ : Ro) (W : World) : Ext N ρ W ρ W.drew :=
  ⟨.refl ρ, fun _ h k => absurd h k, Nat.le_refl _, fun _ _ _ => rfl, fun _ _ _ h k => (by rw [h] at k; cases k), rfl, rfl, rfl⟩
end Go.Proofs.YtnfclcfcpgfajaaGreatDoor.Ev
