/- A type with all facts in it: the model, and the program's. -/
import Derived.Test.YticjpeefhppjoaaDoorTyRo
import Derived.Deep.CutRange
namespace Go.Proofs.YticjpeefhppjoaaDoor
open Go.RowKit

def fullL (f : Ty → Int → Option (Ty × Int)) : List Ty → Int → List Ty → Option (List Ty × Int)
  | [], left, acc => some (acc, left)
  | a :: r, left, acc => if left < 0 then some (acc, left) else match f a left with
    | none => none
    | some (t, y) => fullL f r y (acc ++ [t])
/-- A type with all facts in it, so deep; and how many parts are left. -/
def fullP (L : List Fa) : Nat → Ty → Int → Option (Ty × Int)
  | 0, t, _ => match walkT L (L.length + 1) t with
    | none => none
    | some x => some (.mk x.name x.n [], -1)
  | d + 1, t, left => match walkT L (L.length + 1) t with
    | none => none
    | some x => match fullL (fullP L d) x.args (left - 1) [] with
      | none => none
      | some (rs, y) => some (.mk x.name x.n rs, y)

theorem fullL_le {f : Ty → Int → Option (Ty × Int)} (hf : ∀ t left out, f t left = some out → 0 ≤ left → -1 ≤ out.2 ∧ out.2 ≤ left) : ∀ (l : List Ty) (left : Int) (acc : List Ty) (out : List Ty × Int), fullL f l left acc = some out → -1 ≤ left → -1 ≤ out.2 ∧ out.2 ≤ left
  | [], left, acc, out, h, h0 => by simp [fullL] at h; rw [← h]; exact ⟨h0, Int.le_refl _⟩
  | a :: r, left, acc, out, h, h0 => by
    simp only [fullL] at h
    by_cases hl : left < 0
    · rw [if_pos hl] at h; simp at h; rw [← h]; exact ⟨h0, Int.le_refl _⟩
    · rw [if_neg hl] at h
      cases hc : f a left with
      | none => rw [hc] at h; simp at h
      | some p =>
        rw [hc] at h
        have h1 := hf a left p hc (by omega)
        have h2 := fullL_le hf r p.2 _ out h h1.1
        omega
theorem fullP_le (L : List Fa) : ∀ (d : Nat) (t : Ty) (left : Int) (out : Ty × Int), fullP L d t left = some out → 0 ≤ left → -1 ≤ out.2 ∧ out.2 ≤ left
  | 0, t, left, out, h, h0 => by
    simp only [fullP] at h
    cases hw : walkT L (L.length + 1) t with
    | none => rw [hw] at h; simp at h
    | some x => rw [hw] at h; simp at h; rw [← h]; simp; omega
  | d + 1, t, left, out, h, h0 => by
    simp only [fullP] at h
    cases hw : walkT L (L.length + 1) t with
    | none => rw [hw] at h; simp at h
    | some x =>
      rw [hw] at h
      simp only at h
      cases hl : fullL (fullP L d) x.args (left - 1) [] with
      | none => rw [hl] at h; simp at h
      | some p =>
        rw [hl] at h
        simp at h
        have := fullL_le (fullP_le L d) _ _ _ _ hl (by omega)
        rw [← h]
        simp only
        omega
/-- What full walks to, and the loop over it. -/
theorem fullP_open {L : List Fa} {d : Nat} {t : Ty} {left : Int} {out : Ty × Int} (h : fullP L d t left = some out) : ∃ x rs f, walkT L (L.length + 1) t = some x ∧ fullL f x.args (if d = 0 then -1 else left - 1) [] = some (rs, out.2) ∧ out.1 = .mk x.name x.n rs ∧ ∀ d', d = d' + 1 → f = fullP L d' := by
  cases d with
  | zero =>
    simp only [fullP] at h
    cases hw : walkT L (L.length + 1) t with
    | none => rw [hw] at h; simp at h
    | some x =>
      rw [hw] at h
      simp at h
      refine ⟨x, [], fun _ _ => none, rfl, ?_, by rw [← h], fun d' hd => by omega⟩
      rw [if_pos rfl, ← h]
      cases x.args <;> simp [fullL]
  | succ d =>
    simp only [fullP] at h
    cases hw : walkT L (L.length + 1) t with
    | none => rw [hw] at h; simp at h
    | some x =>
      rw [hw] at h
      simp only at h
      cases hl : fullL (fullP L d) x.args (left - 1) [] with
      | none => rw [hl] at h; simp at h
      | some p =>
        rw [hl] at h
        simp at h
        obtain ⟨rs, y⟩ := p
        refine ⟨x, rs, fullP L d, rfl, ?_, by rw [← h], fun d' hd => by rw [show d = d' from by omega]⟩
        rw [if_neg (by omega), hl, ← h]
theorem fullL_stop {f : Ty → Int → Option (Ty × Int)} {l : List Ty} {left : Int} {acc : List Ty} {out : List Ty × Int} (h : fullL f l left acc = some out) (hl : left < 0 ∨ l = []) : out = (acc, left) := by
  cases l with
  | nil => simp only [fullL] at h; exact (Option.some.inj h).symm
  | cons a r =>
    rcases hl with hl | hl
    · simp only [fullL] at h; rw [if_pos hl] at h; exact (Option.some.inj h).symm
    · cases hl
theorem fullL_go {f : Ty → Int → Option (Ty × Int)} {a : Ty} {r : List Ty} {left : Int} {acc : List Ty} {out : List Ty × Int} (h : fullL f (a :: r) left acc = some out) (hl : 0 ≤ left) : ∃ p, f a left = some p ∧ fullL f r p.2 (acc ++ [p.1]) = some out := by
  simp only [fullL] at h
  rw [if_neg (by omega)] at h
  cases hc : f a left with
  | none => rw [hc] at h; simp at h
  | some p => rw [hc] at h; exact ⟨p, rfl, h⟩

/-- How many parts are left, in a block of its own. -/
def LfIs (w : World) (lb : Nat) (left : Int) : Prop := w.heap[lb]? = some (.cells #[.int .i64 left] 3 (0, 0))
theorem LfIs.lt {w : World} {lb : Nat} {left : Int} (h : LfIs w lb left) : lb < w.heap.size := (Array.getElem?_eq_some_iff.1 h).1
theorem LfIs.at {w w' : World} {lb : Nat} {left : Int} (h : LfIs w lb left) (hk : w'.heap[lb]? = w.heap[lb]?) : LfIs w' lb left := hk.trans h
theorem LfIs.below {w w' : World} {B lb : Nat} {left : Int} (h : LfIs w lb left) (hb : Below B w w') (hB : lb < B) : LfIs w' lb left := h.at (hb.block _ hB)
theorem LfIs.cell {w : World} {lb : Nat} {left : Int} (h : LfIs w lb left) : w.cell? ⟨lb, 0, none⟩ = some (.int .i64 left) ∧ w.frozen? ⟨lb, 0, none⟩ = false := by
  unfold LfIs at h
  constructor <;> simp [World.cell?, World.frozen?, h]
theorem LfIs.set {w : World} {lb : Nat} {left : Int} (h : LfIs w lb left) (y : Int) : LfIs (w.setCell ⟨lb, 0, none⟩ (.int .i64 y)) lb y ∧ BelowB w.heap.size lb w (w.setCell ⟨lb, 0, none⟩ (.int .i64 y)) ∧ (w.setCell ⟨lb, 0, none⟩ (.int .i64 y)).heap.size = w.heap.size := by
  refine ⟨?_, ⟨rfl, rfl, rfl, by simp [World.setCell], fun i _ hi => Below.heap_setCell _ _ _ _ (fun e => hi e)⟩, by simp [World.setCell]⟩
  unfold LfIs at h ⊢
  simp [World.setCell, Array.getElem?_modify, h]
theorem OutIs.belowB {X : Nat → Prop} {w W : World} {bp lb : Nat} {s : Str} {n : Int} {v : Value} {m : Nat} {es : List Ty} (h : OutIs X w bp s n v m es) (hb : BelowB w.heap.size lb w W) (hX : X lb) (hl : lb < bp) : OutIs X W bp s n v m es := by
  have h1 := h.lt
  obtain ⟨h2, cs, hm, h3, h4⟩ := h
  refine ⟨(hb.block bp h1 (by omega)).trans h2, cs, hm, ownsRow_heap h3 fun g hg => hb.block g (ownBlock_ge h3 hg).2 (by have := (ownBlock_ge h3 hg).1; omega), h4.later ⟨hb.size, fun a v hx hv => ?_⟩ fun b _ h => h⟩
  have hbl := cell_block hv
  rw [World.cell?_of_block (hb.block a.block hbl (fun e => hx (.inl (by rw [e]; exact hX))))]
  exact hv

/-- Behind the call of full: the part, what is left. -/
def AftC (wa : World) (lb : Nat) (Xc : Nat → Prop) (p : Ty × Int) (V : World) (x : Value) : Prop := ∃ us un ua um uc, x = .agg #[.string us, .int .i64 un, .slice ua um uc] ∧ TyX Xc V (.agg #[.string us, .int .i64 un, .slice ua um uc]) p.1 ∧ LfIs V lb p.2 ∧ BelowB wa.heap.size lb wa V
/-- Behind that the part lies in a slice of its own. -/
def AftB (wa : World) (lb : Nat) (Xc : Nat → Prop) (p : Ty × Int) (V : World) (y : Value) : Prop := ∃ w1 us un ua um uc, (TyX Xc w1 (.agg #[.string us, .int .i64 un, .slice ua um uc]) p.1 ∧ LfIs w1 lb p.2 ∧ BelowB wa.heap.size lb wa w1) ∧ V = w1.alloc (.cells #[.string us, .int .i64 un, .slice ua um uc] 24) ∧ y = .slice (some ⟨w1.heap.size, 0, none⟩) 1 1

theorem KeepsBut.belowB {w₀ w W : World} {lb : Nat} (h0 : KeepsBut (fun _ => False) w₀ w) (hl : w₀.heap.size ≤ lb) (hb : BelowB w.heap.size lb w W) : KeepsBut (fun _ => False) w₀ W := ⟨Nat.le_trans h0.1 hb.size, fun a v hx hv => by
  have h1 := h0.2 a v hx hv
  rw [World.cell?_of_block (hb.block a.block (cell_block h1) (by have := cell_block hv; omega))]
  exact h1⟩

set_option maxHeartbeats 4000000 in
set_option maxRecDepth 100000 in
theorem ty_full (w₀ : World) (mk mb lb : Nat) (L : List Fa) (hlk : lb ≠ mk) (hlm : lb ≠ mb) (hl0 : w₀.heap.size ≤ lb) (hcL : CntL L) : ∀ (d : Nat) (e : Ty) (di left : Int) (va : Value) (w : World) (X : Nat → Prop) (out : Ty × Int), fullP L d e left = some out → di = (d : Int) → d ≤ 1000 → 0 ≤ left → left ≤ 100000 → tcnt e ≤ 100000 → MkIs w mk mb → MpIs w₀ w mb L → IsTy w₀ va e → KeepsBut (fun _ => False) w₀ w → LfIs w lb left → (∀ b, X b → b < w.heap.size) →
    Calls Tryd.prog 47 #[.pointer (some ⟨mk, 0, none⟩), va, .int .i64 di, .pointer (some ⟨lb, 0, none⟩)] w fun z w' => ∃ u, z = .returned u ∧ TyX X w' u out.1 ∧ LfIs w' lb out.2 ∧ BelowB w.heap.size lb w w' := by
  intro d
  induction d using Nat.strongRecOn with
  | _ d ih =>
  intro e di left va w X out h hdi hd hl hl9 hce hk hm hva h0 hlf hX
  obtain ⟨x, rs, f, hx, hL, ho, hf⟩ := fullP_open h
  have hcx := walkT_cnt hcL _ _ _ hx hce
  obtain ⟨s, n, l⟩ := e
  have hva' := Lib.hid hva
  obtain ⟨aa, ac, rfl, _, hn, _⟩ := hva.open
  have hk' := Lib.hid hk
  have hm' := Lib.hid hm
  have hlf' := Lib.hid hlf
  have h0' := Lib.hid h0
  have ih' := Lib.hid ih
  have hX' := Lib.hid hX
  have hx' := Lib.hid hx
  have hL' := Lib.hid hL
  have hf' := Lib.hid hf
  have ho' := Lib.hid ho
  have hmk := hk.lt
  have hmb := hm.lt
  have hlb := hlf.lt
  obtain ⟨W1, hW1⟩ : ∃ W, (w.alloc (.cells #[.string s, .int .i64 n, .slice aa l.length ac] 24)).alloc (.cells #[.string ⟨#[]⟩, .int .i64 0, .slice none 0 0] 24) = W := ⟨_, rfl⟩
  have hz1 : W1.heap.size = w.heap.size + 2 := by rw [← hW1]; simp
  have hb1 : Below w.heap.size w W1 := by rw [← hW1]; exact ((Below.refl _ w).alloc (Nat.le_refl _) _).alloc (by simp) _
  have hba : BoxT W1 w.heap.size (.string s) (.int .i64 n) (.slice aa l.length ac) := by rw [← hW1]; exact new_block ((Below.refl _ _).alloc (by simp) _)
  have hbr : BoxT W1 (w.heap.size + 1) (.string ⟨#[]⟩) (.int .i64 0) (.slice none 0 0) := by rw [← hW1]; exact new_block2 (Below.refl _ _)
  have hlf1 : LfIs W1 lb left := hlf.below hb1 hlb
  obtain ⟨q0, q1⟩ := hlf1.cell
  have hs1 := hlf1.set (left - 1)
  have hW1' := Lib.hid hW1
  have hb1' := Lib.hid hb1
  have hba' := Lib.hid hba
  have hbr' := Lib.hid hbr
  have hs1' := Lib.hid hs1
  clear hva hk hm hlf h0 ih hX hx hL hf ho h hW1 hb1 hba hbr hlf1 hs1
  go_enter Tryd.func47, Tryd.ntmps47
  go_upto_region 1 with (fail)
  rw [hW1'.out]
  go_upto_if 18 with (fail)
  obtain ⟨U0, hU0⟩ : ∃ U, W1.setCell ⟨lb, 0, none⟩ (.int .i64 (left - 1)) = U := ⟨_, rfl⟩
  have hU0f : LfIs U0 lb (left - 1) ∧ BelowB W1.heap.size lb W1 U0 := by rw [← hU0]; exact ⟨hs1'.out.1, hs1'.out.2.1⟩
  rw [hU0]
  have hU0f' := Lib.hid hU0f
  clear hU0 q0 q1 hU0f hs1'
  go_cut [] from 19 to 20 (fun U => LfIs U lb (if d = 0 then -1 else left - 1) ∧ BelowB W1.heap.size lb W1 U)
  case first =>
    obtain ⟨q0, q1⟩ := hU0f'.out.1.cell
    by_cases hd0 : d = 0
    · have hs2 := Lib.hid (hU0f'.out.1.set (-1))
      go_wp2_with fail
      go_meet
      case rel => exact ⟨by rw [if_pos hd0]; exact hs2.out.1, hU0f'.out.2.trans (hs2.out.2.1.mono hU0f'.out.2.size)⟩
    · go_wp2_with fail
      go_meet
      case rel => exact ⟨by rw [if_neg hd0]; exact hU0f'.out.1, hU0f'.out.2⟩
  case rest =>
  obtain ⟨hlfU, hBU⟩ := hcut
  obtain ⟨U, rfl⟩ : ∃ U, U = wc := ⟨_, rfl⟩
  have hlU := Lib.hid hlfU
  have hwU := Lib.hid ((BelowB.of_below (mb := lb) hb1'.out).trans (hBU.mono (by omega)))
  have hzU := hBU.size
  have hkU := Lib.hid ((hwU.out.block mk hmk (fun e => hlk e.symm)).trans hk'.out)
  have hmU := Lib.hid (hm'.out.at (hwU.out.block mb hmb (fun e => hlm e.symm)))
  have hba : BoxT U w.heap.size (.string s) (.int .i64 n) (.slice aa l.length ac) := (hBU.block _ (by omega) (by omega)).trans hba'.out
  have hbr : BoxT U (w.heap.size + 1) (.string ⟨#[]⟩) (.int .i64 0) (.slice none 0 0) := (hBU.block _ (by omega) (by omega)).trans hbr'.out
  have hbr2 := Lib.hid hbr
  have hba2 := Lib.hid hba
  have hct := Lib.hid (ty_walk w₀ mk mb L _ _ x _ U hx'.out hkU.out hmU.out hva'.out)
  obtain ⟨q0, q1, q2⟩ := hba.cells
  clear hlfU hBU hba hbr hU0f'
  go_wp2_with fail
  refine hct.out.mono ?_
  rintro e U2 ⟨u, rfl, hu, hB2⟩
  obtain ⟨y4, c4, rfl⟩ := hu.form
  have hu' := Lib.hid hu
  have hzU2 := hB2.size
  have hB2' := Lib.hid hB2
  have hba3 := hba2.out.below hB2 hba2.out.lt
  have hbx := Lib.hid (hba3.set (.string x.name) (.int .i64 x.n) (.slice y4 x.args.length c4))
  have f0 : U2.frozen? ⟨w.heap.size, 0, none⟩ = false := by unfold BoxT at hba3; simp [World.frozen?, hba3]
  have f1 : U2.frozen? ⟨w.heap.size, 1, none⟩ = false := by unfold BoxT at hba3; simp [World.frozen?, hba3]
  have f2 : U2.frozen? ⟨w.heap.size, 2, none⟩ = false := by unfold BoxT at hba3; simp [World.frozen?, hba3]
  clear q0 q1 q2 hu hB2
  obtain ⟨q0, q1, q2⟩ := hba3.cells
  clear hba3
  go_upto_region 5 with (fail)
  change Code.wp _ _ _ _ (World.box3 U2 w.heap.size (.string x.name) (.int .i64 x.n) (.slice y4 x.args.length c4))
  obtain ⟨U3, hU3⟩ : ∃ U, World.box3 U2 w.heap.size (.string x.name) (.int .i64 x.n) (.slice y4 x.args.length c4) = U := ⟨_, rfl⟩
  have hbx3 := hbx.out
  rw [hU3] at hbx3 ⊢
  obtain ⟨hx3, hB3, hzU3, hk3⟩ := hbx3
  have hBU3 : BelowB w.heap.size lb w U3 := hwU.out.trans ((BelowB.of_below hB2'.out).mono hwU.out.size |>.trans (BelowB.of_below hB3))
  have hl3 : LfIs U3 lb (if d = 0 then -1 else left - 1) := (hlU.out.below hB2'.out hlU.out.lt).at (hk3 lb (by omega))
  have hr3 : BoxT U3 (w.heap.size + 1) (.string ⟨#[]⟩) (.int .i64 0) (.slice none 0 0) := (hk3 _ (by omega)).trans (hbr2.out.below hB2'.out hbr2.out.lt)
  have hBU3' := Lib.hid hBU3
  have hl3' := Lib.hid hl3
  have hr3' := Lib.hid hr3
  have hx3' := Lib.hid hx3
  clear q0 q1 q2 f0 f1 f2 hbx hU3 hB3 hk3 hBU3 hl3 hr3
  obtain ⟨q0, q1, q2⟩ := hx3.cells
  clear hx3
  have hsz3 : w.heap.size + 2 ≤ U3.heap.size := by omega
  have hvl : w.heap.size < U3.heap.size := by omega
  have hzU3' := Lib.hid hzU3
  clear hzU3
  have hxo : ∃ a c, Value.agg #[.string x.name, .int .i64 x.n, .slice y4 x.args.length c4] = .agg #[.string x.name, .int .i64 x.n, .slice a x.args.length c] ∧ (-9223372036854775808 ≤ x.n ∧ x.n ≤ 9223372036854775807) ∧ x.name.size ≤ lenMax ∧ x.args.length ≤ lenMax := by
    have h := hu'.out
    obtain ⟨s', n', l'⟩ := x
    obtain ⟨a, c, h1, _, h2, h3, h4, _⟩ := TyX.open h
    exact ⟨a, c, h1, h2, h3, h4⟩
  obtain ⟨_, _, _, hxn, hxs, hxl⟩ := hxo
  have hxl2 := hxl
  unfold lenMax at hxl2
  have hxs' := Lib.hid hxs
  have hxl' := Lib.hid hxl
  clear hxs hxl
  go_wp2_with fail
  go_loopw [32] (fun i wr => ∃ (k : Nat) (vv : Value) (es : List Ty) (lf : Int), k ≤ x.args.length ∧ i = .int .i64 k ∧ Hid (fullL f (x.args.drop k) lf es = some (rs, out.2)) ∧ Hid (OutIs (fun b => X b ∨ b = lb ∨ b = w.heap.size + 1) wr U3.heap.size x.name x.n vv k es) ∧ Hid (LfIs wr lb lf) ∧ Hid (-1 ≤ lf ∧ lf ≤ left ∧ (d = 0 → lf = -1)) ∧ Hid (BelowB U3.heap.size lb U3 wr)) (fun i _ => x.args.length - (intOf i).toNat)
  case atStart =>
    refine ⟨0, _, [], _, by omega, rfl, hL'.out, OutIs.new rfl, hl3'.out.below ((Below.refl _ _).alloc (Nat.le_refl _) _) hl3'.out.lt, ?_, BelowB.of_below ((Below.refl _ _).alloc (Nat.le_refl _) _)⟩
    by_cases hd0 : d = 0
    · rw [if_pos hd0]; exact ⟨by omega, by omega, fun _ => rfl⟩
    · rw [if_neg hd0]; exact ⟨by omega, by omega, fun h => absurd h hd0⟩
  case round =>
    clear q0 q1 q2
    obtain ⟨k, vv, es, lf, hk, rfl, hF, hO, hlf, hlr, hBr⟩ := hrel
    obtain ⟨va, vc, rfl, hvn⟩ := hO.out.form
    have hlt := hO.out.lt
    have hzr := hBr.out.size
    have hwr := Lib.hid (hBU3'.out.trans (hBr.out.mono (by omega)))
    have hlbU : lb < U3.heap.size := hl3'.out.lt
    by_cases h1 : k < x.args.length
    · obtain ⟨b, off, rfl, hax⟩ := (IsTy.row hu'.out).arg (by intro e; rw [e] at h1; simp at h1)
      obtain ⟨a2, c2, g0, g1, g2, ge⟩ := hax k h1
      have hK0 := KeepsBut.belowB h0'.out hl0 hwr.out
      have hK0' := Lib.hid hK0
      have ge' := Lib.hid ge
      replace g0 := hK0.2 _ _ (fun h => h) g0
      replace g1 := hK0.2 _ _ (fun h => h) g1
      replace g2 := hK0.2 _ _ (fun h => h) g2
      obtain ⟨p0, p1⟩ := hlf.out.cell
      have hFd := hF.out
      rw [List.drop_eq_getElem_cons h1] at hFd
      have hFd' := Lib.hid hFd
      have hce2 : tcnt x.args[k] ≤ 100000 := by have := tcntL_mem (List.getElem_mem h1); have := args_cnt x; omega
      clear hax hK0 hFd ge
      go_upto_region 9 with (fail)
      obtain ⟨wa, hwa⟩ : ∃ W, wr.alloc (.cells #[.string x.args[k].name, .int .i64 x.args[k].n, .slice a2 x.args[k].args.length c2] 24) = W := ⟨_, rfl⟩
      have hBa : Below wr.heap.size wr wa := by rw [← hwa]; exact (Below.refl _ _).alloc (Nat.le_refl _) _
      have hza : wr.heap.size < wa.heap.size := by rw [← hwa]; simp
      have hbe : Hid (BoxT wa wr.heap.size (.string x.args[k].name) (.int .i64 x.args[k].n) (.slice a2 x.args[k].args.length c2)) := by rw [← hwa]; exact new_block (Below.refl _ _)
      rw [hwa]
      have hBa' := Lib.hid hBa
      clear p0 p1 g0 g1 g2 hwa hBa
      obtain ⟨p0, p1⟩ := (hlf.out.below hBa'.out hlf.out.lt).cell
      by_cases hneg : lf < 0
      · have hstop := Lib.hid (fullL_stop hFd'.out (.inl hneg))
        have hBf := hBa'.out
        have hOf := hO.out.below hBf
        obtain ⟨hc0, hc1, hc2, hcf⟩ := hOf.cells
        have hdone := Lib.hid (hOf.done (fun b hb => by
          rcases hb with hb | hb | hb
          · have := hX'.out b hb; omega
          · omega
          · omega) hxs'.out (by have := hxl'.out; unfold lenMax at this ⊢; omega) hxn)
        have hrr : Hid (BoxT wa (w.heap.size + 1) (.string ⟨#[]⟩) (.int .i64 0) (.slice none 0 0)) := BoxT.below ((hBr.out.block _ (by omega) (by omega)).trans hr3'.out) hBf (by omega)
        have hlff := Lib.hid (hlf.out.below hBf hlf.out.lt)
        have hwf := Lib.hid (hwr.out.trans ((BelowB.of_below hBf).mono (by have := hwr.out.size; omega)))
        obtain ⟨r0, r1, r2⟩ := hrr.out.cells
        have rf0 : wa.frozen? ⟨w.heap.size + 1, 0, none⟩ = false := frozen_of hrr.out 0
        have rf1 : wa.frozen? ⟨w.heap.size + 1, 1, none⟩ = false := frozen_of hrr.out 1
        have rf2 : wa.frozen? ⟨w.heap.size + 1, 2, none⟩ = false := frozen_of hrr.out 2
        clear hOf hBf
        go_wp2_with fail
        have hU := set_box3 hrr.out (.string x.name) (.int .i64 x.n) (.slice va k vc)
        have hU4 := (hrr.out.set (.string x.name) (.int .i64 x.n) (.slice va k vc)).2.2.2
        change bodyPost _ _ _ _ _ (World.box3 wa (w.heap.size + 1) (.string x.name) (.int .i64 x.n) (.slice va k vc))
        generalize World.box3 wa (w.heap.size + 1) (.string x.name) (.int .i64 x.n) (.slice va k vc) = Uf at hU hU4 ⊢
        obtain ⟨⟨u0, u1, u2⟩, hBU, -, hUk⟩ := hU
        clear r0 r1 r2 hc0 hc1 hc2
        refine bodyPost_ret (results_ty rfl _ _ rfl u0 u1 u2) rfl ?_
        have hes := hstop.out
        simp only [Prod.mk.injEq] at hes
        refine ⟨_, rfl, ?_, ?_, hwf.out.trans (BelowB.of_below (hBU.mono (by omega)))⟩
        · rw [ho'.out, hes.1]
          exact TyX.later (hUk.wider fun c hc => .inr (.inr hc)) (fun c _ hc => .inl hc) hdone.out
        · rw [hes.2]
          exact hlff.out.at (hU4 lb (by omega))
      · have hd1 : d ≠ 0 := fun h => by have := hlr.out.2.2 h; omega
        obtain ⟨d', hd'⟩ : ∃ d', d = d' + 1 := ⟨d - 1, by omega⟩
        obtain ⟨pp, hp1, hp2⟩ := fullL_go hFd'.out (by omega)
        have hf2 := hf'.out d' hd'
        rw [hf2] at hp1
        have hple := fullP_le L _ _ _ _ hp1 (by omega)
        have hp1' := Lib.hid hp1
        have hp2' := Lib.hid hp2
        have hlr' := hlr.out
        have hOa := hO.out.below hBa'.out
        obtain ⟨hc0, hc1, hc2, hcf⟩ := hOa.cells
        have hOa' := Lib.hid hOa
        obtain ⟨z0, z1, z2⟩ := hbe.out.cells
        have hdd : IntKind.i64.wrap ((d : Int) - 1) = (d : Int) - 1 := IntWalk.i64_in _ (by omega)
        have hX2 : Hid (∀ W : World, wa.heap.size ≤ W.heap.size → ∀ b, ((X b ∨ b = lb ∨ b = w.heap.size + 1) ∨ b = U3.heap.size ∨ (Value.slice va k vc).ownBlock = some b) → b < W.heap.size) := by
          rintro W hW b ((h | h | h) | h | h)
          · have := hX'.out b h; omega
          · omega
          · omega
          · omega
          · have := (hOa'.out.own h).2; omega
        have hwa0 := Lib.hid (hwr.out.trans ((BelowB.of_below hBa'.out).mono (by have := hwr.out.size; omega)))
        have hcall : Hid (∀ W, Below wa.heap.size wa W → Calls Tryd.prog 47 #[.pointer (some ⟨mk, 0, none⟩), .agg #[.string x.args[k].name, .int .i64 x.args[k].n, .slice a2 x.args[k].args.length c2], .int .i64 ((d : Int) - 1), .pointer (some ⟨lb, 0, none⟩)] W fun r w' => ∃ us un ua um uc, r = .returned (.agg #[.string us, .int .i64 un, .slice ua um uc]) ∧ TyX (fun b => (X b ∨ b = lb ∨ b = w.heap.size + 1) ∨ b = U3.heap.size ∨ (Value.slice va k vc).ownBlock = some b) w' (.agg #[.string us, .int .i64 un, .slice ua um uc]) pp.1 ∧ LfIs w' lb pp.2 ∧ BelowB W.heap.size lb W w') := by
          intro W hW
          have hwW : BelowB w.heap.size lb w W := hwa0.out.trans ((BelowB.of_below hW).mono (by have := hwa0.out.size; omega))
          refine (ih'.out d' (by omega) _ _ lf _ W (fun b => (X b ∨ b = lb ∨ b = w.heap.size + 1) ∨ b = U3.heap.size ∨ (Value.slice va k vc).ownBlock = some b) pp hp1'.out (by omega) (by omega) (by omega) (by omega) hce2 ((hwW.block mk hmk (fun e => hlk e.symm)).trans hk'.out) (hm'.out.at (hwW.block mb hmb (fun e => hlm e.symm))) ge'.out (KeepsBut.belowB h0'.out hl0 hwW) ((hlf.out.below hBa'.out hlf.out.lt).below hW (by omega)) (hX2.out W hW.size)).mono ?_
          rintro r w' ⟨u, rfl, hu, hlu, hB⟩
          obtain ⟨a, c, rfl⟩ := hu.form
          exact ⟨_, _, _, _, _, rfl, hu, hlu, hB⟩
        have ta := Tryd.isAgg24
        obtain ⟨i0, hi, hz0, hz1', hz2'⟩ := info_of Tryd.infoTy
        have hk63 : k + 1 ≤ maxLen := by unfold maxLen; omega
        have hk48 : (k + 1) * 48 ≤ 140737488355328 := by have := tcntL_len x.args; have := args_cnt x; omega
        have hd1h := Lib.hid hd1
        have hdh := Lib.hid hd'
        clear hp1 hp2 hOa hd' hd1
        go_upto_region 10 with (fail)
        refine wp_region_inv (fun f a Vr => ∃ x40 x41 x42 x43 x44 x45 x46 x47 x48 x49 x50, a = ⟨#[.pointer (some ⟨mk, 0, none⟩), .agg #[.string s, .int .i64 n, .slice aa l.length ac], .int .i64 (d : Int), .pointer (some ⟨lb, 0, none⟩), undef, .pointer (some ⟨w.heap.size, 0, none⟩), undef, undef, .pointer (some ⟨w.heap.size + 1, 0, none⟩), .pointer (some ⟨U3.heap.size, 0, none⟩), undef, .pointer (some ⟨wr.heap.size, 0, none⟩), .pointer (some ⟨lb, 0, none⟩), .pointer (some ⟨lb, 0, none⟩), .int .i64 left, .int .i64 (left - 1), .pointer (some ⟨lb, 0, none⟩), .int .i64 (d : Int), .bool (decide (d = 0)), u19, u20, .pointer (some ⟨mk, 0, none⟩), .agg #[.string s, .int .i64 n, .slice aa l.length ac], .agg #[.string x.name, .int .i64 x.n, .slice (some ⟨b, off, none⟩) x.args.length c4], .pointer (some ⟨w.heap.size, 0, none⟩), .string x.name, .pointer (some ⟨w.heap.size, 1, none⟩), .int .i64 x.n, .agg #[.string x.name, .int .i64 x.n, .slice none 0 0], .pointer (some ⟨w.heap.size, 2, none⟩), .slice (some ⟨b, off, none⟩) x.args.length c4, .int .i64 (x.args.length : Int), .int .i64 (k : Int), .bool true, .pointer (some ⟨b, off + k * 3, none⟩), .agg #[.string x.args[k].name, .int .i64 x.args[k].n, .slice a2 x.args[k].args.length c2], .pointer (some ⟨lb, 0, none⟩), .pointer (some ⟨lb, 0, none⟩), .int .i64 lf, .bool false, x40, x41, x42, x43, x44, x45, x46, x47, x48, x49, x50, u51, undef], []⟩ ∧ (f 0 = true → x40 = .pointer (some ⟨U3.heap.size, 2, none⟩)) ∧ (f 1 = true → x41 = .slice va k vc) ∧ (f 2 = true → x42 = .pointer (some ⟨mk, 0, none⟩)) ∧ (f 3 = true → x43 = .agg #[.string x.args[k].name, .int .i64 x.args[k].n, .slice a2 x.args[k].args.length c2]) ∧ (f 4 = true → x44 = .int .i64 (d : Int)) ∧ (f 5 = true → x45 = .int .i64 ((d : Int) - 1)) ∧ (f 6 = true → x46 = .pointer (some ⟨lb, 0, none⟩)) ∧ (f 10 = true → x50 = .pointer (some ⟨U3.heap.size, 2, none⟩)) ∧ (f 7 = false → Vr = wa.drew) ∧ (f 7 = true → f 8 = false → AftC wa lb (fun b => (X b ∨ b = lb ∨ b = w.heap.size + 1) ∨ b = U3.heap.size ∨ (Value.slice va k vc).ownBlock = some b) pp Vr x47) ∧ (f 8 = true → f 9 = false → AftB wa lb (fun b => (X b ∨ b = lb ∨ b = w.heap.size + 1) ∨ b = U3.heap.size ∨ (Value.slice va k vc).ownBlock = some b) pp Vr x48) ∧ (f 9 = true → f 11 = false → Vr.cell? ⟨U3.heap.size, 2, none⟩ = some (.slice va k vc) ∧ Vr.frozen? ⟨U3.heap.size, 2, none⟩ = false ∧ (∃ g cap, x49 = .slice (some ⟨g, 0, none⟩) (k + 1) cap) ∧ (OutIs (fun b => X b ∨ b = lb ∨ b = w.heap.size + 1) (Vr.setCell ⟨U3.heap.size, 2, none⟩ x49) U3.heap.size x.name x.n x49 (k + 1) (es ++ [pp.1]) ∧ LfIs (Vr.setCell ⟨U3.heap.size, 2, none⟩ x49) lb pp.2 ∧ BelowB U3.heap.size lb wa (Vr.setCell ⟨U3.heap.size, 2, none⟩ x49))) ∧ (f 11 = true → (OutIs (fun b => X b ∨ b = lb ∨ b = w.heap.size + 1) Vr U3.heap.size x.name x.n x49 (k + 1) (es ++ [pp.1]) ∧ LfIs Vr lb pp.2 ∧ BelowB U3.heap.size lb wa Vr))) (by kernel_rfl) (by kernel_rfl) (rs := [0, 1, 2, 3, 4, 5, 6, 7, 8, 9, 10, 11]) (by kernel_rfl) ?start ?steps ?done
        case start => exact ⟨_, _, _, _, _, _, _, _, _, _, _, rfl, by simp, by simp, by simp, by simp, by simp, by simp, by simp, by simp, fun _ => rfl, by simp, by simp, by simp, by simp⟩
        case steps =>
          refine KeepsI.cons (ds := []) rfl (by kernel_rfl) ?s0 (KeepsI.cons (ds := [0]) rfl (by kernel_rfl) ?s1 (KeepsI.cons (ds := []) rfl (by kernel_rfl) ?s2 (KeepsI.cons (ds := []) rfl (by kernel_rfl) ?s3 (KeepsI.cons (ds := []) rfl (by kernel_rfl) ?s4 (KeepsI.cons (ds := [4]) rfl (by kernel_rfl) ?s5 (KeepsI.cons (ds := []) rfl (by kernel_rfl) ?s6 (KeepsI.cons (ds := [2, 3, 5, 6]) rfl (by kernel_rfl) ?s7 (KeepsI.cons (ds := [7]) rfl (by kernel_rfl) ?s8 (KeepsI.cons (ds := [1, 8]) rfl (by kernel_rfl) ?s9 (KeepsI.cons (ds := []) rfl (by kernel_rfl) ?s10 (KeepsI.cons (ds := [9, 10]) rfl (by kernel_rfl) ?s11 KeepsI.nil)))))))))))
          all_goals (intro f a Vr hf hd hcl hI K' hK; obtain ⟨x40, x41, x42, x43, x44, x45, x46, x47, x48, x49, x50, rfl, j0, j1, j2, j3, j4, j5, j6, j10, g7, gC, gB, gA, gP⟩ := hI)
          case s0 =>
              go_simp
              exact hK _ _ ⟨_, _, _, _, _, _, _, _, _, _, _, rfl, fun _ => rfl, j1, j2, j3, j4, j5, j6, j10, g7, gC, gB, gA, gP⟩
          case s1 =>
              have e := j0 (hd 0 (by simp))
              subst e
              have hc : Vr.cell? ⟨U3.heap.size, 2, none⟩ = some (.slice va k vc) := by
                cases h7 : f 7
                case false => rw [g7 h7]; simpa using hc2
                cases h8 : f 8
                case false =>
                  obtain ⟨_, _, _, _, _, _, _, _, hb⟩ := gC h7 h8
                  exact (hOa'.out.belowB hb (.inr (.inl rfl)) hlbU).cells.2.2.1
                cases h9 : f 9
                case true => exact absurd (hcl 9 1 (by kernel_rfl) h9) (by rw [hf]; simp)
                obtain ⟨w1, us, un, ua, um, uc, ⟨_, _, hb⟩, hv, _⟩ := gB h8 h9
                rw [hv]
                exact ((hOa'.out.belowB hb (.inr (.inl rfl)) hlbU).below ((Below.refl _ _).alloc (Nat.le_refl _) _)).cells.2.2.1
              go_simp
              exact hK _ _ ⟨_, _, _, _, _, _, _, _, _, _, _, rfl, j0, fun _ => rfl, j2, j3, j4, j5, j6, j10, g7, gC, gB, gA, gP⟩
          case s2 =>
              go_simp
              exact hK _ _ ⟨_, _, _, _, _, _, _, _, _, _, _, rfl, j0, j1, fun _ => rfl, j3, j4, j5, j6, j10, g7, gC, gB, gA, gP⟩
          case s3 =>
              cases h7 : f 7
              case true => exact absurd (hcl 7 3 (by kernel_rfl) h7) (by rw [hf]; simp)
              have e := g7 h7
              subst e
              go_simp
              exact hK _ _ ⟨_, _, _, _, _, _, _, _, _, _, _, rfl, j0, j1, j2, fun _ => rfl, j4, j5, j6, j10, g7, gC, gB, gA, gP⟩
          case s4 =>
              go_simp
              exact hK _ _ ⟨_, _, _, _, _, _, _, _, _, _, _, rfl, j0, j1, j2, j3, fun _ => rfl, j5, j6, j10, g7, gC, gB, gA, gP⟩
          case s5 =>
              have e := j4 (hd 4 (by simp))
              subst e
              go_simp
              exact hK _ _ ⟨_, _, _, _, _, _, _, _, _, _, _, rfl, j0, j1, j2, j3, j4, fun _ => rfl, j6, j10, g7, gC, gB, gA, gP⟩
          case s6 =>
              go_simp
              exact hK _ _ ⟨_, _, _, _, _, _, _, _, _, _, _, rfl, j0, j1, j2, j3, j4, j5, fun _ => rfl, j10, g7, gC, gB, gA, gP⟩
          case s7 =>
              have e2 := j2 (hd 2 (by simp))
              have e3 := j3 (hd 3 (by simp))
              have e5 := j5 (hd 5 (by simp))
              have e6 := j6 (hd 6 (by simp))
              have e := g7 hf
              subst e2 e3 e5 e6 e
              have n8 : ¬ f 8 = true := fun h => absurd (hcl 8 7 (by kernel_rfl) h) (by rw [hf]; simp)
              have n9 : ¬ f 9 = true := fun h => n8 (hcl 9 8 (by kernel_rfl) h)
              have n11 : ¬ f 11 = true := fun h => n9 (hcl 11 9 (by kernel_rfl) h)
              go_simp
              refine (hcall.out _ (Below.refl _ _).drew).mono ?_
              rintro e w1 ⟨us, un, ua, um, uc, rfl, hu, hlu, hB1⟩
              have hB1a := (BelowB.of_below (mb := lb) (Below.refl wa.heap.size wa).drew).trans (hB1.mono (Nat.le_refl _))
              go_simp
              exact hK _ _ ⟨_, _, _, _, _, _, _, _, _, _, _, rfl, j0, j1, fun _ => rfl, fun _ => rfl, j4, fun _ => rfl, fun _ => rfl, j10, by simp, fun _ _ => ⟨us, un, ua, um, uc, rfl, hu, hlu, hB1a⟩, fun h => absurd h n8, fun h => absurd h n9, fun h => absurd h n11⟩
          case s8 =>
              obtain ⟨us, un, ua, um, uc, rfl, hu, hlu, hB⟩ := gC (hd 7 (by simp)) hf
              have n9 : ¬ f 9 = true := fun h => absurd (hcl 9 8 (by kernel_rfl) h) (by rw [hf]; simp)
              have n11 : ¬ f 11 = true := fun h => n9 (hcl 11 9 (by kernel_rfl) h)
              go_simp
              exact hK _ _ ⟨_, _, _, _, _, _, _, _, _, _, _, rfl, j0, j1, j2, j3, j4, j5, j6, j10, fun h => absurd (hd 7 (by simp)) (by rw [show f 7 = false from h]; simp), by simp, fun _ _ => ⟨Vr, us, un, ua, um, uc, ⟨hu, hlu, hB⟩, rfl, rfl⟩, fun h => absurd h n9, fun h => absurd h n11⟩
          case s9 =>
              have e1 := j1 (hd 1 (by simp))
              obtain ⟨w1, us, un, ua, um, uc, ⟨hu, hlu, hB⟩, hv, e8⟩ := gB (hd 8 (by simp)) hf
              subst e1 e8 hv
              have n11 : ¬ f 11 = true := fun h => absurd (hcl 11 9 (by kernel_rfl) h) (by rw [hf]; simp)
              have hO1 := hOa'.out.belowB hB (.inr (.inl rfl)) hlbU
              have hO1' := Lib.hid hO1
              have hzw1 : U3.heap.size < w1.heap.size := hO1.lt
              obtain ⟨hblk1, cs1, hesl1, hown1, hcs1⟩ := hO1
              have hone1 : ∀ u ∈ ([.string us, .int .i64 un, .slice ua um uc] : List Value), u.oneCell' = true := by simp [Value.oneCell']
              have hsz1 : (w1.alloc (.cells #[.string us, .int .i64 un, .slice ua um uc] 24)).heap.size = w1.heap.size + 1 := by simp
              have hbs1 : U3.heap.size + 1 ≤ (w1.alloc (.cells #[.string us, .int .i64 un, .slice ua um uc] 24)).heap.size := by rw [hsz1]; exact Nat.le_of_lt (Nat.succ_lt_succ hzw1)
              refine step_append_lies _ (by rfl) _ _ _ (by rfl) (U3.heap.size + 1) 24 i0 (.agg #[.string ⟨#[]⟩, .int .i64 0, .slice none 0 0]) 3 48 Tryd.underlying22 hi hz0 hz1' hz2' rfl (by omega) (.slice va k vc) _ _ (by rfl) (hown1.alloc _) ⟨w1.heap.size, 0, none⟩ 1 1 [.string us, .int .i64 un, .slice ua um uc] (by rfl) (by rfl) (cell_three_new _ _ _ _ _) hone1 Nat.one_pos hk63 hk48 hbs1 (w1.heap.size + 1) hsz1 ?_
              intro gg cap w2 hown2 hg2 hat hlt2
              have hba := (Below.refl w1.heap.size w1).alloc (Nat.le_refl _) (.cells #[.string us, .int .i64 un, .slice ua um uc] 24)
              obtain ⟨hc2', hf2'⟩ := hO1'.out.mid hba hg2
              have hst := hO1'.out.step hba (TyX.below hu ((Below.refl _ _).alloc (Nat.le_refl _) _)) hg2 hesl1 hown1 hcs1 hown2 (hat.imp (fun e => e.symm) (fun e g hg => by simp [Value.ownBlock] at hg; simp; omega))
              have hBs : BelowB U3.heap.size lb wa (w2.setCell ⟨U3.heap.size, 2, none⟩ (.slice (some ⟨gg, 0, none⟩) (k + 1) cap)) := (hB.mono (by omega)).trans (BelowB.of_below hst.2.1)
              have hls : LfIs (w2.setCell ⟨U3.heap.size, 2, none⟩ (.slice (some ⟨gg, 0, none⟩) (k + 1) cap)) lb pp.2 := hlu.below hst.2.1 hlbU
              exact hK _ _ ⟨_, _, _, _, _, _, _, _, _, _, _, rfl, j0, fun _ => rfl, j2, j3, j4, j5, j6, j10, fun h => absurd (hcl 8 7 (by kernel_rfl) (hd 8 (by simp))) (by rw [show f 7 = false from h]; simp), fun _ h => absurd (hd 8 (by simp)) (by rw [show f 8 = false from h]; simp), by simp, fun _ _ => ⟨hc2', hf2', ⟨gg, cap, rfl⟩, hst.1, hls, hBs⟩, fun h => absurd h n11⟩
          case s10 =>
              go_simp
              exact hK _ _ ⟨_, _, _, _, _, _, _, _, _, _, _, rfl, j0, j1, j2, j3, j4, j5, j6, fun _ => rfl, g7, gC, gB, gA, gP⟩
          case s11 =>
              have e10 := j10 (hd 10 (by simp))
              obtain ⟨hc2', hf2', ⟨gg, cap, e9⟩, hP⟩ := gA (hd 9 (by simp)) hf
              subst e10 e9
              go_simp
              exact hK _ _ ⟨_, _, _, _, _, _, _, _, _, _, _, rfl, j0, j1, j2, j3, j4, j5, j6, fun _ => rfl, fun h => absurd (hcl 8 7 (by kernel_rfl) (hcl 9 8 (by kernel_rfl) (hd 9 (by simp)))) (by rw [show f 7 = false from h]; simp), fun _ h => absurd (hcl 9 8 (by kernel_rfl) (hd 9 (by simp))) (by rw [show f 8 = false from h]; simp), fun _ h => absurd (hd 9 (by simp)) (by rw [show f 9 = false from h]; simp), by simp, fun _ => hP⟩
        case done =>
          intro f a Vr hf hI
          obtain ⟨x40, x41, x42, x43, x44, x45, x46, x47, x48, x49, x50, rfl, j0, j1, j2, j3, j4, j5, j6, j10, g7, gC, gB, gA, gP⟩ := hI
          have hP := gP (hf 11 (by simp))
          clear gP gA gB gC g7 j0 j1 j2 j3 j4 j5 j6 j10
          obtain ⟨hO2, hl2, hB2⟩ := hP
          have hO2' := Lib.hid hO2
          have hl2' := Lib.hid hl2
          have hB3 := Lib.hid (hBr.out.trans ((BelowB.of_below (mb := lb) (hBa'.out.mono hzr)).trans hB2))
          clear hc0 hc1 hc2 hcf z0 z1 z2 p0 p1 hO2 hl2 hB2
          go_wp2_with fail
          go_roundw
          case rel => exact ⟨k + 1, _, es ++ [pp.1], pp.2, by omega, by go_num, hp2'.out, hO2'.out, hl2'.out, ⟨by omega, by omega, fun h => absurd h hd1h.out⟩, hB3.out⟩
          case measure => simp [intOf]; omega
    · have e : k = x.args.length := by omega
      have hstop := Lib.hid (fullL_stop hF.out (.inr (by rw [e, List.drop_length])))
      have hBf := Below.refl wr.heap.size wr
      clear e
      have hOf := hO.out.below hBf
      obtain ⟨hc0, hc1, hc2, hcf⟩ := hOf.cells
      have hdone := Lib.hid (hOf.done (fun b hb => by
        rcases hb with hb | hb | hb
        · have := hX'.out b hb; omega
        · omega
        · omega) hxs'.out (by have := hxl'.out; unfold lenMax at this ⊢; omega) hxn)
      have hrr : Hid (BoxT wr (w.heap.size + 1) (.string ⟨#[]⟩) (.int .i64 0) (.slice none 0 0)) := BoxT.below ((hBr.out.block _ (by omega) (by omega)).trans hr3'.out) hBf (by omega)
      have hlff := Lib.hid (hlf.out.below hBf hlf.out.lt)
      have hwf := Lib.hid (hwr.out.trans ((BelowB.of_below hBf).mono (by have := hwr.out.size; omega)))
      obtain ⟨r0, r1, r2⟩ := hrr.out.cells
      have rf0 : wr.frozen? ⟨w.heap.size + 1, 0, none⟩ = false := frozen_of hrr.out 0
      have rf1 : wr.frozen? ⟨w.heap.size + 1, 1, none⟩ = false := frozen_of hrr.out 1
      have rf2 : wr.frozen? ⟨w.heap.size + 1, 2, none⟩ = false := frozen_of hrr.out 2
      clear hOf hBf
      go_wp2_with fail
      have hU := set_box3 hrr.out (.string x.name) (.int .i64 x.n) (.slice va k vc)
      have hU4 := (hrr.out.set (.string x.name) (.int .i64 x.n) (.slice va k vc)).2.2.2
      change bodyPost _ _ _ _ _ (World.box3 wr (w.heap.size + 1) (.string x.name) (.int .i64 x.n) (.slice va k vc))
      generalize World.box3 wr (w.heap.size + 1) (.string x.name) (.int .i64 x.n) (.slice va k vc) = Uf at hU hU4 ⊢
      obtain ⟨⟨u0, u1, u2⟩, hBU, -, hUk⟩ := hU
      clear r0 r1 r2 hc0 hc1 hc2
      refine bodyPost_ret (results_ty rfl _ _ rfl u0 u1 u2) rfl ?_
      have hes := hstop.out
      simp only [Prod.mk.injEq] at hes
      refine ⟨_, rfl, ?_, ?_, hwf.out.trans (BelowB.of_below (hBU.mono (by omega)))⟩
      · rw [ho'.out, hes.1]
        exact TyX.later (hUk.wider fun c hc => .inr (.inr hc)) (fun c _ hc => .inl hc) hdone.out
      · rw [hes.2]
        exact hlff.out.at (hU4 lb (by omega))
end Go.Proofs.YticjpeefhppjoaaDoor
