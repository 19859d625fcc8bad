/- The reference's Full, walked: a type with all facts in it, if it is not too great. -/
import Derived.Test.YticjpeefhppjoaaDoorTyVd
import Derived.Test.YticjpeefhppjoaaDoorTyTl
import Derived.Test.YticjpeefhppjoaaDoorTyQ
namespace Go.Proofs.YticjpeefhppjoaaDoor
open Go.RowKit

theorem results_tyn {fn : Func} {t u : Tmp} (h : fn.results = #[.cell t 24, .tmp u]) (tmps : Array Value) (w : World) {b : Nat} {x y z v : Value} (ha : tmps.getD t undef = .pointer (some ⟨b, 0, none⟩)) (hu : tmps.getD u undef = v)
    (h0 : w.cell? ⟨b, 0, none⟩ = some x) (h1 : w.cell? ⟨b, 1, none⟩ = some y) (h2 : w.cell? ⟨b, 2, none⟩ = some z) : (results fn tmps).run Tryd.prog w = .ok (.tuple #[.agg #[x, y, z], v]) w := by
  have e2 := Tryd.isAgg24
  have e3 := Tryd.sizeOf24
  have ha' : tmps[t]?.getD undef = .pointer (some ⟨b, 0, none⟩) := by simpa using ha
  have hu' : tmps[u]?.getD undef = v := by simpa using hu
  simp [results, h, ha', hu', asAddr, loadVar, e2, loadCells, loadCellsFrom, Result.andThen, h0, h1, h2, Addr.add, load, Sem.run]

/-- Whether a type is so deep at most, of so many parts. -/
def fitsT (d : Nat) (left : Int) (t : Ty) : Prop := tdep t ≤ d ∧ (tcnt t : Int) ≤ left
theorem fits_hole {d : Nat} {left n : Int} : fitsT (d + 1) left (holeT n) ↔ 1 ≤ left := by
  unfold fitsT holeT
  simp only [tdep, tdep.tdepL, tcnt, tcnt.cntL]
  omega
/-- What Full answers. -/
def FullR (X : Nat → Prop) (w' : World) (d : Nat) (left : Int) (t : Ty) (u : Value) (y : Int) : Prop :=
  (fitsT d left t ∧ y = left - tcnt t ∧ TyX X w' u t) ∨ (¬ fitsT d left t ∧ y = -1)
theorem fits_zero {left : Int} {t : Ty} : ¬ fitsT 0 left t := by
  unfold fitsT
  cases t
  simp only [tdep]; omega
theorem fits_none {d : Nat} {left : Int} {t : Ty} (h : left < 1) : ¬ fitsT d left t := by
  unfold fitsT
  have := tcnt_pos t
  omega
theorem fitsT_arg {d : Nat} {left : Int} {s : Str} {n : Int} {l : List Ty} {k : Nat} (hk : k < l.length) (h : ¬ fitsT d (left - 1 - tcnt.cntL (l.take k)) l[k]) : ¬ fitsT (d + 1) left (.mk s n l) := by
  rintro ⟨h1, h2⟩
  refine h ⟨?_, ?_⟩
  · simp only [tdep] at h1
    exact (depL_le (l := l)).1 (by omega) _ (List.getElem_mem hk)
  · have h3 := tcntL_take_succ l k hk
    have h4 := tcntL_take_le l (k + 1)
    simp only [tcnt] at h2
    omega
theorem fits_all {d : Nat} {left : Int} {s : Str} {n : Int} {l : List Ty} (h1 : ∀ e ∈ l, tdep e ≤ d) (h2 : 0 ≤ left - 1 - tcnt.cntL l) : fitsT (d + 1) left (.mk s n l) ∧ left - tcnt (.mk s n l) = left - 1 - tcnt.cntL l := by
  have := (depL_le (l := l) (d := d)).2 h1
  unfold fitsT
  simp only [tdep, tcnt]
  omega

set_option maxHeartbeats 4000000 in
set_option maxRecDepth 100000 in
theorem r08_Full (L : List Fa) {rho : Int → Nat} {si : Int → Ty} (ha : Ac L rho) (hs : Sol L si) (hw : FWf L) (hLl : L.length ≤ lenMax) : ∀ (d : Nat) (t : Ty) (left : Int) (v : Value) (X : Nat → Prop) (aL : Option Addr) (cL : Nat) (w₀ w : World), Wf t → 0 ≤ left → left ≤ 100000 → d ≤ 1000 → Below w₀.heap.size w₀ w → FaRow (fun _ => False) w₀ aL L → IsTy w₀ v t → (∀ b, X b → b < w.heap.size) →
    Calls Tryd.prog 49 #[.slice aL L.length cL, v, .int .i64 (d : Int), .int .i64 left] w fun r w' => (∃ (us : Str) (un : Int) (ua : Option Addr) (um uc : Nat) (y : Int), r = .returned (.tuple #[.agg #[.string us, .int .i64 un, .slice ua um uc], .int .i64 y]) ∧ FullR X w' d left (sub si t) (.agg #[.string us, .int .i64 un, .slice ua um uc]) y) ∧ Below w.heap.size w w' := by
  have ha' := Lib.hid ha
  have hs' := Lib.hid hs
  have hw' := Lib.hid hw
  have hLl' := Lib.hid hLl
  clear ha hs hw hLl
  intro d
  induction d with
  | zero =>
    intro t left v X aL cL w₀ w ht hl0 hl9 hd9 h0 hm hv hX
    obtain ⟨x, hx⟩ := walk_total ha'.out (L.length + 1) t (by have := wayN_le L rho t; omega)
    have hv' := Lib.hid hv
    obtain ⟨s, n, l⟩ := t
    obtain ⟨aa, ac, rfl, _⟩ := hv.open
    obtain ⟨W1, hW1⟩ : ∃ W, (w.alloc (.cells #[.string s, .int .i64 n, .slice aa l.length ac] 24)).alloc (.cells #[.string ⟨#[]⟩, .int .i64 0, .slice none 0 0] 24) = W := ⟨_, rfl⟩
    have hz1 : w.heap.size + 2 ≤ W1.heap.size := by rw [← hW1]; simp
    have hb1 : Below w.heap.size w W1 := by rw [← hW1]; exact ((Below.refl _ w).alloc (Nat.le_refl _) _).alloc (by simp) _
    have hba : BoxT W1 w.heap.size (.string s) (.int .i64 n) (.slice aa l.length ac) := by rw [← hW1]; exact new_block ((Below.refl _ _).alloc (by simp) _)
    have hbr : BoxT W1 (w.heap.size + 1) (.string ⟨#[]⟩) (.int .i64 0) (.slice none 0 0) := by rw [← hW1]; exact new_block2 (Below.refl _ _)
    have hct := Lib.hid (r08_Walk L aL cL _ _ x _ w₀ W1 (h0.trans (hb1.mono h0.size)) hx hLl'.out hm hv)
    have hW1' := Lib.hid hW1
    have hb1' := Lib.hid hb1
    have hba' := Lib.hid hba
    have hbr' := Lib.hid hbr
    have h0' := Lib.hid h0
    have hm' := Lib.hid hm
    have hX' := Lib.hid hX
    obtain ⟨q0, q1, q2⟩ := hba.cells
    clear hW1 hb1 hba hbr h0 hm hX hx ht hv
    go_enter Tryd.func49, Tryd.ntmps49
    go_wp2_with fail
    rw [hW1'.out]
    go_wp2_with fail
    refine hct.out.mono ?_
    rintro e U2 ⟨r1, rfl, hu, hB2⟩
    obtain ⟨y4, c4, rfl⟩ := hu.form
    have hu' := Lib.hid hu
    have hB2' := Lib.hid hB2
    have hba3 := hba'.out.below hB2 hba'.out.lt
    have hbx := Lib.hid (hba3.set (.string x.name) (.int .i64 x.n) (.slice y4 x.args.length c4))
    have f0 := frozen_of hba3 0
    have f1 := frozen_of hba3 1
    have f2 := frozen_of hba3 2
    have hbr2 := Lib.hid (hbr'.out.below hB2 hbr'.out.lt)
    have hwU2 := Lib.hid (hb1'.out.trans (hB2.mono (by omega)))
    have hz2 : w.heap.size + 2 ≤ U2.heap.size := Nat.le_trans hz1 hB2.size
    clear q0 q1 q2 hu hB2
    obtain ⟨q0, q1, q2⟩ := hba3.cells
    clear hba3 hct
    have hdd : ((0 : Nat) : Int) = 0 := rfl
    rw [hdd]
    clear hdd
    go_upto_if 24 with (fail)
    change Code.wp _ _ _ _ (World.box3 U2 w.heap.size (.string x.name) (.int .i64 x.n) (.slice y4 x.args.length c4))
    obtain ⟨U3, hU3⟩ : ∃ U, World.box3 U2 w.heap.size (.string x.name) (.int .i64 x.n) (.slice y4 x.args.length c4) = U := ⟨_, rfl⟩
    have hbx3 := hbx.out
    rw [hU3] at hbx3 ⊢
    obtain ⟨hx3, hB3, hzU3, hk3⟩ := hbx3
    have hwU3 := Lib.hid (hwU2.out.trans hB3)
    have hr3 := Lib.hid (show BoxT U3 (w.heap.size + 1) (.string ⟨#[]⟩) (.int .i64 0) (.slice none 0 0) from (hk3 _ (by omega)).trans hbr2.out)
    have hz3 : w.heap.size + 2 ≤ U3.heap.size := by rw [hzU3]; exact hz2
    have hx3' := Lib.hid (show BoxIs U3 w.heap.size x y4 c4 from hx3)
    clear q0 q1 q2 f0 f1 f2 hbx hU3 hx3 hB3 hzU3 hk3
    have hrr := hr3.out
    obtain ⟨r0, r1, r2⟩ := hrr.cells
    have rf0 := frozen_of hrr 0
    have rf1 := frozen_of hrr 1
    have rf2 := frozen_of hrr 2
    have hrr' := Lib.hid hrr
    clear hrr
    go_wp2_with fail
    have hU := set_box3 hrr'.out (.string ⟨#[]⟩) (.int .i64 0) (.slice none 0 0)
    change bodyPost _ _ _ _ _ (World.box3 U3 (w.heap.size + 1) (.string ⟨#[]⟩) (.int .i64 0) (.slice none 0 0))
    generalize World.box3 U3 (w.heap.size + 1) (.string ⟨#[]⟩) (.int .i64 0) (.slice none 0 0) = Uf at hU ⊢
    obtain ⟨⟨u0, u1, u2⟩, hBU, -, hUk⟩ := hU
    clear r0 r1 r2
    refine bodyPost_ret (results_tyn rfl _ _ rfl rfl u0 u1 u2) rfl ?_
    exact ⟨⟨_, _, _, _, _, -1, rfl, .inr ⟨fits_zero, rfl⟩⟩, hwU3.out.trans (hBU.mono (by omega))⟩
  | succ d ih =>
  intro t left v X aL cL w₀ w ht hl0 hl9 hd9 h0 hm hv hX
  obtain ⟨x, hx⟩ := walk_total ha'.out (L.length + 1) t (by have := wayN_le L rho t; omega)
  have hsub : sub si t = sub si x := walkT_sat hs'.out.sat _ _ _ hx
  have hxw := Lib.hid (walkT_wf hw'.out _ _ _ hx ht)
  have hxn := Lib.hid (fun h => walkT_none _ _ _ hx h)
  rw [hsub]
  have hv' := Lib.hid hv
  obtain ⟨s, n, l⟩ := t
  obtain ⟨aa, ac, rfl, _⟩ := hv.open
  obtain ⟨W1, hW1⟩ : ∃ W, (w.alloc (.cells #[.string s, .int .i64 n, .slice aa l.length ac] 24)).alloc (.cells #[.string ⟨#[]⟩, .int .i64 0, .slice none 0 0] 24) = W := ⟨_, rfl⟩
  have hz1 : w.heap.size + 2 ≤ W1.heap.size := by rw [← hW1]; simp
  have hb1 : Below w.heap.size w W1 := by rw [← hW1]; exact ((Below.refl _ w).alloc (Nat.le_refl _) _).alloc (by simp) _
  have hba : BoxT W1 w.heap.size (.string s) (.int .i64 n) (.slice aa l.length ac) := by rw [← hW1]; exact new_block ((Below.refl _ _).alloc (by simp) _)
  have hbr : BoxT W1 (w.heap.size + 1) (.string ⟨#[]⟩) (.int .i64 0) (.slice none 0 0) := by rw [← hW1]; exact new_block2 (Below.refl _ _)
  have hct := Lib.hid (r08_Walk L aL cL _ _ x _ w₀ W1 (h0.trans (hb1.mono h0.size)) hx hLl'.out hm hv)
  have hW1' := Lib.hid hW1
  have hb1' := Lib.hid hb1
  have hba' := Lib.hid hba
  have hbr' := Lib.hid hbr
  have h0' := Lib.hid h0
  have hm' := Lib.hid hm
  have ih' := Lib.hid ih
  have hX' := Lib.hid hX
  obtain ⟨q0, q1, q2⟩ := hba.cells
  clear hW1 hb1 hba hbr h0 hm ih hX hx hsub ht hv
  go_enter Tryd.func49, Tryd.ntmps49
  go_wp2_with fail
  rw [hW1'.out]
  go_wp2_with fail
  refine hct.out.mono ?_
  rintro e U2 ⟨r1, rfl, hu, hB2⟩
  obtain ⟨y4, c4, rfl⟩ := hu.form
  have hu' := Lib.hid hu
  have hB2' := Lib.hid hB2
  have hba3 := hba'.out.below hB2 hba'.out.lt
  have hbx := Lib.hid (hba3.set (.string x.name) (.int .i64 x.n) (.slice y4 x.args.length c4))
  have f0 := frozen_of hba3 0
  have f1 := frozen_of hba3 1
  have f2 := frozen_of hba3 2
  have hbr2 := Lib.hid (hbr'.out.below hB2 hbr'.out.lt)
  have hwU2 := Lib.hid (hb1'.out.trans (hB2.mono (by omega)))
  have hz2 : w.heap.size + 2 ≤ U2.heap.size := Nat.le_trans hz1 hB2.size
  clear q0 q1 q2 hu hB2
  obtain ⟨q0, q1, q2⟩ := hba3.cells
  clear hba3 hct
  have hdd : ((d + 1 : Nat) : Int) = (d : Int) + 1 := by omega
  rw [hdd]
  clear hdd
  have hd1 : decide ((d : Int) + 1 ≤ 0) = false := by rw [decide_eq_false_iff_not]; omega
  go_upto_if 24 with (fail)
  change Code.wp _ _ _ _ (World.box3 U2 w.heap.size (.string x.name) (.int .i64 x.n) (.slice y4 x.args.length c4))
  obtain ⟨U3, hU3⟩ : ∃ U, World.box3 U2 w.heap.size (.string x.name) (.int .i64 x.n) (.slice y4 x.args.length c4) = U := ⟨_, rfl⟩
  have hbx3 := hbx.out
  rw [hU3] at hbx3 ⊢
  obtain ⟨hx3, hB3, hzU3, hk3⟩ := hbx3
  have hwU3 := Lib.hid (hwU2.out.trans hB3)
  have hr3 := Lib.hid (show BoxT U3 (w.heap.size + 1) (.string ⟨#[]⟩) (.int .i64 0) (.slice none 0 0) from (hk3 _ (by omega)).trans hbr2.out)
  have hz3 : w.heap.size + 2 ≤ U3.heap.size := by rw [hzU3]; exact hz2
  have hx3' := Lib.hid (show BoxIs U3 w.heap.size x y4 c4 from hx3)
  clear q0 q1 q2 f0 f1 f2 hbx hU3 hx3 hB3 hzU3 hk3 hd1
  by_cases hneg : left - 1 < 0
  · have hrr := hr3.out
    obtain ⟨r0, r1, r2⟩ := hrr.cells
    have rf0 := frozen_of hrr 0
    have rf1 := frozen_of hrr 1
    have rf2 := frozen_of hrr 2
    have hrr' := Lib.hid hrr
    clear hrr
    go_wp2_with fail
    have hU := set_box3 hrr'.out (.string ⟨#[]⟩) (.int .i64 0) (.slice none 0 0)
    change bodyPost _ _ _ _ _ (World.box3 U3 (w.heap.size + 1) (.string ⟨#[]⟩) (.int .i64 0) (.slice none 0 0))
    generalize World.box3 U3 (w.heap.size + 1) (.string ⟨#[]⟩) (.int .i64 0) (.slice none 0 0) = Uf at hU ⊢
    obtain ⟨⟨u0, u1, u2⟩, hBU, -, hUk⟩ := hU
    clear r0 r1 r2
    refine bodyPost_ret (results_tyn rfl _ _ rfl rfl u0 u1 u2) rfl ?_
    exact ⟨⟨_, _, _, _, _, -1, rfl, .inr ⟨fits_none (by omega), rfl⟩⟩, hwU3.out.trans (hBU.mono (by omega))⟩
  · have hh1 := Lib.hid (r08_hole x.name x.n y4 x.args.length c4 U3)
    obtain ⟨q0, q1, q2⟩ := hx3'.out.cells
    cases hh : holeS x.name
    case true =>
      have hsx : Hid (sub si x = holeT x.n) := by unfold Hid; rw [sub_of_hole hh]; exact hs'.out.none (hxn.out hh)
      have h64 : In64 x.n := by
        have h := hu'.out
        obtain ⟨s', n', l'⟩ := x
        obtain ⟨_, _, _, _, h, _⟩ := TyX.open h
        exact h
      rw [hh] at hh1
      clear hh
      go_wp2_with fail
      refine hh1.out.mono ?_
      rintro e U4 ⟨rfl, hB4⟩
      have hwU4 := Lib.hid (hwU3.out.trans (hB4.mono (by omega)))
      have hrr := hr3.out.below hB4 hr3.out.lt
      clear q0 q1 q2
      obtain ⟨q0, q1, q2⟩ := (hx3'.out.below hB4).cells
      clear hB4
      obtain ⟨r0, r1, r2⟩ := hrr.cells
      have rf0 := frozen_of hrr 0
      have rf1 := frozen_of hrr 1
      have rf2 := frozen_of hrr 2
      have hrr' := Lib.hid hrr
      clear hrr
      go_wp2_with fail
      have hU := set_box3 hrr'.out (.string ⟨#[]⟩) (.int .i64 x.n) (.slice none 0 0)
      change bodyPost _ _ _ _ _ (World.box3 U4 (w.heap.size + 1) (.string ⟨#[]⟩) (.int .i64 x.n) (.slice none 0 0))
      generalize World.box3 U4 (w.heap.size + 1) (.string ⟨#[]⟩) (.int .i64 x.n) (.slice none 0 0) = Uf at hU ⊢
      obtain ⟨⟨u0, u1, u2⟩, hBU, -, hUk⟩ := hU
      clear r0 r1 r2
      refine bodyPost_ret (results_tyn rfl _ _ rfl rfl u0 u1 u2) rfl ?_
      exact ⟨⟨_, _, _, _, _, left - 1, rfl, by rw [hsx.out]; exact .inl ⟨fits_hole.2 (by omega), rfl, TyX.shut (l := []) (fun _ => rfl) h64 (Nat.zero_le _) (Nat.zero_le _) (.inl rfl)⟩⟩, hwU4.out.trans (hBU.mono (by omega))⟩
    case false =>
      have hsx : Hid (sub si x = .mk x.name 0 (x.args.map (sub si))) := by unfold Hid; rw [sub_of_not hh, not_wf_n hxw.out hh]
      rw [hh] at hh1
      clear hh
      obtain ⟨i0, hi, hz0, hz1', hz2'⟩ := info_of Tryd.infoTy
      have hxl : x.args.length ≤ lenMax ∧ x.name.size ≤ lenMax := by
        have h := hu'.out
        obtain ⟨s', n', l'⟩ := x
        obtain ⟨_, _, _, _, _, h2, h3, _⟩ := TyX.open h
        exact ⟨h3, h2⟩
      have hxl' := Lib.hid hxl
      have hxl2 : x.args.length ≤ 140737488355328 := by have := hxl.1; unfold lenMax at this; exact this
      clear hxl
      go_wp2_with fail
      refine hh1.out.mono ?_
      rintro e U4 ⟨rfl, hB4⟩
      have hwU4 := Lib.hid (hwU3.out.trans (hB4.mono (by omega)))
      have hr4 := Lib.hid (hr3.out.below hB4 hr3.out.lt)
      have hx4 := Lib.hid (hx3'.out.below hB4)
      have hz4 : w.heap.size + 2 ≤ U4.heap.size := Nat.le_trans hz3 hB4.size
      clear q0 q1 q2 hB4 hh1
      obtain ⟨q0, q1, q2⟩ := hx4.out.cells
      go_wp2_with fail
      go_loopw [3, 11] (fun lv i wr => ∃ (k : Nat) (lf : Int) (vv : Value) (es : List Ty), k ≤ x.args.length ∧ i = .int .i64 k ∧ lv = .int .i64 lf ∧ Hid (es = (x.args.take k).map (sub si)) ∧ Hid (lf = left - 1 - tcnt.cntL es) ∧ 0 ≤ lf ∧ lf ≤ 100000 ∧ Hid (∀ e ∈ es, tdep e ≤ d) ∧ Hid (OutIs (fun b => X b ∨ b = w.heap.size + 1) wr U4.heap.size x.name 0 vv k es) ∧ Hid (Below U4.heap.size U4 wr)) (fun _ i _ => x.args.length - (intOf i).toNat)
      case atStart => exact ⟨0, left - 1, _, [], by omega, rfl, rfl, rfl, by unfold Hid; simp [tcnt.cntL], by omega, by omega, fun e h => by simp at h, OutIs.new rfl, (Below.refl _ _).alloc (Nat.le_refl _) _⟩
      case round =>
        clear q0 q1 q2
        obtain ⟨k, lf, vv, es, hk, rfl, rfl, hes, hlf, hlf0, hlf9, hde, hO, hBr⟩ := hrel
        obtain ⟨va, vc, rfl, hvn⟩ := hO.out.form
        have hzr := hBr.out.size
        have hwr := Lib.hid (hwU4.out.trans (hBr.out.mono (by omega)))
        have hxr := Lib.hid (hx4.out.below hBr.out)
        have hrr0 := Lib.hid (hr4.out.below hBr.out hr4.out.lt)
        obtain ⟨q0, q1, q2⟩ := hxr.out.cells
        by_cases h1 : k < x.args.length
        · obtain ⟨b, off, rfl, hax⟩ := (IsTy.row hu'.out).arg (by intro e; rw [e] at h1; simp at h1)
          obtain ⟨a2, c2, g0, g1, g2, ge⟩ := hax k h1
          have h0r := h0'.out.trans (hwr.out.mono h0'.out.size)
          have hXr : ∀ b, ((X b ∨ b = w.heap.size + 1) ∨ b = U4.heap.size ∨ (Value.slice va k vc).ownBlock = some b) → b < wr.heap.size := by
            rintro b ((h | h) | h | h)
            · have := hX'.out b h; have := hwr.out.size; omega
            · omega
            · have := hO.out.lt; omega
            · exact (hO.out.own h).2
          have hct := Lib.hid (ih'.out x.args[k] lf _ (fun b => (X b ∨ b = w.heap.size + 1) ∨ b = U4.heap.size ∨ (Value.slice va k vc).ownBlock = some b) aL cL w₀ wr (args_wf hxw.out _ (List.getElem_mem h1)) hlf0 hlf9 (by omega) h0r hm'.out ge hXr)
          replace g0 := Keeps.of_below h0r _ _ g0
          replace g1 := Keeps.of_below h0r _ _ g1
          replace g2 := Keeps.of_below h0r _ _ g2
          have h1i : (k : Int) < (x.args.length : Int) := by omega
          clear hax ge h0r hXr
          go_wp2_with fail
          refine hct.out.mono ?_
          rintro e V ⟨⟨us, un, ua, um, uc, y, rfl, hF⟩, hBV⟩
          have hF' := Lib.hid hF
          have hBV' := Lib.hid hBV
          have hrV := Lib.hid (hrr0.out.below hBV hrr0.out.lt)
          have hwV := Lib.hid (hwr.out.trans (hBV.mono (hwr.out.size)))
          have hzV : w.heap.size + 2 ≤ V.heap.size := by have := hBV.size; omega
          have hzV2 : wr.heap.size ≤ V.heap.size := hBV.size
          clear hF hBV g0 g1 g2 q0 q1 q2 hct
          rcases hF'.out with ⟨hfit, hy, hty⟩ | ⟨hnf, rfl⟩
          · have hy' := Lib.hid hy
            have hfit' := Lib.hid hfit
            have hy0 : 0 ≤ y := by have := hfit.2; omega
            have hy9 : y ≤ 100000 := by have := tcnt_pos (sub si x.args[k]); omega
            have hyn : ¬ y < 0 := by omega
            have hk5 : k ≤ 100000 := by
              have h1 := tcntL_len es
              have h2 := hlf.out
              have h3 : es.length = k := by rw [hes.out]; simp; omega
              omega
            have hty' := Lib.hid hty
            clear hy hfit hty hF'
            go_upto_region 14 with (fail)
            obtain ⟨V7, hV7⟩ : ∃ W, V.alloc (.cells #[.string us, .int .i64 un, .slice ua um uc] 24) = W := ⟨_, rfl⟩
            have hB7 : Below V.heap.size V V7 := by rw [← hV7]; exact (Below.refl _ _).alloc (Nat.le_refl _) _
            have hb7 : BoxT V7 V.heap.size (.string us) (.int .i64 un) (.slice ua um uc) := by rw [← hV7]; exact new_block (Below.refl _ _)
            rw [hV7]
            obtain ⟨V8, hV8⟩ : ∃ W, V7.alloc (.cells #[.string us, .int .i64 un, .slice ua um uc] 24) = W := ⟨_, rfl⟩
            have hB8 : Below V7.heap.size V7 V8 := by rw [← hV8]; exact (Below.refl _ _).alloc (Nat.le_refl _) _
            have hz8 : V8.heap.size = V7.heap.size + 1 := by rw [← hV8]; simp
            have hB17 : Below wr.heap.size wr V7 := hBV'.out.trans (hB7.mono hzV2)
            have hB18 : Below wr.heap.size wr V8 := hB17.trans (hB8.mono hB17.size)
            have hty8 := Lib.hid (TyX.below (TyX.below hty'.out hB7) hB8)
            obtain ⟨hblk, cs, hesl, hown, hcs⟩ := hO.out
            have hown8 := Lib.hid (ownsRow_heap hown (fun g hg => hB18.block g (ownBlock_ge hown hg).2))
            have hnews := Lib.hid (cell_three_new V7 (.string us) (.int .i64 un) (.slice ua um uc) 24)
            rw [hV8] at hnews
            have hbs8 : U4.heap.size + 1 ≤ V8.heap.size := by have := hO.out.lt; have := hB18.size; omega
            have hk63 : k + 1 ≤ maxLen := by unfold maxLen; omega
            have hk48 : (k + 1) * 48 ≤ 140737488355328 := by omega
            have hone1 : ∀ u ∈ ([.string us, .int .i64 un, .slice ua um uc] : List Value), u.oneCell' = true := by simp [Value.oneCell']
            obtain ⟨b0, b1, b2⟩ := hb7.cells
            obtain ⟨hc0, hc1, hc2, hcf⟩ := (hO.out.below hB17).cells
            have hV8' := Lib.hid hV8
            have hz8' := Lib.hid hz8
            have hown' := Lib.hid hown
            have hcs' := Lib.hid hcs
            have hesl' := Lib.hid hesl
            have hB18' := Lib.hid hB18
            have hbV7 := cell_block b0
            clear hV7 hB7 hb7 hV8 hB8 hz8 hblk hesl hown hcs hB17 hB18
            go_wp2_with (at_builtin; go_must (rw [hV8'.out]; refine wpList_append_own_at _ rfl _ _ 22 rfl (U4.heap.size + 1) 24 i0 (.agg #[.string ⟨#[]⟩, .int .i64 0, .slice none 0 0]) 3 48 Tryd.underlying22 hi hz0 hz1' hz2' rfl (by decide) (.slice va k vc) _ _ rfl hown8.out ⟨V7.heap.size, 0, none⟩ 1 1 [.string us, .int .i64 un, .slice ua um uc] rfl rfl hnews.out hone1 hk63 hk48 hbs8 ?_); intro v2 w3 hown2 hg2 _ hat; obtain ⟨va2, vc2, rfl, _⟩ := ownsRow_form hown2; obtain ⟨hc2', hf2'⟩ := hO.out.mid hB18'.out hg2; have hst := Lib.hid (hO.out.step hB18'.out hty8.out hg2 hesl'.out hown'.out hcs'.out hown2 (hat.imp id (fun e g hg => by rw [e] at hg; simp at hg; omega))); have hlt3 : U4.heap.size < w3.heap.size := cell_block hc2'; clear hown2 hg2 hat)
            go_roundw
            case rel =>
              refine ⟨k + 1, y, _, es ++ [sub si x.args[k]], by omega, by go_num, rfl, by unfold Hid; rw [hes.out, List.take_succ_eq_append_getElem h1, List.map_append, List.map_cons, List.map_nil], ?_, hy0, hy9, ?_, hst.out.1, hBr.out.trans hst.out.2.1⟩
              · unfold Hid
                rw [hy'.out, tcntL_append, hlf.out]
                simp only [tcnt.cntL]
                omega
              · intro e he
                rcases List.mem_append.1 he with he | he
                · exact hde.out e he
                · simp at he; subst he; exact hfit'.out.1
            case measure => simp [intOf]; omega
          · have hnf' : Hid (¬ fitsT (d + 1) left (sub si x)) := by
              unfold Hid
              rw [hsx.out]
              refine fitsT_arg (k := k) (by simpa using h1) ?_
              rw [← List.map_take, ← hes.out, ← hlf.out, List.getElem_map]
              exact hnf
            clear hnf hF'
            go_upto_region 12 with (fail)
            obtain ⟨V7, hV7⟩ : ∃ W, V.alloc (.cells #[.string us, .int .i64 un, .slice ua um uc] 24) = W := ⟨_, rfl⟩
            have hB7 : Below V.heap.size V V7 := by rw [← hV7]; exact (Below.refl _ _).alloc (Nat.le_refl _) _
            rw [hV7]
            have hw7 := Lib.hid (hwV.out.trans (hB7.mono hwV.out.size))
            have hrr := hrV.out.below hB7 hrV.out.lt
            clear hV7 hB7
            obtain ⟨r0, r1, r2⟩ := hrr.cells
            have rf0 := frozen_of hrr 0
            have rf1 := frozen_of hrr 1
            have rf2 := frozen_of hrr 2
            have hrr' := Lib.hid hrr
            clear hrr
            go_wp2_with fail
            have hU := set_box3 hrr'.out (.string ⟨#[]⟩) (.int .i64 0) (.slice none 0 0)
            change bodyPost _ _ _ _ _ (World.box3 V7 (w.heap.size + 1) (.string ⟨#[]⟩) (.int .i64 0) (.slice none 0 0))
            generalize World.box3 V7 (w.heap.size + 1) (.string ⟨#[]⟩) (.int .i64 0) (.slice none 0 0) = Uf at hU ⊢
            obtain ⟨⟨u0, u1, u2⟩, hBU, -, hUk⟩ := hU
            clear r0 r1 r2
            refine bodyPost_ret (results_tyn rfl _ _ rfl rfl u0 u1 u2) rfl ?_
            exact ⟨⟨_, _, _, _, _, -1, rfl, .inr ⟨hnf'.out, rfl⟩⟩, hw7.out.trans (hBU.mono (by omega))⟩
        · have e : k = x.args.length := by omega
          have hes2 : Hid (es = x.args.map (sub si)) := by unfold Hid; rw [hes.out, e, List.take_length]
          obtain ⟨hc0, hc1, hc2, hcf⟩ := hO.out.cells
          have hdone := Lib.hid (hO.out.done (fun b hb => by
            rcases hb with hb | hb
            · have := hX'.out b hb; have := hwU4.out.size; omega
            · omega) hxl'.out.2 (by have := hxl'.out.1; omega) ⟨by omega, by omega⟩)
          have hfin : Hid (fitsT (d + 1) left (sub si x) ∧ lf = left - tcnt (sub si x)) := by
            have h := fits_all (d := d) (left := left) (s := x.name) (n := 0) (l := x.args.map (sub si)) (by rw [← hes2.out]; exact hde.out) (by rw [← hes2.out, ← hlf.out]; exact hlf0)
            unfold Hid
            rw [hsx.out]
            refine ⟨h.1, ?_⟩
            rw [h.2, ← hes2.out]; exact hlf.out
          have hlt4 := hO.out.lt
          have hrr := hrr0.out
          clear e
          obtain ⟨r0, r1, r2⟩ := hrr.cells
          have rf0 := frozen_of hrr 0
          have rf1 := frozen_of hrr 1
          have rf2 := frozen_of hrr 2
          have hrr' := Lib.hid hrr
          clear hrr
          go_wp2_with fail
          have hU := set_box3 hrr'.out (.string x.name) (.int .i64 0) (.slice va k vc)
          change bodyPost _ _ _ _ _ (World.box3 wr (w.heap.size + 1) (.string x.name) (.int .i64 0) (.slice va k vc))
          generalize World.box3 wr (w.heap.size + 1) (.string x.name) (.int .i64 0) (.slice va k vc) = Uf at hU ⊢
          obtain ⟨⟨u0, u1, u2⟩, hBU, -, hUk⟩ := hU
          clear r0 r1 r2
          refine bodyPost_ret (results_tyn rfl _ _ rfl rfl u0 u1 u2) rfl ?_
          exact ⟨⟨_, _, _, _, _, lf, rfl, .inl ⟨hfin.out.1, hfin.out.2, by rw [hsx.out, ← hes2.out]; exact TyX.later (hUk.wider fun c hc => .inr hc) (fun c _ hc => .inl hc) hdone.out⟩⟩, hwr.out.trans (hBU.mono (by omega))⟩
end Go.Proofs.YticjpeefhppjoaaDoor
