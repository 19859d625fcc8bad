/- A part of the proof that parser laws hold: texts of the walk and of its plain laws, made small. -/
import Derived.Test.YtinjocchommbdaaGreatDoorM20
set_option linter.unusedVariables false
set_option linter.unusedSimpArgs false
namespace Go.Proofs.YtinjocchommbdaaGreatDoor
open Go.RowKit
theorem Rd.tokAt {W:World} {rb:Nat} {a:Option Addr} {c:Nat} {l:List Tk} {i p:Nat} (h:Rd W rb a c l i) (hp:p < l.length):∃ b off,a=some ⟨b,off,none⟩∧b≠rb∧(W.cell? ⟨b,off + p * 5,none⟩=some (.int .i64 (tkAt l p).kind)∧W.cell? ⟨b,off + p * 5 + 1,none⟩=some (.string (tS (tkAt l p).text))∧W.cell? ⟨b,off + p * 5 + 2,none⟩=some (.int .i64 (tkAt l p).num)∧W.cell? ⟨b,off + p * 5 + 3,none⟩=some (.int .i64 (tkAt l p).line)∧W.cell? ⟨b,off + p * 5 + 4,none⟩=some (.int .i64 (tkAt l p).col)):=by
 obtain ⟨_,_,hr⟩:=h.row.at
 obtain ⟨b,off,ha,hc⟩:=hr.at (by rintro rfl;simp at hp)
 obtain ⟨h0,h1,h2,h3,h4⟩:=hc p hp
 have e:tkAt l p=l[p]:=by unfold tkAt;simp [List.getD,hp]
 rw [e]
 exact ⟨b,off,ha,(msk_at h0).1,(msk_at h0).2,(msk_at h1).2,(msk_at h2).2,(msk_at h3).2,(msk_at h4).2⟩
section
variable {rb:Nat} {a:Option Addr} {c:Nat} {l:List Tk}
set_option maxHeartbeats 8000000 in
set_option maxRecDepth 100000 in
theorem par_line {f:Nat} (hE:RuleC 27 rb a c l f .expr):RuleC 68 rb a c l (f + 1) .line:=by
 intro W i x h hx
 simp only [pR,stepR] at hx
 obtain ⟨W1,hW1⟩:∃ V,W.alloc (.cells #[.int .i64 0,.string ⟨#[]⟩,.int .i64 0,.slice none 0 0,.slice none 0 0] 27)=V:=⟨_,rfl⟩
 have hb1:Below W.heap.size W W1:=by rw [←hW1];exact (Below.refl _ _).alloc (Nat.le_refl _) _
 have bA1:Hid (Box5 W1 27 W.heap.size (.int .i64 0) (.string ⟨#[]⟩) (.int .i64 0) (.slice none 0 0) (.slice none 0 0)):=by rw [←hW1];exact blk_new (Below.refl _ _)
 have zz1:Hid (W1.heap.size=W.heap.size + 1):=by rw [←hW1];simp [Hid]
 have hp1:=Lib.hid ((PS.refl h).below hb1)
 have hrb:=h.lt
 have h':=Lib.hid h
 have hW1':=Lib.hid hW1
 have hx0:=Lib.hid hx
 have hfl:=Tryz.fldText
 have hfn:=Tryz.fldNum
 clear hW1 hb1 h hx
 have hkd:=Lib.hid (fun n=>par_kind (hp1.out.rd.drewN n))
 obtain ⟨c0,c1,cf⟩:=hp1.out.rd.cells
 have hlen:=hp1.out.rd.len
 have hile:=hp1.out.rd.le
 have hw:IntKind.i64.wrap ((i:Int) + 1)=(i:Int) + 1:=IntWalk.i64_in _ (by omega)
 by_cases k2:kindAt l i=2
 case neg =>
  have hno:¬ (kindAt l i=2∧isAt l (i + 1) [60,45]=true):=fun h=>k2 h.1
  have hd:(kindAt l i != 2)=true:=by simpa using k2
  generalize kindAt l i=kd at *
  clear k2
  have hx9:=hx0.out
  rw [if_neg hno] at hx9
  have hx8:=Lib.hid hx9
  clear hx9 hno hx0
  clear hfl hfn
  go_enter Tryz.func68,Tryz.ntmps68
  go_upto_region 1 with (fail)
  rw [hW1'.out]
  go_quiet (first | (go_at_call 127;refine Calls.quiet_of (hkd.out _)))
  obtain ⟨D1,hD1⟩:∃ V,W1.drewN nq=V:=⟨_,rfl⟩
  have hbD1:Below W1.heap.size W1 D1:=by rw [←hD1];exact below_drewN' (Below.refl _ _) _
  rw [hD1]
  have zD1:=Lib.hid hbD1.size
  have hpD1:=Lib.hid (hp1.out.below hbD1)
  have bAD1:=Lib.hid (bA1.out.below hbD1)
  clear hp1 bA1 hD1 hbD1
  have cE:=Lib.hid (hE D1 i x hpD1.out.rd hx8.out)
  go_wp2_with fail
  refine cE.out.mono ?_
  rintro e V ⟨hB,hm⟩
  rcases x with p | ⟨es,jx⟩
  case error =>
   obtain rfl:=hm
   exact ⟨rfl,hpD1.out.bb.next hB,rfl⟩
  obtain ⟨v,y,rfl,rfl,hL,hR⟩:=hm
  obtain ⟨k0,s0,n0,a0,m0,c0,b0,o0,d0,rfl⟩:=hL.out.agg
  have zV:=Lib.hid hB.size
  have tL:Hid (Lay D1.heap.size V.heap.size V fun x=>IsEx x (.agg #[.int .i64 k0,.string s0,.int .i64 n0,.slice a0 m0 c0,.slice b0 o0 d0]) y):=hL
  have hpV:=Lib.hid (hpD1.out.call hB hR)
  have bAV:=Lib.hid (bAD1.out.bb hB (by have:=hrb;have:=zz1.out;have:=zD1.out;omega))
  clear hB hR hL hpD1 bAD1
  have hl:LayH [W.heap.size] W.heap.size V.heap.size V fun x=>IsEx x (.agg #[.int .i64 k0,.string s0,.int .i64 n0,.slice a0 m0 c0,.slice b0 o0 d0]) y:=LayH.of_lay tL.out (by have:=hrb;have:=zz1.out;have:=zD1.out;have:=zV.out;omega) (by have:=hrb;have:=zz1.out;have:=zD1.out;have:=zV.out;omega) (Nat.le_refl _) (fun q hq=>by simp only [List.mem_cons,List.not_mem_nil,or_false] at hq;subst hq;have:=hrb;have:=zz1.out;have:=zD1.out;have:=zV.out;omega)
  have hf:=Lib.hid (ExR.fin1 h'.out hpV.out (show Box5 V 27 W.heap.size (.int .i64 0) (.string ⟨#[]⟩) (.int .i64 0) (.slice none 0 0) (.slice none 0 0) from bAV.out) (Nat.le_refl _) hl)
  clear hl
  obtain ⟨⟨m20,m21,m22,m23,m24⟩,m2f⟩:=(show Box5 V 27 W.heap.size (.int .i64 0) (.string ⟨#[]⟩) (.int .i64 0) (.slice none 0 0) (.slice none 0 0) from bAV.out).cells
  have m2l:W.heap.size < V.heap.size:=blk_lt (show Box5 V 27 W.heap.size (.int .i64 0) (.string ⟨#[]⟩) (.int .i64 0) (.slice none 0 0) (.slice none 0 0) from bAV.out)
  go_wp2_with fail
  refine set5_fold ?_
  refine bodyPost_ret (results_ex rfl _ _ rfl hf.out.1.cells.1) rfl hf.out.2
 rw [k2] at hkd
 by_cases k3:i + 1 < l.length
 case neg =>
  have hno:¬ (kindAt l i=2∧isAt l (i + 1) [60,45]=true):=fun h=>k3 (isAt_lt h.2)
  have hii:(l.length:Int)≤(i:Int) + 1:=by omega
  have hdd:decide ((l.length:Int)≤(i:Int) + 1)=true:=decide_eq_true hii
  clear k2 k3
  have hx9:=hx0.out
  rw [if_neg hno] at hx9
  have hx8:=Lib.hid hx9
  clear hx9 hno hx0
  clear hfl hfn
  go_enter Tryz.func68,Tryz.ntmps68
  go_upto_region 1 with (fail)
  rw [hW1'.out]
  go_quiet (first | (go_at_call 127;refine Calls.quiet_of (hkd.out _)))
  obtain ⟨D3,hD3⟩:∃ V,W1.drewN nq=V:=⟨_,rfl⟩
  have hbD3:Below W1.heap.size W1 D3:=by rw [←hD3];exact below_drewN' (Below.refl _ _) _
  rw [hD3]
  have zD3:=Lib.hid hbD3.size
  have hpD3:=Lib.hid (hp1.out.below hbD3)
  have bAD3:=Lib.hid (bA1.out.below hbD3)
  clear hp1 bA1 hD3 hbD3
  have cE:=Lib.hid (hE D3 i x hpD3.out.rd hx8.out)
  go_wp2_with fail
  refine cE.out.mono ?_
  rintro e V ⟨hB,hm⟩
  rcases x with p | ⟨es,jx⟩
  case error =>
   obtain rfl:=hm
   exact ⟨rfl,hpD3.out.bb.next hB,rfl⟩
  obtain ⟨v,y,rfl,rfl,hL,hR⟩:=hm
  obtain ⟨k0,s0,n0,a0,m0,c0,b0,o0,d0,rfl⟩:=hL.out.agg
  have zV:=Lib.hid hB.size
  have tL:Hid (Lay D3.heap.size V.heap.size V fun x=>IsEx x (.agg #[.int .i64 k0,.string s0,.int .i64 n0,.slice a0 m0 c0,.slice b0 o0 d0]) y):=hL
  have hpV:=Lib.hid (hpD3.out.call hB hR)
  have bAV:=Lib.hid (bAD3.out.bb hB (by have:=hrb;have:=zz1.out;have:=zD3.out;omega))
  clear hB hR hL hpD3 bAD3
  have hl:LayH [W.heap.size] W.heap.size V.heap.size V fun x=>IsEx x (.agg #[.int .i64 k0,.string s0,.int .i64 n0,.slice a0 m0 c0,.slice b0 o0 d0]) y:=LayH.of_lay tL.out (by have:=hrb;have:=zz1.out;have:=zD3.out;have:=zV.out;omega) (by have:=hrb;have:=zz1.out;have:=zD3.out;have:=zV.out;omega) (Nat.le_refl _) (fun q hq=>by simp only [List.mem_cons,List.not_mem_nil,or_false] at hq;subst hq;have:=hrb;have:=zz1.out;have:=zD3.out;have:=zV.out;omega)
  have hf:=Lib.hid (ExR.fin1 h'.out hpV.out (show Box5 V 27 W.heap.size (.int .i64 0) (.string ⟨#[]⟩) (.int .i64 0) (.slice none 0 0) (.slice none 0 0) from bAV.out) (Nat.le_refl _) hl)
  clear hl
  obtain ⟨⟨m40,m41,m42,m43,m44⟩,m4f⟩:=(show Box5 V 27 W.heap.size (.int .i64 0) (.string ⟨#[]⟩) (.int .i64 0) (.slice none 0 0) (.slice none 0 0) from bAV.out).cells
  have m4l:W.heap.size < V.heap.size:=blk_lt (show Box5 V 27 W.heap.size (.int .i64 0) (.string ⟨#[]⟩) (.int .i64 0) (.slice none 0 0) (.slice none 0 0) from bAV.out)
  go_wp2_with fail
  refine set5_fold ?_
  refine bodyPost_ret (results_ex rfl _ _ rfl hf.out.1.cells.1) rfl hf.out.2
 obtain ⟨bb,off,haa,hbb,t0,t1,_⟩:=hp1.out.rd.tokAt k3
 rw [haa] at c0
 clear haa
 have hii:(i:Int) + 1 < (l.length:Int):=by omega
 have hdd:decide ((l.length:Int)≤(i:Int) + 1)=false:=decide_eq_false (by omega)
 have hk1:kindAt l (i + 1)=(tkAt l (i + 1)).kind:=rfl
 obtain ⟨q1,hq1⟩:∃ q,(tkAt l (i + 1)).kind=q:=⟨_,rfl⟩
 obtain ⟨x1,hx1⟩:∃ q,(tkAt l (i + 1)).text=q:=⟨_,rfl⟩
 rw [hq1] at t0 hk1
 rw [hx1] at t1
 by_cases k4:q1=4
 case neg =>
  have hno:¬ (kindAt l i=2∧isAt l (i + 1) [60,45]=true):=fun h=>k4 (hk1 ▸ isAt_kind h.2)
  have hd:(q1 != 4)=true:=by simpa using k4
  clear k2 k3 k4 hk1 hq1 hx1
  have hx9:=hx0.out
  rw [if_neg hno] at hx9
  have hx8:=Lib.hid hx9
  clear hx9 hno hx0
  clear hfl hfn
  go_enter Tryz.func68,Tryz.ntmps68
  go_upto_region 1 with (fail)
  rw [hW1'.out]
  go_quiet (first | (go_at_call 127;refine Calls.quiet_of (hkd.out _)))
  obtain ⟨D5,hD5⟩:∃ V,W1.drewN nq=V:=⟨_,rfl⟩
  have hbD5:Below W1.heap.size W1 D5:=by rw [←hD5];exact below_drewN' (Below.refl _ _) _
  rw [hD5]
  have zD5:=Lib.hid hbD5.size
  have hpD5:=Lib.hid (hp1.out.below hbD5)
  have bAD5:=Lib.hid (bA1.out.below hbD5)
  clear hp1 bA1 hD5 hbD5
  have cE:=Lib.hid (hE D5 i x hpD5.out.rd hx8.out)
  go_wp2_with fail
  refine cE.out.mono ?_
  rintro e V ⟨hB,hm⟩
  rcases x with p | ⟨es,jx⟩
  case error =>
   obtain rfl:=hm
   exact ⟨rfl,hpD5.out.bb.next hB,rfl⟩
  obtain ⟨v,y,rfl,rfl,hL,hR⟩:=hm
  obtain ⟨k0,s0,n0,a0,m0,c0,b0,o0,d0,rfl⟩:=hL.out.agg
  have zV:=Lib.hid hB.size
  have tL:Hid (Lay D5.heap.size V.heap.size V fun x=>IsEx x (.agg #[.int .i64 k0,.string s0,.int .i64 n0,.slice a0 m0 c0,.slice b0 o0 d0]) y):=hL
  have hpV:=Lib.hid (hpD5.out.call hB hR)
  have bAV:=Lib.hid (bAD5.out.bb hB (by have:=hrb;have:=zz1.out;have:=zD5.out;omega))
  clear hB hR hL hpD5 bAD5
  have hl:LayH [W.heap.size] W.heap.size V.heap.size V fun x=>IsEx x (.agg #[.int .i64 k0,.string s0,.int .i64 n0,.slice a0 m0 c0,.slice b0 o0 d0]) y:=LayH.of_lay tL.out (by have:=hrb;have:=zz1.out;have:=zD5.out;have:=zV.out;omega) (by have:=hrb;have:=zz1.out;have:=zD5.out;have:=zV.out;omega) (Nat.le_refl _) (fun q hq=>by simp only [List.mem_cons,List.not_mem_nil,or_false] at hq;subst hq;have:=hrb;have:=zz1.out;have:=zD5.out;have:=zV.out;omega)
  have hf:=Lib.hid (ExR.fin1 h'.out hpV.out (show Box5 V 27 W.heap.size (.int .i64 0) (.string ⟨#[]⟩) (.int .i64 0) (.slice none 0 0) (.slice none 0 0) from bAV.out) (Nat.le_refl _) hl)
  clear hl
  obtain ⟨⟨m60,m61,m62,m63,m64⟩,m6f⟩:=(show Box5 V 27 W.heap.size (.int .i64 0) (.string ⟨#[]⟩) (.int .i64 0) (.slice none 0 0) (.slice none 0 0) from bAV.out).cells
  have m6l:W.heap.size < V.heap.size:=blk_lt (show Box5 V 27 W.heap.size (.int .i64 0) (.string ⟨#[]⟩) (.int .i64 0) (.slice none 0 0) (.slice none 0 0) from bAV.out)
  go_wp2_with fail
  refine set5_fold ?_
  refine bodyPost_ret (results_ex rfl _ _ rfl hf.out.1.cells.1) rfl hf.out.2
 rw [k4] at t0 hk1
 by_cases k5:x1=[60,45]
 case neg =>
  have hno:¬ (kindAt l i=2∧isAt l (i + 1) [60,45]=true):=fun h=>k5 (by have:=isAt_text h.2;unfold textAt at this;rw [hx1] at this;exact tS_ext this)
  have hd:((tS x1).toList == [60,45])=false:=by rw [toL6,bS_tS];simpa using k5
  clear k2 k3 k4 k5 hk1 hq1 hx1
  have hx9:=hx0.out
  rw [if_neg hno] at hx9
  have hx8:=Lib.hid hx9
  clear hx9 hno hx0
  clear hfl hfn
  go_enter Tryz.func68,Tryz.ntmps68
  go_upto_region 1 with (fail)
  rw [hW1'.out]
  go_quiet (first | (go_at_call 127;refine Calls.quiet_of (hkd.out _)))
  obtain ⟨D7,hD7⟩:∃ V,W1.drewN nq=V:=⟨_,rfl⟩
  have hbD7:Below W1.heap.size W1 D7:=by rw [←hD7];exact below_drewN' (Below.refl _ _) _
  rw [hD7]
  have zD7:=Lib.hid hbD7.size
  have hpD7:=Lib.hid (hp1.out.below hbD7)
  have bAD7:=Lib.hid (bA1.out.below hbD7)
  clear hp1 bA1 hD7 hbD7
  have cE:=Lib.hid (hE D7 i x hpD7.out.rd hx8.out)
  go_wp2_with fail
  refine cE.out.mono ?_
  rintro e V ⟨hB,hm⟩
  rcases x with p | ⟨es,jx⟩
  case error =>
   obtain rfl:=hm
   exact ⟨rfl,hpD7.out.bb.next hB,rfl⟩
  obtain ⟨v,y,rfl,rfl,hL,hR⟩:=hm
  obtain ⟨k0,s0,n0,a0,m0,c0,b0,o0,d0,rfl⟩:=hL.out.agg
  have zV:=Lib.hid hB.size
  have tL:Hid (Lay D7.heap.size V.heap.size V fun x=>IsEx x (.agg #[.int .i64 k0,.string s0,.int .i64 n0,.slice a0 m0 c0,.slice b0 o0 d0]) y):=hL
  have hpV:=Lib.hid (hpD7.out.call hB hR)
  have bAV:=Lib.hid (bAD7.out.bb hB (by have:=hrb;have:=zz1.out;have:=zD7.out;omega))
  clear hB hR hL hpD7 bAD7
  have hl:LayH [W.heap.size] W.heap.size V.heap.size V fun x=>IsEx x (.agg #[.int .i64 k0,.string s0,.int .i64 n0,.slice a0 m0 c0,.slice b0 o0 d0]) y:=LayH.of_lay tL.out (by have:=hrb;have:=zz1.out;have:=zD7.out;have:=zV.out;omega) (by have:=hrb;have:=zz1.out;have:=zD7.out;have:=zV.out;omega) (Nat.le_refl _) (fun q hq=>by simp only [List.mem_cons,List.not_mem_nil,or_false] at hq;subst hq;have:=hrb;have:=zz1.out;have:=zD7.out;have:=zV.out;omega)
  have hf:=Lib.hid (ExR.fin1 h'.out hpV.out (show Box5 V 27 W.heap.size (.int .i64 0) (.string ⟨#[]⟩) (.int .i64 0) (.slice none 0 0) (.slice none 0 0) from bAV.out) (Nat.le_refl _) hl)
  clear hl
  obtain ⟨⟨m80,m81,m82,m83,m84⟩,m8f⟩:=(show Box5 V 27 W.heap.size (.int .i64 0) (.string ⟨#[]⟩) (.int .i64 0) (.slice none 0 0) (.slice none 0 0) from bAV.out).cells
  have m8l:W.heap.size < V.heap.size:=blk_lt (show Box5 V 27 W.heap.size (.int .i64 0) (.string ⟨#[]⟩) (.int .i64 0) (.slice none 0 0) (.slice none 0 0) from bAV.out)
  go_wp2_with fail
  refine set5_fold ?_
  refine bodyPost_ret (results_ex rfl _ _ rfl hf.out.1.cells.1) rfl hf.out.2
 have hyes:kindAt l i=2∧isAt l (i + 1) [60,45]=true:=⟨k2,by unfold isAt keyT;rw [hq1,hx1,k4,k5];rfl⟩
 have hi2:=kindAt_lt k2 (by decide)
 have ht1:tS x1=⟨#[60,45]⟩:=by rw [k5];rfl
 rw [ht1] at t1
 have hx9:=hx0.out
 rw [if_pos hyes] at hx9
 have hx8:=Lib.hid hx9
 clear hx9 hx0 hyes k2 k3 k4 k5 hk1 hq1 hx1 ht1
 skip
 go_enter Tryz.func68,Tryz.ntmps68
 go_upto_region 1 with (fail)
 rw [hW1'.out]
 go_quiet (first | (go_at_call 127;refine Calls.quiet_of (hkd.out _)))
 obtain ⟨D9,hD9⟩:∃ V,W1.drewN nq=V:=⟨_,rfl⟩
 have hbD9:Below W1.heap.size W1 D9:=by rw [←hD9];exact below_drewN' (Below.refl _ _) _
 rw [hD9]
 have zD9:=Lib.hid hbD9.size
 have hpD9:=Lib.hid (hp1.out.below hbD9)
 have bAD9:=Lib.hid (bA1.out.below hbD9)
 clear hp1 bA1 hD9 hbD9
 have hnx:=Lib.hid (par_next hpD9.out.rd hi2)
 unfold tkV at hnx
 clear c0 c1 cf t0 t1
 go_wp2_with fail
 refine hnx.out.mono ?_
 rintro e V2 ⟨rfl,hB,hR⟩
 have zV2:=Lib.hid hB.size
 have hpV2:=Lib.hid (hpD9.out.call hB hR)
 have bAV2:=Lib.hid (bAD9.out.bb hB (by have:=hrb;have:=zz1.out;have:=zD9.out;omega))
 clear hB hR hnx hpD9 bAD9
 rw [show tS (tkAt l i).text=textAt l i from rfl]
 obtain ⟨S,hS⟩:∃ S,(textAt l i)=S:=⟨_,rfl⟩
 have hSz:Hid (S.size≤lenMax):=by rw [←hS];exact fit_text h'.out.fit _
 rw [hS] at hx8 ⊢
 clear hS
 obtain ⟨W10,hW10⟩:∃ V,V2.alloc (.cells #[.string S] 9)=V:=⟨_,rfl⟩
 have hbW10:Below V2.heap.size V2 W10:=by rw [←hW10];exact (Below.refl _ _).alloc (Nat.le_refl _) _
 have zW10:Hid (W10.heap.size=V2.heap.size + 1):=by rw [←hW10];simp [Hid]
 have bW10:Hid (Blk W10 V2.heap.size (.cells #[.string S] 9 (0,0))):=by rw [←hW10];exact Blk.new
 have hpW10:=Lib.hid (hpV2.out.below hbW10)
 have bAW10:=Lib.hid (bAV2.out.below hbW10)
 have hW10':=Lib.hid hW10
 clear hW10 hbW10 hpV2 bAV2
 have tN:Hid (Lay V2.heap.size (V2.heap.size + 1) W10 fun x=>StrRow x (some ⟨V2.heap.size,0,none⟩) [S]):=by rw [←hW10'.out];exact lay_str1 hSz.out
 obtain ⟨W11,hW11⟩:∃ V,W10.alloc (.cells #[.int .i64 13,.string ⟨#[]⟩,.int .i64 0,.slice (some ⟨V2.heap.size,0,none⟩) 1 1,.slice none 0 0] 27)=V:=⟨_,rfl⟩
 have hbW11:Below W10.heap.size W10 W11:=by rw [←hW11];exact (Below.refl _ _).alloc (Nat.le_refl _) _
 have zW11:Hid (W11.heap.size=W10.heap.size + 1):=by rw [←hW11];simp [Hid]
 have bW11:Hid (Blk W11 (V2.heap.size + 1) (.cells #[.int .i64 13,.string ⟨#[]⟩,.int .i64 0,.slice (some ⟨V2.heap.size,0,none⟩) 1 1,.slice none 0 0] 27 (0,0))):=by have e:=zW10.out;rw [←hW11,←e];exact Blk.new
 have hpW11:=Lib.hid (hpW10.out.below hbW11)
 have bAW11:=Lib.hid (bAW10.out.below hbW11)
 have rNW11:=Lib.hid (bW10.out.below hbW11)
 have tNW11:=Lib.hid (tN.out.below hbW11)
 have hW11':=Lib.hid hW11
 clear hW11 hbW11 hpW10 bAW10 bW10 tN
 go_upto_region 4 with (fail)
 rw [hW10'.out,hW11'.out]
 have hst:=hpW11.out.rd.step (j:=i + 2) (by omega)
 obtain ⟨c0,c1,cf⟩:=hpW11.out.rd.cells
 rw [show ((i + 1:Nat):Int)=(i:Int) + 1 by omega] at c1
 rw [show ((i + 2:Nat):Int)=(i:Int) + 1 + 1 by omega] at hst
 have hw2:IntKind.i64.wrap ((i:Int) + 1 + 1)=(i:Int) + 1 + 1:=IntWalk.i64_in _ (by omega)
 obtain ⟨M,hM⟩:∃ M,W11.setCell ⟨rb,1,none⟩ (.int .i64 ((i:Int) + 1 + 1))=M:=⟨_,rfl⟩
 rw [hM] at hst
 have zM:Hid (W11.heap.size≤M.heap.size):=hst.2.size
 go_upto_region 5 with (fail)
 try rw [hM]
 clear hM c0 c1 cf
 have hpM:=Lib.hid (hpW11.out.call hst.2 hst.1)
 have bAM:=Lib.hid (bAW11.out.bb hst.2 (by have:=hrb;have:=zz1.out;have:=zD9.out;have:=zV2.out;have:=zW10.out;have:=zW11.out;omega))
 have rNM:=Lib.hid (rNW11.out.bb hst.2 (by have:=hrb;have:=zz1.out;have:=zD9.out;have:=zV2.out;have:=zW10.out;have:=zW11.out;omega))
 have tNM:=Lib.hid (tNW11.out.bb hst.2 (by have:=hrb;have:=zz1.out;have:=zD9.out;have:=zV2.out;have:=zW10.out;have:=zW11.out;omega))
 have bTM:=Lib.hid (bW11.out.bb hst.2 (by have:=hrb;have:=zz1.out;have:=zD9.out;have:=zV2.out;have:=zW10.out;have:=zW11.out;omega))
 clear hst hw hw2 hpW11 bAW11 rNW11 tNW11 bW11
 obtain ⟨q12,hq12,kq12⟩:=pR_split hx8.out
 have cq12:=Lib.hid (hE M (i + 2) q12 hpM.out.rd hq12)
 have kq12:=Lib.hid kq12
 clear hq12 hx8
 go_wp2_with fail
 refine cq12.out.mono ?_
 rintro e V13 ⟨hB,hm⟩
 rcases q12 with p | ⟨es,jq12⟩
 case error =>
  obtain rfl:=hm
  have hxx:=kq12.out
  dsimp only at hxx
  subst hxx
  exact And.intro rfl (And.intro (hpM.out.bb.next hB) rfl)
 obtain ⟨v,yq12,rfl,rfl,hL,hR⟩:=hm
 obtain ⟨kq120,sq12,nq12,aq12,mq12,cq12,bq12,oq12,dq12,rfl⟩:=hL.out.agg
 have zV13:=Lib.hid hB.size
 have tq12:Hid (Lay M.heap.size V13.heap.size V13 fun x=>IsEx x (.agg #[.int .i64 kq120,.string sq12,.int .i64 nq12,.slice aq12 mq12 cq12,.slice bq12 oq12 dq12]) yq12):=hL
 have hpV13:=Lib.hid (hpM.out.call hB hR)
 have bAV13:=Lib.hid (bAM.out.bb hB (by have:=hrb;have:=zz1.out;have:=zD9.out;have:=zV2.out;have:=zW10.out;have:=zW11.out;have:=zM.out;omega))
 have rNV13:=Lib.hid (rNM.out.bb hB (by have:=hrb;have:=zz1.out;have:=zD9.out;have:=zV2.out;have:=zW10.out;have:=zW11.out;have:=zM.out;omega))
 have tNV13:=Lib.hid (tNM.out.bb hB (by have:=hrb;have:=zz1.out;have:=zD9.out;have:=zV2.out;have:=zW10.out;have:=zW11.out;have:=zM.out;omega))
 have bTV13:=Lib.hid (bTM.out.bb hB (by have:=hrb;have:=zz1.out;have:=zD9.out;have:=zV2.out;have:=zW10.out;have:=zW11.out;have:=zM.out;omega))
 have kxq12:=Lib.hid kq12.out
 try dsimp only at kxq12
 clear hB hR hL kq12
 clear hpM bAM rNM tNM bTM
 obtain ⟨⟨m140,m141,m142,m143,m144⟩,m14f⟩:=(show Box5 V13 27 (V2.heap.size + 1) (.int .i64 13) (.string ⟨#[]⟩) (.int .i64 0) (.slice (some ⟨V2.heap.size,0,none⟩) 1 1) (.slice none 0 0) from bTV13.out).cells
 have m14l:(V2.heap.size + 1) < V13.heap.size:=blk_lt (show Box5 V13 27 (V2.heap.size + 1) (.int .i64 13) (.string ⟨#[]⟩) (.int .i64 0) (.slice (some ⟨V2.heap.size,0,none⟩) 1 1) (.slice none 0 0) from bTV13.out)
 go_upto_region 6 with (fail)
 obtain ⟨M16,hM16⟩:∃ V,V13.setCell ⟨(V2.heap.size + 1),4,none⟩ (.slice (some ⟨V13.heap.size,0,none⟩) 1 1)=V:=⟨_,rfl⟩
 have hsM16:=(show Box5 V13 27 (V2.heap.size + 1) (.int .i64 13) (.string ⟨#[]⟩) (.int .i64 0) (.slice (some ⟨V2.heap.size,0,none⟩) 1 1) (.slice none 0 0) from bTV13.out).at4 (.slice (some ⟨V13.heap.size,0,none⟩) 1 1)
 rw [hM16] at hsM16
 have zM16:=Lib.hid hsM16.2.size
 have hpM16:Hid (PS W rb a c l (jq12) M16):=PS.own h'.out hpV13.out hsM16.2 (by have:=hrb;have:=zz1.out;have:=zD9.out;have:=zV2.out;have:=zW10.out;have:=zW11.out;have:=zM.out;have:=zV13.out;omega)
 have bAM16:Hid (Box5 M16 27 W.heap.size (.int .i64 0) (.string ⟨#[]⟩) (.int .i64 0) (.slice none 0 0) (.slice none 0 0)):=(show Box5 V13 27 W.heap.size (.int .i64 0) (.string ⟨#[]⟩) (.int .i64 0) (.slice none 0 0) (.slice none 0 0) from bAV13.out).own hsM16.2 (by have:=hrb;have:=zz1.out;have:=zD9.out;have:=zV2.out;have:=zW10.out;have:=zW11.out;have:=zM.out;have:=zV13.out;omega)
 have rNM16:Hid (Blk M16 V2.heap.size (.cells #[.string S] 9 (0,0))):=(show Blk V13 V2.heap.size (.cells #[.string S] 9 (0,0)) from rNV13.out).own hsM16.2 (by have:=hrb;have:=zz1.out;have:=zD9.out;have:=zV2.out;have:=zW10.out;have:=zW11.out;have:=zM.out;have:=zV13.out;omega)
 have tNM16:=Lib.hid (tNV13.out.own hsM16.2 (by have:=hrb;have:=zz1.out;have:=zD9.out;have:=zV2.out;have:=zW10.out;have:=zW11.out;have:=zM.out;have:=zV13.out;omega))
 have tq12M16:=Lib.hid (tq12.out.own hsM16.2 (by have:=hrb;have:=zz1.out;have:=zD9.out;have:=zV2.out;have:=zW10.out;have:=zW11.out;have:=zM.out;have:=zV13.out;omega))
 have bTM16:Hid (Box5 M16 27 (V2.heap.size + 1) (.int .i64 13) (.string ⟨#[]⟩) (.int .i64 0) (.slice (some ⟨V2.heap.size,0,none⟩) 1 1) (.slice (some ⟨V13.heap.size,0,none⟩) 1 1)):=hsM16.1
 have hM16':=Lib.hid hM16
 clear hM16 hsM16 bTV13 hpV13 bAV13 rNV13 tNV13 tq12
 obtain ⟨W15,hW15⟩:∃ V,M16.alloc (.cells #[.int .i64 kq120,.string sq12,.int .i64 nq12,.slice aq12 mq12 cq12,.slice bq12 oq12 dq12] 27)=V:=⟨_,rfl⟩
 have hbW15:Below M16.heap.size M16 W15:=by rw [←hW15];exact (Below.refl _ _).alloc (Nat.le_refl _) _
 have zW15:Hid (W15.heap.size=M16.heap.size + 1):=by rw [←hW15];simp [Hid]
 have bW15:Hid (Blk W15 V13.heap.size (.cells #[.int .i64 kq120,.string sq12,.int .i64 nq12,.slice aq12 mq12 cq12,.slice bq12 oq12 dq12] 27 (0,0))):=by have e:=zM16.out;rw [←hW15,←e];exact Blk.new
 have hpW15:=Lib.hid (hpM16.out.below hbW15)
 have bAW15:=Lib.hid (bAM16.out.below hbW15)
 have rNW15:=Lib.hid (rNM16.out.below hbW15)
 have tNW15:=Lib.hid (tNM16.out.below hbW15)
 have tq12W15:=Lib.hid (tq12M16.out.below hbW15)
 have bTW15:=Lib.hid (bTM16.out.below hbW15)
 have hW15':=Lib.hid hW15
 clear hW15 hbW15 hpM16 bAM16 rNM16 tNM16 tq12M16 bTM16
 rw [hM16'.out,hW15'.out]
 clear m140 m141 m142 m143 m144 m14f m14l
 have hl:LayH [W.heap.size] W.heap.size W15.heap.size W15 fun x=>IsEx x (.agg #[.int .i64 13,.string ⟨#[]⟩,.int .i64 0,.slice (some ⟨V2.heap.size,0,none⟩) 1 1,.slice (some ⟨V13.heap.size,0,none⟩) 1 1]) (.mk 13 ⟨#[]⟩ 0 [S] [yq12]):=by
  have:=hrb
  have:=zz1.out
  have:=zD9.out
  have:=zV2.out
  have:=zW10.out
  have:=zW11.out
  have:=zM.out
  have:=zV13.out
  have:=zM16.out
  have:=zW15.out
  have g0:=LayH.of_lay (hs:=[W.heap.size]) (B':=W.heap.size) (E':=W15.heap.size) tq12W15.out (by omega) (by omega) (Nat.le_refl _) (fun q hq=>by simp only [List.mem_cons,List.not_mem_nil,or_false] at hq;subst hq;omega)
  have gn:=LayH.of_lay (hs:=[W.heap.size]) (B':=W.heap.size) (E':=W15.heap.size) tNW15.out (by omega) (by omega) (Nat.le_refl _) (fun q hq=>by simp only [List.mem_cons,List.not_mem_nil,or_false] at hq;subst hq;omega)
  have gr:=LayH.rowOf (hs:=[W.heap.size]) (B:=W.heap.size) (E:=W15.heap.size) (b:=V13.heap.size) (by omega) (by omega) (by simp;omega) (show Blk _ _ _ from bW15.out) g0
  exact LayH.tree (l:=[S]) (ks:=[yq12]) (by decide) (by decide) (by decide) (by simp [lenMax]) (by simp [lenMax]) gn gr ⟨by simp,Nat.le_refl _⟩
 have hf:=Lib.hid (ExR.fin1 h'.out hpW15.out (show Box5 W15 27 W.heap.size (.int .i64 0) (.string ⟨#[]⟩) (.int .i64 0) (.slice none 0 0) (.slice none 0 0) from bAW15.out) (Nat.le_refl _) hl)
 obtain ⟨⟨m170,m171,m172,m173,m174⟩,m17f⟩:=(show Box5 W15 27 W.heap.size (.int .i64 0) (.string ⟨#[]⟩) (.int .i64 0) (.slice none 0 0) (.slice none 0 0) from bAW15.out).cells
 have m17l:W.heap.size < W15.heap.size:=blk_lt (show Box5 W15 27 W.heap.size (.int .i64 0) (.string ⟨#[]⟩) (.int .i64 0) (.slice none 0 0) (.slice none 0 0) from bAW15.out)
 obtain ⟨⟨m180,m181,m182,m183,m184⟩,m18f⟩:=(show Box5 W15 27 (V2.heap.size + 1) (.int .i64 13) (.string ⟨#[]⟩) (.int .i64 0) (.slice (some ⟨V2.heap.size,0,none⟩) 1 1) (.slice (some ⟨V13.heap.size,0,none⟩) 1 1) from bTW15.out).cells
 have m18l:(V2.heap.size + 1) < W15.heap.size:=blk_lt (show Box5 W15 27 (V2.heap.size + 1) (.int .i64 13) (.string ⟨#[]⟩) (.int .i64 0) (.slice (some ⟨V2.heap.size,0,none⟩) 1 1) (.slice (some ⟨V13.heap.size,0,none⟩) 1 1) from bTW15.out)
 have hxx:Hid (x=_):=(Option.some.inj kxq12.out).symm
 clear hl
 go_wp2_with fail
 refine set5_fold ?_
 refine bodyPost_ret (results_ex rfl _ _ rfl hf.out.1.cells.1) rfl ?_
 rw [hxx.out]
 exact hf.out.2
end
end Go.Proofs.YtinjocchommbdaaGreatDoor
namespace Go.Proofs.YtinjocchommbdaaGreatDoor
open Go.RowKit
def exL:List Bs:=[[92],[108,101,116],[99,97,115,101],[105,102],[100,111],[100,111,115]]
theorem sgn6_split {l:List Tk} {i:Nat} {s:Bs} {r:Nat→Ans6 (List Ex)} {k:List Ex→Nat→Ans6 (List Ex)} {x:Except Nat (List Ex × Nat)} (h:(sgn6 l i s fun m=>(r m).bnd k)=some x):∃ x2,(sgn6 l i s fun m=>r m)=some x2∧match x2 with
  | .error p=>x=.error p
  | .ok (es,j)=>k es j=some x:=by
 unfold sgn6 at h ⊢
 split
 ·
  rename_i hs
  rw [if_pos hs] at h
  dsimp only at h
  cases hq:r (i + 1) with
  | none=>rw [hq] at h;cases h
  | some x2 =>
   rw [hq] at h
   refine ⟨x2,hq,?_⟩
   cases x2 with
   | error p=>exact (Option.some.inj h).symm
   | ok q=>exact h
 ·
  rename_i hs
  rw [if_neg hs] at h
  exact ⟨_,rfl,(Option.some.inj h).symm⟩
section
variable {rb:Nat} {a:Option Addr} {c:Nat} {l:List Tk}
set_option maxHeartbeats 8000000 in
set_option maxRecDepth 100000 in
theorem par_expr_comp {f:Nat} (hC:RuleC 69 rb a c l f .comp) (W:World) (i:Nat) (x:Except Nat (List Ex × Nat)) (h:Rd W rb a c l i) (n0:isAt l i [92]=false) (n1:isAt l i [108,101,116]=false) (n2:isAt l i [99,97,115,101]=false) (n3:isAt l i [105,102]=false) (n4:isAt l i [100,111]=false) (n5:isAt l i [100,111,115]=false) (hx:(pR l f .comp i)=some x):Calls Tryz.prog 27 #[.pointer (some ⟨rb,0,none⟩)] W fun e W'=>ExR W rb a c l x e W':=by
 have ho:anyAt l i exL=none:=by
  simp only [anyAt,exL,List.find?_cons,List.find?_nil,n0,n1,n2,n3,n4,n5]
 have hmf:∀ (fn:Fn) (first cap:Array Value) (w:World),(Instr.makeFunc fn first cap).run Tryz.prog w=.ok (.func fn first cap) w:=fun _ _ _ _=>rfl
 clear n0 n1 n2 n3 n4 n5
 obtain ⟨W1,hW1⟩:∃ V,W.alloc (.cells #[.int .i64 0,.string ⟨#[]⟩,.int .i64 0,.slice none 0 0,.slice none 0 0] 27)=V:=⟨_,rfl⟩
 have hb1:Below W.heap.size W W1:=by rw [←hW1];exact (Below.refl _ _).alloc (Nat.le_refl _) _
 have bA1:Hid (Box5 W1 27 W.heap.size (.int .i64 0) (.string ⟨#[]⟩) (.int .i64 0) (.slice none 0 0) (.slice none 0 0)):=by rw [←hW1];exact blk_new (Below.refl _ _)
 have zz1:Hid (W1.heap.size=W.heap.size + 1):=by rw [←hW1];simp [Hid]
 have hp1:=Lib.hid ((PS.refl h).below hb1)
 have hrb:=h.lt
 have h':=Lib.hid h
 have hW1':=Lib.hid hW1
 have hx0:=Lib.hid hx
 have hfl:=Tryz.fldText
 have hfn:=Tryz.fldNum
 clear hW1 hb1 h hx
 obtain ⟨W2,hW2⟩:∃ V,W1.alloc (.cells #[.string ⟨#[92]⟩,.string ⟨#[108,101,116]⟩,.string ⟨#[99,97,115,101]⟩,.string ⟨#[105,102]⟩,.string ⟨#[100,111]⟩,.string ⟨#[100,111,115]⟩] 9)=V:=⟨_,rfl⟩
 have hbW2:Below W1.heap.size W1 W2:=by rw [←hW2];exact (Below.refl _ _).alloc (Nat.le_refl _) _
 have zW2:Hid (W2.heap.size=W1.heap.size + 1):=by rw [←hW2];simp [Hid]
 have bW2:Hid (Blk W2 W1.heap.size (.cells #[.string ⟨#[92]⟩,.string ⟨#[108,101,116]⟩,.string ⟨#[99,97,115,101]⟩,.string ⟨#[105,102]⟩,.string ⟨#[100,111]⟩,.string ⟨#[100,111,115]⟩] 9 (0,0))):=by rw [←hW2];exact Blk.new
 have hpW2:=Lib.hid (hp1.out.below hbW2)
 have bAW2:=Lib.hid (bA1.out.below hbW2)
 have hW2':=Lib.hid hW2
 clear hW2 hbW2 hp1 bA1
 have hany:Hid (Calls Tryz.prog 62 #[.pointer (some ⟨rb,0,none⟩),.slice (some ⟨W1.heap.size,0,none⟩) 6 6] W2 fun e W'=>e=.returned (.tuple #[.string ⟨#[]⟩,.bool false])∧Bb W2.heap.size rb W2 W'∧Rd W' rb a c l (i)):=by
  have:=any_call (ss:=exL) (sc:=6) hpW2.out.rd (sb:=W1.heap.size) ⟨blk_lt (show Blk W2 W1.heap.size (.cells #[.string ⟨#[92]⟩,.string ⟨#[108,101,116]⟩,.string ⟨#[99,97,115,101]⟩,.string ⟨#[105,102]⟩,.string ⟨#[100,111]⟩,.string ⟨#[100,111,115]⟩] 9 (0,0)) from bW2.out),fun j hj=>by
   have hj2:j=0∨j=1∨j=2∨j=3∨j=4∨j=5:=by simp [exL] at hj;omega
   rw [←hW2'.out]
   rcases hj2 with rfl | rfl | rfl | rfl | rfl | rfl <;> exact (new_cell _ _ _ _).trans rfl⟩ (by decide)
  rw [ho] at this
  exact this
 clear ho
 go_enter Tryz.func27,Tryz.ntmps27
 go_upto_region 1 with (fail)
 rw [hW1'.out]
 go_wp2_with fail
 rw [hW2'.out]
 refine hany.out.mono ?_
 rintro e V3 ⟨rfl,hB,hR⟩
 have zV3:=Lib.hid hB.size
 have hpV3:=Lib.hid (hpW2.out.call hB hR)
 have bAV3:=Lib.hid (bAW2.out.bb hB (by have:=hrb;have:=zz1.out;have:=zW2.out;omega))
 have rOV3:=Lib.hid (bW2.out.bb hB (by have:=hrb;have:=zz1.out;have:=zW2.out;omega))
 clear hB hR hany hpW2 bAW2 bW2
 have cE:=Lib.hid (hC V3 i x hpV3.out.rd hx0.out)
 go_wp2_with fail
 refine cE.out.mono ?_
 rintro e U ⟨hB,hm⟩
 rcases x with p | ⟨es,jx⟩
 case error =>
  obtain rfl:=hm
  exact ⟨rfl,hpV3.out.bb.next hB,rfl⟩
 obtain ⟨v,y,rfl,rfl,hL,hR⟩:=hm
 obtain ⟨k0,s0,n0,a0,m0,c0,b0,o0,d0,rfl⟩:=hL.out.agg
 have zU:=Lib.hid hB.size
 have tL:Hid (Lay V3.heap.size U.heap.size U fun x=>IsEx x (.agg #[.int .i64 k0,.string s0,.int .i64 n0,.slice a0 m0 c0,.slice b0 o0 d0]) y):=hL
 have hpU:=Lib.hid (hpV3.out.call hB hR)
 have bAU:=Lib.hid (bAV3.out.bb hB (by have:=hrb;have:=zz1.out;have:=zW2.out;have:=zV3.out;omega))
 clear hB hR hL hpV3 bAV3
 have hl:LayH [W.heap.size] W.heap.size U.heap.size U fun x=>IsEx x (.agg #[.int .i64 k0,.string s0,.int .i64 n0,.slice a0 m0 c0,.slice b0 o0 d0]) y:=LayH.of_lay tL.out (by have:=hrb;have:=zz1.out;have:=zW2.out;have:=zV3.out;have:=zU.out;omega) (by have:=hrb;have:=zz1.out;have:=zW2.out;have:=zV3.out;have:=zU.out;omega) (Nat.le_refl _) (fun q hq=>by simp only [List.mem_cons,List.not_mem_nil,or_false] at hq;subst hq;have:=hrb;have:=zz1.out;have:=zW2.out;have:=zV3.out;have:=zU.out;omega)
 have hf:=Lib.hid (ExR.fin1 h'.out hpU.out (show Box5 U 27 W.heap.size (.int .i64 0) (.string ⟨#[]⟩) (.int .i64 0) (.slice none 0 0) (.slice none 0 0) from bAU.out) (Nat.le_refl _) hl)
 clear hl
 obtain ⟨⟨m40,m41,m42,m43,m44⟩,m4f⟩:=(show Box5 U 27 W.heap.size (.int .i64 0) (.string ⟨#[]⟩) (.int .i64 0) (.slice none 0 0) (.slice none 0 0) from bAU.out).cells
 have m4l:W.heap.size < U.heap.size:=blk_lt (show Box5 U 27 W.heap.size (.int .i64 0) (.string ⟨#[]⟩) (.int .i64 0) (.slice none 0 0) (.slice none 0 0) from bAU.out)
 go_wp2_with fail
 refine set5_fold ?_
 refine bodyPost_ret (results_ex rfl _ _ rfl hf.out.1.cells.1) rfl hf.out.2
set_option maxHeartbeats 8000000 in
set_option maxRecDepth 100000 in
theorem par_expr_let {f:Nat} (hE:RuleC 27 rb a c l f .expr) (W:World) (i:Nat) (x:Except Nat (List Ex × Nat)) (h:Rd W rb a c l i) (n0:isAt l i [92]=false) (y1:isAt l i [108,101,116]=true) (hx:(if kindAt l (i + 1)=2 then sgn6 l (i + 1 + 1) [61] fun j=>(pR l f .expr j).bnd fun a k=>sgn6 l k [105,110] fun m=>(pR l f .expr m).bnd fun b n=>ok6 [.mk 6 ex0 0 [textAt l (i + 1)] (a ++ b)] n else err6 (i + 1))=some x):Calls Tryz.prog 27 #[.pointer (some ⟨rb,0,none⟩)] W fun e W'=>ExR W rb a c l x e W':=by
 have ho:anyAt l i exL=some [108,101,116]:=by
  simp only [anyAt,exL,List.find?_cons,List.find?_nil,n0,y1]
 have hmf:∀ (fn:Fn) (first cap:Array Value) (w:World),(Instr.makeFunc fn first cap).run Tryz.prog w=.ok (.func fn first cap) w:=fun _ _ _ _=>rfl
 clear n0 y1
 obtain ⟨W1,hW1⟩:∃ V,W.alloc (.cells #[.int .i64 0,.string ⟨#[]⟩,.int .i64 0,.slice none 0 0,.slice none 0 0] 27)=V:=⟨_,rfl⟩
 have hb1:Below W.heap.size W W1:=by rw [←hW1];exact (Below.refl _ _).alloc (Nat.le_refl _) _
 have bA1:Hid (Box5 W1 27 W.heap.size (.int .i64 0) (.string ⟨#[]⟩) (.int .i64 0) (.slice none 0 0) (.slice none 0 0)):=by rw [←hW1];exact blk_new (Below.refl _ _)
 have zz1:Hid (W1.heap.size=W.heap.size + 1):=by rw [←hW1];simp [Hid]
 have hp1:=Lib.hid ((PS.refl h).below hb1)
 have hrb:=h.lt
 have h':=Lib.hid h
 have hW1':=Lib.hid hW1
 have hx0:=Lib.hid hx
 have hfl:=Tryz.fldText
 have hfn:=Tryz.fldNum
 clear hW1 hb1 h hx
 obtain ⟨W2,hW2⟩:∃ V,W1.alloc (.cells #[.string ⟨#[92]⟩,.string ⟨#[108,101,116]⟩,.string ⟨#[99,97,115,101]⟩,.string ⟨#[105,102]⟩,.string ⟨#[100,111]⟩,.string ⟨#[100,111,115]⟩] 9)=V:=⟨_,rfl⟩
 have hbW2:Below W1.heap.size W1 W2:=by rw [←hW2];exact (Below.refl _ _).alloc (Nat.le_refl _) _
 have zW2:Hid (W2.heap.size=W1.heap.size + 1):=by rw [←hW2];simp [Hid]
 have bW2:Hid (Blk W2 W1.heap.size (.cells #[.string ⟨#[92]⟩,.string ⟨#[108,101,116]⟩,.string ⟨#[99,97,115,101]⟩,.string ⟨#[105,102]⟩,.string ⟨#[100,111]⟩,.string ⟨#[100,111,115]⟩] 9 (0,0))):=by rw [←hW2];exact Blk.new
 have hpW2:=Lib.hid (hp1.out.below hbW2)
 have bAW2:=Lib.hid (bA1.out.below hbW2)
 have hW2':=Lib.hid hW2
 clear hW2 hbW2 hp1 bA1
 have hany:Hid (Calls Tryz.prog 62 #[.pointer (some ⟨rb,0,none⟩),.slice (some ⟨W1.heap.size,0,none⟩) 6 6] W2 fun e W'=>e=.returned (.tuple #[.string ⟨#[108,101,116]⟩,.bool true])∧Bb W2.heap.size rb W2 W'∧Rd W' rb a c l (i + 1)):=by
  have:=any_call (ss:=exL) (sc:=6) hpW2.out.rd (sb:=W1.heap.size) ⟨blk_lt (show Blk W2 W1.heap.size (.cells #[.string ⟨#[92]⟩,.string ⟨#[108,101,116]⟩,.string ⟨#[99,97,115,101]⟩,.string ⟨#[105,102]⟩,.string ⟨#[100,111]⟩,.string ⟨#[100,111,115]⟩] 9 (0,0)) from bW2.out),fun j hj=>by
   have hj2:j=0∨j=1∨j=2∨j=3∨j=4∨j=5:=by simp [exL] at hj;omega
   rw [←hW2'.out]
   rcases hj2 with rfl | rfl | rfl | rfl | rfl | rfl <;> exact (new_cell _ _ _ _).trans rfl⟩ (by decide)
  rw [ho] at this
  exact this
 clear ho
 go_enter Tryz.func27,Tryz.ntmps27
 go_upto_region 1 with (fail)
 rw [hW1'.out]
 go_wp2_with fail
 rw [hW2'.out]
 refine hany.out.mono ?_
 rintro e V3 ⟨rfl,hB,hR⟩
 have zV3:=Lib.hid hB.size
 have hpV3:=Lib.hid (hpW2.out.call hB hR)
 have bAV3:=Lib.hid (bAW2.out.bb hB (by have:=hrb;have:=zz1.out;have:=zW2.out;omega))
 have rOV3:=Lib.hid (bW2.out.bb hB (by have:=hrb;have:=zz1.out;have:=zW2.out;omega))
 clear hB hR hany hpW2 bAW2 bW2
 have cE:=Lib.hid (par_let hE V3 (i + 1) x hpV3.out.rd hx0.out)
 go_wp2_with fail
 refine cE.out.mono ?_
 rintro e U ⟨hB,hm⟩
 rcases x with p | ⟨es,jx⟩
 case error =>
  obtain rfl:=hm
  exact ⟨rfl,hpV3.out.bb.next hB,rfl⟩
 obtain ⟨v,y,rfl,rfl,hL,hR⟩:=hm
 obtain ⟨k0,s0,n0,a0,m0,c0,b0,o0,d0,rfl⟩:=hL.out.agg
 have zU:=Lib.hid hB.size
 have tL:Hid (Lay V3.heap.size U.heap.size U fun x=>IsEx x (.agg #[.int .i64 k0,.string s0,.int .i64 n0,.slice a0 m0 c0,.slice b0 o0 d0]) y):=hL
 have hpU:=Lib.hid (hpV3.out.call hB hR)
 have bAU:=Lib.hid (bAV3.out.bb hB (by have:=hrb;have:=zz1.out;have:=zW2.out;have:=zV3.out;omega))
 clear hB hR hL hpV3 bAV3
 have hl:LayH [W.heap.size] W.heap.size U.heap.size U fun x=>IsEx x (.agg #[.int .i64 k0,.string s0,.int .i64 n0,.slice a0 m0 c0,.slice b0 o0 d0]) y:=LayH.of_lay tL.out (by have:=hrb;have:=zz1.out;have:=zW2.out;have:=zV3.out;have:=zU.out;omega) (by have:=hrb;have:=zz1.out;have:=zW2.out;have:=zV3.out;have:=zU.out;omega) (Nat.le_refl _) (fun q hq=>by simp only [List.mem_cons,List.not_mem_nil,or_false] at hq;subst hq;have:=hrb;have:=zz1.out;have:=zW2.out;have:=zV3.out;have:=zU.out;omega)
 have hf:=Lib.hid (ExR.fin1 h'.out hpU.out (show Box5 U 27 W.heap.size (.int .i64 0) (.string ⟨#[]⟩) (.int .i64 0) (.slice none 0 0) (.slice none 0 0) from bAU.out) (Nat.le_refl _) hl)
 clear hl
 obtain ⟨⟨m40,m41,m42,m43,m44⟩,m4f⟩:=(show Box5 U 27 W.heap.size (.int .i64 0) (.string ⟨#[]⟩) (.int .i64 0) (.slice none 0 0) (.slice none 0 0) from bAU.out).cells
 have m4l:W.heap.size < U.heap.size:=blk_lt (show Box5 U 27 W.heap.size (.int .i64 0) (.string ⟨#[]⟩) (.int .i64 0) (.slice none 0 0) (.slice none 0 0) from bAU.out)
 go_wp2_with fail
 refine set5_fold ?_
 refine bodyPost_ret (results_ex rfl _ _ rfl hf.out.1.cells.1) rfl hf.out.2
set_option maxHeartbeats 8000000 in
set_option maxRecDepth 100000 in
theorem par_expr_lam {f:Nat} (hE:RuleC 27 rb a c l f .expr) (W:World) (i:Nat) (x:Except Nat (List Ex × Nat)) (h:Rd W rb a c l i) (y0:isAt l i [92]=true) (hx:(if kindAt l (i + 1)=2 then sgn6 l (i + 1 + 1) [45,62] fun j=>(pR l f .expr j).bnd fun e k=>ok6 [.mk 4 ex0 0 [textAt l (i + 1)] e] k else err6 (i + 1))=some x):Calls Tryz.prog 27 #[.pointer (some ⟨rb,0,none⟩)] W fun e W'=>ExR W rb a c l x e W':=by
 have ho:anyAt l i exL=some [92]:=by
  simp only [anyAt,exL,List.find?_cons,List.find?_nil,y0]
 have hmf:∀ (fn:Fn) (first cap:Array Value) (w:World),(Instr.makeFunc fn first cap).run Tryz.prog w=.ok (.func fn first cap) w:=fun _ _ _ _=>rfl
 clear y0
 obtain ⟨W1,hW1⟩:∃ V,W.alloc (.cells #[.int .i64 0,.string ⟨#[]⟩,.int .i64 0,.slice none 0 0,.slice none 0 0] 27)=V:=⟨_,rfl⟩
 have hb1:Below W.heap.size W W1:=by rw [←hW1];exact (Below.refl _ _).alloc (Nat.le_refl _) _
 have bA1:Hid (Box5 W1 27 W.heap.size (.int .i64 0) (.string ⟨#[]⟩) (.int .i64 0) (.slice none 0 0) (.slice none 0 0)):=by rw [←hW1];exact blk_new (Below.refl _ _)
 have zz1:Hid (W1.heap.size=W.heap.size + 1):=by rw [←hW1];simp [Hid]
 have hp1:=Lib.hid ((PS.refl h).below hb1)
 have hrb:=h.lt
 have h':=Lib.hid h
 have hW1':=Lib.hid hW1
 have hx0:=Lib.hid hx
 have hfl:=Tryz.fldText
 have hfn:=Tryz.fldNum
 clear hW1 hb1 h hx
 obtain ⟨W2,hW2⟩:∃ V,W1.alloc (.cells #[.string ⟨#[92]⟩,.string ⟨#[108,101,116]⟩,.string ⟨#[99,97,115,101]⟩,.string ⟨#[105,102]⟩,.string ⟨#[100,111]⟩,.string ⟨#[100,111,115]⟩] 9)=V:=⟨_,rfl⟩
 have hbW2:Below W1.heap.size W1 W2:=by rw [←hW2];exact (Below.refl _ _).alloc (Nat.le_refl _) _
 have zW2:Hid (W2.heap.size=W1.heap.size + 1):=by rw [←hW2];simp [Hid]
 have bW2:Hid (Blk W2 W1.heap.size (.cells #[.string ⟨#[92]⟩,.string ⟨#[108,101,116]⟩,.string ⟨#[99,97,115,101]⟩,.string ⟨#[105,102]⟩,.string ⟨#[100,111]⟩,.string ⟨#[100,111,115]⟩] 9 (0,0))):=by rw [←hW2];exact Blk.new
 have hpW2:=Lib.hid (hp1.out.below hbW2)
 have bAW2:=Lib.hid (bA1.out.below hbW2)
 have hW2':=Lib.hid hW2
 clear hW2 hbW2 hp1 bA1
 have hany:Hid (Calls Tryz.prog 62 #[.pointer (some ⟨rb,0,none⟩),.slice (some ⟨W1.heap.size,0,none⟩) 6 6] W2 fun e W'=>e=.returned (.tuple #[.string ⟨#[92]⟩,.bool true])∧Bb W2.heap.size rb W2 W'∧Rd W' rb a c l (i + 1)):=by
  have:=any_call (ss:=exL) (sc:=6) hpW2.out.rd (sb:=W1.heap.size) ⟨blk_lt (show Blk W2 W1.heap.size (.cells #[.string ⟨#[92]⟩,.string ⟨#[108,101,116]⟩,.string ⟨#[99,97,115,101]⟩,.string ⟨#[105,102]⟩,.string ⟨#[100,111]⟩,.string ⟨#[100,111,115]⟩] 9 (0,0)) from bW2.out),fun j hj=>by
   have hj2:j=0∨j=1∨j=2∨j=3∨j=4∨j=5:=by simp [exL] at hj;omega
   rw [←hW2'.out]
   rcases hj2 with rfl | rfl | rfl | rfl | rfl | rfl <;> exact (new_cell _ _ _ _).trans rfl⟩ (by decide)
  rw [ho] at this
  exact this
 clear ho
 go_enter Tryz.func27,Tryz.ntmps27
 go_upto_region 1 with (fail)
 rw [hW1'.out]
 go_wp2_with fail
 rw [hW2'.out]
 refine hany.out.mono ?_
 rintro e V3 ⟨rfl,hB,hR⟩
 have zV3:=Lib.hid hB.size
 have hpV3:=Lib.hid (hpW2.out.call hB hR)
 have bAV3:=Lib.hid (bAW2.out.bb hB (by have:=hrb;have:=zz1.out;have:=zW2.out;omega))
 have rOV3:=Lib.hid (bW2.out.bb hB (by have:=hrb;have:=zz1.out;have:=zW2.out;omega))
 clear hB hR hany hpW2 bAW2 bW2
 have of4:=Lib.hid (par_of hpV3.out.rd 2 (by decide))
 go_wp2_with fail
 refine of4.out.mono ?_
 rintro e V5 ⟨hB,hm⟩
 by_cases ks:kindAt l (i + 1)=2
 case neg =>
  rw [if_neg ks] at hm
  obtain rfl:=hm
  have hxx:x=.error (i + 1):=by have:=hx0.out;rw [if_neg ks] at this;exact (Option.some.inj this).symm
  subst hxx
  exact ⟨rfl,hpV3.out.bb.next hB,rfl⟩
 rw [if_pos ks] at hm
 obtain ⟨rfl,hR⟩:=hm
 have hx6:=hx0.out
 rw [if_pos ks] at hx6
 have hx6:=Lib.hid hx6
 have zV5:=Lib.hid hB.size
 have hpV5:=Lib.hid (hpV3.out.call hB hR)
 have bAV5:=Lib.hid (bAV3.out.bb hB (by have:=hrb;have:=zz1.out;have:=zW2.out;have:=zV3.out;omega))
 clear ks hB hR hx0 of4
 clear hpV3 bAV3
 obtain ⟨S,hS⟩:∃ S,(textAt l (i + 1))=S:=⟨_,rfl⟩
 have hSz:Hid (S.size≤lenMax):=by rw [←hS];exact fit_text h'.out.fit _
 rw [hS] at hx6 ⊢
 clear hS
 obtain ⟨W7,hW7⟩:∃ V,V5.alloc (.cells #[.string S] 9)=V:=⟨_,rfl⟩
 have hbW7:Below V5.heap.size V5 W7:=by rw [←hW7];exact (Below.refl _ _).alloc (Nat.le_refl _) _
 have zW7:Hid (W7.heap.size=V5.heap.size + 1):=by rw [←hW7];simp [Hid]
 have bW7:Hid (Blk W7 V5.heap.size (.cells #[.string S] 9 (0,0))):=by rw [←hW7];exact Blk.new
 have hpW7:=Lib.hid (hpV5.out.below hbW7)
 have bAW7:=Lib.hid (bAV5.out.below hbW7)
 have hW7':=Lib.hid hW7
 clear hW7 hbW7 hpV5 bAV5
 have tN:Hid (Lay V5.heap.size (V5.heap.size + 1) W7 fun x=>StrRow x (some ⟨V5.heap.size,0,none⟩) [S]):=by rw [←hW7'.out];exact lay_str1 hSz.out
 obtain ⟨W8,hW8⟩:∃ V,W7.alloc (.cells #[.int .i64 4,.string ⟨#[]⟩,.int .i64 0,.slice (some ⟨V5.heap.size,0,none⟩) 1 1,.slice none 0 0] 27)=V:=⟨_,rfl⟩
 have hbW8:Below W7.heap.size W7 W8:=by rw [←hW8];exact (Below.refl _ _).alloc (Nat.le_refl _) _
 have zW8:Hid (W8.heap.size=W7.heap.size + 1):=by rw [←hW8];simp [Hid]
 have bW8:Hid (Blk W8 (V5.heap.size + 1) (.cells #[.int .i64 4,.string ⟨#[]⟩,.int .i64 0,.slice (some ⟨V5.heap.size,0,none⟩) 1 1,.slice none 0 0] 27 (0,0))):=by have e:=zW7.out;rw [←hW8,←e];exact Blk.new
 have hpW8:=Lib.hid (hpW7.out.below hbW8)
 have bAW8:=Lib.hid (bAW7.out.below hbW8)
 have rNW8:=Lib.hid (bW7.out.below hbW8)
 have tNW8:=Lib.hid (tN.out.below hbW8)
 have hW8':=Lib.hid hW8
 clear hW8 hbW8 hpW7 bAW7 bW7 tN
 have sg9:Hid (Calls Tryz.prog 64 #[.pointer (some ⟨rb,0,none⟩),.string ⟨#[45,62]⟩] W8 fun e W'=>Bb W8.heap.size rb W8 W'∧if isAt l (i + 1 + 1) [45,62]=true then e=.returned (.tuple #[])∧Rd W' rb a c l ((i + 1 + 1) + 1) else e=stuckE (i + 1 + 1)):=par_sign hpW8.out.rd [45,62]
 go_upto_region 5 with (fail)
 rw [hW7'.out,hW8'.out]
 go_wp2_with fail
 refine sg9.out.mono ?_
 rintro e V10 ⟨hB,hm⟩
 by_cases ks:isAt l (i + 1 + 1) [45,62]=true
 case neg =>
  rw [if_neg ks] at hm
  obtain rfl:=hm
  have hxx:=sgn6_err hx6.out ks
  subst hxx
  exact ⟨rfl,hpW8.out.bb.next hB,rfl⟩
 rw [if_pos ks] at hm
 obtain ⟨rfl,hR⟩:=hm
 have hx11:=Lib.hid (sgn6_ok hx6.out ks)
 try dsimp only at hx11
 have zV10:=Lib.hid hB.size
 have hpV10:=Lib.hid (hpW8.out.call hB hR)
 have bAV10:=Lib.hid (bAW8.out.bb hB (by have:=hrb;have:=zz1.out;have:=zW2.out;have:=zV3.out;have:=zV5.out;have:=zW7.out;have:=zW8.out;omega))
 have rNV10:=Lib.hid (rNW8.out.bb hB (by have:=hrb;have:=zz1.out;have:=zW2.out;have:=zV3.out;have:=zV5.out;have:=zW7.out;have:=zW8.out;omega))
 have tNV10:=Lib.hid (tNW8.out.bb hB (by have:=hrb;have:=zz1.out;have:=zW2.out;have:=zV3.out;have:=zV5.out;have:=zW7.out;have:=zW8.out;omega))
 have bTV10:=Lib.hid (bW8.out.bb hB (by have:=hrb;have:=zz1.out;have:=zW2.out;have:=zV3.out;have:=zV5.out;have:=zW7.out;have:=zW8.out;omega))
 clear ks hB hR hx6 sg9
 clear hpW8 bAW8 rNW8 tNW8 bW8
 obtain ⟨q12,hq12,kq12⟩:=pR_split hx11.out
 have cq12:=Lib.hid (hE V10 (i + 1 + 1 + 1) q12 hpV10.out.rd hq12)
 have kq12:=Lib.hid kq12
 clear hq12 hx11
 go_wp2_with fail
 refine cq12.out.mono ?_
 rintro e V13 ⟨hB,hm⟩
 rcases q12 with p | ⟨es,jq12⟩
 case error =>
  obtain rfl:=hm
  have hxx:=kq12.out
  dsimp only at hxx
  subst hxx
  exact And.intro rfl (And.intro (hpV10.out.bb.next hB) rfl)
 obtain ⟨v,yq12,rfl,rfl,hL,hR⟩:=hm
 obtain ⟨kq120,sq12,nq12,aq12,mq12,cq12,bq12,oq12,dq12,rfl⟩:=hL.out.agg
 have zV13:=Lib.hid hB.size
 have tq12:Hid (Lay V10.heap.size V13.heap.size V13 fun x=>IsEx x (.agg #[.int .i64 kq120,.string sq12,.int .i64 nq12,.slice aq12 mq12 cq12,.slice bq12 oq12 dq12]) yq12):=hL
 have hpV13:=Lib.hid (hpV10.out.call hB hR)
 have bAV13:=Lib.hid (bAV10.out.bb hB (by have:=hrb;have:=zz1.out;have:=zW2.out;have:=zV3.out;have:=zV5.out;have:=zW7.out;have:=zW8.out;have:=zV10.out;omega))
 have rNV13:=Lib.hid (rNV10.out.bb hB (by have:=hrb;have:=zz1.out;have:=zW2.out;have:=zV3.out;have:=zV5.out;have:=zW7.out;have:=zW8.out;have:=zV10.out;omega))
 have tNV13:=Lib.hid (tNV10.out.bb hB (by have:=hrb;have:=zz1.out;have:=zW2.out;have:=zV3.out;have:=zV5.out;have:=zW7.out;have:=zW8.out;have:=zV10.out;omega))
 have bTV13:=Lib.hid (bTV10.out.bb hB (by have:=hrb;have:=zz1.out;have:=zW2.out;have:=zV3.out;have:=zV5.out;have:=zW7.out;have:=zW8.out;have:=zV10.out;omega))
 have kxq12:=Lib.hid kq12.out
 try dsimp only at kxq12
 clear hB hR hL kq12
 clear hpV10 bAV10 rNV10 tNV10 bTV10
 obtain ⟨⟨m140,m141,m142,m143,m144⟩,m14f⟩:=(show Box5 V13 27 (V5.heap.size + 1) (.int .i64 4) (.string ⟨#[]⟩) (.int .i64 0) (.slice (some ⟨V5.heap.size,0,none⟩) 1 1) (.slice none 0 0) from bTV13.out).cells
 have m14l:(V5.heap.size + 1) < V13.heap.size:=blk_lt (show Box5 V13 27 (V5.heap.size + 1) (.int .i64 4) (.string ⟨#[]⟩) (.int .i64 0) (.slice (some ⟨V5.heap.size,0,none⟩) 1 1) (.slice none 0 0) from bTV13.out)
 go_upto_region 7 with (fail)
 obtain ⟨M16,hM16⟩:∃ V,V13.setCell ⟨(V5.heap.size + 1),4,none⟩ (.slice (some ⟨V13.heap.size,0,none⟩) 1 1)=V:=⟨_,rfl⟩
 have hsM16:=(show Box5 V13 27 (V5.heap.size + 1) (.int .i64 4) (.string ⟨#[]⟩) (.int .i64 0) (.slice (some ⟨V5.heap.size,0,none⟩) 1 1) (.slice none 0 0) from bTV13.out).at4 (.slice (some ⟨V13.heap.size,0,none⟩) 1 1)
 rw [hM16] at hsM16
 have zM16:=Lib.hid hsM16.2.size
 have hpM16:Hid (PS W rb a c l (jq12) M16):=PS.own h'.out hpV13.out hsM16.2 (by have:=hrb;have:=zz1.out;have:=zW2.out;have:=zV3.out;have:=zV5.out;have:=zW7.out;have:=zW8.out;have:=zV10.out;have:=zV13.out;omega)
 have bAM16:Hid (Box5 M16 27 W.heap.size (.int .i64 0) (.string ⟨#[]⟩) (.int .i64 0) (.slice none 0 0) (.slice none 0 0)):=(show Box5 V13 27 W.heap.size (.int .i64 0) (.string ⟨#[]⟩) (.int .i64 0) (.slice none 0 0) (.slice none 0 0) from bAV13.out).own hsM16.2 (by have:=hrb;have:=zz1.out;have:=zW2.out;have:=zV3.out;have:=zV5.out;have:=zW7.out;have:=zW8.out;have:=zV10.out;have:=zV13.out;omega)
 have rNM16:Hid (Blk M16 V5.heap.size (.cells #[.string S] 9 (0,0))):=(show Blk V13 V5.heap.size (.cells #[.string S] 9 (0,0)) from rNV13.out).own hsM16.2 (by have:=hrb;have:=zz1.out;have:=zW2.out;have:=zV3.out;have:=zV5.out;have:=zW7.out;have:=zW8.out;have:=zV10.out;have:=zV13.out;omega)
 have tNM16:=Lib.hid (tNV13.out.own hsM16.2 (by have:=hrb;have:=zz1.out;have:=zW2.out;have:=zV3.out;have:=zV5.out;have:=zW7.out;have:=zW8.out;have:=zV10.out;have:=zV13.out;omega))
 have tq12M16:=Lib.hid (tq12.out.own hsM16.2 (by have:=hrb;have:=zz1.out;have:=zW2.out;have:=zV3.out;have:=zV5.out;have:=zW7.out;have:=zW8.out;have:=zV10.out;have:=zV13.out;omega))
 have bTM16:Hid (Box5 M16 27 (V5.heap.size + 1) (.int .i64 4) (.string ⟨#[]⟩) (.int .i64 0) (.slice (some ⟨V5.heap.size,0,none⟩) 1 1) (.slice (some ⟨V13.heap.size,0,none⟩) 1 1)):=hsM16.1
 have hM16':=Lib.hid hM16
 clear hM16 hsM16 bTV13 hpV13 bAV13 rNV13 tNV13 tq12
 obtain ⟨W15,hW15⟩:∃ V,M16.alloc (.cells #[.int .i64 kq120,.string sq12,.int .i64 nq12,.slice aq12 mq12 cq12,.slice bq12 oq12 dq12] 27)=V:=⟨_,rfl⟩
 have hbW15:Below M16.heap.size M16 W15:=by rw [←hW15];exact (Below.refl _ _).alloc (Nat.le_refl _) _
 have zW15:Hid (W15.heap.size=M16.heap.size + 1):=by rw [←hW15];simp [Hid]
 have bW15:Hid (Blk W15 V13.heap.size (.cells #[.int .i64 kq120,.string sq12,.int .i64 nq12,.slice aq12 mq12 cq12,.slice bq12 oq12 dq12] 27 (0,0))):=by have e:=zM16.out;rw [←hW15,←e];exact Blk.new
 have hpW15:=Lib.hid (hpM16.out.below hbW15)
 have bAW15:=Lib.hid (bAM16.out.below hbW15)
 have rNW15:=Lib.hid (rNM16.out.below hbW15)
 have tNW15:=Lib.hid (tNM16.out.below hbW15)
 have tq12W15:=Lib.hid (tq12M16.out.below hbW15)
 have bTW15:=Lib.hid (bTM16.out.below hbW15)
 have hW15':=Lib.hid hW15
 clear hW15 hbW15 hpM16 bAM16 rNM16 tNM16 tq12M16 bTM16
 rw [hM16'.out,hW15'.out]
 clear m140 m141 m142 m143 m144 m14f m14l
 have hl:LayH [W.heap.size] W.heap.size W15.heap.size W15 fun x=>IsEx x (.agg #[.int .i64 4,.string ⟨#[]⟩,.int .i64 0,.slice (some ⟨V5.heap.size,0,none⟩) 1 1,.slice (some ⟨V13.heap.size,0,none⟩) 1 1]) (.mk 4 ⟨#[]⟩ 0 [S] [yq12]):=by
  have:=hrb
  have:=zz1.out
  have:=zW2.out
  have:=zV3.out
  have:=zV5.out
  have:=zW7.out
  have:=zW8.out
  have:=zV10.out
  have:=zV13.out
  have:=zM16.out
  have:=zW15.out
  have g0:=LayH.of_lay (hs:=[W.heap.size]) (B':=W.heap.size) (E':=W15.heap.size) tq12W15.out (by omega) (by omega) (Nat.le_refl _) (fun q hq=>by simp only [List.mem_cons,List.not_mem_nil,or_false] at hq;subst hq;omega)
  have gn:=LayH.of_lay (hs:=[W.heap.size]) (B':=W.heap.size) (E':=W15.heap.size) tNW15.out (by omega) (by omega) (Nat.le_refl _) (fun q hq=>by simp only [List.mem_cons,List.not_mem_nil,or_false] at hq;subst hq;omega)
  have gr:=LayH.rowOf (hs:=[W.heap.size]) (B:=W.heap.size) (E:=W15.heap.size) (b:=V13.heap.size) (by omega) (by omega) (by simp;omega) (show Blk _ _ _ from bW15.out) g0
  exact LayH.tree (l:=[S]) (ks:=[yq12]) (by decide) (by decide) (by decide) (by simp [lenMax]) (by simp [lenMax]) gn gr ⟨by simp,Nat.le_refl _⟩
 have hf:=Lib.hid (ExR.fin1 h'.out hpW15.out (show Box5 W15 27 W.heap.size (.int .i64 0) (.string ⟨#[]⟩) (.int .i64 0) (.slice none 0 0) (.slice none 0 0) from bAW15.out) (Nat.le_refl _) hl)
 obtain ⟨⟨m170,m171,m172,m173,m174⟩,m17f⟩:=(show Box5 W15 27 W.heap.size (.int .i64 0) (.string ⟨#[]⟩) (.int .i64 0) (.slice none 0 0) (.slice none 0 0) from bAW15.out).cells
 have m17l:W.heap.size < W15.heap.size:=blk_lt (show Box5 W15 27 W.heap.size (.int .i64 0) (.string ⟨#[]⟩) (.int .i64 0) (.slice none 0 0) (.slice none 0 0) from bAW15.out)
 obtain ⟨⟨m180,m181,m182,m183,m184⟩,m18f⟩:=(show Box5 W15 27 (V5.heap.size + 1) (.int .i64 4) (.string ⟨#[]⟩) (.int .i64 0) (.slice (some ⟨V5.heap.size,0,none⟩) 1 1) (.slice (some ⟨V13.heap.size,0,none⟩) 1 1) from bTW15.out).cells
 have m18l:(V5.heap.size + 1) < W15.heap.size:=blk_lt (show Box5 W15 27 (V5.heap.size + 1) (.int .i64 4) (.string ⟨#[]⟩) (.int .i64 0) (.slice (some ⟨V5.heap.size,0,none⟩) 1 1) (.slice (some ⟨V13.heap.size,0,none⟩) 1 1) from bTW15.out)
 have hxx:Hid (x=_):=(Option.some.inj kxq12.out).symm
 clear hl
 go_wp2_with fail
 refine set5_fold ?_
 refine bodyPost_ret (results_ex rfl _ _ rfl hf.out.1.cells.1) rfl ?_
 rw [hxx.out]
 exact hf.out.2
set_option maxHeartbeats 8000000 in
set_option maxRecDepth 100000 in
theorem par_expr_do {f:Nat} (hN:∀ g,f=g + 1→RuleC 68 rb a c l g .line) (W:World) (i:Nat) (x:Except Nat (List Ex × Nat)) (h:Rd W rb a c l i) (n0:isAt l i [92]=false) (n1:isAt l i [108,101,116]=false) (n2:isAt l i [99,97,115,101]=false) (n3:isAt l i [105,102]=false) (y4:isAt l i [100,111]=true) (hx:(sgn6 l (i + 1) bOpen fun m=>(pR l f (.items false) m).bnd fun ks n=>ok6 [.mk 11 ex0 0 [] ks] n)=some x):Calls Tryz.prog 27 #[.pointer (some ⟨rb,0,none⟩)] W fun e W'=>ExR W rb a c l x e W':=by
 have ho:anyAt l i exL=some [100,111]:=by
  simp only [anyAt,exL,List.find?_cons,List.find?_nil,n0,n1,n2,n3,y4]
 have hmf:∀ (fn:Fn) (first cap:Array Value) (w:World),(Instr.makeFunc fn first cap).run Tryz.prog w=.ok (.func fn first cap) w:=fun _ _ _ _=>rfl
 clear n0 n1 n2 n3 y4
 obtain ⟨W1,hW1⟩:∃ V,W.alloc (.cells #[.int .i64 0,.string ⟨#[]⟩,.int .i64 0,.slice none 0 0,.slice none 0 0] 27)=V:=⟨_,rfl⟩
 have hb1:Below W.heap.size W W1:=by rw [←hW1];exact (Below.refl _ _).alloc (Nat.le_refl _) _
 have bA1:Hid (Box5 W1 27 W.heap.size (.int .i64 0) (.string ⟨#[]⟩) (.int .i64 0) (.slice none 0 0) (.slice none 0 0)):=by rw [←hW1];exact blk_new (Below.refl _ _)
 have zz1:Hid (W1.heap.size=W.heap.size + 1):=by rw [←hW1];simp [Hid]
 have hp1:=Lib.hid ((PS.refl h).below hb1)
 have hrb:=h.lt
 have h':=Lib.hid h
 have hW1':=Lib.hid hW1
 have hx0:=Lib.hid hx
 have hfl:=Tryz.fldText
 have hfn:=Tryz.fldNum
 clear hW1 hb1 h hx
 obtain ⟨W2,hW2⟩:∃ V,W1.alloc (.cells #[.string ⟨#[92]⟩,.string ⟨#[108,101,116]⟩,.string ⟨#[99,97,115,101]⟩,.string ⟨#[105,102]⟩,.string ⟨#[100,111]⟩,.string ⟨#[100,111,115]⟩] 9)=V:=⟨_,rfl⟩
 have hbW2:Below W1.heap.size W1 W2:=by rw [←hW2];exact (Below.refl _ _).alloc (Nat.le_refl _) _
 have zW2:Hid (W2.heap.size=W1.heap.size + 1):=by rw [←hW2];simp [Hid]
 have bW2:Hid (Blk W2 W1.heap.size (.cells #[.string ⟨#[92]⟩,.string ⟨#[108,101,116]⟩,.string ⟨#[99,97,115,101]⟩,.string ⟨#[105,102]⟩,.string ⟨#[100,111]⟩,.string ⟨#[100,111,115]⟩] 9 (0,0))):=by rw [←hW2];exact Blk.new
 have hpW2:=Lib.hid (hp1.out.below hbW2)
 have bAW2:=Lib.hid (bA1.out.below hbW2)
 have hW2':=Lib.hid hW2
 clear hW2 hbW2 hp1 bA1
 have hany:Hid (Calls Tryz.prog 62 #[.pointer (some ⟨rb,0,none⟩),.slice (some ⟨W1.heap.size,0,none⟩) 6 6] W2 fun e W'=>e=.returned (.tuple #[.string ⟨#[100,111]⟩,.bool true])∧Bb W2.heap.size rb W2 W'∧Rd W' rb a c l (i + 1)):=by
  have:=any_call (ss:=exL) (sc:=6) hpW2.out.rd (sb:=W1.heap.size) ⟨blk_lt (show Blk W2 W1.heap.size (.cells #[.string ⟨#[92]⟩,.string ⟨#[108,101,116]⟩,.string ⟨#[99,97,115,101]⟩,.string ⟨#[105,102]⟩,.string ⟨#[100,111]⟩,.string ⟨#[100,111,115]⟩] 9 (0,0)) from bW2.out),fun j hj=>by
   have hj2:j=0∨j=1∨j=2∨j=3∨j=4∨j=5:=by simp [exL] at hj;omega
   rw [←hW2'.out]
   rcases hj2 with rfl | rfl | rfl | rfl | rfl | rfl <;> exact (new_cell _ _ _ _).trans rfl⟩ (by decide)
  rw [ho] at this
  exact this
 clear ho
 go_enter Tryz.func27,Tryz.ntmps27
 go_upto_region 1 with (fail)
 rw [hW1'.out]
 go_wp2_with fail
 rw [hW2'.out]
 refine hany.out.mono ?_
 rintro e V3 ⟨rfl,hB,hR⟩
 have zV3:=Lib.hid hB.size
 have hpV3:=Lib.hid (hpW2.out.call hB hR)
 have bAV3:=Lib.hid (bAW2.out.bb hB (by have:=hrb;have:=zz1.out;have:=zW2.out;omega))
 have rOV3:=Lib.hid (bW2.out.bb hB (by have:=hrb;have:=zz1.out;have:=zW2.out;omega))
 clear hB hR hany hpW2 bAW2 bW2
 obtain ⟨x2,hx2,kx2⟩:=sgn6_split hx0.out
 have cE:=Lib.hid (par_listL hN V3 (i + 1) x2 hpV3.out.rd hx2)
 have kx2':=Lib.hid kx2
 clear hx2 kx2 hx0
 go_wp2_with fail
 refine cE.out.mono ?_
 rintro e U ⟨hB,hm⟩
 rcases x2 with p | ⟨es,jx⟩
 case error =>
  obtain rfl:=hm
  have hxx:=kx2'.out
  dsimp only at hxx
  subst hxx
  exact ⟨rfl,hpV3.out.bb.next hB,rfl⟩
 obtain ⟨v,rfl,hEs,hR,hln⟩:=hm
 obtain ⟨ea,ec,rfl,hcap,hL⟩:=hEs.open
 clear hEs
 have zU:=Lib.hid hB.size
 have tL:Hid (Lay V3.heap.size U.heap.size U fun x=>ExRow x ea es):=hL
 have hcap2:=Lib.hid hcap
 have hln2:Hid (es.length≤lenMax):=by unfold lenMax Hid;omega
 have hpU:=Lib.hid (hpV3.out.call hB hR)
 have bAU:=Lib.hid (bAV3.out.bb hB (by have:=hrb;have:=zz1.out;have:=zW2.out;have:=zV3.out;omega))
 clear hB hR hL hcap hln hpV3 bAV3
 have hx3:Hid (x=.ok ([.mk 11 ex0 0 [] es],jx)):=(Option.some.inj kx2'.out).symm
 have hl:LayH [W.heap.size] W.heap.size U.heap.size U fun x=>IsEx x (.agg #[.int .i64 11,.string ⟨#[]⟩,.int .i64 0,.slice none 0 0,.slice ea es.length ec]) (.mk 11 ⟨#[]⟩ 0 [] es) :=
  LayH.tree (l:=[]) (by decide) (by decide) (by decide) (by decide) hln2.out (LayH.nil (Nat.le_refl _)) (LayH.of_lay tL.out (by have:=hrb;have:=zz1.out;have:=zW2.out;have:=zV3.out;have:=zU.out;omega) (by have:=hrb;have:=zz1.out;have:=zW2.out;have:=zV3.out;have:=zU.out;omega) (Nat.le_refl _) (fun q hq=>by simp only [List.mem_cons,List.not_mem_nil,or_false] at hq;subst hq;have:=hrb;have:=zz1.out;have:=zW2.out;have:=zV3.out;have:=zU.out;omega)) ⟨fun _=>rfl,hcap2.out.2⟩
 have hf:=Lib.hid (ExR.fin1 h'.out hpU.out (show Box5 U 27 W.heap.size (.int .i64 0) (.string ⟨#[]⟩) (.int .i64 0) (.slice none 0 0) (.slice none 0 0) from bAU.out) (Nat.le_refl _) hl)
 clear hl
 obtain ⟨⟨m40,m41,m42,m43,m44⟩,m4f⟩:=(show Box5 U 27 W.heap.size (.int .i64 0) (.string ⟨#[]⟩) (.int .i64 0) (.slice none 0 0) (.slice none 0 0) from bAU.out).cells
 have m4l:W.heap.size < U.heap.size:=blk_lt (show Box5 U 27 W.heap.size (.int .i64 0) (.string ⟨#[]⟩) (.int .i64 0) (.slice none 0 0) (.slice none 0 0) from bAU.out)
 go_wp2_with fail
 refine set5_fold ?_
 refine bodyPost_ret (results_ex rfl _ _ rfl hf.out.1.cells.1) rfl ?_
 rw [hx3.out]
 exact hf.out.2
set_option maxHeartbeats 8000000 in
set_option maxRecDepth 100000 in
theorem par_expr_dos {f:Nat} (hN:∀ g,f=g + 1→RuleC 68 rb a c l g .line) (W:World) (i:Nat) (x:Except Nat (List Ex × Nat)) (h:Rd W rb a c l i) (n0:isAt l i [92]=false) (n1:isAt l i [108,101,116]=false) (n2:isAt l i [99,97,115,101]=false) (n3:isAt l i [105,102]=false) (n4:isAt l i [100,111]=false) (y5:isAt l i [100,111,115]=true) (hx:(sgn6 l (i + 1) bOpen fun m=>(pR l f (.items false) m).bnd fun ks n=>ok6 [.mk 12 ex0 0 [] ks] n)=some x):Calls Tryz.prog 27 #[.pointer (some ⟨rb,0,none⟩)] W fun e W'=>ExR W rb a c l x e W':=by
 have ho:anyAt l i exL=some [100,111,115]:=by
  simp only [anyAt,exL,List.find?_cons,List.find?_nil,n0,n1,n2,n3,n4,y5]
 have hmf:∀ (fn:Fn) (first cap:Array Value) (w:World),(Instr.makeFunc fn first cap).run Tryz.prog w=.ok (.func fn first cap) w:=fun _ _ _ _=>rfl
 clear n0 n1 n2 n3 n4 y5
 obtain ⟨W1,hW1⟩:∃ V,W.alloc (.cells #[.int .i64 0,.string ⟨#[]⟩,.int .i64 0,.slice none 0 0,.slice none 0 0] 27)=V:=⟨_,rfl⟩
 have hb1:Below W.heap.size W W1:=by rw [←hW1];exact (Below.refl _ _).alloc (Nat.le_refl _) _
 have bA1:Hid (Box5 W1 27 W.heap.size (.int .i64 0) (.string ⟨#[]⟩) (.int .i64 0) (.slice none 0 0) (.slice none 0 0)):=by rw [←hW1];exact blk_new (Below.refl _ _)
 have zz1:Hid (W1.heap.size=W.heap.size + 1):=by rw [←hW1];simp [Hid]
 have hp1:=Lib.hid ((PS.refl h).below hb1)
 have hrb:=h.lt
 have h':=Lib.hid h
 have hW1':=Lib.hid hW1
 have hx0:=Lib.hid hx
 have hfl:=Tryz.fldText
 have hfn:=Tryz.fldNum
 clear hW1 hb1 h hx
 obtain ⟨W2,hW2⟩:∃ V,W1.alloc (.cells #[.string ⟨#[92]⟩,.string ⟨#[108,101,116]⟩,.string ⟨#[99,97,115,101]⟩,.string ⟨#[105,102]⟩,.string ⟨#[100,111]⟩,.string ⟨#[100,111,115]⟩] 9)=V:=⟨_,rfl⟩
 have hbW2:Below W1.heap.size W1 W2:=by rw [←hW2];exact (Below.refl _ _).alloc (Nat.le_refl _) _
 have zW2:Hid (W2.heap.size=W1.heap.size + 1):=by rw [←hW2];simp [Hid]
 have bW2:Hid (Blk W2 W1.heap.size (.cells #[.string ⟨#[92]⟩,.string ⟨#[108,101,116]⟩,.string ⟨#[99,97,115,101]⟩,.string ⟨#[105,102]⟩,.string ⟨#[100,111]⟩,.string ⟨#[100,111,115]⟩] 9 (0,0))):=by rw [←hW2];exact Blk.new
 have hpW2:=Lib.hid (hp1.out.below hbW2)
 have bAW2:=Lib.hid (bA1.out.below hbW2)
 have hW2':=Lib.hid hW2
 clear hW2 hbW2 hp1 bA1
 have hany:Hid (Calls Tryz.prog 62 #[.pointer (some ⟨rb,0,none⟩),.slice (some ⟨W1.heap.size,0,none⟩) 6 6] W2 fun e W'=>e=.returned (.tuple #[.string ⟨#[100,111,115]⟩,.bool true])∧Bb W2.heap.size rb W2 W'∧Rd W' rb a c l (i + 1)):=by
  have:=any_call (ss:=exL) (sc:=6) hpW2.out.rd (sb:=W1.heap.size) ⟨blk_lt (show Blk W2 W1.heap.size (.cells #[.string ⟨#[92]⟩,.string ⟨#[108,101,116]⟩,.string ⟨#[99,97,115,101]⟩,.string ⟨#[105,102]⟩,.string ⟨#[100,111]⟩,.string ⟨#[100,111,115]⟩] 9 (0,0)) from bW2.out),fun j hj=>by
   have hj2:j=0∨j=1∨j=2∨j=3∨j=4∨j=5:=by simp [exL] at hj;omega
   rw [←hW2'.out]
   rcases hj2 with rfl | rfl | rfl | rfl | rfl | rfl <;> exact (new_cell _ _ _ _).trans rfl⟩ (by decide)
  rw [ho] at this
  exact this
 clear ho
 go_enter Tryz.func27,Tryz.ntmps27
 go_upto_region 1 with (fail)
 rw [hW1'.out]
 go_wp2_with fail
 rw [hW2'.out]
 refine hany.out.mono ?_
 rintro e V3 ⟨rfl,hB,hR⟩
 have zV3:=Lib.hid hB.size
 have hpV3:=Lib.hid (hpW2.out.call hB hR)
 have bAV3:=Lib.hid (bAW2.out.bb hB (by have:=hrb;have:=zz1.out;have:=zW2.out;omega))
 have rOV3:=Lib.hid (bW2.out.bb hB (by have:=hrb;have:=zz1.out;have:=zW2.out;omega))
 clear hB hR hany hpW2 bAW2 bW2
 obtain ⟨x2,hx2,kx2⟩:=sgn6_split hx0.out
 have cE:=Lib.hid (par_listL hN V3 (i + 1) x2 hpV3.out.rd hx2)
 have kx2':=Lib.hid kx2
 clear hx2 kx2 hx0
 go_wp2_with fail
 refine cE.out.mono ?_
 rintro e U ⟨hB,hm⟩
 rcases x2 with p | ⟨es,jx⟩
 case error =>
  obtain rfl:=hm
  have hxx:=kx2'.out
  dsimp only at hxx
  subst hxx
  exact ⟨rfl,hpV3.out.bb.next hB,rfl⟩
 obtain ⟨v,rfl,hEs,hR,hln⟩:=hm
 obtain ⟨ea,ec,rfl,hcap,hL⟩:=hEs.open
 clear hEs
 have zU:=Lib.hid hB.size
 have tL:Hid (Lay V3.heap.size U.heap.size U fun x=>ExRow x ea es):=hL
 have hcap2:=Lib.hid hcap
 have hln2:Hid (es.length≤lenMax):=by unfold lenMax Hid;omega
 have hpU:=Lib.hid (hpV3.out.call hB hR)
 have bAU:=Lib.hid (bAV3.out.bb hB (by have:=hrb;have:=zz1.out;have:=zW2.out;have:=zV3.out;omega))
 clear hB hR hL hcap hln hpV3 bAV3
 have hx3:Hid (x=.ok ([.mk 12 ex0 0 [] es],jx)):=(Option.some.inj kx2'.out).symm
 have hl:LayH [W.heap.size] W.heap.size U.heap.size U fun x=>IsEx x (.agg #[.int .i64 12,.string ⟨#[]⟩,.int .i64 0,.slice none 0 0,.slice ea es.length ec]) (.mk 12 ⟨#[]⟩ 0 [] es) :=
  LayH.tree (l:=[]) (by decide) (by decide) (by decide) (by decide) hln2.out (LayH.nil (Nat.le_refl _)) (LayH.of_lay tL.out (by have:=hrb;have:=zz1.out;have:=zW2.out;have:=zV3.out;have:=zU.out;omega) (by have:=hrb;have:=zz1.out;have:=zW2.out;have:=zV3.out;have:=zU.out;omega) (Nat.le_refl _) (fun q hq=>by simp only [List.mem_cons,List.not_mem_nil,or_false] at hq;subst hq;have:=hrb;have:=zz1.out;have:=zW2.out;have:=zV3.out;have:=zU.out;omega)) ⟨fun _=>rfl,hcap2.out.2⟩
 have hf:=Lib.hid (ExR.fin1 h'.out hpU.out (show Box5 U 27 W.heap.size (.int .i64 0) (.string ⟨#[]⟩) (.int .i64 0) (.slice none 0 0) (.slice none 0 0) from bAU.out) (Nat.le_refl _) hl)
 clear hl
 obtain ⟨⟨m40,m41,m42,m43,m44⟩,m4f⟩:=(show Box5 U 27 W.heap.size (.int .i64 0) (.string ⟨#[]⟩) (.int .i64 0) (.slice none 0 0) (.slice none 0 0) from bAU.out).cells
 have m4l:W.heap.size < U.heap.size:=blk_lt (show Box5 U 27 W.heap.size (.int .i64 0) (.string ⟨#[]⟩) (.int .i64 0) (.slice none 0 0) (.slice none 0 0) from bAU.out)
 go_wp2_with fail
 refine set5_fold ?_
 refine bodyPost_ret (results_ex rfl _ _ rfl hf.out.1.cells.1) rfl ?_
 rw [hx3.out]
 exact hf.out.2
set_option maxHeartbeats 8000000 in
set_option maxRecDepth 100000 in
theorem par_expr_if {f:Nat} (hE:RuleC 27 rb a c l f .expr) (W:World) (i:Nat) (x:Except Nat (List Ex × Nat)) (h:Rd W rb a c l i) (n0:isAt l i [92]=false) (n1:isAt l i [108,101,116]=false) (n2:isAt l i [99,97,115,101]=false) (y3:isAt l i [105,102]=true) (hx:((pR l f .expr (i + 1)).bnd fun a j=>sgn6 l j [116,104,101,110] fun k=>(pR l f .expr k).bnd fun b m=>sgn6 l m [101,108,115,101] fun n=>(pR l f .expr n).bnd fun c p=>ok6 [.mk 10 ex0 0 [] (a ++ (b ++ c))] p)=some x):Calls Tryz.prog 27 #[.pointer (some ⟨rb,0,none⟩)] W fun e W'=>ExR W rb a c l x e W':=by
 have ho:anyAt l i exL=some [105,102]:=by
  simp only [anyAt,exL,List.find?_cons,List.find?_nil,n0,n1,n2,y3]
 have hmf:∀ (fn:Fn) (first cap:Array Value) (w:World),(Instr.makeFunc fn first cap).run Tryz.prog w=.ok (.func fn first cap) w:=fun _ _ _ _=>rfl
 clear n0 n1 n2 y3
 obtain ⟨W1,hW1⟩:∃ V,W.alloc (.cells #[.int .i64 0,.string ⟨#[]⟩,.int .i64 0,.slice none 0 0,.slice none 0 0] 27)=V:=⟨_,rfl⟩
 have hb1:Below W.heap.size W W1:=by rw [←hW1];exact (Below.refl _ _).alloc (Nat.le_refl _) _
 have bA1:Hid (Box5 W1 27 W.heap.size (.int .i64 0) (.string ⟨#[]⟩) (.int .i64 0) (.slice none 0 0) (.slice none 0 0)):=by rw [←hW1];exact blk_new (Below.refl _ _)
 have zz1:Hid (W1.heap.size=W.heap.size + 1):=by rw [←hW1];simp [Hid]
 have hp1:=Lib.hid ((PS.refl h).below hb1)
 have hrb:=h.lt
 have h':=Lib.hid h
 have hW1':=Lib.hid hW1
 have hx0:=Lib.hid hx
 have hfl:=Tryz.fldText
 have hfn:=Tryz.fldNum
 clear hW1 hb1 h hx
 obtain ⟨W2,hW2⟩:∃ V,W1.alloc (.cells #[.string ⟨#[92]⟩,.string ⟨#[108,101,116]⟩,.string ⟨#[99,97,115,101]⟩,.string ⟨#[105,102]⟩,.string ⟨#[100,111]⟩,.string ⟨#[100,111,115]⟩] 9)=V:=⟨_,rfl⟩
 have hbW2:Below W1.heap.size W1 W2:=by rw [←hW2];exact (Below.refl _ _).alloc (Nat.le_refl _) _
 have zW2:Hid (W2.heap.size=W1.heap.size + 1):=by rw [←hW2];simp [Hid]
 have bW2:Hid (Blk W2 W1.heap.size (.cells #[.string ⟨#[92]⟩,.string ⟨#[108,101,116]⟩,.string ⟨#[99,97,115,101]⟩,.string ⟨#[105,102]⟩,.string ⟨#[100,111]⟩,.string ⟨#[100,111,115]⟩] 9 (0,0))):=by rw [←hW2];exact Blk.new
 have hpW2:=Lib.hid (hp1.out.below hbW2)
 have bAW2:=Lib.hid (bA1.out.below hbW2)
 have hW2':=Lib.hid hW2
 clear hW2 hbW2 hp1 bA1
 have hany:Hid (Calls Tryz.prog 62 #[.pointer (some ⟨rb,0,none⟩),.slice (some ⟨W1.heap.size,0,none⟩) 6 6] W2 fun e W'=>e=.returned (.tuple #[.string ⟨#[105,102]⟩,.bool true])∧Bb W2.heap.size rb W2 W'∧Rd W' rb a c l (i + 1)):=by
  have:=any_call (ss:=exL) (sc:=6) hpW2.out.rd (sb:=W1.heap.size) ⟨blk_lt (show Blk W2 W1.heap.size (.cells #[.string ⟨#[92]⟩,.string ⟨#[108,101,116]⟩,.string ⟨#[99,97,115,101]⟩,.string ⟨#[105,102]⟩,.string ⟨#[100,111]⟩,.string ⟨#[100,111,115]⟩] 9 (0,0)) from bW2.out),fun j hj=>by
   have hj2:j=0∨j=1∨j=2∨j=3∨j=4∨j=5:=by simp [exL] at hj;omega
   rw [←hW2'.out]
   rcases hj2 with rfl | rfl | rfl | rfl | rfl | rfl <;> exact (new_cell _ _ _ _).trans rfl⟩ (by decide)
  rw [ho] at this
  exact this
 clear ho
 go_enter Tryz.func27,Tryz.ntmps27
 go_upto_region 1 with (fail)
 rw [hW1'.out]
 go_wp2_with fail
 rw [hW2'.out]
 refine hany.out.mono ?_
 rintro e V3 ⟨rfl,hB,hR⟩
 have zV3:=Lib.hid hB.size
 have hpV3:=Lib.hid (hpW2.out.call hB hR)
 have bAV3:=Lib.hid (bAW2.out.bb hB (by have:=hrb;have:=zz1.out;have:=zW2.out;omega))
 have rOV3:=Lib.hid (bW2.out.bb hB (by have:=hrb;have:=zz1.out;have:=zW2.out;omega))
 clear hB hR hany hpW2 bAW2 bW2
 obtain ⟨q4,hq4,kq4⟩:=pR_split hx0.out
 have cq4:=Lib.hid (hE V3 (i + 1) q4 hpV3.out.rd hq4)
 have kq4:=Lib.hid kq4
 clear hq4 hx0
 go_wp2_with fail
 refine cq4.out.mono ?_
 rintro e V5 ⟨hB,hm⟩
 rcases q4 with p | ⟨es,jq4⟩
 case error =>
  obtain rfl:=hm
  have hxx:=kq4.out
  dsimp only at hxx
  subst hxx
  exact And.intro rfl (And.intro (hpV3.out.bb.next hB) rfl)
 obtain ⟨v,yq4,rfl,rfl,hL,hR⟩:=hm
 obtain ⟨kq40,sq4,nq4,aq4,mq4,cq4,bq4,oq4,dq4,rfl⟩:=hL.out.agg
 have zV5:=Lib.hid hB.size
 have tq4:Hid (Lay V3.heap.size V5.heap.size V5 fun x=>IsEx x (.agg #[.int .i64 kq40,.string sq4,.int .i64 nq4,.slice aq4 mq4 cq4,.slice bq4 oq4 dq4]) yq4):=hL
 have hpV5:=Lib.hid (hpV3.out.call hB hR)
 have bAV5:=Lib.hid (bAV3.out.bb hB (by have:=hrb;have:=zz1.out;have:=zW2.out;have:=zV3.out;omega))
 have kxq4:=Lib.hid kq4.out
 try dsimp only at kxq4
 clear hB hR hL kq4
 clear hpV3 bAV3
 obtain ⟨W6,hW6⟩:∃ V,V5.alloc (.cells #[.int .i64 kq40,.string sq4,.int .i64 nq4,.slice aq4 mq4 cq4,.slice bq4 oq4 dq4] 27)=V:=⟨_,rfl⟩
 have hbW6:Below V5.heap.size V5 W6:=by rw [←hW6];exact (Below.refl _ _).alloc (Nat.le_refl _) _
 have zW6:Hid (W6.heap.size=V5.heap.size + 1):=by rw [←hW6];simp [Hid]
 have bW6:Hid (Blk W6 V5.heap.size (.cells #[.int .i64 kq40,.string sq4,.int .i64 nq4,.slice aq4 mq4 cq4,.slice bq4 oq4 dq4] 27 (0,0))):=by rw [←hW6];exact Blk.new
 have hpW6:=Lib.hid (hpV5.out.below hbW6)
 have bAW6:=Lib.hid (bAV5.out.below hbW6)
 have tq4W6:=Lib.hid (tq4.out.below hbW6)
 have hW6':=Lib.hid hW6
 clear hW6 hbW6 hpV5 bAV5 tq4
 have sg7:Hid (Calls Tryz.prog 64 #[.pointer (some ⟨rb,0,none⟩),.string ⟨#[116,104,101,110]⟩] W6 fun e W'=>Bb W6.heap.size rb W6 W'∧if isAt l (jq4) [116,104,101,110]=true then e=.returned (.tuple #[])∧Rd W' rb a c l ((jq4) + 1) else e=stuckE (jq4)):=par_sign hpW6.out.rd [116,104,101,110]
 go_upto_region 16 with (fail)
 rw [hW6'.out]
 go_wp2_with fail
 refine sg7.out.mono ?_
 rintro e V8 ⟨hB,hm⟩
 by_cases ks:isAt l (jq4) [116,104,101,110]=true
 case neg =>
  rw [if_neg ks] at hm
  obtain rfl:=hm
  have hxx:=sgn6_err kxq4.out ks
  subst hxx
  exact ⟨rfl,hpW6.out.bb.next hB,rfl⟩
 rw [if_pos ks] at hm
 obtain ⟨rfl,hR⟩:=hm
 have hx9:=Lib.hid (sgn6_ok kxq4.out ks)
 try dsimp only at hx9
 have zV8:=Lib.hid hB.size
 have hpV8:=Lib.hid (hpW6.out.call hB hR)
 have bAV8:=Lib.hid (bAW6.out.bb hB (by have:=hrb;have:=zz1.out;have:=zW2.out;have:=zV3.out;have:=zV5.out;have:=zW6.out;omega))
 have tq4V8:=Lib.hid (tq4W6.out.bb hB (by have:=hrb;have:=zz1.out;have:=zW2.out;have:=zV3.out;have:=zV5.out;have:=zW6.out;omega))
 have bUV8:=Lib.hid (bW6.out.bb hB (by have:=hrb;have:=zz1.out;have:=zW2.out;have:=zV3.out;have:=zV5.out;have:=zW6.out;omega))
 clear ks hB hR kxq4 sg7
 clear hpW6 bAW6 tq4W6 bW6
 obtain ⟨q10,hq10,kq10⟩:=pR_split hx9.out
 have cq10:=Lib.hid (hE V8 (jq4 + 1) q10 hpV8.out.rd hq10)
 have kq10:=Lib.hid kq10
 clear hq10 hx9
 go_wp2_with fail
 refine cq10.out.mono ?_
 rintro e V11 ⟨hB,hm⟩
 rcases q10 with p | ⟨es,jq10⟩
 case error =>
  obtain rfl:=hm
  have hxx:=kq10.out
  dsimp only at hxx
  subst hxx
  exact And.intro rfl (And.intro (hpV8.out.bb.next hB) rfl)
 obtain ⟨v,yq10,rfl,rfl,hL,hR⟩:=hm
 obtain ⟨kq100,sq10,nq10,aq10,mq10,cq10,bq10,oq10,dq10,rfl⟩:=hL.out.agg
 have zV11:=Lib.hid hB.size
 have tq10:Hid (Lay V8.heap.size V11.heap.size V11 fun x=>IsEx x (.agg #[.int .i64 kq100,.string sq10,.int .i64 nq10,.slice aq10 mq10 cq10,.slice bq10 oq10 dq10]) yq10):=hL
 have hpV11:=Lib.hid (hpV8.out.call hB hR)
 have bAV11:=Lib.hid (bAV8.out.bb hB (by have:=hrb;have:=zz1.out;have:=zW2.out;have:=zV3.out;have:=zV5.out;have:=zW6.out;have:=zV8.out;omega))
 have tq4V11:=Lib.hid (tq4V8.out.bb hB (by have:=hrb;have:=zz1.out;have:=zW2.out;have:=zV3.out;have:=zV5.out;have:=zW6.out;have:=zV8.out;omega))
 have bUV11:=Lib.hid (bUV8.out.bb hB (by have:=hrb;have:=zz1.out;have:=zW2.out;have:=zV3.out;have:=zV5.out;have:=zW6.out;have:=zV8.out;omega))
 have kxq10:=Lib.hid kq10.out
 try dsimp only at kxq10
 clear hB hR hL kq10
 clear hpV8 bAV8 tq4V8 bUV8
 obtain ⟨W12,hW12⟩:∃ V,V11.alloc (.cells #[.int .i64 kq100,.string sq10,.int .i64 nq10,.slice aq10 mq10 cq10,.slice bq10 oq10 dq10] 27)=V:=⟨_,rfl⟩
 have hbW12:Below V11.heap.size V11 W12:=by rw [←hW12];exact (Below.refl _ _).alloc (Nat.le_refl _) _
 have zW12:Hid (W12.heap.size=V11.heap.size + 1):=by rw [←hW12];simp [Hid]
 have bW12:Hid (Blk W12 V11.heap.size (.cells #[.int .i64 kq100,.string sq10,.int .i64 nq10,.slice aq10 mq10 cq10,.slice bq10 oq10 dq10] 27 (0,0))):=by rw [←hW12];exact Blk.new
 have hpW12:=Lib.hid (hpV11.out.below hbW12)
 have bAW12:=Lib.hid (bAV11.out.below hbW12)
 have tq4W12:=Lib.hid (tq4V11.out.below hbW12)
 have bUW12:=Lib.hid (bUV11.out.below hbW12)
 have tq10W12:=Lib.hid (tq10.out.below hbW12)
 have hW12':=Lib.hid hW12
 clear hW12 hbW12 hpV11 bAV11 tq4V11 bUV11 tq10
 have sg13:Hid (Calls Tryz.prog 64 #[.pointer (some ⟨rb,0,none⟩),.string ⟨#[101,108,115,101]⟩] W12 fun e W'=>Bb W12.heap.size rb W12 W'∧if isAt l (jq10) [101,108,115,101]=true then e=.returned (.tuple #[])∧Rd W' rb a c l ((jq10) + 1) else e=stuckE (jq10)):=par_sign hpW12.out.rd [101,108,115,101]
 go_upto_region 18 with (fail)
 rw [hW12'.out]
 go_wp2_with fail
 refine sg13.out.mono ?_
 rintro e V14 ⟨hB,hm⟩
 by_cases ks:isAt l (jq10) [101,108,115,101]=true
 case neg =>
  rw [if_neg ks] at hm
  obtain rfl:=hm
  have hxx:=sgn6_err kxq10.out ks
  subst hxx
  exact ⟨rfl,hpW12.out.bb.next hB,rfl⟩
 rw [if_pos ks] at hm
 obtain ⟨rfl,hR⟩:=hm
 have hx15:=Lib.hid (sgn6_ok kxq10.out ks)
 try dsimp only at hx15
 have zV14:=Lib.hid hB.size
 have hpV14:=Lib.hid (hpW12.out.call hB hR)
 have bAV14:=Lib.hid (bAW12.out.bb hB (by have:=hrb;have:=zz1.out;have:=zW2.out;have:=zV3.out;have:=zV5.out;have:=zW6.out;have:=zV8.out;have:=zV11.out;have:=zW12.out;omega))
 have tq4V14:=Lib.hid (tq4W12.out.bb hB (by have:=hrb;have:=zz1.out;have:=zW2.out;have:=zV3.out;have:=zV5.out;have:=zW6.out;have:=zV8.out;have:=zV11.out;have:=zW12.out;omega))
 have bUV14:=Lib.hid (bUW12.out.bb hB (by have:=hrb;have:=zz1.out;have:=zW2.out;have:=zV3.out;have:=zV5.out;have:=zW6.out;have:=zV8.out;have:=zV11.out;have:=zW12.out;omega))
 have tq10V14:=Lib.hid (tq10W12.out.bb hB (by have:=hrb;have:=zz1.out;have:=zW2.out;have:=zV3.out;have:=zV5.out;have:=zW6.out;have:=zV8.out;have:=zV11.out;have:=zW12.out;omega))
 have bWV14:=Lib.hid (bW12.out.bb hB (by have:=hrb;have:=zz1.out;have:=zW2.out;have:=zV3.out;have:=zV5.out;have:=zW6.out;have:=zV8.out;have:=zV11.out;have:=zW12.out;omega))
 clear ks hB hR kxq10 sg13
 clear hpW12 bAW12 tq4W12 bUW12 tq10W12 bW12
 obtain ⟨q16,hq16,kq16⟩:=pR_split hx15.out
 have cq16:=Lib.hid (RuleC.later hE hpV14.out.rd hq16)
 have kq16:=Lib.hid kq16
 clear hq16 hx15
 obtain ⟨⟨m170,m171,m172,m173,m174⟩,m17f⟩:=(show Box5 V14 27 V5.heap.size (.int .i64 kq40) (.string sq4) (.int .i64 nq4) (.slice aq4 mq4 cq4) (.slice bq4 oq4 dq4) from bUV14.out).cells
 have m17l:V5.heap.size < V14.heap.size:=blk_lt (show Box5 V14 27 V5.heap.size (.int .i64 kq40) (.string sq4) (.int .i64 nq4) (.slice aq4 mq4 cq4) (.slice bq4 oq4 dq4) from bUV14.out)
 obtain ⟨⟨m180,m181,m182,m183,m184⟩,m18f⟩:=(show Box5 V14 27 V11.heap.size (.int .i64 kq100) (.string sq10) (.int .i64 nq10) (.slice aq10 mq10 cq10) (.slice bq10 oq10 dq10) from bWV14.out).cells
 have m18l:V11.heap.size < V14.heap.size:=blk_lt (show Box5 V14 27 V11.heap.size (.int .i64 kq100) (.string sq10) (.int .i64 nq10) (.slice aq10 mq10 cq10) (.slice bq10 oq10 dq10) from bWV14.out)
 obtain ⟨⟨m190,m191,m192,m193,m194⟩,m19f⟩:=(show Box5 V14 27 W.heap.size (.int .i64 0) (.string ⟨#[]⟩) (.int .i64 0) (.slice none 0 0) (.slice none 0 0) from bAV14.out).cells
 have m19l:W.heap.size < V14.heap.size:=blk_lt (show Box5 V14 27 W.heap.size (.int .i64 0) (.string ⟨#[]⟩) (.int .i64 0) (.slice none 0 0) (.slice none 0 0) from bAV14.out)
 go_wp2_with fail
 go_region_with (first | (
   go_at_call 27
   refine (cq16.out _ (Below.refl _ _).drew).mono ?_
   rintro e V20 ⟨hB,hm⟩
   rcases q16 with p | ⟨es,jq16⟩
   case error =>
    obtain rfl:=hm
    have hxx:=kq16.out
    dsimp only at hxx
    subst hxx
    exact And.intro rfl (And.intro (hpV14.out.bb.next hB) rfl)
   obtain ⟨v,yq16,rfl,rfl,hL,hR⟩:=hm
   obtain ⟨kq160,sq16,nq16,aq16,mq16,cq16,bq16,oq16,dq16,rfl⟩:=hL.out.agg
   have zV20:=Lib.hid hB.size
   have tq16:Hid (Lay V14.heap.size V20.heap.size V20 fun x=>IsEx x (.agg #[.int .i64 kq160,.string sq16,.int .i64 nq16,.slice aq16 mq16 cq16,.slice bq16 oq16 dq16]) yq16):=hL
   have hpV20:=Lib.hid (hpV14.out.call hB hR)
   have bAV20:=Lib.hid (bAV14.out.bb hB (by have:=hrb;have:=zz1.out;have:=zW2.out;have:=zV3.out;have:=zV5.out;have:=zW6.out;have:=zV8.out;have:=zV11.out;have:=zW12.out;have:=zV14.out;omega))
   have tq4V20:=Lib.hid (tq4V14.out.bb hB (by have:=hrb;have:=zz1.out;have:=zW2.out;have:=zV3.out;have:=zV5.out;have:=zW6.out;have:=zV8.out;have:=zV11.out;have:=zW12.out;have:=zV14.out;omega))
   have bUV20:=Lib.hid (bUV14.out.bb hB (by have:=hrb;have:=zz1.out;have:=zW2.out;have:=zV3.out;have:=zV5.out;have:=zW6.out;have:=zV8.out;have:=zV11.out;have:=zW12.out;have:=zV14.out;omega))
   have tq10V20:=Lib.hid (tq10V14.out.bb hB (by have:=hrb;have:=zz1.out;have:=zW2.out;have:=zV3.out;have:=zV5.out;have:=zW6.out;have:=zV8.out;have:=zV11.out;have:=zW12.out;have:=zV14.out;omega))
   have bWV20:=Lib.hid (bWV14.out.bb hB (by have:=hrb;have:=zz1.out;have:=zW2.out;have:=zV3.out;have:=zV5.out;have:=zW6.out;have:=zV8.out;have:=zV11.out;have:=zW12.out;have:=zV14.out;omega))
   have kxq16:=Lib.hid kq16.out
   try dsimp only at kxq16
   clear hB hR hL kq16
   clear hpV14 bAV14 tq4V14 bUV14 tq10V14 bWV14
   clear m170 m171 m172 m173 m174 m17f m17l
   clear m180 m181 m182 m183 m184 m18f m18l
   clear m190 m191 m192 m193 m194 m19f m19l
   obtain ⟨⟨m210,m211,m212,m213,m214⟩,m21f⟩:=(show Box5 V20 27 V5.heap.size (.int .i64 kq40) (.string sq4) (.int .i64 nq4) (.slice aq4 mq4 cq4) (.slice bq4 oq4 dq4) from bUV20.out).cells
   have m21l:V5.heap.size < V20.heap.size:=blk_lt (show Box5 V20 27 V5.heap.size (.int .i64 kq40) (.string sq4) (.int .i64 nq4) (.slice aq4 mq4 cq4) (.slice bq4 oq4 dq4) from bUV20.out)
   obtain ⟨⟨m220,m221,m222,m223,m224⟩,m22f⟩:=(show Box5 V20 27 V11.heap.size (.int .i64 kq100) (.string sq10) (.int .i64 nq10) (.slice aq10 mq10 cq10) (.slice bq10 oq10 dq10) from bWV20.out).cells
   have m22l:V11.heap.size < V20.heap.size:=blk_lt (show Box5 V20 27 V11.heap.size (.int .i64 kq100) (.string sq10) (.int .i64 nq10) (.slice aq10 mq10 cq10) (.slice bq10 oq10 dq10) from bWV20.out)
   obtain ⟨⟨m230,m231,m232,m233,m234⟩,m23f⟩:=(show Box5 V20 27 W.heap.size (.int .i64 0) (.string ⟨#[]⟩) (.int .i64 0) (.slice none 0 0) (.slice none 0 0) from bAV20.out).cells
   have m23l:W.heap.size < V20.heap.size:=blk_lt (show Box5 V20 27 W.heap.size (.int .i64 0) (.string ⟨#[]⟩) (.int .i64 0) (.slice none 0 0) (.slice none 0 0) from bAV20.out)))
 all_goals
  obtain ⟨X,hX⟩:∃ X,V20.alloc (.cells #[.int .i64 kq40,.string sq4,.int .i64 nq4,.slice aq4 mq4 cq4,.slice bq4 oq4 dq4,.int .i64 kq100,.string sq10,.int .i64 nq10,.slice aq10 mq10 cq10,.slice bq10 oq10 dq10,.int .i64 kq160,.string sq16,.int .i64 nq16,.slice aq16 mq16 cq16,.slice bq16 oq16 dq16] 27)=X:=⟨_,rfl⟩
  have hbX:Below V20.heap.size V20 X:=by rw [←hX];exact (Below.refl _ _).alloc (Nat.le_refl _) _
  have zX:Hid (X.heap.size=V20.heap.size + 1):=by rw [←hX];simp [Hid]
  have bR:Hid (Blk X V20.heap.size (.cells #[.int .i64 kq40,.string sq4,.int .i64 nq4,.slice aq4 mq4 cq4,.slice bq4 oq4 dq4,.int .i64 kq100,.string sq10,.int .i64 nq10,.slice aq10 mq10 cq10,.slice bq10 oq10 dq10,.int .i64 kq160,.string sq16,.int .i64 nq16,.slice aq16 mq16 cq16,.slice bq16 oq16 dq16] 27 (0,0))):=by rw [←hX];exact Blk.new
  have hltA:=Lib.hid m23l
  have hpX:=Lib.hid (hpV20.out.below hbX)
  have bAX:=Lib.hid (bAV20.out.below hbX)
  have tq4X:=Lib.hid (tq4V20.out.below hbX)
  have bUX:=Lib.hid (bUV20.out.below hbX)
  have tq10X:=Lib.hid (tq10V20.out.below hbX)
  have bWX:=Lib.hid (bWV20.out.below hbX)
  have tq16X:=Lib.hid (tq16.out.below hbX)
  have hl:LayH [W.heap.size] W.heap.size X.heap.size X fun x=>IsEx x (.agg #[.int .i64 10,.string ⟨#[]⟩,.int .i64 0,.slice none 0 0,.slice (some ⟨V20.heap.size,0,none⟩) 3 3]) (.mk 10 ⟨#[]⟩ 0 [] [yq4,yq10,yq16]):=by
   have:=hrb
   have:=zz1.out
   have:=zW2.out
   have:=zV3.out
   have:=zV5.out
   have:=zW6.out
   have:=zV8.out
   have:=zV11.out
   have:=zW12.out
   have:=zV14.out
   have:=zV20.out
   have:=zX.out
   have g0:=LayH.of_lay (hs:=[W.heap.size]) (B':=W.heap.size) (E':=X.heap.size) tq4X.out (by omega) (by omega) (Nat.le_refl _) (fun q hq=>by simp only [List.mem_cons,List.not_mem_nil,or_false] at hq;subst hq;omega)
   have g1:=LayH.of_lay (hs:=[W.heap.size]) (B':=W.heap.size) (E':=X.heap.size) tq10X.out (by omega) (by omega) (Nat.le_refl _) (fun q hq=>by simp only [List.mem_cons,List.not_mem_nil,or_false] at hq;subst hq;omega)
   have g2:=LayH.of_lay (hs:=[W.heap.size]) (B':=W.heap.size) (E':=X.heap.size) tq16X.out (by omega) (by omega) (Nat.le_refl _) (fun q hq=>by simp only [List.mem_cons,List.not_mem_nil,or_false] at hq;subst hq;omega)
   have gr:=LayH.row3 (hs:=[W.heap.size]) (B:=W.heap.size) (E:=X.heap.size) (b:=V20.heap.size) (by omega) (by omega) (by simp;omega) bR.out g0 g1 g2
   exact LayH.tree (l:=[]) (ks:=[yq4,yq10,yq16]) (by decide) (by decide) (by decide) (by decide) (by simp [lenMax]) (LayH.nil (Nat.le_refl _)) gr ⟨by simp,Nat.le_refl _⟩
  have hf0:=ExR.fin1 h'.out hpX.out (show Box5 X 27 W.heap.size (.int .i64 0) (.string ⟨#[]⟩) (.int .i64 0) (.slice none 0 0) (.slice none 0 0) from bAX.out) (Nat.le_refl _) hl
  obtain ⟨Z,hZ,hf⟩:∃ Z,Z=(((((V20.setCell ⟨W.heap.size,0,none⟩ (.int .i64 10)).setCell ⟨W.heap.size,1,none⟩ (.string ⟨#[]⟩)).setCell ⟨W.heap.size,2,none⟩ (.int .i64 0)).setCell ⟨W.heap.size,3,none⟩ (.slice none 0 0)).setCell ⟨W.heap.size,4,none⟩ (.slice (some ⟨V20.heap.size,0,none⟩) 3 3)).alloc (.cells #[.int .i64 kq40,.string sq4,.int .i64 nq4,.slice aq4 mq4 cq4,.slice bq4 oq4 dq4,.int .i64 kq100,.string sq10,.int .i64 nq10,.slice aq10 mq10 cq10,.slice bq10 oq10 dq10,.int .i64 kq160,.string sq16,.int .i64 nq16,.slice aq16 mq16 cq16,.slice bq16 oq16 dq16] 27)∧Hid (Box5 Z 27 W.heap.size (.int .i64 10) (.string ⟨#[]⟩) (.int .i64 0) (.slice none 0 0) (.slice (some ⟨V20.heap.size,0,none⟩) 3 3)∧ExR W rb a c l (.ok ([.mk 10 ⟨#[]⟩ 0 [] [yq4,yq10,yq16]],jq16)) (.returned (.agg #[.int .i64 10,.string ⟨#[]⟩,.int .i64 0,.slice none 0 0,.slice (some ⟨V20.heap.size,0,none⟩) 3 3])) Z):=⟨_,by rw [←hX];exact (set5_alloc _ hltA.out).symm,hf0⟩
  rw [←hZ]
  have hxx:Hid (x=_):=(Option.some.inj kxq16.out).symm
  clear hZ hl hf0 hX hbX
  clear m210 m211 m212 m213 m214 m21f m21l
  clear m220 m221 m222 m223 m224 m22f m22l
  clear m230 m231 m232 m233 m234 m23f m23l
  go_wp2_with fail
  refine bodyPost_ret (results_ex rfl _ _ rfl hf.out.1.cells.1) rfl ?_
  rw [hxx.out]
  exact hf.out.2
end
end Go.Proofs.YtinjocchommbdaaGreatDoor
