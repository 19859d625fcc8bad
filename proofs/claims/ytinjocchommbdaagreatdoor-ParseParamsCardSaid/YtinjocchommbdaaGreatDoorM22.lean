/- A part of the proof that parser laws hold: texts of the walk and of its plain laws, made small. -/
import Derived.Test.YtinjocchommbdaaGreatDoorM21
import Derived.Deep.RegionLaw
set_option linter.unusedVariables false
set_option linter.unusedSimpArgs false
namespace Go.Proofs.YtinjocchommbdaaGreatDoor
open Go.RowKit
theorem case_done {W U w2:World} {rb:Nat} {a:Option Addr} {c:Nat} {l:List Tk} {i j B A:Nat} {v:Value} (h:Rd W rb a c l i) (hp:PS W rb a c l j U) (bA:Box5 U 27 A (.int .i64 0) (.string ⟨#[]⟩) (.int .i64 0) (.slice none 0 0) (.slice none 0 0)) (hAB:A < B) (hWB:W.heap.size≤B)
  (hgb:∀ g,v.ownBlock=some g→B≤g) (hg:U.grownBy w2 v.ownBlock):PS W rb a c l j w2∧Box5 w2 27 A (.int .i64 0) (.string ⟨#[]⟩) (.int .i64 0) (.slice none 0 0) (.slice none 0 0):=by
 have hr:∀ g,v.ownBlock=some g→W.heap.size≤g:=fun g q=>Nat.le_trans hWB (hgb g q)
 exact ⟨⟨hp.bb.grown hg hr,hp.rd.grown hg hr h.lt h.lowRow⟩,(hg.block A (blk_lt bA) (fun q=>by have:=hgb A q.symm;omega)).trans bA⟩
section
variable {rb:Nat} {a:Option Addr} {c:Nat} {l:List Tk}
set_option maxHeartbeats 8000000 in
set_option maxRecDepth 100000 in
theorem par_expr_case {f:Nat} (hE:RuleC 27 rb a c l f .expr) (hN:∀ g,f=g + 1→RuleC 67 rb a c l g .alt) (W:World) (i:Nat) (x:Except Nat (List Ex × Nat)) (h:Rd W rb a c l i) (n0:isAt l i [92]=false) (n1:isAt l i [108,101,116]=false) (y2:isAt l i [99,97,115,101]=true) (hx:((pR l f .expr (i + 1)).bnd fun e j=>sgn6 l j [111,102] fun k=>sgn6 l k bOpen fun m=>(pR l f (.items true) m).bnd fun ks n=>ok6 [.mk 7 ex0 0 [] (e ++ ks)] n)=some x):Calls Tryz.prog 27 #[.pointer (some ⟨rb,0,none⟩)] W fun e W'=>ExR W rb a c l x e W':=by
 have ho:anyAt l i exL=some [99,97,115,101]:=by
  simp only [anyAt,exL,List.find?_cons,List.find?_nil,n0,n1,y2]
 have hmf:∀ (fn:Fn) (first cap:Array Value) (w:World),(Instr.makeFunc fn first cap).run Tryz.prog w=.ok (.func fn first cap) w:=fun _ _ _ _=>rfl
 clear n0 n1 y2
 obtain ⟨W1,hW1⟩:∃ V,W.alloc (.cells #[.int .i64 0,.string ⟨#[]⟩,.int .i64 0,.slice none 0 0,.slice none 0 0] 27)=V:=⟨_,rfl⟩
 have hb1:Below W.heap.size W W1:=by rw [←hW1];exact (Below.refl _ _).alloc (Nat.le_refl _) _
 have bA1:Hid (Box5 W1 27 W.heap.size (.int .i64 0) (.string ⟨#[]⟩) (.int .i64 0) (.slice none 0 0) (.slice none 0 0)):=by rw [←hW1];exact blk_new (Below.refl _ _)
 have zz1:Hid (W1.heap.size=W.heap.size + 1):=by rw [←hW1];simp [Hid]
 have hp1:=Lib.hid ((PS.refl h).below hb1)
 have hrb:=h.lt
 have h':=Lib.hid h
 have hW1':=Lib.hid hW1
 have hx0:=Lib.hid hx
 have hfl:=Tryz.fldText
 have hfn:=Tryz.fldNum
 clear hW1 hb1 h hx
 obtain ⟨W2,hW2⟩:∃ V,W1.alloc (.cells #[.string ⟨#[92]⟩,.string ⟨#[108,101,116]⟩,.string ⟨#[99,97,115,101]⟩,.string ⟨#[105,102]⟩,.string ⟨#[100,111]⟩,.string ⟨#[100,111,115]⟩] 9)=V:=⟨_,rfl⟩
 have hbW2:Below W1.heap.size W1 W2:=by rw [←hW2];exact (Below.refl _ _).alloc (Nat.le_refl _) _
 have zW2:Hid (W2.heap.size=W1.heap.size + 1):=by rw [←hW2];simp [Hid]
 have bW2:Hid (Blk W2 W1.heap.size (.cells #[.string ⟨#[92]⟩,.string ⟨#[108,101,116]⟩,.string ⟨#[99,97,115,101]⟩,.string ⟨#[105,102]⟩,.string ⟨#[100,111]⟩,.string ⟨#[100,111,115]⟩] 9 (0,0))):=by rw [←hW2];exact Blk.new
 have hpW2:=Lib.hid (hp1.out.below hbW2)
 have bAW2:=Lib.hid (bA1.out.below hbW2)
 have hW2':=Lib.hid hW2
 clear hW2 hbW2 hp1 bA1
 have hany:Hid (Calls Tryz.prog 62 #[.pointer (some ⟨rb,0,none⟩),.slice (some ⟨W1.heap.size,0,none⟩) 6 6] W2 fun e W'=>e=.returned (.tuple #[.string ⟨#[99,97,115,101]⟩,.bool true])∧Bb W2.heap.size rb W2 W'∧Rd W' rb a c l (i + 1)):=by
  have:=any_call (ss:=exL) (sc:=6) hpW2.out.rd (sb:=W1.heap.size) ⟨blk_lt (show Blk W2 W1.heap.size (.cells #[.string ⟨#[92]⟩,.string ⟨#[108,101,116]⟩,.string ⟨#[99,97,115,101]⟩,.string ⟨#[105,102]⟩,.string ⟨#[100,111]⟩,.string ⟨#[100,111,115]⟩] 9 (0,0)) from bW2.out),fun j hj=>by
   have hj2:j=0∨j=1∨j=2∨j=3∨j=4∨j=5:=by simp [exL] at hj;omega
   rw [←hW2'.out]
   rcases hj2 with rfl | rfl | rfl | rfl | rfl | rfl <;> exact (new_cell _ _ _ _).trans rfl⟩ (by decide)
  rw [ho] at this
  exact this
 clear ho
 go_enter Tryz.func27,Tryz.ntmps27
 go_upto_region 1 with (fail)
 rw [hW1'.out]
 go_wp2_with fail
 rw [hW2'.out]
 refine hany.out.mono ?_
 rintro e V3 ⟨rfl,hB,hR⟩
 have zV3:=Lib.hid hB.size
 have hpV3:=Lib.hid (hpW2.out.call hB hR)
 have bAV3:=Lib.hid (bAW2.out.bb hB (by have:=hrb;have:=zz1.out;have:=zW2.out;omega))
 have rOV3:=Lib.hid (bW2.out.bb hB (by have:=hrb;have:=zz1.out;have:=zW2.out;omega))
 clear hB hR hany hpW2 bAW2 bW2
 obtain ⟨q4,hq4,kq4⟩:=pR_split hx0.out
 have cq4:=Lib.hid (hE V3 (i + 1) q4 hpV3.out.rd hq4)
 have kq4:=Lib.hid kq4
 clear hq4 hx0
 go_wp2_with fail
 refine cq4.out.mono ?_
 rintro e V5 ⟨hB,hm⟩
 rcases q4 with p | ⟨es,jq4⟩
 case error =>
  obtain rfl:=hm
  have hxx:=kq4.out
  dsimp only at hxx
  subst hxx
  exact And.intro rfl (And.intro (hpV3.out.bb.next hB) rfl)
 obtain ⟨v,yq4,rfl,rfl,hL,hR⟩:=hm
 obtain ⟨kq40,sq4,nq4,aq4,mq4,cq4,bq4,oq4,dq4,rfl⟩:=hL.out.agg
 have zV5:=Lib.hid hB.size
 have tq4:Hid (Lay V3.heap.size V5.heap.size V5 fun x=>IsEx x (.agg #[.int .i64 kq40,.string sq4,.int .i64 nq4,.slice aq4 mq4 cq4,.slice bq4 oq4 dq4]) yq4):=hL
 have hpV5:=Lib.hid (hpV3.out.call hB hR)
 have bAV5:=Lib.hid (bAV3.out.bb hB (by have:=hrb;have:=zz1.out;have:=zW2.out;have:=zV3.out;omega))
 have kxq4:=Lib.hid kq4.out
 try dsimp only at kxq4
 clear hB hR hL kq4
 clear hpV3 bAV3
 obtain ⟨W6,hW6⟩:∃ V,V5.alloc (.cells #[.int .i64 kq40,.string sq4,.int .i64 nq4,.slice aq4 mq4 cq4,.slice bq4 oq4 dq4] 27)=V:=⟨_,rfl⟩
 have hbW6:Below V5.heap.size V5 W6:=by rw [←hW6];exact (Below.refl _ _).alloc (Nat.le_refl _) _
 have zW6:Hid (W6.heap.size=V5.heap.size + 1):=by rw [←hW6];simp [Hid]
 have bW6:Hid (Blk W6 V5.heap.size (.cells #[.int .i64 kq40,.string sq4,.int .i64 nq4,.slice aq4 mq4 cq4,.slice bq4 oq4 dq4] 27 (0,0))):=by rw [←hW6];exact Blk.new
 have hpW6:=Lib.hid (hpV5.out.below hbW6)
 have bAW6:=Lib.hid (bAV5.out.below hbW6)
 have tq4W6:=Lib.hid (tq4.out.below hbW6)
 have hW6':=Lib.hid hW6
 clear hW6 hbW6 hpV5 bAV5 tq4
 have sg7:Hid (Calls Tryz.prog 64 #[.pointer (some ⟨rb,0,none⟩),.string ⟨#[111,102]⟩] W6 fun e W'=>Bb W6.heap.size rb W6 W'∧if isAt l (jq4) [111,102]=true then e=.returned (.tuple #[])∧Rd W' rb a c l ((jq4) + 1) else e=stuckE (jq4)):=par_sign hpW6.out.rd [111,102]
 go_upto_region 12 with (fail)
 rw [hW6'.out]
 go_wp2_with fail
 refine sg7.out.mono ?_
 rintro e V8 ⟨hB,hm⟩
 by_cases ks:isAt l (jq4) [111,102]=true
 case neg =>
  rw [if_neg ks] at hm
  obtain rfl:=hm
  have hxx:=sgn6_err kxq4.out ks
  subst hxx
  exact ⟨rfl,hpW6.out.bb.next hB,rfl⟩
 rw [if_pos ks] at hm
 obtain ⟨rfl,hR⟩:=hm
 have hx9:=Lib.hid (sgn6_ok kxq4.out ks)
 try dsimp only at hx9
 have zV8:=Lib.hid hB.size
 have hpV8:=Lib.hid (hpW6.out.call hB hR)
 have bAV8:=Lib.hid (bAW6.out.bb hB (by have:=hrb;have:=zz1.out;have:=zW2.out;have:=zV3.out;have:=zV5.out;have:=zW6.out;omega))
 have tq4V8:=Lib.hid (tq4W6.out.bb hB (by have:=hrb;have:=zz1.out;have:=zW2.out;have:=zV3.out;have:=zV5.out;have:=zW6.out;omega))
 have bUV8:=Lib.hid (bW6.out.bb hB (by have:=hrb;have:=zz1.out;have:=zW2.out;have:=zV3.out;have:=zV5.out;have:=zW6.out;omega))
 clear ks hB hR kxq4 sg7
 clear hpW6 bAW6 tq4W6 bW6
 obtain ⟨x2,hx2,kx2⟩:=sgn6_split hx9.out
 have kx2':=Lib.hid kx2
 have cE:=Lib.hid (fun V (hV:PS W rb a c l (jq4 + 1) V)=>par_listA hN V (jq4 + 1) x2 hV.rd hx2)
 clear hx2 kx2 hx9
 have zA:Hid (W1.heap.size=W.heap.size + 1∧W1.heap.size≤V8.heap.size):=⟨zz1.out,by have:=hrb;have:=zz1.out;have:=zW2.out;have:=zV3.out;have:=zV5.out;have:=zW6.out;have:=zV8.out;omega⟩
 have pB:=Lib.hid (hpV8.out.below (Below.refl _ _).drew)
 have pA:Hid (PS W rb a c l (jq4 + 1) (V8.alloc (.cells #[.int .i64 kq40,.string sq4,.int .i64 nq4,.slice aq4 mq4 cq4,.slice bq4 oq4 dq4] 27)).drew):=hpV8.out.below ((Below.refl _ _).alloc (Nat.le_refl _) _).drew
 have gA:Hid (Grow 27 5 IsExC W1.heap.size (V8.alloc (.cells #[.int .i64 kq40,.string sq4,.int .i64 nq4,.slice aq4 mq4 cq4,.slice bq4 oq4 dq4] 27)).drew (.slice (some ⟨V8.heap.size,0,none⟩) 1 1) [yq4]):=(Grow.one (s:=5) rfl (by decide) zA.out.2 (isExC_lay (LayH.of_lay tq4V8.out (by have:=hrb;have:=zz1.out;have:=zW2.out;have:=zV3.out;have:=zV5.out;have:=zW6.out;have:=zV8.out;omega) (by have:=hrb;have:=zz1.out;have:=zW2.out;have:=zV3.out;have:=zV5.out;have:=zW6.out;have:=zV8.out;omega) (Nat.le_refl _) (fun q hq=>by simp only [List.mem_cons,List.not_mem_nil,or_false] at hq;subst hq;have:=hrb;have:=zz1.out;have:=zW2.out;have:=zV3.out;have:=zV5.out;have:=zW6.out;have:=zV8.out;omega)))).below (Below.refl _ _).drew
 have bAA:Hid (Box5 (V8.alloc (.cells #[.int .i64 kq40,.string sq4,.int .i64 nq4,.slice aq4 mq4 cq4,.slice bq4 oq4 dq4] 27)).drew 27 W.heap.size (.int .i64 0) (.string ⟨#[]⟩) (.int .i64 0) (.slice none 0 0) (.slice none 0 0)):=(show Box5 V8 27 W.heap.size (.int .i64 0) (.string ⟨#[]⟩) (.int .i64 0) (.slice none 0 0) (.slice none 0 0) from bAV8.out).below ((Below.refl _ _).alloc (Nat.le_refl _) _).drew
 have bAB:Hid (Box5 V8.drew 27 W.heap.size (.int .i64 0) (.string ⟨#[]⟩) (.int .i64 0) (.slice none 0 0) (.slice none 0 0)):=(show Box5 V8 27 W.heap.size (.int .i64 0) (.string ⟨#[]⟩) (.int .i64 0) (.slice none 0 0) (.slice none 0 0) from bAV8.out).below (Below.refl _ _).drew
 have bUB:Hid (Box5 V8.drew 27 V5.heap.size (.int .i64 kq40) (.string sq4) (.int .i64 nq4) (.slice aq4 mq4 cq4) (.slice bq4 oq4 dq4)):=(show Box5 V8 27 V5.heap.size (.int .i64 kq40) (.string sq4) (.int .i64 nq4) (.slice aq4 mq4 cq4) (.slice bq4 oq4 dq4) from bUV8.out).below (Below.refl _ _).drew
 have tYB:Hid (Lay V3.heap.size V5.heap.size V8.drew fun x=>IsEx x (.agg #[.int .i64 kq40,.string sq4,.int .i64 nq4,.slice aq4 mq4 cq4,.slice bq4 oq4 dq4]) yq4):=tq4V8.out.below (Below.refl _ _).drew
 have hAne:Hid (W.heap.size≠rb∧V5.heap.size≠rb):=⟨by have:=hrb;omega,by have:=hrb;have:=zz1.out;have:=zW2.out;have:=zV3.out;have:=zV5.out;have:=zW6.out;have:=zV8.out;omega⟩
 have hwin:Hid (V3.heap.size≤V5.heap.size∧W1.heap.size≤V3.heap.size∧rb < V3.heap.size):=⟨by have:=hrb;have:=zz1.out;have:=zW2.out;have:=zV3.out;have:=zV5.out;have:=zW6.out;have:=zV8.out;omega,by have:=hrb;have:=zz1.out;have:=zW2.out;have:=zV3.out;have:=zV5.out;have:=zW6.out;have:=zV8.out;omega,by have:=hrb;have:=zz1.out;have:=zW2.out;have:=zV3.out;have:=zV5.out;have:=zW6.out;have:=zV8.out;omega⟩
 obtain ⟨⟨m100,m101,m102,m103,m104⟩,m10f⟩:=(show Box5 V8 27 V5.heap.size (.int .i64 kq40) (.string sq4) (.int .i64 nq4) (.slice aq4 mq4 cq4) (.slice bq4 oq4 dq4) from bUV8.out).cells
 have m10l:V5.heap.size < V8.heap.size:=blk_lt (show Box5 V8 27 V5.heap.size (.int .i64 kq40) (.string sq4) (.int .i64 nq4) (.slice aq4 mq4 cq4) (.slice bq4 oq4 dq4) from bUV8.out)
 go_wp2_with fail
 go_region_law (first | (go_simp;go_at_call 66;refine (cE.out _ pA.out).mono ?_;rintro e1 U ⟨hB,hm⟩;rcases x2 with p | ⟨es,jx⟩;(· (have hxx:=kx2'.out;dsimp only at hxx;subst hxx;obtain rfl:=hm;exact And.intro rfl (And.intro (pA.out.bb.next hB) rfl)));obtain ⟨v,rfl,hEs,hR,hln⟩:=hm;have kx3:=Lib.hid kx2'.out;have tE:=Lib.hid hEs;have hln2:=Lib.hid hln;obtain ⟨ea,ec,rfl,hcap,_⟩:=hEs.open;have hpU:=Lib.hid (pA.out.call hB hR);have gU:=Lib.hid (gA.out.bb hB (by have:=zA.out;omega));have bAU:=Lib.hid ((show Box5 (V8.alloc (.cells #[.int .i64 kq40,.string sq4,.int .i64 nq4,.slice aq4 mq4 cq4,.slice bq4 oq4 dq4] 27)).drew 27 W.heap.size (.int .i64 0) (.string ⟨#[]⟩) (.int .i64 0) (.slice none 0 0) (.slice none 0 0) from bAA.out).bb hB hAne.out.1);have hsz:=Lib.hid hB.size;clear hB hR hEs hln hcap) | (go_simp;go_at_call 66;refine (cE.out _ pB.out).mono ?_;rintro e1 U ⟨hB,hm⟩;rcases x2 with p | ⟨es,jx⟩;(· (have hxx:=kx2'.out;dsimp only at hxx;subst hxx;obtain rfl:=hm;exact And.intro rfl (And.intro (pB.out.bb.next hB) rfl)));obtain ⟨v,rfl,hEs,hR,hln⟩:=hm;have kx3:=Lib.hid kx2'.out;have tE:=Lib.hid hEs;have hln2:=Lib.hid hln;obtain ⟨ea,ec,rfl,hcap,_⟩:=hEs.open;have hpU:=Lib.hid (pB.out.call hB hR);have bAU:=Lib.hid ((show Box5 V8.drew 27 W.heap.size (.int .i64 0) (.string ⟨#[]⟩) (.int .i64 0) (.slice none 0 0) (.slice none 0 0) from bAB.out).bb hB hAne.out.1);have bUU:=(show Box5 V8.drew 27 V5.heap.size (.int .i64 kq40) (.string sq4) (.int .i64 nq4) (.slice aq4 mq4 cq4) (.slice bq4 oq4 dq4) from bUB.out).bb hB hAne.out.2;have tYU:=Lib.hid (tYB.out.bb hB (.inl hwin.out.2.2));have hsz:=Lib.hid hB.size;clear m100 m101 m102 m103 m104 m10f m10l;obtain ⟨⟨m100,m101,m102,m103,m104⟩,m10f⟩:=bUU.cells;have m10l:=blk_lt bUU;clear hB hR hEs hln hcap bUU) | (refine wanted_run (by rfl) ?_;obtain ⟨v2,w2,hrun,hG2,hgr⟩:=Grow.app gU.out tE.out (by have:=hsz.out;have:=zA.out;simp at this ⊢;omega) (fun g q=>.inl (by cases q;simp)) (by have:=hln2.out;simp;omega) 25;refine wp_append_run (.tmp 40) (.tmp 44) 25 _ _ _ _ _ rfl rfl rfl hrun ?_;have hcd:=Lib.hid (case_done h'.out hpU.out (show Box5 U 27 W.heap.size (.int .i64 0) (.string ⟨#[]⟩) (.int .i64 0) (.slice none 0 0) (.slice none 0 0) from bAU.out) (show W.heap.size < W1.heap.size by have:=zA.out;omega) (show W.heap.size≤W1.heap.size by have:=zA.out;omega) (fun g q=>by cases q;exact zA.out.2) hgr);have hG3:=Lib.hid hG2;obtain ⟨va,vc,rfl,hvn,hvc⟩:=hG2.form;clear hG2 hgr hrun hvn hvc;obtain ⟨⟨u0,u1,u2,u3,u4⟩,uf⟩:=(show Box5 w2 27 W.heap.size (.int .i64 0) (.string ⟨#[]⟩) (.int .i64 0) (.slice none 0 0) (.slice none 0 0) from hcd.out.2).cells) | (refine wanted_run (by rfl) ?_;obtain ⟨v2,w2,hrun,hG2,hgr⟩:=Grow.app (w:=(U.alloc (.cells #[.int .i64 kq40,.string sq4,.int .i64 nq4,.slice aq4 mq4 cq4,.slice bq4 oq4 dq4] 27))) (Grow.one (X:=U) (B:=W1.heap.size) (s:=5) rfl (by decide) (by have:=hsz.out;have:=zA.out;simp at *;omega) (isExC_lay (LayH.of_lay tYU.out hwin.out.2.1 tYU.out.1 (Nat.le_refl _) (fun q hq=>by simp only [List.mem_cons,List.not_mem_nil,or_false] at hq;subst hq;exact .inr tYU.out.1)))) ((tE.out.of (w':=(U.alloc (.cells #[.int .i64 kq40,.string sq4,.int .i64 nq4,.slice aq4 mq4 cq4,.slice bq4 oq4 dq4] 27))) (by simp) (fun k _ hk=>((Below.refl U.heap.size U).alloc (Nat.le_refl _) _).block k hk))) (by have:=hsz.out;have:=zA.out;simp at *;omega) (fun g q=>.inr (by cases q;exact Nat.le_refl _)) (by have:=hln2.out;simp;omega) 25;refine wp_append_run (.tmp 40) (.tmp 44) 25 _ _ _ _ _ rfl rfl rfl hrun ?_;have hcd:=Lib.hid (case_done h'.out (hpU.out.below ((Below.refl _ _).alloc (Nat.le_refl _) (.cells #[.int .i64 kq40,.string sq4,.int .i64 nq4,.slice aq4 mq4 cq4,.slice bq4 oq4 dq4] 27))) ((show Box5 U 27 W.heap.size (.int .i64 0) (.string ⟨#[]⟩) (.int .i64 0) (.slice none 0 0) (.slice none 0 0) from bAU.out).below ((Below.refl _ _).alloc (Nat.le_refl _) (.cells #[.int .i64 kq40,.string sq4,.int .i64 nq4,.slice aq4 mq4 cq4,.slice bq4 oq4 dq4] 27))) (show W.heap.size < W1.heap.size by have:=zA.out;omega) (show W.heap.size≤W1.heap.size by have:=zA.out;omega) (fun g q=>by cases q;have:=hsz.out;have:=zA.out;simp at *;omega) hgr);have hG3:=Lib.hid hG2;obtain ⟨va,vc,rfl,hvn,hvc⟩:=hG2.form;clear hG2 hgr hrun hvn hvc;obtain ⟨⟨u0,u1,u2,u3,u4⟩,uf⟩:=(show Box5 w2 27 W.heap.size (.int .i64 0) (.string ⟨#[]⟩) (.int .i64 0) (.slice none 0 0) (.slice none 0 0) from hcd.out.2).cells))
 all_goals
  obtain ⟨a9,c9,hv9,hcap9,hL9⟩:=hG3.out.exs.open
  simp only [Value.slice.injEq,true_and] at hv9
  obtain ⟨rfl,rfl⟩:=hv9
  have hl:LayH [W.heap.size] W.heap.size w2.heap.size w2 fun x=>IsEx x (.agg #[.int .i64 7,.string ⟨#[]⟩,.int .i64 0,.slice none 0 0,.slice va (es.length + 1) vc]) (.mk 7 ⟨#[]⟩ 0 [] (yq4 :: es)) :=
   LayH.tree (l:=[]) (ks:=yq4 :: es) (by decide) (by decide) (by decide) (by decide) (by have:=hln2.out;simp only [List.length_cons];unfold lenMax;omega) (LayH.nil (Nat.le_refl _)) (LayH.of_lay hL9 (by have:=zA.out;omega) (Nat.le_refl _) (Nat.le_refl _) (fun q hq=>by simp only [List.mem_cons,List.not_mem_nil,or_false] at hq;subst hq;have:=zA.out;omega)) ⟨fun _=>rfl,hcap9.2⟩
  have hf:=Lib.hid (ExR.fin1 h'.out hcd.out.1 (show Box5 w2 27 W.heap.size (.int .i64 0) (.string ⟨#[]⟩) (.int .i64 0) (.slice none 0 0) (.slice none 0 0) from hcd.out.2) (Nat.le_refl _) hl)
  have hxx:Hid (x=.ok ([.mk 7 ⟨#[]⟩ 0 [] (yq4 :: es)],jx)):=(Option.some.inj kx3.out).symm
  clear hl hL9 hcap9 u0 u1 u2 u3 u4 uf
  go_wp2_with fail
  refine set5_fold ?_
  refine bodyPost_ret (results_ex rfl _ _ rfl hf.out.1.cells.1) rfl ?_
  rw [hxx.out]
  exact hf.out.2
end
structure AllC (rb:Nat) (a:Option Addr) (c:Nat) (l:List Tk) (f:Nat):Prop where
 atom:RuleC 223 rb a c l f .atom
 app:RuleC 203 rb a c l f (.lev 0)
 product:RuleC 182 rb a c l f (.lev 1)
 sum:RuleC 129 rb a c l f (.lev 2)
 comp:RuleC 69 rb a c l f .comp
 alt:RuleC 67 rb a c l f .alt
 line:RuleC 68 rb a c l f .line
 expr:RuleC 27 rb a c l f .expr
theorem RuleC.zero {fid rb:Nat} {a:Option Addr} {c:Nat} {l:List Tk} {r:Rl}:RuleC fid rb a c l 0 r:=fun _ _ _ _ h=>(by cases h)
theorem par_expr {rb:Nat} {a:Option Addr} {c:Nat} {l:List Tk} {f:Nat} (h:AllC rb a c l f):RuleC 27 rb a c l (f + 1) .expr:=by
 intro W i x hR hx
 simp only [pR,stepR] at hx
 have b:∀ s,¬ isAt l i s=true→isAt l i s=false:=fun s hs=>by simpa using hs
 by_cases y0:isAt l i [92]=true
 ·
  rw [if_pos y0] at hx;exact par_expr_lam h.expr W i x hR y0 hx
 rw [if_neg y0] at hx
 by_cases y1:isAt l i [108,101,116]=true
 ·
  rw [if_pos y1] at hx;exact par_expr_let h.expr W i x hR (b _ y0) y1 hx
 rw [if_neg y1] at hx
 by_cases y2:isAt l i [99,97,115,101]=true
 ·
  rw [if_pos y2] at hx;exact par_expr_case h.expr (fun g hg=>h.alt.mono (by omega)) W i x hR (b _ y0) (b _ y1) y2 hx
 rw [if_neg y2] at hx
 by_cases y3:isAt l i [105,102]=true
 ·
  rw [if_pos y3] at hx;exact par_expr_if h.expr W i x hR (b _ y0) (b _ y1) (b _ y2) y3 hx
 rw [if_neg y3] at hx
 by_cases y4:isAt l i [100,111]=true
 ·
  rw [if_pos y4] at hx;exact par_expr_do (fun g hg=>h.line.mono (by omega)) W i x hR (b _ y0) (b _ y1) (b _ y2) (b _ y3) y4 hx
 rw [if_neg y4] at hx
 by_cases y5:isAt l i [100,111,115]=true
 ·
  rw [if_pos y5] at hx;exact par_expr_dos (fun g hg=>h.line.mono (by omega)) W i x hR (b _ y0) (b _ y1) (b _ y2) (b _ y3) (b _ y4) y5 hx
 rw [if_neg y5] at hx
 exact par_expr_comp h.comp W i x hR (b _ y0) (b _ y1) (b _ y2) (b _ y3) (b _ y4) (b _ y5) hx
theorem par_all (rb:Nat) (a:Option Addr) (c:Nat) (l:List Tk):∀ f,AllC rb a c l f
 | 0=>⟨.zero,.zero,.zero,.zero,.zero,.zero,.zero,.zero⟩
 | f + 1=>by
  have h:=par_all rb a c l f
  exact ⟨par_atom h.expr,par_app h.atom,par_product h.app,par_sum h.product,par_comp h.sum,par_alt h.expr,par_line h.expr,par_expr h⟩
end Go.Proofs.YtinjocchommbdaaGreatDoor
namespace Go.Proofs.YtinjocchommbdaaGreatDoor
open Go.RowKit
theorem Box2.bb {w W:World} {m:Nat} {t:TypeId} {b:Nat} {x0 x1:Value} (h:Box2 w t b x0 x1) (k:Bb w.heap.size m w W) (hne:b≠m):Box2 W t b x0 x1:=k.box hne h
theorem Box2.at0 {w:World} {t:TypeId} {b:Nat} {x0 x1:Value} (h:Box2 w t b x0 x1) (y:Value):Box2 (w.setCell ⟨b,0,none⟩ y) t b y x1∧OneSet b w (w.setCell ⟨b,0,none⟩ y):=⟨h.first y,OneSet.cell _ _ _ _⟩
theorem Box2.at1 {w:World} {t:TypeId} {b:Nat} {x0 x1:Value} (h:Box2 w t b x0 x1) (y:Value):Box2 (w.setCell ⟨b,1,none⟩ y) t b x0 y∧OneSet b w (w.setCell ⟨b,1,none⟩ y):=⟨h.second y,OneSet.cell _ _ _ _⟩
theorem results_sg {fn:Func} {t:Tmp} (h:fn.results=#[.cell t 163]) (tmps:Array Value) (w:World) {b:Nat} {x0 x1:Value} (ha:tmps.getD t undef=.pointer (some ⟨b,0,none⟩))
  (hc:w.cell? ⟨b,0,none⟩=some x0∧w.cell? ⟨b,1,none⟩=some x1):(results fn tmps).run Tryz.prog w=.ok (.agg #[x0,x1]) w:=by
 obtain ⟨h0,h1⟩:=hc
 have e2:=Tryz.isAgg163
 have e3:=Tryz.sizeOf163
 have ha':tmps[t]?.getD undef=.pointer (some ⟨b,0,none⟩):=by simpa using ha
 simp [results,h,ha',asAddr,loadVar,e2,loadCells,loadCellsFrom,Result.andThen,h0,h1,Addr.add,load,Sem.run]
theorem set2_fold {P:Program} {fn:Func} {R:Ending→World→Prop} {e:Exit} {a:Act} {w:World} {b:Nat} {x0 x1:Value} (h:bodyPost P fn R e a (World.set2 w b x0 x1)):bodyPost P fn R e a ((w.setCell ⟨b,0,none⟩ x0).setCell ⟨b,1,none⟩ x1):=h
theorem set2_alloc {w:World} {b:Nat} {x0 x1:Value} (o:Obj) (h:b < w.heap.size):(World.set2 w b x0 x1).alloc o=World.set2 (w.alloc o) b x0 x1:=by
 unfold World.set2
 rw [World.setCell_alloc_past o b 0 x0 h,World.setCell_alloc_past o b 1 x1 (by rw [size_set];exact h)]
theorem IsSg.open2 {w:World} {v:Value} {s:Str} {l:List Sg} (h:IsSg w v (.mk s l)):∃ a c,v=.agg #[.string s,.slice a l.length c]∧s.size≤lenMax∧l.length≤lenMax∧SgFrom w a l:=by
 simp only [IsSg] at h;exact h
theorem IsSg.agg {w:World} {v:Value} {e:Sg} (h:IsSg w v e):∃ s a m c,v=.agg #[.string s,.slice a m c]:=by
 cases e
 obtain ⟨a,c,rfl,_⟩:=h.open2
 exact ⟨_,_,_,_,rfl⟩
theorem sgFrom_row {w:World} {a:Option Addr} {l:List Sg} (h:SgRow w a l):SgFrom w a l:=by
 rcases h with rfl | ⟨b,off,rfl,h⟩
 ·
  simp [SgFrom]
 ·
  exact (sgFrom_at _ _ _).2 h
theorem LayH.sig {hs:List Nat} {B E:Nat} {w:World} {s:Str} {l:List Sg} {a:Option Addr} {c:Nat} (h1:s.size≤lenMax) (h2:l.length≤lenMax) (h3:LayH hs B E w fun x=>SgRow x a l):LayH hs B E w fun x=>IsSg x (.agg #[.string s,.slice a l.length c]) (.mk s l) :=
 h3.imp fun x hx=>by simp only [IsSg];exact ⟨a,c,rfl,h1,h2,sgFrom_row hx⟩
def IsSgC (x:World) (cs:List Value) (e:Sg):Prop:=∃ v0 v1,cs=[v0,v1]∧IsSg x (.agg #[v0,v1]) e
def SgsIs (B E:Nat) (w:World) (v:Value) (es:List Sg):Prop:=∃ a c,v=.slice a es.length c∧((a=none→c=0)∧es.length≤c)∧Lay B E w fun x=>SgRow x a es
theorem Grow.sgs {T:TypeId} {B:Nat} {X:World} {v:Value} {es:List Sg} (h:Grow T 2 IsSgC B X v es):SgsIs B X.heap.size X v es:=by
 obtain ⟨a,c,rfl,h1,h2⟩:=h.done
 refine ⟨a,c,rfl,h1,?_⟩
 rcases h2 with rfl | ⟨g,rfl,g1,g2,g3⟩
 ·
  exact Lay.all (Nat.le_refl _) fun _=>.inl rfl
 ·
  refine ⟨Nat.le_refl _,fun x hx=>.inr ⟨g,0,rfl,fun i hi=>?_⟩⟩
  obtain ⟨cs,_,hc,hl⟩:=g3 i hi
  obtain ⟨v0,v1,rfl,he⟩:=hl.2 x fun k k1 k2 _=>hx k k1 k2
  have cl:∀ j y,[v0,v1][j]?=some y→x.cell? ⟨g,0 + i * 2 + j,none⟩=some y:=fun j y hj=>by
   rw [Nat.zero_add]
   exact (World.cell?_of_block (hx g g1 g2)).trans (hc j y hj)
  exact ⟨v0,v1,cl 0 _ rfl,cl 1 _ rfl,he⟩
theorem isSgC_lay {hs:List Nat} {B E:Nat} {w:World} {v0 v1:Value} {e:Sg} (h:LayH hs B E w fun x=>IsSg x (.agg #[v0,v1]) e):LayH hs B E w fun x=>IsSgC x [v0,v1] e:=h.imp fun _ hv=>⟨_,_,rfl,hv⟩
theorem sgRow_two {hs:List Nat} {B E b:Nat} {w:World} {T:TypeId} {v0 v1 u0 u1:Value} {e g:Sg} (hb:B≤b) (hb2:b < E) (hb3:b ∉ hs) (hc:Blk w b (.cells #[v0,v1,u0,u1] T (0,0)))
  (h:LayH hs B E w fun x=>IsSg x (.agg #[v0,v1]) e) (k:LayH hs B E w fun x=>IsSg x (.agg #[u0,u1]) g):LayH hs B E w fun x=>SgRow x (some ⟨b,0,none⟩) [e,g]:=by
 refine ⟨h.1,fun x hx=>.inr ⟨b,0,rfl,fun i hi=>?_⟩⟩
 have hi2:i=0∨i=1:=by simp at hi;omega
 have cl:∀ o,x.cell? ⟨b,o,none⟩=(#[v0,v1,u0,u1]:Array Value)[o]?:=fun o=>by
  have hc':x.heap[b]?=some (.cells #[v0,v1,u0,u1] T (0,0)):=(hx b hb hb2 hb3).trans hc
  simp [World.cell?,hc']
 rcases hi2 with rfl | rfl
 ·
  exact ⟨v0,v1,(cl _).trans rfl,(cl _).trans rfl,h.2 x hx⟩
 ·
  exact ⟨u0,u1,(cl _).trans rfl,(cl _).trans rfl,k.2 x hx⟩
def SgL (B:Nat) (w:World) (v:Value) (e:Sg):Prop:=Lay B w.heap.size w fun x=>IsSg x v e
def SgR (W:World) (rb:Nat) (a:Option Addr) (c:Nat) (l:List Tk) (x:Except Nat (List Sg × Nat)) (e:Ending) (W':World):Prop :=
 Bb W.heap.size rb W W'∧match x with
 | .error p=>e=stuckE p
 | .ok (es,j)=>∃ v y,es=[y]∧e=.returned v∧SgL W.heap.size W' v y∧Rd W' rb a c l j
def RuleS (fid:Nat) (rb:Nat) (a:Option Addr) (c:Nat) (l:List Tk) (f:Nat) (r:Rs):Prop :=
 ∀ (W:World) (i:Nat) (x:Except Nat (List Sg × Nat)),Rd W rb a c l i→pS l f r i=some x→Calls Tryz.prog fid #[.pointer (some ⟨rb,0,none⟩)] W fun e W'=>SgR W rb a c l x e W'
def AtR (W:World) (rb:Nat) (a:Option Addr) (c:Nat) (l:List Tk) (x:Except Nat (List Sg × Nat)) (e:Ending) (W':World):Prop :=
 Bb W.heap.size rb W W'∧match x with
 | .error p=>e=stuckE p
 | .ok (es,j)=>∃ v,e=.returned v∧SgsIs W.heap.size W'.heap.size W' v es∧Rd W' rb a c l j∧es.length≤100000
def RuleA (fid:Nat) (rb:Nat) (a:Option Addr) (c:Nat) (l:List Tk) (f:Nat):Prop :=
 ∀ (W:World) (i:Nat) (x:Except Nat (List Sg × Nat)),Rd W rb a c l i→pS l f .atoms i=some x→Calls Tryz.prog fid #[.pointer (some ⟨rb,0,none⟩)] W fun e W'=>AtR W rb a c l x e W'
theorem RuleS.zero {fid rb:Nat} {a:Option Addr} {c:Nat} {l:List Tk} {r:Rs}:RuleS fid rb a c l 0 r:=fun _ _ _ _ h=>(by cases h)
theorem RuleS.mono {fid rb:Nat} {a:Option Addr} {c:Nat} {l:List Tk} {f g:Nat} {r:Rs} (h:RuleS fid rb a c l f r) (hg:g≤f):RuleS fid rb a c l g r:=fun W i x hR hx=>h W i x hR (pS_mono hg _ _ _ hx)
theorem RuleS.later {fid rb:Nat} {a:Option Addr} {c:Nat} {l:List Tk} {f:Nat} {r:Rs} (h:RuleS fid rb a c l f r) {X:World} {i:Nat} {x:Except Nat (List Sg × Nat)} (hR:Rd X rb a c l i) (hx:pS l f r i=some x) :
  ∀ V,Below X.heap.size X V→Calls Tryz.prog fid #[.pointer (some ⟨rb,0,none⟩)] V fun e W'=>SgR X rb a c l x e W':=by
 intro V hV
 refine (h V i x (hR.below hV) hx).mono ?_
 rintro e W' ⟨hB,hm⟩
 refine ⟨(Bb.of hV).next hB,?_⟩
 cases x with
 | error p=>exact hm
 | ok q =>
  obtain ⟨v,y,h1,h2,h3,h4⟩:=hm
  exact ⟨v,y,h1,h2,h3.wide hV.size (Nat.le_refl _) (Nat.le_refl _),h4⟩
theorem pS_split {α:Type} {l:List Tk} {f:Nat} {r:Rs} {i:Nat} {k:List Sg→Nat→Ans6 α} {x:Except Nat (α × Nat)} (h:(pS l f r i).bnd k=some x):∃ x2,pS l f r i=some x2∧match x2 with
  | .error p=>x=.error p
  | .ok (es,j)=>k es j=some x:=by
 cases hq:pS l f r i with
 | none=>rw [hq] at h;cases h
 | some x2 =>
  rw [hq] at h
  refine ⟨x2,rfl,?_⟩
  cases x2 with
  | error p=>exact (Option.some.inj h).symm
  | ok q=>exact h
theorem SgR.fin1 {W X:World} {rb:Nat} {a:Option Addr} {c:Nat} {l:List Tk} {i j A:Nat} {y:Sg} {v0 v1:Value} {s:Str} {sa:Option Addr} {m sc:Nat}
  (h0:Rd W rb a c l i) (hp:PS W rb a c l j X) (bA:Box2 X 163 A v0 v1) (hA:W.heap.size≤A) (hl:LayH [A] W.heap.size X.heap.size X fun x=>IsSg x (.agg #[.string s,.slice sa m sc]) y) :
  Box2 (World.set2 X A (.string s) (.slice sa m sc)) 163 A (.string s) (.slice sa m sc) ∧
  SgR W rb a c l (.ok ([y],j)) (.returned (.agg #[.string s,.slice sa m sc])) (World.set2 X A (.string s) (.slice sa m sc)):=by
 have hs:=bA.set (.string s) (.slice sa m sc)
 have hps:=PS.own h0 hp hs.2 hA
 refine ⟨hs.1,hps.bb,_,_,rfl,rfl,?_,hps.rd⟩
 have:=(hl.own hs.2 (.inr (.inr (by simp)))).lay
 unfold SgL
 rw [hs.2.size]
 exact this
theorem Tryz.infoSg6:(Tryz.prog.info? 163).map (fun i=>(i.zero,i.size,i.bytes))=some (some (.agg #[.string ⟨#[]⟩,.slice none 0 0]),2,40):=by kernel_rfl
theorem Tryz.infoFm6:(Tryz.prog.info? 125).map (fun i=>(i.zero,i.size,i.bytes))=some (some (.agg #[.string ⟨#[]⟩,.slice none 0 0]),2,40):=by kernel_rfl
end Go.Proofs.YtinjocchommbdaaGreatDoor
namespace Go.Proofs.YtinjocchommbdaaGreatDoor
open Go.RowKit
section
variable {rb:Nat} {a:Option Addr} {c:Nat} {l:List Tk}
theorem sig_assoc {l:List Tk} {f i:Nat} {S:Str} {k:List Sg→Nat→Ans6 (List Sg)} {x:Except Nat (List Sg × Nat)} (h:(((pS l f .atoms i).bnd fun r j=>ok6 [.mk S r] j).bnd k)=some x):((pS l f .atoms i).bnd fun r j=>k [.mk S r] j)=some x:=by
 cases hq:pS l f .atoms i with
 | none=>rw [hq] at h;cases h
 | some x2 =>
  rw [hq] at h
  cases x2 with
  | error p=>exact h
  | ok q=>exact h
set_option maxHeartbeats 8000000 in
set_option maxRecDepth 100000 in
theorem par_sigatom {f:Nat} (hE:RuleS 205 rb a c l f .sig):RuleS 186 rb a c l (f + 1) .atom:=by
 intro W i x h hx
 simp only [pS,stepS] at hx
 obtain ⟨W1,hW1⟩:∃ V,W.alloc (.cells #[.string ⟨#[]⟩,.slice none 0 0] 163)=V:=⟨_,rfl⟩
 have hb1:Below W.heap.size W W1:=by rw [←hW1];exact (Below.refl _ _).alloc (Nat.le_refl _) _
 have bA1:Hid (Box2 W1 163 W.heap.size (.string ⟨#[]⟩) (.slice none 0 0)):=by rw [←hW1];exact blk_new (Below.refl _ _)
 have zz1:Hid (W1.heap.size=W.heap.size + 1):=by rw [←hW1];simp [Hid]
 have hp1:=Lib.hid ((PS.refl h).below hb1)
 have hrb:=h.lt
 have h':=Lib.hid h
 have hW1':=Lib.hid hW1
 have hx0:=Lib.hid hx
 have hfl:=Tryz.fldText
 have hfn:=Tryz.fldNum
 clear hW1 hb1 h hx
 have hkd:=Lib.hid (par_kind hp1.out.rd)
 by_cases k2:kindAt l i=2
 case pos =>
  have hx9:=hx0.out
  rw [if_pos (.inl k2)] at hx9
  have hxx:Hid (x=.ok ([.mk (textAt l i) []],i + 1)):=(Option.some.inj hx9).symm
  rw [k2] at hkd
  have hi:=kindAt_lt k2 (by decide)
  clear hx9 k2
  go_enter Tryz.func186,Tryz.ntmps186
  go_upto_region 1 with (fail)
  rw [hW1'.out]
  go_wp2_with fail
  refine hkd.out.mono ?_
  rintro e V ⟨rfl,n,rfl⟩
  obtain ⟨D2,hD2⟩:∃ V,W1.drewN n=V:=⟨_,rfl⟩
  have hbD2:Below W1.heap.size W1 D2:=by rw [←hD2];exact below_drewN' (Below.refl _ _) _
  rw [hD2]
  have zD2:=Lib.hid hbD2.size
  have hpD2:=Lib.hid (hp1.out.below hbD2)
  have bAD2:=Lib.hid (bA1.out.below hbD2)
  clear hp1 bA1 hD2 hbD2
  have hnx:=Lib.hid (par_next hpD2.out.rd hi)
  unfold tkV at hnx
  go_wp2_with fail
  refine hnx.out.mono ?_
  rintro e U ⟨rfl,hB,hR⟩
  have zU:=Lib.hid hB.size
  have hpU:=Lib.hid (hpD2.out.call hB hR)
  have bAU:=Lib.hid (bAD2.out.bb hB (by have:=hrb;have:=zz1.out;have:=zD2.out;omega))
  clear hB hR hpD2 bAD2
  have hSz:=fit_text h'.out.fit i
  rw [show tS (tkAt l i).text=textAt l i from rfl]
  generalize textAt l i=S at *
  have hl:LayH [W.heap.size] W.heap.size U.heap.size U fun x=>IsSg x (.agg #[.string S,.slice none 0 0]) (.mk S []):=LayH.sig (l:=[]) hSz (by decide) ⟨Nat.le_refl _,fun _ _=>.inl rfl⟩
  have hf:=Lib.hid (SgR.fin1 h'.out hpU.out (show Box2 U 163 W.heap.size (.string ⟨#[]⟩) (.slice none 0 0) from bAU.out) (Nat.le_refl _) hl)
  obtain ⟨⟨m30,m31⟩,m3f⟩:=(show Box2 U 163 W.heap.size (.string ⟨#[]⟩) (.slice none 0 0) from bAU.out).cells
  have m3l:W.heap.size < U.heap.size:=blk_lt (show Box2 U 163 W.heap.size (.string ⟨#[]⟩) (.slice none 0 0) from bAU.out)
  clear hl
  go_wp2_with fail
  refine set2_fold ?_
  refine bodyPost_ret (results_sg rfl _ _ rfl hf.out.1.cells.1) rfl ?_
  rw [hxx.out]
  exact hf.out.2
 have n2:(kindAt l i == 2)=false:=by simpa using k2
 by_cases k3:kindAt l i=3
 case pos =>
  have hx9:=hx0.out
  rw [if_pos (.inr k3)] at hx9
  have hxx:Hid (x=.ok ([.mk (textAt l i) []],i + 1)):=(Option.some.inj hx9).symm
  rw [k3] at hkd
  have hi:=kindAt_lt k3 (by decide)
  clear hx9 k2 k3 n2
  go_enter Tryz.func186,Tryz.ntmps186
  go_upto_region 1 with (fail)
  rw [hW1'.out]
  go_wp2_with fail
  refine hkd.out.mono ?_
  rintro e V ⟨rfl,n,rfl⟩
  obtain ⟨D4,hD4⟩:∃ V,W1.drewN n=V:=⟨_,rfl⟩
  have hbD4:Below W1.heap.size W1 D4:=by rw [←hD4];exact below_drewN' (Below.refl _ _) _
  rw [hD4]
  have zD4:=Lib.hid hbD4.size
  have hpD4:=Lib.hid (hp1.out.below hbD4)
  have bAD4:=Lib.hid (bA1.out.below hbD4)
  clear hp1 bA1 hD4 hbD4
  have hnx:=Lib.hid (par_next hpD4.out.rd hi)
  unfold tkV at hnx
  go_wp2_with fail
  refine hnx.out.mono ?_
  rintro e U ⟨rfl,hB,hR⟩
  have zU:=Lib.hid hB.size
  have hpU:=Lib.hid (hpD4.out.call hB hR)
  have bAU:=Lib.hid (bAD4.out.bb hB (by have:=hrb;have:=zz1.out;have:=zD4.out;omega))
  clear hB hR hpD4 bAD4
  have hSz:=fit_text h'.out.fit i
  rw [show tS (tkAt l i).text=textAt l i from rfl]
  generalize textAt l i=S at *
  have hl:LayH [W.heap.size] W.heap.size U.heap.size U fun x=>IsSg x (.agg #[.string S,.slice none 0 0]) (.mk S []):=LayH.sig (l:=[]) hSz (by decide) ⟨Nat.le_refl _,fun _ _=>.inl rfl⟩
  have hf:=Lib.hid (SgR.fin1 h'.out hpU.out (show Box2 U 163 W.heap.size (.string ⟨#[]⟩) (.slice none 0 0) from bAU.out) (Nat.le_refl _) hl)
  obtain ⟨⟨m50,m51⟩,m5f⟩:=(show Box2 U 163 W.heap.size (.string ⟨#[]⟩) (.slice none 0 0) from bAU.out).cells
  have m5l:W.heap.size < U.heap.size:=blk_lt (show Box2 U 163 W.heap.size (.string ⟨#[]⟩) (.slice none 0 0) from bAU.out)
  clear hl
  go_wp2_with fail
  refine set2_fold ?_
  refine bodyPost_ret (results_sg rfl _ _ rfl hf.out.1.cells.1) rfl ?_
  rw [hxx.out]
  exact hf.out.2
 have n3:(kindAt l i == 3)=false:=by simpa using k3
 have hx9:=hx0.out
 rw [if_neg (fun q=>q.elim k2 k3)] at hx9
 have hx8:=Lib.hid hx9
 generalize kindAt l i=kd at *
 clear hx9 hx0 k2 k3
 go_enter Tryz.func186,Tryz.ntmps186
 go_upto_region 1 with (fail)
 rw [hW1'.out]
 go_wp2_with fail
 refine hkd.out.mono ?_
 rintro e V ⟨rfl,n,rfl⟩
 obtain ⟨D6,hD6⟩:∃ V,W1.drewN n=V:=⟨_,rfl⟩
 have hbD6:Below W1.heap.size W1 D6:=by rw [←hD6];exact below_drewN' (Below.refl _ _) _
 rw [hD6]
 have zD6:=Lib.hid hbD6.size
 have hpD6:=Lib.hid (hp1.out.below hbD6)
 have bAD6:=Lib.hid (bA1.out.below hbD6)
 clear hp1 bA1 hD6 hbD6
 have sg7:Hid (Calls Tryz.prog 64 #[.pointer (some ⟨rb,0,none⟩),.string ⟨#[40]⟩] D6 fun e W'=>Bb D6.heap.size rb D6 W'∧if isAt l (i) [40]=true then e=.returned (.tuple #[])∧Rd W' rb a c l ((i) + 1) else e=stuckE (i)):=par_sign hpD6.out.rd [40]
 go_wp2_with fail
 refine sg7.out.mono ?_
 rintro e V8 ⟨hB,hm⟩
 by_cases ks:isAt l (i) [40]=true
 case neg =>
  rw [if_neg ks] at hm
  obtain rfl:=hm
  have hxx:=sgn6_err hx8.out ks
  subst hxx
  exact ⟨rfl,hpD6.out.bb.next hB,rfl⟩
 rw [if_pos ks] at hm
 obtain ⟨rfl,hR⟩:=hm
 have hx9:=Lib.hid (sgn6_ok hx8.out ks)
 try dsimp only at hx9
 have zV8:=Lib.hid hB.size
 have hpV8:=Lib.hid (hpD6.out.call hB hR)
 have bAV8:=Lib.hid (bAD6.out.bb hB (by have:=hrb;have:=zz1.out;have:=zD6.out;omega))
 clear ks hB hR hx8 sg7
 clear hpD6 bAD6
 obtain ⟨q10,hq10,kq10⟩:=pS_split hx9.out
 have cq10:=Lib.hid (hE V8 (i + 1) q10 hpV8.out.rd hq10)
 have kq10:=Lib.hid kq10
 clear hq10 hx9
 go_wp2_with fail
 refine cq10.out.mono ?_
 rintro e V11 ⟨hB,hm⟩
 rcases q10 with p | ⟨es,jq10⟩
 case error =>
  obtain rfl:=hm
  have hxx:=kq10.out
  dsimp only at hxx
  subst hxx
  exact And.intro rfl (And.intro (hpV8.out.bb.next hB) rfl)
 obtain ⟨v,yq10,rfl,rfl,hL,hR⟩:=hm
 obtain ⟨sq10,aq10,mq10,cq10,rfl⟩:=hL.out.agg
 have zV11:=Lib.hid hB.size
 have tq10:Hid (Lay V8.heap.size V11.heap.size V11 fun x=>IsSg x (.agg #[.string sq10,.slice aq10 mq10 cq10]) yq10):=hL
 have hpV11:=Lib.hid (hpV8.out.call hB hR)
 have bAV11:=Lib.hid (bAV8.out.bb hB (by have:=hrb;have:=zz1.out;have:=zD6.out;have:=zV8.out;omega))
 have kxq10:=Lib.hid kq10.out
 try dsimp only at kxq10
 clear hB hR hL kq10
 clear hpV8 bAV8
 obtain ⟨W12,hW12⟩:∃ V,V11.alloc (.cells #[.string sq10,.slice aq10 mq10 cq10] 163)=V:=⟨_,rfl⟩
 have hbW12:Below V11.heap.size V11 W12:=by rw [←hW12];exact (Below.refl _ _).alloc (Nat.le_refl _) _
 have zW12:Hid (W12.heap.size=V11.heap.size + 1):=by rw [←hW12];simp [Hid]
 have bW12:Hid (Blk W12 V11.heap.size (.cells #[.string sq10,.slice aq10 mq10 cq10] 163 (0,0))):=by rw [←hW12];exact Blk.new
 have hpW12:=Lib.hid (hpV11.out.below hbW12)
 have bAW12:=Lib.hid (bAV11.out.below hbW12)
 have tq10W12:=Lib.hid (tq10.out.below hbW12)
 have hW12':=Lib.hid hW12
 clear hW12 hbW12 hpV11 bAV11 tq10
 have sg13:Hid (Calls Tryz.prog 64 #[.pointer (some ⟨rb,0,none⟩),.string ⟨#[41]⟩] W12 fun e W'=>Bb W12.heap.size rb W12 W'∧if isAt l (jq10) [41]=true then e=.returned (.tuple #[])∧Rd W' rb a c l ((jq10) + 1) else e=stuckE (jq10)):=par_sign hpW12.out.rd [41]
 go_upto_region 6 with (fail)
 rw [hW12'.out]
 go_wp2_with fail
 refine sg13.out.mono ?_
 rintro e V14 ⟨hB,hm⟩
 by_cases ks:isAt l (jq10) [41]=true
 case neg =>
  rw [if_neg ks] at hm
  obtain rfl:=hm
  have hxx:=sgn6_err kxq10.out ks
  subst hxx
  exact ⟨rfl,hpW12.out.bb.next hB,rfl⟩
 rw [if_pos ks] at hm
 obtain ⟨rfl,hR⟩:=hm
 have hx15:=Lib.hid (sgn6_ok kxq10.out ks)
 try dsimp only at hx15
 have zV14:=Lib.hid hB.size
 have hpV14:=Lib.hid (hpW12.out.call hB hR)
 have bAV14:=Lib.hid (bAW12.out.bb hB (by have:=hrb;have:=zz1.out;have:=zD6.out;have:=zV8.out;have:=zV11.out;have:=zW12.out;omega))
 have tq10V14:=Lib.hid (tq10W12.out.bb hB (by have:=hrb;have:=zz1.out;have:=zD6.out;have:=zV8.out;have:=zV11.out;have:=zW12.out;omega))
 have bUV14:=Lib.hid (bW12.out.bb hB (by have:=hrb;have:=zz1.out;have:=zD6.out;have:=zV8.out;have:=zV11.out;have:=zW12.out;omega))
 clear ks hB hR kxq10 sg13
 clear hpW12 bAW12 tq10W12 bW12
 have hxx:Hid (x=_):=(Option.some.inj hx15.out).symm
 have hl:LayH [W.heap.size] W.heap.size V14.heap.size V14 fun x=>IsSg x (.agg #[.string sq10,.slice aq10 mq10 cq10]) yq10:=LayH.of_lay tq10V14.out (by have:=hrb;have:=zz1.out;have:=zD6.out;have:=zV8.out;have:=zV11.out;have:=zW12.out;have:=zV14.out;omega) (by have:=hrb;have:=zz1.out;have:=zD6.out;have:=zV8.out;have:=zV11.out;have:=zW12.out;have:=zV14.out;omega) (Nat.le_refl _) (fun q hq=>by simp only [List.mem_cons,List.not_mem_nil,or_false] at hq;subst hq;have:=hrb;have:=zz1.out;have:=zD6.out;have:=zV8.out;have:=zV11.out;have:=zW12.out;have:=zV14.out;omega)
 have hf:=Lib.hid (SgR.fin1 h'.out hpV14.out (show Box2 V14 163 W.heap.size (.string ⟨#[]⟩) (.slice none 0 0) from bAV14.out) (Nat.le_refl _) hl)
 obtain ⟨⟨m160,m161⟩,m16f⟩:=(show Box2 V14 163 W.heap.size (.string ⟨#[]⟩) (.slice none 0 0) from bAV14.out).cells
 have m16l:W.heap.size < V14.heap.size:=blk_lt (show Box2 V14 163 W.heap.size (.string ⟨#[]⟩) (.slice none 0 0) from bAV14.out)
 obtain ⟨⟨m170,m171⟩,m17f⟩:=(show Box2 V14 163 V11.heap.size (.string sq10) (.slice aq10 mq10 cq10) from bUV14.out).cells
 have m17l:V11.heap.size < V14.heap.size:=blk_lt (show Box2 V14 163 V11.heap.size (.string sq10) (.slice aq10 mq10 cq10) from bUV14.out)
 clear hl
 go_wp2_with fail
 refine set2_fold ?_
 refine bodyPost_ret (results_sg rfl _ _ rfl hf.out.1.cells.1) rfl ?_
 rw [hxx.out]
 exact hf.out.2
set_option maxHeartbeats 8000000 in
set_option maxRecDepth 100000 in
theorem par_sig {f:Nat} (hE:RuleS 205 rb a c l f .sig) (hA:RuleS 186 rb a c l f .atom) (hN:RuleA 148 rb a c l f):RuleS 205 rb a c l (f + 1) .sig:=by
 intro W i x h hx
 simp only [pS,stepS] at hx
 obtain ⟨W1,hW1⟩:∃ V,W.alloc (.cells #[.string ⟨#[]⟩,.slice none 0 0] 163)=V:=⟨_,rfl⟩
 have hb1:Below W.heap.size W W1:=by rw [←hW1];exact (Below.refl _ _).alloc (Nat.le_refl _) _
 have bA1:Hid (Box2 W1 163 W.heap.size (.string ⟨#[]⟩) (.slice none 0 0)):=by rw [←hW1];exact blk_new (Below.refl _ _)
 have zz1:Hid (W1.heap.size=W.heap.size + 1):=by rw [←hW1];simp [Hid]
 have hp1:=Lib.hid ((PS.refl h).below hb1)
 have hrb:=h.lt
 have h':=Lib.hid h
 have hW1':=Lib.hid hW1
 have hx0:=Lib.hid hx
 have hfl:=Tryz.fldText
 have hfn:=Tryz.fldNum
 clear hW1 hb1 h hx
 have hkd:=Lib.hid (par_kind hp1.out.rd)
 by_cases k3:kindAt l i=3
 case pos =>
  have hx9:=hx0.out
  rw [if_pos k3] at hx9
  rw [k3] at hkd
  have hi:=kindAt_lt k3 (by decide)
  obtain ⟨x2,hx2,kx2⟩:=pS_split (sig_assoc hx9)
  have hx2':=Lib.hid hx2
  have kx2':=Lib.hid kx2
  clear hx9 hx0 k3 hx2 kx2
  go_enter Tryz.func205,Tryz.ntmps205
  go_upto_region 1 with (fail)
  rw [hW1'.out]
  go_wp2_with fail
  refine hkd.out.mono ?_
  rintro e V ⟨rfl,n,rfl⟩
  obtain ⟨D2,hD2⟩:∃ V,W1.drewN n=V:=⟨_,rfl⟩
  have hbD2:Below W1.heap.size W1 D2:=by rw [←hD2];exact below_drewN' (Below.refl _ _) _
  rw [hD2]
  have zD2:=Lib.hid hbD2.size
  have hpD2:=Lib.hid (hp1.out.below hbD2)
  have bAD2:=Lib.hid (bA1.out.below hbD2)
  clear hp1 bA1 hD2 hbD2
  have hnx:=Lib.hid (par_next hpD2.out.rd hi)
  unfold tkV at hnx
  go_wp2_with fail
  refine hnx.out.mono ?_
  rintro e U ⟨rfl,hB,hR⟩
  have zU:=Lib.hid hB.size
  have hpU:=Lib.hid (hpD2.out.call hB hR)
  have bAU:=Lib.hid (bAD2.out.bb hB (by have:=hrb;have:=zz1.out;have:=zD2.out;omega))
  clear hB hR hnx hpD2 bAD2
  have hSz:=Lib.hid (fit_text h'.out.fit i)
  rw [show tS (tkAt l i).text=textAt l i from rfl]
  obtain ⟨S,hS⟩:∃ S,textAt l i=S:=⟨_,rfl⟩
  rw [hS] at hSz kx2' ⊢
  clear hS
  obtain ⟨⟨m30,m31⟩,m3f⟩:=(show Box2 U 163 W.heap.size (.string ⟨#[]⟩) (.slice none 0 0) from bAU.out).cells
  have m3l:W.heap.size < U.heap.size:=blk_lt (show Box2 U 163 W.heap.size (.string ⟨#[]⟩) (.slice none 0 0) from bAU.out)
  go_upto_region 3 with (fail)
  obtain ⟨M4,hM4⟩:∃ V,U.setCell ⟨W.heap.size,0,none⟩ (.string S)=V:=⟨_,rfl⟩
  rw [hM4]
  clear m30 m31 m3f m3l
  have hsM4:=(show Box2 U 163 W.heap.size (.string ⟨#[]⟩) (.slice none 0 0) from bAU.out).at0 (.string S)
  rw [hM4] at hsM4
  have zM4:=Lib.hid hsM4.2.size
  have hpM4:Hid (PS W rb a c l (i + 1) M4):=PS.own h'.out hpU.out hsM4.2 (by have:=hrb;have:=zz1.out;have:=zD2.out;have:=zU.out;omega)
  have bAM4:Hid (Box2 M4 163 W.heap.size (.string S) (.slice none 0 0)):=hsM4.1
  clear hM4 hsM4 bAU hpU
  have cN:=Lib.hid (hN M4 (i + 1) x2 hpM4.out.rd hx2'.out)
  go_wp2_with fail
  refine cN.out.mono ?_
  rintro e Y ⟨hB,hm⟩
  rcases x2 with p | ⟨es,j⟩
  case error =>
   obtain rfl:=hm
   have hxx:=kx2'.out
   dsimp only at hxx
   subst hxx
   exact ⟨rfl,hpM4.out.bb.next hB,rfl⟩
  obtain ⟨v,rfl,⟨ea,ec,rfl,hcap,hL⟩,hR,hln⟩:=hm
  have zY:=Lib.hid hB.size
  have tR:Hid (Lay M4.heap.size Y.heap.size Y fun x=>SgRow x ea es):=hL
  have hln2:Hid (es.length≤lenMax):=by unfold lenMax Hid;omega
  have hpY:=Lib.hid (hpM4.out.call hB hR)
  have bAY:=Lib.hid (bAM4.out.bb hB (by have:=hrb;have:=zz1.out;have:=zD2.out;have:=zU.out;have:=zM4.out;omega))
  have tS6:Hid (Lay M4.heap.size Y.heap.size Y fun x=>IsSg x (.agg #[.string S,.slice ea es.length ec]) (.mk S es)):=⟨tR.out.1,fun x hx=>by simp only [IsSg];exact ⟨ea,ec,rfl,hSz.out,hln2.out,sgFrom_row (tR.out.2 x hx)⟩⟩
  have hx7:=Lib.hid kx2'.out
  try dsimp only at hx7
  clear hB hR hL hcap hln cN kx2' hpM4 bAM4
  obtain ⟨⟨m50,m51⟩,m5f⟩:=(show Box2 Y 163 W.heap.size (.string S) (.slice none 0 0) from bAY.out).cells
  have m5l:W.heap.size < Y.heap.size:=blk_lt (show Box2 Y 163 W.heap.size (.string S) (.slice none 0 0) from bAY.out)
  go_upto_region 5 with (fail)
  obtain ⟨M6,hM6⟩:∃ V,Y.setCell ⟨W.heap.size,1,none⟩ (.slice ea es.length ec)=V:=⟨_,rfl⟩
  rw [hM6]
  clear m50 m51 m5f m5l
  have hsM6:=(show Box2 Y 163 W.heap.size (.string S) (.slice none 0 0) from bAY.out).at1 (.slice ea es.length ec)
  rw [hM6] at hsM6
  have zM6:=Lib.hid hsM6.2.size
  have hpM6:Hid (PS W rb a c l (j) M6):=PS.own h'.out hpY.out hsM6.2 (by have:=hrb;have:=zz1.out;have:=zD2.out;have:=zU.out;have:=zM4.out;have:=zY.out;omega)
  have tSM6:=Lib.hid (tS6.out.own hsM6.2 (by have:=hrb;have:=zz1.out;have:=zD2.out;have:=zU.out;have:=zM4.out;have:=zY.out;omega))
  have bAM6:Hid (Box2 M6 163 W.heap.size (.string S) (.slice ea es.length ec)):=hsM6.1
  clear hM6 hsM6 bAY hpY tS6
  obtain ⟨W7,hW7⟩:∃ V,M6.alloc (.cells #[.string ⟨#[45,62]⟩] 9)=V:=⟨_,rfl⟩
  have hbW7:Below M6.heap.size M6 W7:=by rw [←hW7];exact (Below.refl _ _).alloc (Nat.le_refl _) _
  have zW7:Hid (W7.heap.size=M6.heap.size + 1):=by rw [←hW7];simp [Hid]
  have bW7:Hid (Blk W7 M6.heap.size (.cells #[.string ⟨#[45,62]⟩] 9 (0,0))):=by rw [←hW7];exact Blk.new
  have hpW7:=Lib.hid (hpM6.out.below hbW7)
  have tSW7:=Lib.hid (tSM6.out.below hbW7)
  have bAW7:=Lib.hid (bAM6.out.below hbW7)
  have hW7':=Lib.hid hW7
  clear hW7 hbW7 hpM6 tSM6 bAM6
  have hany:Hid (Calls Tryz.prog 62 #[.pointer (some ⟨rb,0,none⟩),.slice (some ⟨M6.heap.size,0,none⟩) 1 1] W7 fun e W'=>e=.returned (.tuple #[.string (oS (anyAt l (j) [[45,62]])),.bool (anyAt l (j) [[45,62]]).isSome])∧Bb W7.heap.size rb W7 W'∧Rd W' rb a c l (j + oN (anyAt l (j) [[45,62]]))):=any_call (ss:=[[45,62]]) hpW7.out.rd ⟨blk_lt (show Blk W7 M6.heap.size (.cells #[.string ⟨#[45,62]⟩] 9 (0,0)) from bW7.out),fun j hj=>by
   obtain rfl:j=0:=by simp at hj;omega
   rw [←hW7'.out]
   exact (new_cell _ _ _ _).trans rfl⟩ (by decide)
  go_wp2_with fail
  rw [hW7'.out]
  by_cases ko:isAt l (j) [45,62]=true
  case neg =>
   have hx9:=hx7.out
   rw [if_neg ko] at hx9
   have hxx:Hid (x=_):=(Option.some.inj hx9).symm
   have ho:anyAt l (j) [[45,62]]=none:=by simp only [anyAt,List.find?_cons,List.find?_nil];simp [ko]
   rw [ho] at hany
   simp only [oS,oN,Option.isSome_none,Nat.add_zero] at hany
   clear hx9 ho ko
   refine hany.out.mono ?_
   rintro e V8 ⟨rfl,hB,hR⟩
   have zV8:=Lib.hid hB.size
   have hpV8:=Lib.hid (hpW7.out.call hB hR)
   have tSV8:=Lib.hid (tSW7.out.bb hB (by have:=hrb;have:=zz1.out;have:=zD2.out;have:=zU.out;have:=zM4.out;have:=zY.out;have:=zM6.out;have:=zW7.out;omega))
   have bAV8:=Lib.hid (bAW7.out.bb hB (by have:=hrb;have:=zz1.out;have:=zD2.out;have:=zU.out;have:=zM4.out;have:=zY.out;have:=zM6.out;have:=zW7.out;omega))
   have rOV8:=Lib.hid (bW7.out.bb hB (by have:=hrb;have:=zz1.out;have:=zD2.out;have:=zU.out;have:=zM4.out;have:=zY.out;have:=zM6.out;have:=zW7.out;omega))
   clear hB hR hany hpW7 tSW7 bAW7 bW7
   have hl:LayH [W.heap.size] W.heap.size V8.heap.size V8 fun x=>IsSg x (.agg #[.string S,.slice ea es.length ec]) (.mk S es):=LayH.of_lay tSV8.out (by have:=hrb;have:=zz1.out;have:=zD2.out;have:=zU.out;have:=zM4.out;have:=zY.out;have:=zM6.out;have:=zW7.out;have:=zV8.out;omega) (by have:=hrb;have:=zz1.out;have:=zD2.out;have:=zU.out;have:=zM4.out;have:=zY.out;have:=zM6.out;have:=zW7.out;have:=zV8.out;omega) (Nat.le_refl _) (fun q hq=>by simp only [List.mem_cons,List.not_mem_nil,or_false] at hq;subst hq;have:=hrb;have:=zz1.out;have:=zD2.out;have:=zU.out;have:=zM4.out;have:=zY.out;have:=zM6.out;have:=zW7.out;have:=zV8.out;omega)
   have hf:=Lib.hid (SgR.fin1 h'.out hpV8.out (show Box2 V8 163 W.heap.size (.string S) (.slice ea es.length ec) from bAV8.out) (Nat.le_refl _) hl)
   obtain ⟨⟨m90,m91⟩,m9f⟩:=(show Box2 V8 163 W.heap.size (.string S) (.slice ea es.length ec) from bAV8.out).cells
   have m9l:W.heap.size < V8.heap.size:=blk_lt (show Box2 V8 163 W.heap.size (.string S) (.slice ea es.length ec) from bAV8.out)
   clear hl
   go_wp2_with fail
   refine set2_fold ?_
   refine bodyPost_ret (results_sg rfl _ _ rfl hf.out.1.cells.1) rfl ?_
   rw [hxx.out]
   exact hf.out.2
  have hx9:=hx7.out
  rw [if_pos ko] at hx9
  have hx6:=Lib.hid hx9
  have ho:anyAt l (j) [[45,62]]=some [45,62]:=by simp only [anyAt,List.find?_cons];rw [ko]
  rw [ho] at hany
  simp only [oS,oN,Option.isSome_some] at hany
  clear hx9 ho ko
  refine hany.out.mono ?_
  rintro e V8 ⟨rfl,hB,hR⟩
  have zV8:=Lib.hid hB.size
  have hpV8:=Lib.hid (hpW7.out.call hB hR)
  have tSV8:=Lib.hid (tSW7.out.bb hB (by have:=hrb;have:=zz1.out;have:=zD2.out;have:=zU.out;have:=zM4.out;have:=zY.out;have:=zM6.out;have:=zW7.out;omega))
  have bAV8:=Lib.hid (bAW7.out.bb hB (by have:=hrb;have:=zz1.out;have:=zD2.out;have:=zU.out;have:=zM4.out;have:=zY.out;have:=zM6.out;have:=zW7.out;omega))
  have rOV8:=Lib.hid (bW7.out.bb hB (by have:=hrb;have:=zz1.out;have:=zD2.out;have:=zU.out;have:=zM4.out;have:=zY.out;have:=zM6.out;have:=zW7.out;omega))
  clear hB hR hany hpW7 tSW7 bAW7 bW7
  obtain ⟨q10,hq10,kq10⟩:=pS_split hx6.out
  have cq10:=Lib.hid (RuleS.later hE hpV8.out.rd hq10)
  have kq10:=Lib.hid kq10
  clear hq10 hx6
  obtain ⟨⟨m110,m111⟩,m11f⟩:=(show Box2 V8 163 W.heap.size (.string S) (.slice ea es.length ec) from bAV8.out).cells
  have m11l:W.heap.size < V8.heap.size:=blk_lt (show Box2 V8 163 W.heap.size (.string S) (.slice ea es.length ec) from bAV8.out)
  go_wp2_with fail
  go_region_with (first | (
    go_at_call 205
    refine (cq10.out _ (Below.refl _ _).drew).mono ?_
    rintro e V12 ⟨hB,hm⟩
    rcases q10 with p | ⟨es,jq10⟩
    case error =>
     obtain rfl:=hm
     have hxx:=kq10.out
     dsimp only at hxx
     subst hxx
     exact And.intro rfl (And.intro (hpV8.out.bb.next hB) rfl)
    obtain ⟨v,yq10,rfl,rfl,hL,hR⟩:=hm
    obtain ⟨sq10,aq10,mq10,cq10,rfl⟩:=hL.out.agg
    have zV12:=Lib.hid hB.size
    have tq10:Hid (Lay V8.heap.size V12.heap.size V12 fun x=>IsSg x (.agg #[.string sq10,.slice aq10 mq10 cq10]) yq10):=hL
    have hpV12:=Lib.hid (hpV8.out.call hB hR)
    have tSV12:=Lib.hid (tSV8.out.bb hB (by have:=hrb;have:=zz1.out;have:=zD2.out;have:=zU.out;have:=zM4.out;have:=zY.out;have:=zM6.out;have:=zW7.out;have:=zV8.out;omega))
    have bAV12:=Lib.hid (bAV8.out.bb hB (by have:=hrb;have:=zz1.out;have:=zD2.out;have:=zU.out;have:=zM4.out;have:=zY.out;have:=zM6.out;have:=zW7.out;have:=zV8.out;omega))
    have kxq10:=Lib.hid kq10.out
    try dsimp only at kxq10
    clear hB hR hL kq10
    clear hpV8 tSV8 bAV8
    clear m110 m111 m11f m11l
    obtain ⟨⟨m130,m131⟩,m13f⟩:=(show Box2 V12 163 W.heap.size (.string S) (.slice ea es.length ec) from bAV12.out).cells
    have m13l:W.heap.size < V12.heap.size:=blk_lt (show Box2 V12 163 W.heap.size (.string S) (.slice ea es.length ec) from bAV12.out)))
  all_goals
   obtain ⟨X,hX⟩:∃ X,V12.alloc (.cells #[.string S,.slice ea es.length ec,.string sq10,.slice aq10 mq10 cq10] 163)=X:=⟨_,rfl⟩
   have hbX:Below V12.heap.size V12 X:=by rw [←hX];exact (Below.refl _ _).alloc (Nat.le_refl _) _
   have zX:Hid (X.heap.size=V12.heap.size + 1):=by rw [←hX];simp [Hid]
   have bR:Hid (Blk X V12.heap.size (.cells #[.string S,.slice ea es.length ec,.string sq10,.slice aq10 mq10 cq10] 163 (0,0))):=by rw [←hX];exact Blk.new
   have hltA:=Lib.hid m13l
   have hpX:=Lib.hid (hpV12.out.below hbX)
   have tSX:=Lib.hid (tSV12.out.below hbX)
   have bAX:=Lib.hid (bAV12.out.below hbX)
   have tq10X:=Lib.hid (tq10.out.below hbX)
   have g0:=LayH.of_lay (hs:=[W.heap.size]) (B':=W.heap.size) (E':=X.heap.size) tSX.out (by have:=hrb;have:=zz1.out;have:=zD2.out;have:=zU.out;have:=zM4.out;have:=zY.out;have:=zM6.out;have:=zW7.out;have:=zV8.out;have:=zV12.out;have:=zX.out;omega) (by have:=hrb;have:=zz1.out;have:=zD2.out;have:=zU.out;have:=zM4.out;have:=zY.out;have:=zM6.out;have:=zW7.out;have:=zV8.out;have:=zV12.out;have:=zX.out;omega) (Nat.le_refl _) (fun q hq=>by simp only [List.mem_cons,List.not_mem_nil,or_false] at hq;subst hq;have:=hrb;have:=zz1.out;have:=zD2.out;have:=zU.out;have:=zM4.out;have:=zY.out;have:=zM6.out;have:=zW7.out;have:=zV8.out;have:=zV12.out;have:=zX.out;omega)
   have g1:=LayH.of_lay (hs:=[W.heap.size]) (B':=W.heap.size) (E':=X.heap.size) tq10X.out (by have:=hrb;have:=zz1.out;have:=zD2.out;have:=zU.out;have:=zM4.out;have:=zY.out;have:=zM6.out;have:=zW7.out;have:=zV8.out;have:=zV12.out;have:=zX.out;omega) (by have:=hrb;have:=zz1.out;have:=zD2.out;have:=zU.out;have:=zM4.out;have:=zY.out;have:=zM6.out;have:=zW7.out;have:=zV8.out;have:=zV12.out;have:=zX.out;omega) (Nat.le_refl _) (fun q hq=>by simp only [List.mem_cons,List.not_mem_nil,or_false] at hq;subst hq;have:=hrb;have:=zz1.out;have:=zD2.out;have:=zU.out;have:=zM4.out;have:=zY.out;have:=zM6.out;have:=zW7.out;have:=zV8.out;have:=zV12.out;have:=zX.out;omega)
   have hl:LayH [W.heap.size] W.heap.size X.heap.size X fun x=>IsSg x (.agg #[.string ⟨#[45,62]⟩,.slice (some ⟨V12.heap.size,0,none⟩) 2 2]) (.mk ⟨#[45,62]⟩ [(.mk S es),yq10]):=LayH.sig (l:=[(.mk S es),yq10]) (by decide) (by simp [lenMax]) (sgRow_two (b:=V12.heap.size) (by have:=hrb;have:=zz1.out;have:=zD2.out;have:=zU.out;have:=zM4.out;have:=zY.out;have:=zM6.out;have:=zW7.out;have:=zV8.out;have:=zV12.out;have:=zX.out;omega) (by have:=hrb;have:=zz1.out;have:=zD2.out;have:=zU.out;have:=zM4.out;have:=zY.out;have:=zM6.out;have:=zW7.out;have:=zV8.out;have:=zV12.out;have:=zX.out;omega) (by simp only [List.mem_cons,List.not_mem_nil,or_false];intro q;revert q;have:=hrb;have:=zz1.out;have:=zD2.out;have:=zU.out;have:=zM4.out;have:=zY.out;have:=zM6.out;have:=zW7.out;have:=zV8.out;have:=zV12.out;have:=zX.out;omega) bR.out g0 g1)
   have hf0:=SgR.fin1 h'.out hpX.out (show Box2 X 163 W.heap.size (.string S) (.slice ea es.length ec) from bAX.out) (Nat.le_refl _) hl
   obtain ⟨Z,hZ,hf⟩:∃ Z,Z=((V12.setCell ⟨W.heap.size,0,none⟩ (.string ⟨#[45,62]⟩)).setCell ⟨W.heap.size,1,none⟩ (.slice (some ⟨V12.heap.size,0,none⟩) 2 2)).alloc (.cells #[.string S,.slice ea es.length ec,.string sq10,.slice aq10 mq10 cq10] 163)∧Hid (Box2 Z 163 W.heap.size (.string ⟨#[45,62]⟩) (.slice (some ⟨V12.heap.size,0,none⟩) 2 2)∧SgR W rb a c l (.ok ([.mk ⟨#[45,62]⟩ [(.mk S es),yq10]],jq10)) (.returned (.agg #[.string ⟨#[45,62]⟩,.slice (some ⟨V12.heap.size,0,none⟩) 2 2])) Z):=⟨_,by rw [←hX];exact (set2_alloc _ hltA.out).symm,hf0⟩
   rw [←hZ]
   have hxx:Hid (x=_):=(Option.some.inj kxq10.out).symm
   clear hZ hl hf0 hX hbX
   clear m130 m131 m13f m13l
   go_wp2_with fail
   refine bodyPost_ret (results_sg rfl _ _ rfl hf.out.1.cells.1) rfl ?_
   rw [hxx.out]
   exact hf.out.2
 have hx9:=hx0.out
 rw [if_neg k3] at hx9
 have n3:(kindAt l i == 3)=false:=by simpa using k3
 have hx8:=Lib.hid hx9
 generalize kindAt l i=kd at *
 clear hx9 hx0 k3
 go_enter Tryz.func205,Tryz.ntmps205
 go_upto_region 1 with (fail)
 rw [hW1'.out]
 go_wp2_with fail
 refine hkd.out.mono ?_
 rintro e V ⟨rfl,n,rfl⟩
 obtain ⟨D14,hD14⟩:∃ V,W1.drewN n=V:=⟨_,rfl⟩
 have hbD14:Below W1.heap.size W1 D14:=by rw [←hD14];exact below_drewN' (Below.refl _ _) _
 rw [hD14]
 have zD14:=Lib.hid hbD14.size
 have hpD14:=Lib.hid (hp1.out.below hbD14)
 have bAD14:=Lib.hid (bA1.out.below hbD14)
 clear hp1 bA1 hD14 hbD14
 obtain ⟨q15,hq15,kq15⟩:=pS_split hx8.out
 have cq15:=Lib.hid (hA D14 (i) q15 hpD14.out.rd hq15)
 have kq15:=Lib.hid kq15
 clear hq15 hx8
 go_wp2_with fail
 refine cq15.out.mono ?_
 rintro e V16 ⟨hB,hm⟩
 rcases q15 with p | ⟨es,jq15⟩
 case error =>
  obtain rfl:=hm
  have hxx:=kq15.out
  dsimp only at hxx
  subst hxx
  exact And.intro rfl (And.intro (hpD14.out.bb.next hB) rfl)
 obtain ⟨v,yq15,rfl,rfl,hL,hR⟩:=hm
 obtain ⟨sq15,aq15,mq15,cq15,rfl⟩:=hL.out.agg
 have zV16:=Lib.hid hB.size
 have tq15:Hid (Lay D14.heap.size V16.heap.size V16 fun x=>IsSg x (.agg #[.string sq15,.slice aq15 mq15 cq15]) yq15):=hL
 have hpV16:=Lib.hid (hpD14.out.call hB hR)
 have bAV16:=Lib.hid (bAD14.out.bb hB (by have:=hrb;have:=zz1.out;have:=zD14.out;omega))
 have kxq15:=Lib.hid kq15.out
 try dsimp only at kxq15
 clear hB hR hL kq15
 clear hpD14 bAD14
 obtain ⟨⟨m170,m171⟩,m17f⟩:=(show Box2 V16 163 W.heap.size (.string ⟨#[]⟩) (.slice none 0 0) from bAV16.out).cells
 have m17l:W.heap.size < V16.heap.size:=blk_lt (show Box2 V16 163 W.heap.size (.string ⟨#[]⟩) (.slice none 0 0) from bAV16.out)
 go_upto_region 5 with (fail)
 obtain ⟨M18,hM18⟩:∃ V,(V16.setCell ⟨W.heap.size,0,none⟩ (.string sq15)).setCell ⟨W.heap.size,1,none⟩ (.slice aq15 mq15 cq15)=V:=⟨_,rfl⟩
 rw [hM18]
 clear m170 m171 m17f m17l
 have hsM18:=(show Box2 V16 163 W.heap.size (.string ⟨#[]⟩) (.slice none 0 0) from bAV16.out).set (.string sq15) (.slice aq15 mq15 cq15)
 unfold World.set2 at hsM18
 rw [hM18] at hsM18
 have zM18:=Lib.hid hsM18.2.size
 have hpM18:Hid (PS W rb a c l (jq15) M18):=PS.own h'.out hpV16.out hsM18.2 (by have:=hrb;have:=zz1.out;have:=zD14.out;have:=zV16.out;omega)
 have tq15M18:=Lib.hid (tq15.out.own hsM18.2 (by have:=hrb;have:=zz1.out;have:=zD14.out;have:=zV16.out;omega))
 have bAM18:Hid (Box2 M18 163 W.heap.size (.string sq15) (.slice aq15 mq15 cq15)):=hsM18.1
 clear hM18 hsM18 bAV16 hpV16 tq15
 obtain ⟨W19,hW19⟩:∃ V,M18.alloc (.cells #[.string ⟨#[45,62]⟩] 9)=V:=⟨_,rfl⟩
 have hbW19:Below M18.heap.size M18 W19:=by rw [←hW19];exact (Below.refl _ _).alloc (Nat.le_refl _) _
 have zW19:Hid (W19.heap.size=M18.heap.size + 1):=by rw [←hW19];simp [Hid]
 have bW19:Hid (Blk W19 M18.heap.size (.cells #[.string ⟨#[45,62]⟩] 9 (0,0))):=by rw [←hW19];exact Blk.new
 have hpW19:=Lib.hid (hpM18.out.below hbW19)
 have bAW19:=Lib.hid (bAM18.out.below hbW19)
 have tSW19:=Lib.hid (tq15M18.out.below hbW19)
 have hW19':=Lib.hid hW19
 clear hW19 hbW19 hpM18 bAM18 tq15M18
 have hany:Hid (Calls Tryz.prog 62 #[.pointer (some ⟨rb,0,none⟩),.slice (some ⟨M18.heap.size,0,none⟩) 1 1] W19 fun e W'=>e=.returned (.tuple #[.string (oS (anyAt l (jq15) [[45,62]])),.bool (anyAt l (jq15) [[45,62]]).isSome])∧Bb W19.heap.size rb W19 W'∧Rd W' rb a c l (jq15 + oN (anyAt l (jq15) [[45,62]]))):=any_call (ss:=[[45,62]]) hpW19.out.rd ⟨blk_lt (show Blk W19 M18.heap.size (.cells #[.string ⟨#[45,62]⟩] 9 (0,0)) from bW19.out),fun j hj=>by
  obtain rfl:j=0:=by simp at hj;omega
  rw [←hW19'.out]
  exact (new_cell _ _ _ _).trans rfl⟩ (by decide)
 go_wp2_with fail
 rw [hW19'.out]
 by_cases ko:isAt l (jq15) [45,62]=true
 case neg =>
  have hx9:=kxq15.out
  rw [if_neg ko] at hx9
  have hxx:Hid (x=_):=(Option.some.inj hx9).symm
  have ho:anyAt l (jq15) [[45,62]]=none:=by simp only [anyAt,List.find?_cons,List.find?_nil];simp [ko]
  rw [ho] at hany
  simp only [oS,oN,Option.isSome_none,Nat.add_zero] at hany
  clear hx9 ho ko
  refine hany.out.mono ?_
  rintro e V20 ⟨rfl,hB,hR⟩
  have zV20:=Lib.hid hB.size
  have hpV20:=Lib.hid (hpW19.out.call hB hR)
  have bAV20:=Lib.hid (bAW19.out.bb hB (by have:=hrb;have:=zz1.out;have:=zD14.out;have:=zV16.out;have:=zM18.out;have:=zW19.out;omega))
  have tSV20:=Lib.hid (tSW19.out.bb hB (by have:=hrb;have:=zz1.out;have:=zD14.out;have:=zV16.out;have:=zM18.out;have:=zW19.out;omega))
  have rOV20:=Lib.hid (bW19.out.bb hB (by have:=hrb;have:=zz1.out;have:=zD14.out;have:=zV16.out;have:=zM18.out;have:=zW19.out;omega))
  clear hB hR hany hpW19 bAW19 tSW19 bW19
  have hl:LayH [W.heap.size] W.heap.size V20.heap.size V20 fun x=>IsSg x (.agg #[.string sq15,.slice aq15 mq15 cq15]) yq15:=LayH.of_lay tSV20.out (by have:=hrb;have:=zz1.out;have:=zD14.out;have:=zV16.out;have:=zM18.out;have:=zW19.out;have:=zV20.out;omega) (by have:=hrb;have:=zz1.out;have:=zD14.out;have:=zV16.out;have:=zM18.out;have:=zW19.out;have:=zV20.out;omega) (Nat.le_refl _) (fun q hq=>by simp only [List.mem_cons,List.not_mem_nil,or_false] at hq;subst hq;have:=hrb;have:=zz1.out;have:=zD14.out;have:=zV16.out;have:=zM18.out;have:=zW19.out;have:=zV20.out;omega)
  have hf:=Lib.hid (SgR.fin1 h'.out hpV20.out (show Box2 V20 163 W.heap.size (.string sq15) (.slice aq15 mq15 cq15) from bAV20.out) (Nat.le_refl _) hl)
  obtain ⟨⟨m210,m211⟩,m21f⟩:=(show Box2 V20 163 W.heap.size (.string sq15) (.slice aq15 mq15 cq15) from bAV20.out).cells
  have m21l:W.heap.size < V20.heap.size:=blk_lt (show Box2 V20 163 W.heap.size (.string sq15) (.slice aq15 mq15 cq15) from bAV20.out)
  clear hl
  go_wp2_with fail
  refine set2_fold ?_
  refine bodyPost_ret (results_sg rfl _ _ rfl hf.out.1.cells.1) rfl ?_
  rw [hxx.out]
  exact hf.out.2
 have hx9:=kxq15.out
 rw [if_pos ko] at hx9
 have hx6:=Lib.hid hx9
 have ho:anyAt l (jq15) [[45,62]]=some [45,62]:=by simp only [anyAt,List.find?_cons];rw [ko]
 rw [ho] at hany
 simp only [oS,oN,Option.isSome_some] at hany
 clear hx9 ho ko
 refine hany.out.mono ?_
 rintro e V20 ⟨rfl,hB,hR⟩
 have zV20:=Lib.hid hB.size
 have hpV20:=Lib.hid (hpW19.out.call hB hR)
 have bAV20:=Lib.hid (bAW19.out.bb hB (by have:=hrb;have:=zz1.out;have:=zD14.out;have:=zV16.out;have:=zM18.out;have:=zW19.out;omega))
 have tSV20:=Lib.hid (tSW19.out.bb hB (by have:=hrb;have:=zz1.out;have:=zD14.out;have:=zV16.out;have:=zM18.out;have:=zW19.out;omega))
 have rOV20:=Lib.hid (bW19.out.bb hB (by have:=hrb;have:=zz1.out;have:=zD14.out;have:=zV16.out;have:=zM18.out;have:=zW19.out;omega))
 clear hB hR hany hpW19 bAW19 tSW19 bW19
 obtain ⟨q22,hq22,kq22⟩:=pS_split hx6.out
 have cq22:=Lib.hid (RuleS.later hE hpV20.out.rd hq22)
 have kq22:=Lib.hid kq22
 clear hq22 hx6
 obtain ⟨⟨m230,m231⟩,m23f⟩:=(show Box2 V20 163 W.heap.size (.string sq15) (.slice aq15 mq15 cq15) from bAV20.out).cells
 have m23l:W.heap.size < V20.heap.size:=blk_lt (show Box2 V20 163 W.heap.size (.string sq15) (.slice aq15 mq15 cq15) from bAV20.out)
 go_wp2_with fail
 go_region_with (first | (
   go_at_call 205
   refine (cq22.out _ (Below.refl _ _).drew).mono ?_
   rintro e V24 ⟨hB,hm⟩
   rcases q22 with p | ⟨es,jq22⟩
   case error =>
    obtain rfl:=hm
    have hxx:=kq22.out
    dsimp only at hxx
    subst hxx
    exact And.intro rfl (And.intro (hpV20.out.bb.next hB) rfl)
   obtain ⟨v,yq22,rfl,rfl,hL,hR⟩:=hm
   obtain ⟨sq22,aq22,mq22,cq22,rfl⟩:=hL.out.agg
   have zV24:=Lib.hid hB.size
   have tq22:Hid (Lay V20.heap.size V24.heap.size V24 fun x=>IsSg x (.agg #[.string sq22,.slice aq22 mq22 cq22]) yq22):=hL
   have hpV24:=Lib.hid (hpV20.out.call hB hR)
   have bAV24:=Lib.hid (bAV20.out.bb hB (by have:=hrb;have:=zz1.out;have:=zD14.out;have:=zV16.out;have:=zM18.out;have:=zW19.out;have:=zV20.out;omega))
   have tSV24:=Lib.hid (tSV20.out.bb hB (by have:=hrb;have:=zz1.out;have:=zD14.out;have:=zV16.out;have:=zM18.out;have:=zW19.out;have:=zV20.out;omega))
   have kxq22:=Lib.hid kq22.out
   try dsimp only at kxq22
   clear hB hR hL kq22
   clear hpV20 bAV20 tSV20
   clear m230 m231 m23f m23l
   obtain ⟨⟨m250,m251⟩,m25f⟩:=(show Box2 V24 163 W.heap.size (.string sq15) (.slice aq15 mq15 cq15) from bAV24.out).cells
   have m25l:W.heap.size < V24.heap.size:=blk_lt (show Box2 V24 163 W.heap.size (.string sq15) (.slice aq15 mq15 cq15) from bAV24.out)))
 all_goals
  obtain ⟨X,hX⟩:∃ X,V24.alloc (.cells #[.string sq15,.slice aq15 mq15 cq15,.string sq22,.slice aq22 mq22 cq22] 163)=X:=⟨_,rfl⟩
  have hbX:Below V24.heap.size V24 X:=by rw [←hX];exact (Below.refl _ _).alloc (Nat.le_refl _) _
  have zX:Hid (X.heap.size=V24.heap.size + 1):=by rw [←hX];simp [Hid]
  have bR:Hid (Blk X V24.heap.size (.cells #[.string sq15,.slice aq15 mq15 cq15,.string sq22,.slice aq22 mq22 cq22] 163 (0,0))):=by rw [←hX];exact Blk.new
  have hltA:=Lib.hid m25l
  have hpX:=Lib.hid (hpV24.out.below hbX)
  have bAX:=Lib.hid (bAV24.out.below hbX)
  have tSX:=Lib.hid (tSV24.out.below hbX)
  have tq22X:=Lib.hid (tq22.out.below hbX)
  have g0:=LayH.of_lay (hs:=[W.heap.size]) (B':=W.heap.size) (E':=X.heap.size) tSX.out (by have:=hrb;have:=zz1.out;have:=zD14.out;have:=zV16.out;have:=zM18.out;have:=zW19.out;have:=zV20.out;have:=zV24.out;have:=zX.out;omega) (by have:=hrb;have:=zz1.out;have:=zD14.out;have:=zV16.out;have:=zM18.out;have:=zW19.out;have:=zV20.out;have:=zV24.out;have:=zX.out;omega) (Nat.le_refl _) (fun q hq=>by simp only [List.mem_cons,List.not_mem_nil,or_false] at hq;subst hq;have:=hrb;have:=zz1.out;have:=zD14.out;have:=zV16.out;have:=zM18.out;have:=zW19.out;have:=zV20.out;have:=zV24.out;have:=zX.out;omega)
  have g1:=LayH.of_lay (hs:=[W.heap.size]) (B':=W.heap.size) (E':=X.heap.size) tq22X.out (by have:=hrb;have:=zz1.out;have:=zD14.out;have:=zV16.out;have:=zM18.out;have:=zW19.out;have:=zV20.out;have:=zV24.out;have:=zX.out;omega) (by have:=hrb;have:=zz1.out;have:=zD14.out;have:=zV16.out;have:=zM18.out;have:=zW19.out;have:=zV20.out;have:=zV24.out;have:=zX.out;omega) (Nat.le_refl _) (fun q hq=>by simp only [List.mem_cons,List.not_mem_nil,or_false] at hq;subst hq;have:=hrb;have:=zz1.out;have:=zD14.out;have:=zV16.out;have:=zM18.out;have:=zW19.out;have:=zV20.out;have:=zV24.out;have:=zX.out;omega)
  have hl:LayH [W.heap.size] W.heap.size X.heap.size X fun x=>IsSg x (.agg #[.string ⟨#[45,62]⟩,.slice (some ⟨V24.heap.size,0,none⟩) 2 2]) (.mk ⟨#[45,62]⟩ [yq15,yq22]):=LayH.sig (l:=[yq15,yq22]) (by decide) (by simp [lenMax]) (sgRow_two (b:=V24.heap.size) (by have:=hrb;have:=zz1.out;have:=zD14.out;have:=zV16.out;have:=zM18.out;have:=zW19.out;have:=zV20.out;have:=zV24.out;have:=zX.out;omega) (by have:=hrb;have:=zz1.out;have:=zD14.out;have:=zV16.out;have:=zM18.out;have:=zW19.out;have:=zV20.out;have:=zV24.out;have:=zX.out;omega) (by simp only [List.mem_cons,List.not_mem_nil,or_false];intro q;revert q;have:=hrb;have:=zz1.out;have:=zD14.out;have:=zV16.out;have:=zM18.out;have:=zW19.out;have:=zV20.out;have:=zV24.out;have:=zX.out;omega) bR.out g0 g1)
  have hf0:=SgR.fin1 h'.out hpX.out (show Box2 X 163 W.heap.size (.string sq15) (.slice aq15 mq15 cq15) from bAX.out) (Nat.le_refl _) hl
  obtain ⟨Z,hZ,hf⟩:∃ Z,Z=((V24.setCell ⟨W.heap.size,0,none⟩ (.string ⟨#[45,62]⟩)).setCell ⟨W.heap.size,1,none⟩ (.slice (some ⟨V24.heap.size,0,none⟩) 2 2)).alloc (.cells #[.string sq15,.slice aq15 mq15 cq15,.string sq22,.slice aq22 mq22 cq22] 163)∧Hid (Box2 Z 163 W.heap.size (.string ⟨#[45,62]⟩) (.slice (some ⟨V24.heap.size,0,none⟩) 2 2)∧SgR W rb a c l (.ok ([.mk ⟨#[45,62]⟩ [yq15,yq22]],jq22)) (.returned (.agg #[.string ⟨#[45,62]⟩,.slice (some ⟨V24.heap.size,0,none⟩) 2 2])) Z):=⟨_,by rw [←hX];exact (set2_alloc _ hltA.out).symm,hf0⟩
  rw [←hZ]
  have hxx:Hid (x=_):=(Option.some.inj kxq22.out).symm
  clear hZ hl hf0 hX hbX
  clear m250 m251 m25f m25l
  go_wp2_with fail
  refine bodyPost_ret (results_sg rfl _ _ rfl hf.out.1.cells.1) rfl ?_
  rw [hxx.out]
  exact hf.out.2
def contA (l:List Tk) (f:Nat) (acc:List Sg) (j:Nat):Ans6 (List Sg):=(pS l f .atoms j).bnd fun r k=>ok6 (acc ++ r) k
theorem contA_zero {l:List Tk} {acc:List Sg} {j:Nat} {x:Except Nat (List Sg × Nat)} (h:contA l 0 acc j=some x):False:=by cases h
theorem contA_next {l:List Tk} {f:Nat} {acc:List Sg} {j:Nat} (h:sgBegins l j=true):contA l (f + 1) acc j=(pS l f .atom j).bnd fun s k=>contA l f (acc ++ s) k:=by
 show ((if sgBegins l j=true then (pS l f .atom j).bnd fun s j=>(pS l f .atoms j).bnd fun r k=>ok6 (s ++ r) k else ok6 [] j).bnd fun r k=>ok6 (acc ++ r) k)=_
 rw [if_pos h]
 cases pS l f .atom j with
 | none=>rfl
 | some x =>
  cases x with
  | error p=>rfl
  | ok q =>
   show ((pS l f .atoms q.2).bnd fun r k=>ok6 (q.1 ++ r) k).bnd _=(pS l f .atoms q.2).bnd fun r k=>ok6 (acc ++ q.1 ++ r) k
   cases pS l f .atoms q.2 with
   | none=>rfl
   | some y =>
    cases y with
    | error p=>rfl
    | ok z=>show some _=some _;rw [List.append_assoc]
theorem contA_end {l:List Tk} {f:Nat} {acc:List Sg} {j:Nat} (h:¬ sgBegins l j=true):contA l (f + 1) acc j=ok6 acc j:=by
 show ((if sgBegins l j=true then (pS l f .atom j).bnd fun s j=>(pS l f .atoms j).bnd fun r k=>ok6 (s ++ r) k else ok6 [] j).bnd fun r k=>ok6 (acc ++ r) k)=_
 rw [if_neg h]
 show some _=some _
 rw [List.append_nil]
theorem sgs_push {W X M w2:World} {rb:Nat} {a:Option Addr} {c:Nat} {l:List Tk} {i j2:Nat} {T:TypeId} {v v2:Value} {acc:List Sg} {y2:Sg} {css:List (List Value)} {s':Str} {a1':Option Addr} {m1' c1':Nat}
  (h:Rd W rb a c l i) (hlr:∀ b off,a=some ⟨b,off,none⟩→l≠[]→b < W.heap.size) (hp:PS W rb a c l j2 X) (hL:Lay M.heap.size X.heap.size X fun x=>IsSg x (.agg #[.string s',.slice a1' m1' c1']) y2) (hz:W.heap.size≤M.heap.size∧M.heap.size≤X.heap.size) (hB:W.heap.size≤X.heap.size)
  (hc:css.length=acc.length∧∀ c ∈ css,c.length=2) (hel:∀ i (h:i < acc.length) (h2:i < css.length),LayH (ownL v) W.heap.size X.heap.size X fun x=>IsSgC x css[i] acc[i]) (hgb:∀ g,v.ownBlock=some g→W.heap.size≤g∧g < X.heap.size) (hgM:∀ g,v.ownBlock=some g→g < M.heap.size)
  (ho:w2.ownsRow W.heap.size T 2 v2 (acc.length + 1) (css.flatten ++ [.string s',.slice a1' m1' c1']))
  (hg:(X.alloc (.cells #[.string s',.slice a1' m1' c1'] T)).grownBy w2 v.ownBlock) (hat:v2.ownBlock=v.ownBlock∨v2.ownBlock=some (X.alloc (.cells #[.string s',.slice a1' m1' c1'] T)).heap.size) :
  Grow T 2 IsSgC W.heap.size w2 v2 (acc ++ [y2])∧PS W rb a c l j2 w2:=by
 obtain ⟨Y,hY⟩:∃ Y,X.alloc (.cells #[.string s',.slice a1' m1' c1'] T)=Y:=⟨_,rfl⟩
 have hb:Below X.heap.size X Y:=by rw [←hY];exact (Below.refl _ _).alloc (Nat.le_refl _) _
 rw [hY] at hg hat
 have hpY:=hp.below hb
 constructor
 ·
  refine Grow.push (css:=css) (cs:=[.string s',.slice a1' m1' c1']) hc.1 hc.2 rfl hpY.size (fun i h1 h2=>((hel i h1 h2).below hb).wide (Nat.le_refl _) hb.size (Nat.le_refl _) fun _ hk _ _=>hk) ?_ hg hat ho
  exact isSgC_lay (LayH.of_lay (hL.below hb) hz.1 hb.size (Nat.le_refl _) fun k hk=>by have:=hgM k (ownL_mem.1 hk);omega)
 ·
  have hr:∀ g,v.ownBlock=some g→W.heap.size≤g:=fun g q=>(hgb g q).1
  exact ⟨hpY.bb.grown hg hr,hpY.rd.grown hg hr h.lt hlr⟩
theorem pS_min {l:List Tk} {f:Nat} {r:Rs} {i j:Nat} {es:List Sg} (hm:minS r=1) (hi:i≤l.length) (h:pS l f r i=some (.ok (es,j))):i + 1≤j:=by
 have h1:=pS_total l (max f ((l.length - i) * 4 + lvS r + 1)) r i hi (by omega)
 obtain ⟨x,hx,hs⟩:=h1
 have h2:=pS_mono (Nat.le_max_left f ((l.length - i) * 4 + lvS r + 1)) r i _ h
 rw [hx] at h2
 obtain rfl:=Option.some.inj h2
 have h3:i + minS r≤j:=hs.1
 omega
set_option maxHeartbeats 8000000 in
set_option maxRecDepth 100000 in
theorem par_atoms {f:Nat} (hA:RuleS 186 rb a c l f .atom):RuleA 148 rb a c l (f + 1):=by
 intro W i x h hx
 have hrb:=h.lt
 have h':=Lib.hid h
 have hlr:=Lib.hid h.lowRow
 have hkd:=Lib.hid (par_kind h)
 obtain ⟨i0,hi,hz0,hz1',hz2'⟩:=info_of Tryz.infoSg6
 have hlen:=h.len
 have hA':=Lib.hid hA
 have hc0:Hid (contA l (f + 1) [] i=some x):=by
  unfold Hid contA
  rw [hx]
  cases x with
  | error p=>rfl
  | ok q=>rfl
 clear h hx hA
 go_enter Tryz.func148,Tryz.ntmps148
 go_wp2_with fail
 refine hkd.out.mono ?_
 rintro e V0 ⟨rfl,n0,hV0⟩
 have hp0:Hid (PS W rb a c l i V0):=by rw [hV0];exact (PS.refl h'.out).below (below_drewN' (Below.refl _ _) n0)
 have hG0:Hid (Grow 163 2 IsSgC W.heap.size V0 (.slice none 0 0) []):=Grow.nil hp0.out.size
 clear hkd hV0
 go_wp2_with fail
 go_loopg [2,3] (f + 1) (fun g v kv X=>∃ (acc:List Sg) (j:Nat),kv=.int .i64 (kindAt l j)∧Hid (g≤f + 1)∧Hid (Grow 163 2 IsSgC W.heap.size X v acc)∧Hid (PS W rb a c l j X)∧Hid (contA l g acc j=some x)∧Hid (acc.length≤j))
 case atStart=>exact ⟨[],i,rfl,Nat.le_refl _,hG0.out,hp0.out,hc0.out,Nat.zero_le _⟩
 case round =>
  obtain ⟨acc,j,rfl,hg,hgr,hp,hc,haj⟩:=hrel
  obtain ⟨X,rfl⟩:∃ W,W=wr:=⟨_,rfl⟩
  clear hG0 hc0 hp0
  obtain ⟨g,rfl⟩:∃ g',gk=g' + 1:=by
   cases gk with
   | zero=>exact (contA_zero hc.out).elim
   | succ g=>exact ⟨g,rfl⟩
  have his:=Lib.hid (par_is hp.out.rd pOpen)
  rw [show tS pOpen=⟨#[40]⟩ from rfl] at his
  have hile:=hp.out.rd.le
  obtain ⟨va,vc,rfl,hvn,hvc⟩:=hgr.out.form
  clear hvn hvc
  by_cases hbeg:sgBegins l j=true
  ·
   have hc2:=hc.out
   rw [contA_next hbeg] at hc2
   obtain ⟨x2,hx2,kx2⟩:=pS_split hc2
   have hat:=Lib.hid (fun V (hV:PS W rb a c l j V)=>(hA'.out.mono (show g≤f by have:=hg.out;omega)) V j x2 hV.rd hx2)
   have kx2':=Lib.hid kx2
   have hx2':=Lib.hid hx2
   clear hc hc2 kx2 hx2
   by_cases k2:kindAt l j=2
   case pos =>
    rw [k2]
    clear hbeg his k2
    go_wp2_with fail
    refine (hat.out _ hp.out).mono ?_
    rintro e V3 ⟨hB3,hm3⟩
    rcases x2 with p | ⟨es2,j2⟩
    case error =>
     obtain rfl:=hm3
     have hxx:=kx2'.out
     dsimp only at hxx
     subst hxx
     exact ⟨rfl,hp.out.bb.next hB3,rfl⟩
    obtain ⟨v,y2,rfl,rfl,hL3,hR3⟩:=hm3
    obtain ⟨s',a1',m1',c1',rfl⟩:=hL3.out.agg
    have hp3:=Lib.hid (hp.out.call hB3 hR3)
    have hgr3:=Lib.hid (hgr.out.bb hB3 hrb)
    have hz3:=Lib.hid (And.intro hp.out.size hB3.size)
    have hL3':=Lib.hid hL3
    have hjj:Hid (j + 1≤j2):=pS_min rfl (by omega) hx2'.out
    obtain ⟨css,hcl1,hcl2,hown,hBX,hel⟩:=hgr3.out
    have hel':=Lib.hid hel
    have hown':=Lib.hid hown
    have hgb:=Lib.hid (fun g q=>ownBlock_ge hown (g:=g) q)
    have hgM:=Lib.hid (fun g (q:(Value.slice va acc.length vc).ownBlock=some g)=>(ownBlock_ge hgr.out.choose_spec.2.2.1 q).2)
    clear hB3 hR3 hL3 hat
    have hn63:acc.length + 1≤maxLen:=by have:=haj.out;unfold maxLen;omega
    have hsz80:(acc.length + 1) * 40≤140737488355328:=by have:=haj.out;omega
    have hcl':=Lib.hid (And.intro hcl1 hcl2)
    have hkd2:=Lib.hid (fun V (hV:PS W rb a c l j2 V)=>par_kind hV.rd)
    clear hel hown hcl1 hcl2
    go_wp2_with (at_builtin;go_must (refine wpList_append_own_at _ rfl _ _ 123 rfl W.heap.size 163 i0 (.agg #[.string ⟨#[]⟩,.slice none 0 0]) 2 40 Tryz.underlying123 hi hz0 hz1' hz2' rfl (by decide) _ _ _ rfl (hown'.out.alloc _) ⟨V3.heap.size,0,none⟩ 1 1 [.string s',.slice a1' m1' c1'] rfl rfl (cells_new6 _ #[.string s',.slice a1' m1' c1'] _) (by simp [Value.oneCell']) hn63 hsz80 (by simp;omega) ?_);intro v2 w2 hown2 hg2 _ hat2;have hG2:Hid (Grow 163 2 IsSgC W.heap.size w2 v2 (acc ++ [y2])∧PS W rb a c l j2 w2):=sgs_push h'.out hlr.out hp3.out hL3'.out hz3.out hBX hcl'.out hel'.out hgb.out hgM.out hown2 hg2 hat2;clear hown2 hg2 hat2)
    refine (hkd2.out _ hG2.out.2).mono ?_
    rintro e V4 ⟨rfl,n4,hV4⟩
    have hG4:Hid (Grow 163 2 IsSgC W.heap.size V4 v2 (acc ++ [y2])∧PS W rb a c l j2 V4):=by rw [hV4];exact ⟨hG2.out.1.below (below_drewN' (Below.refl _ _) n4),hG2.out.2.below (below_drewN' (Below.refl _ _) n4)⟩
    clear hV4
    go_wp2_with fail
    go_roundg g
    case measure=>omega
    case rel=>exact ⟨acc ++ [y2],j2,rfl,by have:=hg.out;unfold Hid;omega,hG4.out.1,hG4.out.2,kx2'.out,by have:=hjj.out;have:=haj.out;unfold Hid;rw [List.length_append];simp only [List.length_cons,List.length_nil];omega⟩
   have n2:(kindAt l j == 2)=false:=by simpa using k2
   by_cases k3:kindAt l j=3
   case pos =>
    rw [k3]
    clear n2 k2 hbeg his k3
    go_wp2_with fail
    refine (hat.out _ hp.out).mono ?_
    rintro e V3 ⟨hB3,hm3⟩
    rcases x2 with p | ⟨es2,j2⟩
    case error =>
     obtain rfl:=hm3
     have hxx:=kx2'.out
     dsimp only at hxx
     subst hxx
     exact ⟨rfl,hp.out.bb.next hB3,rfl⟩
    obtain ⟨v,y2,rfl,rfl,hL3,hR3⟩:=hm3
    obtain ⟨s',a1',m1',c1',rfl⟩:=hL3.out.agg
    have hp3:=Lib.hid (hp.out.call hB3 hR3)
    have hgr3:=Lib.hid (hgr.out.bb hB3 hrb)
    have hz3:=Lib.hid (And.intro hp.out.size hB3.size)
    have hL3':=Lib.hid hL3
    have hjj:Hid (j + 1≤j2):=pS_min rfl (by omega) hx2'.out
    obtain ⟨css,hcl1,hcl2,hown,hBX,hel⟩:=hgr3.out
    have hel':=Lib.hid hel
    have hown':=Lib.hid hown
    have hgb:=Lib.hid (fun g q=>ownBlock_ge hown (g:=g) q)
    have hgM:=Lib.hid (fun g (q:(Value.slice va acc.length vc).ownBlock=some g)=>(ownBlock_ge hgr.out.choose_spec.2.2.1 q).2)
    clear hB3 hR3 hL3 hat
    have hn63:acc.length + 1≤maxLen:=by have:=haj.out;unfold maxLen;omega
    have hsz80:(acc.length + 1) * 40≤140737488355328:=by have:=haj.out;omega
    have hcl':=Lib.hid (And.intro hcl1 hcl2)
    have hkd2:=Lib.hid (fun V (hV:PS W rb a c l j2 V)=>par_kind hV.rd)
    clear hel hown hcl1 hcl2
    go_wp2_with (at_builtin;go_must (refine wpList_append_own_at _ rfl _ _ 123 rfl W.heap.size 163 i0 (.agg #[.string ⟨#[]⟩,.slice none 0 0]) 2 40 Tryz.underlying123 hi hz0 hz1' hz2' rfl (by decide) _ _ _ rfl (hown'.out.alloc _) ⟨V3.heap.size,0,none⟩ 1 1 [.string s',.slice a1' m1' c1'] rfl rfl (cells_new6 _ #[.string s',.slice a1' m1' c1'] _) (by simp [Value.oneCell']) hn63 hsz80 (by simp;omega) ?_);intro v2 w2 hown2 hg2 _ hat2;have hG2:Hid (Grow 163 2 IsSgC W.heap.size w2 v2 (acc ++ [y2])∧PS W rb a c l j2 w2):=sgs_push h'.out hlr.out hp3.out hL3'.out hz3.out hBX hcl'.out hel'.out hgb.out hgM.out hown2 hg2 hat2;clear hown2 hg2 hat2)
    refine (hkd2.out _ hG2.out.2).mono ?_
    rintro e V4 ⟨rfl,n4,hV4⟩
    have hG4:Hid (Grow 163 2 IsSgC W.heap.size V4 v2 (acc ++ [y2])∧PS W rb a c l j2 V4):=by rw [hV4];exact ⟨hG2.out.1.below (below_drewN' (Below.refl _ _) n4),hG2.out.2.below (below_drewN' (Below.refl _ _) n4)⟩
    clear hV4
    go_wp2_with fail
    go_roundg g
    case measure=>omega
    case rel=>exact ⟨acc ++ [y2],j2,rfl,by have:=hg.out;unfold Hid;omega,hG4.out.1,hG4.out.2,kx2'.out,by have:=hjj.out;have:=haj.out;unfold Hid;rw [List.length_append];simp only [List.length_cons,List.length_nil];omega⟩
   have n3:(kindAt l j == 3)=false:=by simpa using k3
   have hop:isAt l j pOpen=true:=by
    unfold sgBegins at hbeg
    simp only [Bool.or_eq_true,decide_eq_true_eq] at hbeg
    rcases hbeg with (q | q) | q
    ·
     exact absurd q k2
    ·
     exact absurd q k3
    ·
     exact q
   rw [hop] at his
   generalize kindAt l j=kd at *
   clear hbeg hop k2 k3
   go_wp2_with fail
   refine his.out.mono ?_
   rintro e V2 ⟨rfl,n,rfl⟩
   have hpd:=Lib.hid (hp.out.below (below_drewN' (Below.refl _ _) n))
   have hgd:=Lib.hid (hgr.out.below (below_drewN' (Below.refl _ _) n))
   go_wp2_with fail
   refine (hat.out _ hpd.out).mono ?_
   rintro e V3 ⟨hB3,hm3⟩
   rcases x2 with p | ⟨es2,j2⟩
   case error =>
    obtain rfl:=hm3
    have hxx:=kx2'.out
    dsimp only at hxx
    subst hxx
    exact ⟨rfl,hpd.out.bb.next hB3,rfl⟩
   obtain ⟨v,y2,rfl,rfl,hL3,hR3⟩:=hm3
   obtain ⟨s',a1',m1',c1',rfl⟩:=hL3.out.agg
   have hp3:=Lib.hid (hpd.out.call hB3 hR3)
   have hgr3:=Lib.hid (hgd.out.bb hB3 hrb)
   have hz3:=Lib.hid (And.intro hpd.out.size hB3.size)
   have hL3':=Lib.hid hL3
   have hjj:Hid (j + 1≤j2):=pS_min rfl (by omega) hx2'.out
   obtain ⟨css,hcl1,hcl2,hown,hBX,hel⟩:=hgr3.out
   have hel':=Lib.hid hel
   have hown':=Lib.hid hown
   have hgb:=Lib.hid (fun g q=>ownBlock_ge hown (g:=g) q)
   have hgM:=Lib.hid (fun g (q:(Value.slice va acc.length vc).ownBlock=some g)=>(ownBlock_ge hgd.out.choose_spec.2.2.1 q).2)
   clear hB3 hR3 hL3 hat
   have hn63:acc.length + 1≤maxLen:=by have:=haj.out;unfold maxLen;omega
   have hsz80:(acc.length + 1) * 40≤140737488355328:=by have:=haj.out;omega
   have hcl':=Lib.hid (And.intro hcl1 hcl2)
   have hkd2:=Lib.hid (fun V (hV:PS W rb a c l j2 V)=>par_kind hV.rd)
   clear hel hown hcl1 hcl2
   go_wp2_with (at_builtin;go_must (refine wpList_append_own_at _ rfl _ _ 123 rfl W.heap.size 163 i0 (.agg #[.string ⟨#[]⟩,.slice none 0 0]) 2 40 Tryz.underlying123 hi hz0 hz1' hz2' rfl (by decide) _ _ _ rfl (hown'.out.alloc _) ⟨V3.heap.size,0,none⟩ 1 1 [.string s',.slice a1' m1' c1'] rfl rfl (cells_new6 _ #[.string s',.slice a1' m1' c1'] _) (by simp [Value.oneCell']) hn63 hsz80 (by simp;omega) ?_);intro v2 w2 hown2 hg2 _ hat2;have hG2:Hid (Grow 163 2 IsSgC W.heap.size w2 v2 (acc ++ [y2])∧PS W rb a c l j2 w2):=sgs_push h'.out hlr.out hp3.out hL3'.out hz3.out hBX hcl'.out hel'.out hgb.out hgM.out hown2 hg2 hat2;clear hown2 hg2 hat2)
   refine (hkd2.out _ hG2.out.2).mono ?_
   rintro e V4 ⟨rfl,n4,hV4⟩
   have hG4:Hid (Grow 163 2 IsSgC W.heap.size V4 v2 (acc ++ [y2])∧PS W rb a c l j2 V4):=by rw [hV4];exact ⟨hG2.out.1.below (below_drewN' (Below.refl _ _) n4),hG2.out.2.below (below_drewN' (Below.refl _ _) n4)⟩
   clear hV4
   go_wp2_with fail
   go_roundg g
   case measure=>omega
   case rel=>exact ⟨acc ++ [y2],j2,rfl,by have:=hg.out;unfold Hid;omega,hG4.out.1,hG4.out.2,kx2'.out,by have:=hjj.out;have:=haj.out;unfold Hid;rw [List.length_append];simp only [List.length_cons,List.length_nil];omega⟩
  ·
   have hc2:=hc.out
   rw [contA_end hbeg] at hc2
   have hxx:Hid (x=.ok (acc,j)):=(Option.some.inj hc2).symm
   have hop:isAt l j pOpen=false:=by
    cases q:isAt l j pOpen with
    | false=>rfl
    | true=>exact absurd (by unfold sgBegins;rw [q];simp) hbeg
   have n2:(kindAt l j == 2)=false:=by
    cases q:(kindAt l j == 2) with
    | false=>rfl
    | true=>exact absurd (by unfold sgBegins;rw [beq_iff_eq.1 q];simp) hbeg
   have n3:(kindAt l j == 3)=false:=by
    cases q:(kindAt l j == 3) with
    | false=>rfl
    | true=>exact absurd (by unfold sgBegins;rw [beq_iff_eq.1 q];simp) hbeg
   rw [hop] at his
   generalize kindAt l j=kd at *
   clear hc hc2 hbeg hop
   go_wp2_with fail
   refine his.out.mono ?_
   rintro e V2 ⟨rfl,n,rfl⟩
   go_wp2_with fail
   go_ret
   have hb:=below_drewN' (Below.refl X.heap.size X) n
   refine ⟨(hp.out.below hb).bb,?_⟩
   rw [hxx.out]
   exact ⟨_,rfl,(hgr.out.below hb).sgs,(hp.out.below hb).rd,by have:=haj.out;omega⟩
end
end Go.Proofs.YtinjocchommbdaaGreatDoor
namespace Go.Proofs.YtinjocchommbdaaGreatDoor
open Go.RowKit
section
variable {w W:World} {b:Nat} {cs:Array Value} {t:TypeId}
theorem Blk.cl (h:Blk w b (.cells cs t (0,0))) (o:Nat):w.cell? ⟨b,o,none⟩=cs[o]?:=by
 unfold Blk at h
 simp [World.cell?,h]
theorem Blk.fr (h:Blk w b (.cells cs t (0,0))):∀ o,w.frozen? ⟨b,o,none⟩=false:=fun o=>by
 unfold Blk at h
 simp [World.frozen?,h]
theorem Blk.lt {o:Obj} (h:Blk w b o):b < w.heap.size:=blk_lt h
theorem Blk.at (h:Blk w b (.cells cs t (0,0))) (k:Nat) (y:Value):Blk (w.setCell ⟨b,k,none⟩ y) b (.cells (cs.setIfInBounds k y) t (0,0))∧OneSet b w (w.setCell ⟨b,k,none⟩ y):=by
 unfold Blk at h
 exact ⟨by unfold Blk;simp [World.setCell,Array.getElem?_modify,h],OneSet.cell _ _ _ _⟩
end
def GrowE {α:Type} (T:TypeId) (s:Nat) (Is:World→List Value→α→Prop) (B E:Nat) (X:World) (v:Value) (es:List α):Prop :=
 E≤X.heap.size∧B≤E∧(∀ g,v.ownBlock=some g→g < E)∧∃ css:List (List Value),css.length=es.length∧(∀ c ∈ css,c.length=s)∧X.ownsRow B T s v es.length css.flatten∧∀ i (h:i < es.length) (h2:i < css.length),LayH (ownL v) B E X fun x=>Is x css[i] es[i]
section
variable {α:Type} {T:TypeId} {s:Nat} {Is:World→List Value→α→Prop} {B E:Nat} {X Y:World} {v:Value} {es:List α}
theorem Grow.toE (h:Grow T s Is B X v es):GrowE T s Is B X.heap.size X v es:=by
 obtain ⟨css,h1,h2,h3,h4,h5⟩:=h
 exact ⟨Nat.le_refl _,h4,fun g hg=>(ownBlock_ge h3 hg).2,css,h1,h2,h3,h5⟩
theorem GrowE.of (h:GrowE T s Is B E X v es) (hz:X.heap.size≤Y.heap.size) (hk:∀ k,B≤k→k < E→Y.heap[k]?=X.heap[k]?):GrowE T s Is B E Y v es:=by
 obtain ⟨e1,e2,e3,css,h1,h2,h3,h5⟩:=h
 exact ⟨Nat.le_trans e1 hz,e2,e3,css,h1,h2,ownsRow_heap h3 fun g hg=>hk g (ownBlock_ge h3 hg).1 (e3 g hg),fun i hi hi2=>(h5 i hi hi2).of hz fun k a b _=>hk k a b⟩
theorem GrowE.below (h:GrowE T s Is B E X v es) (hb:Below X.heap.size X Y):GrowE T s Is B E Y v es:=h.of hb.size fun k _ h2=>hb.block k (Nat.lt_of_lt_of_le h2 h.1)
theorem GrowE.bb {m:Nat} (h:GrowE T s Is B E X v es) (hb:Bb X.heap.size m X Y) (hm:m < B∨E≤m):GrowE T s Is B E Y v es:=h.of hb.size fun k h1 h2=>hb.block k (Nat.lt_of_lt_of_le h2 h.1) (by omega)
theorem GrowE.own {g:Nat} (h:GrowE T s Is B E X v es) (hs:OneSet g X Y) (hm:g < B∨E≤g):GrowE T s Is B E Y v es:=h.of (by rw [hs.size];exact Nat.le_refl _) fun k h1 h2=>hs.other k (by omega)
theorem GrowE.to (h:GrowE T s Is B E X v es):Grow T s Is B X v es:=by
 obtain ⟨e1,e2,e3,css,h1,h2,h3,h5⟩:=h
 exact ⟨css,h1,h2,h3,Nat.le_trans e2 e1,fun i hi hi2=>(h5 i hi hi2).wide (Nat.le_refl _) e1 (Nat.le_refl _) fun _ hk _ _=>hk⟩
end
theorem results_dt {fn:Func} {t:Tmp} (h:fn.results=#[.cell t 77]) (tmps:Array Value) (w:World) {b:Nat} {x0 x1 x2:Value} (ha:tmps.getD t undef=.pointer (some ⟨b,0,none⟩))
  (hc:Blk w b (.cells #[x0,x1,x2] 77 (0,0))):(results fn tmps).run Tryz.prog w=.ok (.agg #[x0,x1,x2]) w:=by
 have h0:=hc.cl 0
 have h1:=hc.cl 1
 have h2:=hc.cl 2
 have e2:=Tryz.isAgg77
 have e3:=Tryz.sizeOf77
 have ha':tmps[t]?.getD undef=.pointer (some ⟨b,0,none⟩):=by simpa using ha
 simp [results,h,ha',asAddr,loadVar,e2,loadCells,loadCellsFrom,Result.andThen,h0,h1,h2,Addr.add,load,Sem.run]
theorem results_df {fn:Func} {t:Tmp} (h:fn.results=#[.cell t 79]) (tmps:Array Value) (w:World) {b:Nat} {x0 x1 x2 x3 x4 x5:Value} (ha:tmps.getD t undef=.pointer (some ⟨b,0,none⟩))
  (hc:Blk w b (.cells #[x0,x1,x2,x3,x4,x5] 79 (0,0))):(results fn tmps).run Tryz.prog w=.ok (.agg #[x0,x1,x2,x3,x4,x5]) w:=by
 have h0:=hc.cl 0
 have h1:=hc.cl 1
 have h2:=hc.cl 2
 have h3:=hc.cl 3
 have h4:=hc.cl 4
 have h5:=hc.cl 5
 have e2:=Tryz.isAgg79
 have e3:=Tryz.sizeOf79
 have ha':tmps[t]?.getD undef=.pointer (some ⟨b,0,none⟩):=by simpa using ha
 simp [results,h,ha',asAddr,loadVar,e2,loadCells,loadCellsFrom,Result.andThen,h0,h1,h2,h3,h4,h5,Addr.add,load,Sem.run]
theorem results_pg {fn:Func} {t:Tmp} (h:fn.results=#[.cell t 38]) (tmps:Array Value) (w:World) {b:Nat} {x0 x1:Value} (ha:tmps.getD t undef=.pointer (some ⟨b,0,none⟩))
  (hc:Blk w b (.cells #[x0,x1] 38 (0,0))):(results fn tmps).run Tryz.prog w=.ok (.agg #[x0,x1]) w:=by
 have h0:=hc.cl 0
 have h1:=hc.cl 1
 have e2:=Tryz.isAgg38
 have e3:=Tryz.sizeOf38
 have ha':tmps[t]?.getD undef=.pointer (some ⟨b,0,none⟩):=by simpa using ha
 simp [results,h,ha',asAddr,loadVar,e2,loadCells,loadCellsFrom,Result.andThen,h0,h1,Addr.add,load,Sem.run]
def DtL (B:Nat) (w:World) (v:Value) (d:Dt):Prop:=Lay B w.heap.size w fun x=>IsDt x v d
def DfL (B:Nat) (w:World) (v:Value) (d:Df):Prop:=Lay B w.heap.size w fun x=>IsDf x v d
def GnR {α:Type} (L:Nat→World→Value→α→Prop) (W:World) (rb:Nat) (a:Option Addr) (c:Nat) (l:List Tk) (x:Except Nat (α × Nat)) (e:Ending) (W':World):Prop :=
 Bb W.heap.size rb W W'∧match x with
 | .error p=>e=stuckE p
 | .ok (d,j)=>∃ v,e=.returned v∧L W.heap.size W' v d∧Rd W' rb a c l j
theorem GnR.later {α:Type} {L:Nat→World→Value→α→Prop} (hw:∀ {B B':Nat} {w:World} {v:Value} {d:α},L B w v d→B'≤B→L B' w v d) {X V:World} {rb:Nat} {a:Option Addr} {c:Nat} {l:List Tk} {x:Except Nat (α × Nat)} {e:Ending} {W':World} (hV:Below X.heap.size X V) (h:GnR L V rb a c l x e W'):GnR L X rb a c l x e W':=by
 obtain ⟨hB,hm⟩:=h
 refine ⟨(Bb.of hV).next hB,?_⟩
 cases x with
 | error p=>exact hm
 | ok q =>
  obtain ⟨v,h1,h2,h3⟩:=hm
  exact ⟨v,h1,hw h2 hV.size,h3⟩
theorem Tryz.infoDt6:(Tryz.prog.info? 77).map (fun i=>(i.zero,i.size,i.bytes))=some (some (.agg #[.string ⟨#[]⟩,.slice none 0 0,.slice none 0 0]),3,64):=by kernel_rfl
theorem Tryz.infoDf6:(Tryz.prog.info? 79).map (fun i=>(i.zero,i.size,i.bytes))=some (some (.agg #[.string ⟨#[]⟩,.int .i64 0,.string ⟨#[]⟩,.int .i64 0,.slice none 0 0,.slice none 0 0]),6,96):=by kernel_rfl
def contF (l:List Tk) (f:Nat) (acc:List Sg) (j:Nat):Ans6 (List Sg):=(pS l f .forms j).bnd fun r k=>ok6 (acc ++ r) k
theorem contF_zero {l:List Tk} {acc:List Sg} {j:Nat} {x:Except Nat (List Sg × Nat)} (h:contF l 0 acc j=some x):False:=by cases h
theorem contF_next {l:List Tk} {f:Nat} {acc:List Sg} {j:Nat} (h:kindAt l j=3):contF l (f + 1) acc j=(pS l f .atoms (j + 1)).bnd fun r k=>if isAt l k [124]=true then contF l f (acc ++ [.mk (textAt l j) r]) (k + 1) else ok6 (acc ++ [.mk (textAt l j) r]) k:=by
 show ((if kindAt l j=3 then (pS l f .atoms (j + 1)).bnd fun r k=>if isAt l k [124]=true then (pS l f .forms (k + 1)).bnd fun fs m=>ok6 (.mk (textAt l j) r :: fs) m else ok6 [.mk (textAt l j) r] k else err6 j).bnd fun r k=>ok6 (acc ++ r) k)=_
 rw [if_pos h]
 cases pS l f .atoms (j + 1) with
 | none=>rfl
 | some x =>
  cases x with
  | error p=>rfl
  | ok q =>
   show ((if isAt l q.2 [124]=true then (pS l f .forms (q.2 + 1)).bnd fun fs m=>ok6 (.mk (textAt l j) q.1 :: fs) m else ok6 [.mk (textAt l j) q.1] q.2).bnd fun r k=>ok6 (acc ++ r) k)=if isAt l q.2 [124]=true then contF l f (acc ++ [.mk (textAt l j) q.1]) (q.2 + 1) else ok6 (acc ++ [.mk (textAt l j) q.1]) q.2
   by_cases hk:isAt l q.2 [124]=true
   ·
    rw [if_pos hk,if_pos hk]
    unfold contF
    cases pS l f .forms (q.2 + 1) with
    | none=>rfl
    | some y =>
     cases y with
     | error p=>rfl
     | ok z=>show some _=some _;rw [List.append_assoc];rfl
   ·
    rw [if_neg hk,if_neg hk]
    rfl
theorem contF_err {l:List Tk} {f:Nat} {acc:List Sg} {j:Nat} (h:¬ kindAt l j=3):contF l (f + 1) acc j=err6 j:=by
 show ((if kindAt l j=3 then (pS l f .atoms (j + 1)).bnd fun r k=>if isAt l k [124]=true then (pS l f .forms (k + 1)).bnd fun fs m=>ok6 (.mk (textAt l j) r :: fs) m else ok6 [.mk (textAt l j) r] k else err6 j).bnd fun r k=>ok6 (acc ++ r) k)=_
 rw [if_neg h]
 rfl
end Go.Proofs.YtinjocchommbdaaGreatDoor
