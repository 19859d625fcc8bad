/- A part of the proof that parser laws hold: texts of the walk and of its plain laws, made small. -/
import Derived.Test.YtinjocchommbdaaGreatDoorM22
set_option linter.unusedVariables false
set_option linter.unusedSimpArgs false
namespace Go.Proofs.YtinjocchommbdaaGreatDoor
open Go.RowKit
theorem DtL.wide {B B':Nat} {w:World} {v:Value} {d:Dt} (h:DtL B w v d) (hB:B'≤B):DtL B' w v d:=Lay.wide h hB (Nat.le_refl _) (Nat.le_refl _)
theorem grown_keeps {W U w2:World} {rb:Nat} {a:Option Addr} {c:Nat} {l:List Tk} {i j B:Nat} {v:Value} (h:Rd W rb a c l i) (hp:PS W rb a c l j U) (hWB:W.heap.size≤B) (hgb:∀ g,v.ownBlock=some g→B≤g) (hg:U.grownBy w2 v.ownBlock) :
  PS W rb a c l j w2∧(∀ b o,b < B→Blk U b o→Blk w2 b o)∧∀ (B1 E1:Nat) (F:World→Prop),E1≤B→Lay B1 E1 U F→Lay B1 E1 w2 F:=by
 have hr:∀ g,v.ownBlock=some g→W.heap.size≤g:=fun g q=>Nat.le_trans hWB (hgb g q)
 refine ⟨⟨hp.bb.grown hg hr,hp.rd.grown hg hr h.lt h.lowRow⟩,fun b o hb ho=>(hg.block b (blk_lt ho) (fun q=>by have:=hgb b q.symm;omega)).trans ho,fun B1 E1 F hE hl=>hl.of hg.size fun k _ h2=>hg.block k (Nat.lt_of_lt_of_le h2 hl.1) (fun q=>by have:=hgb k q.symm;omega)⟩
theorem Grow.more2 {T:TypeId} {B:Nat} {X w2:World} {v v2:Value} {acc:List Sg} {y2:Sg} {css:List (List Value)} {s':Str} {a1':Option Addr} {m1' c1':Nat} (hXB:B≤X.heap.size)
  (hc:css.length=acc.length∧∀ c ∈ css,c.length=2) (hel:∀ i (h:i < acc.length) (h2:i < css.length),LayH (ownL v) B X.heap.size X fun x=>IsSgC x css[i] acc[i]) (hy:LayH (ownL v) B X.heap.size X fun x=>IsSg x (.agg #[.string s',.slice a1' m1' c1']) y2)
  (ho:w2.ownsRow B T 2 v2 (acc.length + 1) (css.flatten ++ [.string s',.slice a1' m1' c1'])) (hg:(X.alloc (.cells #[.string s',.slice a1' m1' c1'] T)).grownBy w2 v.ownBlock) (hat:v2.ownBlock=v.ownBlock∨v2.ownBlock=some (X.alloc (.cells #[.string s',.slice a1' m1' c1'] T)).heap.size) :
  Grow T 2 IsSgC B w2 v2 (acc ++ [y2]):=by
 obtain ⟨Y,hY⟩:∃ Y,X.alloc (.cells #[.string s',.slice a1' m1' c1'] T)=Y:=⟨_,rfl⟩
 have hb:Below X.heap.size X Y:=by rw [←hY];exact (Below.refl _ _).alloc (Nat.le_refl _) _
 rw [hY] at hg hat
 exact Grow.push (css:=css) (cs:=[.string s',.slice a1' m1' c1']) hc.1 hc.2 rfl (Nat.le_trans hXB hb.size) (fun i h1 h2=>((hel i h1 h2).below hb).wide (Nat.le_refl _) hb.size (Nat.le_refl _) fun _ hk _ _=>hk) (isSgC_lay ((hy.below hb).wide (Nat.le_refl _) hb.size (Nat.le_refl _) fun _ hk _ _=>hk)) hg hat ho
section
variable {rb:Nat} {a:Option Addr} {c:Nat} {l:List Tk}
theorem at_min {l:List Tk} {f:Nat} {i j:Nat} {es:List Sg} (hi:i≤l.length) (h:pS l f .atoms i=some (.ok (es,j))):i≤j:=by
 have h1:=pS_total l (max f ((l.length - i) * 4 + lvS .atoms + 1)) .atoms i hi (by omega)
 obtain ⟨x,hx,hs⟩:=h1
 have h2:=pS_mono (Nat.le_max_left f ((l.length - i) * 4 + lvS .atoms + 1)) .atoms i _ h
 rw [hx] at h2
 obtain rfl:=Option.some.inj h2
 have h3:i + minS .atoms≤j:=hs.1
 omega
theorem blk3 {w:World} {b:Nat} {x0 x1 x2:Value} {t:TypeId} (h:Blk w b (.cells #[x0,x1,x2] t (0,0))):w.cell? ⟨b,0,none⟩=some x0∧w.cell? ⟨b,1,none⟩=some x1∧w.cell? ⟨b,2,none⟩=some x2∧(∀ o,w.frozen? ⟨b,o,none⟩=false)∧b < w.heap.size:=⟨h.cl 0,h.cl 1,h.cl 2,h.fr,h.lt⟩
set_option maxHeartbeats 8000000 in
set_option maxRecDepth 100000 in
theorem par_data {f:Nat} (hN:∀ g,g≤f→RuleA 148 rb a c l g) (W:World) (i:Nat) (x:Except Nat (Dt × Nat)) (h:Rd W rb a c l i) (hx:pData l f i=some x):Calls Tryz.prog 82 #[.pointer (some ⟨rb,0,none⟩)] W fun e W'=>GnR DtL W rb a c l x e W':=by
 unfold pData at hx
 obtain ⟨W1,hW1⟩:∃ V,W.alloc (.cells #[.string ⟨#[]⟩,.slice none 0 0,.slice none 0 0] 77)=V:=⟨_,rfl⟩
 have hb1:Below W.heap.size W W1:=by rw [←hW1];exact (Below.refl _ _).alloc (Nat.le_refl _) _
 have bA1:Hid (Blk W1 W.heap.size (.cells #[.string ⟨#[]⟩,.slice none 0 0,.slice none 0 0] 77 (0,0))):=by rw [←hW1];exact blk_new (Below.refl _ _)
 have zz1:Hid (W1.heap.size=W.heap.size + 1):=by rw [←hW1];simp [Hid]
 have hp1:=Lib.hid ((PS.refl h).below hb1)
 have hrb:=h.lt
 have h':=Lib.hid h
 have hW1':=Lib.hid hW1
 have hx0:=Lib.hid hx
 have hfl:=Tryz.fldText
 have hfn:=Tryz.fldNum
 clear hW1 hb1 h hx
 obtain ⟨i0,hi,hz0,hz1',hz2'⟩:=info_of Tryz.infoFm6
 have hN':=Lib.hid hN
 have hlen:=h'.out.len
 clear hN
 have of2:=Lib.hid (par_of hp1.out.rd 3 (by decide))
 go_enter Tryz.func82,Tryz.ntmps82
 go_upto_region 1 with (fail)
 rw [hW1'.out]
 go_wp2_with fail
 refine of2.out.mono ?_
 rintro e V3 ⟨hB,hm⟩
 by_cases ks:kindAt l (i)=3
 case neg =>
  rw [if_neg ks] at hm
  obtain rfl:=hm
  have hxx:x=.error (i):=by have:=hx0.out;rw [if_neg ks] at this;exact (Option.some.inj this).symm
  subst hxx
  exact ⟨rfl,hp1.out.bb.next hB,rfl⟩
 rw [if_pos ks] at hm
 obtain ⟨rfl,hR⟩:=hm
 have hx4:=hx0.out
 rw [if_pos ks] at hx4
 have hx4:=Lib.hid hx4
 have zV3:=Lib.hid hB.size
 have hpV3:=Lib.hid (hp1.out.call hB hR)
 have bAV3:=Lib.hid (bA1.out.bb hB (by have:=hrb;have:=zz1.out;omega))
 clear ks hB hR hx0 of2
 clear hp1 bA1
 obtain ⟨S,hS⟩:∃ S,(textAt l (i))=S:=⟨_,rfl⟩
 have hSz:Hid (S.size≤lenMax):=by rw [←hS];exact fit_text h'.out.fit _
 rw [hS] at hx4 ⊢
 clear hS
 obtain ⟨W5,hW5⟩:∃ V,V3.alloc (.cells #[.string S,.slice none 0 0,.slice none 0 0] 77)=V:=⟨_,rfl⟩
 have hbW5:Below V3.heap.size V3 W5:=by rw [←hW5];exact (Below.refl _ _).alloc (Nat.le_refl _) _
 have zW5:Hid (W5.heap.size=V3.heap.size + 1):=by rw [←hW5];simp [Hid]
 have bW5:Hid (Blk W5 V3.heap.size (.cells #[.string S,.slice none 0 0,.slice none 0 0] 77 (0,0))):=by rw [←hW5];exact Blk.new
 have hpW5:=Lib.hid (hpV3.out.below hbW5)
 have bAW5:=Lib.hid (bAV3.out.below hbW5)
 have hW5':=Lib.hid hW5
 clear hW5 hbW5 hpV3 bAV3
 have nm6:=Lib.hid (par_names hpW5.out.rd)
 go_upto_region 2 with (fail)
 rw [hW5'.out]
 go_wp2_with fail
 refine nm6.out.mono ?_
 rintro e N0 ⟨nv,rfl,hN,hB,hR⟩
 obtain ⟨na,nc,rfl,hn1,hn2,hn3,hN⟩:=hN
 have tN:Hid (Lay W5.heap.size N0.heap.size N0 fun x=>StrRow x na (nms l (i + 1))):=hN
 have zN0:=Lib.hid hB.size
 have hnn:=Lib.hid (And.intro hn1 (And.intro hn2 hn3))
 have hpN0:=Lib.hid (hpW5.out.call hB hR)
 have bAN0:=Lib.hid (bAW5.out.bb hB (by have:=hrb;have:=zz1.out;have:=zV3.out;have:=zW5.out;omega))
 have bTN0:=Lib.hid (bW5.out.bb hB (by have:=hrb;have:=zz1.out;have:=zV3.out;have:=zW5.out;omega))
 clear hB hR hN hn1 hn2 hn3 nm6 hpW5 bAW5 bW5
 have m70:N0.cell? ⟨V3.heap.size,0,none⟩=some (.string S):=((show Blk N0 V3.heap.size (.cells #[.string S,.slice none 0 0,.slice none 0 0] 77 (0,0)) from bTN0.out).cl 0).trans rfl
 have m71:N0.cell? ⟨V3.heap.size,1,none⟩=some (.slice none 0 0):=((show Blk N0 V3.heap.size (.cells #[.string S,.slice none 0 0,.slice none 0 0] 77 (0,0)) from bTN0.out).cl 1).trans rfl
 have m72:N0.cell? ⟨V3.heap.size,2,none⟩=some (.slice none 0 0):=((show Blk N0 V3.heap.size (.cells #[.string S,.slice none 0 0,.slice none 0 0] 77 (0,0)) from bTN0.out).cl 2).trans rfl
 have m7f:=(show Blk N0 V3.heap.size (.cells #[.string S,.slice none 0 0,.slice none 0 0] 77 (0,0)) from bTN0.out).fr
 have m7l:V3.heap.size < N0.heap.size:=(show Blk N0 V3.heap.size (.cells #[.string S,.slice none 0 0,.slice none 0 0] 77 (0,0)) from bTN0.out).lt
 go_upto_region 3 with (fail)
 obtain ⟨M8,hM8⟩:∃ V,N0.setCell ⟨V3.heap.size,1,none⟩ (.slice na (nms l (i + 1)).length nc)=V:=⟨_,rfl⟩
 try rw [hM8]
 clear m70 m71 m72 m7f m7l
 have hsM8:=(show Blk N0 V3.heap.size (.cells #[.string S,.slice none 0 0,.slice none 0 0] 77 (0,0)) from bTN0.out).at 1 (.slice na (nms l (i + 1)).length nc)
 rw [hM8] at hsM8
 have zM8:=Lib.hid hsM8.2.size
 have hpM8:Hid (PS W rb a c l (i + 1 + (nms l (i + 1)).length) M8):=PS.own h'.out hpN0.out hsM8.2 (by have:=hrb;have:=zz1.out;have:=zV3.out;have:=zW5.out;have:=zN0.out;omega)
 have bAM8:Hid (Blk M8 W.heap.size (.cells #[.string ⟨#[]⟩,.slice none 0 0,.slice none 0 0] 77 (0,0))):=(show Blk N0 W.heap.size (.cells #[.string ⟨#[]⟩,.slice none 0 0,.slice none 0 0] 77 (0,0)) from bAN0.out).own hsM8.2 (by have:=hrb;have:=zz1.out;have:=zV3.out;have:=zW5.out;have:=zN0.out;omega)
 have tNM8:=Lib.hid (tN.out.own hsM8.2 (by have:=hrb;have:=zz1.out;have:=zV3.out;have:=zW5.out;have:=zN0.out;omega))
 have bTM8:Hid (Blk M8 V3.heap.size (.cells #[.string S,.slice na (nms l (i + 1)).length nc,.slice none 0 0] 77 (0,0))):=hsM8.1
 clear hM8 hsM8 bTN0 hpN0 bAN0 tN
 have sg9:Hid (Calls Tryz.prog 64 #[.pointer (some ⟨rb,0,none⟩),.string ⟨#[61]⟩] M8 fun e W'=>Bb M8.heap.size rb M8 W'∧if isAt l (i + 1 + (nms l (i + 1)).length) [61]=true then e=.returned (.tuple #[])∧Rd W' rb a c l ((i + 1 + (nms l (i + 1)).length) + 1) else e=stuckE (i + 1 + (nms l (i + 1)).length)):=par_sign hpM8.out.rd [61]
 go_wp2_with fail
 refine sg9.out.mono ?_
 rintro e V10 ⟨hB,hm⟩
 by_cases ks:isAt l (i + 1 + (nms l (i + 1)).length) [61]=true
 case neg =>
  rw [if_neg ks] at hm
  obtain rfl:=hm
  have hxx:=sgn6_err hx4.out ks
  subst hxx
  exact ⟨rfl,hpM8.out.bb.next hB,rfl⟩
 rw [if_pos ks] at hm
 obtain ⟨rfl,hR⟩:=hm
 have hx11:=Lib.hid (sgn6_ok hx4.out ks)
 try dsimp only at hx11
 have zV10:=Lib.hid hB.size
 have hpV10:=Lib.hid (hpM8.out.call hB hR)
 have bAV10:=Lib.hid (bAM8.out.bb hB (by have:=hrb;have:=zz1.out;have:=zV3.out;have:=zW5.out;have:=zN0.out;have:=zM8.out;omega))
 have tNV10:=Lib.hid (tNM8.out.bb hB (by have:=hrb;have:=zz1.out;have:=zV3.out;have:=zW5.out;have:=zN0.out;have:=zM8.out;omega))
 have bTV10:=Lib.hid (bTM8.out.bb hB (by have:=hrb;have:=zz1.out;have:=zV3.out;have:=zW5.out;have:=zN0.out;have:=zM8.out;omega))
 clear ks hB hR hx4 sg9
 clear hpM8 bAM8 tNM8 bTM8
 obtain ⟨x3,hx3,kx3⟩:=pS_split hx11.out
 have hc0:Hid (contF l f [] (i + 1 + (nms l (i + 1)).length + 1)=some x3):=by
  unfold Hid contF
  rw [hx3]
  cases x3 with
  | error p=>rfl
  | ok q=>rfl
 have kx3':=Lib.hid kx3
 clear hx3 kx3 hx11
 have hG0:Hid (Grow 125 2 IsSgC N0.heap.size V10 (.slice none 0 0) []):=Grow.nil (by have:=hrb;have:=zz1.out;have:=zV3.out;have:=zW5.out;have:=zN0.out;have:=zM8.out;have:=zV10.out;omega)
 have hbase:Hid (W.heap.size < V3.heap.size∧V3.heap.size < N0.heap.size∧W.heap.size≤N0.heap.size∧rb < V3.heap.size∧rb < W.heap.size∧W5.heap.size≤N0.heap.size∧V3.heap.size < W5.heap.size):=⟨by have:=hrb;have:=zz1.out;have:=zV3.out;have:=zW5.out;have:=zN0.out;have:=zM8.out;have:=zV10.out;omega,by have:=hrb;have:=zz1.out;have:=zV3.out;have:=zW5.out;have:=zN0.out;have:=zM8.out;have:=zV10.out;omega,by have:=hrb;have:=zz1.out;have:=zV3.out;have:=zW5.out;have:=zN0.out;have:=zM8.out;have:=zV10.out;omega,by have:=hrb;have:=zz1.out;have:=zV3.out;have:=zW5.out;have:=zN0.out;have:=zM8.out;have:=zV10.out;omega,by have:=hrb;have:=zz1.out;have:=zV3.out;have:=zW5.out;have:=zN0.out;have:=zM8.out;have:=zV10.out;omega,by have:=hrb;have:=zz1.out;have:=zV3.out;have:=zW5.out;have:=zN0.out;have:=zM8.out;have:=zV10.out;omega,by have:=hrb;have:=zz1.out;have:=zV3.out;have:=zW5.out;have:=zN0.out;have:=zM8.out;have:=zV10.out;omega⟩
 go_wp2_with fail
 go_loopg [4] f (fun g bv X=>∃ (tb:Bool) (acc:List Sg) (j:Nat) (v:Value),bv=.bool tb∧Hid (g≤f)∧Hid (Grow 125 2 IsSgC N0.heap.size X v acc)∧Hid (PS W rb a c l j X)∧Hid (Blk X W.heap.size (.cells #[.string ⟨#[]⟩,.slice none 0 0,.slice none 0 0] 77 (0,0)))∧Hid (Blk X V3.heap.size (.cells #[.string S,.slice na (nms l (i + 1)).length nc,v] 77 (0,0)))∧Hid (Lay W5.heap.size N0.heap.size X fun x=>StrRow x na (nms l (i + 1)))∧Hid (if tb=true then contF l g acc j=some x3 else x3=.ok (acc,j))∧Hid (acc.length≤j))
 case atStart=>exact ⟨true,[],_,.slice none 0 0,rfl,Nat.le_refl _,hG0.out,hpV10.out,bAV10.out,bTV10.out,tNV10.out,hc0.out,Nat.zero_le _⟩
 case round =>
  obtain ⟨tb,acc,j,v,rfl,hg,hgr,hp,bA,bT,tN9,hc,haj⟩:=hrel
  obtain ⟨X,rfl⟩:∃ W,W=wr:=⟨_,rfl⟩
  clear hG0 hc0 hpV10 bAV10 bTV10 tNV10
  obtain ⟨va,vc,rfl,hvn,hvc⟩:=hgr.out.form
  clear hvn hvc
  cases tb with
  | false =>
   have hxx:x3=.ok (acc,j):=hc.out
   have hx9:=kx3'.out
   rw [hxx] at hx9
   have hx8:Hid (x=.ok (⟨S,nms l (i + 1),acc⟩,j)):=(Option.some.inj hx9).symm
   clear hxx hx9 hc
   obtain ⟨ea,ec,hev,hcap,hL⟩:=hgr.out.sgs
   simp only [Value.slice.injEq,true_and] at hev
   obtain ⟨rfl,rfl⟩:=hev
   have hs1:=(show Blk X W.heap.size (.cells #[.string ⟨#[]⟩,.slice none 0 0,.slice none 0 0] 77 (0,0)) from bA.out).at 0 (.string S)
   have hs2:=hs1.1.at 1 (.slice na (nms l (i + 1)).length nc)
   have hs3:=hs2.1.at 2 (.slice va acc.length vc)
   have hsA:=(hs1.2.trans hs2.2).trans hs3.2
   have hbk:=hs3.1
   obtain ⟨Z,hZ⟩:∃ Z,((X.setCell ⟨W.heap.size,0,none⟩ (.string S)).setCell ⟨W.heap.size,1,none⟩ (.slice na (nms l (i + 1)).length nc)).setCell ⟨W.heap.size,2,none⟩ (.slice va acc.length vc)=Z:=⟨_,rfl⟩
   rw [hZ] at hsA hbk
   have hbk2:Hid (Blk Z W.heap.size (.cells #[.string S,.slice na (nms l (i + 1)).length nc,.slice va acc.length vc] 77 (0,0))):=hbk
   have hpZ:=PS.own h'.out hp.out hsA (Nat.le_refl _)
   have hfin:Hid (GnR DtL W rb a c l x (.returned (.agg #[.string S,.slice na (nms l (i + 1)).length nc,.slice va acc.length vc])) Z):=by
    refine ⟨hpZ.bb,?_⟩
    rw [hx8.out]
    refine ⟨_,rfl,?_,hpZ.rd⟩
    have t1:=(tN9.out.own hsA (.inl (by have:=hbase.out;have:=zz1.out;omega))).wide (B':=W.heap.size) (E':=Z.heap.size) (by have:=hbase.out;have:=zz1.out;omega) (by rw [hsA.size];have:=hgr.out.sgs;have:=hp.out.size;have:=hL.1;exact Nat.le_trans (show N0.heap.size≤X.heap.size from hgr.out.choose_spec.2.2.2.1) (Nat.le_refl _)) (Nat.le_refl _)
    have t2:=(hL.own hsA (.inl (by have:=hbase.out;omega))).wide (B':=W.heap.size) (E':=Z.heap.size) (by have:=hbase.out;omega) (by rw [hsA.size];exact Nat.le_refl _) (Nat.le_refl _)
    exact ⟨Nat.le_refl _,fun y hy=>⟨na,nc,va,vc,rfl,hnn.out.1,hSz.out,show (nms l (i + 1)).length≤lenMax by have:=hnn.out.2.2;unfold lenMax;omega,show acc.length≤lenMax by have:=haj.out;have:=hp.out.rd.le;unfold lenMax;omega,t1.2 y hy,t2.2 y hy⟩⟩
   have m120:X.cell? ⟨W.heap.size,0,none⟩=some (.string ⟨#[]⟩):=((show Blk X W.heap.size (.cells #[.string ⟨#[]⟩,.slice none 0 0,.slice none 0 0] 77 (0,0)) from bA.out).cl 0).trans rfl
   have m121:X.cell? ⟨W.heap.size,1,none⟩=some (.slice none 0 0):=((show Blk X W.heap.size (.cells #[.string ⟨#[]⟩,.slice none 0 0,.slice none 0 0] 77 (0,0)) from bA.out).cl 1).trans rfl
   have m122:X.cell? ⟨W.heap.size,2,none⟩=some (.slice none 0 0):=((show Blk X W.heap.size (.cells #[.string ⟨#[]⟩,.slice none 0 0,.slice none 0 0] 77 (0,0)) from bA.out).cl 2).trans rfl
   have m12f:=(show Blk X W.heap.size (.cells #[.string ⟨#[]⟩,.slice none 0 0,.slice none 0 0] 77 (0,0)) from bA.out).fr
   have m12l:W.heap.size < X.heap.size:=(show Blk X W.heap.size (.cells #[.string ⟨#[]⟩,.slice none 0 0,.slice none 0 0] 77 (0,0)) from bA.out).lt
   have m130:X.cell? ⟨V3.heap.size,0,none⟩=some (.string S):=((show Blk X V3.heap.size (.cells #[.string S,.slice na (nms l (i + 1)).length nc,.slice va acc.length vc] 77 (0,0)) from bT.out).cl 0).trans rfl
   have m131:X.cell? ⟨V3.heap.size,1,none⟩=some (.slice na (nms l (i + 1)).length nc):=((show Blk X V3.heap.size (.cells #[.string S,.slice na (nms l (i + 1)).length nc,.slice va acc.length vc] 77 (0,0)) from bT.out).cl 1).trans rfl
   have m132:X.cell? ⟨V3.heap.size,2,none⟩=some (.slice va acc.length vc):=((show Blk X V3.heap.size (.cells #[.string S,.slice na (nms l (i + 1)).length nc,.slice va acc.length vc] 77 (0,0)) from bT.out).cl 2).trans rfl
   have m13f:=(show Blk X V3.heap.size (.cells #[.string S,.slice na (nms l (i + 1)).length nc,.slice va acc.length vc] 77 (0,0)) from bT.out).fr
   have m13l:V3.heap.size < X.heap.size:=(show Blk X V3.heap.size (.cells #[.string S,.slice na (nms l (i + 1)).length nc,.slice va acc.length vc] 77 (0,0)) from bT.out).lt
   clear hs1 hs2 hs3 hsA hbk hpZ hcap hL
   go_wp2_with fail
   try rw [hZ]
   refine bodyPost_ret (results_dt rfl _ _ rfl hbk2.out) rfl hfin.out
  | true =>
   obtain ⟨g,rfl⟩:∃ g',gk=g' + 1:=by
    cases gk with
    | zero=>exact (contF_zero hc.out).elim
    | succ g=>exact ⟨g,rfl⟩
   have hc2:=hc.out
   rw [if_pos rfl] at hc2
   have zX:Hid (N0.heap.size≤X.heap.size):=hgr.out.choose_spec.2.2.2.1
   have gE:=Lib.hid hgr.out.toE
   have co:=Lib.hid (par_of hp.out.rd 3 (by decide))
   go_wp2_with fail
   refine co.out.mono ?_
   rintro e V1 ⟨hB,hm⟩
   by_cases ks:kindAt l j=3
   case neg =>
    rw [if_neg ks] at hm
    obtain rfl:=hm
    rw [contF_err ks] at hc2
    have hx4:x3=.error j:=(Option.some.inj hc2).symm
    have hxx:=kx3'.out
    rw [hx4] at hxx
    dsimp only at hxx
    subst hxx
    exact ⟨rfl,hp.out.bb.next hB,rfl⟩
   rw [if_pos ks] at hm
   obtain ⟨rfl,hR⟩:=hm
   rw [contF_next ks] at hc2
   obtain ⟨x4,hx4,kx4⟩:=pS_split hc2
   have kx4':=Lib.hid kx4
   have hx4':=Lib.hid hx4
   have zV1:=Lib.hid hB.size
   have hpV1:=Lib.hid (hp.out.call hB hR)
   have bAV1:=Lib.hid (bA.out.bb hB (by have:=hrb;have:=zz1.out;have:=hbase.out;have:=zX.out;omega))
   have bTV1:=Lib.hid (bT.out.bb hB (by have:=hrb;have:=zz1.out;have:=hbase.out;have:=zX.out;omega))
   have tNV1:=Lib.hid (tN9.out.bb hB (by have:=hrb;have:=zz1.out;have:=hbase.out;have:=zX.out;omega))
   have gEV1:=Lib.hid (gE.out.bb hB (by have:=hrb;have:=zz1.out;have:=hbase.out;have:=zX.out;omega))
   clear hB hR hc hc2 hx4 kx4 co ks hgr hp bA bT tN9 gE
   obtain ⟨FQ,hFS⟩:∃ S,textAt l j=S:=⟨_,rfl⟩
   have hFz:Hid (FQ.size≤lenMax):=by rw [←hFS];exact fit_text h'.out.fit _
   rw [hFS] at kx4' ⊢
   clear hFS
   obtain ⟨W14,hW14⟩:∃ V,V1.alloc (.cells #[.string FQ,.slice none 0 0] 125)=V:=⟨_,rfl⟩
   have hbW14:Below V1.heap.size V1 W14:=by rw [←hW14];exact (Below.refl _ _).alloc (Nat.le_refl _) _
   have zW14:Hid (W14.heap.size=V1.heap.size + 1):=by rw [←hW14];simp [Hid]
   have bW14:Hid (Blk W14 V1.heap.size (.cells #[.string FQ,.slice none 0 0] 125 (0,0))):=by rw [←hW14];exact Blk.new
   have hpW14:=Lib.hid (hpV1.out.below hbW14)
   have bAW14:=Lib.hid (bAV1.out.below hbW14)
   have bTW14:=Lib.hid (bTV1.out.below hbW14)
   have tNW14:=Lib.hid (tNV1.out.below hbW14)
   have gEW14:=Lib.hid (gEV1.out.below hbW14)
   have hW14':=Lib.hid hW14
   clear hW14 hbW14 hpV1 bAV1 bTV1 tNV1 gEV1
   have cN:=Lib.hid ((hN'.out g (by have:=hg.out;omega)) W14 (j + 1) x4 hpW14.out.rd hx4'.out)
   go_upto_region 8 with (fail)
   rw [hW14'.out]
   go_wp2_with fail
   refine cN.out.mono ?_
   rintro e Y ⟨hB,hm⟩
   rcases x4 with p | ⟨es,k⟩
   case error =>
    obtain rfl:=hm
    have hx5:=kx4'.out
    dsimp only at hx5
    have hxx:=kx3'.out
    rw [hx5] at hxx
    dsimp only at hxx
    subst hxx
    exact ⟨rfl,hpW14.out.bb.next hB,rfl⟩
   obtain ⟨v,rfl,⟨ea,ec,rfl,hcap,hL⟩,hR,hln⟩:=hm
   have zY:=Lib.hid hB.size
   have tR:Hid (Lay W14.heap.size Y.heap.size Y fun x=>SgRow x ea es):=hL
   have hln2:Hid (es.length≤lenMax):=by unfold lenMax Hid;omega
   have hjk:Hid (j + 1≤k):=at_min hpW14.out.rd.le hx4'.out
   have hpY:=Lib.hid (hpW14.out.call hB hR)
   have bAY:=Lib.hid (bAW14.out.bb hB (by have:=hrb;have:=zz1.out;have:=hbase.out;have:=zX.out;have:=zV1.out;have:=zW14.out;omega))
   have bTY:=Lib.hid (bTW14.out.bb hB (by have:=hrb;have:=zz1.out;have:=hbase.out;have:=zX.out;have:=zV1.out;have:=zW14.out;omega))
   have tNY:=Lib.hid (tNW14.out.bb hB (by have:=hrb;have:=zz1.out;have:=hbase.out;have:=zX.out;have:=zV1.out;have:=zW14.out;omega))
   have gEY:=Lib.hid (gEW14.out.bb hB (by have:=hrb;have:=zz1.out;have:=hbase.out;have:=zX.out;have:=zV1.out;have:=zW14.out;omega))
   have bFY:=Lib.hid (bW14.out.bb hB (by have:=hrb;have:=zz1.out;have:=hbase.out;have:=zX.out;have:=zV1.out;have:=zW14.out;omega))
   have tF:Hid (Lay W14.heap.size Y.heap.size Y fun x=>IsSg x (.agg #[.string FQ,.slice ea es.length ec]) (.mk FQ es)):=⟨tR.out.1,fun x hx=>by simp only [IsSg];exact ⟨ea,ec,rfl,hFz.out,hln2.out,sgFrom_row (tR.out.2 x hx)⟩⟩
   clear hB hR hL hcap hln cN tR hpW14 bAW14 bTW14 tNW14 gEW14 bW14
   obtain ⟨⟨m150,m151⟩,m15f⟩:=(show Box2 Y 125 V1.heap.size (.string FQ) (.slice none 0 0) from bFY.out).cells
   have m15l:V1.heap.size < Y.heap.size:=blk_lt (show Box2 Y 125 V1.heap.size (.string FQ) (.slice none 0 0) from bFY.out)
   go_upto_region 9 with (fail)
   obtain ⟨M16,hM16⟩:∃ V,Y.setCell ⟨V1.heap.size,1,none⟩ (.slice ea es.length ec)=V:=⟨_,rfl⟩
   try rw [hM16]
   clear m150 m151 m15f m15l
   have hsM16:=(show Box2 Y 125 V1.heap.size (.string FQ) (.slice none 0 0) from bFY.out).at1 (.slice ea es.length ec)
   rw [hM16] at hsM16
   have zM16:=Lib.hid hsM16.2.size
   have hpM16:Hid (PS W rb a c l (k) M16):=PS.own h'.out hpY.out hsM16.2 (by have:=hrb;have:=zz1.out;have:=hbase.out;have:=zX.out;have:=zV1.out;have:=zW14.out;have:=zY.out;omega)
   have bAM16:Hid (Blk M16 W.heap.size (.cells #[.string ⟨#[]⟩,.slice none 0 0,.slice none 0 0] 77 (0,0))):=(show Blk Y W.heap.size (.cells #[.string ⟨#[]⟩,.slice none 0 0,.slice none 0 0] 77 (0,0)) from bAY.out).own hsM16.2 (by have:=hrb;have:=zz1.out;have:=hbase.out;have:=zX.out;have:=zV1.out;have:=zW14.out;have:=zY.out;omega)
   have bTM16:Hid (Blk M16 V3.heap.size (.cells #[.string S,.slice na (nms l (i + 1)).length nc,.slice va acc.length vc] 77 (0,0))):=(show Blk Y V3.heap.size (.cells #[.string S,.slice na (nms l (i + 1)).length nc,.slice va acc.length vc] 77 (0,0)) from bTY.out).own hsM16.2 (by have:=hrb;have:=zz1.out;have:=hbase.out;have:=zX.out;have:=zV1.out;have:=zW14.out;have:=zY.out;omega)
   have tNM16:=Lib.hid (tNY.out.own hsM16.2 (by have:=hrb;have:=zz1.out;have:=hbase.out;have:=zX.out;have:=zV1.out;have:=zW14.out;have:=zY.out;omega))
   have gEM16:=Lib.hid (gEY.out.own hsM16.2 (by have:=hrb;have:=zz1.out;have:=hbase.out;have:=zX.out;have:=zV1.out;have:=zW14.out;have:=zY.out;omega))
   have tFM16:=Lib.hid (tF.out.own hsM16.2 (by have:=hrb;have:=zz1.out;have:=hbase.out;have:=zX.out;have:=zV1.out;have:=zW14.out;have:=zY.out;omega))
   have bFM16:Hid (Box2 M16 125 V1.heap.size (.string FQ) (.slice ea es.length ec)):=hsM16.1
   clear hM16 hsM16 bFY hpY bAY bTY tNY gEY tF
   obtain ⟨css,hcl1,hcl2,hown,hBX,hel⟩:=gEM16.out.to
   have hel':=Lib.hid hel
   have hown':=Lib.hid hown
   have hgb:=Lib.hid (fun g q=>(ownBlock_ge hown (g:=g) q).1)
   have hgX:=Lib.hid gEM16.out.2.2.1
   have hn63:acc.length + 1≤maxLen:=by have:=haj.out;have:=hpM16.out.rd.le;have:=hjk.out;unfold maxLen;omega
   have hsz40:(acc.length + 1) * 40≤140737488355328:=by have:=haj.out;have:=hpM16.out.rd.le;have:=hjk.out;omega
   have hcl':=Lib.hid (And.intro hcl1 hcl2)
   have hb9:N0.heap.size≤M16.heap.size:=hBX
   have hy9:Hid (LayH (ownL (.slice va acc.length vc)) N0.heap.size M16.heap.size M16 fun x=>IsSg x (.agg #[.string FQ,.slice ea es.length ec]) (.mk FQ es)):=LayH.of_lay tFM16.out (by have:=hrb;have:=zz1.out;have:=hbase.out;have:=zX.out;have:=zV1.out;have:=zW14.out;have:=zY.out;have:=zM16.out;omega) (by have:=hrb;have:=zz1.out;have:=hbase.out;have:=zX.out;have:=zV1.out;have:=zW14.out;have:=zY.out;have:=zM16.out;omega) (Nat.le_refl _) (fun q hq=>.inl (by have:=hgX.out q (ownL_mem.1 hq);revert this;intro this;have:=hrb;have:=zz1.out;have:=hbase.out;have:=zX.out;have:=zV1.out;have:=zW14.out;have:=zY.out;have:=zM16.out;omega))
   clear hel hown hcl1 hcl2
   have m170:M16.cell? ⟨V3.heap.size,0,none⟩=some (.string S):=((show Blk M16 V3.heap.size (.cells #[.string S,.slice na (nms l (i + 1)).length nc,.slice va acc.length vc] 77 (0,0)) from bTM16.out).cl 0).trans rfl
   have m171:M16.cell? ⟨V3.heap.size,1,none⟩=some (.slice na (nms l (i + 1)).length nc):=((show Blk M16 V3.heap.size (.cells #[.string S,.slice na (nms l (i + 1)).length nc,.slice va acc.length vc] 77 (0,0)) from bTM16.out).cl 1).trans rfl
   have m172:M16.cell? ⟨V3.heap.size,2,none⟩=some (.slice va acc.length vc):=((show Blk M16 V3.heap.size (.cells #[.string S,.slice na (nms l (i + 1)).length nc,.slice va acc.length vc] 77 (0,0)) from bTM16.out).cl 2).trans rfl
   have m17f:=(show Blk M16 V3.heap.size (.cells #[.string S,.slice na (nms l (i + 1)).length nc,.slice va acc.length vc] 77 (0,0)) from bTM16.out).fr
   have m17l:V3.heap.size < M16.heap.size:=(show Blk M16 V3.heap.size (.cells #[.string S,.slice na (nms l (i + 1)).length nc,.slice va acc.length vc] 77 (0,0)) from bTM16.out).lt
   obtain ⟨⟨m180,m181⟩,m18f⟩:=(show Box2 M16 125 V1.heap.size (.string FQ) (.slice ea es.length ec) from bFM16.out).cells
   have m18l:V1.heap.size < M16.heap.size:=blk_lt (show Box2 M16 125 V1.heap.size (.string FQ) (.slice ea es.length ec) from bFM16.out)
   go_wp2_with (at_builtin;go_must (refine wpList_append_own_at _ rfl _ _ 75 rfl N0.heap.size 125 i0 (.agg #[.string ⟨#[]⟩,.slice none 0 0]) 2 40 Tryz.underlying75 hi hz0 hz1' hz2' rfl (by decide) _ _ _ rfl (hown'.out.alloc _) ⟨M16.heap.size,0,none⟩ 1 1 [.string FQ,.slice ea es.length ec] rfl rfl (cells_new6 _ #[.string FQ,.slice ea es.length ec] _) (by simp [Value.oneCell']) hn63 hsz40 (by simp;omega) ?_);intro v2 w2 hown2 hg2 _ hat2;have hG2:Hid (Grow 125 2 IsSgC N0.heap.size w2 v2 (acc ++ [.mk FQ es])):=Grow.more2 hb9 hcl'.out hel'.out hy9.out hown2 hg2 hat2;have hkp:=Lib.hid (grown_keeps h'.out (hpM16.out.below ((Below.refl _ _).alloc (Nat.le_refl _) _)) hbase.out.2.2.1 hgb.out hg2);have bA2:Hid (Blk w2 W.heap.size (.cells #[.string ⟨#[]⟩,.slice none 0 0,.slice none 0 0] 77 (0,0))):=hkp.out.2.1 _ _ (by have:=hbase.out;omega) ((show Blk M16 W.heap.size (.cells #[.string ⟨#[]⟩,.slice none 0 0,.slice none 0 0] 77 (0,0)) from bAM16.out).below ((Below.refl _ _).alloc (Nat.le_refl _) _));have bT2:Hid (Blk w2 V3.heap.size (.cells #[.string S,.slice na (nms l (i + 1)).length nc,.slice va acc.length vc] 77 (0,0))):=hkp.out.2.1 _ _ (by have:=hbase.out;omega) ((show Blk M16 V3.heap.size (.cells #[.string S,.slice na (nms l (i + 1)).length nc,.slice va acc.length vc] 77 (0,0)) from bTM16.out).below ((Below.refl _ _).alloc (Nat.le_refl _) _));have tN2:Hid (Lay W5.heap.size N0.heap.size w2 fun x=>StrRow x na (nms l (i + 1))):=hkp.out.2.2 _ _ _ (Nat.le_refl _) (tNM16.out.below ((Below.refl _ _).alloc (Nat.le_refl _) _));have hp2:=Lib.hid hkp.out.1;clear hown2 hg2 hat2 m170 m171 m172 m17f m17l m180 m181 m18f m18l;obtain ⟨va2,vc2,rfl,hvn2,hvc2⟩:=hG2.out.form;clear hvn2 hvc2;obtain ⟨q0,q1,q2,qf,ql⟩:=blk3 (show Blk w2 V3.heap.size (.cells #[.string S,.slice na (nms l (i + 1)).length nc,.slice va acc.length vc] 77 (0,0)) from bT2.out))
   have e1:(acc ++ [Sg.mk FQ es]).length=acc.length + 1:=by simp
   rw [e1] at hG2
   clear q0 q1 q2 qf ql e1 hel' hown' hgb hgX hn63 hsz40 hcl' hb9 hy9 hkp
   have gG:=Lib.hid hG2.out.toE
   have zw2:Hid (N0.heap.size≤w2.heap.size):=hG2.out.choose_spec.2.2.2.1
   obtain ⟨M19,hM19⟩:∃ V,w2.setCell ⟨V3.heap.size,2,none⟩ (.slice va2 (acc.length + 1) vc2)=V:=⟨_,rfl⟩
   try rw [hM19]
   have hsM19:=(show Blk w2 V3.heap.size (.cells #[.string S,.slice na (nms l (i + 1)).length nc,.slice va acc.length vc] 77 (0,0)) from bT2.out).at 2 (.slice va2 (acc.length + 1) vc2)
   rw [hM19] at hsM19
   have zM19:=Lib.hid hsM19.2.size
   have hpM19:Hid (PS W rb a c l (k) M19):=PS.own h'.out hp2.out hsM19.2 (by have:=hrb;have:=zz1.out;have:=hbase.out;have:=zw2.out;omega)
   have bAM19:Hid (Blk M19 W.heap.size (.cells #[.string ⟨#[]⟩,.slice none 0 0,.slice none 0 0] 77 (0,0))):=(show Blk w2 W.heap.size (.cells #[.string ⟨#[]⟩,.slice none 0 0,.slice none 0 0] 77 (0,0)) from bA2.out).own hsM19.2 (by have:=hrb;have:=zz1.out;have:=hbase.out;have:=zw2.out;omega)
   have tNM19:=Lib.hid (tN2.out.own hsM19.2 (by have:=hrb;have:=zz1.out;have:=hbase.out;have:=zw2.out;omega))
   have gEM19:=Lib.hid (gG.out.own hsM19.2 (by have:=hrb;have:=zz1.out;have:=hbase.out;have:=zw2.out;omega))
   have bTM19:Hid (Blk M19 V3.heap.size (.cells #[.string S,.slice na (nms l (i + 1)).length nc,.slice va2 (acc.length + 1) vc2] 77 (0,0))):=hsM19.1
   clear hM19 hsM19 bT2 hp2 bA2 tN2 gG
   obtain ⟨W20,hW20⟩:∃ V,M19.alloc (.cells #[.string ⟨#[124]⟩] 9)=V:=⟨_,rfl⟩
   have hbW20:Below M19.heap.size M19 W20:=by rw [←hW20];exact (Below.refl _ _).alloc (Nat.le_refl _) _
   have zW20:Hid (W20.heap.size=M19.heap.size + 1):=by rw [←hW20];simp [Hid]
   have bW20:Hid (Blk W20 (w2.heap.size) (.cells #[.string ⟨#[124]⟩] 9 (0,0))):=by have e:=zM19.out;rw [←hW20,←e];exact Blk.new
   have hpW20:=Lib.hid (hpM19.out.below hbW20)
   have bAW20:=Lib.hid (bAM19.out.below hbW20)
   have tNW20:=Lib.hid (tNM19.out.below hbW20)
   have gEW20:=Lib.hid (gEM19.out.below hbW20)
   have bTW20:=Lib.hid (bTM19.out.below hbW20)
   have hW20':=Lib.hid hW20
   clear hW20 hbW20 hpM19 bAM19 tNM19 gEM19 bTM19
   rw [hW20'.out]
   have hany:Hid (Calls Tryz.prog 62 #[.pointer (some ⟨rb,0,none⟩),.slice (some ⟨(w2.heap.size),0,none⟩) 1 1] W20 fun e W'=>e=.returned (.tuple #[.string (oS (anyAt l k [[124]])),.bool (anyAt l k [[124]]).isSome])∧Bb W20.heap.size rb W20 W'∧Rd W' rb a c l (k + oN (anyAt l k [[124]]))):=any_call (ss:=[[124]]) hpW20.out.rd ⟨blk_lt (show Blk W20 (w2.heap.size) (.cells #[.string ⟨#[124]⟩] 9 (0,0)) from bW20.out),fun j hj=>by
    obtain rfl:j=0:=by simp at hj;omega
    exact ((show Blk W20 (w2.heap.size) (.cells #[.string ⟨#[124]⟩] 9 (0,0)) from bW20.out).cl 0).trans rfl⟩ (by decide)
   have hk9:=kx4'.out
   try dsimp only at hk9
   by_cases ko:isAt l k [124]=true
   case neg =>
    rw [if_neg ko] at hk9
    have ho:anyAt l k [[124]]=none:=by simp only [anyAt,List.find?_cons,List.find?_nil];simp [ko]
    rw [ho] at hany
    simp only [oS,oN,Option.isSome_none,Nat.add_zero] at hany
    have hk8:Hid (x3=.ok (acc ++ [.mk FQ es],k)):=(Option.some.inj hk9).symm
    clear hk9 ho ko
    refine hany.out.mono ?_
    rintro e U ⟨rfl,hB,hR⟩
    have zU:=Lib.hid hB.size
    have hpU:=Lib.hid (hpW20.out.call hB hR)
    have bAU:=Lib.hid (bAW20.out.bb hB (by have:=hrb;have:=zz1.out;have:=hbase.out;have:=zw2.out;have:=zM19.out;have:=zW20.out;omega))
    have tNU:=Lib.hid (tNW20.out.bb hB (by have:=hrb;have:=zz1.out;have:=hbase.out;have:=zw2.out;have:=zM19.out;have:=zW20.out;omega))
    have gEU:=Lib.hid (gEW20.out.bb hB (by have:=hrb;have:=zz1.out;have:=hbase.out;have:=zw2.out;have:=zM19.out;have:=zW20.out;omega))
    have bTU:=Lib.hid (bTW20.out.bb hB (by have:=hrb;have:=zz1.out;have:=hbase.out;have:=zw2.out;have:=zM19.out;have:=zW20.out;omega))
    have rOU:=Lib.hid (bW20.out.bb hB (by have:=hrb;have:=zz1.out;have:=hbase.out;have:=zw2.out;have:=zM19.out;have:=zW20.out;omega))
    clear hB hR hany hpW20 bAW20 tNW20 gEW20 bTW20 bW20
    go_wp2_with fail
    go_roundg g
    case measure=>omega
    case rel=>exact ⟨false,acc ++ [Sg.mk FQ es],k,.slice va2 (acc.length + 1) vc2,rfl,by have:=hg.out;unfold Hid;omega,gEU.out.to,hpU.out,bAU.out,bTU.out,tNU.out,hk8.out,by have:=hjk.out;have:=haj.out;unfold Hid;rw [List.length_append];simp only [List.length_cons,List.length_nil];omega⟩
   rw [if_pos ko] at hk9
   have ho:anyAt l k [[124]]=some [124]:=by simp only [anyAt,List.find?_cons];rw [ko]
   rw [ho] at hany
   simp only [oS,oN,Option.isSome_some] at hany
   have hk8:Hid (contF l g (acc ++ [.mk FQ es]) (k + 1)=some x3):=hk9
   clear hk9 ho ko
   refine hany.out.mono ?_
   rintro e U ⟨rfl,hB,hR⟩
   have zU:=Lib.hid hB.size
   have hpU:=Lib.hid (hpW20.out.call hB hR)
   have bAU:=Lib.hid (bAW20.out.bb hB (by have:=hrb;have:=zz1.out;have:=hbase.out;have:=zw2.out;have:=zM19.out;have:=zW20.out;omega))
   have tNU:=Lib.hid (tNW20.out.bb hB (by have:=hrb;have:=zz1.out;have:=hbase.out;have:=zw2.out;have:=zM19.out;have:=zW20.out;omega))
   have gEU:=Lib.hid (gEW20.out.bb hB (by have:=hrb;have:=zz1.out;have:=hbase.out;have:=zw2.out;have:=zM19.out;have:=zW20.out;omega))
   have bTU:=Lib.hid (bTW20.out.bb hB (by have:=hrb;have:=zz1.out;have:=hbase.out;have:=zw2.out;have:=zM19.out;have:=zW20.out;omega))
   have rOU:=Lib.hid (bW20.out.bb hB (by have:=hrb;have:=zz1.out;have:=hbase.out;have:=zw2.out;have:=zM19.out;have:=zW20.out;omega))
   clear hB hR hany hpW20 bAW20 tNW20 gEW20 bTW20 bW20
   go_wp2_with fail
   go_roundg g
   case measure=>omega
   case rel=>exact ⟨true,acc ++ [Sg.mk FQ es],k + 1,.slice va2 (acc.length + 1) vc2,rfl,by have:=hg.out;unfold Hid;omega,gEU.out.to,hpU.out,bAU.out,bTU.out,tNU.out,hk8.out,by have:=hjk.out;have:=haj.out;unfold Hid;rw [List.length_append];simp only [List.length_cons,List.length_nil];omega⟩
end
end Go.Proofs.YtinjocchommbdaaGreatDoor
namespace Go.Proofs.YtinjocchommbdaaGreatDoor
open Go.RowKit
theorem DfL.wide {B B':Nat} {w:World} {v:Value} {d:Df} (h:DfL B w v d) (hB:B'≤B):DfL B' w v d:=Lay.wide h hB (Nat.le_refl _) (Nat.le_refl _)
theorem Blk.put5 {w:World} {b:Nat} {x0 x1 x2 x3 x4 x5:Value} {t:TypeId} (h:Blk w b (.cells #[x0,x1,x2,x3,x4,x5] t (0,0))) (y1 y2 y3 y4 y5:Value) :
  Blk (((((w.setCell ⟨b,1,none⟩ y1).setCell ⟨b,2,none⟩ y2).setCell ⟨b,3,none⟩ y3).setCell ⟨b,4,none⟩ y4).setCell ⟨b,5,none⟩ y5) b (.cells #[x0,y1,y2,y3,y4,y5] t (0,0))∧OneSet b w (((((w.setCell ⟨b,1,none⟩ y1).setCell ⟨b,2,none⟩ y2).setCell ⟨b,3,none⟩ y3).setCell ⟨b,4,none⟩ y4).setCell ⟨b,5,none⟩ y5):=by
 have h1:=h.at 1 y1
 have h2:=h1.1.at 2 y2
 have h3:=h2.1.at 3 y3
 have h4:=h3.1.at 4 y4
 have h5:=h4.1.at 5 y5
 exact ⟨h5.1,(((h1.2.trans h2.2).trans h3.2).trans h4.2).trans h5.2⟩
theorem Blk.put6 {w:World} {b:Nat} {x0 x1 x2 x3 x4 x5:Value} {t:TypeId} (h:Blk w b (.cells #[x0,x1,x2,x3,x4,x5] t (0,0))) (y0 y1 y2 y3 y4 y5:Value) :
  Blk ((((((w.setCell ⟨b,0,none⟩ y0).setCell ⟨b,1,none⟩ y1).setCell ⟨b,2,none⟩ y2).setCell ⟨b,3,none⟩ y3).setCell ⟨b,4,none⟩ y4).setCell ⟨b,5,none⟩ y5) b (.cells #[y0,y1,y2,y3,y4,y5] t (0,0))∧OneSet b w ((((((w.setCell ⟨b,0,none⟩ y0).setCell ⟨b,1,none⟩ y1).setCell ⟨b,2,none⟩ y2).setCell ⟨b,3,none⟩ y3).setCell ⟨b,4,none⟩ y4).setCell ⟨b,5,none⟩ y5):=by
 have h0:=h.at 0 y0
 have h1:=h0.1.put5 y1 y2 y3 y4 y5
 exact ⟨h1.1,h0.2.trans h1.2⟩
theorem StrRow.one {w:World} {b off k:Nat} {ns:List Str} (h:StrRow w (some ⟨b,off,none⟩) ns) (hk:k < ns.length):StrRow w (some ⟨b,off + k,none⟩) [ns[k]]:=by
 rcases h with rfl | ⟨b',off',e,h⟩
 ·
  simp at hk
 ·
  cases e
  refine .inr ⟨b,off + k,rfl,fun i hi=>?_⟩
  obtain rfl:i=0:=by simp at hi;omega
  exact h k hk
theorem wrapL_drop {ns:List Str} {k:Nat} (hk:k < ns.length) (e:Ex):wrapL (ns.drop k) e=.mk 4 ex0 0 [ns[k]] [wrapL (ns.drop (k + 1)) e]:=by
 rw [List.drop_eq_getElem_cons hk]
 rfl
theorem pR_splitG {α:Type} {l:List Tk} {f:Nat} {r:Rl} {i:Nat} {k:List Ex→Nat→Ans6 α} {x:Except Nat (α × Nat)} (h:(pR l f r i).bnd k=some x):∃ x2,pR l f r i=some x2∧match x2 with
  | .error p=>x=.error p
  | .ok (es,j)=>k es j=some x:=by
 cases hq:pR l f r i with
 | none=>rw [hq] at h;cases h
 | some x2 =>
  rw [hq] at h
  refine ⟨x2,rfl,?_⟩
  cases x2 with
  | error p=>exact (Option.some.inj h).symm
  | ok q=>exact h
section
variable {rb:Nat} {a:Option Addr} {c:Nat} {l:List Tk}
set_option maxHeartbeats 8000000 in
set_option maxRecDepth 100000 in
theorem par_def {f:Nat} (hE:RuleC 27 rb a c l f .expr) (W:World) (i:Nat) (x:Except Nat (Df × Nat)) (h:Rd W rb a c l i) (hx:pDef l f i=some x):Calls Tryz.prog 83 #[.pointer (some ⟨rb,0,none⟩)] W fun e W'=>GnR DfL W rb a c l x e W':=by
 unfold pDef at hx
 obtain ⟨W1,hW1⟩:∃ V,W.alloc (.cells #[.string ⟨#[]⟩,.int .i64 0,.string ⟨#[]⟩,.int .i64 0,.slice none 0 0,.slice none 0 0] 79)=V:=⟨_,rfl⟩
 have hb1:Below W.heap.size W W1:=by rw [←hW1];exact (Below.refl _ _).alloc (Nat.le_refl _) _
 have bA1:Hid (Blk W1 W.heap.size (.cells #[.string ⟨#[]⟩,.int .i64 0,.string ⟨#[]⟩,.int .i64 0,.slice none 0 0,.slice none 0 0] 79 (0,0))):=by rw [←hW1];exact blk_new (Below.refl _ _)
 have zz1:Hid (W1.heap.size=W.heap.size + 1):=by rw [←hW1];simp [Hid]
 have hp1:=Lib.hid ((PS.refl h).below hb1)
 have hrb:=h.lt
 have h':=Lib.hid h
 have hW1':=Lib.hid hW1
 have hx0:=Lib.hid hx
 have hfl:=Tryz.fldText
 have hfn:=Tryz.fldNum
 clear hW1 hb1 h hx
 have hlen:=h'.out.len
 have of2:=Lib.hid (par_of hp1.out.rd 2 (by decide))
 go_enter Tryz.func83,Tryz.ntmps83
 go_upto_region 1 with (fail)
 rw [hW1'.out]
 go_wp2_with fail
 refine of2.out.mono ?_
 rintro e V3 ⟨hB,hm⟩
 by_cases ks:kindAt l (i)=2
 case neg =>
  rw [if_neg ks] at hm
  obtain rfl:=hm
  have hxx:x=.error (i):=by have:=hx0.out;rw [if_neg ks] at this;exact (Option.some.inj this).symm
  subst hxx
  exact ⟨rfl,hp1.out.bb.next hB,rfl⟩
 rw [if_pos ks] at hm
 obtain ⟨rfl,hR⟩:=hm
 have hx4:=hx0.out
 rw [if_pos ks] at hx4
 have hx4:=Lib.hid hx4
 have zV3:=Lib.hid hB.size
 have hpV3:=Lib.hid (hp1.out.call hB hR)
 have bAV3:=Lib.hid (bA1.out.bb hB (by have:=hrb;have:=zz1.out;omega))
 clear ks hB hR hx0 of2
 clear hp1 bA1
 obtain ⟨S,hS⟩:∃ S,(textAt l (i))=S:=⟨_,rfl⟩
 have hSz:Hid (S.size≤lenMax):=by rw [←hS];exact fit_text h'.out.fit _
 rw [hS] at hx4 ⊢
 clear hS
 obtain ⟨W5,hW5⟩:∃ V,V3.alloc (.cells #[.string S,.int .i64 0,.string ⟨#[]⟩,.int .i64 0,.slice none 0 0,.slice none 0 0] 79)=V:=⟨_,rfl⟩
 have hbW5:Below V3.heap.size V3 W5:=by rw [←hW5];exact (Below.refl _ _).alloc (Nat.le_refl _) _
 have zW5:Hid (W5.heap.size=V3.heap.size + 1):=by rw [←hW5];simp [Hid]
 have bW5:Hid (Blk W5 V3.heap.size (.cells #[.string S,.int .i64 0,.string ⟨#[]⟩,.int .i64 0,.slice none 0 0,.slice none 0 0] 79 (0,0))):=by rw [←hW5];exact Blk.new
 have hpW5:=Lib.hid (hpV3.out.below hbW5)
 have bAW5:=Lib.hid (bAV3.out.below hbW5)
 have hW5':=Lib.hid hW5
 clear hW5 hbW5 hpV3 bAV3
 have nm6:=Lib.hid (par_names hpW5.out.rd)
 go_upto_region 2 with (fail)
 rw [hW5'.out]
 go_wp2_with fail
 refine nm6.out.mono ?_
 rintro e N0 ⟨nv,rfl,hN,hB,hR⟩
 obtain ⟨na,nc,rfl,hn1,hn2,hn3,hN⟩:=hN
 have tN:Hid (Lay W5.heap.size N0.heap.size N0 fun x=>StrRow x na (nms l (i + 1))):=hN
 have zN0:=Lib.hid hB.size
 have hnn:=Lib.hid (And.intro hn1 (And.intro hn2 hn3))
 have hpN0:=Lib.hid (hpW5.out.call hB hR)
 have bAN0:=Lib.hid (bAW5.out.bb hB (by have:=hrb;have:=zz1.out;have:=zV3.out;have:=zW5.out;omega))
 have bTN0:=Lib.hid (bW5.out.bb hB (by have:=hrb;have:=zz1.out;have:=zV3.out;have:=zW5.out;omega))
 clear hB hR hN hn1 hn2 hn3 nm6 hpW5 bAW5 bW5
 have sg7:Hid (Calls Tryz.prog 64 #[.pointer (some ⟨rb,0,none⟩),.string ⟨#[61]⟩] N0 fun e W'=>Bb N0.heap.size rb N0 W'∧if isAt l (i + 1 + (nms l (i + 1)).length) [61]=true then e=.returned (.tuple #[])∧Rd W' rb a c l ((i + 1 + (nms l (i + 1)).length) + 1) else e=stuckE (i + 1 + (nms l (i + 1)).length)):=par_sign hpN0.out.rd [61]
 go_wp2_with fail
 refine sg7.out.mono ?_
 rintro e V8 ⟨hB,hm⟩
 by_cases ks:isAt l (i + 1 + (nms l (i + 1)).length) [61]=true
 case neg =>
  rw [if_neg ks] at hm
  obtain rfl:=hm
  have hxx:=sgn6_err hx4.out ks
  subst hxx
  exact ⟨rfl,hpN0.out.bb.next hB,rfl⟩
 rw [if_pos ks] at hm
 obtain ⟨rfl,hR⟩:=hm
 have hx9:=Lib.hid (sgn6_ok hx4.out ks)
 try dsimp only at hx9
 have zV8:=Lib.hid hB.size
 have hpV8:=Lib.hid (hpN0.out.call hB hR)
 have bAV8:=Lib.hid (bAN0.out.bb hB (by have:=hrb;have:=zz1.out;have:=zV3.out;have:=zW5.out;have:=zN0.out;omega))
 have bTV8:=Lib.hid (bTN0.out.bb hB (by have:=hrb;have:=zz1.out;have:=zV3.out;have:=zW5.out;have:=zN0.out;omega))
 have tNV8:=Lib.hid (tN.out.bb hB (by have:=hrb;have:=zz1.out;have:=zV3.out;have:=zW5.out;have:=zN0.out;omega))
 clear ks hB hR hx4 sg7
 clear hpN0 bAN0 bTN0 tN
 obtain ⟨q10,hq10,kq10⟩:=pR_splitG hx9.out
 have cq10:=Lib.hid (hE V8 (i + 1 + (nms l (i + 1)).length + 1) q10 hpV8.out.rd hq10)
 have kq10:=Lib.hid kq10
 clear hq10 hx9
 go_wp2_with fail
 refine cq10.out.mono ?_
 rintro e V11 ⟨hB,hm⟩
 rcases q10 with p | ⟨es,jq10⟩
 case error =>
  obtain rfl:=hm
  have hxx:=kq10.out
  dsimp only at hxx
  subst hxx
  exact And.intro rfl (And.intro (hpV8.out.bb.next hB) rfl)
 obtain ⟨v,yq10,rfl,rfl,hL,hR⟩:=hm
 obtain ⟨kq100,sq10,nq10,aq10,mq10,cq10,bq10,oq10,dq10,rfl⟩:=hL.out.agg
 have zV11:=Lib.hid hB.size
 have tq10:Hid (Lay V8.heap.size V11.heap.size V11 fun x=>IsEx x (.agg #[.int .i64 kq100,.string sq10,.int .i64 nq10,.slice aq10 mq10 cq10,.slice bq10 oq10 dq10]) yq10):=hL
 have hpV11:=Lib.hid (hpV8.out.call hB hR)
 have bAV11:=Lib.hid (bAV8.out.bb hB (by have:=hrb;have:=zz1.out;have:=zV3.out;have:=zW5.out;have:=zN0.out;have:=zV8.out;omega))
 have bTV11:=Lib.hid (bTV8.out.bb hB (by have:=hrb;have:=zz1.out;have:=zV3.out;have:=zW5.out;have:=zN0.out;have:=zV8.out;omega))
 have tNV11:=Lib.hid (tNV8.out.bb hB (by have:=hrb;have:=zz1.out;have:=zV3.out;have:=zW5.out;have:=zN0.out;have:=zV8.out;omega))
 have kxq10:=Lib.hid kq10.out
 try dsimp only at kxq10
 clear hB hR hL kq10
 clear hpV8 bAV8 bTV8 tNV8
 have m120:V11.cell? ⟨V3.heap.size,0,none⟩=some (.string S):=((show Blk V11 V3.heap.size (.cells #[.string S,.int .i64 0,.string ⟨#[]⟩,.int .i64 0,.slice none 0 0,.slice none 0 0] 79 (0,0)) from bTV11.out).cl 0).trans rfl
 have m121:V11.cell? ⟨V3.heap.size,1,none⟩=some (.int .i64 0):=((show Blk V11 V3.heap.size (.cells #[.string S,.int .i64 0,.string ⟨#[]⟩,.int .i64 0,.slice none 0 0,.slice none 0 0] 79 (0,0)) from bTV11.out).cl 1).trans rfl
 have m122:V11.cell? ⟨V3.heap.size,2,none⟩=some (.string ⟨#[]⟩):=((show Blk V11 V3.heap.size (.cells #[.string S,.int .i64 0,.string ⟨#[]⟩,.int .i64 0,.slice none 0 0,.slice none 0 0] 79 (0,0)) from bTV11.out).cl 2).trans rfl
 have m123:V11.cell? ⟨V3.heap.size,3,none⟩=some (.int .i64 0):=((show Blk V11 V3.heap.size (.cells #[.string S,.int .i64 0,.string ⟨#[]⟩,.int .i64 0,.slice none 0 0,.slice none 0 0] 79 (0,0)) from bTV11.out).cl 3).trans rfl
 have m124:V11.cell? ⟨V3.heap.size,4,none⟩=some (.slice none 0 0):=((show Blk V11 V3.heap.size (.cells #[.string S,.int .i64 0,.string ⟨#[]⟩,.int .i64 0,.slice none 0 0,.slice none 0 0] 79 (0,0)) from bTV11.out).cl 4).trans rfl
 have m125:V11.cell? ⟨V3.heap.size,5,none⟩=some (.slice none 0 0):=((show Blk V11 V3.heap.size (.cells #[.string S,.int .i64 0,.string ⟨#[]⟩,.int .i64 0,.slice none 0 0,.slice none 0 0] 79 (0,0)) from bTV11.out).cl 5).trans rfl
 have m12f:=(show Blk V11 V3.heap.size (.cells #[.string S,.int .i64 0,.string ⟨#[]⟩,.int .i64 0,.slice none 0 0,.slice none 0 0] 79 (0,0)) from bTV11.out).fr
 have m12l:V3.heap.size < V11.heap.size:=(show Blk V11 V3.heap.size (.cells #[.string S,.int .i64 0,.string ⟨#[]⟩,.int .i64 0,.slice none 0 0,.slice none 0 0] 79 (0,0)) from bTV11.out).lt
 go_upto_region 5 with (fail)
 obtain ⟨M,hM⟩:∃ M,((((V11.setCell ⟨V3.heap.size,1,none⟩ (.int .i64 kq100)).setCell ⟨V3.heap.size,2,none⟩ (.string sq10)).setCell ⟨V3.heap.size,3,none⟩ (.int .i64 nq10)).setCell ⟨V3.heap.size,4,none⟩ (.slice aq10 mq10 cq10)).setCell ⟨V3.heap.size,5,none⟩ (.slice bq10 oq10 dq10)=M:=⟨_,rfl⟩
 rw [hM]
 clear m120 m121 m122 m123 m124 m125 m12f m12l
 have hsM:=(show Blk V11 V3.heap.size (.cells #[.string S,.int .i64 0,.string ⟨#[]⟩,.int .i64 0,.slice none 0 0,.slice none 0 0] 79 (0,0)) from bTV11.out).put5 (.int .i64 kq100) (.string sq10) (.int .i64 nq10) (.slice aq10 mq10 cq10) (.slice bq10 oq10 dq10)
 rw [hM] at hsM
 have zM:=Lib.hid hsM.2.size
 have hpM:Hid (PS W rb a c l (jq10) M):=PS.own h'.out hpV11.out hsM.2 (by have:=hrb;have:=zz1.out;have:=zV3.out;have:=zW5.out;have:=zN0.out;have:=zV8.out;have:=zV11.out;omega)
 have bAM:Hid (Blk M W.heap.size (.cells #[.string ⟨#[]⟩,.int .i64 0,.string ⟨#[]⟩,.int .i64 0,.slice none 0 0,.slice none 0 0] 79 (0,0))):=(show Blk V11 W.heap.size (.cells #[.string ⟨#[]⟩,.int .i64 0,.string ⟨#[]⟩,.int .i64 0,.slice none 0 0,.slice none 0 0] 79 (0,0)) from bAV11.out).own hsM.2 (by have:=hrb;have:=zz1.out;have:=zV3.out;have:=zW5.out;have:=zN0.out;have:=zV8.out;have:=zV11.out;omega)
 have tNM:=Lib.hid (tNV11.out.own hsM.2 (by have:=hrb;have:=zz1.out;have:=zV3.out;have:=zW5.out;have:=zN0.out;have:=zV8.out;have:=zV11.out;omega))
 have tq10M:=Lib.hid (tq10.out.own hsM.2 (by have:=hrb;have:=zz1.out;have:=zV3.out;have:=zW5.out;have:=zN0.out;have:=zV8.out;have:=zV11.out;omega))
 have bTM:Hid (Blk M V3.heap.size (.cells #[.string S,.int .i64 kq100,.string sq10,.int .i64 nq10,.slice aq10 mq10 cq10,.slice bq10 oq10 dq10] 79 (0,0))):=hsM.1
 clear hM hsM bTV11 hpV11 bAV11 tNV11 tq10
 have hbase:Hid (W.heap.size < V3.heap.size∧V3.heap.size < W5.heap.size∧W.heap.size≤W5.heap.size∧rb < W.heap.size∧W5.heap.size≤N0.heap.size∧N0.heap.size≤M.heap.size):=⟨by have:=hrb;have:=zz1.out;have:=zV3.out;have:=zW5.out;have:=zN0.out;have:=zV8.out;have:=zV11.out;have:=zM.out;omega,by have:=hrb;have:=zz1.out;have:=zV3.out;have:=zW5.out;have:=zN0.out;have:=zV8.out;have:=zV11.out;have:=zM.out;omega,by have:=hrb;have:=zz1.out;have:=zV3.out;have:=zW5.out;have:=zN0.out;have:=zV8.out;have:=zV11.out;have:=zM.out;omega,by have:=hrb;have:=zz1.out;have:=zV3.out;have:=zW5.out;have:=zN0.out;have:=zV8.out;have:=zV11.out;have:=zM.out;omega,by have:=hrb;have:=zz1.out;have:=zV3.out;have:=zW5.out;have:=zN0.out;have:=zV8.out;have:=zV11.out;have:=zM.out;omega,by have:=hrb;have:=zz1.out;have:=zV3.out;have:=zW5.out;have:=zN0.out;have:=zV8.out;have:=zV11.out;have:=zM.out;omega⟩
 have hx3:Hid (x=.ok (⟨S,wrapL (nms l (i + 1)) yq10⟩,jq10)):=(Option.some.inj kxq10.out).symm
 have tE:Hid (Lay W5.heap.size M.heap.size M fun x=>IsEx x (.agg #[.int .i64 kq100,.string sq10,.int .i64 nq10,.slice aq10 mq10 cq10,.slice bq10 oq10 dq10]) yq10):=tq10M.out.wide (by have:=hrb;have:=zz1.out;have:=zV3.out;have:=zW5.out;have:=zN0.out;have:=zV8.out;have:=zV11.out;have:=zM.out;omega) (by have:=hrb;have:=zz1.out;have:=zV3.out;have:=zW5.out;have:=zN0.out;have:=zV8.out;have:=zV11.out;have:=zM.out;omega) (Nat.le_refl _)
 have hnl:IntKind.i64.wrap (((nms l (i + 1)).length:Int) - 1)=((nms l (i + 1)).length:Int) - 1:=IntWalk.i64_in _ (by have:=hnn.out.2.2;omega)
 clear tq10M kxq10
 obtain ⟨NS,hNS⟩:∃ NS,NS=nms l (i + 1):=⟨_,rfl⟩
 obtain ⟨nlen,hnlen⟩:∃ n,n=(nms l (i + 1)).length:=⟨_,rfl⟩
 clear hNS NS hnlen nlen
 go_wp2_with fail
 go_loopw [5] (fun iv X=>∃ (k:Nat) (i2:Int) (e:Ex) (kk:Int) (ss:Str) (nn:Int) (a1:Option Addr) (m1 c1:Nat) (a2:Option Addr) (m2 c2:Nat),k≤(nms l (i + 1)).length∧iv=.int .i64 i2∧i2=(k:Int) - 1∧Hid (wrapL ((nms l (i + 1)).drop k) yq10=e)∧Hid (PS W rb a c l jq10 X)∧Hid (Blk X W.heap.size (.cells #[.string ⟨#[]⟩,.int .i64 0,.string ⟨#[]⟩,.int .i64 0,.slice none 0 0,.slice none 0 0] 79 (0,0)))∧Hid (Blk X V3.heap.size (.cells #[.string S,.int .i64 kk,.string ss,.int .i64 nn,.slice a1 m1 c1,.slice a2 m2 c2] 79 (0,0)))∧Hid (Lay W5.heap.size N0.heap.size X fun x=>StrRow x na (nms l (i + 1)))∧Hid (Lay W5.heap.size X.heap.size X fun x=>IsEx x (.agg #[.int .i64 kk,.string ss,.int .i64 nn,.slice a1 m1 c1,.slice a2 m2 c2]) e)∧Hid (N0.heap.size≤X.heap.size)) (fun iv _=>(intOf iv + 1).toNat)
 case atStart=>exact ⟨(nms l (i + 1)).length,_,yq10,_,_,_,_,_,_,_,_,_,Nat.le_refl _,rfl,rfl,by unfold Hid;rw [List.drop_length];rfl,hpM.out,bAM.out,bTM.out,tNM.out,tE.out,hbase.out.2.2.2.2.2⟩
 case round =>
  obtain ⟨k,i2,e,kk,ss,nn,a1,m1,c1,a2,m2,c2,hk,rfl,hi2,he,hp,bA,bT,tN9,tE9,zX⟩:=hrel
  obtain ⟨X,rfl⟩:∃ W,W=wr:=⟨_,rfl⟩
  clear tE hpM bAM bTM tNM hnl
  cases k with
  | zero =>
   have hd:decide (0≤i2)=false:=decide_eq_false (by omega)
   have hd2:¬ 0≤i2:=by omega
   clear hi2
   have he2:wrapL (nms l (i + 1)) yq10=e:=he.out
   have hs:=(show Blk X W.heap.size (.cells #[.string ⟨#[]⟩,.int .i64 0,.string ⟨#[]⟩,.int .i64 0,.slice none 0 0,.slice none 0 0] 79 (0,0)) from bA.out).put6 (.string S) (.int .i64 kk) (.string ss) (.int .i64 nn) (.slice a1 m1 c1) (.slice a2 m2 c2)
   obtain ⟨Z,hZ⟩:∃ Z,(((((X.setCell ⟨W.heap.size,0,none⟩ (.string S)).setCell ⟨W.heap.size,1,none⟩ (.int .i64 kk)).setCell ⟨W.heap.size,2,none⟩ (.string ss)).setCell ⟨W.heap.size,3,none⟩ (.int .i64 nn)).setCell ⟨W.heap.size,4,none⟩ (.slice a1 m1 c1)).setCell ⟨W.heap.size,5,none⟩ (.slice a2 m2 c2)=Z:=⟨_,rfl⟩
   rw [hZ] at hs
   have hpZ:=PS.own h'.out hp.out hs.2 (Nat.le_refl _)
   have hbk:Hid (Blk Z W.heap.size (.cells #[.string S,.int .i64 kk,.string ss,.int .i64 nn,.slice a1 m1 c1,.slice a2 m2 c2] 79 (0,0))):=hs.1
   have hfin:Hid (GnR DfL W rb a c l x (.returned (.agg #[.string S,.int .i64 kk,.string ss,.int .i64 nn,.slice a1 m1 c1,.slice a2 m2 c2])) Z):=by
    refine ⟨hpZ.bb,?_⟩
    rw [hx3.out]
    refine ⟨_,rfl,?_,hpZ.rd⟩
    have t1:=(tE9.out.own hs.2 (.inl (by have:=hbase.out;omega))).wide (B':=W.heap.size) (E':=Z.heap.size) (by have:=hbase.out;omega) (by rw [hs.2.size];exact Nat.le_refl _) (Nat.le_refl _)
    exact ⟨Nat.le_refl _,fun y hy=>⟨_,_,_,_,_,rfl,hSz.out,by show IsEx y _ (wrapL (nms l (i + 1)) yq10);rw [he2];exact t1.2 y hy⟩⟩
   have m130:X.cell? ⟨W.heap.size,0,none⟩=some (.string ⟨#[]⟩):=((show Blk X W.heap.size (.cells #[.string ⟨#[]⟩,.int .i64 0,.string ⟨#[]⟩,.int .i64 0,.slice none 0 0,.slice none 0 0] 79 (0,0)) from bA.out).cl 0).trans rfl
   have m131:X.cell? ⟨W.heap.size,1,none⟩=some (.int .i64 0):=((show Blk X W.heap.size (.cells #[.string ⟨#[]⟩,.int .i64 0,.string ⟨#[]⟩,.int .i64 0,.slice none 0 0,.slice none 0 0] 79 (0,0)) from bA.out).cl 1).trans rfl
   have m132:X.cell? ⟨W.heap.size,2,none⟩=some (.string ⟨#[]⟩):=((show Blk X W.heap.size (.cells #[.string ⟨#[]⟩,.int .i64 0,.string ⟨#[]⟩,.int .i64 0,.slice none 0 0,.slice none 0 0] 79 (0,0)) from bA.out).cl 2).trans rfl
   have m133:X.cell? ⟨W.heap.size,3,none⟩=some (.int .i64 0):=((show Blk X W.heap.size (.cells #[.string ⟨#[]⟩,.int .i64 0,.string ⟨#[]⟩,.int .i64 0,.slice none 0 0,.slice none 0 0] 79 (0,0)) from bA.out).cl 3).trans rfl
   have m134:X.cell? ⟨W.heap.size,4,none⟩=some (.slice none 0 0):=((show Blk X W.heap.size (.cells #[.string ⟨#[]⟩,.int .i64 0,.string ⟨#[]⟩,.int .i64 0,.slice none 0 0,.slice none 0 0] 79 (0,0)) from bA.out).cl 4).trans rfl
   have m135:X.cell? ⟨W.heap.size,5,none⟩=some (.slice none 0 0):=((show Blk X W.heap.size (.cells #[.string ⟨#[]⟩,.int .i64 0,.string ⟨#[]⟩,.int .i64 0,.slice none 0 0,.slice none 0 0] 79 (0,0)) from bA.out).cl 5).trans rfl
   have m13f:=(show Blk X W.heap.size (.cells #[.string ⟨#[]⟩,.int .i64 0,.string ⟨#[]⟩,.int .i64 0,.slice none 0 0,.slice none 0 0] 79 (0,0)) from bA.out).fr
   have m13l:W.heap.size < X.heap.size:=(show Blk X W.heap.size (.cells #[.string ⟨#[]⟩,.int .i64 0,.string ⟨#[]⟩,.int .i64 0,.slice none 0 0,.slice none 0 0] 79 (0,0)) from bA.out).lt
   have m140:X.cell? ⟨V3.heap.size,0,none⟩=some (.string S):=((show Blk X V3.heap.size (.cells #[.string S,.int .i64 kk,.string ss,.int .i64 nn,.slice a1 m1 c1,.slice a2 m2 c2] 79 (0,0)) from bT.out).cl 0).trans rfl
   have m141:X.cell? ⟨V3.heap.size,1,none⟩=some (.int .i64 kk):=((show Blk X V3.heap.size (.cells #[.string S,.int .i64 kk,.string ss,.int .i64 nn,.slice a1 m1 c1,.slice a2 m2 c2] 79 (0,0)) from bT.out).cl 1).trans rfl
   have m142:X.cell? ⟨V3.heap.size,2,none⟩=some (.string ss):=((show Blk X V3.heap.size (.cells #[.string S,.int .i64 kk,.string ss,.int .i64 nn,.slice a1 m1 c1,.slice a2 m2 c2] 79 (0,0)) from bT.out).cl 2).trans rfl
   have m143:X.cell? ⟨V3.heap.size,3,none⟩=some (.int .i64 nn):=((show Blk X V3.heap.size (.cells #[.string S,.int .i64 kk,.string ss,.int .i64 nn,.slice a1 m1 c1,.slice a2 m2 c2] 79 (0,0)) from bT.out).cl 3).trans rfl
   have m144:X.cell? ⟨V3.heap.size,4,none⟩=some (.slice a1 m1 c1):=((show Blk X V3.heap.size (.cells #[.string S,.int .i64 kk,.string ss,.int .i64 nn,.slice a1 m1 c1,.slice a2 m2 c2] 79 (0,0)) from bT.out).cl 4).trans rfl
   have m145:X.cell? ⟨V3.heap.size,5,none⟩=some (.slice a2 m2 c2):=((show Blk X V3.heap.size (.cells #[.string S,.int .i64 kk,.string ss,.int .i64 nn,.slice a1 m1 c1,.slice a2 m2 c2] 79 (0,0)) from bT.out).cl 5).trans rfl
   have m14f:=(show Blk X V3.heap.size (.cells #[.string S,.int .i64 kk,.string ss,.int .i64 nn,.slice a1 m1 c1,.slice a2 m2 c2] 79 (0,0)) from bT.out).fr
   have m14l:V3.heap.size < X.heap.size:=(show Blk X V3.heap.size (.cells #[.string S,.int .i64 kk,.string ss,.int .i64 nn,.slice a1 m1 c1,.slice a2 m2 c2] 79 (0,0)) from bT.out).lt
   clear hs hpZ he2 he
   go_wp2_with fail
   try rw [hZ]
   refine bodyPost_ret (results_df rfl _ _ rfl hbk.out) rfl hfin.out
  | succ k =>
   obtain rfl:i2=(k:Int):=by omega
   clear hi2
   obtain ⟨nb,no,hna⟩:∃ nb no,na=some ⟨nb,no,none⟩:=by
    rcases tN9.out.out with q | ⟨b,off,q,_⟩
    ·
     rw [q] at hk;simp at hk
    ·
     exact ⟨b,off,q⟩
   subst hna
   have hcap:=hnn.out.2.1
   have hn3:=hnn.out.2.2
   have hw1:IntKind.i64.wrap ((k:Int) + 1)=(k:Int) + 1:=IntWalk.i64_in _ (by omega)
   have hw2:IntKind.i64.wrap ((k:Int) - 1)=(k:Int) - 1:=IntWalk.i64_in _ (by omega)
   have hb1:(k:Int) + 1≤(nc:Int):=by omega
   have hb2:(k:Int) < (nms l (i + 1)).length:=by omega
   have m150:X.cell? ⟨V3.heap.size,0,none⟩=some (.string S):=((show Blk X V3.heap.size (.cells #[.string S,.int .i64 kk,.string ss,.int .i64 nn,.slice a1 m1 c1,.slice a2 m2 c2] 79 (0,0)) from bT.out).cl 0).trans rfl
   have m151:X.cell? ⟨V3.heap.size,1,none⟩=some (.int .i64 kk):=((show Blk X V3.heap.size (.cells #[.string S,.int .i64 kk,.string ss,.int .i64 nn,.slice a1 m1 c1,.slice a2 m2 c2] 79 (0,0)) from bT.out).cl 1).trans rfl
   have m152:X.cell? ⟨V3.heap.size,2,none⟩=some (.string ss):=((show Blk X V3.heap.size (.cells #[.string S,.int .i64 kk,.string ss,.int .i64 nn,.slice a1 m1 c1,.slice a2 m2 c2] 79 (0,0)) from bT.out).cl 2).trans rfl
   have m153:X.cell? ⟨V3.heap.size,3,none⟩=some (.int .i64 nn):=((show Blk X V3.heap.size (.cells #[.string S,.int .i64 kk,.string ss,.int .i64 nn,.slice a1 m1 c1,.slice a2 m2 c2] 79 (0,0)) from bT.out).cl 3).trans rfl
   have m154:X.cell? ⟨V3.heap.size,4,none⟩=some (.slice a1 m1 c1):=((show Blk X V3.heap.size (.cells #[.string S,.int .i64 kk,.string ss,.int .i64 nn,.slice a1 m1 c1,.slice a2 m2 c2] 79 (0,0)) from bT.out).cl 4).trans rfl
   have m155:X.cell? ⟨V3.heap.size,5,none⟩=some (.slice a2 m2 c2):=((show Blk X V3.heap.size (.cells #[.string S,.int .i64 kk,.string ss,.int .i64 nn,.slice a1 m1 c1,.slice a2 m2 c2] 79 (0,0)) from bT.out).cl 5).trans rfl
   have m15f:=(show Blk X V3.heap.size (.cells #[.string S,.int .i64 kk,.string ss,.int .i64 nn,.slice a1 m1 c1,.slice a2 m2 c2] 79 (0,0)) from bT.out).fr
   have m15l:V3.heap.size < X.heap.size:=(show Blk X V3.heap.size (.cells #[.string S,.int .i64 kk,.string ss,.int .i64 nn,.slice a1 m1 c1,.slice a2 m2 c2] 79 (0,0)) from bT.out).lt
   go_wp2_with fail
   go_region_with (fail)
   all_goals
    obtain ⟨M2,hM2⟩:∃ M,((((X.setCell ⟨V3.heap.size,1,none⟩ (.int .i64 4)).setCell ⟨V3.heap.size,2,none⟩ (.string ⟨#[]⟩)).setCell ⟨V3.heap.size,3,none⟩ (.int .i64 0)).setCell ⟨V3.heap.size,4,none⟩ (.slice (some ⟨nb,no + k,none⟩) 1 1)).setCell ⟨V3.heap.size,5,none⟩ (.slice (some ⟨X.heap.size,0,none⟩) 1 1)=M:=⟨_,rfl⟩
    rw [hM2]
    clear m150 m151 m152 m153 m154 m155 m15f m15l
    have hsM:=(show Blk X V3.heap.size (.cells #[.string S,.int .i64 kk,.string ss,.int .i64 nn,.slice a1 m1 c1,.slice a2 m2 c2] 79 (0,0)) from bT.out).put5 (.int .i64 4) (.string ⟨#[]⟩) (.int .i64 0) (.slice (some ⟨nb,no + k,none⟩) 1 1) (.slice (some ⟨X.heap.size,0,none⟩) 1 1)
    rw [hM2] at hsM
    have zM2:Hid (M2.heap.size=X.heap.size):=hsM.2.size
    have hpM2:Hid (PS W rb a c l (jq10) M2):=PS.own h'.out hp.out hsM.2 (by have:=hrb;have:=zz1.out;have:=hbase.out;have:=zX.out;omega)
    have bAM2:Hid (Blk M2 W.heap.size (.cells #[.string ⟨#[]⟩,.int .i64 0,.string ⟨#[]⟩,.int .i64 0,.slice none 0 0,.slice none 0 0] 79 (0,0))):=(show Blk X W.heap.size (.cells #[.string ⟨#[]⟩,.int .i64 0,.string ⟨#[]⟩,.int .i64 0,.slice none 0 0,.slice none 0 0] 79 (0,0)) from bA.out).own hsM.2 (by have:=hrb;have:=zz1.out;have:=hbase.out;have:=zX.out;omega)
    have tNM2:=Lib.hid (tN9.out.own hsM.2 (by have:=hrb;have:=zz1.out;have:=hbase.out;have:=zX.out;omega))
    have tEM2:=Lib.hid (tE9.out.own hsM.2 (by have:=hrb;have:=zz1.out;have:=hbase.out;have:=zX.out;omega))
    have bTM2:Hid (Blk M2 V3.heap.size (.cells #[.string S,.int .i64 4,.string ⟨#[]⟩,.int .i64 0,.slice (some ⟨nb,no + k,none⟩) 1 1,.slice (some ⟨X.heap.size,0,none⟩) 1 1] 79 (0,0))):=hsM.1
    clear hM2 hsM bT hp bA tN9 tE9
    obtain ⟨W16,hW16⟩:∃ V,M2.alloc (.cells #[.int .i64 kk,.string ss,.int .i64 nn,.slice a1 m1 c1,.slice a2 m2 c2] 27)=V:=⟨_,rfl⟩
    have hbW16:Below M2.heap.size M2 W16:=by rw [←hW16];exact (Below.refl _ _).alloc (Nat.le_refl _) _
    have zW16:Hid (W16.heap.size=M2.heap.size + 1):=by rw [←hW16];simp [Hid]
    have bW16:Hid (Blk W16 (X.heap.size) (.cells #[.int .i64 kk,.string ss,.int .i64 nn,.slice a1 m1 c1,.slice a2 m2 c2] 27 (0,0))):=by have e:=zM2.out;rw [←hW16,←e];exact Blk.new
    have hpW16:=Lib.hid (hpM2.out.below hbW16)
    have bAW16:=Lib.hid (bAM2.out.below hbW16)
    have tNW16:=Lib.hid (tNM2.out.below hbW16)
    have tEW16:=Lib.hid (tEM2.out.below hbW16)
    have bTW16:=Lib.hid (bTM2.out.below hbW16)
    have hW16':=Lib.hid hW16
    clear hW16 hbW16 hpM2 bAM2 tNM2 tEM2 bTM2
    rw [hW16'.out]
    obtain ⟨Z,hZ⟩:∃ Z,W16.drew=Z:=⟨_,rfl⟩
    rw [hZ]
    have hbZ:Below W16.heap.size W16 Z:=by rw [←hZ];exact (Below.refl _ _).drew
    have zZ:=Lib.hid hbZ.size
    clear hZ
    have hpZ:=Lib.hid (hpW16.out.below hbZ)
    have bAZ:=Lib.hid (bAW16.out.below hbZ)
    have tNZ:=Lib.hid (tNW16.out.below hbZ)
    have tEZ:=Lib.hid (tEW16.out.below hbZ)
    have bTZ:=Lib.hid (bTW16.out.below hbZ)
    have bRZ:=Lib.hid (bW16.out.below hbZ)
    clear hbZ hpW16 bAW16 tNW16 tEW16 bTW16 bW16
    have g0:=(LayH.of_lay (hs:=[]) (B':=W5.heap.size) (E':=Z.heap.size) tNZ.out (by have:=hrb;have:=zz1.out;have:=hbase.out;have:=zX.out;have:=zM2.out;have:=zW16.out;have:=zZ.out;omega) (by have:=hrb;have:=zz1.out;have:=hbase.out;have:=zX.out;have:=zM2.out;have:=zW16.out;have:=zZ.out;omega) (Nat.le_refl _) (fun q hq=>by simp at hq)).imp fun _ hv=>StrRow.one hv (show k < (nms l (i + 1)).length from hk)
    have g1:=LayH.of_lay (hs:=[]) (B':=W5.heap.size) (E':=Z.heap.size) tEZ.out (by have:=hrb;have:=zz1.out;have:=hbase.out;have:=zX.out;have:=zM2.out;have:=zW16.out;have:=zZ.out;omega) (by have:=hrb;have:=zz1.out;have:=hbase.out;have:=zX.out;have:=zM2.out;have:=zW16.out;have:=zZ.out;omega) (Nat.le_refl _) (fun q hq=>by simp at hq)
    have gr:=LayH.rowOf (hs:=[]) (B:=W5.heap.size) (E:=Z.heap.size) (b:=X.heap.size) (by have:=hrb;have:=zz1.out;have:=hbase.out;have:=zX.out;have:=zM2.out;have:=zW16.out;have:=zZ.out;omega) (by have:=hrb;have:=zz1.out;have:=hbase.out;have:=zX.out;have:=zM2.out;have:=zW16.out;have:=zZ.out;omega) (by simp) (show Blk _ _ _ from bRZ.out) g1
    have hnew:Hid (Lay W5.heap.size Z.heap.size Z fun x=>IsEx x (.agg #[.int .i64 4,.string ⟨#[]⟩,.int .i64 0,.slice (some ⟨nb,no + k,none⟩) 1 1,.slice (some ⟨X.heap.size,0,none⟩) 1 1]) (.mk 4 ⟨#[]⟩ 0 [(nms l (i + 1))[k]'hk] [e])):=(LayH.tree (l:=[(nms l (i + 1))[k]'hk]) (ks:=[e]) (by decide) (by decide) (by decide) (by simp [lenMax]) (by simp [lenMax]) g0 gr ⟨by simp,Nat.le_refl _⟩).lay
    have hwr:Hid (wrapL ((nms l (i + 1)).drop k) yq10=.mk 4 ⟨#[]⟩ 0 [(nms l (i + 1))[k]'hk] [e]):=by unfold Hid;rw [wrapL_drop hk,he.out];rfl
    clear g0 g1 gr he
    go_wp2_with fail
    go_roundw
    case rel=>exact ⟨k,(k:Int) - 1,_,_,_,_,_,_,_,_,_,_,by omega,by first | rfl | (rw [hw2]),rfl,hwr.out,hpZ.out,bAZ.out,bTZ.out,tNZ.out,hnew.out,(show N0.heap.size≤Z.heap.size from by have:=hrb;have:=zz1.out;have:=hbase.out;have:=zX.out;have:=zM2.out;have:=zW16.out;have:=zZ.out;omega)⟩
    case measure=>simp [intOf] <;> omega
end
end Go.Proofs.YtinjocchommbdaaGreatDoor
namespace Go.Proofs.YtinjocchommbdaaGreatDoor
open Go.RowKit
def Two {α β:Type} (T0:TypeId) (s0:Nat) (I0:World→List Value→α→Prop) (T1:TypeId) (s1:Nat) (I1:World→List Value→β→Prop) (B:Nat) (X:World) (v0 v1:Value) (es:List α) (fs:List β):Prop :=
 ∃ c0 c1:List (List Value),(c0.length=es.length∧(∀ c ∈ c0,c.length=s0)∧X.ownsRow B T0 s0 v0 es.length c0.flatten)∧(c1.length=fs.length∧(∀ c ∈ c1,c.length=s1)∧X.ownsRow B T1 s1 v1 fs.length c1.flatten)∧B≤X.heap.size ∧
  (∀ g,v0.ownBlock=some g→v1.ownBlock≠some g)∧(∀ i (h:i < es.length) (h2:i < c0.length),LayH (ownL v0 ++ ownL v1) B X.heap.size X fun x=>I0 x c0[i] es[i])∧∀ i (h:i < fs.length) (h2:i < c1.length),LayH (ownL v0 ++ ownL v1) B X.heap.size X fun x=>I1 x c1[i] fs[i]
section
variable {α β:Type} {T0:TypeId} {s0:Nat} {I0:World→List Value→α→Prop} {T1:TypeId} {s1:Nat} {I1:World→List Value→β→Prop} {B:Nat} {X Y:World} {v0 v1:Value} {es:List α} {fs:List β}
theorem Two.swap (h:Two T0 s0 I0 T1 s1 I1 B X v0 v1 es fs):Two T1 s1 I1 T0 s0 I0 B X v1 v0 fs es:=by
 obtain ⟨c0,c1,h0,h1,hB,hd,l0,l1⟩:=h
 have sw:∀ F:World→Prop,LayH (ownL v0 ++ ownL v1) B X.heap.size X F→LayH (ownL v1 ++ ownL v0) B X.heap.size X F:=fun F hF=>hF.wide (Nat.le_refl _) (Nat.le_refl _) (Nat.le_refl _) fun k hk _ _=>by
  rw [List.mem_append] at hk ⊢
  exact hk.symm
 exact ⟨c1,c0,h1,h0,hB,fun g hg hq=>hd g hq hg,fun i a b=>sw _ (l1 i a b),fun i a b=>sw _ (l0 i a b)⟩
theorem Two.base (h:Two T0 s0 I0 T1 s1 I1 B X v0 v1 es fs):B≤X.heap.size:=h.choose_spec.choose_spec.2.2.1
theorem Two.nil (hB:B≤X.heap.size):Two T0 s0 I0 T1 s1 I1 B X (.slice none 0 0) (.slice none 0 0) [] [] :=
 ⟨[],[],⟨rfl,by simp,⟨by simp,.inl ⟨rfl,rfl⟩⟩⟩,⟨rfl,by simp,⟨by simp,.inl ⟨rfl,rfl⟩⟩⟩,hB,fun g hg=>by simp [Value.ownBlock] at hg,fun i h=>by simp at h,fun i h=>by simp at h⟩
theorem Two.form (h:Two T0 s0 I0 T1 s1 I1 B X v0 v1 es fs):∃ a c,v0=.slice a es.length c∧(a=none→c=0)∧es.length≤c:=by
 obtain ⟨c0,c1,h0,_⟩:=h
 obtain ⟨a,c,h1,h2,h3,_⟩:=own_cells h0.2.2
 exact ⟨a,c,h1,h2,h3⟩
theorem Two.owns (h:Two T0 s0 I0 T1 s1 I1 B X v0 v1 es fs):∀ g,v0.ownBlock=some g→B≤g∧g < X.heap.size:=by
 obtain ⟨c0,c1,h0,_⟩:=h
 exact fun g hg=>ownBlock_ge h0.2.2 hg
theorem Two.heap (h:Two T0 s0 I0 T1 s1 I1 B X v0 v1 es fs) (hz:X.heap.size≤Y.heap.size) (hk:∀ k,B≤k→k < X.heap.size→Y.heap[k]?=X.heap[k]?):Two T0 s0 I0 T1 s1 I1 B Y v0 v1 es fs:=by
 obtain ⟨c0,c1,h0,h1,hB,hd,l0,l1⟩:=h
 have tr:∀ F:World→Prop,LayH (ownL v0 ++ ownL v1) B X.heap.size X F→LayH (ownL v0 ++ ownL v1) B Y.heap.size Y F:=fun F hF=>(hF.of hz fun k a b _=>hk k a b).wide (Nat.le_refl _) hz (Nat.le_refl _) fun _ hk' _ _=>hk'
 exact ⟨c0,c1,⟨h0.1,h0.2.1,ownsRow_heap h0.2.2 fun g hg=>hk g (ownBlock_ge h0.2.2 hg).1 (ownBlock_ge h0.2.2 hg).2⟩,⟨h1.1,h1.2.1,ownsRow_heap h1.2.2 fun g hg=>hk g (ownBlock_ge h1.2.2 hg).1 (ownBlock_ge h1.2.2 hg).2⟩,Nat.le_trans hB hz,hd,fun i a b=>tr _ (l0 i a b),fun i a b=>tr _ (l1 i a b)⟩
theorem Two.below (h:Two T0 s0 I0 T1 s1 I1 B X v0 v1 es fs) (hb:Below X.heap.size X Y):Two T0 s0 I0 T1 s1 I1 B Y v0 v1 es fs:=h.heap hb.size fun k _ h2=>hb.block k h2
theorem Two.bb {m:Nat} (h:Two T0 s0 I0 T1 s1 I1 B X v0 v1 es fs) (hb:Bb X.heap.size m X Y) (hm:m < B):Two T0 s0 I0 T1 s1 I1 B Y v0 v1 es fs:=h.heap hb.size fun k h1 h2=>hb.block k h2 (by omega)
theorem Two.own {g:Nat} (h:Two T0 s0 I0 T1 s1 I1 B X v0 v1 es fs) (hs:OneSet g X Y) (hm:g < B):Two T0 s0 I0 T1 s1 I1 B Y v0 v1 es fs:=h.heap (by rw [hs.size];exact Nat.le_refl _) fun k h1 _=>hs.other k (by omega)
theorem Two.push {e:α} {cs:Array Value} {TS:TypeId} {i0:TypeInfo} {z:Value} {bytes:Nat} (h:Two T0 s0 I0 T1 s1 I1 B X v0 v1 es fs) (hcs:cs.size=s0) (hs0:0 < s0) (hone:∀ u ∈ cs.toList,u.oneCell'=true) {M:Nat} (hM:B≤M) (hMX:M≤X.heap.size) (ho0:∀ g,v0.ownBlock=some g→g < M) (ho1:∀ g,v1.ownBlock=some g→g < M)
  (he:Lay M X.heap.size X fun x=>I0 x cs.toList e) (hu:Tryz.prog.underlying TS=some (.slice T0)) (hi:Tryz.prog.info? T0=some i0) (hz:i0.zero=some z) (hsz:i0.size=s0) (hby:i0.bytes=bytes) (hzs:z.cells.size=s0) (hn:es.length≤100000) (hbt:bytes≤1000) (t:TypeId) :
  ∃ v' w',(Builtin.append_ #[TS,TS] t #[v0,.slice (some ⟨X.heap.size,0,none⟩) 1 1]).run Tryz.prog (X.alloc (.cells cs T0))=.ok v' w'∧Two T0 s0 I0 T1 s1 I1 B w' v' v1 (es ++ [e]) fs∧(X.alloc (.cells cs T0)).grownBy w' v0.ownBlock:=by
 obtain ⟨Y,hY⟩:∃ Y,X.alloc (.cells cs T0)=Y:=⟨_,rfl⟩
 have hb:Below X.heap.size X Y:=by rw [←hY];exact (Below.refl _ _).alloc (Nat.le_refl _) _
 have hzY:Y.heap.size=X.heap.size + 1:=by rw [←hY];simp
 obtain ⟨c0,c1,h0,h1,hB,hd,l0,l1⟩:=h.below hb
 have hnew:∀ j u,cs.toList[j]?=some u→Y.cell? ((⟨X.heap.size,0,none⟩:Addr).add j)=some u:=by rw [←hY];exact cells_new6 X cs T0
 obtain ⟨v',w',q0,q1,q2,_,q4⟩:=run_append_own_at (P:=Tryz.prog) Y B TS t T0 i0 z s0 bytes hu hi hz hsz hby hzs hs0 v0 es.length c0.flatten h0.2.2 ⟨X.heap.size,0,none⟩ 1 1 cs.toList (by simpa using hcs) hnew hone (by unfold maxLen;omega) (by have:(es.length + 1) * bytes≤(es.length + 1) * 1000:=Nat.mul_le_mul_left _ hbt;omega) hB
 rw [hY]
 refine ⟨v',w',q0,?_,q2⟩
 have hv1:∀ g,v1.ownBlock=some g→g < Y.heap.size:=fun g hg=>(ownBlock_ge h1.2.2 hg).2
 have tr:∀ F:World→Prop,LayH (ownL v0 ++ ownL v1) B Y.heap.size Y F→LayH (ownL v' ++ ownL v1) B w'.heap.size w' F:=fun F hF =>
  ((hF.of q2.size fun k _ h2 h3=>q2.block k h2 fun q=>h3 (List.mem_append.2 (.inl (ownL_mem.2 q.symm)))):LayH (ownL v0 ++ ownL v1) B Y.heap.size w' F).wide (Nat.le_refl _) q2.size (Nat.le_refl _) fun k hk h1 h2=>by
   rw [List.mem_append,ownL_mem] at hk ⊢
   rcases hk with hk | hk
   ·
    rcases q4 with q | q
    ·
     exact .inl (q ▸ hk)
    ·
     rw [q] at hk;cases hk;omega
   ·
    exact .inr hk
 refine ⟨c0 ++ [cs.toList],c1,⟨by simp [h0.1],fun c hc=>?_,?_⟩,⟨h1.1,h1.2.1,ownsRow_heap h1.2.2 fun g hg=>q2.block g (hv1 g hg) fun q=>hd g q.symm hg⟩,Nat.le_trans hB q2.size,fun g hg hq=>?_,fun i hi hi2=>?_,fun i a b=>tr _ (l1 i a b)⟩
 ·
  rcases List.mem_append.1 hc with q | q
  ·
   exact h0.2.1 c q
  ·
   simp at q;subst q;simpa using hcs
 ·
  rw [List.length_append,List.flatten_append]
  simpa using q1
 ·
  rcases q4 with q | q
  ·
   exact hd g (q ▸ hg) hq
  ·
   rw [q] at hg;cases hg
   have:=hv1 _ hq
   omega
 ·
  by_cases hlt:i < es.length
  ·
   have:=tr _ (l0 i hlt (by omega))
   simpa [List.getElem_append_left (h:=hlt) (h':=hi),List.getElem_append_left (show i < c0.length by omega)] using this
  ·
   have e1:i=es.length:=by simp at hi;omega
   subst e1
   have:=tr _ (LayH.of_lay (he.below hb) (B':=B) (E':=Y.heap.size) hM (by omega) (Nat.le_refl _) fun k hk=>by
    rw [List.mem_append,ownL_mem,ownL_mem] at hk
    rcases hk with hk | hk
    ·
     exact .inl (ho0 k hk)
    ·
     exact .inl (ho1 k hk))
   simpa [List.getElem_append_right (Nat.le_of_eq h0.1)] using this
theorem Two.done (h:Two T0 s0 I0 T1 s1 I1 B X v0 v1 es fs):∃ a c,v0=.slice a es.length c∧(es=[]∨∃ g,a=some ⟨g,0,none⟩∧B≤g∧g < X.heap.size∧∀ i (hi:i < es.length),∃ cs,cs.length=s0∧(∀ j x,cs[j]?=some x→X.cell? ⟨g,i * s0 + j,none⟩=some x)∧Lay B X.heap.size X fun x=>I0 x cs es[i]):=by
 obtain ⟨c0,c1,h0,h1,hB,hd,l0,l1⟩:=h
 obtain ⟨a,c,rfl,q1,q2,q3⟩:=own_cells h0.2.2
 refine ⟨a,c,rfl,?_⟩
 rcases q3 with q3 | ⟨g,rfl,q4,q5,q6⟩
 ·
  exact .inl (List.length_eq_zero_iff.1 q3)
 ·
  refine .inr ⟨g,rfl,q4,q5,fun i hi=>⟨c0[i]'(by omega),h0.2.1 _ (List.getElem_mem _),fun j x hj=>q6 _ _ ?_,(l0 i hi (by omega)).lay⟩⟩
  have hjs:j < s0:=by have:=(List.getElem?_eq_some_iff.1 hj).1;rw [h0.2.1 _ (List.getElem_mem _)] at this;exact this
  rw [flat_get h0.2.1 i j (by omega) hjs]
  exact hj
end
def IsDtC (x:World) (cs:List Value) (d:Dt):Prop:=∃ v0 v1 v2,cs=[v0,v1,v2]∧IsDt x (.agg #[v0,v1,v2]) d
def IsDfC (x:World) (cs:List Value) (d:Df):Prop:=∃ v0 v1 v2 v3 v4 v5,cs=[v0,v1,v2,v3,v4,v5]∧IsDf x (.agg #[v0,v1,v2,v3,v4,v5]) d
def PgS (B:Nat) (X:World) (v0 v1:Value) (p:Pg):Prop:=Two 77 3 IsDtC 79 6 IsDfC B X v0 v1 p.datas p.defs
theorem PgS.dts {B:Nat} {X:World} {v0 v1:Value} {p:Pg} (h:PgS B X v0 v1 p):∃ a c,v0=.slice a p.datas.length c∧Lay B X.heap.size X fun x=>DtRow x a p.datas:=by
 obtain ⟨a,c,rfl,h2⟩:=Two.done h
 refine ⟨a,c,rfl,?_⟩
 rcases h2 with h2 | ⟨g,rfl,g1,g2,g3⟩
 ·
  exact Lay.all (Nat.le_refl _) fun _=>.inl h2
 ·
  refine ⟨Nat.le_refl _,fun x hx=>.inr ⟨g,0,rfl,fun i hi=>?_⟩⟩
  obtain ⟨cs,_,hc,hl⟩:=g3 i hi
  obtain ⟨v0,v1,v2,rfl,he⟩:=hl.2 x fun k k1 k2=>hx k k1 k2
  have cl:∀ j y,[v0,v1,v2][j]?=some y→x.cell? ⟨g,0 + i * 3 + j,none⟩=some y:=fun j y hj=>by
   rw [Nat.zero_add]
   exact (World.cell?_of_block (hx g g1 g2)).trans (hc j y hj)
  exact ⟨v0,v1,v2,cl 0 _ rfl,cl 1 _ rfl,cl 2 _ rfl,he⟩
theorem PgS.dfs {B:Nat} {X:World} {v0 v1:Value} {p:Pg} (h:PgS B X v0 v1 p):∃ a c,v1=.slice a p.defs.length c∧Lay B X.heap.size X fun x=>DfRow x a p.defs:=by
 obtain ⟨a,c,rfl,h2⟩:=Two.done (Two.swap h)
 refine ⟨a,c,rfl,?_⟩
 rcases h2 with h2 | ⟨g,rfl,g1,g2,g3⟩
 ·
  exact Lay.all (Nat.le_refl _) fun _=>.inl h2
 ·
  refine ⟨Nat.le_refl _,fun x hx=>.inr ⟨g,0,rfl,fun i hi=>?_⟩⟩
  obtain ⟨cs,_,hc,hl⟩:=g3 i hi
  obtain ⟨v0,v1,v2,v3,v4,v5,rfl,he⟩:=hl.2 x fun k k1 k2=>hx k k1 k2
  have cl:∀ j y,[v0,v1,v2,v3,v4,v5][j]?=some y→x.cell? ⟨g,0 + i * 6 + j,none⟩=some y:=fun j y hj=>by
   rw [Nat.zero_add]
   exact (World.cell?_of_block (hx g g1 g2)).trans (hc j y hj)
  exact ⟨v0,v1,v2,v3,v4,v5,cl 0 _ rfl,cl 1 _ rfl,cl 2 _ rfl,cl 3 _ rfl,cl 4 _ rfl,cl 5 _ rfl,he⟩
def PgL (B:Nat) (w:World) (v:Value) (p:Pg):Prop:=Lay B w.heap.size w fun x=>IsPg x v p
theorem Pg.add_assoc (a b c:Pg):(a.add b).add c=a.add (b.add c):=by unfold Pg.add;simp [List.append_assoc]
def contP (l:List Tk) (f g:Nat) (acc:Pg) (j:Nat):Ans6 Pg:=(pItems l f g j).bnd fun q k=>ok6 (acc.add q) k
theorem contP_zero {l:List Tk} {f:Nat} {acc:Pg} {j:Nat} {x:Except Nat (Pg × Nat)} (h:contP l f 0 acc j=some x):False:=by cases h
theorem contP_next {l:List Tk} {f g:Nat} {acc:Pg} {j:Nat}:contP l f (g + 1) acc j=(pItem l f j).bnd fun p k=>if isAt l k semiT=true then contP l f g (acc.add p) (k + 1) else sgn6 l k bShut fun m=>ok6 (acc.add p) m:=by
 show (((pItem l f j).bnd fun p k=>if isAt l k semiT=true then (pItems l f g (k + 1)).bnd fun q m=>ok6 (p.add q) m else sgn6 l k bShut fun m=>ok6 p m).bnd fun q k=>ok6 (acc.add q) k)=_
 cases pItem l f j with
 | none=>rfl
 | some x =>
  cases x with
  | error p=>rfl
  | ok q =>
   show ((if isAt l q.2 semiT=true then (pItems l f g (q.2 + 1)).bnd fun r m=>ok6 (q.1.add r) m else sgn6 l q.2 bShut fun m=>ok6 q.1 m).bnd fun q k=>ok6 (acc.add q) k)=if isAt l q.2 semiT=true then contP l f g (acc.add q.1) (q.2 + 1) else sgn6 l q.2 bShut fun m=>ok6 (acc.add q.1) m
   split
   ·
    unfold contP
    cases pItems l f g (q.2 + 1) with
    | none=>rfl
    | some y =>
     cases y with
     | error p=>rfl
     | ok z=>show some _=some _;rw [Pg.add_assoc]
   ·
    unfold sgn6
    split <;> rfl
end Go.Proofs.YtinjocchommbdaaGreatDoor
