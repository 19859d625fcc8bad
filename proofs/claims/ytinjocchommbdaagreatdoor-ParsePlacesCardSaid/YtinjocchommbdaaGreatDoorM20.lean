/- A part of the proof that parser laws hold: texts of the walk and of its plain laws, made small. -/
import Derived.Test.YtinjocchommbdaaGreatDoorM19
import Derived.Test.YtinjocchommbdaaGreatDoorM06
set_option linter.unusedVariables false
set_option linter.unusedSimpArgs false
namespace Go.Proofs.YtinjocchommbdaaGreatDoor
open Go.RowKit
section
variable {rb:Nat} {a:Option Addr} {c:Nat} {l:List Tk}
set_option maxHeartbeats 8000000 in
set_option maxRecDepth 100000 in
theorem par_alt {f:Nat} (hE:RuleC 27 rb a c l f .expr):RuleC 67 rb a c l (f + 1) .alt:=by
 intro W i x h hx
 simp only [pR,stepR] at hx
 obtain ⟨W1,hW1⟩:∃ V,W.alloc (.cells #[.int .i64 0,.string ⟨#[]⟩,.int .i64 0,.slice none 0 0,.slice none 0 0] 27)=V:=⟨_,rfl⟩
 have hb1:Below W.heap.size W W1:=by rw [←hW1];exact (Below.refl _ _).alloc (Nat.le_refl _) _
 have bA1:Hid (Box5 W1 27 W.heap.size (.int .i64 0) (.string ⟨#[]⟩) (.int .i64 0) (.slice none 0 0) (.slice none 0 0)):=by rw [←hW1];exact blk_new (Below.refl _ _)
 have zz1:Hid (W1.heap.size=W.heap.size + 1):=by rw [←hW1];simp [Hid]
 have hp1:=Lib.hid ((PS.refl h).below hb1)
 have hrb:=h.lt
 have h':=Lib.hid h
 have hW1':=Lib.hid hW1
 have hx0:=Lib.hid hx
 have hfl:=Tryz.fldText
 have hfn:=Tryz.fldNum
 clear hW1 hb1 h hx
 have of2:=Lib.hid (par_of hp1.out.rd 3 (by decide))
 go_enter Tryz.func67,Tryz.ntmps67
 go_upto_region 1 with (fail)
 rw [hW1'.out]
 go_wp2_with fail
 refine of2.out.mono ?_
 rintro e V3 ⟨hB,hm⟩
 by_cases ks:kindAt l (i)=3
 case neg =>
  rw [if_neg ks] at hm
  obtain rfl:=hm
  have hxx:x=.error (i):=by have:=hx0.out;rw [if_neg ks] at this;exact (Option.some.inj this).symm
  subst hxx
  exact ⟨rfl,hp1.out.bb.next hB,rfl⟩
 rw [if_pos ks] at hm
 obtain ⟨rfl,hR⟩:=hm
 have hx4:=hx0.out
 rw [if_pos ks] at hx4
 have hx4:=Lib.hid hx4
 have zV3:=Lib.hid hB.size
 have hpV3:=Lib.hid (hp1.out.call hB hR)
 have bAV3:=Lib.hid (bA1.out.bb hB (by have:=hrb;have:=zz1.out;omega))
 clear ks hB hR hx0 of2
 clear hp1 bA1
 obtain ⟨S,hS⟩:∃ S,(textAt l (i))=S:=⟨_,rfl⟩
 have hSz:Hid (S.size≤lenMax):=by rw [←hS];exact fit_text h'.out.fit _
 rw [hS] at hx4 ⊢
 clear hS
 obtain ⟨W5,hW5⟩:∃ V,V3.alloc (.cells #[.int .i64 8,.string S,.int .i64 0,.slice none 0 0,.slice none 0 0] 27)=V:=⟨_,rfl⟩
 have hbW5:Below V3.heap.size V3 W5:=by rw [←hW5];exact (Below.refl _ _).alloc (Nat.le_refl _) _
 have zW5:Hid (W5.heap.size=V3.heap.size + 1):=by rw [←hW5];simp [Hid]
 have bW5:Hid (Blk W5 V3.heap.size (.cells #[.int .i64 8,.string S,.int .i64 0,.slice none 0 0,.slice none 0 0] 27 (0,0))):=by rw [←hW5];exact Blk.new
 have hpW5:=Lib.hid (hpV3.out.below hbW5)
 have bAW5:=Lib.hid (bAV3.out.below hbW5)
 have hW5':=Lib.hid hW5
 clear hW5 hbW5 hpV3 bAV3
 have nm6:=Lib.hid (par_names hpW5.out.rd)
 go_upto_region 2 with (fail)
 rw [hW5'.out]
 go_wp2_with fail
 refine nm6.out.mono ?_
 rintro e V7 ⟨nv,rfl,hN,hB,hR⟩
 obtain ⟨na,nc,rfl,hn1,hn2,hn3,hN⟩:=hN
 have tN:Hid (Lay W5.heap.size V7.heap.size V7 fun x=>StrRow x na (nms l (i + 1))):=hN
 have zV7:=Lib.hid hB.size
 have hnn:=Lib.hid (And.intro hn1 (And.intro hn2 hn3))
 have hpV7:=Lib.hid (hpW5.out.call hB hR)
 have bAV7:=Lib.hid (bAW5.out.bb hB (by have:=hrb;have:=zz1.out;have:=zV3.out;have:=zW5.out;omega))
 have bTV7:=Lib.hid (bW5.out.bb hB (by have:=hrb;have:=zz1.out;have:=zV3.out;have:=zW5.out;omega))
 clear hB hR hN hn1 hn2 hn3 hpW5 bAW5 bW5
 obtain ⟨⟨m80,m81,m82,m83,m84⟩,m8f⟩:=(show Box5 V7 27 V3.heap.size (.int .i64 8) (.string S) (.int .i64 0) (.slice none 0 0) (.slice none 0 0) from bTV7.out).cells
 have m8l:V3.heap.size < V7.heap.size:=blk_lt (show Box5 V7 27 V3.heap.size (.int .i64 8) (.string S) (.int .i64 0) (.slice none 0 0) (.slice none 0 0) from bTV7.out)
 go_upto_region 3 with (fail)
 obtain ⟨M9,hM9⟩:∃ V,V7.setCell ⟨V3.heap.size,3,none⟩ (.slice na (nms l (i + 1)).length nc)=V:=⟨_,rfl⟩
 rw [hM9]
 clear m80 m81 m82 m83 m84 m8f m8l
 have hsM9:=(show Box5 V7 27 V3.heap.size (.int .i64 8) (.string S) (.int .i64 0) (.slice none 0 0) (.slice none 0 0) from bTV7.out).at3 (.slice na (nms l (i + 1)).length nc)
 rw [hM9] at hsM9
 have zM9:=Lib.hid hsM9.2.size
 have hpM9:Hid (PS W rb a c l (i + 1 + (nms l (i + 1)).length) M9):=PS.own h'.out hpV7.out hsM9.2 (by have:=hrb;have:=zz1.out;have:=zV3.out;have:=zW5.out;have:=zV7.out;omega)
 have bAM9:Hid (Box5 M9 27 W.heap.size (.int .i64 0) (.string ⟨#[]⟩) (.int .i64 0) (.slice none 0 0) (.slice none 0 0)):=(show Box5 V7 27 W.heap.size (.int .i64 0) (.string ⟨#[]⟩) (.int .i64 0) (.slice none 0 0) (.slice none 0 0) from bAV7.out).own hsM9.2 (by have:=hrb;have:=zz1.out;have:=zV3.out;have:=zW5.out;have:=zV7.out;omega)
 have tNM9:=Lib.hid (tN.out.own hsM9.2 (by have:=hrb;have:=zz1.out;have:=zV3.out;have:=zW5.out;have:=zV7.out;omega))
 have bTM9:Hid (Box5 M9 27 V3.heap.size (.int .i64 8) (.string S) (.int .i64 0) (.slice na (nms l (i + 1)).length nc) (.slice none 0 0)):=hsM9.1
 clear hM9 hsM9 bTV7 hpV7 bAV7 tN
 have sg10:Hid (Calls Tryz.prog 64 #[.pointer (some ⟨rb,0,none⟩),.string ⟨#[45,62]⟩] M9 fun e W'=>Bb M9.heap.size rb M9 W'∧if isAt l (i + 1 + (nms l (i + 1)).length) [45,62]=true then e=.returned (.tuple #[])∧Rd W' rb a c l ((i + 1 + (nms l (i + 1)).length) + 1) else e=stuckE (i + 1 + (nms l (i + 1)).length)):=par_sign hpM9.out.rd [45,62]
 go_wp2_with fail
 refine sg10.out.mono ?_
 rintro e V11 ⟨hB,hm⟩
 by_cases ks:isAt l (i + 1 + (nms l (i + 1)).length) [45,62]=true
 case neg =>
  rw [if_neg ks] at hm
  obtain rfl:=hm
  have hxx:=sgn6_err hx4.out ks
  subst hxx
  exact ⟨rfl,hpM9.out.bb.next hB,rfl⟩
 rw [if_pos ks] at hm
 obtain ⟨rfl,hR⟩:=hm
 have hx12:=Lib.hid (sgn6_ok hx4.out ks)
 try dsimp only at hx12
 have zV11:=Lib.hid hB.size
 have hpV11:=Lib.hid (hpM9.out.call hB hR)
 have bAV11:=Lib.hid (bAM9.out.bb hB (by have:=hrb;have:=zz1.out;have:=zV3.out;have:=zW5.out;have:=zV7.out;have:=zM9.out;omega))
 have tNV11:=Lib.hid (tNM9.out.bb hB (by have:=hrb;have:=zz1.out;have:=zV3.out;have:=zW5.out;have:=zV7.out;have:=zM9.out;omega))
 have bTV11:=Lib.hid (bTM9.out.bb hB (by have:=hrb;have:=zz1.out;have:=zV3.out;have:=zW5.out;have:=zV7.out;have:=zM9.out;omega))
 clear ks hB hR hx4 sg10
 clear hpM9 bAM9 tNM9 bTM9
 obtain ⟨q13,hq13,kq13⟩:=pR_split hx12.out
 have cq13:=Lib.hid (hE V11 (i + 1 + (nms l (i + 1)).length + 1) q13 hpV11.out.rd hq13)
 have kq13:=Lib.hid kq13
 clear hq13 hx12
 go_wp2_with fail
 refine cq13.out.mono ?_
 rintro e V14 ⟨hB,hm⟩
 rcases q13 with p | ⟨es,jq13⟩
 case error =>
  obtain rfl:=hm
  have hxx:=kq13.out
  dsimp only at hxx
  subst hxx
  exact And.intro rfl (And.intro (hpV11.out.bb.next hB) rfl)
 obtain ⟨v,yq13,rfl,rfl,hL,hR⟩:=hm
 obtain ⟨kq130,sq13,nq13,aq13,mq13,cq13,bq13,oq13,dq13,rfl⟩:=hL.out.agg
 have zV14:=Lib.hid hB.size
 have tq13:Hid (Lay V11.heap.size V14.heap.size V14 fun x=>IsEx x (.agg #[.int .i64 kq130,.string sq13,.int .i64 nq13,.slice aq13 mq13 cq13,.slice bq13 oq13 dq13]) yq13):=hL
 have hpV14:=Lib.hid (hpV11.out.call hB hR)
 have bAV14:=Lib.hid (bAV11.out.bb hB (by have:=hrb;have:=zz1.out;have:=zV3.out;have:=zW5.out;have:=zV7.out;have:=zM9.out;have:=zV11.out;omega))
 have tNV14:=Lib.hid (tNV11.out.bb hB (by have:=hrb;have:=zz1.out;have:=zV3.out;have:=zW5.out;have:=zV7.out;have:=zM9.out;have:=zV11.out;omega))
 have bTV14:=Lib.hid (bTV11.out.bb hB (by have:=hrb;have:=zz1.out;have:=zV3.out;have:=zW5.out;have:=zV7.out;have:=zM9.out;have:=zV11.out;omega))
 have kxq13:=Lib.hid kq13.out
 try dsimp only at kxq13
 clear hB hR hL kq13
 clear hpV11 bAV11 tNV11 bTV11
 obtain ⟨⟨m150,m151,m152,m153,m154⟩,m15f⟩:=(show Box5 V14 27 V3.heap.size (.int .i64 8) (.string S) (.int .i64 0) (.slice na (nms l (i + 1)).length nc) (.slice none 0 0) from bTV14.out).cells
 have m15l:V3.heap.size < V14.heap.size:=blk_lt (show Box5 V14 27 V3.heap.size (.int .i64 8) (.string S) (.int .i64 0) (.slice na (nms l (i + 1)).length nc) (.slice none 0 0) from bTV14.out)
 go_upto_region 5 with (fail)
 obtain ⟨M17,hM17⟩:∃ V,V14.setCell ⟨V3.heap.size,4,none⟩ (.slice (some ⟨V14.heap.size,0,none⟩) 1 1)=V:=⟨_,rfl⟩
 have hsM17:=(show Box5 V14 27 V3.heap.size (.int .i64 8) (.string S) (.int .i64 0) (.slice na (nms l (i + 1)).length nc) (.slice none 0 0) from bTV14.out).at4 (.slice (some ⟨V14.heap.size,0,none⟩) 1 1)
 rw [hM17] at hsM17
 have zM17:=Lib.hid hsM17.2.size
 have hpM17:Hid (PS W rb a c l (jq13) M17):=PS.own h'.out hpV14.out hsM17.2 (by have:=hrb;have:=zz1.out;have:=zV3.out;have:=zW5.out;have:=zV7.out;have:=zM9.out;have:=zV11.out;have:=zV14.out;omega)
 have bAM17:Hid (Box5 M17 27 W.heap.size (.int .i64 0) (.string ⟨#[]⟩) (.int .i64 0) (.slice none 0 0) (.slice none 0 0)):=(show Box5 V14 27 W.heap.size (.int .i64 0) (.string ⟨#[]⟩) (.int .i64 0) (.slice none 0 0) (.slice none 0 0) from bAV14.out).own hsM17.2 (by have:=hrb;have:=zz1.out;have:=zV3.out;have:=zW5.out;have:=zV7.out;have:=zM9.out;have:=zV11.out;have:=zV14.out;omega)
 have tNM17:=Lib.hid (tNV14.out.own hsM17.2 (by have:=hrb;have:=zz1.out;have:=zV3.out;have:=zW5.out;have:=zV7.out;have:=zM9.out;have:=zV11.out;have:=zV14.out;omega))
 have tq13M17:=Lib.hid (tq13.out.own hsM17.2 (by have:=hrb;have:=zz1.out;have:=zV3.out;have:=zW5.out;have:=zV7.out;have:=zM9.out;have:=zV11.out;have:=zV14.out;omega))
 have bTM17:Hid (Box5 M17 27 V3.heap.size (.int .i64 8) (.string S) (.int .i64 0) (.slice na (nms l (i + 1)).length nc) (.slice (some ⟨V14.heap.size,0,none⟩) 1 1)):=hsM17.1
 have hM17':=Lib.hid hM17
 clear hM17 hsM17 bTV14 hpV14 bAV14 tNV14 tq13
 obtain ⟨W16,hW16⟩:∃ V,M17.alloc (.cells #[.int .i64 kq130,.string sq13,.int .i64 nq13,.slice aq13 mq13 cq13,.slice bq13 oq13 dq13] 27)=V:=⟨_,rfl⟩
 have hbW16:Below M17.heap.size M17 W16:=by rw [←hW16];exact (Below.refl _ _).alloc (Nat.le_refl _) _
 have zW16:Hid (W16.heap.size=M17.heap.size + 1):=by rw [←hW16];simp [Hid]
 have bW16:Hid (Blk W16 V14.heap.size (.cells #[.int .i64 kq130,.string sq13,.int .i64 nq13,.slice aq13 mq13 cq13,.slice bq13 oq13 dq13] 27 (0,0))):=by have e:=zM17.out;rw [←hW16,←e];exact Blk.new
 have hpW16:=Lib.hid (hpM17.out.below hbW16)
 have bAW16:=Lib.hid (bAM17.out.below hbW16)
 have tNW16:=Lib.hid (tNM17.out.below hbW16)
 have tq13W16:=Lib.hid (tq13M17.out.below hbW16)
 have bTW16:=Lib.hid (bTM17.out.below hbW16)
 have hW16':=Lib.hid hW16
 clear hW16 hbW16 hpM17 bAM17 tNM17 tq13M17 bTM17
 rw [hM17'.out,hW16'.out]
 clear m150 m151 m152 m153 m154 m15f m15l
 have hl:LayH [W.heap.size] W.heap.size W16.heap.size W16 fun x=>IsEx x (.agg #[.int .i64 8,.string S,.int .i64 0,.slice na (nms l (i + 1)).length nc,.slice (some ⟨V14.heap.size,0,none⟩) 1 1]) (.mk 8 S 0 (nms l (i + 1)) [yq13]):=by
  have:=hrb
  have:=zz1.out
  have:=zV3.out
  have:=zW5.out
  have:=zV7.out
  have:=zM9.out
  have:=zV11.out
  have:=zV14.out
  have:=zM17.out
  have:=zW16.out
  have g0:=LayH.of_lay (hs:=[W.heap.size]) (B':=W.heap.size) (E':=W16.heap.size) tq13W16.out (by omega) (by omega) (Nat.le_refl _) (fun q hq=>by simp only [List.mem_cons,List.not_mem_nil,or_false] at hq;subst hq;omega)
  have gn:=LayH.of_lay (hs:=[W.heap.size]) (B':=W.heap.size) (E':=W16.heap.size) tNW16.out (by omega) (by omega) (Nat.le_refl _) (fun q hq=>by simp only [List.mem_cons,List.not_mem_nil,or_false] at hq;subst hq;omega)
  have gr:=LayH.rowOf (hs:=[W.heap.size]) (B:=W.heap.size) (E:=W16.heap.size) (b:=V14.heap.size) (by omega) (by omega) (by simp;omega) (show Blk _ _ _ from bW16.out) g0
  exact LayH.tree (l:=(nms l (i + 1))) (ks:=[yq13]) (by decide) (by decide) hSz.out (by have:=hnn.out.2.2;unfold lenMax;omega) (by simp [lenMax]) gn gr ⟨hnn.out.1,Nat.le_refl _⟩
 have hf:=Lib.hid (ExR.fin1 h'.out hpW16.out (show Box5 W16 27 W.heap.size (.int .i64 0) (.string ⟨#[]⟩) (.int .i64 0) (.slice none 0 0) (.slice none 0 0) from bAW16.out) (Nat.le_refl _) hl)
 obtain ⟨⟨m180,m181,m182,m183,m184⟩,m18f⟩:=(show Box5 W16 27 W.heap.size (.int .i64 0) (.string ⟨#[]⟩) (.int .i64 0) (.slice none 0 0) (.slice none 0 0) from bAW16.out).cells
 have m18l:W.heap.size < W16.heap.size:=blk_lt (show Box5 W16 27 W.heap.size (.int .i64 0) (.string ⟨#[]⟩) (.int .i64 0) (.slice none 0 0) (.slice none 0 0) from bAW16.out)
 obtain ⟨⟨m190,m191,m192,m193,m194⟩,m19f⟩:=(show Box5 W16 27 V3.heap.size (.int .i64 8) (.string S) (.int .i64 0) (.slice na (nms l (i + 1)).length nc) (.slice (some ⟨V14.heap.size,0,none⟩) 1 1) from bTW16.out).cells
 have m19l:V3.heap.size < W16.heap.size:=blk_lt (show Box5 W16 27 V3.heap.size (.int .i64 8) (.string S) (.int .i64 0) (.slice na (nms l (i + 1)).length nc) (.slice (some ⟨V14.heap.size,0,none⟩) 1 1) from bTW16.out)
 have hxx:Hid (x=_):=(Option.some.inj kxq13.out).symm
 clear hl
 go_wp2_with fail
 refine set5_fold ?_
 refine bodyPost_ret (results_ex rfl _ _ rfl hf.out.1.cells.1) rfl ?_
 rw [hxx.out]
 exact hf.out.2
set_option maxHeartbeats 8000000 in
set_option maxRecDepth 100000 in
theorem par_let {f:Nat} (hE:RuleC 27 rb a c l f .expr) (W:World) (i:Nat) (x:Except Nat (List Ex × Nat)) (h:Rd W rb a c l i) (hx:(if kindAt l i=2 then sgn6 l (i + 1) [61] fun j=>(pR l f .expr j).bnd fun a k=>sgn6 l k [105,110] fun m=>(pR l f .expr m).bnd fun b n=>ok6 [.mk 6 ex0 0 [textAt l i] (a ++ b)] n else err6 i)=some x):Calls Tryz.prog 65 #[.pointer (some ⟨rb,0,none⟩)] W fun e W'=>ExR W rb a c l x e W':=by
 obtain ⟨W1,hW1⟩:∃ V,W.alloc (.cells #[.int .i64 0,.string ⟨#[]⟩,.int .i64 0,.slice none 0 0,.slice none 0 0] 27)=V:=⟨_,rfl⟩
 have hb1:Below W.heap.size W W1:=by rw [←hW1];exact (Below.refl _ _).alloc (Nat.le_refl _) _
 have bA1:Hid (Box5 W1 27 W.heap.size (.int .i64 0) (.string ⟨#[]⟩) (.int .i64 0) (.slice none 0 0) (.slice none 0 0)):=by rw [←hW1];exact blk_new (Below.refl _ _)
 have zz1:Hid (W1.heap.size=W.heap.size + 1):=by rw [←hW1];simp [Hid]
 have hp1:=Lib.hid ((PS.refl h).below hb1)
 have hrb:=h.lt
 have h':=Lib.hid h
 have hW1':=Lib.hid hW1
 have hx0:=Lib.hid hx
 have hfl:=Tryz.fldText
 have hfn:=Tryz.fldNum
 clear hW1 hb1 h hx
 have of2:=Lib.hid (par_of hp1.out.rd 2 (by decide))
 go_enter Tryz.func65,Tryz.ntmps65
 go_upto_region 1 with (fail)
 rw [hW1'.out]
 go_wp2_with fail
 refine of2.out.mono ?_
 rintro e V3 ⟨hB,hm⟩
 by_cases ks:kindAt l (i)=2
 case neg =>
  rw [if_neg ks] at hm
  obtain rfl:=hm
  have hxx:x=.error (i):=by have:=hx0.out;rw [if_neg ks] at this;exact (Option.some.inj this).symm
  subst hxx
  exact ⟨rfl,hp1.out.bb.next hB,rfl⟩
 rw [if_pos ks] at hm
 obtain ⟨rfl,hR⟩:=hm
 have hx4:=hx0.out
 rw [if_pos ks] at hx4
 have hx4:=Lib.hid hx4
 have zV3:=Lib.hid hB.size
 have hpV3:=Lib.hid (hp1.out.call hB hR)
 have bAV3:=Lib.hid (bA1.out.bb hB (by have:=hrb;have:=zz1.out;omega))
 clear ks hB hR hx0 of2
 clear hp1 bA1
 obtain ⟨S,hS⟩:∃ S,(textAt l (i))=S:=⟨_,rfl⟩
 have hSz:Hid (S.size≤lenMax):=by rw [←hS];exact fit_text h'.out.fit _
 rw [hS] at hx4 ⊢
 clear hS
 obtain ⟨W5,hW5⟩:∃ V,V3.alloc (.cells #[.string S] 9)=V:=⟨_,rfl⟩
 have hbW5:Below V3.heap.size V3 W5:=by rw [←hW5];exact (Below.refl _ _).alloc (Nat.le_refl _) _
 have zW5:Hid (W5.heap.size=V3.heap.size + 1):=by rw [←hW5];simp [Hid]
 have bW5:Hid (Blk W5 V3.heap.size (.cells #[.string S] 9 (0,0))):=by rw [←hW5];exact Blk.new
 have hpW5:=Lib.hid (hpV3.out.below hbW5)
 have bAW5:=Lib.hid (bAV3.out.below hbW5)
 have hW5':=Lib.hid hW5
 clear hW5 hbW5 hpV3 bAV3
 have tN:Hid (Lay V3.heap.size (V3.heap.size + 1) W5 fun x=>StrRow x (some ⟨V3.heap.size,0,none⟩) [S]):=by rw [←hW5'.out];exact lay_str1 hSz.out
 obtain ⟨W6,hW6⟩:∃ V,W5.alloc (.cells #[.int .i64 6,.string ⟨#[]⟩,.int .i64 0,.slice (some ⟨V3.heap.size,0,none⟩) 1 1,.slice none 0 0] 27)=V:=⟨_,rfl⟩
 have hbW6:Below W5.heap.size W5 W6:=by rw [←hW6];exact (Below.refl _ _).alloc (Nat.le_refl _) _
 have zW6:Hid (W6.heap.size=W5.heap.size + 1):=by rw [←hW6];simp [Hid]
 have bW6:Hid (Blk W6 (V3.heap.size + 1) (.cells #[.int .i64 6,.string ⟨#[]⟩,.int .i64 0,.slice (some ⟨V3.heap.size,0,none⟩) 1 1,.slice none 0 0] 27 (0,0))):=by have e:=zW5.out;rw [←hW6,←e];exact Blk.new
 have hpW6:=Lib.hid (hpW5.out.below hbW6)
 have bAW6:=Lib.hid (bAW5.out.below hbW6)
 have rNW6:=Lib.hid (bW5.out.below hbW6)
 have tNW6:=Lib.hid (tN.out.below hbW6)
 have hW6':=Lib.hid hW6
 clear hW6 hbW6 hpW5 bAW5 bW5 tN
 have sg7:Hid (Calls Tryz.prog 64 #[.pointer (some ⟨rb,0,none⟩),.string ⟨#[61]⟩] W6 fun e W'=>Bb W6.heap.size rb W6 W'∧if isAt l (i + 1) [61]=true then e=.returned (.tuple #[])∧Rd W' rb a c l ((i + 1) + 1) else e=stuckE (i + 1)):=par_sign hpW6.out.rd [61]
 go_upto_region 2 with (fail)
 rw [hW5'.out,hW6'.out]
 go_wp2_with fail
 refine sg7.out.mono ?_
 rintro e V8 ⟨hB,hm⟩
 by_cases ks:isAt l (i + 1) [61]=true
 case neg =>
  rw [if_neg ks] at hm
  obtain rfl:=hm
  have hxx:=sgn6_err hx4.out ks
  subst hxx
  exact ⟨rfl,hpW6.out.bb.next hB,rfl⟩
 rw [if_pos ks] at hm
 obtain ⟨rfl,hR⟩:=hm
 have hx9:=Lib.hid (sgn6_ok hx4.out ks)
 try dsimp only at hx9
 have zV8:=Lib.hid hB.size
 have hpV8:=Lib.hid (hpW6.out.call hB hR)
 have bAV8:=Lib.hid (bAW6.out.bb hB (by have:=hrb;have:=zz1.out;have:=zV3.out;have:=zW5.out;have:=zW6.out;omega))
 have rNV8:=Lib.hid (rNW6.out.bb hB (by have:=hrb;have:=zz1.out;have:=zV3.out;have:=zW5.out;have:=zW6.out;omega))
 have tNV8:=Lib.hid (tNW6.out.bb hB (by have:=hrb;have:=zz1.out;have:=zV3.out;have:=zW5.out;have:=zW6.out;omega))
 have bTV8:=Lib.hid (bW6.out.bb hB (by have:=hrb;have:=zz1.out;have:=zV3.out;have:=zW5.out;have:=zW6.out;omega))
 clear ks hB hR hx4 sg7
 clear hpW6 bAW6 rNW6 tNW6 bW6
 obtain ⟨q10,hq10,kq10⟩:=pR_split hx9.out
 have cq10:=Lib.hid (hE V8 (i + 1 + 1) q10 hpV8.out.rd hq10)
 have kq10:=Lib.hid kq10
 clear hq10 hx9
 go_wp2_with fail
 refine cq10.out.mono ?_
 rintro e V11 ⟨hB,hm⟩
 rcases q10 with p | ⟨es,jq10⟩
 case error =>
  obtain rfl:=hm
  have hxx:=kq10.out
  dsimp only at hxx
  subst hxx
  exact And.intro rfl (And.intro (hpV8.out.bb.next hB) rfl)
 obtain ⟨v,yq10,rfl,rfl,hL,hR⟩:=hm
 obtain ⟨kq100,sq10,nq10,aq10,mq10,cq10,bq10,oq10,dq10,rfl⟩:=hL.out.agg
 have zV11:=Lib.hid hB.size
 have tq10:Hid (Lay V8.heap.size V11.heap.size V11 fun x=>IsEx x (.agg #[.int .i64 kq100,.string sq10,.int .i64 nq10,.slice aq10 mq10 cq10,.slice bq10 oq10 dq10]) yq10):=hL
 have hpV11:=Lib.hid (hpV8.out.call hB hR)
 have bAV11:=Lib.hid (bAV8.out.bb hB (by have:=hrb;have:=zz1.out;have:=zV3.out;have:=zW5.out;have:=zW6.out;have:=zV8.out;omega))
 have rNV11:=Lib.hid (rNV8.out.bb hB (by have:=hrb;have:=zz1.out;have:=zV3.out;have:=zW5.out;have:=zW6.out;have:=zV8.out;omega))
 have tNV11:=Lib.hid (tNV8.out.bb hB (by have:=hrb;have:=zz1.out;have:=zV3.out;have:=zW5.out;have:=zW6.out;have:=zV8.out;omega))
 have bTV11:=Lib.hid (bTV8.out.bb hB (by have:=hrb;have:=zz1.out;have:=zV3.out;have:=zW5.out;have:=zW6.out;have:=zV8.out;omega))
 have kxq10:=Lib.hid kq10.out
 try dsimp only at kxq10
 clear hB hR hL kq10
 clear hpV8 bAV8 rNV8 tNV8 bTV8
 obtain ⟨W12,hW12⟩:∃ V,V11.alloc (.cells #[.int .i64 kq100,.string sq10,.int .i64 nq10,.slice aq10 mq10 cq10,.slice bq10 oq10 dq10] 27)=V:=⟨_,rfl⟩
 have hbW12:Below V11.heap.size V11 W12:=by rw [←hW12];exact (Below.refl _ _).alloc (Nat.le_refl _) _
 have zW12:Hid (W12.heap.size=V11.heap.size + 1):=by rw [←hW12];simp [Hid]
 have bW12:Hid (Blk W12 V11.heap.size (.cells #[.int .i64 kq100,.string sq10,.int .i64 nq10,.slice aq10 mq10 cq10,.slice bq10 oq10 dq10] 27 (0,0))):=by rw [←hW12];exact Blk.new
 have hpW12:=Lib.hid (hpV11.out.below hbW12)
 have bAW12:=Lib.hid (bAV11.out.below hbW12)
 have rNW12:=Lib.hid (rNV11.out.below hbW12)
 have tNW12:=Lib.hid (tNV11.out.below hbW12)
 have bTW12:=Lib.hid (bTV11.out.below hbW12)
 have tq10W12:=Lib.hid (tq10.out.below hbW12)
 have hW12':=Lib.hid hW12
 clear hW12 hbW12 hpV11 bAV11 rNV11 tNV11 bTV11 tq10
 have sg13:Hid (Calls Tryz.prog 64 #[.pointer (some ⟨rb,0,none⟩),.string ⟨#[105,110]⟩] W12 fun e W'=>Bb W12.heap.size rb W12 W'∧if isAt l (jq10) [105,110]=true then e=.returned (.tuple #[])∧Rd W' rb a c l ((jq10) + 1) else e=stuckE (jq10)):=par_sign hpW12.out.rd [105,110]
 go_upto_region 4 with (fail)
 rw [hW12'.out]
 go_wp2_with fail
 refine sg13.out.mono ?_
 rintro e V14 ⟨hB,hm⟩
 by_cases ks:isAt l (jq10) [105,110]=true
 case neg =>
  rw [if_neg ks] at hm
  obtain rfl:=hm
  have hxx:=sgn6_err kxq10.out ks
  subst hxx
  exact ⟨rfl,hpW12.out.bb.next hB,rfl⟩
 rw [if_pos ks] at hm
 obtain ⟨rfl,hR⟩:=hm
 have hx15:=Lib.hid (sgn6_ok kxq10.out ks)
 try dsimp only at hx15
 have zV14:=Lib.hid hB.size
 have hpV14:=Lib.hid (hpW12.out.call hB hR)
 have bAV14:=Lib.hid (bAW12.out.bb hB (by have:=hrb;have:=zz1.out;have:=zV3.out;have:=zW5.out;have:=zW6.out;have:=zV8.out;have:=zV11.out;have:=zW12.out;omega))
 have rNV14:=Lib.hid (rNW12.out.bb hB (by have:=hrb;have:=zz1.out;have:=zV3.out;have:=zW5.out;have:=zW6.out;have:=zV8.out;have:=zV11.out;have:=zW12.out;omega))
 have tNV14:=Lib.hid (tNW12.out.bb hB (by have:=hrb;have:=zz1.out;have:=zV3.out;have:=zW5.out;have:=zW6.out;have:=zV8.out;have:=zV11.out;have:=zW12.out;omega))
 have bTV14:=Lib.hid (bTW12.out.bb hB (by have:=hrb;have:=zz1.out;have:=zV3.out;have:=zW5.out;have:=zW6.out;have:=zV8.out;have:=zV11.out;have:=zW12.out;omega))
 have tq10V14:=Lib.hid (tq10W12.out.bb hB (by have:=hrb;have:=zz1.out;have:=zV3.out;have:=zW5.out;have:=zW6.out;have:=zV8.out;have:=zV11.out;have:=zW12.out;omega))
 have bUV14:=Lib.hid (bW12.out.bb hB (by have:=hrb;have:=zz1.out;have:=zV3.out;have:=zW5.out;have:=zW6.out;have:=zV8.out;have:=zV11.out;have:=zW12.out;omega))
 clear ks hB hR kxq10 sg13
 clear hpW12 bAW12 rNW12 tNW12 bTW12 tq10W12 bW12
 obtain ⟨q16,hq16,kq16⟩:=pR_split hx15.out
 have cq16:=Lib.hid (RuleC.later hE hpV14.out.rd hq16)
 have kq16:=Lib.hid kq16
 clear hq16 hx15
 obtain ⟨⟨m170,m171,m172,m173,m174⟩,m17f⟩:=(show Box5 V14 27 V11.heap.size (.int .i64 kq100) (.string sq10) (.int .i64 nq10) (.slice aq10 mq10 cq10) (.slice bq10 oq10 dq10) from bUV14.out).cells
 have m17l:V11.heap.size < V14.heap.size:=blk_lt (show Box5 V14 27 V11.heap.size (.int .i64 kq100) (.string sq10) (.int .i64 nq10) (.slice aq10 mq10 cq10) (.slice bq10 oq10 dq10) from bUV14.out)
 obtain ⟨⟨m180,m181,m182,m183,m184⟩,m18f⟩:=(show Box5 V14 27 (V3.heap.size + 1) (.int .i64 6) (.string ⟨#[]⟩) (.int .i64 0) (.slice (some ⟨V3.heap.size,0,none⟩) 1 1) (.slice none 0 0) from bTV14.out).cells
 have m18l:(V3.heap.size + 1) < V14.heap.size:=blk_lt (show Box5 V14 27 (V3.heap.size + 1) (.int .i64 6) (.string ⟨#[]⟩) (.int .i64 0) (.slice (some ⟨V3.heap.size,0,none⟩) 1 1) (.slice none 0 0) from bTV14.out)
 go_wp2_with fail
 go_region_with (first | (
   go_at_call 27
   refine (cq16.out _ (Below.refl _ _).drew).mono ?_
   rintro e V19 ⟨hB,hm⟩
   rcases q16 with p | ⟨es,jq16⟩
   case error =>
    obtain rfl:=hm
    have hxx:=kq16.out
    dsimp only at hxx
    subst hxx
    exact And.intro rfl (And.intro (hpV14.out.bb.next hB) rfl)
   obtain ⟨v,yq16,rfl,rfl,hL,hR⟩:=hm
   obtain ⟨kq160,sq16,nq16,aq16,mq16,cq16,bq16,oq16,dq16,rfl⟩:=hL.out.agg
   have zV19:=Lib.hid hB.size
   have tq16:Hid (Lay V14.heap.size V19.heap.size V19 fun x=>IsEx x (.agg #[.int .i64 kq160,.string sq16,.int .i64 nq16,.slice aq16 mq16 cq16,.slice bq16 oq16 dq16]) yq16):=hL
   have hpV19:=Lib.hid (hpV14.out.call hB hR)
   have bAV19:=Lib.hid (bAV14.out.bb hB (by have:=hrb;have:=zz1.out;have:=zV3.out;have:=zW5.out;have:=zW6.out;have:=zV8.out;have:=zV11.out;have:=zW12.out;have:=zV14.out;omega))
   have rNV19:=Lib.hid (rNV14.out.bb hB (by have:=hrb;have:=zz1.out;have:=zV3.out;have:=zW5.out;have:=zW6.out;have:=zV8.out;have:=zV11.out;have:=zW12.out;have:=zV14.out;omega))
   have tNV19:=Lib.hid (tNV14.out.bb hB (by have:=hrb;have:=zz1.out;have:=zV3.out;have:=zW5.out;have:=zW6.out;have:=zV8.out;have:=zV11.out;have:=zW12.out;have:=zV14.out;omega))
   have bTV19:=Lib.hid (bTV14.out.bb hB (by have:=hrb;have:=zz1.out;have:=zV3.out;have:=zW5.out;have:=zW6.out;have:=zV8.out;have:=zV11.out;have:=zW12.out;have:=zV14.out;omega))
   have tq10V19:=Lib.hid (tq10V14.out.bb hB (by have:=hrb;have:=zz1.out;have:=zV3.out;have:=zW5.out;have:=zW6.out;have:=zV8.out;have:=zV11.out;have:=zW12.out;have:=zV14.out;omega))
   have bUV19:=Lib.hid (bUV14.out.bb hB (by have:=hrb;have:=zz1.out;have:=zV3.out;have:=zW5.out;have:=zW6.out;have:=zV8.out;have:=zV11.out;have:=zW12.out;have:=zV14.out;omega))
   have kxq16:=Lib.hid kq16.out
   try dsimp only at kxq16
   clear hB hR hL kq16
   clear hpV14 bAV14 rNV14 tNV14 bTV14 tq10V14 bUV14
   clear m170 m171 m172 m173 m174 m17f m17l
   clear m180 m181 m182 m183 m184 m18f m18l
   obtain ⟨⟨m200,m201,m202,m203,m204⟩,m20f⟩:=(show Box5 V19 27 V11.heap.size (.int .i64 kq100) (.string sq10) (.int .i64 nq10) (.slice aq10 mq10 cq10) (.slice bq10 oq10 dq10) from bUV19.out).cells
   have m20l:V11.heap.size < V19.heap.size:=blk_lt (show Box5 V19 27 V11.heap.size (.int .i64 kq100) (.string sq10) (.int .i64 nq10) (.slice aq10 mq10 cq10) (.slice bq10 oq10 dq10) from bUV19.out)
   obtain ⟨⟨m210,m211,m212,m213,m214⟩,m21f⟩:=(show Box5 V19 27 (V3.heap.size + 1) (.int .i64 6) (.string ⟨#[]⟩) (.int .i64 0) (.slice (some ⟨V3.heap.size,0,none⟩) 1 1) (.slice none 0 0) from bTV19.out).cells
   have m21l:(V3.heap.size + 1) < V19.heap.size:=blk_lt (show Box5 V19 27 (V3.heap.size + 1) (.int .i64 6) (.string ⟨#[]⟩) (.int .i64 0) (.slice (some ⟨V3.heap.size,0,none⟩) 1 1) (.slice none 0 0) from bTV19.out)))
 all_goals
  obtain ⟨M23,hM23⟩:∃ V,V19.setCell ⟨(V3.heap.size + 1),4,none⟩ (.slice (some ⟨V19.heap.size,0,none⟩) 2 2)=V:=⟨_,rfl⟩
  have hsM23:=(show Box5 V19 27 (V3.heap.size + 1) (.int .i64 6) (.string ⟨#[]⟩) (.int .i64 0) (.slice (some ⟨V3.heap.size,0,none⟩) 1 1) (.slice none 0 0) from bTV19.out).at4 (.slice (some ⟨V19.heap.size,0,none⟩) 2 2)
  rw [hM23] at hsM23
  have zM23:=Lib.hid hsM23.2.size
  have hpM23:Hid (PS W rb a c l (jq16) M23):=PS.own h'.out hpV19.out hsM23.2 (by have:=hrb;have:=zz1.out;have:=zV3.out;have:=zW5.out;have:=zW6.out;have:=zV8.out;have:=zV11.out;have:=zW12.out;have:=zV14.out;have:=zV19.out;omega)
  have bAM23:Hid (Box5 M23 27 W.heap.size (.int .i64 0) (.string ⟨#[]⟩) (.int .i64 0) (.slice none 0 0) (.slice none 0 0)):=(show Box5 V19 27 W.heap.size (.int .i64 0) (.string ⟨#[]⟩) (.int .i64 0) (.slice none 0 0) (.slice none 0 0) from bAV19.out).own hsM23.2 (by have:=hrb;have:=zz1.out;have:=zV3.out;have:=zW5.out;have:=zW6.out;have:=zV8.out;have:=zV11.out;have:=zW12.out;have:=zV14.out;have:=zV19.out;omega)
  have rNM23:Hid (Blk M23 V3.heap.size (.cells #[.string S] 9 (0,0))):=(show Blk V19 V3.heap.size (.cells #[.string S] 9 (0,0)) from rNV19.out).own hsM23.2 (by have:=hrb;have:=zz1.out;have:=zV3.out;have:=zW5.out;have:=zW6.out;have:=zV8.out;have:=zV11.out;have:=zW12.out;have:=zV14.out;have:=zV19.out;omega)
  have tNM23:=Lib.hid (tNV19.out.own hsM23.2 (by have:=hrb;have:=zz1.out;have:=zV3.out;have:=zW5.out;have:=zW6.out;have:=zV8.out;have:=zV11.out;have:=zW12.out;have:=zV14.out;have:=zV19.out;omega))
  have tq10M23:=Lib.hid (tq10V19.out.own hsM23.2 (by have:=hrb;have:=zz1.out;have:=zV3.out;have:=zW5.out;have:=zW6.out;have:=zV8.out;have:=zV11.out;have:=zW12.out;have:=zV14.out;have:=zV19.out;omega))
  have bUM23:Hid (Box5 M23 27 V11.heap.size (.int .i64 kq100) (.string sq10) (.int .i64 nq10) (.slice aq10 mq10 cq10) (.slice bq10 oq10 dq10)):=(show Box5 V19 27 V11.heap.size (.int .i64 kq100) (.string sq10) (.int .i64 nq10) (.slice aq10 mq10 cq10) (.slice bq10 oq10 dq10) from bUV19.out).own hsM23.2 (by have:=hrb;have:=zz1.out;have:=zV3.out;have:=zW5.out;have:=zW6.out;have:=zV8.out;have:=zV11.out;have:=zW12.out;have:=zV14.out;have:=zV19.out;omega)
  have tq16M23:=Lib.hid (tq16.out.own hsM23.2 (by have:=hrb;have:=zz1.out;have:=zV3.out;have:=zW5.out;have:=zW6.out;have:=zV8.out;have:=zV11.out;have:=zW12.out;have:=zV14.out;have:=zV19.out;omega))
  have bTM23:Hid (Box5 M23 27 (V3.heap.size + 1) (.int .i64 6) (.string ⟨#[]⟩) (.int .i64 0) (.slice (some ⟨V3.heap.size,0,none⟩) 1 1) (.slice (some ⟨V19.heap.size,0,none⟩) 2 2)):=hsM23.1
  have hM23':=Lib.hid hM23
  clear hM23 hsM23 bTV19 hpV19 bAV19 rNV19 tNV19 tq10V19 bUV19 tq16
  obtain ⟨W22,hW22⟩:∃ V,M23.alloc (.cells #[.int .i64 kq100,.string sq10,.int .i64 nq10,.slice aq10 mq10 cq10,.slice bq10 oq10 dq10,.int .i64 kq160,.string sq16,.int .i64 nq16,.slice aq16 mq16 cq16,.slice bq16 oq16 dq16] 27)=V:=⟨_,rfl⟩
  have hbW22:Below M23.heap.size M23 W22:=by rw [←hW22];exact (Below.refl _ _).alloc (Nat.le_refl _) _
  have zW22:Hid (W22.heap.size=M23.heap.size + 1):=by rw [←hW22];simp [Hid]
  have bW22:Hid (Blk W22 V19.heap.size (.cells #[.int .i64 kq100,.string sq10,.int .i64 nq10,.slice aq10 mq10 cq10,.slice bq10 oq10 dq10,.int .i64 kq160,.string sq16,.int .i64 nq16,.slice aq16 mq16 cq16,.slice bq16 oq16 dq16] 27 (0,0))):=by have e:=zM23.out;rw [←hW22,←e];exact Blk.new
  have hpW22:=Lib.hid (hpM23.out.below hbW22)
  have bAW22:=Lib.hid (bAM23.out.below hbW22)
  have rNW22:=Lib.hid (rNM23.out.below hbW22)
  have tNW22:=Lib.hid (tNM23.out.below hbW22)
  have tq10W22:=Lib.hid (tq10M23.out.below hbW22)
  have bUW22:=Lib.hid (bUM23.out.below hbW22)
  have tq16W22:=Lib.hid (tq16M23.out.below hbW22)
  have bTW22:=Lib.hid (bTM23.out.below hbW22)
  have hW22':=Lib.hid hW22
  clear hW22 hbW22 hpM23 bAM23 rNM23 tNM23 tq10M23 bUM23 tq16M23 bTM23
  rw [hM23'.out,hW22'.out]
  clear m200 m201 m202 m203 m204 m20f m20l
  clear m210 m211 m212 m213 m214 m21f m21l
  have hl:LayH [W.heap.size] W.heap.size W22.heap.size W22 fun x=>IsEx x (.agg #[.int .i64 6,.string ⟨#[]⟩,.int .i64 0,.slice (some ⟨V3.heap.size,0,none⟩) 1 1,.slice (some ⟨V19.heap.size,0,none⟩) 2 2]) (.mk 6 ⟨#[]⟩ 0 [S] [yq10,yq16]):=by
   have:=hrb
   have:=zz1.out
   have:=zV3.out
   have:=zW5.out
   have:=zW6.out
   have:=zV8.out
   have:=zV11.out
   have:=zW12.out
   have:=zV14.out
   have:=zV19.out
   have:=zM23.out
   have:=zW22.out
   have g0:=LayH.of_lay (hs:=[W.heap.size]) (B':=W.heap.size) (E':=W22.heap.size) tq10W22.out (by omega) (by omega) (Nat.le_refl _) (fun q hq=>by simp only [List.mem_cons,List.not_mem_nil,or_false] at hq;subst hq;omega)
   have g1:=LayH.of_lay (hs:=[W.heap.size]) (B':=W.heap.size) (E':=W22.heap.size) tq16W22.out (by omega) (by omega) (Nat.le_refl _) (fun q hq=>by simp only [List.mem_cons,List.not_mem_nil,or_false] at hq;subst hq;omega)
   have gn:=LayH.of_lay (hs:=[W.heap.size]) (B':=W.heap.size) (E':=W22.heap.size) tNW22.out (by omega) (by omega) (Nat.le_refl _) (fun q hq=>by simp only [List.mem_cons,List.not_mem_nil,or_false] at hq;subst hq;omega)
   have gr:=LayH.row2 (hs:=[W.heap.size]) (B:=W.heap.size) (E:=W22.heap.size) (b:=V19.heap.size) (by omega) (by omega) (by simp;omega) bW22.out g0 g1
   exact LayH.tree (l:=[S]) (ks:=[yq10,yq16]) (by decide) (by decide) (by decide) (by simp [lenMax]) (by simp [lenMax]) gn gr ⟨by simp,Nat.le_refl _⟩
  have hf:=Lib.hid (ExR.fin1 h'.out hpW22.out (show Box5 W22 27 W.heap.size (.int .i64 0) (.string ⟨#[]⟩) (.int .i64 0) (.slice none 0 0) (.slice none 0 0) from bAW22.out) (Nat.le_refl _) hl)
  obtain ⟨⟨m240,m241,m242,m243,m244⟩,m24f⟩:=(show Box5 W22 27 W.heap.size (.int .i64 0) (.string ⟨#[]⟩) (.int .i64 0) (.slice none 0 0) (.slice none 0 0) from bAW22.out).cells
  have m24l:W.heap.size < W22.heap.size:=blk_lt (show Box5 W22 27 W.heap.size (.int .i64 0) (.string ⟨#[]⟩) (.int .i64 0) (.slice none 0 0) (.slice none 0 0) from bAW22.out)
  obtain ⟨⟨m250,m251,m252,m253,m254⟩,m25f⟩:=(show Box5 W22 27 (V3.heap.size + 1) (.int .i64 6) (.string ⟨#[]⟩) (.int .i64 0) (.slice (some ⟨V3.heap.size,0,none⟩) 1 1) (.slice (some ⟨V19.heap.size,0,none⟩) 2 2) from bTW22.out).cells
  have m25l:(V3.heap.size + 1) < W22.heap.size:=blk_lt (show Box5 W22 27 (V3.heap.size + 1) (.int .i64 6) (.string ⟨#[]⟩) (.int .i64 0) (.slice (some ⟨V3.heap.size,0,none⟩) 1 1) (.slice (some ⟨V19.heap.size,0,none⟩) 2 2) from bTW22.out)
  have hxx:Hid (x=_):=(Option.some.inj kxq16.out).symm
  clear hl
  go_wp2_with fail
  refine set5_fold ?_
  refine bodyPost_ret (results_ex rfl _ _ rfl hf.out.1.cells.1) rfl ?_
  rw [hxx.out]
  exact hf.out.2
set_option maxHeartbeats 8000000 in
set_option maxRecDepth 100000 in
theorem par_comp {f:Nat} (hS:RuleC 129 rb a c l f (.lev 2)):RuleC 69 rb a c l (f + 1) .comp:=by
 intro W i x h hx
 simp only [pR,stepR] at hx
 obtain ⟨W1,hW1⟩:∃ V,W.alloc (.cells #[.int .i64 0,.string ⟨#[]⟩,.int .i64 0,.slice none 0 0,.slice none 0 0] 27)=V:=⟨_,rfl⟩
 have hb1:Below W.heap.size W W1:=by rw [←hW1];exact (Below.refl _ _).alloc (Nat.le_refl _) _
 have bA1:Hid (Box5 W1 27 W.heap.size (.int .i64 0) (.string ⟨#[]⟩) (.int .i64 0) (.slice none 0 0) (.slice none 0 0)):=by rw [←hW1];exact blk_new (Below.refl _ _)
 have zz1:Hid (W1.heap.size=W.heap.size + 1):=by rw [←hW1];simp [Hid]
 have hp1:=Lib.hid ((PS.refl h).below hb1)
 have hrb:=h.lt
 have h':=Lib.hid h
 have hW1':=Lib.hid hW1
 have hx0:=Lib.hid hx
 have hfl:=Tryz.fldText
 have hfn:=Tryz.fldNum
 clear hW1 hb1 h hx
 obtain ⟨q2,hq2,kq2⟩:=pR_split hx0.out
 have cq2:=Lib.hid (hS W1 (i) q2 hp1.out.rd hq2)
 have kq2:=Lib.hid kq2
 clear hq2 hx0
 go_enter Tryz.func69,Tryz.ntmps69
 go_upto_region 1 with (fail)
 rw [hW1'.out]
 go_wp2_with fail
 refine cq2.out.mono ?_
 rintro e V3 ⟨hB,hm⟩
 rcases q2 with p | ⟨es,jq2⟩
 case error =>
  obtain rfl:=hm
  have hxx:=kq2.out
  dsimp only at hxx
  subst hxx
  exact And.intro rfl (And.intro (hp1.out.bb.next hB) rfl)
 obtain ⟨v,yq2,rfl,rfl,hL,hR⟩:=hm
 obtain ⟨kq20,sq2,nq2,aq2,mq2,cq2,bq2,oq2,dq2,rfl⟩:=hL.out.agg
 have zV3:=Lib.hid hB.size
 have tq2:Hid (Lay W1.heap.size V3.heap.size V3 fun x=>IsEx x (.agg #[.int .i64 kq20,.string sq2,.int .i64 nq2,.slice aq2 mq2 cq2,.slice bq2 oq2 dq2]) yq2):=hL
 have hpV3:=Lib.hid (hp1.out.call hB hR)
 have bAV3:=Lib.hid (bA1.out.bb hB (by have:=hrb;have:=zz1.out;omega))
 have kxq2:=Lib.hid kq2.out
 try dsimp only at kxq2
 clear hB hR hL kq2
 clear hp1 bA1
 obtain ⟨W4,hW4⟩:∃ V,V3.alloc (.cells #[.int .i64 kq20,.string sq2,.int .i64 nq2,.slice aq2 mq2 cq2,.slice bq2 oq2 dq2] 27)=V:=⟨_,rfl⟩
 have hbW4:Below V3.heap.size V3 W4:=by rw [←hW4];exact (Below.refl _ _).alloc (Nat.le_refl _) _
 have zW4:Hid (W4.heap.size=V3.heap.size + 1):=by rw [←hW4];simp [Hid]
 have bW4:Hid (Blk W4 V3.heap.size (.cells #[.int .i64 kq20,.string sq2,.int .i64 nq2,.slice aq2 mq2 cq2,.slice bq2 oq2 dq2] 27 (0,0))):=by rw [←hW4];exact Blk.new
 have hpW4:=Lib.hid (hpV3.out.below hbW4)
 have bAW4:=Lib.hid (bAV3.out.below hbW4)
 have tq2W4:=Lib.hid (tq2.out.below hbW4)
 have hW4':=Lib.hid hW4
 clear hW4 hbW4 hpV3 bAV3 tq2
 obtain ⟨W5,hW5⟩:∃ V,W4.alloc (.cells #[.string ⟨#[61,61]⟩,.string ⟨#[60]⟩] 9)=V:=⟨_,rfl⟩
 have hbW5:Below W4.heap.size W4 W5:=by rw [←hW5];exact (Below.refl _ _).alloc (Nat.le_refl _) _
 have zW5:Hid (W5.heap.size=W4.heap.size + 1):=by rw [←hW5];simp [Hid]
 have bW5:Hid (Blk W5 W4.heap.size (.cells #[.string ⟨#[61,61]⟩,.string ⟨#[60]⟩] 9 (0,0))):=by rw [←hW5];exact Blk.new
 have hpW5:=Lib.hid (hpW4.out.below hbW5)
 have bAW5:=Lib.hid (bAW4.out.below hbW5)
 have tq2W5:=Lib.hid (tq2W4.out.below hbW5)
 have bUW5:=Lib.hid (bW4.out.below hbW5)
 have hW5':=Lib.hid hW5
 clear hW5 hbW5 hpW4 bAW4 tq2W4 bW4
 have hany:Hid (Calls Tryz.prog 62 #[.pointer (some ⟨rb,0,none⟩),.slice (some ⟨W4.heap.size,0,none⟩) 2 2] W5 fun e W'=>e=.returned (.tuple #[.string (oS (anyAt l jq2 (opsL 3))),.bool (anyAt l jq2 (opsL 3)).isSome])∧Bb W5.heap.size rb W5 W'∧Rd W' rb a c l (jq2 + oN (anyAt l jq2 (opsL 3)))):=any_call (ss:=opsL 3) hpW5.out.rd ⟨blk_lt (show Blk W5 W4.heap.size (.cells #[.string ⟨#[61,61]⟩,.string ⟨#[60]⟩] 9 (0,0)) from bW5.out),fun j hj=>by
  have hj2:j=0∨j=1:=by simp [opsL] at hj;omega
  rw [←hW5'.out]
  rcases hj2 with rfl | rfl <;> exact (new_cell _ _ _ _).trans rfl⟩ (by decide)
 go_upto_region 2 with (fail)
 rw [hW4'.out]
 go_wp2_with fail
 rw [hW5'.out]
 have ho:=opAt_any l jq2 3
 cases hq:anyAt l jq2 (opsL 3) with
 | none =>
  rw [hq] at hany ho
  have hx9:=kxq2.out
  rw [show opAt l jq2 3=false from ho,if_neg (by simp)] at hx9
  have hxx:Hid (x=_):=(Option.some.inj hx9).symm
  clear hx9 ho hq
  simp only [oS,oN,Option.isSome_none,Nat.add_zero] at hany
  refine hany.out.mono ?_
  rintro e V6 ⟨rfl,hB,hR⟩
  have zV6:=Lib.hid hB.size
  have hpV6:=Lib.hid (hpW5.out.call hB hR)
  have bAV6:=Lib.hid (bAW5.out.bb hB (by have:=hrb;have:=zz1.out;have:=zV3.out;have:=zW4.out;have:=zW5.out;omega))
  have tq2V6:=Lib.hid (tq2W5.out.bb hB (by have:=hrb;have:=zz1.out;have:=zV3.out;have:=zW4.out;have:=zW5.out;omega))
  have bUV6:=Lib.hid (bUW5.out.bb hB (by have:=hrb;have:=zz1.out;have:=zV3.out;have:=zW4.out;have:=zW5.out;omega))
  have rOV6:=Lib.hid (bW5.out.bb hB (by have:=hrb;have:=zz1.out;have:=zV3.out;have:=zW4.out;have:=zW5.out;omega))
  clear hB hR hany hpW5 bAW5 tq2W5 bUW5 bW5
  have hl:LayH [W.heap.size] W.heap.size V6.heap.size V6 fun x=>IsEx x (.agg #[.int .i64 kq20,.string sq2,.int .i64 nq2,.slice aq2 mq2 cq2,.slice bq2 oq2 dq2]) yq2:=LayH.of_lay tq2V6.out (by have:=hrb;have:=zz1.out;have:=zV3.out;have:=zW4.out;have:=zW5.out;have:=zV6.out;omega) (by have:=hrb;have:=zz1.out;have:=zV3.out;have:=zW4.out;have:=zW5.out;have:=zV6.out;omega) (Nat.le_refl _) (fun q hq=>by simp only [List.mem_cons,List.not_mem_nil,or_false] at hq;subst hq;have:=hrb;have:=zz1.out;have:=zV3.out;have:=zW4.out;have:=zW5.out;have:=zV6.out;omega)
  have hf:=Lib.hid (ExR.fin1 h'.out hpV6.out (show Box5 V6 27 W.heap.size (.int .i64 0) (.string ⟨#[]⟩) (.int .i64 0) (.slice none 0 0) (.slice none 0 0) from bAV6.out) (Nat.le_refl _) hl)
  clear hl
  obtain ⟨⟨m70,m71,m72,m73,m74⟩,m7f⟩:=(show Box5 V6 27 W.heap.size (.int .i64 0) (.string ⟨#[]⟩) (.int .i64 0) (.slice none 0 0) (.slice none 0 0) from bAV6.out).cells
  have m7l:W.heap.size < V6.heap.size:=blk_lt (show Box5 V6 27 W.heap.size (.int .i64 0) (.string ⟨#[]⟩) (.int .i64 0) (.slice none 0 0) (.slice none 0 0) from bAV6.out)
  obtain ⟨⟨m80,m81,m82,m83,m84⟩,m8f⟩:=(show Box5 V6 27 V3.heap.size (.int .i64 kq20) (.string sq2) (.int .i64 nq2) (.slice aq2 mq2 cq2) (.slice bq2 oq2 dq2) from bUV6.out).cells
  have m8l:V3.heap.size < V6.heap.size:=blk_lt (show Box5 V6 27 V3.heap.size (.int .i64 kq20) (.string sq2) (.int .i64 nq2) (.slice aq2 mq2 cq2) (.slice bq2 oq2 dq2) from bUV6.out)
  go_wp2_with fail
  refine set5_fold ?_
  refine bodyPost_ret (results_ex rfl _ _ rfl hf.out.1.cells.1) rfl ?_
  rw [hxx.out]
  exact hf.out.2
 | some sg =>
  have htx:=any_text hq
  rw [hq] at hany ho
  have hx9:=kxq2.out
  rw [show opAt l jq2 3=true from ho,if_pos rfl,htx] at hx9
  clear ho hq
  have hSz:Hid ((tS sg).size≤lenMax):=htx ▸ fit_text h'.out.fit _
  simp only [oS,oN,Option.isSome_some] at hany
  obtain ⟨S,hSe⟩:∃ S,tS sg=S:=⟨_,rfl⟩
  rw [hSe] at hx9 hany hSz
  have hx8:=Lib.hid hx9
  clear hx9 hSe htx
  refine hany.out.mono ?_
  rintro e V6 ⟨rfl,hB,hR⟩
  have zV6:=Lib.hid hB.size
  have hpV6:=Lib.hid (hpW5.out.call hB hR)
  have bAV6:=Lib.hid (bAW5.out.bb hB (by have:=hrb;have:=zz1.out;have:=zV3.out;have:=zW4.out;have:=zW5.out;omega))
  have tq2V6:=Lib.hid (tq2W5.out.bb hB (by have:=hrb;have:=zz1.out;have:=zV3.out;have:=zW4.out;have:=zW5.out;omega))
  have bUV6:=Lib.hid (bUW5.out.bb hB (by have:=hrb;have:=zz1.out;have:=zV3.out;have:=zW4.out;have:=zW5.out;omega))
  have rOV6:=Lib.hid (bW5.out.bb hB (by have:=hrb;have:=zz1.out;have:=zV3.out;have:=zW4.out;have:=zW5.out;omega))
  clear hB hR hany hpW5 bAW5 tq2W5 bUW5 bW5
  obtain ⟨q9,hq9,kq9⟩:=pR_split hx8.out
  have cq9:=Lib.hid (RuleC.later hS hpV6.out.rd hq9)
  have kq9:=Lib.hid kq9
  clear hq9 hx8
  obtain ⟨⟨m100,m101,m102,m103,m104⟩,m10f⟩:=(show Box5 V6 27 V3.heap.size (.int .i64 kq20) (.string sq2) (.int .i64 nq2) (.slice aq2 mq2 cq2) (.slice bq2 oq2 dq2) from bUV6.out).cells
  have m10l:V3.heap.size < V6.heap.size:=blk_lt (show Box5 V6 27 V3.heap.size (.int .i64 kq20) (.string sq2) (.int .i64 nq2) (.slice aq2 mq2 cq2) (.slice bq2 oq2 dq2) from bUV6.out)
  obtain ⟨⟨m110,m111,m112,m113,m114⟩,m11f⟩:=(show Box5 V6 27 W.heap.size (.int .i64 0) (.string ⟨#[]⟩) (.int .i64 0) (.slice none 0 0) (.slice none 0 0) from bAV6.out).cells
  have m11l:W.heap.size < V6.heap.size:=blk_lt (show Box5 V6 27 W.heap.size (.int .i64 0) (.string ⟨#[]⟩) (.int .i64 0) (.slice none 0 0) (.slice none 0 0) from bAV6.out)
  go_wp2_with fail
  go_region_with (first | (
    go_at_call 129
    refine (cq9.out _ (Below.refl _ _).drew).mono ?_
    rintro e V12 ⟨hB,hm⟩
    rcases q9 with p | ⟨es,jq9⟩
    case error =>
     obtain rfl:=hm
     have hxx:=kq9.out
     dsimp only at hxx
     subst hxx
     exact And.intro rfl (And.intro (hpV6.out.bb.next hB) rfl)
    obtain ⟨v,yq9,rfl,rfl,hL,hR⟩:=hm
    obtain ⟨kq90,sq9,nq9,aq9,mq9,cq9,bq9,oq9,dq9,rfl⟩:=hL.out.agg
    have zV12:=Lib.hid hB.size
    have tq9:Hid (Lay V6.heap.size V12.heap.size V12 fun x=>IsEx x (.agg #[.int .i64 kq90,.string sq9,.int .i64 nq9,.slice aq9 mq9 cq9,.slice bq9 oq9 dq9]) yq9):=hL
    have hpV12:=Lib.hid (hpV6.out.call hB hR)
    have bAV12:=Lib.hid (bAV6.out.bb hB (by have:=hrb;have:=zz1.out;have:=zV3.out;have:=zW4.out;have:=zW5.out;have:=zV6.out;omega))
    have tq2V12:=Lib.hid (tq2V6.out.bb hB (by have:=hrb;have:=zz1.out;have:=zV3.out;have:=zW4.out;have:=zW5.out;have:=zV6.out;omega))
    have bUV12:=Lib.hid (bUV6.out.bb hB (by have:=hrb;have:=zz1.out;have:=zV3.out;have:=zW4.out;have:=zW5.out;have:=zV6.out;omega))
    have rOV12:=Lib.hid (rOV6.out.bb hB (by have:=hrb;have:=zz1.out;have:=zV3.out;have:=zW4.out;have:=zW5.out;have:=zV6.out;omega))
    have kxq9:=Lib.hid kq9.out
    try dsimp only at kxq9
    clear hB hR hL kq9
    clear hpV6 bAV6 tq2V6 bUV6 rOV6
    clear m100 m101 m102 m103 m104 m10f m10l
    clear m110 m111 m112 m113 m114 m11f m11l
    obtain ⟨⟨m130,m131,m132,m133,m134⟩,m13f⟩:=(show Box5 V12 27 V3.heap.size (.int .i64 kq20) (.string sq2) (.int .i64 nq2) (.slice aq2 mq2 cq2) (.slice bq2 oq2 dq2) from bUV12.out).cells
    have m13l:V3.heap.size < V12.heap.size:=blk_lt (show Box5 V12 27 V3.heap.size (.int .i64 kq20) (.string sq2) (.int .i64 nq2) (.slice aq2 mq2 cq2) (.slice bq2 oq2 dq2) from bUV12.out)
    obtain ⟨⟨m140,m141,m142,m143,m144⟩,m14f⟩:=(show Box5 V12 27 W.heap.size (.int .i64 0) (.string ⟨#[]⟩) (.int .i64 0) (.slice none 0 0) (.slice none 0 0) from bAV12.out).cells
    have m14l:W.heap.size < V12.heap.size:=blk_lt (show Box5 V12 27 W.heap.size (.int .i64 0) (.string ⟨#[]⟩) (.int .i64 0) (.slice none 0 0) (.slice none 0 0) from bAV12.out)))
  all_goals
   obtain ⟨X,hX⟩:∃ X,V12.alloc (.cells #[.int .i64 kq20,.string sq2,.int .i64 nq2,.slice aq2 mq2 cq2,.slice bq2 oq2 dq2,.int .i64 kq90,.string sq9,.int .i64 nq9,.slice aq9 mq9 cq9,.slice bq9 oq9 dq9] 27)=X:=⟨_,rfl⟩
   have hbX:Below V12.heap.size V12 X:=by rw [←hX];exact (Below.refl _ _).alloc (Nat.le_refl _) _
   have zX:Hid (X.heap.size=V12.heap.size + 1):=by rw [←hX];simp [Hid]
   have bR:Hid (Blk X V12.heap.size (.cells #[.int .i64 kq20,.string sq2,.int .i64 nq2,.slice aq2 mq2 cq2,.slice bq2 oq2 dq2,.int .i64 kq90,.string sq9,.int .i64 nq9,.slice aq9 mq9 cq9,.slice bq9 oq9 dq9] 27 (0,0))):=by rw [←hX];exact Blk.new
   have hltA:=Lib.hid m14l
   have hpX:=Lib.hid (hpV12.out.below hbX)
   have bAX:=Lib.hid (bAV12.out.below hbX)
   have tq2X:=Lib.hid (tq2V12.out.below hbX)
   have bUX:=Lib.hid (bUV12.out.below hbX)
   have rOX:=Lib.hid (rOV12.out.below hbX)
   have tq9X:=Lib.hid (tq9.out.below hbX)
   have hl:LayH [W.heap.size] W.heap.size X.heap.size X fun x=>IsEx x (.agg #[.int .i64 9,.string S,.int .i64 0,.slice none 0 0,.slice (some ⟨V12.heap.size,0,none⟩) 2 2]) (.mk 9 S 0 [] [yq2,yq9]):=by
    have:=hrb
    have:=zz1.out
    have:=zV3.out
    have:=zW4.out
    have:=zW5.out
    have:=zV6.out
    have:=zV12.out
    have:=zX.out
    have g0:=LayH.of_lay (hs:=[W.heap.size]) (B':=W.heap.size) (E':=X.heap.size) tq2X.out (by omega) (by omega) (Nat.le_refl _) (fun q hq=>by simp only [List.mem_cons,List.not_mem_nil,or_false] at hq;subst hq;omega)
    have g1:=LayH.of_lay (hs:=[W.heap.size]) (B':=W.heap.size) (E':=X.heap.size) tq9X.out (by omega) (by omega) (Nat.le_refl _) (fun q hq=>by simp only [List.mem_cons,List.not_mem_nil,or_false] at hq;subst hq;omega)
    have gr:=LayH.row2 (hs:=[W.heap.size]) (B:=W.heap.size) (E:=X.heap.size) (b:=V12.heap.size) (by omega) (by omega) (by simp;omega) bR.out g0 g1
    exact LayH.tree (l:=[]) (ks:=[yq2,yq9]) (by decide) (by decide) hSz.out (by decide) (by simp [lenMax]) (LayH.nil (Nat.le_refl _)) gr ⟨by simp,Nat.le_refl _⟩
   have hf0:=ExR.fin1 h'.out hpX.out (show Box5 X 27 W.heap.size (.int .i64 0) (.string ⟨#[]⟩) (.int .i64 0) (.slice none 0 0) (.slice none 0 0) from bAX.out) (Nat.le_refl _) hl
   obtain ⟨Z,hZ,hf⟩:∃ Z,Z=(((((V12.setCell ⟨W.heap.size,0,none⟩ (.int .i64 9)).setCell ⟨W.heap.size,1,none⟩ (.string S)).setCell ⟨W.heap.size,2,none⟩ (.int .i64 0)).setCell ⟨W.heap.size,3,none⟩ (.slice none 0 0)).setCell ⟨W.heap.size,4,none⟩ (.slice (some ⟨V12.heap.size,0,none⟩) 2 2)).alloc (.cells #[.int .i64 kq20,.string sq2,.int .i64 nq2,.slice aq2 mq2 cq2,.slice bq2 oq2 dq2,.int .i64 kq90,.string sq9,.int .i64 nq9,.slice aq9 mq9 cq9,.slice bq9 oq9 dq9] 27)∧Hid (Box5 Z 27 W.heap.size (.int .i64 9) (.string S) (.int .i64 0) (.slice none 0 0) (.slice (some ⟨V12.heap.size,0,none⟩) 2 2)∧ExR W rb a c l (.ok ([.mk 9 S 0 [] [yq2,yq9]],jq9)) (.returned (.agg #[.int .i64 9,.string S,.int .i64 0,.slice none 0 0,.slice (some ⟨V12.heap.size,0,none⟩) 2 2])) Z):=⟨_,by rw [←hX];exact (set5_alloc _ hltA.out).symm,hf0⟩
   rw [←hZ]
   have hxx:Hid (x=_):=(Option.some.inj kxq9.out).symm
   clear hZ hl hf0 hX hbX
   clear m130 m131 m132 m133 m134 m13f m13l
   clear m140 m141 m142 m143 m144 m14f m14l
   go_wp2_with fail
   refine bodyPost_ret (results_ex rfl _ _ rfl hf.out.1.cells.1) rfl ?_
   rw [hxx.out]
   exact hf.out.2
end
end Go.Proofs.YtinjocchommbdaaGreatDoor
namespace Go.Proofs.YtinjocchommbdaaGreatDoor
open Go.RowKit
def ownL (v:Value):List Nat:=match v.ownBlock with | some g=>[g] | none=>[]
theorem ownL_mem {v:Value} {g:Nat}:g ∈ ownL v↔v.ownBlock=some g:=by
 unfold ownL
 split
 ·
  rename_i h;rw [h];simp [eq_comm]
 ·
  rename_i h;rw [h];simp
def Grow {α:Type} (T:TypeId) (s:Nat) (Is:World→List Value→α→Prop) (B:Nat) (X:World) (v:Value) (es:List α):Prop :=
 ∃ css:List (List Value),css.length=es.length∧(∀ c ∈ css,c.length=s)∧X.ownsRow B T s v es.length css.flatten∧B≤X.heap.size∧∀ i (h:i < es.length) (h2:i < css.length),LayH (ownL v) B X.heap.size X fun x=>Is x css[i] es[i]
section
variable {α:Type} {T:TypeId} {s:Nat} {Is:World→List Value→α→Prop} {B:Nat} {X Y:World} {v v':Value} {es:List α}
theorem Grow.nil (hB:B≤X.heap.size):Grow T s Is B X (.slice none 0 0) []:=⟨[],rfl,by simp,⟨by simp,.inl ⟨rfl,rfl⟩⟩,hB,fun i h=>by simp at h⟩
theorem Grow.form (h:Grow T s Is B X v es):∃ a c,v=.slice a es.length c∧(a=none→c=0)∧es.length≤c:=by
 obtain ⟨_,_,_,ho,_⟩:=h
 obtain ⟨a,c,h1,h2,h3,_⟩:=own_cells ho
 exact ⟨a,c,h1,h2,h3⟩
theorem Grow.heap (h:Grow T s Is B X v es) (hz:X.heap.size≤Y.heap.size) (hk:∀ k,B≤k→k < X.heap.size→Y.heap[k]?=X.heap[k]?):Grow T s Is B Y v es:=by
 obtain ⟨css,h1,h2,h3,h4,h5⟩:=h
 exact ⟨css,h1,h2,ownsRow_heap h3 fun g hg=>hk g (ownBlock_ge h3 hg).1 (ownBlock_ge h3 hg).2,Nat.le_trans h4 hz,fun i hi hi2=>((h5 i hi hi2).of hz fun k a b _=>hk k a b).wide (Nat.le_refl _) hz (Nat.le_refl _) fun _ hk' _ _=>hk'⟩
theorem Grow.below (h:Grow T s Is B X v es) (hb:Below X.heap.size X Y):Grow T s Is B Y v es:=h.heap hb.size fun k _ h2=>hb.block k h2
theorem Grow.bb {m:Nat} (h:Grow T s Is B X v es) (hb:Bb X.heap.size m X Y) (hm:m < B):Grow T s Is B Y v es:=h.heap hb.size fun k h1 h2=>hb.block k h2 (by omega)
theorem Grow.push {e:α} {cs:List Value} {css:List (List Value)} (hl:css.length=es.length) (hs:∀ c ∈ css,c.length=s) (hcs:cs.length=s) (hB:B≤X.heap.size)
  (h5:∀ i (h:i < es.length) (h2:i < css.length),LayH (ownL v) B X.heap.size X fun x=>Is x css[i] es[i]) (he:LayH (ownL v) B X.heap.size X fun x=>Is x cs e)
  (hg:X.grownBy Y v.ownBlock) (hx:v'.ownBlock=v.ownBlock∨v'.ownBlock=some X.heap.size) (ho:Y.ownsRow B T s v' (es.length + 1) (css.flatten ++ cs)):Grow T s Is B Y v' (es ++ [e]):=by
 have tr:∀ F:World→Prop,LayH (ownL v) B X.heap.size X F→LayH (ownL v') B Y.heap.size Y F:=fun F hF =>
  ((hF.of hg.size fun k _ h2 h3=>hg.block k h2 fun q=>h3 (ownL_mem.2 q.symm)):LayH (ownL v) B X.heap.size Y F).wide (Nat.le_refl _) hg.size (Nat.le_refl _) fun k hk h1 h2=>by
   rw [ownL_mem] at hk ⊢
   rcases hx with q | q
   ·
    rw [←q];exact hk
   ·
    rw [q] at hk;cases hk;omega
 refine ⟨css ++ [cs],by simp [hl],fun c hc=>?_,?_,Nat.le_trans hB hg.size,fun i hi hi2=>?_⟩
 ·
  rcases List.mem_append.1 hc with q | q
  ·
   exact hs c q
  ·
   simp at q;subst q;exact hcs
 ·
  rw [List.length_append,List.flatten_append]
  simpa using ho
 ·
  by_cases hlt:i < es.length
  ·
   have:=tr _ (h5 i hlt (by omega))
   simpa [List.getElem_append_left (h:=hlt) (h':=hi),List.getElem_append_left (show i < css.length by omega)] using this
  ·
   have e1:i=es.length:=by simp at hi;omega
   subst e1
   have:=tr _ he
   simpa [List.getElem_append_right (Nat.le_of_eq hl)] using this
theorem flat_get {css:List (List Value)} (hs:∀ c ∈ css,c.length=s):∀ (i j:Nat) (h:i < css.length),j < s→css.flatten[i * s + j]?=css[i][j]?:=by
 induction css with
 | nil=>intro i j h;simp at h
 | cons c r ih =>
  intro i j h hj
  have hc:=hs c (by simp)
  rw [List.flatten_cons]
  cases i with
  | zero =>
   rw [Nat.zero_mul,Nat.zero_add,List.getElem?_append_left (by omega)]
   rfl
  | succ i =>
   rw [List.getElem?_append_right (by rw [hc];simp only [Nat.succ_mul];omega),hc,show (i + 1) * s + j - s=i * s + j by simp only [Nat.succ_mul];omega]
   exact ih (fun c hc=>hs c (by simp [hc])) i j (by simpa using h) hj
theorem flat_len {css:List (List Value)} (hs:∀ c ∈ css,c.length=s):css.flatten.length=css.length * s:=by
 induction css with
 | nil=>simp
 | cons c r ih=>rw [List.flatten_cons,List.length_append,hs c (by simp),ih fun c hc=>hs c (by simp [hc]),List.length_cons,Nat.succ_mul];omega
theorem Grow.done (h:Grow T s Is B X v es):∃ a c,v=.slice a es.length c∧((a=none→c=0)∧es.length≤c)∧(es=[]∨∃ g,a=some ⟨g,0,none⟩∧B≤g∧g < X.heap.size∧∀ i (hi:i < es.length),∃ cs,cs.length=s∧(∀ j x,cs[j]?=some x→X.cell? ⟨g,i * s + j,none⟩=some x)∧LayH [g] B X.heap.size X fun x=>Is x cs es[i]):=by
 obtain ⟨css,h1,h2,h3,h4,h5⟩:=h
 obtain ⟨a,c,rfl,q1,q2,q3⟩:=own_cells h3
 refine ⟨a,c,rfl,⟨q1,q2⟩,?_⟩
 rcases q3 with q3 | ⟨g,rfl,q4,q5,q6⟩
 ·
  exact .inl (List.length_eq_zero_iff.1 q3)
 ·
  refine .inr ⟨g,rfl,q4,q5,fun i hi=>⟨css[i]'(by omega),h2 _ (List.getElem_mem _),fun j x hj=>q6 _ _ ?_,h5 i hi (by omega)⟩⟩
  have hjs:j < s:=by have:=(List.getElem?_eq_some_iff.1 hj).1;rw [h2 _ (List.getElem_mem _)] at this;exact this
  rw [flat_get h2 i j (by omega) hjs]
  exact hj
theorem Grow.one {e:α} {cs:Array Value} (hcs:cs.size=s) (hs:0 < s) (hB:B≤X.heap.size) (he:LayH [X.heap.size] B X.heap.size X fun x=>Is x cs.toList e):Grow T s Is B (X.alloc (.cells cs T)) (.slice (some ⟨X.heap.size,0,none⟩) 1 1) [e]:=by
 have hz:(X.alloc (.cells cs T)).heap.size=X.heap.size + 1:=by simp
 have hb:Below X.heap.size X (X.alloc (.cells cs T)):=(Below.refl _ _).alloc (Nat.le_refl _) _
 have hn:(X.alloc (.cells cs T)).heap[X.heap.size]?=some (.cells cs T (0,0)):=blk_new (Below.refl _ _)
 refine ⟨[cs.toList],rfl,by simpa using hcs,⟨by simpa using hcs,.inr ⟨X.heap.size,1,cs,rfl,hB,hn,Nat.le_refl _,by decide,by simpa using hcs,by simp only [List.flatten_cons,List.flatten_nil,List.append_nil,Nat.one_mul];exact List.take_of_length_le (by simp [hcs])⟩⟩,by omega,fun i hi hi2=>?_⟩
 obtain rfl:i=0:=by simp at hi;omega
 exact (he.below hb).wide (Nat.le_refl _) (by omega) (Nat.le_refl _) fun k hk _ _=>hk
end
def IsExC (x:World) (cs:List Value) (e:Ex):Prop:=∃ v0 v1 v2 v3 v4,cs=[v0,v1,v2,v3,v4]∧IsEx x (.agg #[v0,v1,v2,v3,v4]) e
def ExsIs (B E:Nat) (w:World) (v:Value) (es:List Ex):Prop:=∃ a c,v=.slice a es.length c∧((a=none→c=0)∧es.length≤c)∧E≤w.heap.size ∧
 (es=[]∨∃ g,a=some ⟨g,0,none⟩∧B≤g∧g < E∧∀ i (hi:i < es.length),∃ cs,cs.length=5∧(∀ j x,cs[j]?=some x→w.cell? ⟨g,i * 5 + j,none⟩=some x)∧Lay B E w fun x=>IsExC x cs es[i])
theorem ExsIs.of {B E:Nat} {w w':World} {v:Value} {es:List Ex} (h:ExsIs B E w v es) (hz:w.heap.size≤w'.heap.size) (hk:∀ k,B≤k→k < E→w'.heap[k]?=w.heap[k]?):ExsIs B E w' v es:=by
 obtain ⟨a,c,h1,h2,h3,h4⟩:=h
 refine ⟨a,c,h1,h2,Nat.le_trans h3 hz,h4.imp id ?_⟩
 rintro ⟨g,g1,g2,g3,g4⟩
 refine ⟨g,g1,g2,g3,fun i hi=>?_⟩
 obtain ⟨cs,c1,c2,c3⟩:=g4 i hi
 exact ⟨cs,c1,fun j x hj=>(World.cell?_of_block (hk g g2 g3)).trans (c2 j x hj),c3.of hz hk⟩
theorem ExsIs.open {B E:Nat} {w:World} {v:Value} {es:List Ex} (h:ExsIs B E w v es):∃ a c,v=.slice a es.length c∧((a=none→c=0)∧es.length≤c)∧Lay B E w fun x=>ExRow x a es:=by
 obtain ⟨a,c,rfl,h1,hE,h2⟩:=h
 refine ⟨a,c,rfl,h1,?_⟩
 rcases h2 with rfl | ⟨g,rfl,g1,g2,g3⟩
 ·
  exact Lay.all hE fun _=>.inl rfl
 ·
  refine ⟨hE,fun x hx=>.inr ⟨g,0,rfl,fun i hi=>?_⟩⟩
  obtain ⟨cs,_,hc,hl⟩:=g3 i hi
  obtain ⟨v0,v1,v2,v3,v4,rfl,he⟩:=hl.2 x fun k k1 k2=>hx k k1 k2
  have cl:∀ j y,[v0,v1,v2,v3,v4][j]?=some y→x.cell? ⟨g,0 + i * 5 + j,none⟩=some y:=fun j y hj=>by
   rw [Nat.zero_add]
   exact (World.cell?_of_block (hx g g1 g2)).trans (hc j y hj)
  exact ⟨v0,v1,v2,v3,v4,cl 0 _ rfl,cl 1 _ rfl,cl 2 _ rfl,cl 3 _ rfl,cl 4 _ rfl,he⟩
theorem Grow.exs {B:Nat} {X:World} {v:Value} {es:List Ex} (h:Grow 27 5 IsExC B X v es):ExsIs B X.heap.size X v es:=by
 obtain ⟨a,c,rfl,h1,h2⟩:=h.done
 refine ⟨a,c,rfl,h1,Nat.le_refl _,h2.imp id ?_⟩
 rintro ⟨g,rfl,g1,g2,g3⟩
 refine ⟨g,rfl,g1,g2,fun i hi=>?_⟩
 obtain ⟨cs,c1,c2,c3⟩:=g3 i hi
 exact ⟨cs,c1,c2,c3.lay⟩
theorem isExC_lay {hs:List Nat} {B E:Nat} {w:World} {v0 v1 v2 v3 v4:Value} {e:Ex} (h:LayH hs B E w fun x=>IsEx x (.agg #[v0,v1,v2,v3,v4]) e):LayH hs B E w fun x=>IsExC x [v0,v1,v2,v3,v4] e:=h.imp fun _ hv=>⟨_,_,_,_,_,rfl,hv⟩
theorem cells_new6 (w:World) (vs:Array Value) (t:TypeId):∀ j u,vs.toList[j]?=some u→(w.alloc (.cells vs t)).cell? ((⟨w.heap.size,0,none⟩:Addr).add j)=some u:=by
 intro j u hj
 rw [addr_plus,Nat.zero_add,new_cell]
 simpa using hj
theorem Tryz.infoEx6:(Tryz.prog.info? 27).map (fun i=>(i.zero,i.size,i.bytes))=some (some (.agg #[.int .i64 0,.string ⟨#[]⟩,.int .i64 0,.slice none 0 0,.slice none 0 0]),5,80):=by kernel_rfl
theorem Grow.app {B B1 E1:Nat} {w:World} {v:Value} {acc es:List Ex} {sa:Option Addr} {m c:Nat} (hg:Grow 27 5 IsExC B w v acc) (hs:ExsIs B1 E1 w (.slice sa m c) es) (hB1:B≤B1) (hdis:∀ g,v.ownBlock=some g→g < B1∨E1≤g) (hn:acc.length + es.length≤200000) (t:TypeId) :
  ∃ v' w',(Builtin.append_ #[25,25] t #[v,.slice sa m c]).run Tryz.prog w=.ok v' w'∧Grow 27 5 IsExC B w' v' (acc ++ es)∧w.grownBy w' v.ownBlock:=by
 obtain ⟨i0,hi,hz0,hz1',hz2'⟩:=info_of Tryz.infoEx6
 obtain ⟨css,h1,h2,h3,h4,h5⟩:=hg
 obtain ⟨a,c',hv,hcap,hE,hrow⟩:=hs
 simp only [Value.slice.injEq] at hv
 obtain ⟨rfl,rfl,rfl⟩:=hv
 obtain ⟨dss,d1,d2,d3,d4⟩:∃ dss:List (List Value),dss.length=es.length∧(∀ c ∈ dss,c.length=5)∧(∀ ad,sa=some ad→∀ j u,dss.flatten[j]?=some u→w.cell? (ad.add j)=some u)∧∀ i (h:i < es.length) (h2:i < dss.length),Lay B1 E1 w fun x=>IsExC x dss[i] es[i]:=by
  rcases hrow with rfl | ⟨g,rfl,g1,g2,g3⟩
  ·
   exact ⟨[],rfl,by simp,by simp,fun i h=>by simp at h⟩
  ·
   let f:Fin es.length→List Value:=fun i=>Classical.choose (g3 i.1 i.2)
   have hf:∀ i:Fin es.length,(f i).length=5∧(∀ j x,(f i)[j]?=some x→w.cell? ⟨g,i.1 * 5 + j,none⟩=some x)∧Lay B1 E1 w fun x=>IsExC x (f i) es[i.1]:=fun i=>Classical.choose_spec (g3 i.1 i.2)
   have hlen:∀ c ∈ List.ofFn f,c.length=5:=fun c hc=>by
    obtain ⟨i,rfl⟩:=List.mem_ofFn.1 hc
    exact (hf i).1
   refine ⟨List.ofFn f,by simp,hlen,?_,fun i hi1 hi2=>?_⟩
   ·
    rintro ad hq j u hj
    cases hq
    rw [addr_plus,Nat.zero_add]
    have hjl:j < es.length * 5:=by
     have q:=(List.getElem?_eq_some_iff.1 hj).1
     have ql:(List.ofFn f).flatten.length=es.length * 5:=by
      rw [flat_len hlen,List.length_ofFn]
     omega
    have e:=flat_get hlen (j / 5) (j % 5) (by simp;omega) (Nat.mod_lt _ (by decide))
    rw [show j / 5 * 5 + j % 5=j by omega,hj] at e
    have:=(hf ⟨j / 5,by omega⟩).2.1 (j % 5) u (by simpa using e.symm)
    rw [show j / 5 * 5 + j % 5=j by omega] at this
    exact this
   ·
    have:=(hf ⟨i,hi1⟩).2.2
    simpa using this
 have hone:∀ u ∈ dss.flatten,u.oneCell'=true:=by
  intro u hu
  obtain ⟨cs,hcs,hu⟩:=List.mem_flatten.1 hu
  obtain ⟨i,hi1,rfl⟩:=List.getElem_of_mem hcs
  obtain ⟨v0,v1,v2,v3,v4,he,hex⟩:=(d4 i (by omega) hi1).out
  obtain ⟨k,s,n,a1,m1,c1,a2,m2,c2,hag⟩:=hex.agg
  simp only [Value.agg.injEq,Array.mk.injEq,List.cons.injEq,and_true] at hag
  obtain ⟨rfl,rfl,rfl,rfl,rfl⟩:=hag
  rw [he] at hu
  simp only [List.mem_cons,List.not_mem_nil,or_false] at hu
  rcases hu with rfl | rfl | rfl | rfl | rfl <;> rfl
 have hdl:dss.flatten.length=es.length * 5:=by
  rw [flat_len d2,d1]
 obtain ⟨v',w',q0,q1,q2,q4⟩:=run_append_own_src (P:=Tryz.prog) w B 25 t 27 i0 (.agg #[.int .i64 0,.string ⟨#[]⟩,.int .i64 0,.slice none 0 0,.slice none 0 0]) 5 80 Tryz.underlying25 hi hz0 hz1' hz2' rfl (by decide) v acc.length css.flatten h3 sa es.length c dss.flatten (fun hq=>⟨by have:=hcap.1 hq;have:=hcap.2;omega,hcap.1 hq⟩) hdl d3 hone (by unfold maxLen;omega) (by omega) h4
 refine ⟨v',w',q0,?_,q2⟩
 have tr:∀ F:World→Prop,LayH (ownL v) B w.heap.size w F→LayH (ownL v') B w'.heap.size w' F:=fun F hF =>
  ((hF.of q2.size fun k _ h2 h3=>q2.block k h2 fun q=>h3 (ownL_mem.2 q.symm)):LayH (ownL v) B w.heap.size w' F).wide (Nat.le_refl _) q2.size (Nat.le_refl _) fun k hk h1 h2=>by
   rw [ownL_mem] at hk ⊢
   rcases q4 with q | q
   ·
    rw [←q];exact hk
   ·
    rw [q] at hk;cases hk;omega
 refine ⟨css ++ dss,by simp [h1,d1],fun c hc=>?_,?_,Nat.le_trans h4 q2.size,fun i hi hi2=>?_⟩
 ·
  rcases List.mem_append.1 hc with q | q
  ·
   exact h2 c q
  ·
   exact d2 c q
 ·
  rw [List.length_append,List.flatten_append]
  exact q1
 ·
  by_cases hlt:i < acc.length
  ·
   have:=tr _ (h5 i hlt (by omega))
   simpa [List.getElem_append_left (h:=hlt) (h':=hi),List.getElem_append_left (show i < css.length by omega)] using this
  ·
   have hi3:i < acc.length + es.length:=by simpa using hi
   have:=tr _ (LayH.of_lay (d4 (i - acc.length) (by omega) (by omega)) (B':=B) (E':=w.heap.size) hB1 hE (Nat.le_refl _) fun k hk=>hdis k (ownL_mem.1 hk))
   have e0:∀ k (hk:k < dss.length),k=i - acc.length→dss[k]'hk=dss[i - acc.length]'(by omega):=by rintro k _ rfl;rfl
   have e1:(css ++ dss)[i]'hi2=dss[i - acc.length]'(by omega):=(List.getElem_append_right (by omega)).trans (e0 _ _ (by rw [h1]))
   have e2:(acc ++ es)[i]'hi=es[i - acc.length]'(by omega):=List.getElem_append_right (by omega)
   rw [e1,e2]
   exact this
def contI (l:List Tk) (f:Nat) (b:Bool) (acc:List Ex) (j:Nat):Ans6 (List Ex):=if isAt l j semiT=true then (pR l f (.items b) (j + 1)).bnd fun es k=>ok6 (acc ++ es) k else sgn6 l j bShut fun k=>ok6 acc k
theorem items_cont (l:List Tk) (f:Nat) (b:Bool) (i:Nat):pR l (f + 1) (.items b) i=(pR l f (if b then .alt else .line) i).bnd fun e j=>contI l f b e j:=rfl
theorem contI_app (l:List Tk) (f:Nat) (b:Bool) (acc e:List Ex) (j:Nat):(contI l f b e j).bnd (fun es k=>ok6 (acc ++ es) k)=contI l f b (acc ++ e) j:=by
 unfold contI
 split
 ·
  cases pR l f (.items b) (j + 1) with
  | none=>rfl
  | some x =>
   cases x with
   | error p=>rfl
   | ok q=>show some _=some _;rw [List.append_assoc]
 ·
  unfold sgn6
  split <;> rfl
theorem contI_next {l:List Tk} {f:Nat} {b:Bool} {acc:List Ex} {j:Nat} (h:isAt l j semiT=true):contI l (f + 1) b acc j=(pR l f (if b then .alt else .line) (j + 1)).bnd fun e k=>contI l f b (acc ++ e) k:=by
 rw [contI,if_pos h,items_cont]
 cases pR l f (if b then .alt else .line) (j + 1) with
 | none=>rfl
 | some x =>
  cases x with
  | error p=>rfl
  | ok q=>exact contI_app l f b acc q.1 q.2
end Go.Proofs.YtinjocchommbdaaGreatDoor
namespace Go.Proofs.YtinjocchommbdaaGreatDoor
open Go.RowKit
def LsR (W:World) (rb:Nat) (a:Option Addr) (c:Nat) (l:List Tk) (x:Except Nat (List Ex × Nat)) (e:Ending) (W':World):Prop:=Bb W.heap.size rb W W'∧match x with
 | .error p=>e=stuckE p
 | .ok (es,j)=>∃ v,e=.returned v∧ExsIs W.heap.size W'.heap.size W' v es∧Rd W' rb a c l j∧es.length≤100000
theorem list_push {W X M w2:World} {rb:Nat} {a:Option Addr} {c:Nat} {l:List Tk} {i j2:Nat} {v v2:Value} {acc:List Ex} {y2:Ex} {css:List (List Value)} {k':Int} {s':Str} {n':Int} {a1':Option Addr} {m1' c1':Nat} {a2':Option Addr} {m2' c2':Nat}
  (h:Rd W rb a c l i) (hlr:∀ b off,a=some ⟨b,off,none⟩→l≠[]→b < W.heap.size) (hp:PS W rb a c l j2 X) (hL:Lay M.heap.size X.heap.size X fun x=>IsEx x (.agg #[.int .i64 k',.string s',.int .i64 n',.slice a1' m1' c1',.slice a2' m2' c2']) y2) (hz:W.heap.size≤M.heap.size∧M.heap.size≤X.heap.size) (hB:W.heap.size≤X.heap.size)
  (hc:css.length=acc.length∧∀ c ∈ css,c.length=5) (hel:∀ i (h:i < acc.length) (h2:i < css.length),LayH (ownL v) W.heap.size X.heap.size X fun x=>IsExC x css[i] acc[i]) (hgb:∀ g,v.ownBlock=some g→W.heap.size≤g∧g < X.heap.size) (hgM:∀ g,v.ownBlock=some g→g < M.heap.size)
  (ho:w2.ownsRow W.heap.size 27 5 v2 (acc.length + 1) (css.flatten ++ [.int .i64 k',.string s',.int .i64 n',.slice a1' m1' c1',.slice a2' m2' c2']))
  (hg:(X.alloc (.cells #[.int .i64 k',.string s',.int .i64 n',.slice a1' m1' c1',.slice a2' m2' c2'] 27)).grownBy w2 v.ownBlock) (hat:v2.ownBlock=v.ownBlock∨v2.ownBlock=some (X.alloc (.cells #[.int .i64 k',.string s',.int .i64 n',.slice a1' m1' c1',.slice a2' m2' c2'] 27)).heap.size) :
  Grow 27 5 IsExC W.heap.size w2 v2 (acc ++ [y2])∧PS W rb a c l j2 w2:=by
 obtain ⟨Y,hY⟩:∃ Y,X.alloc (.cells #[.int .i64 k',.string s',.int .i64 n',.slice a1' m1' c1',.slice a2' m2' c2'] 27)=Y:=⟨_,rfl⟩
 have hb:Below X.heap.size X Y:=by rw [←hY];exact (Below.refl _ _).alloc (Nat.le_refl _) _
 rw [hY] at hg hat
 have hpY:=hp.below hb
 constructor
 ·
  refine Grow.push (css:=css) (cs:=[.int .i64 k',.string s',.int .i64 n',.slice a1' m1' c1',.slice a2' m2' c2']) hc.1 hc.2 rfl hpY.size (fun i h1 h2=>((hel i h1 h2).below hb).wide (Nat.le_refl _) hb.size (Nat.le_refl _) fun _ hk _ _=>hk) ?_ hg hat ho
  exact isExC_lay (LayH.of_lay (hL.below hb) hz.1 hb.size (Nat.le_refl _) fun k hk=>by have:=hgM k (ownL_mem.1 hk);omega)
 ·
  have hr:∀ g,v.ownBlock=some g→W.heap.size≤g:=fun g q=>(hgb g q).1
  exact ⟨hpY.bb.grown hg hr,hpY.rd.grown hg hr h.lt hlr⟩
section
variable {rb:Nat} {a:Option Addr} {c:Nat} {l:List Tk}
theorem pR_min {l:List Tk} {f:Nat} {r:Rl} {i j:Nat} {es:List Ex} (hr:okR r) (hm:minR r=1) (hi:i≤l.length) (h:pR l f r i=some (.ok (es,j))):i + 1≤j:=by
 have:=(pR_shape hr hi h).1
 omega
set_option maxHeartbeats 8000000 in
set_option maxRecDepth 100000 in
theorem par_listA {f0:Nat} (hA0:∀ f,f0=f + 1→RuleC 67 rb a c l f .alt) (W:World) (i:Nat) (x:Except Nat (List Ex × Nat)) (h:Rd W rb a c l i) (hx:(sgn6 l i bOpen fun m=>pR l f0 (.items true) m)=some x) :
  Calls Tryz.prog 66 #[.pointer (some ⟨rb,0,none⟩),.func (.func 67) #[.pointer (some ⟨rb,0,none⟩)] #[]] W fun e W'=>LsR W rb a c l x e W':=by
 have hrb:=h.lt
 have h':=Lib.hid h
 have hlr:=Lib.hid h.lowRow
 have hsg:=Lib.hid (par_sign h bOpen)
 rw [show tS bOpen=⟨#[123]⟩ from rfl] at hsg
 obtain ⟨i0,hi,hz0,hz1',hz2'⟩:=info_of Tryz.infoEx6
 have hlen:=h.len
 by_cases ko:isAt l i bOpen=true
 case neg =>
  simp only [if_neg ko] at hsg
  have hxx:=sgn6_err hx ko
  subst hxx
  clear h hx
  go_enter Tryz.func66,Tryz.ntmps66
  go_wp2_with fail
  refine hsg.out.mono ?_
  rintro e V ⟨hB,rfl⟩
  exact ⟨rfl,hB,rfl⟩
 simp only [if_pos ko] at hsg
 have hx1:=sgn6_ok hx ko
 obtain ⟨f,rfl⟩:∃ f,f0=f + 1:=by
  cases f0 with
  | zero=>cases hx1
  | succ f=>exact ⟨f,rfl⟩
 have hA:=hA0 f rfl
 rw [items_cont] at hx1
 obtain ⟨x0,hx0,kx0⟩:=pR_split hx1
 have hA':=Lib.hid hA
 have hx0':=Lib.hid hx0
 have hil:=isAt_lt ko
 have kx0':=Lib.hid kx0
 clear h hx hx1 hx0 kx0 ko hA hA0
 go_enter Tryz.func66,Tryz.ntmps66
 go_wp2_with fail
 refine hsg.out.mono ?_
 rintro e V0 ⟨hB0,rfl,hR0⟩
 have hp0:=Lib.hid ((PS.refl h'.out).call hB0 hR0)
 have hat:=Lib.hid (hA'.out V0 (i + 1) x0 hR0 hx0'.out)
 clear hB0 hR0 hsg
 go_wp2_with fail
 refine hat.out.mono ?_
 rintro e V1 ⟨hB1,hm1⟩
 rcases x0 with p | ⟨es0,j0⟩
 case error =>
  obtain rfl:=hm1
  have hxx:=kx0'.out
  dsimp only at hxx
  subst hxx
  exact ⟨rfl,hp0.out.bb.next hB1,rfl⟩
 obtain ⟨v,y,rfl,rfl,hL1,hR1⟩:=hm1
 obtain ⟨k0,s0,n0,a10,m10,c10,a20,m20,c20,rfl⟩:=hL1.out.agg
 obtain ⟨W2,hW2⟩:∃ V,V1.alloc (.cells #[.int .i64 k0,.string s0,.int .i64 n0,.slice a10 m10 c10,.slice a20 m20 c20] 27)=V:=⟨_,rfl⟩
 have hp1:=Lib.hid (hp0.out.call hB1 hR1)
 have hG:Hid (Grow 27 5 IsExC W.heap.size W2 (.slice (some ⟨V1.heap.size,0,none⟩) 1 1) [y]):=by
  rw [←hW2]
  have h0:=hp0.out.size
  exact Grow.one rfl (by decide) hp1.out.size (isExC_lay (LayH.of_lay hL1 h0 (Nat.le_refl _) (Nat.le_refl _) (fun q hq=>by simp at hq;omega)))
 have hp2:Hid (PS W rb a c l j0 W2):=by
  refine hp1.out.below ?_
  rw [←hW2]
  exact (Below.refl _ _).alloc (Nat.le_refl _) _
 have hc0:Hid (contI l f true [y] j0=some x):=kx0'.out
 have hW2':=Lib.hid hW2
 clear hL1 hR1 hB1 hW2 kx0' hp1 hat
 go_wp2_with fail
 rw [hW2'.out]
 clear hW2'
 go_loopg [5] f (fun g v X=>∃ (acc:List Ex) (j:Nat),Hid (g≤f)∧Hid (Grow 27 5 IsExC W.heap.size X v acc)∧Hid (PS W rb a c l j X)∧Hid (contI l g true acc j=some x)∧Hid (acc.length + 1≤j))
 case atStart=>exact ⟨[y],j0,Nat.le_refl _,hG.out,hp2.out,hc0.out,by have:=pR_min (r:=.alt) trivial rfl (by omega) hx0'.out;unfold Hid;simp only [List.length_cons,List.length_nil];omega⟩
 case round =>
  obtain ⟨acc,j,hg,hgr,hp,hc,haj⟩:=hrel
  obtain ⟨X,rfl⟩:∃ W,W=wr:=⟨_,rfl⟩
  clear hG hp2 hc0 hp0 hx0'
  have his:=Lib.hid (par_is hp.out.rd semiT)
  rw [show tS semiT=⟨#[59]⟩ from rfl] at his
  have hile:=hp.out.rd.le
  by_cases ks:isAt l j semiT=true
  ·
   rw [ks] at his
   have hjl:=isAt_lt ks
   obtain ⟨g,rfl⟩:∃ g',gk=g' + 1:=by
    cases gk with
    | zero =>
     have:=hc.out
     rw [contI,if_pos ks] at this
     cases this
    | succ g=>exact ⟨g,rfl⟩
   have hc2:=hc.out
   rw [contI_next ks] at hc2
   obtain ⟨x2,hx2,kx2⟩:=pR_split hc2
   have hst:=Lib.hid (fun n=>(hp.out.rd.drewN n).step (j:=j + 1) (by omega))
   have hcl:=Lib.hid (fun n=>(hp.out.rd.drewN n).cells)
   have hrl:=Lib.hid (fun V (hV:PS W rb a c l (j + 1) V)=>(hA'.out.mono (show g≤f by have:=hg.out;omega)) V (j + 1) x2 hV.rd hx2)
   have kx2':=Lib.hid kx2
   have hx2':=Lib.hid hx2
   have hw:IntKind.i64.wrap ((j:Int) + 1)=(j:Int) + 1:=IntWalk.i64_in _ (by omega)
   obtain ⟨va,vc,rfl,hvn,hvc⟩:=hgr.out.form
   have hvv:=Lib.hid (And.intro hvn hvc)
   clear hc hc2 kx2 hx2 ks hvn hvc
   go_wp2_with fail
   refine his.out.mono ?_
   rintro e V2 ⟨rfl,n,hV2⟩
   have hcl2:=hcl.out n
   rw [←hV2] at hcl2
   have hs2:=hst.out n
   rw [←hV2] at hs2
   have hps2:Hid (PS W rb a c l (j + 1) (V2.setCell ⟨rb,1,none⟩ (.int .i64 ((j + 1:Nat):Int)))):=(hp.out.below (by rw [hV2];exact below_drewN' (Below.refl _ _) n)).call hs2.2 hs2.1
   have hgr2:Hid (Grow 27 5 IsExC W.heap.size (V2.setCell ⟨rb,1,none⟩ (.int .i64 ((j + 1:Nat):Int))) (.slice va acc.length vc) acc):=(hgr.out.below (by rw [hV2];exact below_drewN' (Below.refl _ _) n)).bb hs2.2 hrb
   obtain ⟨c0,c1,cf⟩:=hcl2
   have hV2':=Lib.hid hV2
   clear hs2 hV2 hst hcl
   obtain ⟨M,hM⟩:∃ M,V2.setCell ⟨rb,1,none⟩ (.int .i64 ((j:Int) + 1))=M:=⟨_,rfl⟩
   rw [show (((j + 1:Nat):Int))=(j:Int) + 1 by omega] at hps2 hgr2
   rw [hM] at hps2 hgr2
   have hrM:=Lib.hid (hrl.out M hps2.out)
   go_upto_region 5 with (fail)
   try rw [hM]
   clear c0 c1 cf hM
   go_wp2_with fail
   refine hrM.out.mono ?_
   rintro e V3 ⟨hB3,hm3⟩
   rcases x2 with p | ⟨es2,j2⟩
   case error =>
    obtain rfl:=hm3
    have hxx:=kx2'.out
    dsimp only at hxx
    subst hxx
    exact ⟨rfl,hps2.out.bb.next hB3,rfl⟩
   obtain ⟨v,y2,rfl,rfl,hL3,hR3⟩:=hm3
   obtain ⟨k',s',n',a1',m1',c1',a2',m2',c2',rfl⟩:=hL3.out.agg
   have hp3:=Lib.hid (hps2.out.call hB3 hR3)
   have hgr3:=Lib.hid (hgr2.out.bb hB3 hrb)
   have hL3':=Lib.hid (show Lay M.heap.size V3.heap.size V3 _ from hL3)
   have hz3:=Lib.hid (And.intro hps2.out.size hB3.size)
   have hjj:Hid (j + 1 + 1≤j2):=by have:=pR_min (r:=.alt) trivial rfl (by omega) hx2'.out;unfold Hid;omega
   clear hB3 hR3 hL3 hrM hrl
   obtain ⟨css,hcl1,hcl2,hown,hBX,hel⟩:=hgr3.out
   have hel':=Lib.hid hel
   have hown':=Lib.hid hown
   have hgb:=Lib.hid (fun g q=>ownBlock_ge hown (g:=g) q)
   have hgM:=Lib.hid (fun g (q:(Value.slice va acc.length vc).ownBlock=some g)=>(ownBlock_ge hgr2.out.choose_spec.2.2.1 q).2)
   have hn63:acc.length + 1≤maxLen:=by have:=haj.out;unfold maxLen;omega
   have hsz80:(acc.length + 1) * 80≤140737488355328:=by have:=haj.out;omega
   have hcl':=Lib.hid (And.intro hcl1 hcl2)
   clear hel hown hcl1 hcl2
   go_wp2_with (at_builtin;go_must (refine wpList_append_own_at _ rfl _ _ 25 rfl W.heap.size 27 i0 (.agg #[.int .i64 0,.string ⟨#[]⟩,.int .i64 0,.slice none 0 0,.slice none 0 0]) 5 80 Tryz.underlying25 hi hz0 hz1' hz2' rfl (by decide) _ _ _ rfl (hown'.out.alloc _) ⟨V3.heap.size,0,none⟩ 1 1 [.int .i64 k',.string s',.int .i64 n',.slice a1' m1' c1',.slice a2' m2' c2'] rfl rfl (cells_new6 _ #[.int .i64 k',.string s',.int .i64 n',.slice a1' m1' c1',.slice a2' m2' c2'] _) (by simp [Value.oneCell']) hn63 hsz80 (by simp;omega) ?_);intro v2 w2 hown2 hg2 _ hat2;have hG2:Hid (Grow 27 5 IsExC W.heap.size w2 v2 (acc ++ [y2])∧PS W rb a c l j2 w2):=list_push h'.out hlr.out hp3.out hL3'.out hz3.out hBX hcl'.out hel'.out hgb.out hgM.out hown2 hg2 hat2;clear hown2 hg2 hat2)
   go_roundg g
   case measure=>omega
   case rel=>exact ⟨acc ++ [y2],j2,by have:=hg.out;unfold Hid;omega,hG2.out.1,hG2.out.2,kx2'.out,by have:=hjj.out;have:=haj.out;unfold Hid;rw [List.length_append];simp only [List.length_cons,List.length_nil];omega⟩
  ·
   have hb:isAt l j semiT=false:=by simpa using ks
   rw [hb] at his
   have hc2:=hc.out
   rw [contI,if_neg ks] at hc2
   have hc3:=Lib.hid hc2
   have hsg2:=Lib.hid (fun n=>par_sign (hp.out.rd.drewN n) bShut)
   rw [show tS bShut=⟨#[125]⟩ from rfl] at hsg2
   obtain ⟨va,vc,rfl,hvn,hvc⟩:=hgr.out.form
   clear hc hc2 ks hb hvn hvc
   go_wp2_with fail
   refine his.out.mono ?_
   rintro e V2 ⟨rfl,n,rfl⟩
   have hb2:=Lib.hid (below_drewN' (Below.refl X.heap.size X) n)
   go_wp2_with fail
   refine (hsg2.out n).mono ?_
   rintro e V3 ⟨hB3,hm3⟩
   have hpd:=(hp.out.below hb2.out)
   by_cases k2:isAt l j bShut=true
   ·
    rw [if_pos k2] at hm3
    obtain ⟨rfl,hR3⟩:=hm3
    have hxx:=sgn6_ok hc3.out k2
    have hx4:Hid (x=.ok (acc,j + 1)):=(Option.some.inj hxx).symm
    have hg4:=Lib.hid ((hgr.out.below hb2.out).bb hB3 hrb).exs
    have hp4:=Lib.hid (hpd.call hB3 hR3)
    clear hB3 hR3 hxx k2 hpd
    go_wp2_with fail
    go_ret
    refine ⟨hp4.out.bb,?_⟩
    rw [hx4.out]
    exact ⟨_,rfl,hg4.out,hp4.out.rd,by have:=haj.out;omega⟩
   ·
    rw [if_neg k2] at hm3
    obtain rfl:=hm3
    have hxx:=sgn6_err hc3.out k2
    subst hxx
    exact ⟨rfl,hpd.bb.next hB3,rfl⟩
set_option maxHeartbeats 8000000 in
set_option maxRecDepth 100000 in
theorem par_listL {f0:Nat} (hA0:∀ f,f0=f + 1→RuleC 68 rb a c l f .line) (W:World) (i:Nat) (x:Except Nat (List Ex × Nat)) (h:Rd W rb a c l i) (hx:(sgn6 l i bOpen fun m=>pR l f0 (.items false) m)=some x) :
  Calls Tryz.prog 66 #[.pointer (some ⟨rb,0,none⟩),.func (.func 68) #[.pointer (some ⟨rb,0,none⟩)] #[]] W fun e W'=>LsR W rb a c l x e W':=by
 have hrb:=h.lt
 have h':=Lib.hid h
 have hlr:=Lib.hid h.lowRow
 have hsg:=Lib.hid (par_sign h bOpen)
 rw [show tS bOpen=⟨#[123]⟩ from rfl] at hsg
 obtain ⟨i0,hi,hz0,hz1',hz2'⟩:=info_of Tryz.infoEx6
 have hlen:=h.len
 by_cases ko:isAt l i bOpen=true
 case neg =>
  simp only [if_neg ko] at hsg
  have hxx:=sgn6_err hx ko
  subst hxx
  clear h hx
  go_enter Tryz.func66,Tryz.ntmps66
  go_wp2_with fail
  refine hsg.out.mono ?_
  rintro e V ⟨hB,rfl⟩
  exact ⟨rfl,hB,rfl⟩
 simp only [if_pos ko] at hsg
 have hx1:=sgn6_ok hx ko
 obtain ⟨f,rfl⟩:∃ f,f0=f + 1:=by
  cases f0 with
  | zero=>cases hx1
  | succ f=>exact ⟨f,rfl⟩
 have hA:=hA0 f rfl
 rw [items_cont] at hx1
 obtain ⟨x0,hx0,kx0⟩:=pR_split hx1
 have hA':=Lib.hid hA
 have hx0':=Lib.hid hx0
 have hil:=isAt_lt ko
 have kx0':=Lib.hid kx0
 clear h hx hx1 hx0 kx0 ko hA hA0
 go_enter Tryz.func66,Tryz.ntmps66
 go_wp2_with fail
 refine hsg.out.mono ?_
 rintro e V0 ⟨hB0,rfl,hR0⟩
 have hp0:=Lib.hid ((PS.refl h'.out).call hB0 hR0)
 have hat:=Lib.hid (hA'.out V0 (i + 1) x0 hR0 hx0'.out)
 clear hB0 hR0 hsg
 go_wp2_with fail
 refine hat.out.mono ?_
 rintro e V1 ⟨hB1,hm1⟩
 rcases x0 with p | ⟨es0,j0⟩
 case error =>
  obtain rfl:=hm1
  have hxx:=kx0'.out
  dsimp only at hxx
  subst hxx
  exact ⟨rfl,hp0.out.bb.next hB1,rfl⟩
 obtain ⟨v,y,rfl,rfl,hL1,hR1⟩:=hm1
 obtain ⟨k0,s0,n0,a10,m10,c10,a20,m20,c20,rfl⟩:=hL1.out.agg
 obtain ⟨W2,hW2⟩:∃ V,V1.alloc (.cells #[.int .i64 k0,.string s0,.int .i64 n0,.slice a10 m10 c10,.slice a20 m20 c20] 27)=V:=⟨_,rfl⟩
 have hp1:=Lib.hid (hp0.out.call hB1 hR1)
 have hG:Hid (Grow 27 5 IsExC W.heap.size W2 (.slice (some ⟨V1.heap.size,0,none⟩) 1 1) [y]):=by
  rw [←hW2]
  have h0:=hp0.out.size
  exact Grow.one rfl (by decide) hp1.out.size (isExC_lay (LayH.of_lay hL1 h0 (Nat.le_refl _) (Nat.le_refl _) (fun q hq=>by simp at hq;omega)))
 have hp2:Hid (PS W rb a c l j0 W2):=by
  refine hp1.out.below ?_
  rw [←hW2]
  exact (Below.refl _ _).alloc (Nat.le_refl _) _
 have hc0:Hid (contI l f false [y] j0=some x):=kx0'.out
 have hW2':=Lib.hid hW2
 clear hL1 hR1 hB1 hW2 kx0' hp1 hat
 go_wp2_with fail
 rw [hW2'.out]
 clear hW2'
 go_loopg [5] f (fun g v X=>∃ (acc:List Ex) (j:Nat),Hid (g≤f)∧Hid (Grow 27 5 IsExC W.heap.size X v acc)∧Hid (PS W rb a c l j X)∧Hid (contI l g false acc j=some x)∧Hid (acc.length + 1≤j))
 case atStart=>exact ⟨[y],j0,Nat.le_refl _,hG.out,hp2.out,hc0.out,by have:=pR_min (r:=.line) trivial rfl (by omega) hx0'.out;unfold Hid;simp only [List.length_cons,List.length_nil];omega⟩
 case round =>
  obtain ⟨acc,j,hg,hgr,hp,hc,haj⟩:=hrel
  obtain ⟨X,rfl⟩:∃ W,W=wr:=⟨_,rfl⟩
  clear hG hp2 hc0 hp0 hx0'
  have his:=Lib.hid (par_is hp.out.rd semiT)
  rw [show tS semiT=⟨#[59]⟩ from rfl] at his
  have hile:=hp.out.rd.le
  by_cases ks:isAt l j semiT=true
  ·
   rw [ks] at his
   have hjl:=isAt_lt ks
   obtain ⟨g,rfl⟩:∃ g',gk=g' + 1:=by
    cases gk with
    | zero =>
     have:=hc.out
     rw [contI,if_pos ks] at this
     cases this
    | succ g=>exact ⟨g,rfl⟩
   have hc2:=hc.out
   rw [contI_next ks] at hc2
   obtain ⟨x2,hx2,kx2⟩:=pR_split hc2
   have hst:=Lib.hid (fun n=>(hp.out.rd.drewN n).step (j:=j + 1) (by omega))
   have hcl:=Lib.hid (fun n=>(hp.out.rd.drewN n).cells)
   have hrl:=Lib.hid (fun V (hV:PS W rb a c l (j + 1) V)=>(hA'.out.mono (show g≤f by have:=hg.out;omega)) V (j + 1) x2 hV.rd hx2)
   have kx2':=Lib.hid kx2
   have hx2':=Lib.hid hx2
   have hw:IntKind.i64.wrap ((j:Int) + 1)=(j:Int) + 1:=IntWalk.i64_in _ (by omega)
   obtain ⟨va,vc,rfl,hvn,hvc⟩:=hgr.out.form
   have hvv:=Lib.hid (And.intro hvn hvc)
   clear hc hc2 kx2 hx2 ks hvn hvc
   go_wp2_with fail
   refine his.out.mono ?_
   rintro e V2 ⟨rfl,n,hV2⟩
   have hcl2:=hcl.out n
   rw [←hV2] at hcl2
   have hs2:=hst.out n
   rw [←hV2] at hs2
   have hps2:Hid (PS W rb a c l (j + 1) (V2.setCell ⟨rb,1,none⟩ (.int .i64 ((j + 1:Nat):Int)))):=(hp.out.below (by rw [hV2];exact below_drewN' (Below.refl _ _) n)).call hs2.2 hs2.1
   have hgr2:Hid (Grow 27 5 IsExC W.heap.size (V2.setCell ⟨rb,1,none⟩ (.int .i64 ((j + 1:Nat):Int))) (.slice va acc.length vc) acc):=(hgr.out.below (by rw [hV2];exact below_drewN' (Below.refl _ _) n)).bb hs2.2 hrb
   obtain ⟨c0,c1,cf⟩:=hcl2
   have hV2':=Lib.hid hV2
   clear hs2 hV2 hst hcl
   obtain ⟨M,hM⟩:∃ M,V2.setCell ⟨rb,1,none⟩ (.int .i64 ((j:Int) + 1))=M:=⟨_,rfl⟩
   rw [show (((j + 1:Nat):Int))=(j:Int) + 1 by omega] at hps2 hgr2
   rw [hM] at hps2 hgr2
   have hrM:=Lib.hid (hrl.out M hps2.out)
   go_upto_region 5 with (fail)
   try rw [hM]
   clear c0 c1 cf hM
   go_wp2_with fail
   refine hrM.out.mono ?_
   rintro e V3 ⟨hB3,hm3⟩
   rcases x2 with p | ⟨es2,j2⟩
   case error =>
    obtain rfl:=hm3
    have hxx:=kx2'.out
    dsimp only at hxx
    subst hxx
    exact ⟨rfl,hps2.out.bb.next hB3,rfl⟩
   obtain ⟨v,y2,rfl,rfl,hL3,hR3⟩:=hm3
   obtain ⟨k',s',n',a1',m1',c1',a2',m2',c2',rfl⟩:=hL3.out.agg
   have hp3:=Lib.hid (hps2.out.call hB3 hR3)
   have hgr3:=Lib.hid (hgr2.out.bb hB3 hrb)
   have hL3':=Lib.hid (show Lay M.heap.size V3.heap.size V3 _ from hL3)
   have hz3:=Lib.hid (And.intro hps2.out.size hB3.size)
   have hjj:Hid (j + 1 + 1≤j2):=by have:=pR_min (r:=.line) trivial rfl (by omega) hx2'.out;unfold Hid;omega
   clear hB3 hR3 hL3 hrM hrl
   obtain ⟨css,hcl1,hcl2,hown,hBX,hel⟩:=hgr3.out
   have hel':=Lib.hid hel
   have hown':=Lib.hid hown
   have hgb:=Lib.hid (fun g q=>ownBlock_ge hown (g:=g) q)
   have hgM:=Lib.hid (fun g (q:(Value.slice va acc.length vc).ownBlock=some g)=>(ownBlock_ge hgr2.out.choose_spec.2.2.1 q).2)
   have hn63:acc.length + 1≤maxLen:=by have:=haj.out;unfold maxLen;omega
   have hsz80:(acc.length + 1) * 80≤140737488355328:=by have:=haj.out;omega
   have hcl':=Lib.hid (And.intro hcl1 hcl2)
   clear hel hown hcl1 hcl2
   go_wp2_with (at_builtin;go_must (refine wpList_append_own_at _ rfl _ _ 25 rfl W.heap.size 27 i0 (.agg #[.int .i64 0,.string ⟨#[]⟩,.int .i64 0,.slice none 0 0,.slice none 0 0]) 5 80 Tryz.underlying25 hi hz0 hz1' hz2' rfl (by decide) _ _ _ rfl (hown'.out.alloc _) ⟨V3.heap.size,0,none⟩ 1 1 [.int .i64 k',.string s',.int .i64 n',.slice a1' m1' c1',.slice a2' m2' c2'] rfl rfl (cells_new6 _ #[.int .i64 k',.string s',.int .i64 n',.slice a1' m1' c1',.slice a2' m2' c2'] _) (by simp [Value.oneCell']) hn63 hsz80 (by simp;omega) ?_);intro v2 w2 hown2 hg2 _ hat2;have hG2:Hid (Grow 27 5 IsExC W.heap.size w2 v2 (acc ++ [y2])∧PS W rb a c l j2 w2):=list_push h'.out hlr.out hp3.out hL3'.out hz3.out hBX hcl'.out hel'.out hgb.out hgM.out hown2 hg2 hat2;clear hown2 hg2 hat2)
   go_roundg g
   case measure=>omega
   case rel=>exact ⟨acc ++ [y2],j2,by have:=hg.out;unfold Hid;omega,hG2.out.1,hG2.out.2,kx2'.out,by have:=hjj.out;have:=haj.out;unfold Hid;rw [List.length_append];simp only [List.length_cons,List.length_nil];omega⟩
  ·
   have hb:isAt l j semiT=false:=by simpa using ks
   rw [hb] at his
   have hc2:=hc.out
   rw [contI,if_neg ks] at hc2
   have hc3:=Lib.hid hc2
   have hsg2:=Lib.hid (fun n=>par_sign (hp.out.rd.drewN n) bShut)
   rw [show tS bShut=⟨#[125]⟩ from rfl] at hsg2
   obtain ⟨va,vc,rfl,hvn,hvc⟩:=hgr.out.form
   clear hc hc2 ks hb hvn hvc
   go_wp2_with fail
   refine his.out.mono ?_
   rintro e V2 ⟨rfl,n,rfl⟩
   have hb2:=Lib.hid (below_drewN' (Below.refl X.heap.size X) n)
   go_wp2_with fail
   refine (hsg2.out n).mono ?_
   rintro e V3 ⟨hB3,hm3⟩
   have hpd:=(hp.out.below hb2.out)
   by_cases k2:isAt l j bShut=true
   ·
    rw [if_pos k2] at hm3
    obtain ⟨rfl,hR3⟩:=hm3
    have hxx:=sgn6_ok hc3.out k2
    have hx4:Hid (x=.ok (acc,j + 1)):=(Option.some.inj hxx).symm
    have hg4:=Lib.hid ((hgr.out.below hb2.out).bb hB3 hrb).exs
    have hp4:=Lib.hid (hpd.call hB3 hR3)
    clear hB3 hR3 hxx k2 hpd
    go_wp2_with fail
    go_ret
    refine ⟨hp4.out.bb,?_⟩
    rw [hx4.out]
    exact ⟨_,rfl,hg4.out,hp4.out.rd,by have:=haj.out;omega⟩
   ·
    rw [if_neg k2] at hm3
    obtain rfl:=hm3
    have hxx:=sgn6_err hc3.out k2
    subst hxx
    exact ⟨rfl,hpd.bb.next hB3,rfl⟩
end
end Go.Proofs.YtinjocchommbdaaGreatDoor
