/- A part of the proof that parser laws hold: texts of the walk and of its plain laws, made small. -/
import Derived.Test.YtinjocchommbdaaGreatDoorM33
import Derived.Test.YtinjocchommbdaaGreatDoorM43
import Derived.Test.YtinjocchommbdaaGreatDoorM31
set_option linter.unusedVariables false
set_option linter.unusedSimpArgs false
namespace Go.Proofs.YtinjocchommbdaaGreatDoor
open Go.RowKit
theorem two_new (W:World) (A B:Array Value) (T U:TypeId):Blk ((W.alloc (.cells A T)).alloc (.cells B U)) W.heap.size (.cells A T (0,0))∧Blk ((W.alloc (.cells A T)).alloc (.cells B U)) (W.heap.size + 1) (.cells B U (0,0))∧Below W.heap.size W ((W.alloc (.cells A T)).alloc (.cells B U)):=by
 have z1:(W.alloc (.cells A T)).heap.size=W.heap.size + 1:=by simp
 have q0:Blk (W.alloc (.cells A T)) W.heap.size (.cells A T (0,0)):=Blk.new
 have q1:Blk ((W.alloc (.cells A T)).alloc (.cells B U)) (W.heap.size + 1) (.cells B U (0,0)):=by
  have:=Blk.new (w:=W.alloc (.cells A T)) (vs:=B) (t:=U)
  rw [z1] at this;exact this
 exact ⟨q0.below ((Below.refl _ _).alloc (Nat.le_refl _) _),q1,((Below.refl _ _).alloc (Nat.le_refl _) _).alloc (by simp) _⟩
theorem fit61:∀ t ∈ toks61,TkFit t:=by
 intro t ht
 simp only [toks61,List.mem_cons,List.not_mem_nil,or_false] at ht
 rcases ht with rfl | rfl | rfl | rfl <;> exact ⟨by decide,by decide,by decide⟩
theorem call61 (W:World) (v:Value) (hv:TkSl W v toks61):Calls Tryz.prog 11 #[v] W fun e W'=>(∃ a1 c1 a2 c2,e=.returned (.tuple #[.agg #[.int .i64 9,.string ⟨#[43]⟩,.int .i64 0,.slice a1 0 c1,.slice a2 2 c2],.agg #[.int .i64 0,.int .i64 0],.int .i64 0])∧IsEx W' (.agg #[.int .i64 9,.string ⟨#[43]⟩,.int .i64 0,.slice a1 0 c1,.slice a2 2 c2]) ex61)∧Below W.heap.size W W':=by
 refine (par_doorE chkB tree_Check W v toks61 hv (by decide) fit61).mono ?_
 rintro e W' ⟨h,hB⟩
 rw [expr61] at h
 unfold ParR at h
 simp only [chk61,if_true] at h
 obtain ⟨u,rfl,hI⟩:=h
 have hI:=hI.out
 obtain ⟨a1,c1,a2,c2,rfl,_⟩:=(show IsEx W' u (.mk 9 ⟨#[43]⟩ 0 [] [.mk 5 ⟨#[]⟩ 0 [] [ex61f,ex61x],ex61n]) from hI).open
 exact ⟨⟨a1,c1,a2,c2,rfl,hI⟩,hB⟩
theorem call62 (W:World) (v:Value) (hv:TkSl W v (toks61.take 3)):Calls Tryz.prog 11 #[v] W fun e W'=>e=.returned (.tuple #[.agg #[.int .i64 0,.string ⟨#[]⟩,.int .i64 0,.slice none 0 0,.slice none 0 0],.agg #[.int .i64 1,.int .i64 5],.int .i64 60])∧Below W.heap.size W W':=by
 refine (par_doorE chkB tree_Check W v (toks61.take 3) hv (by decide) (fun t ht=>fit61 t (List.mem_of_mem_take ht))).mono ?_
 rintro e W' ⟨h,hB⟩
 rw [expr62] at h
 unfold ParR at h
 simp only [place62] at h
 exact ⟨h,hB⟩
theorem call63 (w W:World) (hW:Below w.heap.size w W) (hE:RngOk w) (hM:MaxOk w) (C:Array Value) (m:Nat × Nat) (hC:C.toList=text62.map (fun b=>Value.int .u8 b.toNat)):Calls Tryz.prog 17 #[.slice (some ⟨W.heap.size,0,none⟩) 21 21] (W.alloc (.cells C 5 m)) fun r w'=>(∃ a1 c1 a2 c2,r=.returned (.tuple #[.agg #[.slice a1 0 c1,.slice a2 2 c2],.agg #[.int .i64 0,.int .i64 0],.int .i64 0])∧IsPg w' (.agg #[.slice a1 0 c1,.slice a2 2 c2]) pg62)∧Below W.heap.size W w':=by
 have hb:Below W.heap.size W (W.alloc (.cells C 5 m)):=(Below.refl _ _).alloc (Nat.le_refl _) _
 have hk:=Keeps.of_below (hW.trans (hb.mono hW.size))
 refine (par_Text (some ⟨W.heap.size,0,none⟩) text62 21 _ (by decide) (by decide) (by decide) (fun h=>by cases h) (marked_row W text62 C m hC) (hE.keeps hk) (hM.keeps hk)).mono ?_
 rintro e W' ⟨h,hB⟩
 unfold TxR at h
 rw [lexA62] at h
 simp only at h
 rw [lay62] at h
 simp only at h
 rw [prog62] at h
 unfold ParR at h
 simp only [chk62,if_true] at h
 obtain ⟨u,rfl,hI⟩:=h
 have hI:=hI.out
 obtain ⟨a1,c1,a2,c2,rfl,_⟩:=id hI
 exact ⟨⟨a1,c1,a2,c2,rfl,hI⟩,hb.trans (hB.mono (by simp))⟩
theorem call64 (w W:World) (hW:Below w.heap.size w W) (hE:RngOk w) (hM:MaxOk w) (C:Array Value) (m:Nat × Nat) (hC:C.toList=text63.map (fun b=>Value.int .u8 b.toNat)):Calls Tryz.prog 17 #[.slice (some ⟨W.heap.size,0,none⟩) 5 5] (W.alloc (.cells C 5 m)) fun r w'=>r=.returned (.tuple #[.agg #[.slice none 0 0,.slice none 0 0],.agg #[.int .i64 1,.int .i64 5],.int .i64 60])∧Below W.heap.size W w':=by
 have hb:Below W.heap.size W (W.alloc (.cells C 5 m)):=(Below.refl _ _).alloc (Nat.le_refl _) _
 have hk:=Keeps.of_below (hW.trans (hb.mono hW.size))
 refine (par_Text (some ⟨W.heap.size,0,none⟩) text63 5 _ (by decide) (by decide) (by decide) (fun h=>by cases h) (marked_row W text63 C m hC) (hE.keeps hk) (hM.keeps hk)).mono ?_
 rintro e W' ⟨h,hB⟩
 unfold TxR at h
 rw [lexA63] at h
 simp only at h
 rw [lay63] at h
 simp only at h
 rw [prog63] at h
 unfold ParR at h
 simp only [place63] at h
 exact ⟨h,hb.trans (hB.mono (by simp))⟩
set_option maxHeartbeats 4000000 in
set_option maxRecDepth 100000 in
theorem awake6 (w:World) (ht:Tab w) (hE:RngOk w) (hM:MaxOk w):Calls Tryz.prog 10 #[] w fun r w'=>r=.returned (.bool true)∧Below w.heap.size w w':=by
 have kc:=fun (w:World) (C:Array Value) (n c:Nat)=>Lib.run_convert_bytes_const (P:=Tryz.prog) w 42 5 C n c Tryz.underlying42 Tryz.underlying5
 have hx1:Hid (∀ W,Below w.heap.size w W→∀ C m,C.toList=text61.map (fun b=>Value.int .u8 b.toNat)→Calls Tryz.prog 19 #[.slice (some ⟨W.heap.size,0,none⟩) 7 7] (W.alloc (.cells C 5 m)) fun r w'=>LexR (.ok toks61) r w'∧Below W.heap.size W w'):=by
  intro W hW C m hC
  have hb:Below W.heap.size W (W.alloc (.cells C 5 m)):=(Below.refl _ _).alloc (Nat.le_refl _) _
  have hk:=Keeps.of_below (hW.trans (hb.mono hW.size))
  have:=lex_Lex (some ⟨W.heap.size,0,none⟩) text61 7 _ (by decide) (by decide) (by decide) (fun h=>by cases h) (marked_row W text61 C m hC) (hE.keeps hk) (hM.keeps hk)
  rw [lexA61] at this
  exact this.mono fun r w' ⟨h1,h2⟩=>⟨h1,hb.trans (h2.mono (by simp))⟩
 have hx2:=Lib.hid fun W hW C m hC=>call63 w W hW hE hM C m hC
 have hx3:=Lib.hid fun W hW C m hC=>call64 w W hW hE hM C m hC
 have ht':=Lib.hid ht
 clear hE hM ht
 go_enter Tryz.func10,Tryz.ntmps10
 go_wp2_with fail
 refine (hx1.out _ (Below.refl _ _) _ _ rfl).mono ?_
 rintro e V ⟨⟨v,rfl,a,c,rfl,⟨ha,hc4⟩,hr⟩,hB⟩
 simp only [show toks61.length=4 from rfl] at hc4
 simp only [show toks61.length=4 from rfl]
 have hc3:3≤c:=by omega
 obtain ⟨W2,hW2⟩:∃ W,V.alloc (.cells #[.int .i64 0,.int .i64 0] 29)=W:=⟨_,rfl⟩
 have hb2:Below V.heap.size V W2:=by rw [←hW2];exact (Below.refl _ _).alloc (Nat.le_refl _) _
 have hbW2:=Lib.hid (hB.trans (hb2.mono hB.size))
 have hr2:=Lib.hid (hr.keeps (Keeps.of_below hb2))
 have ha':=Lib.hid ha
 have hd1:=Lib.hid (call61 W2 (.slice a 4 c) ⟨a,c,rfl,⟨ha,hc4⟩,hr2.out⟩)
 have hW2':=Lib.hid hW2
 clear hW2 hb2 hB hr ha
 go_upto_region 2 with (fail)
 rw [hW2'.out]
 go_wp2_with fail
 refine hd1.out.mono ?_
 rintro e V2 ⟨⟨a1,c1,a2,c2,rfl,hI⟩,hB⟩
 obtain ⟨W3,hW3⟩:∃ W,(V2.alloc (.cells #[.int .i64 9,.string ⟨#[43]⟩,.int .i64 0,.slice a1 0 c1,.slice a2 2 c2] 27)).alloc (.cells #[.int .i64 0,.int .i64 0] 29)=W:=⟨_,rfl⟩
 obtain ⟨p4,p5,hb3⟩:=two_new V2 #[.int .i64 9,.string ⟨#[43]⟩,.int .i64 0,.slice a1 0 c1,.slice a2 2 c2] #[.int .i64 0,.int .i64 0] 27 29
 rw [hW3] at p4 p5 hb3
 have hbV2:=hbW2.out.trans (hB.mono hbW2.out.size)
 have hbW3:=Lib.hid (hbV2.trans (hb3.mono hbV2.size))
 have p4':=Lib.hid p4
 have p5':=Lib.hid p5
 have hI':=Lib.hid (IsEx.keeps (Keeps.of_below hb3) _ _ hI)
 have hd2:=Lib.hid (call62 W3 (.slice a 3 c) ⟨a,c,rfl,⟨ha'.out,by show 3≤c;omega⟩,((hr2.out.keeps (Keeps.of_below hB)).keeps (Keeps.of_below hb3)).take 3⟩)
 have hW3':=Lib.hid hW3
 clear hW3 hb3 hB hI p4 p5 hbV2
 go_upto_region 3 with (fail)
 rw [hW3'.out]
 go_wp2_with fail
 refine hd2.out.mono ?_
 rintro e V3 ⟨rfl,hB⟩
 obtain ⟨W4,hW4⟩:∃ W,(V3.alloc (.cells #[.int .i64 0,.string ⟨#[]⟩,.int .i64 0,.slice none 0 0,.slice none 0 0] 27)).alloc (.cells #[.int .i64 1,.int .i64 5] 29)=W:=⟨_,rfl⟩
 obtain ⟨_,p8,hb4⟩:=two_new V3 #[.int .i64 0,.string ⟨#[]⟩,.int .i64 0,.slice none 0 0,.slice none 0 0] #[.int .i64 1,.int .i64 5] 27 29
 rw [hW4] at p8 hb4
 have h34:=hB.trans (hb4.mono hB.size)
 have hbW4:=Lib.hid (hbW3.out.trans (h34.mono hbW3.out.size))
 have p4w:=Lib.hid (p4'.out.below h34)
 have p5w:=Lib.hid (p5'.out.below h34)
 have hIw:=Lib.hid (IsEx.keeps (Keeps.of_below h34) _ _ hI'.out)
 have p8':=Lib.hid p8
 have hW4':=Lib.hid hW4
 clear hW4 hb4 hB p8 h34 p4' p5' hI'
 go_upto_region 6 with (fail)
 rw [hW4'.out]
 go_wp2_with fail
 refine (hx2.out _ hbW4.out _ _ rfl).mono ?_
 rintro e V4 ⟨⟨a3,c3,a4,c4,rfl,hP⟩,hB⟩
 obtain ⟨W5,hW5⟩:∃ W,(V4.alloc (.cells #[.slice a3 0 c3,.slice a4 2 c4] 38)).alloc (.cells #[.int .i64 0,.int .i64 0] 29)=W:=⟨_,rfl⟩
 obtain ⟨p10,p11,hb5⟩:=two_new V4 #[.slice a3 0 c3,.slice a4 2 c4] #[.int .i64 0,.int .i64 0] 38 29
 rw [hW5] at p10 p11 hb5
 have h45:=hB.trans (hb5.mono hB.size)
 have hbW5:=Lib.hid (hbW4.out.trans (h45.mono hbW4.out.size))
 have p4v:=Lib.hid (p4w.out.below h45)
 have p5v:=Lib.hid (p5w.out.below h45)
 have p8v:=Lib.hid (p8'.out.below h45)
 have hIv:=Lib.hid (IsEx.keeps (Keeps.of_below h45) _ _ hIw.out)
 have hP':=Lib.hid (IsPg.keeps (Keeps.of_below hb5) hP)
 have p10':=Lib.hid p10
 have p11':=Lib.hid p11
 have hW5':=Lib.hid hW5
 clear hW5 hb5 hB p10 p11 h45 p4w p5w p8' hIw hP
 go_upto_region 7 with (fail)
 rw [hW5'.out]
 go_wp2_with fail
 refine (hx3.out _ hbW5.out _ _ rfl).mono ?_
 rintro e V5 ⟨rfl,hB⟩
 obtain ⟨W6,hW6⟩:∃ W,(V5.alloc (.cells #[.slice none 0 0,.slice none 0 0] 38)).alloc (.cells #[.int .i64 1,.int .i64 5] 29)=W:=⟨_,rfl⟩
 obtain ⟨_,p14,hb6⟩:=two_new V5 #[.slice none 0 0,.slice none 0 0] #[.int .i64 1,.int .i64 5] 38 29
 rw [hW6] at p14 hb6
 have h56:=hB.trans (hb6.mono hB.size)
 have hbW6:=Lib.hid (hbW5.out.trans (h56.mono hbW5.out.size))
 have r4:=p4v.out.below h56
 have r5:=Lib.hid (p5v.out.below h56)
 have r8:=Lib.hid (p8v.out.below h56)
 have r10:=Lib.hid (p10'.out.below h56)
 have r11:=Lib.hid (p11'.out.below h56)
 have r14:=Lib.hid p14
 have hI6:=Lib.hid (IsEx.keeps (Keeps.of_below h56) _ _ hIv.out)
 have hP6:=Lib.hid (IsPg.keeps (Keeps.of_below h56) hP'.out)
 have hW6':=Lib.hid hW6
 have e0:W6.cell? ⟨V2.heap.size,0,none⟩=some (.int .i64 9):=(r4.cl 0).trans rfl
 have e1:W6.cell? ⟨V2.heap.size,1,none⟩=some (.string ⟨#[43]⟩):=(r4.cl 1).trans rfl
 have e2:W6.cell? ⟨V2.heap.size,2,none⟩=some (.int .i64 0):=(r4.cl 2).trans rfl
 have e3:W6.cell? ⟨V2.heap.size,3,none⟩=some (.slice a1 0 c1):=(r4.cl 3).trans rfl
 have e4:W6.cell? ⟨V2.heap.size,4,none⟩=some (.slice a2 2 c2):=(r4.cl 4).trans rfl
 have g1:W6.cell? ⟨V4.heap.size,1,none⟩=some (.slice a4 2 c4):=(r10.out.cl 1).trans rfl
 have hpe:=Lib.hid (print_Expr ex61 _ W6 ⟨hI6.out,ht'.out.below hbW6.out⟩ (fun _=>by rw [text61E];simp))
 rw [xpr61.1,xpr61.2] at hpe
 clear hW6 hb6 hB p14 h56 p4v p5v p8v p10' p11' hIv hP' r4
 go_upto_region 8 with (fail)
 rw [hW6'.out]
 go_wp2_with fail
 refine hpe.out.mono ?_
 rintro e V6 ⟨rfl,hB⟩
 have hb66:=Lib.hid hB
 have g0:V6.cell? ⟨V4.heap.size,0,none⟩=some (.slice a3 0 c3):=((r10.out.below hB).cl 0).trans rfl
 have g1':V6.cell? ⟨V4.heap.size,1,none⟩=some (.slice a4 2 c4):=((r10.out.below hB).cl 1).trans rfl
 have hbV6:=Lib.hid (hbW6.out.trans (hB.mono hbW6.out.size))
 have hpp:=Lib.hid (print_Prog pg62 _ V6 (IsPg.keeps (Keeps.of_below hB) hP6.out) (ht'.out.below hbV6.out) (fun _=>by rw [text62P];simp))
 rw [prg62.1,prg62.2] at hpp
 clear hB e0 e1 e2 e3 e4 g1
 go_wp2_with fail
 refine hpp.out.mono ?_
 rintro e V7 ⟨rfl,hB⟩
 have h67:=hb66.out.trans (hB.mono hb66.out.size)
 have s5:=r5.out.below h67
 have s8:=r8.out.below h67
 have s11:=r11.out.below h67
 have s14:=r14.out.below h67
 have x50:V7.cell? ⟨V2.heap.size + 1,0,none⟩=some (.int .i64 0):=(s5.cl 0).trans rfl
 have x51:V7.cell? ⟨V2.heap.size + 1,1,none⟩=some (.int .i64 0):=(s5.cl 1).trans rfl
 have x80:V7.cell? ⟨V3.heap.size + 1,0,none⟩=some (.int .i64 1):=(s8.cl 0).trans rfl
 have x81:V7.cell? ⟨V3.heap.size + 1,1,none⟩=some (.int .i64 5):=(s8.cl 1).trans rfl
 have x110:V7.cell? ⟨V4.heap.size + 1,0,none⟩=some (.int .i64 0):=(s11.cl 0).trans rfl
 have x111:V7.cell? ⟨V4.heap.size + 1,1,none⟩=some (.int .i64 0):=(s11.cl 1).trans rfl
 have x140:V7.cell? ⟨V5.heap.size + 1,0,none⟩=some (.int .i64 1):=(s14.cl 0).trans rfl
 have x141:V7.cell? ⟨V5.heap.size + 1,1,none⟩=some (.int .i64 5):=(s14.cl 1).trans rfl
 have hfin:=Lib.hid (hbV6.out.trans (hB.mono hbV6.out.size))
 have u1:(ByteArray.toList ⟨#[40,102,32,120,41,32,43,32,49]⟩)=[40,102,32,120,41,32,43,32,49]:=by rw [toL];rfl
 have u2:(ByteArray.toList ⟨#[123,32,102,32,61,32,92,120,32,45,62,32,120,32,59,32,103,32,61,32,100,111,32,123,32,102,32,49,32,125,32,125]⟩)=[123,32,102,32,61,32,92,120,32,45,62,32,120,32,59,32,103,32,61,32,100,111,32,123,32,102,32,49,32,125,32,125]:=by rw [toL];rfl
 clear hB h67 s5 s8 s11 s14 g0 g1'
 go_wp2_with fail
 go_ret
 exact ⟨rfl,hfin.out⟩
end Go.Proofs.YtinjocchommbdaaGreatDoor
