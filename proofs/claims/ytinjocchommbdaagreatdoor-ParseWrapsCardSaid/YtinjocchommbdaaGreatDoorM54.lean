/- A part of the proof that parser laws hold: texts of the walk and of its plain laws, made small. -/
import Derived.Test.YtinjocchommbdaaGreatDoorM44
import Derived.Test.YtinjocchommbdaaGreatDoorM49
import Derived.Test.YtinjocchommbdaaGreatDoorM52
import Derived.Test.YtinjocchommbdaaGreatDoorM18
import Derived.Test.YtinjocchommbdaaGreatDoorM28
import Derived.Test.YtinjocchommbdaaGreatDoorM53
set_option linter.unusedVariables false
set_option linter.unusedSimpArgs false
namespace Go.Proofs.YtinjocchommbdaaGreatDoor
open Go.RowKit
def ExA (l:List Tk) (v:Value) (z:Int) (W:World):Prop :=
 (∃ y,exprF l=.ok y∧chkB y=true∧z=0∧IsEx W v y)∨(v=exZ∧(z == 0)=false∧∀ y,exprF l=.ok y→chkB y=false∧z=61)
theorem exz_is (W:World):IsEx W exZ (.mk 0 ⟨#[]⟩ 0 [] []):=IsEx.shut (by decide) (by decide) (by decide) (by decide) (by decide) (.inl rfl) (.inl rfl) ⟨fun _=>rfl,by simp⟩
theorem call_expr (W:World) (v:Value) (l:List Tk) (hv:TkSl W v l) (hl:l.length≤100000) (hf:∀ t ∈ l,TkFit t):Calls Tryz.prog 11 #[v] W fun e W'=>(∃ k s n a1 m1 u1 a2 m2 u2 x y z,e=.returned (.tuple #[.agg #[.int .i64 k,.string s,.int .i64 n,.slice a1 m1 u1,.slice a2 m2 u2],.agg #[.int .i64 x,.int .i64 y],.int .i64 z])∧ExA l (.agg #[.int .i64 k,.string s,.int .i64 n,.slice a1 m1 u1,.slice a2 m2 u2]) z W')∧Below W.heap.size W W':=by
 refine (par_doorE chkB tree_Check W v l hv hl hf).mono ?_
 rintro e W' ⟨h,hB⟩
 refine ⟨?_,hB⟩
 unfold ParR at h
 unfold ExA
 cases hp:exprF l with
 | error p=>rw [hp] at h;exact ⟨_,_,_,_,_,_,_,_,_,_,_,60,h,.inr ⟨rfl,rfl,fun y hy=>(by cases hy)⟩⟩
 | ok y =>
  rw [hp] at h
  simp only at h
  split at h
  ·
   rename_i hc
   obtain ⟨u,rfl,hI⟩:=h
   have hI:=hI.out
   obtain ⟨k,s,n,l,ks⟩:=y
   obtain ⟨a1,c1,a2,c2,rfl,_⟩:=hI.open
   exact ⟨_,_,_,_,_,_,_,_,_,_,_,0,rfl,.inl ⟨_,rfl,hc,rfl,hI⟩⟩
  ·
   rename_i hc
   refine ⟨_,_,_,_,_,_,_,_,_,_,_,61,h,.inr ⟨rfl,rfl,fun y' hy=>?_⟩⟩
   cases hy
   exact ⟨by simpa using hc,rfl⟩
theorem wrap_fit {l:List Tk} (h:∀ t ∈ l,TkFit t):∀ n,∀ t ∈ wrapN l n,TkFit t
 | 0=>h
 | n + 1=>fun t ht=>by
  rw [wrapN,wrapT] at ht
  have hp:TkFit lpT∧TkFit rpT:=by unfold TkFit;decide
  rcases List.mem_cons.1 ht with rfl | ht
  ·
   exact hp.1
  ·
   rcases List.mem_append.1 ht with ht | ht
   ·
    exact wrap_fit h n t ht
   ·
    rw [List.mem_singleton] at ht;rw [ht];exact hp.2
set_option maxHeartbeats 4000000 in
set_option maxRecDepth 100000 in
theorem parseWraps_c (sa:Option Addr) (l:List Tk) (sc n:Nat) (w:World) (hv:TkSl w (.slice sa l.length sc) l) (hx:n≤255) (hin:∀ t ∈ l,TkIn t) (ht:Tab w) (hE:RngOk w) (hM:MaxOk w) :
  Calls Tryz.prog 7 #[.slice sa l.length sc,.int .u8 (n:Int)] w fun r w'=>r=.returned (.bool true)∧Below w.heap.size w w':=by
 have haw:=Lib.hid (awake6 w ht hE hM)
 have hv':=Lib.hid hv
 have ht':=Lib.hid ht
 have hfit:Hid (∀ t ∈ l,TkFit t):=fun t ht=>⟨(hin t ht).2.1,(hin t ht).2.2.1⟩
 clear hv ht hE hM hin
 go_enter Tryz.func7,Tryz.ntmps7
 go_wp2_with fail
 refine haw.out.mono ?_
 rintro e W1 ⟨rfl,hB⟩
 have hb1:=Lib.hid hB
 have hv1:=Lib.hid (hv'.out.keeps (Keeps.of_below hB))
 clear hB hv' haw
 by_cases h2:200 < l.length
 ·
  have q2:(200:Int) < (l.length:Int):=by omega
  go_wp2_with fail
  go_ret
  exact ⟨rfl,hb1.out⟩
 have q2:¬ (200:Int) < (l.length:Int):=by omega
 have hl2:l.length≤200:=by omega
 have hd1:=Lib.hid (call_expr W1 (.slice sa l.length sc) l hv1.out (by omega) hfit.out)
 go_wp2_with fail
 refine hd1.out.mono ?_
 rintro e V1 ⟨⟨ek,es,en,a1,m1,u1,a2,m2,u2,px,py,ez,rfl,hA⟩,hB⟩
 obtain ⟨W2,hW2⟩:∃ W,(V1.alloc (.cells #[.int .i64 ek,.string es,.int .i64 en,.slice a1 m1 u1,.slice a2 m2 u2] 27)).alloc (.cells #[.int .i64 px,.int .i64 py] 29)=W:=⟨_,rfl⟩
 obtain ⟨p6,_,hb2⟩:=two_new V1 #[.int .i64 ek,.string es,.int .i64 en,.slice a1 m1 u1,.slice a2 m2 u2] #[.int .i64 px,.int .i64 py] 27 29
 rw [hW2] at p6 hb2
 have hbb:=hB.trans (hb2.mono hB.size)
 have hb2':=Lib.hid (hb1.out.trans (hbb.mono hb1.out.size))
 have hv2:=Lib.hid (hv1.out.keeps (Keeps.of_below hbb))
 have p6':=Lib.hid p6
 have hkV1:=Lib.hid (Keeps.of_below hb2)
 have hW2':=Lib.hid hW2
 clear hW2 hb2 hB p6 hbb hd1 hv1
 go_upto_region 5 with (fail)
 rw [hW2'.out]
 rcases hA with ⟨y,hy1,hy2,rfl,hI⟩ | ⟨he,hz,_⟩
 case inr =>
  have hek:ek=0:=by
   unfold exZ at he
   simp only [Value.agg.injEq,Array.mk.injEq,List.cons.injEq,Value.int.injEq] at he
   exact he.1.2
  subst hek
  have k0:W2.cell? ⟨V1.heap.size,0,none⟩=some (.int .i64 0):=(p6'.out.cl 0).trans rfl
  have hz':(ez != 0)=true:=by simp only [bne,hz];rfl
  clear hz he
  go_wp2_with fail
  go_ret
  exact ⟨rfl,hb2'.out⟩
 have hI2:=Lib.hid (hI.keeps hkV1.out)
 have hyw:wE y≤400:=by have:=exprF_weight hy1;omega
 have hy1':=Lib.hid hy1
 have hy2':=Lib.hid hy2
 clear hI hy1 hy2
 obtain ⟨W3,hW3⟩:∃ W,(W2.alloc (.cells #[.int .i64 4,.string ⟨#[40]⟩,.int .i64 0,.int .i64 0,.int .i64 0] 51)).alloc (.cells #[.int .i64 4,.string ⟨#[41]⟩,.int .i64 0,.int .i64 0,.int .i64 0] 51)=W:=⟨_,rfl⟩
 obtain ⟨p9,p10,hb3⟩:=two_new W2 #[.int .i64 4,.string ⟨#[40]⟩,.int .i64 0,.int .i64 0,.int .i64 0] #[.int .i64 4,.string ⟨#[41]⟩,.int .i64 0,.int .i64 0,.int .i64 0] 51 51
 rw [hW3] at p9 p10 hb3
 have hb3':=Lib.hid (hb2'.out.trans (hb3.mono hb2'.out.size))
 have hv3:=Lib.hid (hv2.out.keeps (Keeps.of_below hb3))
 have p6w:=Lib.hid (p6'.out.below hb3)
 have hI3:=Lib.hid (hI2.out.keeps (Keeps.of_below hb3))
 have p9':=Lib.hid p9
 have p10':=Lib.hid p10
 have hW3':=Lib.hid hW3
 clear hW3 hb3 p9 p10 hv2 p6' hI2
 go_upto_region 9 with (fail)
 rw [hW3'.out]
 obtain ⟨W4,hW4⟩:∃ W,W3.alloc (.cells #[] 51)=W:=⟨_,rfl⟩
 have hb34:Below W3.heap.size W3 W4:=by rw [←hW4];exact (Below.refl _ _).alloc (Nat.le_refl _) _
 have ho4:W4.ownsRow W3.heap.size 51 5 (.slice (some ⟨W3.heap.size,0,none⟩) ([]:List Tk).length 0) ([]:List Tk).length (tkCs []):=by rw [←hW4];exact own_empty W3 (Nat.le_refl _) _ 5
 obtain ⟨ua,uc,V4,hrun,hown,hgr,_⟩:=tk_app (ts:=l) ho4 (hv3.out.keeps (Keeps.of_below hb34)) (by simp) (by omega) hb34.size
 have hb44:=hb34.grown hgr hb34.size fun q e=>(ownBlock_ge ho4 e).1
 have hin4:=Lib.hid (TkSl.own hown)
 have hb4':=Lib.hid (hb3'.out.trans (hb44.mono hb3'.out.size))
 have p6x:=Lib.hid (p6w.out.below hb44)
 have p9x:=Lib.hid (p9'.out.below hb44)
 have p10x:=Lib.hid (p10'.out.below hb44)
 have hI4:=Lib.hid (hI3.out.keeps (Keeps.of_below hb44))
 have hrun':=Lib.hid hrun
 have hW4':=Lib.hid hW4
 clear hW4 hb34 ho4 hrun hown hgr hb44 hv3 p6w p9' p10' hI3
 go_wp2_with (at_builtin;go_must (rw [hW4'.out];refine wpList_app_run (.tmp 45) (.tmp 46) 22 rfl _ _ _ _ _ rfl rfl rfl hrun'.out ?_))
 obtain ⟨N,hN⟩:∃ N,n % 100=N:=⟨_,rfl⟩
 have hN9:N≤99:=by omega
 have hNi:(n:Int).tmod 100=(N:Int):=by rw [←hN];exact (Int.ofNat_tmod n 100).symm
 clear hN
 have hfw:=Lib.hid (wrap_fit hfit.out)
 rw [show decide ((200:Int) < (l.length:Int))=false from decide_eq_false (by omega)]
 go_loopw [11,12] (fun v i W=>∃ (k:Nat) (va:Option Addr) (vc:Nat),k≤N + 1∧i=.int .i64 k∧v=.slice va (wrapN l k).length vc∧Hid (TkSl W v (wrapN l k))∧Hid (Below V4.heap.size V4 W)) (fun _ i _=>N + 1 - (intOf i).toNat)
 case atStart=>exact ⟨0,ua,uc,by omega,rfl,rfl,hin4.out,Below.refl _ _⟩
 case round =>
  obtain ⟨k,va,vc,hk,rfl,rfl,hin,hn⟩:=hrel
  obtain ⟨Wr,rfl⟩:∃ W,W=wr:=⟨_,rfl⟩
  have hwl:=Lib.hid (wrapN_len l k)
  by_cases h1:k≤N
  ·
   have h1i:(k:Int)≤(N:Int):=by omega
   go_upto_region 13 with (fail)
   have hcp:Hid (Wr.heap.size=Wr.heap.size∧TkSl Wr (.slice va (wrapN l k).length vc) (wrapN l k)∧[lpT].length≤1000000∧(wrapN l k).length≤1000000):=⟨rfl,hin.out,by simp,by have:=hwl.out;omega⟩
   have hlw:Hid ([lpT].length≤1000∧(wrapN l k).length≤1000):=⟨by simp,by have:=hwl.out;omega⟩
   have hst:Hid (∀ Q,Below Wr.heap.size Wr Q→(Q.cell? ⟨W2.heap.size,0,none⟩=some (.int .i64 4)∧Q.cell? ⟨W2.heap.size,1,none⟩=some (.string ⟨#[40]⟩)∧Q.cell? ⟨W2.heap.size,2,none⟩=some (.int .i64 0)∧Q.cell? ⟨W2.heap.size,3,none⟩=some (.int .i64 0)∧Q.cell? ⟨W2.heap.size,4,none⟩=some (.int .i64 0))∧Q.cell? ⟨W2.heap.size + 1,0,none⟩=some (.int .i64 4)∧Q.cell? ⟨W2.heap.size + 1,1,none⟩=some (.string ⟨#[41]⟩)∧Q.cell? ⟨W2.heap.size + 1,2,none⟩=some (.int .i64 0)∧Q.cell? ⟨W2.heap.size + 1,3,none⟩=some (.int .i64 0)∧Q.cell? ⟨W2.heap.size + 1,4,none⟩=some (.int .i64 0)):=fun Q hQ=>by
    have hbQ:=hn.out.trans (hQ.mono hn.out.size)
    have h:=p9x.out.below hbQ
    have h':=p10x.out.below hbQ
    exact ⟨⟨(h.cl 0).trans rfl,(h.cl 1).trans rfl,(h.cl 2).trans rfl,(h.cl 3).trans rfl,(h.cl 4).trans rfl⟩,(h'.cl 0).trans rfl,(h'.cl 1).trans rfl,(h'.cl 2).trans rfl,(h'.cl 3).trans rfl,(h'.cl 4).trans rfl⟩
   refine wp_region_inv (fun f a Vr=>∃ x:Nat→Value,a=⟨#[Value.slice sa l.length sc,Value.int IntKind.u8 ↑n,undef,undef,Value.bool false,Value.bool true,Value.pointer (some { block:=V1.heap.size,off:=0 }),Value.pointer (some { block:=V1.heap.size + 1,off:=0 }),Value.int IntKind.i64 0,Value.pointer (some { block:=W2.heap.size,off:=0 }),Value.pointer (some { block:=W2.heap.size + 1,off:=0 }),x 7,Value.int IntKind.i64 ↑k,undef,undef,undef,undef,undef,undef,undef,undef,undef,undef,undef,Value.bool true,Value.slice sa l.length sc,Value.int IntKind.i64 ↑l.length,Value.bool false,undef,Value.tuple #[Value.agg #[Value.int IntKind.i64 ek,Value.string es,Value.int IntKind.i64 en,Value.slice a1 m1 u1,Value.slice a2 m2 u2],Value.agg #[Value.int IntKind.i64 px,Value.int IntKind.i64 py],Value.int IntKind.i64 0],Value.slice sa l.length sc,Value.tuple #[Value.agg #[Value.int IntKind.i64 ek,Value.string es,Value.int IntKind.i64 en,Value.slice a1 m1 u1,Value.slice a2 m2 u2],Value.agg #[Value.int IntKind.i64 px,Value.int IntKind.i64 py],Value.int IntKind.i64 0],Value.agg #[Value.int IntKind.i64 ek,Value.string es,Value.int IntKind.i64 en,Value.slice a1 m1 u1,Value.slice a2 m2 u2],Value.agg #[Value.int IntKind.i64 px,Value.int IntKind.i64 py],Value.int IntKind.i64 0,Value.int IntKind.i64 0,Value.bool false,undef,undef,undef,undef,undef,undef,Value.agg #[Value.int IntKind.i64 4,Value.string { data:=#[40] },Value.int IntKind.i64 0,Value.int IntKind.i64 0,Value.int IntKind.i64 0],Value.agg #[Value.int IntKind.i64 4,Value.string { data:=#[41] },Value.int IntKind.i64 0,Value.int IntKind.i64 0,Value.int IntKind.i64 0],Value.slice (some { block:=W3.heap.size,off:=0 }) 0 0,Value.slice sa l.length sc,Value.slice ua l.length uc,Value.int IntKind.i64 ↑k,Value.int IntKind.u8 ↑n,Value.int IntKind.u8 ↑N,Value.int IntKind.i64 ↑N,Value.bool true,u53,u54,x 0,x 1,x 2,x 3,x 4,x 5,x 6,undef,undef,undef,undef,undef,undef,undef,undef,undef,undef,undef,undef,undef,undef,undef,undef,undef,undef,undef,undef,undef,undef,undef,undef,undef,undef,undef,undef,undef,undef,undef,undef,undef,undef,undef,undef,undef,undef,undef,undef,undef,undef,undef,undef,undef,undef,undef,undef,undef,undef,undef,undef,undef,undef,undef,undef,undef,undef,undef,undef,undef,undef,undef,undef,undef],[]⟩∧(CpW Wr.heap.size Wr [lpT] (wrapN l k) rpT (f 1) (f 3) (f 5) (f 6) (x 1) (x 3) (x 5) (x 6) Vr)∧(f 7=true→∃ va vc,x 7=.slice va ([lpT] ++ wrapN l k ++ [rpT]).length vc∧Vr.ownsRow Wr.heap.size 51 5 (x 7) ([lpT] ++ wrapN l k ++ [rpT]).length (tkCs ([lpT] ++ wrapN l k ++ [rpT])))∧(Hid (f 7=false→x 7=.slice va (wrapN l k).length vc))∧VO [some (.agg #[.int .i64 4,.string ⟨#[40]⟩,.int .i64 0,.int .i64 0,.int .i64 0]),none,some (.slice va (wrapN l k).length vc),none,some (.agg #[.int .i64 4,.string ⟨#[41]⟩,.int .i64 0,.int .i64 0,.int .i64 0]),none,none,none] f x) (by kernel_rfl) (by kernel_rfl) (rs:=[0,1,2,3,4,5,6,7]) (by kernel_rfl) ?start ?steps ?last
   case start=>exact ⟨fun i=>([u55,u56,u57,u58,u59,u60,u61,Value.slice va (wrapN l k).length vc]:List Value).getD i undef,rfl,CpW.start _ _ _ _ _ _ _ _,by simp,fun _=>rfl,VO.nil _ _⟩
   case steps =>
    refine (KeepsI.cons (ds:=[]) rfl (by kernel_rfl) ?s0 (KeepsI.cons (ds:=[0]) rfl (by kernel_rfl) ?s1 (KeepsI.cons (ds:=[]) rfl (by kernel_rfl) ?s2 (KeepsI.cons (ds:=[1,2]) rfl (by kernel_rfl) ?s3 (KeepsI.cons (ds:=[]) rfl (by kernel_rfl) ?s4 (KeepsI.cons (ds:=[4]) rfl (by kernel_rfl) ?s5 (KeepsI.cons (ds:=[3,5]) rfl (by kernel_rfl) ?s6 (KeepsI.cons (ds:=[6]) rfl (by kernel_rfl) ?s7 KeepsI.nil))))))))
    all_goals (intro f a Vr hf hd hcl hI K' hK;obtain ⟨x,rfl,c0,c1,c2,hx⟩:=hI)
    case s0 =>
     have n1:f 1=false:=by cases h:f 1;rfl;exact absurd (hcl 1 0 (by kernel_rfl) (h)) (by rw [hf];simp)
     have n3:f 3=false:=by cases h:f 3;rfl;exact absurd (hcl 1 0 (by kernel_rfl) (hcl 3 1 (by kernel_rfl) (h))) (by rw [hf];simp)
     have n6:f 6=false:=by cases h:f 6;rfl;exact absurd (hcl 1 0 (by kernel_rfl) (hcl 3 1 (by kernel_rfl) (hcl 6 3 (by kernel_rfl) (h)))) (by rw [hf];simp)
     have n7:f 7=false:=by cases h:f 7;rfl;exact absurd (hcl 1 0 (by kernel_rfl) (hcl 3 1 (by kernel_rfl) (hcl 6 3 (by kernel_rfl) (hcl 7 6 (by kernel_rfl) (h))))) (by rw [hf];simp)
     obtain ⟨⟨d0,d1,d2,d3,d4⟩,d5,d6,d7,d8,d9⟩:=hst.out Vr c0.1.1
     clear n1 n3 n6 n7
     go_simp
     exact hK _ _ ⟨(upd x 0 (.agg #[.int .i64 4,.string ⟨#[40]⟩,.int .i64 0,.int .i64 0,.int .i64 0])),rfl,c0,c1,c2,(hx.set 0 rfl)⟩
    case s1 =>
     have e0:=hx.get 0 rfl (hd 0 (by simp))
     rw [e0]
     clear e0
     have n3:f 3=false:=by cases h:f 3;rfl;exact absurd (hcl 3 1 (by kernel_rfl) (h)) (by rw [hf];simp)
     have n6:f 6=false:=by cases h:f 6;rfl;exact absurd (hcl 3 1 (by kernel_rfl) (hcl 6 3 (by kernel_rfl) (h))) (by rw [hf];simp)
     have n7:f 7=false:=by cases h:f 7;rfl;exact absurd (hcl 3 1 (by kernel_rfl) (hcl 6 3 (by kernel_rfl) (hcl 7 6 (by kernel_rfl) (h)))) (by rw [hf];simp)
     have q:=c0
     rw [hf,n3,n6] at q
     have hs:=q.s1
     clear q
     go_simp
     exact hK _ _ ⟨upd (upd x 0 (.agg #[.int .i64 4,.string ⟨#[40]⟩,.int .i64 0,.int .i64 0,.int .i64 0])) 1 (.slice (some ⟨Vr.heap.size,0,none⟩) 1 1),rfl,by show CpW _ _ _ _ _ true (f 3) (f 5) (f 6) _ _ _ _ _;rw [n3,n6];exact hs,fun h=>absurd (n7.symm.trans h) (by decide),c2,VO.free (hx.put 0 rfl) 1 rfl _⟩
    case s2 =>
     have n3:f 3=false:=by cases h:f 3;rfl;exact absurd (hcl 3 2 (by kernel_rfl) (h)) (by rw [hf];simp)
     have n6:f 6=false:=by cases h:f 6;rfl;exact absurd (hcl 3 2 (by kernel_rfl) (hcl 6 3 (by kernel_rfl) (h))) (by rw [hf];simp)
     have n7:f 7=false:=by cases h:f 7;rfl;exact absurd (hcl 3 2 (by kernel_rfl) (hcl 6 3 (by kernel_rfl) (hcl 7 6 (by kernel_rfl) (h)))) (by rw [hf];simp)
     have e7:=c2.out n7
     rw [e7]
     go_simp
     exact hK _ _ ⟨upd (upd x 7 (.slice va (wrapN l k).length vc)) 2 (.slice va (wrapN l k).length vc),rfl,c0,fun h=>absurd (n7.symm.trans h) (by decide),fun _=>rfl,VO.set (VO.keep hx 7 rfl _) 2 rfl⟩
    case s3 =>
     have e2:=hx.get 2 rfl (hd 2 (by simp))
     rw [e2]
     clear e2
     have n6:f 6=false:=by cases h:f 6;rfl;exact absurd (hcl 6 3 (by kernel_rfl) (h)) (by rw [hf];simp)
     have n7:f 7=false:=by cases h:f 7;rfl;exact absurd (hcl 6 3 (by kernel_rfl) (hcl 7 6 (by kernel_rfl) (h))) (by rw [hf];simp)
     have y1:f 1=true:=hd 1 (by simp)
     have y2:f 2=true:=hd 2 (by simp)
     have q:=c0
     rw [hf,y1,n6] at q
     obtain ⟨va3,vc3,V1x,hrun,hs⟩:=q.s3 hcp.out
     clear q
     refine wanted_run (by rfl) ?_
     refine wp_append_run (.tmp 56) (.tmp 57) 22 _ _ _ _ _ rfl rfl rfl hrun ?_
     exact hK _ _ ⟨upd (upd x 2 (.slice va (wrapN l k).length vc)) 3 (.slice va3 ([lpT] ++ wrapN l k).length vc3),rfl,by show CpW _ _ _ _ _ (f 1) true (f 5) (f 6) _ _ _ _ _;rw [y1,n6];exact hs,fun h=>absurd (n7.symm.trans h) (by decide),c2,VO.free (hx.put 2 rfl) 3 rfl _⟩
    case s4 =>
     have n5:f 5=false:=by cases h:f 5;rfl;exact absurd (hcl 5 4 (by kernel_rfl) (h)) (by rw [hf];simp)
     have n6:f 6=false:=by cases h:f 6;rfl;exact absurd (hcl 5 4 (by kernel_rfl) (hcl 6 5 (by kernel_rfl) (h))) (by rw [hf];simp)
     have n7:f 7=false:=by cases h:f 7;rfl;exact absurd (hcl 5 4 (by kernel_rfl) (hcl 6 5 (by kernel_rfl) (hcl 7 6 (by kernel_rfl) (h)))) (by rw [hf];simp)
     obtain ⟨⟨d0,d1,d2,d3,d4⟩,d5,d6,d7,d8,d9⟩:=hst.out Vr c0.1.1
     clear n5 n6 n7
     go_simp
     exact hK _ _ ⟨(upd x 4 (.agg #[.int .i64 4,.string ⟨#[41]⟩,.int .i64 0,.int .i64 0,.int .i64 0])),rfl,c0,c1,c2,(hx.set 4 rfl)⟩
    case s5 =>
     have e4:=hx.get 4 rfl (hd 4 (by simp))
     rw [e4]
     clear e4
     have n6:f 6=false:=by cases h:f 6;rfl;exact absurd (hcl 6 5 (by kernel_rfl) (h)) (by rw [hf];simp)
     have n7:f 7=false:=by cases h:f 7;rfl;exact absurd (hcl 6 5 (by kernel_rfl) (hcl 7 6 (by kernel_rfl) (h))) (by rw [hf];simp)
     have q:=c0
     rw [hf,n6] at q
     have hs:=q.s5
     clear q
     go_simp
     exact hK _ _ ⟨upd (upd x 4 (.agg #[.int .i64 4,.string ⟨#[41]⟩,.int .i64 0,.int .i64 0,.int .i64 0])) 5 (.slice (some ⟨Vr.heap.size,0,none⟩) 1 1),rfl,by show CpW _ _ _ _ _ (f 1) (f 3) true (f 6) _ _ _ _ _;rw [n6];exact hs,fun h=>absurd (n7.symm.trans h) (by decide),c2,VO.free (hx.put 4 rfl) 5 rfl _⟩
    case s6 =>
     have n7:f 7=false:=by cases h:f 7;rfl;exact absurd (hcl 7 6 (by kernel_rfl) (h)) (by rw [hf];simp)
     have y1:f 1=true:=hcl 3 1 (by kernel_rfl) (hd 3 (by simp))
     have y2:f 2=true:=hcl 3 2 (by kernel_rfl) (hd 3 (by simp))
     have y3:f 3=true:=hd 3 (by simp)
     have y5:f 5=true:=hd 5 (by simp)
     have q:=c0
     rw [hf,y1,y3,y5] at q
     obtain ⟨a3,c3,va6,vc6,V1x,g,e3,e5,hrun,hs⟩:=q.s6 hlw.out
     clear q
     rw [e3,e5] at hs
     rw [e3,e5]
     refine wanted_run (by rfl) ?_
     refine wp_append_run (.tmp 58) (.tmp 60) 22 _ _ _ _ _ rfl rfl rfl hrun ?_
     exact hK _ _ ⟨upd (upd (upd x 3 (.slice a3 ([lpT] ++ wrapN l k).length c3)) 5 (.slice (some ⟨g,0,none⟩) 1 1)) 6 (.slice va6 ([lpT] ++ wrapN l k ++ [rpT]).length vc6),rfl,by show CpW _ _ _ _ _ (f 1) (f 3) (f 5) true _ _ _ _ _;rw [y1,y3,y5];exact hs,fun h=>absurd (n7.symm.trans h) (by decide),c2,VO.free (VO.keep (VO.keep hx 3 rfl _) 5 rfl _) 6 rfl _⟩
    case s7 =>
     have y1:f 1=true:=hcl 3 1 (by kernel_rfl) (hcl 6 3 (by kernel_rfl) (hd 6 (by simp)))
     have y2:f 2=true:=hcl 3 2 (by kernel_rfl) (hcl 6 3 (by kernel_rfl) (hd 6 (by simp)))
     have y3:f 3=true:=hcl 6 3 (by kernel_rfl) (hd 6 (by simp))
     have y5:f 5=true:=hcl 6 5 (by kernel_rfl) (hd 6 (by simp))
     have y6:f 6=true:=hd 6 (by simp)
     go_simp
     have q:=c0
     rw [y6] at q
     obtain ⟨va6,vc6,e6,hown⟩:=q.2.2.2.2 rfl
     exact hK _ _ ⟨upd x 7 (x 6),rfl,c0,fun _=>⟨va6,vc6,e6,hown⟩,fun h=>(by cases h),VO.free hx 7 rfl _⟩
   case last =>
    rintro f a Vr hf ⟨x,rfl,c0,c1,c2,hx⟩
    have q:=c0
    rw [hf 1 (by simp),hf 3 (by simp),hf 5 (by simp),hf 6 (by simp)] at q
    obtain ⟨wa,wc,e6,hown⟩:=c1 (hf 7 (by simp))
    have hbq:=Lib.hid (hn.out.trans (q.1.1.mono hn.out.size))
    rw [e6] at hown ⊢
    have hin6:=Lib.hid (TkSl.own hown)
    obtain ⟨V7,rfl⟩:∃ V,V=Vr:=⟨_,rfl⟩
    clear q c0 c1 c2 hx hst hcp hlw e6 hf hown
    go_wp2_with fail
    go_roundw
    case rel=>exact ⟨k + 1,wa,wc,by omega,by go_num,by rw [wrapN_len,List.length_append,List.length_append,wrapN_len];simp;omega,hin6.out,hbq.out⟩
    case measure=>simp [intOf];omega
  ·
   obtain rfl:k=N + 1:=by omega
   have h1i:¬ ((N + 1:Nat):Int)≤(N:Int):=by omega
   have hex:exprF (wrapN l (N + 1))=.ok y:=exprF_wrapN hy1'.out (N + 1)
   have hd2:=Lib.hid (call_expr Wr (.slice va (wrapN l (N + 1)).length vc) (wrapN l (N + 1)) hin.out (by have:=hwl.out;omega) (hfw.out (N + 1)))
   go_wp2_with fail
   refine hd2.out.mono ?_
   rintro e V5 ⟨⟨fk,fs,fn,b1,n1,d1,b2,n2,d2,qx,qy,fz,rfl,hA⟩,hB⟩
   obtain ⟨rfl,hJ⟩:fz=0∧IsEx V5 (.agg #[.int .i64 fk,.string fs,.int .i64 fn,.slice b1 n1 d1,.slice b2 n2 d2]) y:=by
    rcases hA with ⟨y',h1,_,h3,h4⟩ | ⟨_,_,h⟩
    ·
     rw [hex] at h1;cases h1;exact ⟨h3,h4⟩
    ·
     have:=(h y hex).1;rw [hy2'.out] at this;cases this
   obtain ⟨W6,hW6⟩:∃ W,(V5.alloc (.cells #[.int .i64 fk,.string fs,.int .i64 fn,.slice b1 n1 d1,.slice b2 n2 d2] 27)).alloc (.cells #[.int .i64 qx,.int .i64 qy] 29)=W:=⟨_,rfl⟩
   obtain ⟨p13,_,hb6⟩:=two_new V5 #[.int .i64 fk,.string fs,.int .i64 fn,.slice b1 n1 d1,.slice b2 n2 d2] #[.int .i64 qx,.int .i64 qy] 27 29
   rw [hW6] at p13 hb6
   have hbb:=hB.trans (hb6.mono hB.size)
   have hb66:=hn.out.trans (hbb.mono hn.out.size)
   have hb6':=Lib.hid (hb4'.out.trans (hb66.mono hb4'.out.size))
   have p6y:=Lib.hid (p6x.out.below hb66)
   have hI6:=Lib.hid (hI4.out.keeps (Keeps.of_below hb66))
   have hJ6:=Lib.hid (hJ.keeps (Keeps.of_below hb6))
   have hin6:=hin.out.keeps (Keeps.of_below hbb)
   have p13':=Lib.hid p13
   have hW6':=Lib.hid hW6
   obtain ⟨W7,hW7⟩:∃ W,W6.alloc (.cells #[] 51)=W:=⟨_,rfl⟩
   have hb67:Below W6.heap.size W6 W7:=by rw [←hW7];exact (Below.refl _ _).alloc (Nat.le_refl _) _
   have ho7:W7.ownsRow W6.heap.size 51 5 (.slice (some ⟨W6.heap.size,0,none⟩) ([]:List Tk).length 0) ([]:List Tk).length (tkCs []):=by rw [←hW7];exact own_empty W6 (Nat.le_refl _) _ 5
   obtain ⟨v7,c7,V7,hrun7,hown7,hgr7,_⟩:=tk_app (ts:=wrapN l (N + 1)) ho7 (hin6.keeps (Keeps.of_below hb67)) (by simp) (by have:=hwl.out;omega) hb67.size
   have hb77:=hb67.grown hgr7 hb67.size fun q e=>(ownBlock_ge ho7 e).1
   obtain ⟨v8,c8,V8,hrun8,hown8,hgr8,_⟩:=tk_app (ts:=wrapN l (N + 1)) hown7 (hin6.keeps (Keeps.of_below hb77)) (by have:=hwl.out;rw [List.nil_append];omega) (by have:=hwl.out;omega) hb77.size
   have hb88:=hb77.grown hgr8 hb77.size fun q e=>(ownBlock_ge hown7 e).1
   have hin8:=TkSl.own hown8
   obtain ⟨S7,hS7⟩:∃ S,Value.slice v7 ([] ++ wrapN l (N + 1)).length c7=S:=⟨_,rfl⟩
   obtain ⟨S8,hS8⟩:∃ S,Value.slice v8 ([] ++ wrapN l (N + 1) ++ wrapN l (N + 1)).length c8=S:=⟨_,rfl⟩
   rw [hS7] at hrun7 hrun8
   rw [hS8] at hrun8 hin8
   have htw:exprF ([] ++ wrapN l (N + 1) ++ wrapN l (N + 1))=.ok (.mk 5 ex0 0 [] [y,y]):=exprF_twice hy1'.out N
   have hd3:=Lib.hid (call_expr V8 _ _ hin8 (by have:=hwl.out;simp only [List.nil_append,List.length_append];omega) (fun t ht=>by rw [List.nil_append] at ht;rcases List.mem_append.1 ht with h | h <;> exact hfw.out _ t h))
   have htw':=Lib.hid htw
   have hrun7':=Lib.hid hrun7
   have hrun8':=Lib.hid hrun8
   have hb88':=Lib.hid hb88
   have hW7':=Lib.hid hW7
   clear hS7 hS8 hW6 hb6 hB p13 hbb hb66 hin6 hW7 hb67 ho7 hrun7 hown7 hgr7 hb77 hrun8 hown8 hgr8 hb88 hin8 htw hJ hA hd2 hex
   go_upto_region 15 with (fail)
   rw [hW6'.out]
   go_wp2_with (at_builtin;go_must (first | (rw [hW7'.out];refine wpList_app_run (.tmp 69) (.tmp 70) 22 rfl _ _ _ _ _ rfl rfl rfl hrun7'.out ?_) | refine wpList_app_run (.tmp 71) (.tmp 72) 22 rfl _ _ _ _ _ rfl rfl rfl hrun8'.out ?_))
   refine hd3.out.mono ?_
   rintro e V9 ⟨⟨gk,gs,gn,r1,i1,j1,r2,i2,j2,tx,ty,gz,rfl,hA⟩,hB⟩
   obtain ⟨W10,hW10⟩:∃ W,(V9.alloc (.cells #[.int .i64 gk,.string gs,.int .i64 gn,.slice r1 i1 j1,.slice r2 i2 j2] 27)).alloc (.cells #[.int .i64 tx,.int .i64 ty] 29)=W:=⟨_,rfl⟩
   obtain ⟨p16,_,hb10⟩:=two_new V9 #[.int .i64 gk,.string gs,.int .i64 gn,.slice r1 i1 j1,.slice r2 i2 j2] #[.int .i64 tx,.int .i64 ty] 27 29
   rw [hW10] at p16 hb10
   have hbb:=hb88'.out.trans ((hB.trans (hb10.mono hB.size)).mono hb88'.out.size)
   have hb10':=Lib.hid (hb6'.out.trans (hbb.mono hb6'.out.size))
   have p6z:=p6y.out.below hbb
   have hI10:=hI6.out.keeps (Keeps.of_below hbb)
   have hJ10:=hJ6.out.keeps (Keeps.of_below hbb)
   have p13z:=p13'.out.below hbb
   have hk910:=Keeps.of_below hb10
   obtain ⟨W12,hW12⟩:∃ W,(W10.alloc (.cells #[.int .i64 ek,.string es,.int .i64 en,.slice a1 m1 u1,.slice a2 m2 u2,.int .i64 ek,.string es,.int .i64 en,.slice a1 m1 u1,.slice a2 m2 u2] 27)).alloc (.cells #[.int .i64 5,.string ⟨#[]⟩,.int .i64 0,.slice none 0 0,.slice (some ⟨W10.heap.size,0,none⟩) 2 2] 27)=W:=⟨_,rfl⟩
   obtain ⟨pk,p19,hb12⟩:=two_new W10 #[.int .i64 ek,.string es,.int .i64 en,.slice a1 m1 u1,.slice a2 m2 u2,.int .i64 ek,.string es,.int .i64 en,.slice a1 m1 u1,.slice a2 m2 u2] #[.int .i64 5,.string ⟨#[]⟩,.int .i64 0,.slice none 0 0,.slice (some ⟨W10.heap.size,0,none⟩) 2 2] 27 27
   rw [hW12] at pk p19 hb12
   have hIapp:IsEx W12 (.agg #[.int .i64 5,.string ⟨#[]⟩,.int .i64 0,.slice none 0 0,.slice (some ⟨W10.heap.size,0,none⟩) 2 2]) (.mk 5 ex0 0 [] [y,y]):=by
    have hy:=hI10.keeps (Keeps.of_below hb12)
    refine IsEx.shut (l:=[]) (ks:=[y,y]) (by decide) (by decide) (by decide) (by decide) (show 2≤lenMax by decide) (.inl rfl) (.inr ⟨W10.heap.size,0,rfl,fun i hi=>?_⟩) ⟨fun _=>rfl,Nat.le_refl _⟩
    match i,hi with
    | 0,_=>exact ⟨_,_,_,_,_,(pk.cl 0).trans rfl,(pk.cl 1).trans rfl,(pk.cl 2).trans rfl,(pk.cl 3).trans rfl,(pk.cl 4).trans rfl,hy⟩
    | 1,_=>exact ⟨_,_,_,_,_,(pk.cl 5).trans rfl,(pk.cl 6).trans rfl,(pk.cl 7).trans rfl,(pk.cl 8).trans rfl,(pk.cl 9).trans rfl,hy⟩
   have hnum:=IsEx.numOk _ _ hIapp
   have hpr:=Lib.hid (print_Expr (.mk 5 ex0 0 [] [y,y]) _ W12 ⟨hIapp,ht'.out.below (hb10'.out.trans (hb12.mono hb10'.out.size))⟩ (fun hc=>Nat.le_trans (chk_len hc hnum) (by simp only [wE,wE.wL,List.length_nil];omega)))
   have k0:W10.cell? ⟨V1.heap.size,0,none⟩=some (.int .i64 ek):=(p6z.cl 0).trans rfl
   have k1:W10.cell? ⟨V1.heap.size,1,none⟩=some (.string es):=(p6z.cl 1).trans rfl
   have k2:W10.cell? ⟨V1.heap.size,2,none⟩=some (.int .i64 en):=(p6z.cl 2).trans rfl
   have k3:W10.cell? ⟨V1.heap.size,3,none⟩=some (.slice a1 m1 u1):=(p6z.cl 3).trans rfl
   have k4:W10.cell? ⟨V1.heap.size,4,none⟩=some (.slice a2 m2 u2):=(p6z.cl 4).trans rfl
   have hW10':=Lib.hid hW10
   have hW12':=Lib.hid hW12
   have p6z':=Lib.hid p6z
   have p13z':=Lib.hid p13z
   have p16':=Lib.hid p16
   have p19':=Lib.hid p19
   have hb12':=Lib.hid hb12
   have hk910':=Lib.hid hk910
   have hI10':=Lib.hid hI10
   have hJ10':=Lib.hid hJ10
   clear hW10 hb10 hbb hB p6z hI10 hJ10 p13z hk910 hW12 pk p19 hb12 hIapp hnum p16
   go_upto_region 16 with (fail)
   rw [hW10'.out]
   go_upto_region 17 with (fail)
   rw [hW12'.out]
   clear k0 k1 k2 k3 k4
   have z0:W12.cell? ⟨W10.heap.size + 1,0,none⟩=some (.int .i64 5):=(p19'.out.cl 0).trans rfl
   have z1:W12.cell? ⟨W10.heap.size + 1,1,none⟩=some (.string ⟨#[]⟩):=(p19'.out.cl 1).trans rfl
   have z2:W12.cell? ⟨W10.heap.size + 1,2,none⟩=some (.int .i64 0):=(p19'.out.cl 2).trans rfl
   have z3:W12.cell? ⟨W10.heap.size + 1,3,none⟩=some (.slice none 0 0):=(p19'.out.cl 3).trans rfl
   have z4:W12.cell? ⟨W10.heap.size + 1,4,none⟩=some (.slice (some ⟨W10.heap.size,0,none⟩) 2 2):=(p19'.out.cl 4).trans rfl
   go_wp2_with fail
   refine hpr.out.mono ?_
   rintro e V12 ⟨rfl,hB⟩
   clear z0 z1 z2 z3 z4
   have hbb:=hb12'.out.trans (hB.mono hb12'.out.size)
   have p16v:=p16'.out.below hbb
   have z0:V12.cell? ⟨V9.heap.size,0,none⟩=some (.int .i64 gk):=(p16v.cl 0).trans rfl
   have z1:V12.cell? ⟨V9.heap.size,1,none⟩=some (.string gs):=(p16v.cl 1).trans rfl
   have z2:V12.cell? ⟨V9.heap.size,2,none⟩=some (.int .i64 gn):=(p16v.cl 2).trans rfl
   have z3:V12.cell? ⟨V9.heap.size,3,none⟩=some (.slice r1 i1 j1):=(p16v.cl 3).trans rfl
   have z4:V12.cell? ⟨V9.heap.size,4,none⟩=some (.slice r2 i2 j2):=(p16v.cl 4).trans rfl
   have hbV12:=Lib.hid (hb10'.out.trans (hbb.mono hb10'.out.size))
   have hkV:=Lib.hid (Keeps.of_below hbb)
   have hbb':=Lib.hid hbb
   clear hB p16v hbb hpr
   obtain ⟨B,hBx,hBw,hBe⟩:∃ B,IsEx V9 (.agg #[.int .i64 gk,.string gs,.int .i64 gn,.slice r1 i1 j1,.slice r2 i2 j2]) B∧Hid (wE B≤1000)∧Hid ((gz=0∧B=.mk 5 ex0 0 [] [y,y]∧chkB (.mk 5 ex0 0 [] [y,y])=true)∨(gz=61∧chkB (.mk 5 ex0 0 [] [y,y])=false)):=by
    rcases hA with ⟨y',h1,h2,h3,h4⟩ | ⟨h1,_,h3⟩
    ·
     rw [htw'.out] at h1;cases h1;exact ⟨_,h4,by show wE (.mk 5 ex0 0 [] [y,y])≤1000;simp only [wE,wE.wL,List.length_nil];omega,.inl ⟨h3,rfl,h2⟩⟩
    ·
     have:=h3 _ htw'.out
     rw [h1]
     exact ⟨_,exz_is V9,by show wE (.mk 0 ⟨#[]⟩ 0 [] [])≤1000;simp [wE,wE.wL],.inr ⟨this.2,this.1⟩⟩
   have hBx12:=hBx.keeps (hk910'.out.trans hkV.out)
   have hnum:=IsEx.numOk _ _ hBx
   have hpr2:=Lib.hid (print_Expr B _ V12 ⟨hBx12,ht'.out.below hbV12.out⟩ (fun hc=>Nat.le_trans (chk_len hc hnum) (by have:=hBw.out;omega)))
   clear hA hBx hBx12 hnum
   go_wp2_with fail
   refine hpr2.out.mono ?_
   rintro e V13 ⟨rfl,hB⟩
   clear z0 z1 z2 z3 z4
   have hbz:=hbb'.out.trans (hB.mono hbb'.out.size)
   have pe:=p6z'.out.below hbz
   have pa:=p13z'.out.below hbz
   have hSame:=Lib.hid (r04_Same y y _ _ V13 (hJ10'.out.keeps (Keeps.of_below hbz)) (hI10'.out.keeps (Keeps.of_below hbz)))
   rw [eqB_true rfl] at hSame
   have hbV13:=Lib.hid (hb10'.out.trans (hbz.mono hb10'.out.size))
   have z0:V13.cell? ⟨V5.heap.size,0,none⟩=some (.int .i64 fk):=(pa.cl 0).trans rfl
   have z1:V13.cell? ⟨V5.heap.size,1,none⟩=some (.string fs):=(pa.cl 1).trans rfl
   have z2:V13.cell? ⟨V5.heap.size,2,none⟩=some (.int .i64 fn):=(pa.cl 2).trans rfl
   have z3:V13.cell? ⟨V5.heap.size,3,none⟩=some (.slice b1 n1 d1):=(pa.cl 3).trans rfl
   have z4:V13.cell? ⟨V5.heap.size,4,none⟩=some (.slice b2 n2 d2):=(pa.cl 4).trans rfl
   have k0:V13.cell? ⟨V1.heap.size,0,none⟩=some (.int .i64 ek):=(pe.cl 0).trans rfl
   have k1:V13.cell? ⟨V1.heap.size,1,none⟩=some (.string es):=(pe.cl 1).trans rfl
   have k2:V13.cell? ⟨V1.heap.size,2,none⟩=some (.int .i64 en):=(pe.cl 2).trans rfl
   have k3:V13.cell? ⟨V1.heap.size,3,none⟩=some (.slice a1 m1 u1):=(pe.cl 3).trans rfl
   have k4:V13.cell? ⟨V1.heap.size,4,none⟩=some (.slice a2 m2 u2):=(pe.cl 4).trans rfl
   clear hB hbz pe pa
   rcases hBe.out with ⟨rfl,rfl,hc⟩ | ⟨rfl,hc⟩
   ·
    have hxs:xprN (.mk 5 ex0 0 [] [y,y])=0:=by unfold xprN;rw [if_pos hc]
    rw [hxs]
    clear hc hxs hBe
    go_wp2_with fail
    refine hSame.out.mono ?_
    rintro e V14 ⟨rfl,hB⟩
    have hbf:=Lib.hid (hbV13.out.trans (hB.mono hbV13.out.size))
    clear hB
    go_wp2_with fail
    go_ret
    exact ⟨rfl,hbf.out⟩
   ·
    have hxs:xprN (.mk 5 ex0 0 [] [y,y])=40:=by unfold xprN;rw [if_neg (by rw [hc];simp)]
    rw [hxs]
    clear hc hxs hBe
    go_wp2_with fail
    refine hSame.out.mono ?_
    rintro e V14 ⟨rfl,hB⟩
    have hbf:=Lib.hid (hbV13.out.trans (hB.mono hbV13.out.size))
    clear hB
    go_wp2_with fail
    go_ret
    exact ⟨rfl,hbf.out⟩
end Go.Proofs.YtinjocchommbdaaGreatDoor
