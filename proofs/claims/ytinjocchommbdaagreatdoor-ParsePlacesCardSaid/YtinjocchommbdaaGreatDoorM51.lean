/- A part of the proof that parser laws hold: texts of the walk and of its plain laws, made small. -/
import Derived.Test.YtinjocchommbdaaGreatDoorM44
import Derived.Test.YtinjocchommbdaaGreatDoorM49
import Derived.Test.YtinjocchommbdaaGreatDoorM50
set_option linter.unusedVariables false
set_option linter.unusedSimpArgs false
namespace Go.Proofs.YtinjocchommbdaaGreatDoor
open Go.RowKit
def PlF (l:Bs) (x y n:Int) (W:World) (v:Value):Prop :=
 match lexA l with
 | .bad a b=>x=a∧y=b∧n=20
 | .ok ts=>match layF ts with
  | .bad a b=>x=a∧y=b∧n=30
  | .ok ms=>((n=60∨n=61)∧∃ p,placeT ms p=(x,y))∨(n=0∧x=0∧y=0∧∃ p,progF ms=.ok p∧progB p=true∧IsPg W v p)
theorem txR_pl {B:Nat} {l:Bs} {e:Ending} {W:World} (h:TxR B l e W):∃ a1 m1 c1 a2 m2 c2 x y n,e=.returned (.tuple #[.agg #[.slice a1 m1 c1,.slice a2 m2 c2],.agg #[.int .i64 x,.int .i64 y],.int .i64 n])∧PlF l x y n W (.agg #[.slice a1 m1 c1,.slice a2 m2 c2]):=by
 unfold TxR at h
 unfold PlF
 cases hA:lexA l with
 | bad a b=>rw [hA] at h;exact ⟨_,_,_,_,_,_,a,b,20,h,rfl,rfl,rfl⟩
 | ok ts =>
  rw [hA] at h
  simp only at h ⊢
  cases hL:layF ts with
  | bad a b=>rw [hL] at h;exact ⟨_,_,_,_,_,_,a,b,30,h,rfl,rfl,rfl⟩
  | ok ms =>
   rw [hL] at h
   simp only at h ⊢
   unfold ParR at h
   cases hp:progF ms with
   | error p=>rw [hp] at h;exact ⟨_,_,_,_,_,_,(placeT ms p).1,(placeT ms p).2,60,h,.inl ⟨.inl rfl,p,rfl⟩⟩
   | ok y =>
    rw [hp] at h
    simp only at h
    split at h
    ·
     rename_i hc
     obtain ⟨u,rfl,hI⟩:=h
     obtain ⟨a1,m1,c1,a2,m2,c2,rfl⟩:=pg_agg hI.out
     exact ⟨_,_,_,_,_,_,0,0,0,rfl,.inr ⟨rfl,rfl,rfl,y,rfl,hc,hI.out⟩⟩
    ·
     exact ⟨_,_,_,_,_,_,(placeT ms 0).1,(placeT ms 0).2,61,h,.inl ⟨.inr rfl,0,rfl⟩⟩
def hitB (x y:Int) (t:Tk):Bool:=t.line == x && t.col == y
set_option maxHeartbeats 8000000 in
set_option maxRecDepth 100000 in
theorem parsePlaces_c (sa:Option Addr) (l:Bs) (cap:Nat) (w:World) (hc:l.length≤cap) (hc63:cap≤9223372036854775807) (ha:sa=none→cap=0) (hr:ByteRow w sa l) (ht:Tab w) (hE:RngOk w) (hM:MaxOk w) :
  Calls Tryz.prog 6 #[.slice sa l.length cap] w fun r w'=>r=.returned (.bool true)∧Below w.heap.size w w':=by
 have haw:=Lib.hid (awake6 w ht hE hM)
 have hr':=Lib.hid hr
 have ht':=Lib.hid ht
 have hE':=Lib.hid hE
 have hM':=Lib.hid hM
 clear hr ht hE hM
 go_enter Tryz.func6,Tryz.ntmps6
 go_wp2_with fail
 refine haw.out.mono ?_
 rintro e W1 ⟨rfl,hB⟩
 have hb1:=Lib.hid hB
 have hk1:=Lib.hid (Keeps.of_below hB)
 clear hB
 by_cases h2:2000 < l.length
 ·
  have q2:(2000:Int) < (l.length:Int):=by omega
  go_wp2_with fail
  go_ret
  exact ⟨rfl,hb1.out⟩
 have q2:¬ (2000:Int) < (l.length:Int):=by omega
 have hl2:l.length≤2000:=by omega
 have hd1:=Lib.hid (par_Text sa l cap W1 (by omega) hc hc63 ha (hr'.out.keeps hk1.out) (hE'.out.keeps hk1.out) (hM'.out.keeps hk1.out))
 go_wp2_with fail
 refine hd1.out.mono ?_
 rintro e V1 ⟨hT,hB⟩
 obtain ⟨a1,m1,c1,a2,m2,c2,x,y,n,rfl,hF⟩:=txR_pl hT
 obtain ⟨W2,hW2⟩:∃ W,(V1.alloc (.cells #[.slice a1 m1 c1,.slice a2 m2 c2] 38)).alloc (.cells #[.int .i64 x,.int .i64 y] 29)=W:=⟨_,rfl⟩
 obtain ⟨p4,p5,hb2⟩:=two_new V1 #[.slice a1 m1 c1,.slice a2 m2 c2] #[.int .i64 x,.int .i64 y] 38 29
 rw [hW2] at p4 p5 hb2
 have hk12:=Lib.hid (Keeps.of_below hb2)
 have hbb:=hB.trans (hb2.mono hB.size)
 have hb2':=Lib.hid (hb1.out.trans (hbb.mono hb1.out.size))
 have hk2:=Lib.hid (Keeps.of_below hb2'.out)
 have p4':=Lib.hid p4
 have p5':=Lib.hid p5
 have hF':=Lib.hid hF
 have hW2':=Lib.hid hW2
 have hx:=Lib.hid (lex_Lex sa l cap W2 (by omega) hc hc63 ha (hr'.out.keeps hk2.out) (hE'.out.keeps hk2.out) (hM'.out.keeps hk2.out))
 clear hW2 hb2 hB hT hF p4 p5 hbb
 go_upto_region 5 with (fail)
 rw [hW2'.out]
 go_wp2_with fail
 refine hx.out.mono ?_
 rintro e V2 ⟨hR,hB⟩
 cases hA:lexA l with
 | bad qa qb =>
  rw [hA] at hR
  obtain rfl:e=_:=hR
  have hF2:=hF'.out
  unfold PlF at hF2
  rw [hA] at hF2
  obtain ⟨rfl,rfl,rfl⟩:=hF2
  obtain ⟨W3,hW3⟩:∃ W,V2.alloc (.cells #[.int .i64 x,.int .i64 y] 29)=W:=⟨_,rfl⟩
  have p8:Blk W3 V2.heap.size (.cells #[.int .i64 x,.int .i64 y] 29 (0,0)):=by rw [←hW3];exact Blk.new
  have hb3:Below V2.heap.size V2 W3:=by rw [←hW3];exact (Below.refl _ _).alloc (Nat.le_refl _) _
  have hbb:=hB.trans (hb3.mono hB.size)
  have p5w:=p5'.out.below hbb
  have hbw:=Lib.hid (hb2'.out.trans (hbb.mono hb2'.out.size))
  have z0:W3.cell? ⟨V2.heap.size,0,none⟩=some (.int .i64 x):=(p8.cl 0).trans rfl
  have z1:W3.cell? ⟨V2.heap.size,1,none⟩=some (.int .i64 y):=(p8.cl 1).trans rfl
  have y0:W3.cell? ⟨V1.heap.size + 1,0,none⟩=some (.int .i64 x):=(p5w.cl 0).trans rfl
  have y1:W3.cell? ⟨V1.heap.size + 1,1,none⟩=some (.int .i64 y):=(p5w.cl 1).trans rfl
  have hW3':=Lib.hid hW3
  clear hW3 p8 hb3 hbb p5w hB hA hF'
  go_upto_region 6 with (fail)
  rw [hW3'.out]
  go_wp2_with fail
  go_ret
  exact ⟨rfl,hbw.out⟩
 | ok ts =>
  rw [hA] at hR
  obtain ⟨v,rfl,hv⟩:=hR
  obtain ⟨at0,ct,rfl⟩:=hv.open
  have hfit:=lex_fit (show lexF 1 1 0 l=.ok ts from hA)
  obtain ⟨W3,hW3⟩:∃ W,V2.alloc (.cells #[.int .i64 0,.int .i64 0] 29)=W:=⟨_,rfl⟩
  have hb3:Below V2.heap.size V2 W3:=by rw [←hW3];exact (Below.refl _ _).alloc (Nat.le_refl _) _
  have hbb:=hB.trans (hb3.mono hB.size)
  have p4w:=Lib.hid (p4'.out.below hbb)
  have p5w:=Lib.hid (p5'.out.below hbb)
  have hk23:=Lib.hid (hk12.out.trans (Keeps.of_below hbb))
  have hb3':=Lib.hid (hb2'.out.trans (hbb.mono hb2'.out.size))
  have hv3:=Lib.hid (hv.keeps (Keeps.of_below hb3))
  have hly:Hid _:=Lib.hid (lay_Layout at0 ts ct W3 hfit.1 (by obtain ⟨a',c',e,⟨g1,g2⟩,g3⟩:=hv3.out;cases e;exact g2) (by obtain ⟨a',c',e,⟨g1,g2⟩,g3⟩:=hv3.out;cases e;exact g1) (by obtain ⟨a',c',e,⟨g1,g2⟩,g3⟩:=hv3.out;cases e;exact g3))
  have hA':=Lib.hid hA
  have hts:=hfit.1
  have hW3':=Lib.hid hW3
  clear hW3 hb3 hbb hB hA hv hfit
  go_upto_region 6 with (fail)
  rw [hW3'.out]
  go_wp2_with fail
  refine hly.out.mono ?_
  rintro e V3 ⟨hR,hB⟩
  cases hL:layF ts with
  | bad qa qb =>
   rw [hL] at hR
   obtain rfl:e=_:=hR
   have hF2:=hF'.out
   unfold PlF at hF2
   rw [hA'.out] at hF2
   simp only at hF2
   rw [hL] at hF2
   obtain ⟨rfl,rfl,rfl⟩:=hF2
   obtain ⟨W4,hW4⟩:∃ W,V3.alloc (.cells #[.int .i64 x,.int .i64 y] 29)=W:=⟨_,rfl⟩
   have p8:Blk W4 V3.heap.size (.cells #[.int .i64 x,.int .i64 y] 29 (0,0)):=by rw [←hW4];exact Blk.new
   have hb4:Below V3.heap.size V3 W4:=by rw [←hW4];exact (Below.refl _ _).alloc (Nat.le_refl _) _
   have hbb:=hB.trans (hb4.mono hB.size)
   have p5x:=p5w.out.below hbb
   have hbw:=Lib.hid (hb3'.out.trans (hbb.mono hb3'.out.size))
   have z0:W4.cell? ⟨V3.heap.size,0,none⟩=some (.int .i64 x):=(p8.cl 0).trans rfl
   have z1:W4.cell? ⟨V3.heap.size,1,none⟩=some (.int .i64 y):=(p8.cl 1).trans rfl
   have y0:W4.cell? ⟨V1.heap.size + 1,0,none⟩=some (.int .i64 x):=(p5x.cl 0).trans rfl
   have y1:W4.cell? ⟨V1.heap.size + 1,1,none⟩=some (.int .i64 y):=(p5x.cl 1).trans rfl
   have hW4':=Lib.hid hW4
   clear hW4 p8 hb4 hbb p5x hB hL hF'
   go_upto_region 9 with (fail)
   rw [hW4'.out]
   go_wp2_with fail
   go_ret
   exact ⟨rfl,hbw.out⟩
  | ok ms =>
   rw [hL] at hR
   obtain ⟨v,rfl,hv⟩:=hR
   obtain ⟨am,cm,rfl⟩:=hv.open
   have hF2:=hF'.out
   unfold PlF at hF2
   rw [hA'.out] at hF2
   simp only at hF2
   rw [hL] at hF2
   simp only at hF2
   obtain ⟨W4,hW4⟩:∃ W,V3.alloc (.cells #[.int .i64 0,.int .i64 0] 29)=W:=⟨_,rfl⟩
   have hb4:Below V3.heap.size V3 W4:=by rw [←hW4];exact (Below.refl _ _).alloc (Nat.le_refl _) _
   have hbb:=hB.trans (hb4.mono hB.size)
   have p4x:=Lib.hid (p4w.out.below hbb)
   have p5x:=Lib.hid (p5w.out.below hbb)
   have hk4:=Lib.hid (hk23.out.trans (Keeps.of_below hbb))
   have hb4':=Lib.hid (hb3'.out.trans (hbb.mono hb3'.out.size))
   have hv4:=Lib.hid (hv3.out.keeps (Keeps.of_below hbb))
   have hms:=lay_max6 hL
   have hL':=Lib.hid hL
   have hW4':=Lib.hid hW4
   clear hW4 hb4 hbb hB hL hv hF'
   go_upto_region 9 with (fail)
   rw [hW4'.out]
   rcases hF2 with ⟨hn,p,hp⟩ | ⟨rfl,rfl,rfl,p,hp1,hp2,hp3⟩
   ·
    have y0:W4.cell? ⟨V1.heap.size + 1,0,none⟩=some (.int .i64 x):=(p5x.out.cl 0).trans rfl
    have y1:W4.cell? ⟨V1.heap.size + 1,1,none⟩=some (.int .i64 y):=(p5x.out.cl 1).trans rfl
    have n0:(n == (0:Int))=false:=beq_eq_false_iff_ne.2 (by omega)
    have hn6:((n == (60:Int)) || (n == (61:Int)))=true:=by rcases hn with rfl | rfl <;> rfl
    have hn':=Lib.hid hn
    have hhit:=place_hit hL'.out p
    rw [hp] at hhit
    simp only at hhit
    clear hn
    obtain ⟨b0,hb0⟩:∃ b,decide (ts=[])=b:=⟨_,rfl⟩
    have hstart:Hid (b0=true→x=0∧y=0):=fun h=>by
     rw [←hb0] at h
     have h:=of_decide_eq_true h
     rcases hhit with ⟨_,h2⟩ | ⟨t,h2,_⟩
     ·
      simp only [Prod.mk.injEq] at h2;exact h2
     ·
      rw [h] at h2;simp at h2
    have hend:Hid ((b0 || ts.any (hitB x y))=true):=by
     unfold Hid
     rw [←hb0]
     rcases hhit with ⟨h1,_⟩ | ⟨t,h1,h2,h3⟩
     ·
      simp [h1]
     ·
      have:ts.any (hitB x y)=true:=List.any_eq_true.2 ⟨t,h1,by simp [hitB,h2,h3]⟩
      rw [this,Bool.or_true]
    have hlen:((ts.length:Int) == 0)=b0:=by
     rw [←hb0]
     cases ts with
     | nil=>rfl
     | cons t r=>simp;omega
    have hb0':=Lib.hid hb0
    clear hb0 hhit
    go_upto_region 14 with (fail)
    go_cut [15] from 83 to 90 (fun s U=>s=.bool b0∧Hid (Below W4.heap.size W4 U))
    case first =>
     cases b0
     ·
      go_wp2_with fail
      go_meet
      case rel=>exact ⟨rfl,Below.refl _ _⟩
     ·
      obtain ⟨rfl,rfl⟩:=hstart.out rfl
      go_wp2_with fail
      go_meet
      case rel=>exact ⟨rfl,Below.refl _ _⟩
    case rest =>
     obtain ⟨rfl,hU⟩:=hcut
     clear y0 y1
     go_wp2_with fail
     go_loopw [15,16] (fun f i W=>∃ k:Nat,k≤ts.length∧i=.int .i64 k∧f=.bool (b0 || (ts.take k).any (hitB x y))∧Hid (Below W4.heap.size W4 W)) (fun _ i _=>ts.length - (intOf i).toNat)
     case atStart=>exact ⟨0,by omega,rfl,by simp,hU.out⟩
     case round =>
      obtain ⟨k,hk,rfl,rfl,hn⟩:=hrel
      obtain ⟨Wr,rfl⟩:∃ W,W=wr:=⟨_,rfl⟩
      by_cases h1:k < ts.length
      ·
       have h1i:(k:Int) < (ts.length:Int):=by omega
       obtain ⟨b,off,rfl,hcT⟩:=(hv4.out.keeps (Keeps.of_below hn.out)).at.2.2.at (by rintro rfl;simp at h1)
       obtain ⟨_,_,_,g3,g4⟩:=hcT k h1
       have pr:=p5x.out.below hn.out
       have y0:Wr.cell? ⟨V1.heap.size + 1,0,none⟩=some (.int .i64 x):=(pr.cl 0).trans rfl
       have y1:Wr.cell? ⟨V1.heap.size + 1,1,none⟩=some (.int .i64 y):=(pr.cl 1).trans rfl
       have hs:(b0 || (ts.take (k + 1)).any (hitB x y))=((b0 || (ts.take k).any (hitB x y)) || hitB x y ts[k]):=by
        rw [List.take_succ_eq_append_getElem h1,List.any_append,Bool.or_assoc]
        simp
       obtain ⟨fb,hfb⟩:∃ f,(b0 || (ts.take k).any (hitB x y))=f:=⟨_,rfl⟩
       rw [hfb] at hs ⊢
       clear hcT pr hfb
       cases fb
       ·
        by_cases e1:ts[k].line=x
        ·
         by_cases e2:ts[k].col=y
         ·
          have hnx:Hid ((b0 || (ts.take (k + 1)).any (hitB x y))=true):=by unfold Hid;rw [hs];simp [hitB,e1,e2]
          have t1:(ts[k].line == x)=true:=beq_iff_eq.2 e1
          have t2:(ts[k].col == y)=true:=beq_iff_eq.2 e2
          clear hs e1 e2
          go_wp2_with fail
          go_quiet (fail)
          go_wp2_with fail
          go_roundw
          case rel=>exact ⟨k + 1,by omega,by go_num,by rw [hnx.out],by first | exact below_drewN' hn.out _ | exact below_drewN' (below_drewN' hn.out _) _⟩
          case measure=>simp [intOf];omega
         ·
          have hnx:Hid ((b0 || (ts.take (k + 1)).any (hitB x y))=false):=by unfold Hid;rw [hs];simp [hitB,e1,e2]
          have t1:(ts[k].line == x)=true:=beq_iff_eq.2 e1
          have t2:(ts[k].col == y)=false:=beq_eq_false_iff_ne.2 e2
          clear hs e1 e2
          go_wp2_with fail
          go_quiet (fail)
          go_wp2_with fail
          go_roundw
          case rel=>exact ⟨k + 1,by omega,by go_num,by rw [hnx.out],by first | exact below_drewN' hn.out _ | exact below_drewN' (below_drewN' hn.out _) _⟩
          case measure=>simp [intOf];omega
        ·
         have hnx:Hid ((b0 || (ts.take (k + 1)).any (hitB x y))=false):=by unfold Hid;rw [hs];simp [hitB,e1]
         have t1:(ts[k].line == x)=false:=beq_eq_false_iff_ne.2 e1
         clear hs e1
         go_wp2_with fail
         go_quiet (fail)
         go_wp2_with fail
         go_roundw
         case rel=>exact ⟨k + 1,by omega,by go_num,by rw [hnx.out],by first | exact below_drewN' hn.out _ | exact below_drewN' (below_drewN' hn.out _) _⟩
         case measure=>simp [intOf];omega
       ·
        have hnx:Hid ((b0 || (ts.take (k + 1)).any (hitB x y))=true):=by unfold Hid;rw [hs];rfl
        clear hs
        go_wp2_with fail
        go_quiet (fail)
        go_wp2_with fail
        go_roundw
        case rel=>exact ⟨k + 1,by omega,by go_num,by rw [hnx.out],by first | exact below_drewN' hn.out _ | exact below_drewN' (below_drewN' hn.out _) _⟩
        case measure=>simp [intOf];omega
      ·
       obtain rfl:k=ts.length:=by omega
       have h1i:¬ (ts.length:Int) < (ts.length:Int):=by omega
       have hf:(b0 || (ts.take ts.length).any (hitB x y))=true:=by rw [List.take_length];exact hend.out
       rw [hf]
       have hbf:=Lib.hid (hb4'.out.trans (hn.out.mono hb4'.out.size))
       clear hf
       rcases hn'.out with rfl | rfl
       ·
        go_wp2_with fail
        go_ret
        exact ⟨rfl,hbf.out⟩
       ·
        go_wp2_with fail
        go_ret
        exact ⟨rfl,hbf.out⟩
   ·
    have y0:W4.cell? ⟨V1.heap.size + 1,0,none⟩=some (.int .i64 0):=(p5x.out.cl 0).trans rfl
    have y1:W4.cell? ⟨V1.heap.size + 1,1,none⟩=some (.int .i64 0):=(p5x.out.cl 1).trans rfl
    have x0:W4.cell? ⟨V1.heap.size,0,none⟩=some (.slice a1 m1 c1):=(p4x.out.cl 0).trans rfl
    have x1:W4.cell? ⟨V1.heap.size,1,none⟩=some (.slice a2 m2 c2):=(p4x.out.cl 1).trans rfl
    have hpp:=Lib.hid (print_Prog p _ W4 (IsPg.keeps hk4.out (IsPg.keeps (Keeps.refl _) hp3)) (ht'.out.below hb4'.out) (fun hc=>prog_len6 hp1 (by omega) hc (pg_num hp3)))
    have hN:prgN p=0:=by unfold prgN;rw [if_pos hp2]
    rw [hN] at hpp
    have p5y:=Lib.hid p5x.out
    clear hN hp1 hp2 hp3
    go_wp2_with fail
    refine hpp.out.mono ?_
    rintro e V4 ⟨rfl,hB⟩
    have hbf:=Lib.hid (hb4'.out.trans (hB.mono hb4'.out.size))
    have p5z:=p5y.out.below hB
    clear y0 y1
    have y0:V4.cell? ⟨V1.heap.size + 1,0,none⟩=some (.int .i64 0):=(p5z.cl 0).trans rfl
    have y1:V4.cell? ⟨V1.heap.size + 1,1,none⟩=some (.int .i64 0):=(p5z.cl 1).trans rfl
    clear p5z hB
    go_wp2_with fail
    go_ret
    exact ⟨rfl,hbf.out⟩
end Go.Proofs.YtinjocchommbdaaGreatDoor
