/- A part of the proof that parser laws hold: texts of the walk and of its plain laws, made small. -/
import Derived.Test.YtinjocchommbdaaGreatDoorM44
import Derived.Test.YtinjocchommbdaaGreatDoorM18
import Derived.Test.YtinjocchommbdaaGreatDoorM07
import Derived.Test.YtinjocchommbdaaGreatDoorM10
import Derived.Test.YtinjocchommbdaaGreatDoorM28
import Derived.Test.YtinjocchommbdaaGreatDoorM46
set_option linter.unusedVariables false
set_option linter.unusedSimpArgs false
namespace Go.Proofs.YtinjocchommbdaaGreatDoor
open Go.RowKit
theorem tkIn_fit {t:Tk} (h:TkIn t):TkFit t:=⟨h.2.1,h.2.2.1⟩
def PgA (l:List Tk):(Int × Int) × Int:=match progF l with
 | .error p=>(placeT l p,60)
 | .ok y=>if progB y=true then ((0,0),0) else (placeT l 0,61)
theorem call_prog (W:World) (v:Value) (l:List Tk) (hv:TkSl W v l) (hl:l.length≤100000) (hf:∀ t ∈ l,TkFit t):Calls Tryz.prog 14 #[v] W fun e W'=>(∃ a1 m1 c1 a2 m2 c2,e=.returned (.tuple #[.agg #[.slice a1 m1 c1,.slice a2 m2 c2],.agg #[.int .i64 (PgA l).1.1,.int .i64 (PgA l).1.2],.int .i64 (PgA l).2]))∧Below W.heap.size W W':=by
 refine (par_doorP progB tree_Prog W v l hv hl hf).mono ?_
 rintro e W' ⟨h,hB⟩
 refine ⟨?_,hB⟩
 unfold ParR at h
 unfold PgA
 cases hp:progF l with
 | error p=>rw [hp] at h;exact ⟨_,_,_,_,_,_,h⟩
 | ok y =>
  rw [hp] at h
  simp only at h ⊢
  split at h
  ·
   rename_i hc
   rw [if_pos hc]
   obtain ⟨u,rfl,hI⟩:=h
   obtain ⟨a1,m1,c1,a2,m2,c2,rfl⟩:=pg_agg hI.out
   exact ⟨_,_,_,_,_,_,rfl⟩
  ·
   rename_i hc
   rw [if_neg hc]
   exact ⟨_,_,_,_,_,_,h⟩
theorem pgA_zero {l:List Tk} (h:(PgA l).2=0):∃ y,progF l=.ok y:=by
 unfold PgA at h
 cases hp:progF l with
 | error p=>rw [hp] at h;simp at h
 | ok y=>exact ⟨y,rfl⟩
theorem pre_end (l:List Tk) (m:Nat) (hm:m < l.length):placeT (l.take (m + 1)) (m + 1)=((tkAt l m).line,(tkAt l m).col):=by
 have hlen:(l.take (m + 1)).length=m + 1:=by rw [List.length_take];omega
 unfold placeT
 rw [if_neg (by intro h;rw [h] at hlen;simp at hlen),hlen,show min (m + 1) (m + 1 - 1)=m by omega]
 have:tkAt (l.take (m + 1)) m=tkAt l m:=by unfold tkAt;simp [List.getD,List.getElem?_take]
 rw [this]
theorem place_more (l:List Tk) (more:Tk):placeT (l ++ [more]) l.length=(more.line,more.col):=by
 unfold placeT
 rw [if_neg (by simp),List.length_append,List.length_singleton,show min l.length (l.length + 1 - 1)=l.length by omega]
 have:tkAt (l ++ [more]) l.length=more:=by unfold tkAt;simp [List.getD]
 rw [this]
theorem prefix_says {l:List Tk} (more:Tk) {k:Nat} (hk:k < l.length) (h:(PgA l).2=0):PgA (l.take k)=(placeT (l.take k) k,60)∧PgA (l ++ [more])=((more.line,more.col),60):=by
 obtain ⟨y,hy⟩:=pgA_zero h
 unfold PgA
 rw [progF_pre hy hk,progF_more hy more]
 simp only [place_more,and_self]
def PgT (q:(Int × Int) × Int) (v:Value):Prop:=∃ a1 m1 c1 a2 m2 c2,v=.tuple #[.agg #[.slice a1 m1 c1,.slice a2 m2 c2],.agg #[.int .i64 q.1.1,.int .i64 q.1.2],.int .i64 q.2]
def AgT (v:Value):Prop:=∃ a1 m1 c1 a2 m2 c2,v=.agg #[.slice a1 m1 c1,.slice a2 m2 c2]
theorem bx_set {B0:Nat} {T U:TypeId} {cs ds:Array Value} {x u0 u1:Value} {V:World} {g:Nat} (h:Bx B0 T cs x V) (hg:V.heap[g]?=some (.cells ds U (0,0))) (hT:T≠U):Bx B0 T cs x ((V.setCell ⟨g,0,none⟩ u0).setCell ⟨g,1,none⟩ u1):=by
 obtain ⟨k,e,hk,hh⟩:=h
 have hne:k≠g:=by
  rintro rfl
  rw [hg] at hh
  exact hT (by injection (Option.some.inj hh) with _ h2;exact h2.symm)
 exact ⟨k,e,hk,(heap_set _ _ _ _ _ hne).trans ((heap_set _ _ _ _ _ hne).trans hh)⟩
set_option maxHeartbeats 8000000 in
set_option maxRecDepth 100000 in
theorem parsePrefixes_c (sa:Option Addr) (l:List Tk) (sc:Nat) (cu:Nat) (more:Tk) (w:World) (hv:TkSl w (.slice sa l.length sc) l) (hx:cu≤65535) (hin:∀ t ∈ l,TkIn t) (hmore:TkIn more) (ht:Tab w) (hE:RngOk w) (hM:MaxOk w) :
  Calls Tryz.prog 8 #[.slice sa l.length sc,.int .u16 (cu:Int),.agg #[.int .i64 more.kind,.string (tS more.text),.int .i64 more.num,.int .i64 more.line,.int .i64 more.col]] w fun r w'=>r=.returned (.bool true)∧Below w.heap.size w w':=by
 obtain ⟨W1,hW1⟩:∃ V,w.alloc (.cells #[.int .i64 more.kind,.string (tS more.text),.int .i64 more.num,.int .i64 more.line,.int .i64 more.col] 51)=V:=⟨_,rfl⟩
 have hb1:Below w.heap.size w W1:=by rw [←hW1];exact (Below.refl _ _).alloc (Nat.le_refl _) _
 have hz1:W1.heap.size=w.heap.size + 1:=by rw [←hW1];simp
 have hx1:Blk W1 w.heap.size (.cells #[.int .i64 more.kind,.string (tS more.text),.int .i64 more.num,.int .i64 more.line,.int .i64 more.col] 51 (0,0)):=by rw [←hW1];exact Blk.new
 have hk1:=Keeps.of_below hb1
 have haw:=Lib.hid (awake6 W1 (ht.below hb1) (hE.keeps hk1) (hM.keeps hk1))
 have hv1:=Lib.hid (hv.keeps hk1)
 have hx1':=Lib.hid hx1
 have hb1':=Lib.hid hb1
 have hz1':=Lib.hid hz1
 have hW1':=Lib.hid hW1
 have hfit:=Lib.hid (fun t ht=>tkIn_fit (hin t ht))
 have hin':=Lib.hid hin
 have hmf:=Lib.hid (tkIn_fit hmore)
 clear hW1 hb1 hz1 hx1 hk1 hv ht hE hM hin
 go_enter Tryz.func8,Tryz.ntmps8
 go_upto_region 1 with (fail)
 rw [hW1'.out]
 go_wp2_with fail
 refine haw.out.mono ?_
 rintro e W2 ⟨rfl,hB⟩
 have hb2:=Lib.hid (hb1'.out.trans (hB.mono hb1'.out.size))
 have hv2:=Lib.hid (hv1.out.keeps (Keeps.of_below hB))
 have hx2:=Lib.hid (hx1'.out.below hB)
 have hz2:Hid (w.heap.size + 1≤W2.heap.size):=by have:=hB.size;have:=hz1'.out;unfold Hid;omega
 clear hB
 by_cases h0:l.length=0
 ·
  have q0:((l.length:Int) == 0)=true:=by simp [h0]
  go_wp2_with fail
  go_ret
  exact ⟨rfl,hb2.out⟩
 have q0:((l.length:Int) == 0)=false:=beq_eq_false_iff_ne.2 (by omega)
 by_cases h3:300 < l.length
 ·
  have q3:(300:Int) < (l.length:Int):=by omega
  go_wp2_with fail
  go_ret
  exact ⟨rfl,hb2.out⟩
 have q3:¬ (300:Int) < (l.length:Int):=by omega
 have hd1:=Lib.hid (call_prog W2 (.slice sa l.length sc) l hv2.out (by omega) hfit.out)
 go_wp2_with fail
 refine hd1.out.mono ?_
 rintro e V2 ⟨⟨a1,m1,u1,a2,m2,u2,rfl⟩,hB⟩
 obtain ⟨W3,hW3⟩:∃ W,(V2.alloc (.cells #[.slice a1 m1 u1,.slice a2 m2 u2] 38)).alloc (.cells #[.int .i64 (PgA l).1.1,.int .i64 (PgA l).1.2] 29)=W:=⟨_,rfl⟩
 obtain ⟨_,_,hb3⟩:=two_new V2 #[.slice a1 m1 u1,.slice a2 m2 u2] #[.int .i64 (PgA l).1.1,.int .i64 (PgA l).1.2] 38 29
 rw [hW3] at hb3
 have h23:=hB.trans (hb3.mono hB.size)
 have hb33:=Lib.hid (hb2.out.trans (h23.mono hb2.out.size))
 have hv3:=Lib.hid (hv2.out.keeps (Keeps.of_below h23))
 have hx3:=Lib.hid (hx2.out.below h23)
 have hz3:Hid (w.heap.size + 1≤W3.heap.size):=by have:=h23.size;have:=hz2.out;unfold Hid;omega
 obtain ⟨k,hk⟩:∃ k,cu % l.length=k:=⟨_,rfl⟩
 have hkl:k < l.length:=by rw [←hk];exact Nat.mod_lt _ (by omega)
 have hlk:(l.take k).length=k:=by rw [List.length_take];omega
 have hmod:((cu:Int).tmod (l.length:Int))=(k:Int):=by rw [←hk];exact (Int.ofNat_tmod _ _).symm
 have hd2:Hid _:=Lib.hid (call_prog W3 (.slice sa k sc) (l.take k) (by
  obtain ⟨a',c',e,⟨g1,g2⟩,g3⟩:=hv3.out
  cases e
  exact ⟨sa,sc,by rw [hlk],⟨g1,by rw [hlk];omega⟩,g3.take k⟩) (by rw [hlk];omega) (fun t ht=>hfit.out t (List.mem_of_mem_take ht)))
 have hW3':=Lib.hid hW3
 have hk':=Lib.hid hk
 have hcl:l.length≤sc:=by obtain ⟨a',c',e,⟨g1,g2⟩,g3⟩:=hv3.out;cases e;exact g2
 clear hW3 hb3 h23 hB hk
 go_upto_region 5 with (fail)
 rw [hW3'.out]
 go_wp2_with fail
 refine hd2.out.mono ?_
 rintro e V3 ⟨⟨a3,m3,u3,a4,m4,u4,rfl⟩,hB⟩
 obtain ⟨p1,hp1⟩:∃ p,(PgA l).1.1=p:=⟨_,rfl⟩
 obtain ⟨p2,hp2⟩:∃ p,(PgA l).1.2=p:=⟨_,rfl⟩
 obtain ⟨p3,hp3⟩:∃ p,(PgA l).2=p:=⟨_,rfl⟩
 obtain ⟨r1,hr1⟩:∃ p,(PgA (l.take k)).1.1=p:=⟨_,rfl⟩
 obtain ⟨r2,hr2⟩:∃ p,(PgA (l.take k)).1.2=p:=⟨_,rfl⟩
 obtain ⟨r3,hr3⟩:∃ p,(PgA (l.take k)).2=p:=⟨_,rfl⟩
 rw [hp1,hp2,hp3,hr1,hr2,hr3]
 have hp1':=Lib.hid hp1
 have hp2':=Lib.hid hp2
 have hp3':=Lib.hid hp3
 have hr1':=Lib.hid hr1
 have hr2':=Lib.hid hr2
 have hr3':=Lib.hid hr3
 obtain ⟨W4,hW4⟩:∃ W,(V3.alloc (.cells #[.slice a3 m3 u3,.slice a4 m4 u4] 38)).alloc (.cells #[.int .i64 r1,.int .i64 r2] 29)=W:=⟨_,rfl⟩
 obtain ⟨_,px4,hb4⟩:=two_new V3 #[.slice a3 m3 u3,.slice a4 m4 u4] #[.int .i64 r1,.int .i64 r2] 38 29
 rw [hW4] at hb4 px4
 have h34:=hB.trans (hb4.mono hB.size)
 have hb44:=Lib.hid (hb33.out.trans (h34.mono hb33.out.size))
 have hv4:=Lib.hid (hv3.out.keeps (Keeps.of_below h34))
 have hx4:=Lib.hid (hx3.out.below h34)
 have hz4:Hid (w.heap.size + 1≤W4.heap.size):=by have:=h34.size;have:=hz3.out;unfold Hid;omega
 have px4':=Lib.hid px4
 have hW4':=Lib.hid hW4
 clear hW4 hb4 h34 hB px4 hp1 hp2 hp3 hr1 hr2 hr3
 go_upto_region 6 with (fail)
 rw [hW4'.out,show decide ((300:Int) < (l.length:Int))=false from decide_eq_false (by omega)]
 obtain ⟨s1,hs1⟩:∃ p,(PgA (l ++ [more])).1.1=p:=⟨_,rfl⟩
 obtain ⟨s2,hs2⟩:∃ p,(PgA (l ++ [more])).1.2=p:=⟨_,rfl⟩
 obtain ⟨s3,hs3⟩:∃ p,(PgA (l ++ [more])).2=p:=⟨_,rfl⟩
 have hcp:Hid ((W4.heap.size=W4.heap.size∧TkSl W4 (.slice sa l.length sc) l)∧l.length≤1000000):=⟨⟨rfl,hv4.out⟩,by omega⟩
 have hcall:Hid (∀ Q,Below W4.heap.size W4 Q→∀ va vc,Q.ownsRow W4.heap.size 51 5 (.slice va (l.length + 1) vc) (l.length + 1) (tkCs (l ++ [more]))→Calls Tryz.prog 14 #[.slice va (l.length + 1) vc] Q fun e V'=>(∃ a1 m1 c1 a2 m2 c2,e=.returned (.tuple #[.agg #[.slice a1 m1 c1,.slice a2 m2 c2],.agg #[.int .i64 s1,.int .i64 s2],.int .i64 s3]))∧Below Q.heap.size Q V'):=fun Q hQ va vc hown=>by
  have hlen:(l ++ [more]).length=l.length + 1:=by simp
  have:=call_prog Q (.slice va (l.length + 1) vc) (l ++ [more]) (by rw [←hlen];exact TkSl.own (by rw [hlen];exact hown)) (by rw [hlen];omega) (fun t ht=>by rcases List.mem_append.1 ht with h | h;exact hfit.out t h;simp at h;rw [h];exact hmf.out)
  rw [hs1,hs2,hs3] at this
  exact this
 have hst:Hid (∀ Q,Below W4.heap.size W4 Q→Q.cell? ⟨w.heap.size,0,none⟩=some (.int .i64 more.kind)∧Q.cell? ⟨w.heap.size,1,none⟩=some (.string (tS more.text))∧Q.cell? ⟨w.heap.size,2,none⟩=some (.int .i64 more.num)∧Q.cell? ⟨w.heap.size,3,none⟩=some (.int .i64 more.line)∧Q.cell? ⟨w.heap.size,4,none⟩=some (.int .i64 more.col)):=fun Q hQ=>by
  have h:=hx4.out.below hQ
  exact ⟨(h.cl 0).trans rfl,(h.cl 1).trans rfl,(h.cl 2).trans rfl,(h.cl 3).trans rfl,(h.cl 4).trans rfl⟩
 have hs1':=Lib.hid hs1
 have hs2':=Lib.hid hs2
 have hs3':=Lib.hid hs3
 clear hs1 hs2 hs3
 refine wp_region_inv (fun f a Vr=>∃ x:Nat→Value,a=⟨#[Value.slice sa l.length sc,Value.int IntKind.u16 ↑cu,Value.agg #[Value.int IntKind.i64 more.kind,Value.string (tS more.text),Value.int IntKind.i64 more.num,Value.int IntKind.i64 more.line,Value.int IntKind.i64 more.col],undef,undef,Value.pointer (some { block:=w.heap.size,off:=0 }),Value.bool false,Value.bool true,Value.pointer (some { block:=V2.heap.size,off:=0 }),Value.pointer (some { block:=V2.heap.size + 1,off:=0 }),Value.int IntKind.i64 p3,Value.pointer (some { block:=V3.heap.size,off:=0 }),Value.pointer (some { block:=V3.heap.size + 1,off:=0 }),Value.int IntKind.i64 r3,x 11,x 12,x 15,undef,Value.bool true,Value.slice sa l.length sc,Value.int IntKind.i64 ↑l.length,Value.bool false,Value.bool false,Value.slice sa l.length sc,Value.int IntKind.i64 ↑l.length,Value.bool false,Value.bool false,undef,Value.tuple #[Value.agg #[Value.slice a1 m1 u1,Value.slice a2 m2 u2],Value.agg #[Value.int IntKind.i64 p1,Value.int IntKind.i64 p2],Value.int IntKind.i64 p3],Value.slice sa l.length sc,Value.tuple #[Value.agg #[Value.slice a1 m1 u1,Value.slice a2 m2 u2],Value.agg #[Value.int IntKind.i64 p1,Value.int IntKind.i64 p2],Value.int IntKind.i64 p3],Value.agg #[Value.slice a1 m1 u1,Value.slice a2 m2 u2],Value.agg #[Value.int IntKind.i64 p1,Value.int IntKind.i64 p2],Value.int IntKind.i64 p3,Value.tuple #[Value.agg #[Value.slice a3 m3 u3,Value.slice a4 m4 u4],Value.agg #[Value.int IntKind.i64 r1,Value.int IntKind.i64 r2],Value.int IntKind.i64 r3],Value.slice sa l.length sc,Value.int IntKind.u16 ↑cu,Value.int IntKind.i64 ↑cu,Value.slice sa l.length sc,Value.int IntKind.i64 ↑l.length,Value.int IntKind.i64 ↑k,Value.slice sa k sc,Value.tuple #[Value.agg #[Value.slice a3 m3 u3,Value.slice a4 m4 u4],Value.agg #[Value.int IntKind.i64 r1,Value.int IntKind.i64 r2],Value.int IntKind.i64 r3],Value.agg #[Value.slice a3 m3 u3,Value.slice a4 m4 u4],Value.agg #[Value.int IntKind.i64 r1,Value.int IntKind.i64 r2],Value.int IntKind.i64 r3,x 7,x 0,x 1,x 2,x 3,x 4,x 5,x 6,x 8,x 9,x 10,undef,undef,undef,undef,undef,undef,undef,undef,undef,undef,undef,undef,undef,undef,undef,undef,undef,undef,undef,undef,undef,undef,undef,undef,undef,undef,undef,undef,undef,undef,undef,undef,undef,undef,undef,undef,undef,undef,undef,undef,undef,undef,undef,undef,undef,undef,undef,undef,undef,undef,undef,undef,undef,undef,undef],[]⟩∧(CpC W4.heap.size W4 l more (f 0) (f 2) (f 4) (f 5) (f 13) (x 0) (x 2) (x 4) (x 5) Vr)∧(f 11=true→f 13=false→Bx W4.heap.size 38 #[.slice none 0 0,.slice none 0 0] (x 11) Vr)∧(f 12=true→f 14=false→Bx W4.heap.size 29 #[.int .i64 0,.int .i64 0] (x 12) Vr)∧(f 6=true→PgT ((s1,s2),s3) (x 6))∧(f 7=true→PgT ((s1,s2),s3) (x 7))∧(f 8=true→AgT (x 8))∧(f 13=true→f 14=false→Below W4.heap.size W4 Vr)∧(f 14=true→Below W4.heap.size W4 Vr∧Bx W4.heap.size 29 #[.int .i64 s1,.int .i64 s2] (x 12) Vr)∧VO [none,some (.slice sa l.length sc),none,some (.agg #[.int .i64 more.kind,.string (tS more.text),.int .i64 more.num,.int .i64 more.line,.int .i64 more.col]),none,none,none,none,none,some (.agg #[.int .i64 s1,.int .i64 s2]),some (.int .i64 s3),none,none,none,none,some (.int .i64 s3)] f x) (by kernel_rfl) (by kernel_rfl) (rs:=[0,1,2,3,4,5,6,7,8,9,10,11,12,13,14,15]) (by kernel_rfl) ?start ?steps ?last
 case start=>exact ⟨fun i=>([undef,undef,undef,undef,undef,undef,undef,undef,undef,undef,undef,undef,undef,undef,undef,undef]:List Value).getD i undef,rfl,CpC.start _ _ _ _ _ _ _,by simp,by simp,by simp,by simp,by simp,by simp,by simp,VO.nil _ _⟩
 case steps =>
  refine (KeepsI.cons (ds:=[]) rfl (by kernel_rfl) ?s0 (KeepsI.cons (ds:=[]) rfl (by kernel_rfl) ?s1 (KeepsI.cons (ds:=[0,1]) rfl (by kernel_rfl) ?s2 (KeepsI.cons (ds:=[]) rfl (by kernel_rfl) ?s3 (KeepsI.cons (ds:=[3]) rfl (by kernel_rfl) ?s4 (KeepsI.cons (ds:=[2,4]) rfl (by kernel_rfl) ?s5 (KeepsI.cons (ds:=[5]) rfl (by kernel_rfl) ?s6 (KeepsI.cons (ds:=[6]) rfl (by kernel_rfl) ?s7 (KeepsI.cons (ds:=[7]) rfl (by kernel_rfl) ?s8 (KeepsI.cons (ds:=[7]) rfl (by kernel_rfl) ?s9 (KeepsI.cons (ds:=[7]) rfl (by kernel_rfl) ?s10 (KeepsI.cons (ds:=[]) rfl (by kernel_rfl) ?s11 (KeepsI.cons (ds:=[]) rfl (by kernel_rfl) ?s12 (KeepsI.cons (ds:=[11,8,12]) rfl (by kernel_rfl) ?s13 (KeepsI.cons (ds:=[12,9,13]) rfl (by kernel_rfl) ?s14 (KeepsI.cons (ds:=[10]) rfl (by kernel_rfl) ?s15 KeepsI.nil))))))))))))))))
  all_goals (intro f a Vr hf hd hcl hI K' hK;obtain ⟨x,rfl,c0,c1,c2,c3,c4,c5,c6,c7,hx⟩:=hI)
  case s0 =>
   have n2:f 2=false:=by cases h:f 2;rfl;exact absurd (hcl 2 0 (by kernel_rfl) (h)) (by rw [hf];simp)
   have n5:f 5=false:=by cases h:f 5;rfl;exact absurd (hcl 2 0 (by kernel_rfl) (hcl 5 2 (by kernel_rfl) (h))) (by rw [hf];simp)
   have n6:f 6=false:=by cases h:f 6;rfl;exact absurd (hcl 2 0 (by kernel_rfl) (hcl 5 2 (by kernel_rfl) (hcl 6 5 (by kernel_rfl) (h)))) (by rw [hf];simp)
   have n7:f 7=false:=by cases h:f 7;rfl;exact absurd (hcl 2 0 (by kernel_rfl) (hcl 5 2 (by kernel_rfl) (hcl 6 5 (by kernel_rfl) (hcl 7 6 (by kernel_rfl) (h))))) (by rw [hf];simp)
   have n8:f 8=false:=by cases h:f 8;rfl;exact absurd (hcl 2 0 (by kernel_rfl) (hcl 5 2 (by kernel_rfl) (hcl 6 5 (by kernel_rfl) (hcl 7 6 (by kernel_rfl) (hcl 8 7 (by kernel_rfl) (h)))))) (by rw [hf];simp)
   have n13:f 13=false:=by cases h:f 13;rfl;exact absurd (hcl 2 0 (by kernel_rfl) (hcl 5 2 (by kernel_rfl) (hcl 6 5 (by kernel_rfl) (hcl 7 6 (by kernel_rfl) (hcl 8 7 (by kernel_rfl) (hcl 13 8 (by kernel_rfl) (h))))))) (by rw [hf];simp)
   have n14:f 14=false:=by cases h:f 14;rfl;exact absurd (hcl 2 0 (by kernel_rfl) (hcl 5 2 (by kernel_rfl) (hcl 6 5 (by kernel_rfl) (hcl 7 6 (by kernel_rfl) (hcl 9 7 (by kernel_rfl) (hcl 14 9 (by kernel_rfl) (h))))))) (by rw [hf];simp)
   have q:=c0
   rw [hf,n2,n5,n13] at q
   have hs:=q.s0
   clear q
   have hal:Below Vr.heap.size Vr (Vr.alloc (.cells #[] 51)):=(Below.refl _ _).alloc (Nat.le_refl _) _
   go_simp
   exact hK _ _ ⟨upd x 0 (.slice (some ⟨Vr.heap.size,0,none⟩) 0 0),rfl,by show CpC _ _ _ _ true (f 2) (f 4) (f 5) (f 13) _ _ _ _ _;rw [n2,n5,n13];exact hs,fun h1 h2=>(c1 h1 h2).any hal,fun h1 h2=>(c2 h1 h2).any hal,c3,c4,c5,fun h=>absurd (n13.symm.trans h) (by decide),fun h=>absurd (n14.symm.trans h) (by decide),VO.free hx 0 rfl _⟩
  case s1 =>
   go_simp
   exact hK _ _ ⟨(upd x 1 (.slice sa l.length sc)),rfl,c0,c1,c2,c3,c4,c5,c6,c7,(hx.set 1 rfl)⟩
  case s2 =>
   have e1:=hx.get 1 rfl (hd 1 (by simp))
   rw [e1]
   clear e1
   have n5:f 5=false:=by cases h:f 5;rfl;exact absurd (hcl 5 2 (by kernel_rfl) (h)) (by rw [hf];simp)
   have n6:f 6=false:=by cases h:f 6;rfl;exact absurd (hcl 5 2 (by kernel_rfl) (hcl 6 5 (by kernel_rfl) (h))) (by rw [hf];simp)
   have n7:f 7=false:=by cases h:f 7;rfl;exact absurd (hcl 5 2 (by kernel_rfl) (hcl 6 5 (by kernel_rfl) (hcl 7 6 (by kernel_rfl) (h)))) (by rw [hf];simp)
   have n8:f 8=false:=by cases h:f 8;rfl;exact absurd (hcl 5 2 (by kernel_rfl) (hcl 6 5 (by kernel_rfl) (hcl 7 6 (by kernel_rfl) (hcl 8 7 (by kernel_rfl) (h))))) (by rw [hf];simp)
   have n13:f 13=false:=by cases h:f 13;rfl;exact absurd (hcl 5 2 (by kernel_rfl) (hcl 6 5 (by kernel_rfl) (hcl 7 6 (by kernel_rfl) (hcl 8 7 (by kernel_rfl) (hcl 13 8 (by kernel_rfl) (h)))))) (by rw [hf];simp)
   have n14:f 14=false:=by cases h:f 14;rfl;exact absurd (hcl 5 2 (by kernel_rfl) (hcl 6 5 (by kernel_rfl) (hcl 7 6 (by kernel_rfl) (hcl 9 7 (by kernel_rfl) (hcl 14 9 (by kernel_rfl) (h)))))) (by rw [hf];simp)
   have y0:f 0=true:=hd 0 (by simp)
   have q:=c0
   rw [hf,y0,n5,n13] at q
   obtain ⟨va,vc,V1,hrun,hs,hkt⟩:=q.s3k hcp.out.1 hcp.out.2
   clear q
   refine wanted_run (by rfl) ?_
   refine wp_append_run (.tmp 47) (.tmp 48) 22 _ _ _ _ _ rfl rfl rfl hrun ?_
   exact hK _ _ ⟨upd (upd x 1 (.slice sa l.length sc)) 2 (.slice va l.length vc),rfl,by show CpC _ _ _ _ (f 0) true (f 4) (f 5) (f 13) _ _ _ _ _;rw [y0,n5,n13];exact hs,fun h1 h2=>(c1 h1 h2).keep (by decide) hkt,fun h1 h2=>(c2 h1 h2).keep (by decide) hkt,c3,c4,c5,fun h=>absurd (n13.symm.trans h) (by decide),fun h=>absurd (n14.symm.trans h) (by decide),VO.free (hx.put 1 rfl) 2 rfl _⟩
  case s3 =>
   have n4:f 4=false:=by cases h:f 4;rfl;exact absurd (hcl 4 3 (by kernel_rfl) (h)) (by rw [hf];simp)
   have n5:f 5=false:=by cases h:f 5;rfl;exact absurd (hcl 4 3 (by kernel_rfl) (hcl 5 4 (by kernel_rfl) (h))) (by rw [hf];simp)
   have n6:f 6=false:=by cases h:f 6;rfl;exact absurd (hcl 4 3 (by kernel_rfl) (hcl 5 4 (by kernel_rfl) (hcl 6 5 (by kernel_rfl) (h)))) (by rw [hf];simp)
   have n7:f 7=false:=by cases h:f 7;rfl;exact absurd (hcl 4 3 (by kernel_rfl) (hcl 5 4 (by kernel_rfl) (hcl 6 5 (by kernel_rfl) (hcl 7 6 (by kernel_rfl) (h))))) (by rw [hf];simp)
   have n8:f 8=false:=by cases h:f 8;rfl;exact absurd (hcl 4 3 (by kernel_rfl) (hcl 5 4 (by kernel_rfl) (hcl 6 5 (by kernel_rfl) (hcl 7 6 (by kernel_rfl) (hcl 8 7 (by kernel_rfl) (h)))))) (by rw [hf];simp)
   have n13:f 13=false:=by cases h:f 13;rfl;exact absurd (hcl 4 3 (by kernel_rfl) (hcl 5 4 (by kernel_rfl) (hcl 6 5 (by kernel_rfl) (hcl 7 6 (by kernel_rfl) (hcl 8 7 (by kernel_rfl) (hcl 13 8 (by kernel_rfl) (h))))))) (by rw [hf];simp)
   have n14:f 14=false:=by cases h:f 14;rfl;exact absurd (hcl 4 3 (by kernel_rfl) (hcl 5 4 (by kernel_rfl) (hcl 6 5 (by kernel_rfl) (hcl 7 6 (by kernel_rfl) (hcl 9 7 (by kernel_rfl) (hcl 14 9 (by kernel_rfl) (h))))))) (by rw [hf];simp)
   have hb:=(c0.1 n13).1
   obtain ⟨d0,d1,d2,d3,d4⟩:=hst.out Vr hb
   clear hb
   clear n4 n5 n6 n7 n8 n13 n14
   go_simp
   exact hK _ _ ⟨(upd x 3 (.agg #[.int .i64 more.kind,.string (tS more.text),.int .i64 more.num,.int .i64 more.line,.int .i64 more.col])),rfl,c0,c1,c2,c3,c4,c5,c6,c7,(hx.set 3 rfl)⟩
  case s4 =>
   have e3:=hx.get 3 rfl (hd 3 (by simp))
   rw [e3]
   clear e3
   have n5:f 5=false:=by cases h:f 5;rfl;exact absurd (hcl 5 4 (by kernel_rfl) (h)) (by rw [hf];simp)
   have n6:f 6=false:=by cases h:f 6;rfl;exact absurd (hcl 5 4 (by kernel_rfl) (hcl 6 5 (by kernel_rfl) (h))) (by rw [hf];simp)
   have n7:f 7=false:=by cases h:f 7;rfl;exact absurd (hcl 5 4 (by kernel_rfl) (hcl 6 5 (by kernel_rfl) (hcl 7 6 (by kernel_rfl) (h)))) (by rw [hf];simp)
   have n8:f 8=false:=by cases h:f 8;rfl;exact absurd (hcl 5 4 (by kernel_rfl) (hcl 6 5 (by kernel_rfl) (hcl 7 6 (by kernel_rfl) (hcl 8 7 (by kernel_rfl) (h))))) (by rw [hf];simp)
   have n13:f 13=false:=by cases h:f 13;rfl;exact absurd (hcl 5 4 (by kernel_rfl) (hcl 6 5 (by kernel_rfl) (hcl 7 6 (by kernel_rfl) (hcl 8 7 (by kernel_rfl) (hcl 13 8 (by kernel_rfl) (h)))))) (by rw [hf];simp)
   have n14:f 14=false:=by cases h:f 14;rfl;exact absurd (hcl 5 4 (by kernel_rfl) (hcl 6 5 (by kernel_rfl) (hcl 7 6 (by kernel_rfl) (hcl 9 7 (by kernel_rfl) (hcl 14 9 (by kernel_rfl) (h)))))) (by rw [hf];simp)
   have q:=c0
   rw [hf,n5,n13] at q
   have hs:=q.s10
   clear q
   have hal:Below Vr.heap.size Vr (Vr.alloc (.cells (tkC more).toArray 51)):=(Below.refl _ _).alloc (Nat.le_refl _) _
   go_simp
   exact hK _ _ ⟨upd (upd x 3 (.agg #[.int .i64 more.kind,.string (tS more.text),.int .i64 more.num,.int .i64 more.line,.int .i64 more.col])) 4 (.slice (some ⟨Vr.heap.size,0,none⟩) 1 1),rfl,by show CpC _ _ _ _ (f 0) (f 2) true (f 5) (f 13) _ _ _ _ _;rw [n5,n13];exact hs,fun h1 h2=>(c1 h1 h2).any hal,fun h1 h2=>(c2 h1 h2).any hal,c3,c4,c5,fun h=>absurd (n13.symm.trans h) (by decide),fun h=>absurd (n14.symm.trans h) (by decide),VO.free (hx.put 3 rfl) 4 rfl _⟩
  case s5 =>
   have n6:f 6=false:=by cases h:f 6;rfl;exact absurd (hcl 6 5 (by kernel_rfl) (h)) (by rw [hf];simp)
   have n7:f 7=false:=by cases h:f 7;rfl;exact absurd (hcl 6 5 (by kernel_rfl) (hcl 7 6 (by kernel_rfl) (h))) (by rw [hf];simp)
   have n8:f 8=false:=by cases h:f 8;rfl;exact absurd (hcl 6 5 (by kernel_rfl) (hcl 7 6 (by kernel_rfl) (hcl 8 7 (by kernel_rfl) (h)))) (by rw [hf];simp)
   have n13:f 13=false:=by cases h:f 13;rfl;exact absurd (hcl 6 5 (by kernel_rfl) (hcl 7 6 (by kernel_rfl) (hcl 8 7 (by kernel_rfl) (hcl 13 8 (by kernel_rfl) (h))))) (by rw [hf];simp)
   have n14:f 14=false:=by cases h:f 14;rfl;exact absurd (hcl 6 5 (by kernel_rfl) (hcl 7 6 (by kernel_rfl) (hcl 9 7 (by kernel_rfl) (hcl 14 9 (by kernel_rfl) (h))))) (by rw [hf];simp)
   have y0:f 0=true:=hcl 2 0 (by kernel_rfl) (hd 2 (by simp))
   have y2:f 2=true:=hd 2 (by simp)
   have y4:f 4=true:=hd 4 (by simp)
   have q:=c0
   rw [hf,y0,y2,y4,n13] at q
   obtain ⟨va,vc,V1,g,eg,hrun,hs,hkt⟩:=q.s11k hcp.out.2
   clear q
   rw [eg]
   refine wanted_run (by rfl) ?_
   refine wp_append_run (.tmp 49) (.tmp 51) 22 _ _ _ _ _ rfl rfl rfl hrun ?_
   exact hK _ _ ⟨upd (upd x 4 (.slice (some ⟨g,0,none⟩) 1 1)) 5 (.slice va (l.length + 1) vc),rfl,by show CpC _ _ _ _ (f 0) (f 2) (f 4) true (f 13) _ _ _ _ _;rw [y0,y2,y4,n13];rw [eg] at hs;exact hs,fun h1 h2=>(c1 h1 h2).keep (by decide) hkt,fun h1 h2=>(c2 h1 h2).keep (by decide) hkt,c3,c4,c5,fun h=>absurd (n13.symm.trans h) (by decide),fun h=>absurd (n14.symm.trans h) (by decide),VO.free (VO.keep hx 4 rfl _) 5 rfl _⟩
  case s6 =>
   have n7:f 7=false:=by cases h:f 7;rfl;exact absurd (hcl 7 6 (by kernel_rfl) (h)) (by rw [hf];simp)
   have n8:f 8=false:=by cases h:f 8;rfl;exact absurd (hcl 7 6 (by kernel_rfl) (hcl 8 7 (by kernel_rfl) (h))) (by rw [hf];simp)
   have n13:f 13=false:=by cases h:f 13;rfl;exact absurd (hcl 7 6 (by kernel_rfl) (hcl 8 7 (by kernel_rfl) (hcl 13 8 (by kernel_rfl) (h)))) (by rw [hf];simp)
   have n14:f 14=false:=by cases h:f 14;rfl;exact absurd (hcl 7 6 (by kernel_rfl) (hcl 9 7 (by kernel_rfl) (hcl 14 9 (by kernel_rfl) (h)))) (by rw [hf];simp)
   have y0:f 0=true:=hcl 2 0 (by kernel_rfl) (hcl 5 2 (by kernel_rfl) (hd 5 (by simp)))
   have y2:f 2=true:=hcl 5 2 (by kernel_rfl) (hd 5 (by simp))
   have y4:f 4=true:=hcl 5 4 (by kernel_rfl) (hd 5 (by simp))
   have y5:f 5=true:=hd 5 (by simp)
   have q:=c0
   rw [n13] at q
   obtain ⟨hb,_⟩:=q.1 rfl
   obtain ⟨va,vc,e11,hown⟩:=q.2.2.2.2 y5 rfl
   rw [e11] at hown q
   rw [e11]
   have hcl6:=Lib.hid (hcall.out Vr hb va vc hown)
   go_simp
   refine hcl6.out.mono ?_
   rintro e V1 ⟨⟨b1,n1,d1,b2,n2,d2,rfl⟩,hal⟩
   exact hK _ _ ⟨upd (upd x 5 (.slice va (l.length + 1) vc)) 6 (.tuple #[.agg #[.slice b1 n1 d1,.slice b2 n2 d2],.agg #[.int .i64 s1,.int .i64 s2],.int .i64 s3]),rfl,by show CpC _ _ _ _ (f 0) (f 2) (f 4) (f 5) (f 13) _ _ _ _ _;rw [n13];exact q.any hal,fun h1 h2=>(c1 h1 h2).any hal,fun h1 h2=>(c2 h1 h2).any hal,fun _=>⟨b1,n1,d1,b2,n2,d2,rfl⟩,c4,c5,fun h=>absurd (n13.symm.trans h) (by decide),fun h=>absurd (n14.symm.trans h) (by decide),VO.free (VO.keep hx 5 rfl _) 6 rfl _⟩
  case s7 =>
   have n8:f 8=false:=by cases h:f 8;rfl;exact absurd (hcl 8 7 (by kernel_rfl) (h)) (by rw [hf];simp)
   have n13:f 13=false:=by cases h:f 13;rfl;exact absurd (hcl 8 7 (by kernel_rfl) (hcl 13 8 (by kernel_rfl) (h))) (by rw [hf];simp)
   have n14:f 14=false:=by cases h:f 14;rfl;exact absurd (hcl 9 7 (by kernel_rfl) (hcl 14 9 (by kernel_rfl) (h))) (by rw [hf];simp)
   have y0:f 0=true:=hcl 2 0 (by kernel_rfl) (hcl 5 2 (by kernel_rfl) (hcl 6 5 (by kernel_rfl) (hd 6 (by simp))))
   have y2:f 2=true:=hcl 5 2 (by kernel_rfl) (hcl 6 5 (by kernel_rfl) (hd 6 (by simp)))
   have y4:f 4=true:=hcl 5 4 (by kernel_rfl) (hcl 6 5 (by kernel_rfl) (hd 6 (by simp)))
   have y5:f 5=true:=hcl 6 5 (by kernel_rfl) (hd 6 (by simp))
   have y6:f 6=true:=hd 6 (by simp)
   obtain ⟨b1,n1,d1,b2,n2,d2,e6⟩:=c3 (hd 6 (by simp))
   rw [e6]
   skip
   go_simp
   exact hK _ _ ⟨upd (upd x 6 (.tuple #[.agg #[.slice b1 n1 d1,.slice b2 n2 d2],.agg #[.int .i64 s1,.int .i64 s2],.int .i64 s3])) 7 (.tuple #[.agg #[.slice b1 n1 d1,.slice b2 n2 d2],.agg #[.int .i64 s1,.int .i64 s2],.int .i64 s3]),rfl,c0,c1,c2,fun _=>⟨b1,n1,d1,b2,n2,d2,rfl⟩,fun _=>⟨b1,n1,d1,b2,n2,d2,rfl⟩,c5,c6,c7,VO.free (VO.keep hx 6 rfl _) 7 rfl _⟩
  case s8 =>
   have n13:f 13=false:=by cases h:f 13;rfl;exact absurd (hcl 13 8 (by kernel_rfl) (h)) (by rw [hf];simp)
   have n14:f 14=false:=by cases h:f 14;rfl;exact absurd (hcl 13 8 (by kernel_rfl) (hcl 14 13 (by kernel_rfl) (h))) (by rw [hf];simp)
   have y0:f 0=true:=hcl 2 0 (by kernel_rfl) (hcl 5 2 (by kernel_rfl) (hcl 6 5 (by kernel_rfl) (hcl 7 6 (by kernel_rfl) (hd 7 (by simp)))))
   have y2:f 2=true:=hcl 5 2 (by kernel_rfl) (hcl 6 5 (by kernel_rfl) (hcl 7 6 (by kernel_rfl) (hd 7 (by simp))))
   have y4:f 4=true:=hcl 5 4 (by kernel_rfl) (hcl 6 5 (by kernel_rfl) (hcl 7 6 (by kernel_rfl) (hd 7 (by simp))))
   have y5:f 5=true:=hcl 6 5 (by kernel_rfl) (hcl 7 6 (by kernel_rfl) (hd 7 (by simp)))
   have y6:f 6=true:=hcl 7 6 (by kernel_rfl) (hd 7 (by simp))
   have y7:f 7=true:=hd 7 (by simp)
   obtain ⟨b1,n1,d1,b2,n2,d2,e6⟩:=c4 (hd 7 (by simp))
   rw [e6]
   go_simp
   exact hK _ _ ⟨upd (upd x 7 (.tuple #[.agg #[.slice b1 n1 d1,.slice b2 n2 d2],.agg #[.int .i64 s1,.int .i64 s2],.int .i64 s3])) 8 (.agg #[.slice b1 n1 d1,.slice b2 n2 d2]),rfl,c0,c1,c2,c3,fun _=>⟨b1,n1,d1,b2,n2,d2,rfl⟩,fun _=>⟨b1,n1,d1,b2,n2,d2,rfl⟩,c6,c7,VO.free (VO.keep hx 7 rfl _) 8 rfl _⟩
  case s9 =>
   have n14:f 14=false:=by cases h:f 14;rfl;exact absurd (hcl 14 9 (by kernel_rfl) (h)) (by rw [hf];simp)
   have y0:f 0=true:=hcl 2 0 (by kernel_rfl) (hcl 5 2 (by kernel_rfl) (hcl 6 5 (by kernel_rfl) (hcl 7 6 (by kernel_rfl) (hd 7 (by simp)))))
   have y2:f 2=true:=hcl 5 2 (by kernel_rfl) (hcl 6 5 (by kernel_rfl) (hcl 7 6 (by kernel_rfl) (hd 7 (by simp))))
   have y4:f 4=true:=hcl 5 4 (by kernel_rfl) (hcl 6 5 (by kernel_rfl) (hcl 7 6 (by kernel_rfl) (hd 7 (by simp))))
   have y5:f 5=true:=hcl 6 5 (by kernel_rfl) (hcl 7 6 (by kernel_rfl) (hd 7 (by simp)))
   have y6:f 6=true:=hcl 7 6 (by kernel_rfl) (hd 7 (by simp))
   have y7:f 7=true:=hd 7 (by simp)
   obtain ⟨b1,n1,d1,b2,n2,d2,e6⟩:=c4 (hd 7 (by simp))
   rw [e6]
   go_simp
   exact hK _ _ ⟨upd (upd x 7 (.tuple #[.agg #[.slice b1 n1 d1,.slice b2 n2 d2],.agg #[.int .i64 s1,.int .i64 s2],.int .i64 s3])) 9 (.agg #[.int .i64 s1,.int .i64 s2]),rfl,c0,c1,c2,c3,fun _=>⟨b1,n1,d1,b2,n2,d2,rfl⟩,c5,c6,c7,VO.set (VO.keep hx 7 rfl _) 9 rfl⟩
  case s10 =>
   have y0:f 0=true:=hcl 2 0 (by kernel_rfl) (hcl 5 2 (by kernel_rfl) (hcl 6 5 (by kernel_rfl) (hcl 7 6 (by kernel_rfl) (hd 7 (by simp)))))
   have y2:f 2=true:=hcl 5 2 (by kernel_rfl) (hcl 6 5 (by kernel_rfl) (hcl 7 6 (by kernel_rfl) (hd 7 (by simp))))
   have y4:f 4=true:=hcl 5 4 (by kernel_rfl) (hcl 6 5 (by kernel_rfl) (hcl 7 6 (by kernel_rfl) (hd 7 (by simp))))
   have y5:f 5=true:=hcl 6 5 (by kernel_rfl) (hcl 7 6 (by kernel_rfl) (hd 7 (by simp)))
   have y6:f 6=true:=hcl 7 6 (by kernel_rfl) (hd 7 (by simp))
   have y7:f 7=true:=hd 7 (by simp)
   obtain ⟨b1,n1,d1,b2,n2,d2,e6⟩:=c4 (hd 7 (by simp))
   rw [e6]
   go_simp
   exact hK _ _ ⟨upd (upd x 7 (.tuple #[.agg #[.slice b1 n1 d1,.slice b2 n2 d2],.agg #[.int .i64 s1,.int .i64 s2],.int .i64 s3])) 10 (.int .i64 s3),rfl,c0,c1,c2,c3,fun _=>⟨b1,n1,d1,b2,n2,d2,rfl⟩,c5,c6,c7,VO.set (VO.keep hx 7 rfl _) 10 rfl⟩
  case s11 =>
   have n13:f 13=false:=by cases h:f 13;rfl;exact absurd (hcl 13 11 (by kernel_rfl) (h)) (by rw [hf];simp)
   have n14:f 14=false:=by cases h:f 14;rfl;exact absurd (hcl 13 11 (by kernel_rfl) (hcl 14 13 (by kernel_rfl) (h))) (by rw [hf];simp)
   have q:=c0
   rw [n13] at q
   have hB0:=(q.1 rfl).2
   have hal:Below Vr.heap.size Vr (Vr.alloc (.cells #[.slice none 0 0,.slice none 0 0] 38)):=(Below.refl _ _).alloc (Nat.le_refl _) _
   go_simp
   exact hK _ _ ⟨upd x 11 (.pointer (some ⟨Vr.heap.size,0,none⟩)),rfl,by show CpC _ _ _ _ (f 0) (f 2) (f 4) (f 5) (f 13) _ _ _ _ _;rw [n13];exact q.any hal,fun _ _=>Bx.new hB0,fun h1 h2=>(c2 h1 h2).any hal,c3,c4,c5,fun h=>absurd (n13.symm.trans h) (by decide),fun h=>absurd (n14.symm.trans h) (by decide),VO.free hx 11 rfl _⟩
  case s12 =>
   have n13:f 13=false:=by cases h:f 13;rfl;exact absurd (hcl 13 12 (by kernel_rfl) (h)) (by rw [hf];simp)
   have n14:f 14=false:=by cases h:f 14;rfl;exact absurd (hcl 14 12 (by kernel_rfl) (h)) (by rw [hf];simp)
   have q:=c0
   rw [n13] at q
   have hB0:=(q.1 rfl).2
   have hal:Below Vr.heap.size Vr (Vr.alloc (.cells #[.int .i64 0,.int .i64 0] 29)):=(Below.refl _ _).alloc (Nat.le_refl _) _
   go_simp
   exact hK _ _ ⟨upd x 12 (.pointer (some ⟨Vr.heap.size,0,none⟩)),rfl,by show CpC _ _ _ _ (f 0) (f 2) (f 4) (f 5) (f 13) _ _ _ _ _;rw [n13];exact q.any hal,fun h1 h2=>(c1 h1 h2).any hal,fun _ _=>Bx.new hB0,c3,c4,c5,fun h=>absurd (n13.symm.trans h) (by decide),fun h=>absurd (n14.symm.trans h) (by decide),VO.free hx 12 rfl _⟩
  case s13 =>
   have n14:f 14=false:=by cases h:f 14;rfl;exact absurd (hcl 14 13 (by kernel_rfl) (h)) (by rw [hf];simp)
   have y0:f 0=true:=hcl 2 0 (by kernel_rfl) (hcl 5 2 (by kernel_rfl) (hcl 6 5 (by kernel_rfl) (hcl 7 6 (by kernel_rfl) (hcl 8 7 (by kernel_rfl) (hd 8 (by simp))))))
   have y2:f 2=true:=hcl 5 2 (by kernel_rfl) (hcl 6 5 (by kernel_rfl) (hcl 7 6 (by kernel_rfl) (hcl 8 7 (by kernel_rfl) (hd 8 (by simp)))))
   have y4:f 4=true:=hcl 5 4 (by kernel_rfl) (hcl 6 5 (by kernel_rfl) (hcl 7 6 (by kernel_rfl) (hcl 8 7 (by kernel_rfl) (hd 8 (by simp)))))
   have y5:f 5=true:=hcl 6 5 (by kernel_rfl) (hcl 7 6 (by kernel_rfl) (hcl 8 7 (by kernel_rfl) (hd 8 (by simp))))
   have y6:f 6=true:=hcl 7 6 (by kernel_rfl) (hcl 8 7 (by kernel_rfl) (hd 8 (by simp)))
   have y7:f 7=true:=hcl 8 7 (by kernel_rfl) (hd 8 (by simp))
   have y8:f 8=true:=hd 8 (by simp)
   have y11:f 11=true:=hd 11 (by simp)
   have y12:f 12=true:=hd 12 (by simp)
   have q:=c0
   rw [hf] at q
   obtain ⟨hb,hB0⟩:=q.1 rfl
   clear q
   obtain ⟨g,eg,hg,hh⟩:=c1 y11 hf
   obtain ⟨b1,n1,d1,b2,n2,d2,e8⟩:=c5 y8
   rw [eg,e8]
   have k0:Vr.cell? ⟨g,0,none⟩=some (.slice none 0 0):=(Blk.cl hh 0).trans rfl
   have k1:Vr.cell? ⟨g,1,none⟩=some (.slice none 0 0):=(Blk.cl hh 1).trans rfl
   have kf:=Blk.fr hh
   have kl:=Blk.lt hh
   have hbs:=hb.trans (((Below.refl W4.heap.size Vr).setCell (p:=⟨g,0,none⟩) hg (.slice b1 n1 d1)).setCell (p:=⟨g,1,none⟩) hg (.slice b2 n2 d2))
   have hbs:=Lib.hid hbs
   have hc2:=Lib.hid (fun h1 h2=>bx_set (u0:=.slice b1 n1 d1) (u1:=.slice b2 n2 d2) (c2 h1 h2) hh (by decide))
   go_simp
   exact hK _ _ ⟨upd (upd x 11 (.pointer (some ⟨g,0,none⟩))) 8 (.agg #[.slice b1 n1 d1,.slice b2 n2 d2]),rfl,⟨fun h=>(by cases h),fun _ _ h=>(by cases h),fun _ _ h=>(by cases h),fun _ _ h=>(by cases h),fun _ h=>(by cases h)⟩,fun _ h=>(by cases h),hc2.out,c3,c4,fun _=>⟨b1,n1,d1,b2,n2,d2,rfl⟩,fun _ _=>hbs.out,fun h=>absurd (n14.symm.trans h) (by decide),VO.done (VO.keep (VO.keep hx 11 rfl _) 8 rfl _) 13 rfl⟩
  case s14 =>
   have e9:=hx.get 9 rfl (hd 9 (by simp))
   rw [e9]
   clear e9
   have y0:f 0=true:=hcl 2 0 (by kernel_rfl) (hcl 5 2 (by kernel_rfl) (hcl 6 5 (by kernel_rfl) (hcl 7 6 (by kernel_rfl) (hcl 9 7 (by kernel_rfl) (hd 9 (by simp))))))
   have y2:f 2=true:=hcl 5 2 (by kernel_rfl) (hcl 6 5 (by kernel_rfl) (hcl 7 6 (by kernel_rfl) (hcl 9 7 (by kernel_rfl) (hd 9 (by simp)))))
   have y4:f 4=true:=hcl 5 4 (by kernel_rfl) (hcl 6 5 (by kernel_rfl) (hcl 7 6 (by kernel_rfl) (hcl 9 7 (by kernel_rfl) (hd 9 (by simp)))))
   have y5:f 5=true:=hcl 6 5 (by kernel_rfl) (hcl 7 6 (by kernel_rfl) (hcl 9 7 (by kernel_rfl) (hd 9 (by simp))))
   have y6:f 6=true:=hcl 7 6 (by kernel_rfl) (hcl 9 7 (by kernel_rfl) (hd 9 (by simp)))
   have y7:f 7=true:=hcl 9 7 (by kernel_rfl) (hd 9 (by simp))
   have y8:f 8=true:=hcl 13 8 (by kernel_rfl) (hd 13 (by simp))
   have y11:f 11=true:=hcl 13 11 (by kernel_rfl) (hd 13 (by simp))
   have y12:f 12=true:=hd 12 (by simp)
   have y13:f 13=true:=hd 13 (by simp)
   have hb:=c6 y13 hf
   obtain ⟨g,eg,hg,hh⟩:=c2 y12 hf
   rw [eg]
   have k0:Vr.cell? ⟨g,0,none⟩=some (.int .i64 0):=(Blk.cl hh 0).trans rfl
   have k1:Vr.cell? ⟨g,1,none⟩=some (.int .i64 0):=(Blk.cl hh 1).trans rfl
   have kf:=Blk.fr hh
   have kl:=Blk.lt hh
   have hbs:=Lib.hid (hb.trans (((Below.refl W4.heap.size Vr).setCell (p:=⟨g,0,none⟩) hg (.int .i64 s1)).setCell (p:=⟨g,1,none⟩) hg (.int .i64 s2)))
   have hnb:Hid (Box2 (World.set2 Vr g (.int .i64 s1) (.int .i64 s2)) 29 g (.int .i64 s1) (.int .i64 s2)):=((show Box2 Vr 29 g _ _ from hh).set (.int .i64 s1) (.int .i64 s2)).1
   go_simp
   exact hK _ _ ⟨upd (upd x 9 (.agg #[.int .i64 s1,.int .i64 s2])) 12 (.pointer (some ⟨g,0,none⟩)),rfl,by show CpC _ _ _ _ (f 0) (f 2) (f 4) (f 5) (f 13) _ _ _ _ _;rw [y13];exact ⟨fun h=>(by cases h),fun _ _ h=>(by cases h),fun _ _ h=>(by cases h),fun _ _ h=>(by cases h),fun _ h=>(by cases h)⟩,fun _ h=>absurd (y13.symm.trans h) (by decide),fun _ h=>(by cases h),c3,c4,c5,fun _ h=>(by cases h),fun _=>⟨hbs.out,g,rfl,hg,hnb.out⟩,VO.done (VO.keep (hx.put 9 rfl) 12 rfl _) 14 rfl⟩
  case s15 =>
   have e10:=hx.get 10 rfl (hd 10 (by simp))
   rw [e10]
   clear e10
   go_simp
   exact hK _ _ ⟨(upd (upd x 10 (.int .i64 s3)) 15 (.int .i64 s3)),rfl,c0,c1,c2,c3,c4,c5,c6,c7,((hx.put 10 rfl).set 15 rfl)⟩
 case last =>
  rintro f a Vr hf ⟨x,rfl,c0,c1,c2,c3,c4,c5,c6,c7,hx⟩
  obtain ⟨hb,g,e12,hg,hh⟩:=c7 (hf 14 (by simp))
  have e15:=hx.get 15 rfl (hf 15 (by simp))
  rw [e12,e15]
  clear c0 c1 c2 c3 c4 c5 c6 c7 hx hst hcall hcp e12 e15 hf
  obtain ⟨Y,rfl⟩:∃ Y,Y=Vr:=⟨_,rfl⟩
  have hbY:=Lib.hid hb
  have hq:=Lib.hid (show Blk Y g (.cells #[.int .i64 s1,.int .i64 s2] 29 (0,0)) from hh)
  have hr:=Lib.hid (px4'.out.below hb)
  have hm:=Lib.hid (hx4.out.below hb)
  have hvY:=Lib.hid (hv4.out.keeps (Keeps.of_below hb))
  have hbw:=Lib.hid (hb44.out.trans (hb.mono hb44.out.size))
  clear hb hh hg
  obtain ⟨Z,hZ⟩:∃ Z,Y.alloc (.cells #[.int .i64 0,.int .i64 0] 29)=Z:=⟨_,rfl⟩
  have hbZ:Below Y.heap.size Y Z:=by rw [←hZ];exact (Below.refl _ _).alloc (Nat.le_refl _) _
  have hl:=Lib.hid (show Blk Z Y.heap.size (.cells #[.int .i64 0,.int .i64 0] 29 (0,0)) by rw [←hZ];exact Blk.new)
  have hqZ:=Lib.hid (hq.out.below hbZ)
  have hrZ:=Lib.hid (hr.out.below hbZ)
  have hmZ:=Lib.hid (hm.out.below hbZ)
  have hvZ:=Lib.hid (hvY.out.keeps (Keeps.of_below hbZ))
  have hbZw:=Lib.hid (hbw.out.trans (hbZ.mono hbw.out.size))
  have hZ':=Lib.hid hZ
  clear hZ hbZ
  have m3:Z.cell? ⟨w.heap.size,3,none⟩=some (.int .i64 more.line):=(hmZ.out.cl 3).trans rfl
  have m4:Z.cell? ⟨w.heap.size,4,none⟩=some (.int .i64 more.col):=(hmZ.out.cl 4).trans rfl
  have z0:Z.cell? ⟨V3.heap.size + 1,0,none⟩=some (.int .i64 r1):=(hrZ.out.cl 0).trans rfl
  have z1:Z.cell? ⟨V3.heap.size + 1,1,none⟩=some (.int .i64 r2):=(hrZ.out.cl 1).trans rfl
  have y0:Z.cell? ⟨g,0,none⟩=some (.int .i64 s1):=(hqZ.out.cl 0).trans rfl
  have y1:Z.cell? ⟨g,1,none⟩=some (.int .i64 s2):=(hqZ.out.cl 1).trans rfl
  have l0:Z.cell? ⟨Y.heap.size,0,none⟩=some (.int .i64 0):=(hl.out.cl 0).trans rfl
  have l1:Z.cell? ⟨Y.heap.size,1,none⟩=some (.int .i64 0):=(hl.out.cl 1).trans rfl
  have lf:=hl.out.fr
  have ll:=hl.out.lt
  by_cases hk0:k=0
  case pos =>
   have qk:¬ (0:Int) < (k:Int):=by omega
   go_upto_region 8 with (fail)
   rw [hZ'.out]
   by_cases hp0:p3=0
   case pos =>
    obtain ⟨e1,e2⟩:=prefix_says more hkl (hp3'.out.trans hp0)
    obtain rfl:r1=0:=by rw [←hr1'.out,e1,hk0];rfl
    obtain rfl:r2=0:=by rw [←hr2'.out,e1,hk0];rfl
    obtain rfl:r3=60:=by rw [←hr3'.out,e1]
    obtain rfl:s1=more.line:=by rw [←hs1'.out,e2]
    obtain rfl:s2=more.col:=by rw [←hs2'.out,e2]
    obtain rfl:s3=60:=by rw [←hs3'.out,e2]
    subst hp0
    clear e1 e2
    go_wp2_with fail
    go_ret
    exact ⟨rfl,hbZw.out⟩
   go_wp2_with fail
   go_ret
   exact ⟨rfl,hbZw.out⟩
  have qk:(0:Int) < (k:Int):=by omega
  obtain ⟨m,hkm⟩:∃ m,k=m + 1:=⟨k - 1,by omega⟩
  have hw:IntKind.i64.wrap ((k:Int) - 1)=(m:Int):=by rw [show (k:Int) - 1=(m:Int) by omega];exact IntWalk.i64_in _ (by omega)
  have hml:m < l.length:=by omega
  obtain ⟨b,off,rfl,hcell⟩:∃ b off,sa=some ⟨b,off,none⟩∧∀ i (h:i < l.length),Z.cell? ⟨b,off + i * 5 + 3,none⟩=some (.int .i64 l[i].line)∧Z.cell? ⟨b,off + i * 5 + 4,none⟩=some (.int .i64 l[i].col):=by
   obtain ⟨a',c',e,⟨g1,g2⟩,g3⟩:=hvZ.out
   cases e
   rcases g3 with h | ⟨b,off,rfl,hc⟩
   ·
    exact absurd (by rw [h];rfl) h0
   ·
    exact ⟨b,off,rfl,fun i h=>⟨(hc i h).2.2.2.1,(hc i h).2.2.2.2⟩⟩
  obtain ⟨d3,d4⟩:=hcell m hml
  have htk:Hid (tkAt l m=l[m]):=by unfold Hid tkAt;simp [List.getD,hml]
  obtain ⟨tl,htl⟩:∃ v,l[m].line=v:=⟨_,rfl⟩
  obtain ⟨tc,htc⟩:∃ v,l[m].col=v:=⟨_,rfl⟩
  rw [htl] at d3
  rw [htc] at d4
  have htl':=Lib.hid htl
  have htc':=Lib.hid htc
  clear hcell htl htc
  go_upto_region 8 with (fail)
  rw [hZ'.out]
  go_upto_region 9 with (fail)
  go_region
  have hs:=(show Box2 Z 29 Y.heap.size (.int .i64 0) (.int .i64 0) from hl.out).set (.int .i64 tl) (.int .i64 tc)
  have hqy:g < Y.heap.size:=hq.out.lt
  have hry:V3.heap.size + 1 < Y.heap.size:=hr.out.lt
  have hmy:w.heap.size < Y.heap.size:=hm.out.lt
  have ne1:g≠Y.heap.size:=by omega
  have ne2:V3.heap.size + 1≠Y.heap.size:=by omega
  have ne3:w.heap.size≠Y.heap.size:=by omega
  have nq0:=Blk.own hqZ.out hs.2 ne1
  have nr0:=Blk.own hrZ.out hs.2 ne2
  have nm0:=Blk.own hmZ.out hs.2 ne3
  obtain ⟨N,hN⟩:∃ N,((Z.setCell ⟨Y.heap.size,0,none⟩ (.int .i64 tl)).setCell ⟨Y.heap.size,1,none⟩ (.int .i64 tc)).drew=N:=⟨_,rfl⟩
  have nq:Blk N g (.cells #[.int .i64 s1,.int .i64 s2] 29 (0,0)):=by rw [←hN];exact nq0
  have nr:Blk N (V3.heap.size + 1) (.cells #[.int .i64 r1,.int .i64 r2] 29 (0,0)):=by rw [←hN];exact nr0
  have nm:Blk N w.heap.size (.cells #[.int .i64 more.kind,.string (tS more.text),.int .i64 more.num,.int .i64 more.line,.int .i64 more.col] 51 (0,0)):=by rw [←hN];exact nm0
  have nl:Blk N Y.heap.size (.cells #[.int .i64 tl,.int .i64 tc] 29 (0,0)):=by rw [←hN];exact hs.1
  have hbN:=Lib.hid (show Below w.heap.size w N by rw [←hN];exact (hbZw.out.trans (hs.2.below.mono (by omega))).drew)
  rw [hN]
  clear hN hs nq0 nr0 nm0 m3 m4 z0 z1 y0 y1 l0 l1 lf ll d3 d4
  have m3:N.cell? ⟨w.heap.size,3,none⟩=some (.int .i64 more.line):=(nm.cl 3).trans rfl
  have m4:N.cell? ⟨w.heap.size,4,none⟩=some (.int .i64 more.col):=(nm.cl 4).trans rfl
  have z0:N.cell? ⟨V3.heap.size + 1,0,none⟩=some (.int .i64 r1):=(nr.cl 0).trans rfl
  have z1:N.cell? ⟨V3.heap.size + 1,1,none⟩=some (.int .i64 r2):=(nr.cl 1).trans rfl
  have y0:N.cell? ⟨g,0,none⟩=some (.int .i64 s1):=(nq.cl 0).trans rfl
  have y1:N.cell? ⟨g,1,none⟩=some (.int .i64 s2):=(nq.cl 1).trans rfl
  have l0:N.cell? ⟨Y.heap.size,0,none⟩=some (.int .i64 tl):=(nl.cl 0).trans rfl
  have l1:N.cell? ⟨Y.heap.size,1,none⟩=some (.int .i64 tc):=(nl.cl 1).trans rfl
  clear nq nr nm nl
  by_cases hp0:p3=0
  case pos =>
   obtain ⟨e1,e2⟩:=prefix_says more hkl (hp3'.out.trans hp0)
   rw [hkm,pre_end l m hml,htk.out,htl'.out,htc'.out] at e1
   rw [←hkm] at e1
   obtain rfl:r1=tl:=by rw [←hr1'.out,e1]
   obtain rfl:r2=tc:=by rw [←hr2'.out,e1]
   obtain rfl:r3=60:=by rw [←hr3'.out,e1]
   obtain rfl:s1=more.line:=by rw [←hs1'.out,e2]
   obtain rfl:s2=more.col:=by rw [←hs2'.out,e2]
   obtain rfl:s3=60:=by rw [←hs3'.out,e2]
   subst hp0
   clear e1 e2
   go_wp2_with fail
   go_ret
   exact ⟨rfl,hbN.out⟩
  go_wp2_with fail
  go_ret
  exact ⟨rfl,hbN.out⟩
end Go.Proofs.YtinjocchommbdaaGreatDoor
