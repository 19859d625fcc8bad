/- A part of the proof that parser laws hold: texts of the walk and of its plain laws, made small. -/
import Derived.Test.YtinjocchommbdaaGreatDoorM23
import Derived.Deep.RegionLaw
import Derived.Defers
import Derived.Recover
import Derived.Laws.Pointers
import Derived.Test.YtinjocchommbdaaGreatDoorM06
set_option linter.unusedVariables false
set_option linter.unusedSimpArgs false
namespace Go.Proofs.YtinjocchommbdaaGreatDoor
open Go.RowKit
theorem bnd2_split {α β γ:Type} {A:Ans6 α} {g:α→Nat→Ans6 β} {k:β→Nat→Ans6 γ} {x:Except Nat (γ × Nat)} (h:((A.bnd g).bnd k)=some x):∃ x2,A=some x2∧match x2 with
  | .error p=>x=.error p
  | .ok (d,j)=>(g d j).bnd k=some x:=by
 cases A with
 | none=>cases h
 | some x2 =>
  refine ⟨x2,rfl,?_⟩
  cases x2 with
  | error p=>exact (Option.some.inj h).symm
  | ok q=>exact h
theorem IsDt.agg {w:World} {v:Value} {d:Dt} (h:IsDt w v d):∃ s a1 m1 c1 a2 m2 c2,v=.agg #[.string s,.slice a1 m1 c1,.slice a2 m2 c2]:=by
 obtain ⟨a1,c1,a2,c2,rfl,_⟩:=h
 exact ⟨_,_,_,_,_,_,_,rfl⟩
theorem IsDf.agg {w:World} {v:Value} {d:Df} (h:IsDf w v d):∃ nm k s n a1 m1 c1 a2 m2 c2,v=.agg #[.string nm,.int .i64 k,.string s,.int .i64 n,.slice a1 m1 c1,.slice a2 m2 c2]:=by
 obtain ⟨v1,v2,v3,v4,v5,rfl,_,he⟩:=h
 obtain ⟨k,s,n,a1,m1,c1,a2,m2,c2,e⟩:=he.agg
 simp only [Value.agg.injEq,Array.mk.injEq,List.cons.injEq,and_true] at e
 obtain ⟨rfl,rfl,rfl,rfl,rfl⟩:=e
 exact ⟨_,_,_,_,_,_,_,_,_,_,rfl⟩
theorem blk2 {w:World} {b:Nat} {x0 x1:Value} {t:TypeId} (h:Blk w b (.cells #[x0,x1] t (0,0))):w.cell? ⟨b,0,none⟩=some x0∧w.cell? ⟨b,1,none⟩=some x1∧(∀ o,w.frozen? ⟨b,o,none⟩=false)∧b < w.heap.size:=⟨h.cl 0,h.cl 1,h.fr,h.lt⟩
theorem pg_fin {W X:World} {rb:Nat} {a:Option Addr} {c:Nat} {l:List Tk} {i j B:Nat} {v0 v1:Value} {p:Pg} (h:Rd W rb a c l i) (hp:PS W rb a c l j X) (bA:Blk X W.heap.size (.cells #[v0,v1] 38 (0,0))) (hB:W.heap.size < B) (ht:PgS B X v0 v1 p) (hn:p.datas.length + p.defs.length≤100000) :
  Blk ((X.setCell ⟨W.heap.size,0,none⟩ v0).setCell ⟨W.heap.size,1,none⟩ v1) W.heap.size (.cells #[v0,v1] 38 (0,0))∧GnR PgL W rb a c l (.ok (p,j)) (.returned (.agg #[v0,v1])) ((X.setCell ⟨W.heap.size,0,none⟩ v0).setCell ⟨W.heap.size,1,none⟩ v1):=by
 have h1:=bA.at 0 v0
 have h2:=h1.1.at 1 v1
 have hs:=h1.2.trans h2.2
 refine ⟨h2.1,?_⟩
 have hps:=PS.own h hp hs (Nat.le_refl _)
 refine ⟨hps.bb,_,rfl,?_,hps.rd⟩
 obtain ⟨a1,c1,e1,l1⟩:=ht.dts
 obtain ⟨a2,c2,e2,l2⟩:=ht.dfs
 have t1:=(l1.own hs (.inl hB)).wide (B':=W.heap.size) (E':=((X.setCell ⟨W.heap.size,0,none⟩ v0).setCell ⟨W.heap.size,1,none⟩ v1).heap.size) (by omega) (by rw [hs.size];exact Nat.le_refl _) (Nat.le_refl _)
 have t2:=(l2.own hs (.inl hB)).wide (B':=W.heap.size) (E':=((X.setCell ⟨W.heap.size,0,none⟩ v0).setCell ⟨W.heap.size,1,none⟩ v1).heap.size) (by omega) (by rw [hs.size];exact Nat.le_refl _) (Nat.le_refl _)
 exact ⟨Nat.le_refl _,fun y hy=>⟨a1,c1,a2,c2,by rw [e1,e2],by unfold lenMax;omega,by unfold lenMax;omega,t1.2 y hy,t2.2 y hy⟩⟩
section
variable {rb:Nat} {a:Option Addr} {c:Nat} {l:List Tk}
set_option maxHeartbeats 8000000 in
set_option maxRecDepth 100000 in
theorem par_prog {f:Nat} (hD:∀ (W:World) (i:Nat) (x:Except Nat (Dt × Nat)),Rd W rb a c l i→pData l f i=some x→Calls Tryz.prog 82 #[.pointer (some ⟨rb,0,none⟩)] W fun e W'=>GnR DtL W rb a c l x e W') (hF:∀ (W:World) (i:Nat) (x:Except Nat (Df × Nat)),Rd W rb a c l i→pDef l f i=some x→Calls Tryz.prog 83 #[.pointer (some ⟨rb,0,none⟩)] W fun e W'=>GnR DfL W rb a c l x e W') (hmin:∀ (i:Nat) (d:Dt) (j:Nat),i≤l.length→pData l f i=some (.ok (d,j))→i + 1≤j) (hmin2:∀ (i:Nat) (d:Df) (j:Nat),i≤l.length→pDef l f i=some (.ok (d,j))→i + 1≤j) (W:World) (i:Nat) (x:Except Nat (Pg × Nat)) (h:Rd W rb a c l i) (hx:(sgn6 l i bOpen fun i=>if isAt l i bShut=true then ok6 ⟨[],[]⟩ (i + 1) else pItems l f f i)=some x):Calls Tryz.prog 36 #[.pointer (some ⟨rb,0,none⟩)] W fun e W'=>GnR PgL W rb a c l x e W':=by
 obtain ⟨W1,hW1⟩:∃ V,W.alloc (.cells #[.slice none 0 0,.slice none 0 0] 38)=V:=⟨_,rfl⟩
 have hb1:Below W.heap.size W W1:=by rw [←hW1];exact (Below.refl _ _).alloc (Nat.le_refl _) _
 have bA1:Hid (Blk W1 W.heap.size (.cells #[.slice none 0 0,.slice none 0 0] 38 (0,0))):=by rw [←hW1];exact blk_new (Below.refl _ _)
 have zz1:Hid (W1.heap.size=W.heap.size + 1):=by rw [←hW1];simp [Hid]
 have hp1:=Lib.hid ((PS.refl h).below hb1)
 have hrb:=h.lt
 have h':=Lib.hid h
 have hW1':=Lib.hid hW1
 have hx0:=Lib.hid hx
 have hfl:=Tryz.fldText
 have hfn:=Tryz.fldNum
 clear hW1 hb1 h hx
 obtain ⟨i0,hi0,hz0,hz1',hz2'⟩:=info_of Tryz.infoDt6
 obtain ⟨i6,hi6,hy0,hy1',hy2'⟩:=info_of Tryz.infoDf6
 have hlen:=h'.out.len
 have hD':=Lib.hid hD
 have hF':=Lib.hid hF
 have hm1:=Lib.hid hmin
 have hm2:=Lib.hid hmin2
 clear hD hF hmin hmin2
 have sg2:Hid (Calls Tryz.prog 64 #[.pointer (some ⟨rb,0,none⟩),.string ⟨#[123]⟩] W1 fun e W'=>Bb W1.heap.size rb W1 W'∧if isAt l (i) [123]=true then e=.returned (.tuple #[])∧Rd W' rb a c l ((i) + 1) else e=stuckE (i)):=par_sign hp1.out.rd [123]
 go_enter Tryz.func36,Tryz.ntmps36
 go_upto_region 1 with (fail)
 rw [hW1'.out]
 go_wp2_with fail
 refine sg2.out.mono ?_
 rintro e V3 ⟨hB,hm⟩
 by_cases ks:isAt l (i) [123]=true
 case neg =>
  rw [if_neg ks] at hm
  obtain rfl:=hm
  have hxx:=sgn6_err hx0.out ks
  subst hxx
  exact ⟨rfl,hp1.out.bb.next hB,rfl⟩
 rw [if_pos ks] at hm
 obtain ⟨rfl,hR⟩:=hm
 have hx4:=Lib.hid (sgn6_ok hx0.out ks)
 try dsimp only at hx4
 have zV3:=Lib.hid hB.size
 have hpV3:=Lib.hid (hp1.out.call hB hR)
 have bAV3:=Lib.hid (bA1.out.bb hB (by have:=hrb;have:=zz1.out;omega))
 clear ks hB hR hx0 sg2
 clear hp1 bA1
 obtain ⟨W5,hW5⟩:∃ V,V3.alloc (.cells #[.string ⟨#[125]⟩] 9)=V:=⟨_,rfl⟩
 have hbW5:Below V3.heap.size V3 W5:=by rw [←hW5];exact (Below.refl _ _).alloc (Nat.le_refl _) _
 have zW5:Hid (W5.heap.size=V3.heap.size + 1):=by rw [←hW5];simp [Hid]
 have bW5:Hid (Blk W5 V3.heap.size (.cells #[.string ⟨#[125]⟩] 9 (0,0))):=by rw [←hW5];exact Blk.new
 have hpW5:=Lib.hid (hpV3.out.below hbW5)
 have bAW5:=Lib.hid (bAV3.out.below hbW5)
 have hW5':=Lib.hid hW5
 clear hW5 hbW5 hpV3 bAV3
 have hanyW5:Hid (Calls Tryz.prog 62 #[.pointer (some ⟨rb,0,none⟩),.slice (some ⟨V3.heap.size,0,none⟩) 1 1] W5 fun e W'=>e=.returned (.tuple #[.string (oS (anyAt l (i + 1) [[125]])),.bool (anyAt l (i + 1) [[125]]).isSome])∧Bb W5.heap.size rb W5 W'∧Rd W' rb a c l (i + 1 + oN (anyAt l (i + 1) [[125]]))):=any_call (ss:=[[125]]) hpW5.out.rd ⟨blk_lt (show Blk W5 V3.heap.size (.cells #[.string ⟨#[125]⟩] 9 (0,0)) from bW5.out),fun j hj=>by
  obtain rfl:j=0:=by simp at hj;omega
  exact ((show Blk W5 V3.heap.size (.cells #[.string ⟨#[125]⟩] 9 (0,0)) from bW5.out).cl 0).trans rfl⟩ (by decide)
 go_wp2_with fail
 rw [hW5'.out]
 by_cases ko:isAt l (i + 1) [125]=true
 case pos =>
  have hx9:=hx4.out
  rw [if_pos (show isAt l (i + 1) bShut=true from ko)] at hx9
  have hxx:Hid (x=.ok (⟨[],[]⟩,i + 1 + 1)):=(Option.some.inj hx9).symm
  clear hx9
  have ho:anyAt l (i + 1) [[125]]=some [125]:=by simp only [anyAt,List.find?_cons];rw [ko]
  rw [ho] at hanyW5
  simp only [oS,oN,Option.isSome_some] at hanyW5
  clear ho
  refine hanyW5.out.mono ?_
  rintro e U ⟨rfl,hB,hR⟩
  have zU:=Lib.hid hB.size
  have hpU:=Lib.hid (hpW5.out.call hB hR)
  have bAU:=Lib.hid (bAW5.out.bb hB (by have:=hrb;have:=zz1.out;have:=zV3.out;have:=zW5.out;omega))
  clear hB hR hanyW5 hpW5 bAW5
  have hf:=Lib.hid (pg_fin (B:=W1.heap.size) h'.out hpU.out (show Blk U W.heap.size (.cells #[.slice none 0 0,.slice none 0 0] 38 (0,0)) from bAU.out) (by have:=zz1.out;omega) (show PgS W1.heap.size U (.slice none 0 0) (.slice none 0 0) ⟨[],[]⟩ from Two.nil (by have:=hrb;have:=zz1.out;have:=zV3.out;have:=zW5.out;have:=zU.out;omega)) (Nat.zero_le _))
  have m60:U.cell? ⟨W.heap.size,0,none⟩=some (.slice none 0 0):=((show Blk U W.heap.size (.cells #[.slice none 0 0,.slice none 0 0] 38 (0,0)) from bAU.out).cl 0).trans rfl
  have m61:U.cell? ⟨W.heap.size,1,none⟩=some (.slice none 0 0):=((show Blk U W.heap.size (.cells #[.slice none 0 0,.slice none 0 0] 38 (0,0)) from bAU.out).cl 1).trans rfl
  have m6f:=(show Blk U W.heap.size (.cells #[.slice none 0 0,.slice none 0 0] 38 (0,0)) from bAU.out).fr
  have m6l:W.heap.size < U.heap.size:=(show Blk U W.heap.size (.cells #[.slice none 0 0,.slice none 0 0] 38 (0,0)) from bAU.out).lt
  go_wp2_with fail
  refine bodyPost_ret (results_pg rfl _ _ rfl hf.out.1) rfl ?_
  rw [hxx.out]
  exact hf.out.2
 have hx9:=hx4.out
 rw [if_neg (show ¬ isAt l (i + 1) bShut=true from ko)] at hx9
 have hc0:Hid (contP l f f ⟨[],[]⟩ (i + 1)=some x):=by
  unfold Hid contP
  rw [hx9]
  cases x with
  | error p=>rfl
  | ok q=>obtain ⟨⟨_,_⟩,_⟩:=q;rfl
 clear hx9 hx4
 have ho:anyAt l (i + 1) [[125]]=none:=by simp only [anyAt,List.find?_cons,List.find?_nil];simp [ko]
 rw [ho] at hanyW5
 simp only [oS,oN,Option.isSome_none,Nat.add_zero] at hanyW5
 clear ho
 refine hanyW5.out.mono ?_
 rintro e U ⟨rfl,hB,hR⟩
 have zU:=Lib.hid hB.size
 have hpU:=Lib.hid (hpW5.out.call hB hR)
 have bAU:=Lib.hid (bAW5.out.bb hB (by have:=hrb;have:=zz1.out;have:=zV3.out;have:=zW5.out;omega))
 clear hB hR hanyW5 hpW5 bAW5
 clear ko
 have hT0:Hid (PgS W1.heap.size U (.slice none 0 0) (.slice none 0 0) ⟨[],[]⟩):=Two.nil (by have:=hrb;have:=zz1.out;have:=zV3.out;have:=zW5.out;have:=zU.out;omega)
 have hbase:Hid (W.heap.size < W1.heap.size∧rb < W.heap.size∧rb < W1.heap.size):=⟨by have:=hrb;have:=zz1.out;have:=zV3.out;have:=zW5.out;have:=zU.out;omega,by have:=hrb;have:=zz1.out;have:=zV3.out;have:=zW5.out;have:=zU.out;omega,by have:=hrb;have:=zz1.out;have:=zV3.out;have:=zW5.out;have:=zU.out;omega⟩
 go_wp2_with fail
 go_loopg [5] f (fun g bv X=>∃ (tb:Bool) (acc:Pg) (j:Nat) (v0 v1:Value),bv=.bool tb∧Hid (PgS W1.heap.size X v0 v1 acc)∧Hid (PS W rb a c l j X)∧Hid (Blk X W.heap.size (.cells #[v0,v1] 38 (0,0)))∧Hid (if tb=true then contP l f g acc j=some x else (sgn6 l j bShut fun m=>ok6 acc m)=some x)∧Hid (acc.datas.length + acc.defs.length≤j))
 case atStart=>exact ⟨true,⟨[],[]⟩,i + 1,_,_,rfl,hT0.out,hpU.out,bAU.out,hc0.out,Nat.zero_le _⟩
 case round =>
  obtain ⟨tb,acc,j,v0,v1,rfl,hT,hp,bA,hc,haj⟩:=hrel
  obtain ⟨X,rfl⟩:∃ W,W=wr:=⟨_,rfl⟩
  clear hT0 hc0 hpU bAU
  obtain ⟨va0,vc0,rfl,hvn0,hvc0⟩:=Two.form hT.out
  obtain ⟨va1,vc1,rfl,hvn1,hvc1⟩:=Two.form (Two.swap hT.out)
  clear hvn0 hvc0 hvn1 hvc1
  have hile:=hp.out.rd.le
  have zX:Hid (W1.heap.size≤X.heap.size):=Two.base hT.out
  cases tb with
  | false =>
   have hc9:Hid ((sgn6 l j bShut fun m=>ok6 acc m)=some x):=hc.out
   clear hc
   have hTb:=hT
   clear hT
   have sg7:Hid (Calls Tryz.prog 64 #[.pointer (some ⟨rb,0,none⟩),.string ⟨#[125]⟩] X fun e W'=>Bb X.heap.size rb X W'∧if isAt l (j) [125]=true then e=.returned (.tuple #[])∧Rd W' rb a c l ((j) + 1) else e=stuckE (j)):=par_sign hp.out.rd [125]
   go_wp2_with fail
   refine sg7.out.mono ?_
   rintro e V8 ⟨hB,hm⟩
   by_cases ks:isAt l j [125]=true
   case neg =>
    rw [if_neg ks] at hm
    obtain rfl:=hm
    have hxx:=sgn6_err hc9.out ks
    subst hxx
    exact ⟨rfl,hp.out.bb.next hB,rfl⟩
   rw [if_pos ks] at hm
   obtain ⟨rfl,hR⟩:=hm
   have hx8:=sgn6_ok hc9.out ks
   have hxx:Hid (x=.ok (acc,j + 1)):=(Option.some.inj hx8).symm
   have zV8:=Lib.hid hB.size
   have hT2:Hid (PgS W1.heap.size V8 (.slice va0 acc.datas.length vc0) (.slice va1 acc.defs.length vc1) acc):=Two.bb hTb.out hB hbase.out.2.2
   have hpV8:=Lib.hid (hp.out.call hB hR)
   have bAV8:=Lib.hid (bA.out.bb hB (by have:=hrb;have:=zz1.out;have:=hbase.out;have:=zX.out;omega))
   clear ks hB hR hx8 hc9 hTb sg7 hp bA
   have hf:=Lib.hid (pg_fin (B:=W1.heap.size) h'.out hpV8.out (show Blk V8 W.heap.size (.cells #[.slice va0 acc.datas.length vc0,.slice va1 acc.defs.length vc1] 38 (0,0)) from bAV8.out) hbase.out.1 hT2.out (by have:=haj.out;omega))
   have m100:V8.cell? ⟨W.heap.size,0,none⟩=some (.slice va0 acc.datas.length vc0):=((show Blk V8 W.heap.size (.cells #[.slice va0 acc.datas.length vc0,.slice va1 acc.defs.length vc1] 38 (0,0)) from bAV8.out).cl 0).trans rfl
   have m101:V8.cell? ⟨W.heap.size,1,none⟩=some (.slice va1 acc.defs.length vc1):=((show Blk V8 W.heap.size (.cells #[.slice va0 acc.datas.length vc0,.slice va1 acc.defs.length vc1] 38 (0,0)) from bAV8.out).cl 1).trans rfl
   have m10f:=(show Blk V8 W.heap.size (.cells #[.slice va0 acc.datas.length vc0,.slice va1 acc.defs.length vc1] 38 (0,0)) from bAV8.out).fr
   have m10l:W.heap.size < V8.heap.size:=(show Blk V8 W.heap.size (.cells #[.slice va0 acc.datas.length vc0,.slice va1 acc.defs.length vc1] 38 (0,0)) from bAV8.out).lt
   go_wp2_with fail
   refine bodyPost_ret (results_pg rfl _ _ rfl hf.out.1) rfl ?_
   rw [hxx.out]
   exact hf.out.2
  | true =>
   obtain ⟨g,rfl⟩:∃ g',gk=g' + 1:=by
    cases gk with
    | zero=>exact (contP_zero hc.out).elim
    | succ g=>exact ⟨g,rfl⟩
   have hc2:contP l f (g + 1) acc j=some x:=hc.out
   rw [contP_next] at hc2
   unfold pItem at hc2
   clear hc
   obtain ⟨W11,hW11⟩:∃ V,X.alloc (.cells #[.string ⟨#[100,97,116,97]⟩] 9)=V:=⟨_,rfl⟩
   have hbW11:Below X.heap.size X W11:=by rw [←hW11];exact (Below.refl _ _).alloc (Nat.le_refl _) _
   have zW11:Hid (W11.heap.size=X.heap.size + 1):=by rw [←hW11];simp [Hid]
   have bW11:Hid (Blk W11 X.heap.size (.cells #[.string ⟨#[100,97,116,97]⟩] 9 (0,0))):=by rw [←hW11];exact Blk.new
   have hpW11:=Lib.hid (hp.out.below hbW11)
   have bAW11:=Lib.hid (bA.out.below hbW11)
   have hW11':=Lib.hid hW11
   clear hW11 hbW11 hp bA
   have hanyW11:Hid (Calls Tryz.prog 62 #[.pointer (some ⟨rb,0,none⟩),.slice (some ⟨X.heap.size,0,none⟩) 1 1] W11 fun e W'=>e=.returned (.tuple #[.string (oS (anyAt l (j) [[100,97,116,97]])),.bool (anyAt l (j) [[100,97,116,97]]).isSome])∧Bb W11.heap.size rb W11 W'∧Rd W' rb a c l (j + oN (anyAt l (j) [[100,97,116,97]]))):=any_call (ss:=[[100,97,116,97]]) hpW11.out.rd ⟨blk_lt (show Blk W11 X.heap.size (.cells #[.string ⟨#[100,97,116,97]⟩] 9 (0,0)) from bW11.out),fun j hj=>by
    obtain rfl:j=0:=by simp at hj;omega
    exact ((show Blk W11 X.heap.size (.cells #[.string ⟨#[100,97,116,97]⟩] 9 (0,0)) from bW11.out).cl 0).trans rfl⟩ (by decide)
   have hTW:Hid (PgS W1.heap.size W11 (.slice va0 acc.datas.length vc0) (.slice va1 acc.defs.length vc1) acc):=Two.below hT.out (by rw [←hW11'.out];exact (Below.refl _ _).alloc (Nat.le_refl _) _)
   go_wp2_with fail
   rw [hW11'.out]
   by_cases ko:isAt l j [100,97,116,97]=true
   case pos =>
    rw [if_pos ko] at hc2
    obtain ⟨x2,hx2,kx2⟩:=bnd2_split hc2
    have kx2':=Lib.hid kx2
    have hx2':=Lib.hid hx2
    clear hc2 kx2 hx2
    have ho:anyAt l j [[100,97,116,97]]=some [100,97,116,97]:=by simp only [anyAt,List.find?_cons];rw [ko]
    rw [ho] at hanyW11
    simp only [oS,oN,Option.isSome_some] at hanyW11
    clear ho
    refine hanyW11.out.mono ?_
    rintro e Y ⟨rfl,hB,hR⟩
    have zY:=Lib.hid hB.size
    have hTY:Hid (PgS W1.heap.size Y (.slice va0 acc.datas.length vc0) (.slice va1 acc.defs.length vc1) acc):=Two.bb hTW.out hB hbase.out.2.2
    have hpY:=Lib.hid (hpW11.out.call hB hR)
    have bAY:=Lib.hid (bAW11.out.bb hB (by have:=hrb;have:=zz1.out;have:=hbase.out;have:=zX.out;have:=zW11.out;omega))
    clear hB hR hanyW11 hTW hpW11 bAW11
    have cD:=Lib.hid (fun V (hV:Below Y.heap.size Y V)=>(hD'.out V (j + 1) x2 (hpY.out.rd.below hV) hx2'.out).mono fun e W' q=>GnR.later (L:=DtL) DtL.wide hV q)
    have m120:Y.cell? ⟨W.heap.size,0,none⟩=some (.slice va0 acc.datas.length vc0):=((show Blk Y W.heap.size (.cells #[.slice va0 acc.datas.length vc0,.slice va1 acc.defs.length vc1] 38 (0,0)) from bAY.out).cl 0).trans rfl
    have m121:Y.cell? ⟨W.heap.size,1,none⟩=some (.slice va1 acc.defs.length vc1):=((show Blk Y W.heap.size (.cells #[.slice va0 acc.datas.length vc0,.slice va1 acc.defs.length vc1] 38 (0,0)) from bAY.out).cl 1).trans rfl
    have m12f:=(show Blk Y W.heap.size (.cells #[.slice va0 acc.datas.length vc0,.slice va1 acc.defs.length vc1] 38 (0,0)) from bAY.out).fr
    have m12l:W.heap.size < Y.heap.size:=(show Blk Y W.heap.size (.cells #[.slice va0 acc.datas.length vc0,.slice va1 acc.defs.length vc1] 38 (0,0)) from bAY.out).lt
    go_wp2_with fail
    go_region_law (first | (go_simp;go_at_call 82;refine (cD.out _ (Below.refl _ _).drew).mono ?_;rintro e1 U ⟨hB,hm⟩;rcases x2 with p | ⟨d,jd⟩;(· (have hxx:=kx2'.out;dsimp only at hxx;subst hxx;obtain rfl:=hm;exact And.intro rfl (And.intro (hpY.out.bb.next hB) rfl)));obtain ⟨v,rfl,hL,hR⟩:=hm;obtain ⟨ds,da1,dm1,dc1,da2,dm2,dc2,rfl⟩:=hL.out.agg;have tD:Hid (Lay Y.heap.size U.heap.size U fun x=>IsDtC x [.string ds,.slice da1 dm1 dc1,.slice da2 dm2 dc2] d):=Lay.imp hL (fun x hx=>⟨_,_,_,rfl,hx⟩);have zU:=Lib.hid hB.size;have hTU:Hid (PgS W1.heap.size U (.slice va0 acc.datas.length vc0) (.slice va1 acc.defs.length vc1) acc):=Two.bb hTY.out hB hbase.out.2.2;have hpU:=Lib.hid (hpY.out.call hB hR);have bAU:Hid (Blk U W.heap.size (.cells #[.slice va0 acc.datas.length vc0,.slice va1 acc.defs.length vc1] 38 (0,0))):=(show Blk Y W.heap.size (.cells #[.slice va0 acc.datas.length vc0,.slice va1 acc.defs.length vc1] 38 (0,0)) from bAY.out).bb hB (by have:=hrb;have:=zz1.out;have:=hbase.out;have:=zX.out;have:=zW11.out;have:=zY.out;omega);have kx3:=Lib.hid kx2'.out;have zYb:=Lib.hid (Two.base hTY.out);have hoY0:=Lib.hid (Two.owns hTY.out);have hoY1:=Lib.hid (Two.owns (Two.swap hTY.out));clear hL hR hB m120 m121 m12f m12l;obtain ⟨m120,m121,m12f,m12l⟩:=blk2 (show Blk U W.heap.size (.cells #[.slice va0 acc.datas.length vc0,.slice va1 acc.defs.length vc1] 38 (0,0)) from bAU.out)) | (refine wanted_run (by rfl) ?_;obtain ⟨v2,w2,hrun,hT2,hgr⟩:=Two.push (cs:=#[.string ds,.slice da1 dm1 dc1,.slice da2 dm2 dc2]) hTU.out rfl (by decide) (by simp [Value.oneCell']) (M:=Y.heap.size) zYb.out zU.out (fun g q=>(hoY0.out g q).2) (fun g q=>(hoY1.out g q).2) tD.out Tryz.underlying35 hi0 hz0 hz1' hz2' rfl (by have:=haj.out;omega) (by decide) 35;refine wp_append_run (.tmp 33) (.tmp 36) 35 _ _ _ _ _ rfl rfl rfl hrun ?_;have hkp:=Lib.hid (grown_keeps h'.out (hpU.out.below ((Below.refl _ _).alloc (Nat.le_refl _) (.cells #[.string ds,.slice da1 dm1 dc1,.slice da2 dm2 dc2] 77))) (show W.heap.size≤W1.heap.size by have:=hbase.out;omega) (fun g q=>((hoY0).out g q).1) hgr);have bA2:Hid (Blk w2 W.heap.size (.cells #[.slice va0 acc.datas.length vc0,.slice va1 acc.defs.length vc1] 38 (0,0))):=hkp.out.2.1 _ _ hbase.out.1 ((show Blk U W.heap.size (.cells #[.slice va0 acc.datas.length vc0,.slice va1 acc.defs.length vc1] 38 (0,0)) from bAU.out).below ((Below.refl _ _).alloc (Nat.le_refl _) (.cells #[.string ds,.slice da1 dm1 dc1,.slice da2 dm2 dc2] 77)));have hT3:=Lib.hid hT2;have hp3:=Lib.hid hkp.out.1;obtain ⟨va2,vc2,rfl,hvn2,hvc2⟩:=Two.form hT2;clear hT2 hgr hrun hvn2 hvc2 m120 m121 m12f m12l;obtain ⟨m120,m121,m12f,m12l⟩:=blk2 (show Blk w2 W.heap.size (.cells #[.slice va0 acc.datas.length vc0,.slice va1 acc.defs.length vc1] 38 (0,0)) from bA2.out)))
    all_goals
     have e1:(acc.datas ++ [d]).length=acc.datas.length + 1:=by simp
     have hT4:Hid (PgS W1.heap.size w2 (.slice va2 (acc.datas.length + 1) vc2) (.slice va1 acc.defs.length vc1) (acc.add (⟨[d],[]⟩:Pg))):=by
      have:=hT3.out
      rw [e1] at this
      unfold Hid PgS Pg.add
      simp only [List.append_nil]
      exact this
     have hjd:Hid (j + 1≤jd):=by
      have:=hm1.out (j + 1) d jd (isAt_lt ko) hx2'.out
      unfold Hid
      omega
     have hk9:(if isAt l jd semiT=true then contP l f g (acc.add (⟨[d],[]⟩:Pg)) (jd + 1) else sgn6 l jd bShut fun m=>ok6 (acc.add (⟨[d],[]⟩:Pg)) m)=some x:=kx3.out
     clear e1 hT3 m120 m121 m12f m12l ko
     have zw2:Hid (W1.heap.size≤w2.heap.size):=Two.base hT4.out
     obtain ⟨M13,hM13⟩:∃ V,w2.setCell ⟨W.heap.size,0,none⟩ (.slice va2 (acc.datas.length + 1) vc2)=V:=⟨_,rfl⟩
     try rw [hM13]
     have hsM13:=(show Blk w2 W.heap.size (.cells #[.slice va0 acc.datas.length vc0,.slice va1 acc.defs.length vc1] 38 (0,0)) from bA2.out).at 0 (.slice va2 (acc.datas.length + 1) vc2)
     rw [hM13] at hsM13
     have zM13:=Lib.hid hsM13.2.size
     have hTM:Hid (PgS W1.heap.size M13 (.slice va2 (acc.datas.length + 1) vc2) (.slice va1 acc.defs.length vc1) (acc.add (⟨[d],[]⟩:Pg))):=Two.own hT4.out hsM13.2 hbase.out.1
     have hpM13:Hid (PS W rb a c l (jd) M13):=PS.own h'.out hp3.out hsM13.2 (by have:=hrb;have:=zz1.out;have:=hbase.out;have:=zw2.out;omega)
     have bAM13:Hid (Blk M13 W.heap.size (.cells #[.slice va2 (acc.datas.length + 1) vc2,.slice va1 acc.defs.length vc1] 38 (0,0))):=hsM13.1
     clear hM13 hsM13 bA2 hT4 hp3
     obtain ⟨W14,hW14⟩:∃ V,M13.alloc (.cells #[.string ⟨#[59]⟩] 9)=V:=⟨_,rfl⟩
     have hbW14:Below M13.heap.size M13 W14:=by rw [←hW14];exact (Below.refl _ _).alloc (Nat.le_refl _) _
     have zW14:Hid (W14.heap.size=M13.heap.size + 1):=by rw [←hW14];simp [Hid]
     have bW14:Hid (Blk W14 M13.heap.size (.cells #[.string ⟨#[59]⟩] 9 (0,0))):=by rw [←hW14];exact Blk.new
     have hpW14:=Lib.hid (hpM13.out.below hbW14)
     have bAW14:=Lib.hid (bAM13.out.below hbW14)
     have hW14':=Lib.hid hW14
     clear hW14 hbW14 hpM13 bAM13
     have hanyW14:Hid (Calls Tryz.prog 62 #[.pointer (some ⟨rb,0,none⟩),.slice (some ⟨M13.heap.size,0,none⟩) 1 1] W14 fun e W'=>e=.returned (.tuple #[.string (oS (anyAt l (jd) [[59]])),.bool (anyAt l (jd) [[59]]).isSome])∧Bb W14.heap.size rb W14 W'∧Rd W' rb a c l (jd + oN (anyAt l (jd) [[59]]))):=any_call (ss:=[[59]]) hpW14.out.rd ⟨blk_lt (show Blk W14 M13.heap.size (.cells #[.string ⟨#[59]⟩] 9 (0,0)) from bW14.out),fun j hj=>by
      obtain rfl:j=0:=by simp at hj;omega
      exact ((show Blk W14 M13.heap.size (.cells #[.string ⟨#[59]⟩] 9 (0,0)) from bW14.out).cl 0).trans rfl⟩ (by decide)
     have hTN:Hid (PgS W1.heap.size W14 (.slice va2 (acc.datas.length + 1) vc2) (.slice va1 acc.defs.length vc1) (acc.add (⟨[d],[]⟩:Pg))):=Two.below hTM.out (by rw [←hW14'.out];exact (Below.refl _ _).alloc (Nat.le_refl _) _)
     go_wp2_with fail
     rw [hW14'.out]
     by_cases k59:isAt l jd [59]=true
     case neg =>
      rw [if_neg (show ¬ isAt l jd semiT=true from k59)] at hk9
      have hk8:=Lib.hid hk9
      have ho:anyAt l jd [[59]]=none:=by simp only [anyAt,List.find?_cons,List.find?_nil];simp [k59]
      rw [ho] at hanyW14
      simp only [oS,oN,Option.isSome_none,Nat.add_zero] at hanyW14
      clear ho hk9 k59
      refine hanyW14.out.mono ?_
      rintro e U2 ⟨rfl,hB,hR⟩
      have zU2:=Lib.hid hB.size
      have hTZ:Hid (PgS W1.heap.size U2 (.slice va2 (acc.datas.length + 1) vc2) (.slice va1 acc.defs.length vc1) (acc.add (⟨[d],[]⟩:Pg))):=Two.bb hTN.out hB hbase.out.2.2
      have hpU2:=Lib.hid (hpW14.out.call hB hR)
      have bAU2:=Lib.hid (bAW14.out.bb hB (by have:=hrb;have:=zz1.out;have:=hbase.out;have:=zw2.out;have:=zM13.out;have:=zW14.out;omega))
      clear hB hR hanyW14 hTN hTM hpW14 bAW14
      go_wp2_with fail
      go_roundg g
      case measure=>omega
      case rel=>exact ⟨false,acc.add (⟨[d],[]⟩:Pg),jd,_,_,rfl,hTZ.out,hpU2.out,bAU2.out,hk8.out,by have:=hjd.out;have:=haj.out;unfold Hid Pg.add;simp only [List.length_append,List.length_cons,List.length_nil];omega⟩
     rw [if_pos (show isAt l jd semiT=true from k59)] at hk9
     have hk8:=Lib.hid hk9
     have ho:anyAt l jd [[59]]=some [59]:=by simp only [anyAt,List.find?_cons];rw [k59]
     rw [ho] at hanyW14
     simp only [oS,oN,Option.isSome_some] at hanyW14
     clear ho hk9 k59
     refine hanyW14.out.mono ?_
     rintro e U2 ⟨rfl,hB,hR⟩
     have zU2:=Lib.hid hB.size
     have hTZ:Hid (PgS W1.heap.size U2 (.slice va2 (acc.datas.length + 1) vc2) (.slice va1 acc.defs.length vc1) (acc.add (⟨[d],[]⟩:Pg))):=Two.bb hTN.out hB hbase.out.2.2
     have hpU2:=Lib.hid (hpW14.out.call hB hR)
     have bAU2:=Lib.hid (bAW14.out.bb hB (by have:=hrb;have:=zz1.out;have:=hbase.out;have:=zw2.out;have:=zM13.out;have:=zW14.out;omega))
     clear hB hR hanyW14 hTN hTM hpW14 bAW14
     go_wp2_with fail
     go_roundg g
     case measure=>omega
     case rel=>exact ⟨true,acc.add (⟨[d],[]⟩:Pg),jd + 1,_,_,rfl,hTZ.out,hpU2.out,bAU2.out,hk8.out,by have:=hjd.out;have:=haj.out;unfold Hid Pg.add;simp only [List.length_append,List.length_cons,List.length_nil];omega⟩
   rw [if_neg ko] at hc2
   obtain ⟨x2,hx2,kx2⟩:=bnd2_split hc2
   have kx2':=Lib.hid kx2
   have hx2':=Lib.hid hx2
   clear hc2 kx2 hx2
   have ho:anyAt l j [[100,97,116,97]]=none:=by simp only [anyAt,List.find?_cons,List.find?_nil];simp [ko]
   rw [ho] at hanyW11
   simp only [oS,oN,Option.isSome_none,Nat.add_zero] at hanyW11
   clear ho
   refine hanyW11.out.mono ?_
   rintro e Y ⟨rfl,hB,hR⟩
   have zY:=Lib.hid hB.size
   have hTY:Hid (PgS W1.heap.size Y (.slice va0 acc.datas.length vc0) (.slice va1 acc.defs.length vc1) acc):=Two.bb hTW.out hB hbase.out.2.2
   have hpY:=Lib.hid (hpW11.out.call hB hR)
   have bAY:=Lib.hid (bAW11.out.bb hB (by have:=hrb;have:=zz1.out;have:=hbase.out;have:=zX.out;have:=zW11.out;omega))
   clear hB hR hanyW11 hTW hpW11 bAW11
   have cD:=Lib.hid (fun V (hV:Below Y.heap.size Y V)=>(hF'.out V j x2 (hpY.out.rd.below hV) hx2'.out).mono fun e W' q=>GnR.later (L:=DfL) DfL.wide hV q)
   have m150:Y.cell? ⟨W.heap.size,0,none⟩=some (.slice va0 acc.datas.length vc0):=((show Blk Y W.heap.size (.cells #[.slice va0 acc.datas.length vc0,.slice va1 acc.defs.length vc1] 38 (0,0)) from bAY.out).cl 0).trans rfl
   have m151:Y.cell? ⟨W.heap.size,1,none⟩=some (.slice va1 acc.defs.length vc1):=((show Blk Y W.heap.size (.cells #[.slice va0 acc.datas.length vc0,.slice va1 acc.defs.length vc1] 38 (0,0)) from bAY.out).cl 1).trans rfl
   have m15f:=(show Blk Y W.heap.size (.cells #[.slice va0 acc.datas.length vc0,.slice va1 acc.defs.length vc1] 38 (0,0)) from bAY.out).fr
   have m15l:W.heap.size < Y.heap.size:=(show Blk Y W.heap.size (.cells #[.slice va0 acc.datas.length vc0,.slice va1 acc.defs.length vc1] 38 (0,0)) from bAY.out).lt
   go_wp2_with fail
   go_region_law (first | (go_simp;go_at_call 83;refine (cD.out _ (Below.refl _ _).drew).mono ?_;rintro e1 U ⟨hB,hm⟩;rcases x2 with p | ⟨d,jd⟩;(· (have hxx:=kx2'.out;dsimp only at hxx;subst hxx;obtain rfl:=hm;exact And.intro rfl (And.intro (hpY.out.bb.next hB) rfl)));obtain ⟨v,rfl,hL,hR⟩:=hm;obtain ⟨ds,dk,dt,dn,da1,dm1,dc1,da2,dm2,dc2,rfl⟩:=hL.out.agg;have tD:Hid (Lay Y.heap.size U.heap.size U fun x=>IsDfC x [.string ds,.int .i64 dk,.string dt,.int .i64 dn,.slice da1 dm1 dc1,.slice da2 dm2 dc2] d):=Lay.imp hL (fun x hx=>⟨_,_,_,_,_,_,rfl,hx⟩);have zU:=Lib.hid hB.size;have hTU:Hid (PgS W1.heap.size U (.slice va0 acc.datas.length vc0) (.slice va1 acc.defs.length vc1) acc):=Two.bb hTY.out hB hbase.out.2.2;have hpU:=Lib.hid (hpY.out.call hB hR);have bAU:Hid (Blk U W.heap.size (.cells #[.slice va0 acc.datas.length vc0,.slice va1 acc.defs.length vc1] 38 (0,0))):=(show Blk Y W.heap.size (.cells #[.slice va0 acc.datas.length vc0,.slice va1 acc.defs.length vc1] 38 (0,0)) from bAY.out).bb hB (by have:=hrb;have:=zz1.out;have:=hbase.out;have:=zX.out;have:=zW11.out;have:=zY.out;omega);have kx3:=Lib.hid kx2'.out;have zYb:=Lib.hid (Two.base hTY.out);have hoY0:=Lib.hid (Two.owns hTY.out);have hoY1:=Lib.hid (Two.owns (Two.swap hTY.out));clear hL hR hB m150 m151 m15f m15l;obtain ⟨m150,m151,m15f,m15l⟩:=blk2 (show Blk U W.heap.size (.cells #[.slice va0 acc.datas.length vc0,.slice va1 acc.defs.length vc1] 38 (0,0)) from bAU.out)) | (refine wanted_run (by rfl) ?_;obtain ⟨v2,w2,hrun,hT2,hgr⟩:=Two.push (cs:=#[.string ds,.int .i64 dk,.string dt,.int .i64 dn,.slice da1 dm1 dc1,.slice da2 dm2 dc2]) (Two.swap hTU.out) rfl (by decide) (by simp [Value.oneCell']) (M:=Y.heap.size) zYb.out zU.out (fun g q=>(hoY1.out g q).2) (fun g q=>(hoY0.out g q).2) tD.out Tryz.underlying36 hi6 hy0 hy1' hy2' rfl (by have:=haj.out;omega) (by decide) 36;refine wp_append_run (.tmp 40) (.tmp 43) 36 _ _ _ _ _ rfl rfl rfl hrun ?_;have hkp:=Lib.hid (grown_keeps h'.out (hpU.out.below ((Below.refl _ _).alloc (Nat.le_refl _) (.cells #[.string ds,.int .i64 dk,.string dt,.int .i64 dn,.slice da1 dm1 dc1,.slice da2 dm2 dc2] 79))) (show W.heap.size≤W1.heap.size by have:=hbase.out;omega) (fun g q=>((hoY1).out g q).1) hgr);have bA2:Hid (Blk w2 W.heap.size (.cells #[.slice va0 acc.datas.length vc0,.slice va1 acc.defs.length vc1] 38 (0,0))):=hkp.out.2.1 _ _ hbase.out.1 ((show Blk U W.heap.size (.cells #[.slice va0 acc.datas.length vc0,.slice va1 acc.defs.length vc1] 38 (0,0)) from bAU.out).below ((Below.refl _ _).alloc (Nat.le_refl _) (.cells #[.string ds,.int .i64 dk,.string dt,.int .i64 dn,.slice da1 dm1 dc1,.slice da2 dm2 dc2] 79)));have hT3:=Lib.hid hT2;have hp3:=Lib.hid hkp.out.1;obtain ⟨va2,vc2,rfl,hvn2,hvc2⟩:=Two.form hT2;clear hT2 hgr hrun hvn2 hvc2 m150 m151 m15f m15l;obtain ⟨m150,m151,m15f,m15l⟩:=blk2 (show Blk w2 W.heap.size (.cells #[.slice va0 acc.datas.length vc0,.slice va1 acc.defs.length vc1] 38 (0,0)) from bA2.out)))
   all_goals
    have e1:(acc.defs ++ [d]).length=acc.defs.length + 1:=by simp
    have hT4:Hid (PgS W1.heap.size w2 (.slice va0 acc.datas.length vc0) (.slice va2 (acc.defs.length + 1) vc2) (acc.add (⟨[],[d]⟩:Pg))):=by
     have:=Two.swap hT3.out
     rw [e1] at this
     unfold Hid PgS Pg.add
     simp only [List.append_nil]
     exact this
    have hjd:Hid (j + 1≤jd):=by
     have:=hm2.out j d jd hile hx2'.out
     unfold Hid
     omega
    have hk9:(if isAt l jd semiT=true then contP l f g (acc.add (⟨[],[d]⟩:Pg)) (jd + 1) else sgn6 l jd bShut fun m=>ok6 (acc.add (⟨[],[d]⟩:Pg)) m)=some x:=kx3.out
    clear e1 hT3 m150 m151 m15f m15l ko
    have zw2:Hid (W1.heap.size≤w2.heap.size):=Two.base hT4.out
    obtain ⟨M16,hM16⟩:∃ V,w2.setCell ⟨W.heap.size,1,none⟩ (.slice va2 (acc.defs.length + 1) vc2)=V:=⟨_,rfl⟩
    try rw [hM16]
    have hsM16:=(show Blk w2 W.heap.size (.cells #[.slice va0 acc.datas.length vc0,.slice va1 acc.defs.length vc1] 38 (0,0)) from bA2.out).at 1 (.slice va2 (acc.defs.length + 1) vc2)
    rw [hM16] at hsM16
    have zM16:=Lib.hid hsM16.2.size
    have hTM:Hid (PgS W1.heap.size M16 (.slice va0 acc.datas.length vc0) (.slice va2 (acc.defs.length + 1) vc2) (acc.add (⟨[],[d]⟩:Pg))):=Two.own hT4.out hsM16.2 hbase.out.1
    have hpM16:Hid (PS W rb a c l (jd) M16):=PS.own h'.out hp3.out hsM16.2 (by have:=hrb;have:=zz1.out;have:=hbase.out;have:=zw2.out;omega)
    have bAM16:Hid (Blk M16 W.heap.size (.cells #[.slice va0 acc.datas.length vc0,.slice va2 (acc.defs.length + 1) vc2] 38 (0,0))):=hsM16.1
    clear hM16 hsM16 bA2 hT4 hp3
    obtain ⟨W17,hW17⟩:∃ V,M16.alloc (.cells #[.string ⟨#[59]⟩] 9)=V:=⟨_,rfl⟩
    have hbW17:Below M16.heap.size M16 W17:=by rw [←hW17];exact (Below.refl _ _).alloc (Nat.le_refl _) _
    have zW17:Hid (W17.heap.size=M16.heap.size + 1):=by rw [←hW17];simp [Hid]
    have bW17:Hid (Blk W17 M16.heap.size (.cells #[.string ⟨#[59]⟩] 9 (0,0))):=by rw [←hW17];exact Blk.new
    have hpW17:=Lib.hid (hpM16.out.below hbW17)
    have bAW17:=Lib.hid (bAM16.out.below hbW17)
    have hW17':=Lib.hid hW17
    clear hW17 hbW17 hpM16 bAM16
    have hanyW17:Hid (Calls Tryz.prog 62 #[.pointer (some ⟨rb,0,none⟩),.slice (some ⟨M16.heap.size,0,none⟩) 1 1] W17 fun e W'=>e=.returned (.tuple #[.string (oS (anyAt l (jd) [[59]])),.bool (anyAt l (jd) [[59]]).isSome])∧Bb W17.heap.size rb W17 W'∧Rd W' rb a c l (jd + oN (anyAt l (jd) [[59]]))):=any_call (ss:=[[59]]) hpW17.out.rd ⟨blk_lt (show Blk W17 M16.heap.size (.cells #[.string ⟨#[59]⟩] 9 (0,0)) from bW17.out),fun j hj=>by
     obtain rfl:j=0:=by simp at hj;omega
     exact ((show Blk W17 M16.heap.size (.cells #[.string ⟨#[59]⟩] 9 (0,0)) from bW17.out).cl 0).trans rfl⟩ (by decide)
    have hTN:Hid (PgS W1.heap.size W17 (.slice va0 acc.datas.length vc0) (.slice va2 (acc.defs.length + 1) vc2) (acc.add (⟨[],[d]⟩:Pg))):=Two.below hTM.out (by rw [←hW17'.out];exact (Below.refl _ _).alloc (Nat.le_refl _) _)
    go_wp2_with fail
    rw [hW17'.out]
    by_cases k59:isAt l jd [59]=true
    case neg =>
     rw [if_neg (show ¬ isAt l jd semiT=true from k59)] at hk9
     have hk8:=Lib.hid hk9
     have ho:anyAt l jd [[59]]=none:=by simp only [anyAt,List.find?_cons,List.find?_nil];simp [k59]
     rw [ho] at hanyW17
     simp only [oS,oN,Option.isSome_none,Nat.add_zero] at hanyW17
     clear ho hk9 k59
     refine hanyW17.out.mono ?_
     rintro e U2 ⟨rfl,hB,hR⟩
     have zU2:=Lib.hid hB.size
     have hTZ:Hid (PgS W1.heap.size U2 (.slice va0 acc.datas.length vc0) (.slice va2 (acc.defs.length + 1) vc2) (acc.add (⟨[],[d]⟩:Pg))):=Two.bb hTN.out hB hbase.out.2.2
     have hpU2:=Lib.hid (hpW17.out.call hB hR)
     have bAU2:=Lib.hid (bAW17.out.bb hB (by have:=hrb;have:=zz1.out;have:=hbase.out;have:=zw2.out;have:=zM16.out;have:=zW17.out;omega))
     clear hB hR hanyW17 hTN hTM hpW17 bAW17
     go_wp2_with fail
     go_roundg g
     case measure=>omega
     case rel=>exact ⟨false,acc.add (⟨[],[d]⟩:Pg),jd,_,_,rfl,hTZ.out,hpU2.out,bAU2.out,hk8.out,by have:=hjd.out;have:=haj.out;unfold Hid Pg.add;simp only [List.length_append,List.length_cons,List.length_nil];omega⟩
    rw [if_pos (show isAt l jd semiT=true from k59)] at hk9
    have hk8:=Lib.hid hk9
    have ho:anyAt l jd [[59]]=some [59]:=by simp only [anyAt,List.find?_cons];rw [k59]
    rw [ho] at hanyW17
    simp only [oS,oN,Option.isSome_some] at hanyW17
    clear ho hk9 k59
    refine hanyW17.out.mono ?_
    rintro e U2 ⟨rfl,hB,hR⟩
    have zU2:=Lib.hid hB.size
    have hTZ:Hid (PgS W1.heap.size U2 (.slice va0 acc.datas.length vc0) (.slice va2 (acc.defs.length + 1) vc2) (acc.add (⟨[],[d]⟩:Pg))):=Two.bb hTN.out hB hbase.out.2.2
    have hpU2:=Lib.hid (hpW17.out.call hB hR)
    have bAU2:=Lib.hid (bAW17.out.bb hB (by have:=hrb;have:=zz1.out;have:=hbase.out;have:=zw2.out;have:=zM16.out;have:=zW17.out;omega))
    clear hB hR hanyW17 hTN hTM hpW17 bAW17
    go_wp2_with fail
    go_roundg g
    case measure=>omega
    case rel=>exact ⟨true,acc.add (⟨[],[d]⟩:Pg),jd + 1,_,_,rfl,hTZ.out,hpU2.out,bAU2.out,hk8.out,by have:=hjd.out;have:=haj.out;unfold Hid Pg.add;simp only [List.length_append,List.length_cons,List.length_nil];omega⟩
end
end Go.Proofs.YtinjocchommbdaaGreatDoor
namespace Go.Proofs.YtinjocchommbdaaGreatDoor
open Go.RowKit
def placeT (l:List Tk) (p:Nat):Int × Int:=if l=[] then (0,0) else ((tkAt l (min p (l.length - 1))).line,(tkAt l (min p (l.length - 1))).col)
def plV6 (q:Int × Int):Value:=.agg #[.int .i64 q.1,.int .i64 q.2]
theorem results_pl {fn:Func} {t:Tmp} (h:fn.results=#[.cell t 29]) (tmps:Array Value) (w:World) {b:Nat} {x0 x1:Value} (ha:tmps.getD t undef=.pointer (some ⟨b,0,none⟩))
  (hc:w.cell? ⟨b,0,none⟩=some x0∧w.cell? ⟨b,1,none⟩=some x1):(results fn tmps).run Tryz.prog w=.ok (.agg #[x0,x1]) w:=by
 obtain ⟨h0,h1⟩:=hc
 have e2:=Tryz.isAgg29
 have e3:=Tryz.sizeOf29
 have ha':tmps[t]?.getD undef=.pointer (some ⟨b,0,none⟩):=by simpa using ha
 simp [results,h,ha',asAddr,loadVar,e2,loadCells,loadCellsFrom,Result.andThen,h0,h1,Addr.add,load,Sem.run]
set_option maxHeartbeats 4000000 in
set_option maxRecDepth 100000 in
theorem par_place (W:World) (v:Value) (l:List Tk) (p:Nat) (hv:TkSl W v l) (hl:l.length≤100000) (hp:p≤100000):Calls Tryz.prog 28 #[v,.int .i64 p] W fun e W'=>e=.returned (plV6 (placeT l p))∧Below W.heap.size W W':=by
 obtain ⟨a,c,rfl⟩:=hv.open
 obtain ⟨W1,hW1⟩:∃ V,W.alloc (.cells #[.int .i64 0,.int .i64 0] 29)=V:=⟨_,rfl⟩
 have hb1:Below W.heap.size W W1:=by rw [←hW1];exact (Below.refl _ _).alloc (Nat.le_refl _) _
 have hx1:Box2 W1 29 W.heap.size (.int .i64 0) (.int .i64 0):=by rw [←hW1];exact blk_new (Below.refl _ _)
 have hz1:Hid (W1.heap.size=W.heap.size + 1):=by rw [←hW1];simp [Hid]
 by_cases h0:l=[]
 ·
  subst h0
  have hst:=hx1.set (.int .i64 0) (.int .i64 0)
  have hfin:Hid (Box2 (World.set2 W1 W.heap.size (.int .i64 0) (.int .i64 0)) 29 W.heap.size (.int .i64 0) (.int .i64 0)∧Below W.heap.size W (World.set2 W1 W.heap.size (.int .i64 0) (.int .i64 0))):=⟨hst.1,hb1.trans hst.2.below⟩
  obtain ⟨⟨c0,c1⟩,cf⟩:=hx1.cells
  have hW1':=Lib.hid hW1
  clear hb1 hx1 hz1 hst hW1 hv
  go_enter Tryz.func28,Tryz.ntmps28
  go_upto_region 1 with (fail)
  rw [hW1'.out]
  go_wp2_with fail
  refine set2_fold ?_
  exact bodyPost_ret (results_pl rfl _ _ rfl hfin.out.1.cells.1) rfl ⟨rfl,hfin.out.2⟩
 ·
  obtain ⟨_,ha,hr⟩:=hv.at
  obtain ⟨b,off,rfl,hc⟩:=hr.at h0
  have hlp:0 < l.length:=List.length_pos_iff.2 h0
  by_cases hpq:p < l.length
  ·
   have hle:(p:Int)≤(l.length:Int) - 1:=by omega
   obtain ⟨g0,g1,g2,g3,g4⟩:=hc (p) (by omega)
   obtain ⟨t,ht⟩:∃ t,l[p]'(by omega)=t:=⟨_,rfl⟩
   rw [ht] at g0 g1 g2 g3 g4
   have k0:=Keeps.of_below hb1 _ _ g0
   have k1:=Keeps.of_below hb1 _ _ g1
   have k2:=Keeps.of_below hb1 _ _ g2
   have k3:=Keeps.of_below hb1 _ _ g3
   have k4:=Keeps.of_below hb1 _ _ g4
   have hpl:Hid (placeT l p=(t.line,t.col)):=by
    unfold Hid placeT
    rw [if_neg h0,show min p (l.length - 1)=p by omega]
    have e:tkAt l (p)=t:=by
     unfold tkAt
     rw [List.getD,List.getElem?_eq_getElem (by omega),ht]
     rfl
    rw [e]
   obtain ⟨W2,hW2⟩:∃ V,W1.alloc (.cells #[.int .i64 t.kind,.string (tS t.text),.int .i64 t.num,.int .i64 t.line,.int .i64 t.col] 51)=V:=⟨_,rfl⟩
   have hb2:Below W1.heap.size W1 W2:=by rw [←hW2];exact (Below.refl _ _).alloc (Nat.le_refl _) _
   have hx2:Box5 W2 51 W1.heap.size (.int .i64 t.kind) (.string (tS t.text)) (.int .i64 t.num) (.int .i64 t.line) (.int .i64 t.col):=by rw [←hW2];exact blk_new (Below.refl _ _)
   have hxp:=hx1.below hb2
   have hst:=hxp.set (.int .i64 t.line) (.int .i64 t.col)
   have hfin:Hid (Box2 (World.set2 W2 W.heap.size (.int .i64 t.line) (.int .i64 t.col)) 29 W.heap.size (.int .i64 t.line) (.int .i64 t.col)∧Below W.heap.size W (World.set2 W2 W.heap.size (.int .i64 t.line) (.int .i64 t.col))):=⟨hst.1,(hb1.trans (hb2.mono (by have:=hz1.out;omega))).trans hst.2.below⟩
   obtain ⟨⟨c0,c1⟩,cf⟩:=hxp.cells
   obtain ⟨⟨d0,d1,d2,d3,d4⟩,df⟩:=hx2.cells
   have hw:IntKind.i64.wrap ((l.length:Int) - 1)=(l.length:Int) - 1:=IntWalk.i64_in _ (by omega)
   have hW1':=Lib.hid hW1
   have hW2':=Lib.hid hW2
   clear hb1 hx1 hst hW1 hW2 hv hc g0 g1 g2 g3 g4 ht hb2 hx2 hxp hr ha h0
   go_enter Tryz.func28,Tryz.ntmps28
   go_upto_region 1 with (fail)
   rw [hW1'.out]
   go_upto_region 4 with (fail)
   rw [hW2'.out]
   clear k0 k1 k2 k3 k4
   go_wp2_with fail
   refine set2_fold ?_
   exact bodyPost_ret (results_pl rfl _ _ rfl hfin.out.1.cells.1) rfl ⟨by rw [hpl.out];rfl,hfin.out.2⟩
  ·
   have hle:¬ (p:Int)≤(l.length:Int) - 1:=by omega
   obtain ⟨g0,g1,g2,g3,g4⟩:=hc (l.length - 1) (by omega)
   obtain ⟨t,ht⟩:∃ t,l[l.length - 1]'(by omega)=t:=⟨_,rfl⟩
   rw [ht] at g0 g1 g2 g3 g4
   have k0:=Keeps.of_below hb1 _ _ g0
   have k1:=Keeps.of_below hb1 _ _ g1
   have k2:=Keeps.of_below hb1 _ _ g2
   have k3:=Keeps.of_below hb1 _ _ g3
   have k4:=Keeps.of_below hb1 _ _ g4
   have hpl:Hid (placeT l p=(t.line,t.col)):=by
    unfold Hid placeT
    rw [if_neg h0,show min p (l.length - 1)=l.length - 1 by omega]
    have e:tkAt l (l.length - 1)=t:=by
     unfold tkAt
     rw [List.getD,List.getElem?_eq_getElem (by omega),ht]
     rfl
    rw [e]
   obtain ⟨W2,hW2⟩:∃ V,W1.alloc (.cells #[.int .i64 t.kind,.string (tS t.text),.int .i64 t.num,.int .i64 t.line,.int .i64 t.col] 51)=V:=⟨_,rfl⟩
   have hb2:Below W1.heap.size W1 W2:=by rw [←hW2];exact (Below.refl _ _).alloc (Nat.le_refl _) _
   have hx2:Box5 W2 51 W1.heap.size (.int .i64 t.kind) (.string (tS t.text)) (.int .i64 t.num) (.int .i64 t.line) (.int .i64 t.col):=by rw [←hW2];exact blk_new (Below.refl _ _)
   have hxp:=hx1.below hb2
   have hst:=hxp.set (.int .i64 t.line) (.int .i64 t.col)
   have hfin:Hid (Box2 (World.set2 W2 W.heap.size (.int .i64 t.line) (.int .i64 t.col)) 29 W.heap.size (.int .i64 t.line) (.int .i64 t.col)∧Below W.heap.size W (World.set2 W2 W.heap.size (.int .i64 t.line) (.int .i64 t.col))):=⟨hst.1,(hb1.trans (hb2.mono (by have:=hz1.out;omega))).trans hst.2.below⟩
   obtain ⟨⟨c0,c1⟩,cf⟩:=hxp.cells
   obtain ⟨⟨d0,d1,d2,d3,d4⟩,df⟩:=hx2.cells
   have hw:IntKind.i64.wrap ((l.length:Int) - 1)=(l.length:Int) - 1:=IntWalk.i64_in _ (by omega)
   have hW1':=Lib.hid hW1
   have hW2':=Lib.hid hW2
   clear hb1 hx1 hst hW1 hW2 hv hc g0 g1 g2 g3 g4 ht hb2 hx2 hxp hr ha h0
   go_enter Tryz.func28,Tryz.ntmps28
   go_upto_region 1 with (fail)
   rw [hW1'.out]
   go_upto_region 4 with (fail)
   rw [hW2'.out]
   clear k0 k1 k2 k3 k4
   go_wp2_with fail
   refine set2_fold ?_
   exact bodyPost_ret (results_pl rfl _ _ rfl hfin.out.1.cells.1) rfl ⟨by rw [hpl.out];rfl,hfin.out.2⟩
end Go.Proofs.YtinjocchommbdaaGreatDoor
namespace Go.Proofs.YtinjocchommbdaaGreatDoor
open Go.RowKit
set_option maxHeartbeats 4000000 in
set_option maxRecDepth 100000 in
theorem whole_idle (b1 b2:Nat) (w:World):CallsD Tryz.prog 61 #[.pointer (some ⟨b1,0,none⟩),.pointer (some ⟨b2,0,none⟩)] .returning w fun e u' w'=>e=.returned (.tuple #[])∧u'=.returning∧w'=w:=by
 refine callsD_of_wpS Tryz.func61 rfl fun c₀ cs hu=>?_
 apply wpS_seq
 apply wpS_region
 simp [wpOpsS,go_sem,recoverD,hu,Tryz.ntmps61,Exit.thenS]
 refine wpS_of_wp ?_
 go_wp2_with fail
 cases c₀
 simp_all [bodyPostS,results,Tryz.results61]
theorem stuck_is (p:Int) (w:World):(Instr.typeAssert (.iface 105 (.agg #[.int .i64 p])) 20 105 true).run Tryz.prog w=.ok (.tuple #[.agg #[.int .i64 p],.bool true]) w:=by kernel_rfl
set_option maxHeartbeats 4000000 in
set_option maxRecDepth 100000 in
theorem whole_catch (b1 b2 p:Nat) (x0:Value) (y0:Value) (older:List PanicEntry) (w:World) (h1:w.cell? ⟨b1,0,none⟩=some x0) (h2:w.cell? ⟨b2,0,none⟩=some y0) (f1:w.frozen? ⟨b1,0,none⟩=false) (f2:w.frozen? ⟨b2,0,none⟩=false) (hb1:b1 < w.heap.size) (hb2:b2 < w.heap.size) (hne:b1≠b2) :
  CallsD Tryz.prog 61 #[.pointer (some ⟨b1,0,none⟩),.pointer (some ⟨b2,0,none⟩)] (.panicking ({ v:=.iface 105 (.agg #[.int .i64 (p:Int)]),recovered:=false } :: older)) w fun e u' w'=>e=.returned (.tuple #[])∧u'=.panicking ({ v:=.iface 105 (.agg #[.int .i64 (p:Int)]),recovered:=true } :: older)∧w'=((w.setCell ⟨b1,0,none⟩ (.int .i64 (p:Int))).setCell ⟨b2,0,none⟩ (.bool false)).alloc (.cells #[.int .i64 (p:Int)] 105):=by
 have hta:=stuck_is
 refine callsD_of_wpS Tryz.func61 rfl fun c₀ cs hu=>?_
 apply wpS_seq
 apply wpS_region
 simp [wpOpsS,go_sem,recoverD,hu,Tryz.ntmps61,Exit.thenS]
 refine wpS_of_wp ?_
 go_wp2_with fail
 exact ⟨rfl,_,rfl,_,by simp [results,Tryz.results61],rfl,rfl,rfl⟩
def WhV (W V:World):Prop:=Below W.heap.size W V∧V.heap.size=W.heap.size + 2
structure WhK (W W' W'':World):Prop where
 os:W''.os=W'.os
 tape:W''.tape=W'.tape
 output:W''.output=W'.output
 size:W'.heap.size≤W''.heap.size
 block:∀ k,k < W'.heap.size→k≠W.heap.size→k≠W.heap.size + 1→W''.heap[k]?=W'.heap[k]?
def WhQ (rb:Nat) (a:Option Addr) (c n:Nat) (S:Nat→World→World→Prop) (D:Nat→World→World→Prop) (V:World) (e:Ending) (W':World):Prop :=
 V.heap.size≤W'.heap.size∧(∀ k,k + 2=V.heap.size∨k + 1=V.heap.size→W'.heap[k]?=V.heap[k]?)∧((∃ p:Nat,e=stuckE p∧S p V W')∨∃ j:Nat,e=.returned (.tuple #[])∧D j V W'∧W'.cell? ⟨rb,0,none⟩=some (.slice a n c)∧W'.cell? ⟨rb,1,none⟩=some (.int .i64 (j:Int)))
set_option maxHeartbeats 8000000 in
set_option maxRecDepth 100000 in
theorem par_wholeE (W:World) (rb b1 b2:Nat) (a:Option Addr) (c n:Nat) (S D:Nat→World→World→Prop) (hrb:rb < W.heap.size) (hn:n≤100000)
  (hr:∀ V,Below W.heap.size W V→V.heap.size=W.heap.size + 2→Calls Tryz.prog 26 #[.pointer (some ⟨b1,0,none⟩),.pointer (some ⟨b2,0,none⟩)] V fun e W'=>WhQ rb a c n S D V e W') :
  Calls Tryz.prog 25 #[.pointer (some ⟨rb,0,none⟩),.func (.func 26) #[] #[.pointer (some ⟨b1,0,none⟩),.pointer (some ⟨b2,0,none⟩)]] W fun e W''=>∃ V W',WhV W V∧WhK W W' W'' ∧
   ((∃ p:Nat,e=.returned (.tuple #[.int .i64 (p:Int),.bool false])∧S p V W')∨∃ j:Nat,e=.returned (.tuple #[.int .i64 (j:Int),.bool ((j:Int) == (n:Int))])∧D j V W'):=by
 have hmf:∀ (fn:Fn) (first cap:Array Value) (w:World),(Instr.makeFunc fn first cap).run Tryz.prog w=.ok (.func fn first cap) w:=fun _ _ _ _=>rfl
 obtain ⟨V,hV⟩:∃ V,(W.alloc (.cells #[.int .i64 0] 3)).alloc (.cells #[.bool false] 4)=V:=⟨_,rfl⟩
 have hb:Below W.heap.size W V:=by rw [←hV];exact ((Below.refl _ _).alloc (Nat.le_refl _) _).alloc (by simp) _
 have hz:V.heap.size=W.heap.size + 2:=by rw [←hV];simp
 have hB1:Hid (Blk V W.heap.size (.cells #[.int .i64 0] 3 (0,0))):=by
  have h1:Blk (W.alloc (.cells #[.int .i64 0] 3)) W.heap.size (.cells #[.int .i64 0] 3 (0,0)):=Blk.new
  rw [←hV]
  exact h1.below ((Below.refl _ _).alloc (Nat.le_refl _) _)
 have hB2:Hid (Blk V (W.heap.size + 1) (.cells #[.bool false] 4 (0,0))):=by
  have e:(W.alloc (.cells #[.int .i64 0] 3)).heap.size=W.heap.size + 1:=by simp
  rw [←hV,←e]
  exact Blk.new
 have hr':=Lib.hid (hr V hb hz)
 have hV':=Lib.hid hV
 have hb':=Lib.hid hb
 have hz':=Lib.hid hz
 clear hr hV hb hz
 go_enter_defers Tryz.func25,Tryz.ntmps25
 go_wp2_with fail
 rw [hV'.out]
 refine hr'.out.mono ?_
 rintro e W' ⟨hs,hk,hm⟩
 have k1:Blk W' W.heap.size (.cells #[.int .i64 0] 3 (0,0)):=(hk _ (.inl hz'.out.symm)).trans hB1.out
 have k2:Blk W' (W.heap.size + 1) (.cells #[.bool false] 4 (0,0)):=(hk _ (.inr hz'.out.symm)).trans hB2.out
 have c1:W'.cell? ⟨W.heap.size,0,none⟩=some (.int .i64 0):=(k1.cl 0).trans rfl
 have c2:W'.cell? ⟨W.heap.size + 1,0,none⟩=some (.bool false):=(k2.cl 0).trans rfl
 have f1:=k1.fr 0
 have f2:=k2.fr 0
 have l1:=k1.lt
 have l2:=k2.lt
 rcases hm with ⟨p,rfl,hS⟩ | ⟨j,rfl,hD,r0,r1⟩
 ·
  unfold stuckE
  dsimp only
  refine leaves_cons (f:=61) (args:=#[.pointer (some ⟨W.heap.size,0,none⟩),.pointer (some ⟨W.heap.size + 1,0,none⟩)]) (by simp) (by simp [go_sem]) ?_
  refine (whole_catch W.heap.size (W.heap.size + 1) p _ _ [] W' c1 c2 f1 f2 l1 l2 (by omega)).mono ?_
  rintro e u' w'' ⟨rfl,rfl,hw⟩
  have s1:=k1.at 0 (.int .i64 (p:Int))
  have s2:=(k2.own s1.2 (by omega)).at 0 (.bool false)
  have s1b:=s1.1.own s2.2 (by omega)
  have zz:w''.heap.size=W'.heap.size + 1:=by rw [hw];simp [size_set]
  have sb:Below W'.heap.size ((W'.setCell ⟨W.heap.size,0,none⟩ (.int .i64 (p:Int))).setCell ⟨W.heap.size + 1,0,none⟩ (.bool false)) w'':=by rw [hw];exact (Below.refl _ _).alloc (by simp [size_set]) _
  have q1:w''.cell? ⟨W.heap.size,0,none⟩=some (.int .i64 (p:Int)):=((Blk.cl ((sb.block _ l1).trans s1b) 0)).trans rfl
  have q2:w''.cell? ⟨W.heap.size + 1,0,none⟩=some (.bool false):=((Blk.cl ((sb.block _ l2).trans s2.1) 0)).trans rfl
  have hK:WhK W W' w'':=⟨sb.os.trans rfl,sb.tape.trans rfl,sb.output.trans rfl,by omega,fun k h0 h1 h2=>(sb.block k h0).trans ((s2.2.other k h2).trans (s1.2.other k h1))⟩
  have hB0:WhV W V:=⟨hb'.out,hz'.out⟩
  clear hw s1 s2 s1b zz sb k1 k2 c1 c2 f1 f2 hk hr' hB1 hB2
  dsimp only
  simp [Leaves,settle,results,Tryz.results25,go_sem,q1,q2]
  exact ⟨V,hB0,W',hK,.inl ⟨p,rfl,hS⟩⟩
 ·
  go_wp2_with fail
  have hne1:rb≠W.heap.size:=by omega
  have hne2:rb≠W.heap.size + 1:=by omega
  have hne3:W.heap.size≠rb:=by omega
  have hne4:W.heap.size + 1≠rb:=by omega
  go_region_held3 (fun X=>X.cell? ⟨rb,0,none⟩=some (.slice a n c)∧X.cell? ⟨rb,1,none⟩=some (.int .i64 (j:Int))) (refine ⟨?_,?_⟩ <;> go_simp) (fail)
  all_goals
   have s1:=k1.at 0 (.int .i64 (j:Int))
   have s2:=(k2.own s1.2 (by omega)).at 0 (.bool ((j:Int) == (n:Int)))
   have s1b:=s1.1.own s2.2 (by omega)
   obtain ⟨Z,hZ⟩:∃ Z,((W'.setCell ⟨W.heap.size,0,none⟩ (.int .i64 (j:Int))).setCell ⟨W.heap.size + 1,0,none⟩ (.bool ((j:Int) == (n:Int)))).drew=Z:=⟨_,rfl⟩
   have sb:Below W'.heap.size ((W'.setCell ⟨W.heap.size,0,none⟩ (.int .i64 (j:Int))).setCell ⟨W.heap.size + 1,0,none⟩ (.bool ((j:Int) == (n:Int)))) Z:=by rw [←hZ];exact (Below.refl _ _).drew
   have zz:Z.heap.size=W'.heap.size:=by rw [←hZ];simp [size_set,World.drew]
   have q1:Z.cell? ⟨W.heap.size,0,none⟩=some (.int .i64 (j:Int)):=((Blk.cl ((sb.block _ l1).trans s1b) 0)).trans rfl
   have q2:Z.cell? ⟨W.heap.size + 1,0,none⟩=some (.bool ((j:Int) == (n:Int))):=((Blk.cl ((sb.block _ l2).trans s2.1) 0)).trans rfl
   have hK:WhK W W' Z:=⟨sb.os.trans rfl,sb.tape.trans rfl,sb.output.trans rfl,by omega,fun k h0 h1 h2=>(sb.block k h0).trans ((s2.2.other k h2).trans (s1.2.other k h1))⟩
   have hB0:WhV W V:=⟨hb'.out,hz'.out⟩
   rw [hZ]
   clear s1 s2 s1b zz sb k1 k2 c1 c2 f1 f2 hk hr' hB1 hB2 r0 r1 hZ
   go_wp2_with fail
   refine leaves_cons (f:=61) (args:=#[.pointer (some ⟨W.heap.size,0,none⟩),.pointer (some ⟨W.heap.size + 1,0,none⟩)]) (by simp) (by simp [go_sem]) ?_
   refine (whole_idle W.heap.size (W.heap.size + 1) Z).mono ?_
   rintro e u' w'' ⟨rfl,rfl,rfl⟩
   dsimp only
   simp [Leaves,settle,results,Tryz.results25,go_sem,q1,q2]
   exact ⟨V,hB0,W',hK,.inr ⟨j,⟨rfl,rfl⟩,hD⟩⟩
set_option maxHeartbeats 8000000 in
set_option maxRecDepth 100000 in
theorem par_wholeP (W:World) (rb b1 b2:Nat) (a:Option Addr) (c n:Nat) (S D:Nat→World→World→Prop) (hrb:rb < W.heap.size) (hn:n≤100000)
  (hr:∀ V,Below W.heap.size W V→V.heap.size=W.heap.size + 2→Calls Tryz.prog 35 #[.pointer (some ⟨b1,0,none⟩),.pointer (some ⟨b2,0,none⟩)] V fun e W'=>WhQ rb a c n S D V e W') :
  Calls Tryz.prog 25 #[.pointer (some ⟨rb,0,none⟩),.func (.func 35) #[] #[.pointer (some ⟨b1,0,none⟩),.pointer (some ⟨b2,0,none⟩)]] W fun e W''=>∃ V W',WhV W V∧WhK W W' W'' ∧
   ((∃ p:Nat,e=.returned (.tuple #[.int .i64 (p:Int),.bool false])∧S p V W')∨∃ j:Nat,e=.returned (.tuple #[.int .i64 (j:Int),.bool ((j:Int) == (n:Int))])∧D j V W'):=by
 have hmf:∀ (fn:Fn) (first cap:Array Value) (w:World),(Instr.makeFunc fn first cap).run Tryz.prog w=.ok (.func fn first cap) w:=fun _ _ _ _=>rfl
 obtain ⟨V,hV⟩:∃ V,(W.alloc (.cells #[.int .i64 0] 3)).alloc (.cells #[.bool false] 4)=V:=⟨_,rfl⟩
 have hb:Below W.heap.size W V:=by rw [←hV];exact ((Below.refl _ _).alloc (Nat.le_refl _) _).alloc (by simp) _
 have hz:V.heap.size=W.heap.size + 2:=by rw [←hV];simp
 have hB1:Hid (Blk V W.heap.size (.cells #[.int .i64 0] 3 (0,0))):=by
  have h1:Blk (W.alloc (.cells #[.int .i64 0] 3)) W.heap.size (.cells #[.int .i64 0] 3 (0,0)):=Blk.new
  rw [←hV]
  exact h1.below ((Below.refl _ _).alloc (Nat.le_refl _) _)
 have hB2:Hid (Blk V (W.heap.size + 1) (.cells #[.bool false] 4 (0,0))):=by
  have e:(W.alloc (.cells #[.int .i64 0] 3)).heap.size=W.heap.size + 1:=by simp
  rw [←hV,←e]
  exact Blk.new
 have hr':=Lib.hid (hr V hb hz)
 have hV':=Lib.hid hV
 have hb':=Lib.hid hb
 have hz':=Lib.hid hz
 clear hr hV hb hz
 go_enter_defers Tryz.func25,Tryz.ntmps25
 go_wp2_with fail
 rw [hV'.out]
 refine hr'.out.mono ?_
 rintro e W' ⟨hs,hk,hm⟩
 have k1:Blk W' W.heap.size (.cells #[.int .i64 0] 3 (0,0)):=(hk _ (.inl hz'.out.symm)).trans hB1.out
 have k2:Blk W' (W.heap.size + 1) (.cells #[.bool false] 4 (0,0)):=(hk _ (.inr hz'.out.symm)).trans hB2.out
 have c1:W'.cell? ⟨W.heap.size,0,none⟩=some (.int .i64 0):=(k1.cl 0).trans rfl
 have c2:W'.cell? ⟨W.heap.size + 1,0,none⟩=some (.bool false):=(k2.cl 0).trans rfl
 have f1:=k1.fr 0
 have f2:=k2.fr 0
 have l1:=k1.lt
 have l2:=k2.lt
 rcases hm with ⟨p,rfl,hS⟩ | ⟨j,rfl,hD,r0,r1⟩
 ·
  unfold stuckE
  dsimp only
  refine leaves_cons (f:=61) (args:=#[.pointer (some ⟨W.heap.size,0,none⟩),.pointer (some ⟨W.heap.size + 1,0,none⟩)]) (by simp) (by simp [go_sem]) ?_
  refine (whole_catch W.heap.size (W.heap.size + 1) p _ _ [] W' c1 c2 f1 f2 l1 l2 (by omega)).mono ?_
  rintro e u' w'' ⟨rfl,rfl,hw⟩
  have s1:=k1.at 0 (.int .i64 (p:Int))
  have s2:=(k2.own s1.2 (by omega)).at 0 (.bool false)
  have s1b:=s1.1.own s2.2 (by omega)
  have zz:w''.heap.size=W'.heap.size + 1:=by rw [hw];simp [size_set]
  have sb:Below W'.heap.size ((W'.setCell ⟨W.heap.size,0,none⟩ (.int .i64 (p:Int))).setCell ⟨W.heap.size + 1,0,none⟩ (.bool false)) w'':=by rw [hw];exact (Below.refl _ _).alloc (by simp [size_set]) _
  have q1:w''.cell? ⟨W.heap.size,0,none⟩=some (.int .i64 (p:Int)):=((Blk.cl ((sb.block _ l1).trans s1b) 0)).trans rfl
  have q2:w''.cell? ⟨W.heap.size + 1,0,none⟩=some (.bool false):=((Blk.cl ((sb.block _ l2).trans s2.1) 0)).trans rfl
  have hK:WhK W W' w'':=⟨sb.os.trans rfl,sb.tape.trans rfl,sb.output.trans rfl,by omega,fun k h0 h1 h2=>(sb.block k h0).trans ((s2.2.other k h2).trans (s1.2.other k h1))⟩
  have hB0:WhV W V:=⟨hb'.out,hz'.out⟩
  clear hw s1 s2 s1b zz sb k1 k2 c1 c2 f1 f2 hk hr' hB1 hB2
  dsimp only
  simp [Leaves,settle,results,Tryz.results25,go_sem,q1,q2]
  exact ⟨V,hB0,W',hK,.inl ⟨p,rfl,hS⟩⟩
 ·
  go_wp2_with fail
  have hne1:rb≠W.heap.size:=by omega
  have hne2:rb≠W.heap.size + 1:=by omega
  have hne3:W.heap.size≠rb:=by omega
  have hne4:W.heap.size + 1≠rb:=by omega
  go_region_held3 (fun X=>X.cell? ⟨rb,0,none⟩=some (.slice a n c)∧X.cell? ⟨rb,1,none⟩=some (.int .i64 (j:Int))) (refine ⟨?_,?_⟩ <;> go_simp) (fail)
  all_goals
   have s1:=k1.at 0 (.int .i64 (j:Int))
   have s2:=(k2.own s1.2 (by omega)).at 0 (.bool ((j:Int) == (n:Int)))
   have s1b:=s1.1.own s2.2 (by omega)
   obtain ⟨Z,hZ⟩:∃ Z,((W'.setCell ⟨W.heap.size,0,none⟩ (.int .i64 (j:Int))).setCell ⟨W.heap.size + 1,0,none⟩ (.bool ((j:Int) == (n:Int)))).drew=Z:=⟨_,rfl⟩
   have sb:Below W'.heap.size ((W'.setCell ⟨W.heap.size,0,none⟩ (.int .i64 (j:Int))).setCell ⟨W.heap.size + 1,0,none⟩ (.bool ((j:Int) == (n:Int)))) Z:=by rw [←hZ];exact (Below.refl _ _).drew
   have zz:Z.heap.size=W'.heap.size:=by rw [←hZ];simp [size_set,World.drew]
   have q1:Z.cell? ⟨W.heap.size,0,none⟩=some (.int .i64 (j:Int)):=((Blk.cl ((sb.block _ l1).trans s1b) 0)).trans rfl
   have q2:Z.cell? ⟨W.heap.size + 1,0,none⟩=some (.bool ((j:Int) == (n:Int))):=((Blk.cl ((sb.block _ l2).trans s2.1) 0)).trans rfl
   have hK:WhK W W' Z:=⟨sb.os.trans rfl,sb.tape.trans rfl,sb.output.trans rfl,by omega,fun k h0 h1 h2=>(sb.block k h0).trans ((s2.2.other k h2).trans (s1.2.other k h1))⟩
   have hB0:WhV W V:=⟨hb'.out,hz'.out⟩
   rw [hZ]
   clear s1 s2 s1b zz sb k1 k2 c1 c2 f1 f2 hk hr' hB1 hB2 r0 r1 hZ
   go_wp2_with fail
   refine leaves_cons (f:=61) (args:=#[.pointer (some ⟨W.heap.size,0,none⟩),.pointer (some ⟨W.heap.size + 1,0,none⟩)]) (by simp) (by simp [go_sem]) ?_
   refine (whole_idle W.heap.size (W.heap.size + 1) Z).mono ?_
   rintro e u' w'' ⟨rfl,rfl,rfl⟩
   dsimp only
   simp [Leaves,settle,results,Tryz.results25,go_sem,q1,q2]
   exact ⟨V,hB0,W',hK,.inr ⟨j,⟨rfl,rfl⟩,hD⟩⟩
end Go.Proofs.YtinjocchommbdaaGreatDoor
namespace Go.Proofs.YtinjocchommbdaaGreatDoor
open Go.RowKit
def exZ:Value:=.agg #[.int .i64 0,.string ⟨#[]⟩,.int .i64 0,.slice none 0 0,.slice none 0 0]
def pgZ:Value:=.agg #[.slice none 0 0,.slice none 0 0]
def ParR {α:Type} (F:Except Nat α) (chk:α→Bool) (zero:Value) (Is:World→Value→α→Prop) (l:List Tk) (e:Ending) (W':World):Prop :=
 match F with
 | .error p=>e=.returned (.tuple #[zero,plV6 (placeT l p),.int .i64 60])
 | .ok y=>if chk y=true then ∃ v,e=.returned (.tuple #[v,plV6 (0,0),.int .i64 0])∧Is W' v y else e=.returned (.tuple #[zero,plV6 (placeT l 0),.int .i64 61])
structure Kb (b m:Nat) (V W:World):Prop where
 os:W.os=V.os
 tape:W.tape=V.tape
 output:W.output=V.output
 size:V.heap.size≤W.heap.size
 block:∀ k,k < V.heap.size→k≠b→k≠m→W.heap[k]?=V.heap[k]?
theorem results_pE {fn:Func} {t u s:Tmp} (h:fn.results=#[.cell t 27,.cell u 29,.tmp s]) (tmps:Array Value) (w:World) {b d:Nat} {x0 x1 x2 x3 x4 y0 y1 z:Value} (ha:tmps.getD t undef=.pointer (some ⟨b,0,none⟩)) (hu:tmps.getD u undef=.pointer (some ⟨d,0,none⟩)) (hs:tmps.getD s undef=z)
  (hc:Blk w b (.cells #[x0,x1,x2,x3,x4] 27 (0,0))) (hd:Blk w d (.cells #[y0,y1] 29 (0,0))):(results fn tmps).run Tryz.prog w=.ok (.tuple #[.agg #[x0,x1,x2,x3,x4],.agg #[y0,y1],z]) w:=by
 have h0:=hc.cl 0
 have h1:=hc.cl 1
 have h2:=hc.cl 2
 have h3:=hc.cl 3
 have h4:=hc.cl 4
 have g0:=hd.cl 0
 have g1:=hd.cl 1
 have e2:=Tryz.isAgg27
 have e3:=Tryz.sizeOf27
 have e4:=Tryz.isAgg29
 have e5:=Tryz.sizeOf29
 have ha':tmps[t]?.getD undef=.pointer (some ⟨b,0,none⟩):=by simpa using ha
 have hu':tmps[u]?.getD undef=.pointer (some ⟨d,0,none⟩):=by simpa using hu
 have hs':tmps[s]?.getD undef=z:=by simpa using hs
 simp [results,h,ha',hu',hs',asAddr,loadVar,e2,e4,loadCells,loadCellsFrom,Result.andThen,h0,h1,h2,h3,h4,g0,g1,Addr.add,load,Sem.run]
set_option maxHeartbeats 4000000 in
set_option maxRecDepth 100000 in
theorem par_cloE (l:List Tk) (x:Except Nat (List Ex × Nat)) (V:World) (rb b5 b2:Nat) (a:Option Addr) (c:Nat)
  (hR:Rd V rb a c l 0) (h5:V.cell? ⟨b5,0,none⟩=some (.pointer (some ⟨rb,0,none⟩))) (h2:Blk V b2 (.cells #[.int .i64 0,.string ⟨#[]⟩,.int .i64 0,.slice none 0 0,.slice none 0 0] 27 (0,0))) (hne:b2≠rb) (hlt:rb + 2 < V.heap.size) (hlt2:b2 + 2 < V.heap.size)
  (hE:∀ W:World,Rd W rb a c l 0→Calls Tryz.prog 27 #[.pointer (some ⟨rb,0,none⟩)] W fun e W'=>ExR W rb a c l x e W') :
  Calls Tryz.prog 26 #[.pointer (some ⟨b5,0,none⟩),.pointer (some ⟨b2,0,none⟩)] V fun e W'=>WhQ rb a c l.length (fun p V W'=>x=.error p∧Bb V.heap.size rb V W') (fun j V W'=>∃ y kk ss nn a1 m1 c1 a2 m2 c2,x=.ok ([y],j)∧j≤l.length∧Kb rb b2 V W'∧Blk W' b2 (.cells #[.int .i64 kk,.string ss,.int .i64 nn,.slice a1 m1 c1,.slice a2 m2 c2] 27 (0,0))∧Lay V.heap.size W'.heap.size W' fun x=>IsEx x (.agg #[.int .i64 kk,.string ss,.int .i64 nn,.slice a1 m1 c1,.slice a2 m2 c2]) y) V e W':=by
 have hcE:=Lib.hid (hE V hR)
 have hR':=Lib.hid hR
 have h2':=Lib.hid h2
 clear hE hR h2
 go_enter Tryz.func26,Tryz.ntmps26
 go_wp2_with fail
 refine hcE.out.mono ?_
 rintro e W' ⟨hB,hm⟩
 rcases x with p | ⟨es,j⟩
 case error =>
  obtain rfl:=hm
  refine ⟨rfl,hB.size,fun k hk=>hB.block k (by omega) (by omega),.inl ⟨p,rfl,rfl,hB⟩⟩
 obtain ⟨v,y,rfl,rfl,hL,hRd⟩:=hm
 obtain ⟨kk,ss,nn,a1,m1,c1,a2,m2,c2,rfl⟩:=hL.out.agg
 have hb:Blk W' b2 (.cells #[.int .i64 0,.string ⟨#[]⟩,.int .i64 0,.slice none 0 0,.slice none 0 0] 27 (0,0)):=h2'.out.bb hB hne
 have z0:W'.cell? ⟨b2,0,none⟩=some (.int .i64 0):=(hb.cl 0).trans rfl
 have z1:W'.cell? ⟨b2,1,none⟩=some (.string ⟨#[]⟩):=(hb.cl 1).trans rfl
 have z2:W'.cell? ⟨b2,2,none⟩=some (.int .i64 0):=(hb.cl 2).trans rfl
 have z3:W'.cell? ⟨b2,3,none⟩=some (.slice none 0 0):=(hb.cl 3).trans rfl
 have z4:W'.cell? ⟨b2,4,none⟩=some (.slice none 0 0):=(hb.cl 4).trans rfl
 have hf:=hb.fr
 have hl2:=hb.lt
 have hs:=(show Box5 W' 27 b2 (.int .i64 0) (.string ⟨#[]⟩) (.int .i64 0) (.slice none 0 0) (.slice none 0 0) from hb).set (.int .i64 kk) (.string ss) (.int .i64 nn) (.slice a1 m1 c1) (.slice a2 m2 c2)
 have hc2:=hRd.cells
 obtain ⟨Z,hZ⟩:∃ Z,((((W'.setCell ⟨b2,0,none⟩ (.int .i64 kk)).setCell ⟨b2,1,none⟩ (.string ss)).setCell ⟨b2,2,none⟩ (.int .i64 nn)).setCell ⟨b2,3,none⟩ (.slice a1 m1 c1)).setCell ⟨b2,4,none⟩ (.slice a2 m2 c2)=Z:=⟨_,rfl⟩
 unfold World.set5 at hs
 rw [hZ] at hs
 have hfin:Hid (WhQ rb a c l.length (fun p V W'=>(Except.ok ([y],j):Except Nat (List Ex × Nat))=.error p∧Bb V.heap.size rb V W') (fun j2 V W'=>∃ y9 kk ss nn a1 m1 c1 a2 m2 c2,(Except.ok ([y],j):Except Nat (List Ex × Nat))=.ok ([y9],j2)∧j2≤l.length∧Kb rb b2 V W'∧Blk W' b2 (.cells #[.int .i64 kk,.string ss,.int .i64 nn,.slice a1 m1 c1,.slice a2 m2 c2] 27 (0,0))∧Lay V.heap.size W'.heap.size W' fun x=>IsEx x (.agg #[.int .i64 kk,.string ss,.int .i64 nn,.slice a1 m1 c1,.slice a2 m2 c2]) y9) V (.returned (.tuple #[])) Z):=by
  have hk:∀ k,k < V.heap.size→k≠rb→k≠b2→Z.heap[k]?=V.heap[k]?:=fun k h0 h1 h2=>(hs.2.other k h2).trans (hB.block k h0 h1)
  have hz:V.heap.size≤Z.heap.size:=by rw [hs.2.size];exact hB.size
  have hr:Rd Z rb a c l j→Z.cell? ⟨rb,0,none⟩=some (.slice a l.length c)∧Z.cell? ⟨rb,1,none⟩=some (.int .i64 (j:Int)):=fun h=>⟨h.cells.1,h.cells.2.1⟩
  have hrb:Z.heap[rb]?=W'.heap[rb]?:=hs.2.other rb (fun e=>hne e.symm)
  refine ⟨hz,fun k hk2=>hk k (by omega) (by omega) (by omega),.inr ⟨j,rfl,⟨y,kk,ss,nn,a1,m1,c1,a2,m2,c2,rfl,hRd.le,⟨hs.2.below.os.trans hB.os,hs.2.below.tape.trans hB.tape,hs.2.below.output.trans hB.output,hz,hk⟩,hs.1,?_⟩,(World.cell?_of_block hrb).trans hc2.1,(World.cell?_of_block hrb).trans hc2.2.1⟩⟩
  have:=Lay.own hL hs.2 (.inl (by omega))
  rw [hs.2.size]
  exact this
 clear hs hL hRd hB hb hc2
 go_wp2_with fail
 try rw [hZ]
 go_end0
 exact hfin.out
set_option maxHeartbeats 8000000 in
set_option maxRecDepth 100000 in
theorem par_doorE (chk:Ex→Bool) (hchk:∀ (y:Ex) (v:Value) (w:World),IsEx w v y→Calls Tryz.prog 29 #[v] w fun r w'=>r=.returned (.bool (chk y))∧Below w.heap.size w w') (W:World) (v:Value) (l:List Tk) (hv:TkSl W v l) (hl:l.length≤100000) (hfit:∀ t ∈ l,TkFit t):Calls Tryz.prog 11 #[v] W fun e W'=>ParR (exprF l) chk exZ (fun w v y=>Lay W.heap.size w.heap.size w fun x=>IsEx x v y) l e W'∧Below W.heap.size W W':=by
 have hmf:∀ (fn:Fn) (first cap:Array Value) (w:World),(Instr.makeFunc fn first cap).run Tryz.prog w=.ok (.func fn first cap) w:=fun _ _ _ _=>rfl
 obtain ⟨a,c,rfl⟩:=hv.open
 obtain ⟨W4,hW4⟩:∃ V,(((W.alloc (.cells #[.int .i64 0,.string ⟨#[]⟩,.int .i64 0,.slice none 0 0,.slice none 0 0] 27)).alloc (.cells #[.int .i64 0,.int .i64 0] 29)).alloc (.cells #[.slice a l.length c,.int .i64 0] 60)).alloc (.cells #[.pointer (some ⟨W.heap.size + 2,0,none⟩)] 58)=V:=⟨_,rfl⟩
 have hz4:W4.heap.size=W.heap.size + 4:=by rw [←hW4];simp
 have hb4:Below W.heap.size W W4:=by rw [←hW4];exact (((((Below.refl _ _).alloc (Nat.le_refl _) _).alloc (by simp) _).alloc (by simp;omega) _).alloc (by simp;omega) _)
 obtain ⟨k0,k1,k2,k3⟩:Blk W4 W.heap.size (.cells #[.int .i64 0,.string ⟨#[]⟩,.int .i64 0,.slice none 0 0,.slice none 0 0] 27 (0,0))∧Blk W4 (W.heap.size + 1) (.cells #[.int .i64 0,.int .i64 0] 29 (0,0))∧Box2 W4 60 (W.heap.size + 2) (.slice a l.length c) (.int .i64 ((0:Nat):Int))∧Blk W4 (W.heap.size + 3) (.cells #[.pointer (some ⟨W.heap.size + 2,0,none⟩)] 58 (0,0)):=by
  obtain ⟨W1,hW1⟩:∃ V,W.alloc (.cells #[.int .i64 0,.string ⟨#[]⟩,.int .i64 0,.slice none 0 0,.slice none 0 0] 27)=V:=⟨_,rfl⟩
  obtain ⟨W2,hW2⟩:∃ V,W1.alloc (.cells #[.int .i64 0,.int .i64 0] 29)=V:=⟨_,rfl⟩
  obtain ⟨W3,hW3⟩:∃ V,W2.alloc (.cells #[.slice a l.length c,.int .i64 0] 60)=V:=⟨_,rfl⟩
  rw [hW1,hW2,hW3] at hW4
  have z1:W1.heap.size=W.heap.size + 1:=by rw [←hW1];simp
  have z2:W2.heap.size=W.heap.size + 2:=by rw [←hW2];simp;omega
  have z3:W3.heap.size=W.heap.size + 3:=by rw [←hW3];simp;omega
  have q0:Blk W1 W.heap.size (.cells #[.int .i64 0,.string ⟨#[]⟩,.int .i64 0,.slice none 0 0,.slice none 0 0] 27 (0,0)):=by rw [←hW1];exact Blk.new
  have q1:Blk W2 (W.heap.size + 1) (.cells #[.int .i64 0,.int .i64 0] 29 (0,0)):=by rw [←hW2,←z1];exact Blk.new
  have q2:Blk W3 (W.heap.size + 2) (.cells #[.slice a l.length c,.int .i64 0] 60 (0,0)):=by rw [←hW3];have:=Blk.new (w:=W2) (vs:=#[.slice a l.length c,.int .i64 0]) (t:=60);rw [z2] at this;exact this
  have q3:Blk W4 (W.heap.size + 3) (.cells #[.pointer (some ⟨W.heap.size + 2,0,none⟩)] 58 (0,0)):=by rw [←hW4];have:=Blk.new (w:=W3) (vs:=#[.pointer (some ⟨W.heap.size + 2,0,none⟩)]) (t:=58);rw [z3] at this;exact this
  have b12:Below W1.heap.size W1 W2:=by rw [←hW2];exact (Below.refl _ _).alloc (Nat.le_refl _) _
  have b23:Below W2.heap.size W2 W3:=by rw [←hW3];exact (Below.refl _ _).alloc (Nat.le_refl _) _
  have b34:Below W3.heap.size W3 W4:=by rw [←hW4];exact (Below.refl _ _).alloc (Nat.le_refl _) _
  exact ⟨((q0.below b12).below b23).below b34,(q1.below b23).below b34,q2.below b34,q3⟩
 have hv4:TkSl (msk (W.heap.size + 2) W4) (.slice a l.length c) l:=by
  refine hv.keeps fun x u hu=>?_
  have hb:=cell_block hu
  rw [msk_cell (by omega)]
  exact Keeps.of_below hb4 _ _ hu
 have hR4:Rd W4 (W.heap.size + 2) a c l 0:=⟨k2,hv4,hl,hfit,Nat.zero_le _⟩
 obtain ⟨x,hx,hok⟩:=pR_total l (enough l) .expr 0 trivial (Nat.zero_le _) (by unfold enough;simp only [lvR];omega)
 have hrule:∀ V:World,Rd V (W.heap.size + 2) a c l 0→Calls Tryz.prog 27 #[.pointer (some ⟨W.heap.size + 2,0,none⟩)] V fun e W'=>ExR V (W.heap.size + 2) a c l x e W':=fun V hV=>(par_all (W.heap.size + 2) a c l (enough l)).expr V 0 x hV hx
 have hF:Hid (exprF l=wholeF l (Ans6.bnd (some x) fun e j=>ok6 (headE e) j)):=by unfold Hid exprF;rw [hx]
 have hxe:Hid (∀ p,x=.error p→p≤l.length):=fun p hp=>by rw [hp] at hok;exact hok.2
 have hwh:=Lib.hid (par_wholeE W4 (W.heap.size + 2) (W.heap.size + 3) W.heap.size a c l.length (fun p V W'=>x=.error p∧Bb V.heap.size (W.heap.size + 2) V W') (fun j V W'=>∃ y kk ss nn a1 m1 c1 a2 m2 c2,x=.ok ([y],j)∧j≤l.length∧Kb (W.heap.size + 2) W.heap.size V W'∧Blk W' W.heap.size (.cells #[.int .i64 kk,.string ss,.int .i64 nn,.slice a1 m1 c1,.slice a2 m2 c2] 27 (0,0))∧Lay V.heap.size W'.heap.size W' fun x=>IsEx x (.agg #[.int .i64 kk,.string ss,.int .i64 nn,.slice a1 m1 c1,.slice a2 m2 c2]) y) (by omega) hl
  (fun V hV hVz=>par_cloE l x V (W.heap.size + 2) (W.heap.size + 3) W.heap.size a c (hR4.below (hV.mono (Nat.le_refl _))) ((Blk.cl (k3.below hV) 0).trans rfl) (k0.below hV) (by omega) (by omega) (by omega) hrule))
 have k3c:W4.cell? ⟨W.heap.size + 3,0,none⟩=some (.pointer (some ⟨W.heap.size + 2,0,none⟩)):=(k3.cl 0).trans rfl
 have hW4':=Lib.hid hW4
 have hz4':=Lib.hid hz4
 have hb4':=Lib.hid hb4
 have k0':=Lib.hid k0
 have k1':=Lib.hid k1
 have hv':=Lib.hid hv
 have hl':=Lib.hid hl
 clear hW4 hz4 hb4 k0 k1 k2 k3 hv4 hR4 hrule hv
 go_enter Tryz.func11,Tryz.ntmps11
 go_upto_region 2 with (fail)
 rw [hW4'.out]
 go_wp2_with fail
 refine hwh.out.mono ?_
 rintro e W5 ⟨V,W',⟨hV,hVz⟩,hK,hm⟩
 have hzz:=hz4'.out
 rcases hm with ⟨p,rfl,hxp,hB⟩ | ⟨j,rfl,y,kk,ss,nn,a1,m1,c1,a2,m2,c2,hxj,hj,hKb,hBk,hLy⟩
 ·
  have hVs:=hV.size
  have chain:∀ k,k < W4.heap.size→k≠W.heap.size + 2→W5.heap[k]?=W4.heap[k]?:=fun k h0 h1=>(hK.block k (by have:=hB.size;omega) (by omega) (by omega)).trans ((hB.block k (by omega) h1).trans (hV.block k h0))
  have hB5:Hid (Below W.heap.size W W5):=⟨hK.os.trans (hB.os.trans (hV.os.trans hb4'.out.os)),hK.tape.trans (hB.tape.trans (hV.tape.trans hb4'.out.tape)),hK.output.trans (hB.output.trans (hV.output.trans hb4'.out.output)),by have:=hK.size;have:=hB.size;omega,fun k h0=>(chain k (by omega) (by omega)).trans (hb4'.out.block k h0)⟩
  have q0:Hid (Blk W5 W.heap.size (.cells #[.int .i64 0,.string ⟨#[]⟩,.int .i64 0,.slice none 0 0,.slice none 0 0] 27 (0,0))):=(chain _ (by omega) (by omega)).trans k0'.out
  have q1:Hid (Blk W5 (W.heap.size + 1) (.cells #[.int .i64 0,.int .i64 0] 29 (0,0))):=(chain _ (by omega) (by omega)).trans k1'.out
  have hFp:Hid (exprF l=.error p):=by have:=hF.out;rw [hxp] at this;exact this
  have hpl':p≤l.length:=hxe.out p hxp
  clear chain hK hB hV hVs hzz hxp
  have hplc:=Lib.hid (par_place W5 (.slice a l.length c) l p (hv'.out.keeps (Keeps.of_below hB5.out)) hl'.out (by have:=hl'.out;omega))
  obtain ⟨ln,cl,hq⟩:∃ ln cl,placeT l (p)=(ln,cl):=⟨_,_,rfl⟩
  have hq':=Lib.hid hq
  rw [hq] at hplc
  unfold plV6 at hplc
  clear hq
  go_wp2_with fail
  refine hplc.out.mono ?_
  rintro e W6 ⟨rfl,hB6⟩
  have hB6b:=Lib.hid (hB5.out.trans (hB6.mono (by have:=hB5.out.size;omega)))
  have r0:=q0.out.below (hB6.mono (by have:=q0.out.lt;omega))
  have r1:=q1.out.below (hB6.mono (by have:=q1.out.lt;omega))
  have c00:W6.cell? ⟨W.heap.size,0,none⟩=some (.int .i64 0):=(r0.cl 0).trans rfl
  have c01:W6.cell? ⟨W.heap.size,1,none⟩=some (.string ⟨#[]⟩):=(r0.cl 1).trans rfl
  have c02:W6.cell? ⟨W.heap.size,2,none⟩=some (.int .i64 0):=(r0.cl 2).trans rfl
  have c03:W6.cell? ⟨W.heap.size,3,none⟩=some (.slice none 0 0):=(r0.cl 3).trans rfl
  have c04:W6.cell? ⟨W.heap.size,4,none⟩=some (.slice none 0 0):=(r0.cl 4).trans rfl
  have r0f:=r0.fr
  have r0l:=r0.lt
  have c10:W6.cell? ⟨W.heap.size + 1,0,none⟩=some (.int .i64 0):=(r1.cl 0).trans rfl
  have c11:W6.cell? ⟨W.heap.size + 1,1,none⟩=some (.int .i64 0):=(r1.cl 1).trans rfl
  have r1f:=r1.fr
  have r1l:=r1.lt
  have s0:=(show Box5 W6 27 W.heap.size (.int .i64 0) (.string ⟨#[]⟩) (.int .i64 0) (.slice none 0 0) (.slice none 0 0) from r0).set (.int .i64 0) (.string ⟨#[]⟩) (.int .i64 0) (.slice none 0 0) (.slice none 0 0)
  have s1:=((Blk.own r1 s0.2 (by omega) |> fun q=>(show Box2 _ 29 _ _ _ from q))).set (.int .i64 ln) (.int .i64 cl)
  have s0b:=Blk.own (show Blk _ _ _ from s0.1) s1.2 (by omega)
  have hfin:=Lib.hid (And.intro s0b (And.intro (show Blk _ _ _ from s1.1) (hB6b.out.trans ((s0.2.below.mono (Nat.le_refl _)).trans (s1.2.below.mono (by omega))))))
  clear s0 s1 s0b r0 r1 hB6
  go_wp2_with fail
  refine bodyPost_ret (results_pE rfl _ _ rfl rfl rfl hfin.out.1 hfin.out.2.1) rfl ⟨?_,hfin.out.2.2⟩
  rw [hFp.out]
  show _=_
  rw [hq'.out]
  rfl
 ·
  have hVs:=hV.size
  have chain:∀ k,k < W4.heap.size→k≠W.heap.size + 2→k≠W.heap.size→W5.heap[k]?=W4.heap[k]?:=fun k h0 h1 h2=>(hK.block k (by have:=hKb.size;omega) (by omega) (by omega)).trans ((hKb.block k (by omega) h1 h2).trans (hV.block k h0))
  have hB5:Hid (Below W.heap.size W W5):=⟨hK.os.trans (hKb.os.trans (hV.os.trans hb4'.out.os)),hK.tape.trans (hKb.tape.trans (hV.tape.trans hb4'.out.tape)),hK.output.trans (hKb.output.trans (hV.output.trans hb4'.out.output)),by have:=hK.size;have:=hKb.size;omega,fun k h0=>(chain k (by omega) (by omega) (by omega)).trans (hb4'.out.block k h0)⟩
  have q0:Hid (Blk W5 W.heap.size (.cells #[.int .i64 kk,.string ss,.int .i64 nn,.slice a1 m1 c1,.slice a2 m2 c2] 27 (0,0))):=(hK.block _ (by have:=hKb.size;omega) (by omega) (by omega)).trans hBk
  have q1:Hid (Blk W5 (W.heap.size + 1) (.cells #[.int .i64 0,.int .i64 0] 29 (0,0))):=(chain _ (by omega) (by omega) (by omega)).trans k1'.out
  have hL5:Hid (Lay V.heap.size W'.heap.size W5 fun x=>IsEx x (.agg #[.int .i64 kk,.string ss,.int .i64 nn,.slice a1 m1 c1,.slice a2 m2 c2]) y):=hLy.of hK.size fun k h0 h1=>hK.block k h1 (by omega) (by omega)
  have hVw:Hid (W.heap.size + 2≤V.heap.size):=by unfold Hid;omega
  clear hBk hLy chain hKb hK hV hVs hzz hVz
  by_cases hjl:j=l.length
  case neg =>
   have hd:((j:Int) == (l.length:Int))=false:=by simp;omega
   have hFp:Hid (exprF l=.error j):=by have:=hF.out;rw [hxj] at this;unfold Hid;rw [this];show (if j=l.length then _ else _)=_;rw [if_neg hjl]
   have hplc:=Lib.hid (par_place W5 (.slice a l.length c) l j (hv'.out.keeps (Keeps.of_below hB5.out)) hl'.out (by have:=hl'.out;omega))
   clear hjl hxj
   obtain ⟨ln,cl,hq⟩:∃ ln cl,placeT l (j)=(ln,cl):=⟨_,_,rfl⟩
   have hq':=Lib.hid hq
   rw [hq] at hplc
   unfold plV6 at hplc
   clear hq
   go_wp2_with fail
   refine hplc.out.mono ?_
   rintro e W6 ⟨rfl,hB6⟩
   have hB6b:=Lib.hid (hB5.out.trans (hB6.mono (by have:=hB5.out.size;omega)))
   have r0:=q0.out.below (hB6.mono (by have:=q0.out.lt;omega))
   have r1:=q1.out.below (hB6.mono (by have:=q1.out.lt;omega))
   have c00:W6.cell? ⟨W.heap.size,0,none⟩=some (.int .i64 kk):=(r0.cl 0).trans rfl
   have c01:W6.cell? ⟨W.heap.size,1,none⟩=some (.string ss):=(r0.cl 1).trans rfl
   have c02:W6.cell? ⟨W.heap.size,2,none⟩=some (.int .i64 nn):=(r0.cl 2).trans rfl
   have c03:W6.cell? ⟨W.heap.size,3,none⟩=some (.slice a1 m1 c1):=(r0.cl 3).trans rfl
   have c04:W6.cell? ⟨W.heap.size,4,none⟩=some (.slice a2 m2 c2):=(r0.cl 4).trans rfl
   have r0f:=r0.fr
   have r0l:=r0.lt
   have c10:W6.cell? ⟨W.heap.size + 1,0,none⟩=some (.int .i64 0):=(r1.cl 0).trans rfl
   have c11:W6.cell? ⟨W.heap.size + 1,1,none⟩=some (.int .i64 0):=(r1.cl 1).trans rfl
   have r1f:=r1.fr
   have r1l:=r1.lt
   have s0:=(show Box5 W6 27 W.heap.size (.int .i64 kk) (.string ss) (.int .i64 nn) (.slice a1 m1 c1) (.slice a2 m2 c2) from r0).set (.int .i64 0) (.string ⟨#[]⟩) (.int .i64 0) (.slice none 0 0) (.slice none 0 0)
   have s1:=((Blk.own r1 s0.2 (by omega) |> fun q=>(show Box2 _ 29 _ _ _ from q))).set (.int .i64 ln) (.int .i64 cl)
   have s0b:=Blk.own (show Blk _ _ _ from s0.1) s1.2 (by omega)
   have hfin:=Lib.hid (And.intro s0b (And.intro (show Blk _ _ _ from s1.1) (hB6b.out.trans ((s0.2.below.mono (Nat.le_refl _)).trans (s1.2.below.mono (by omega))))))
   clear s0 s1 s0b r0 r1 hB6
   go_wp2_with fail
   refine bodyPost_ret (results_pE rfl _ _ rfl rfl rfl hfin.out.1 hfin.out.2.1) rfl ⟨?_,hfin.out.2.2⟩
   rw [hFp.out]
   show _=_
   rw [hq'.out]
   rfl
  subst hjl
  have hFp:Hid (exprF l=.ok y):=by have:=hF.out;rw [hxj] at this;unfold Hid;rw [this];show (if l.length=l.length then _ else _)=_;rw [if_pos rfl];all_goals rfl
  have hck:=Lib.hid (hchk y (.agg #[.int .i64 kk,.string ss,.int .i64 nn,.slice a1 m1 c1,.slice a2 m2 c2]) W5 hL5.out.out)
  clear hxj
  cases hcy:chk y with
  | false =>
   rw [hcy] at hck
   have hplc:=Lib.hid (fun V8 (hV8:Below W5.heap.size W5 V8)=>par_place V8 (.slice a l.length c) l 0 (hv'.out.keeps (Keeps.of_below (hB5.out.trans (hV8.mono hB5.out.size)))) hl'.out (by omega))
   have w00:W5.cell? ⟨W.heap.size,0,none⟩=some (.int .i64 kk):=(q0.out.cl 0).trans rfl
   have w01:W5.cell? ⟨W.heap.size,1,none⟩=some (.string ss):=(q0.out.cl 1).trans rfl
   have w02:W5.cell? ⟨W.heap.size,2,none⟩=some (.int .i64 nn):=(q0.out.cl 2).trans rfl
   have w03:W5.cell? ⟨W.heap.size,3,none⟩=some (.slice a1 m1 c1):=(q0.out.cl 3).trans rfl
   have w04:W5.cell? ⟨W.heap.size,4,none⟩=some (.slice a2 m2 c2):=(q0.out.cl 4).trans rfl
   go_wp2_with fail
   refine hck.out.mono ?_
   rintro e W5b ⟨rfl,hB5b⟩
   have hB5c:=Lib.hid (hB5.out.trans (hB5b.mono hB5.out.size))
   have hplc2:=Lib.hid (hplc.out W5b hB5b)
   have q0b:=Lib.hid (q0.out.below hB5b)
   have q1b:=Lib.hid (q1.out.below hB5b)
   clear hplc hB5b
   clear w00 w01 w02 w03 w04
   obtain ⟨ln,cl,hq⟩:∃ ln cl,placeT l (0)=(ln,cl):=⟨_,_,rfl⟩
   have hq':=Lib.hid hq
   rw [hq] at hplc2
   unfold plV6 at hplc2
   clear hq
   go_wp2_with fail
   refine hplc2.out.mono ?_
   rintro e W6 ⟨rfl,hB6⟩
   have hB6b:=Lib.hid (hB5c.out.trans (hB6.mono (by have:=hB5c.out.size;omega)))
   have r0:=q0b.out.below (hB6.mono (by have:=q0b.out.lt;omega))
   have r1:=q1b.out.below (hB6.mono (by have:=q1b.out.lt;omega))
   have c00:W6.cell? ⟨W.heap.size,0,none⟩=some (.int .i64 kk):=(r0.cl 0).trans rfl
   have c01:W6.cell? ⟨W.heap.size,1,none⟩=some (.string ss):=(r0.cl 1).trans rfl
   have c02:W6.cell? ⟨W.heap.size,2,none⟩=some (.int .i64 nn):=(r0.cl 2).trans rfl
   have c03:W6.cell? ⟨W.heap.size,3,none⟩=some (.slice a1 m1 c1):=(r0.cl 3).trans rfl
   have c04:W6.cell? ⟨W.heap.size,4,none⟩=some (.slice a2 m2 c2):=(r0.cl 4).trans rfl
   have r0f:=r0.fr
   have r0l:=r0.lt
   have c10:W6.cell? ⟨W.heap.size + 1,0,none⟩=some (.int .i64 0):=(r1.cl 0).trans rfl
   have c11:W6.cell? ⟨W.heap.size + 1,1,none⟩=some (.int .i64 0):=(r1.cl 1).trans rfl
   have r1f:=r1.fr
   have r1l:=r1.lt
   have s0:=(show Box5 W6 27 W.heap.size (.int .i64 kk) (.string ss) (.int .i64 nn) (.slice a1 m1 c1) (.slice a2 m2 c2) from r0).set (.int .i64 0) (.string ⟨#[]⟩) (.int .i64 0) (.slice none 0 0) (.slice none 0 0)
   have s1:=((Blk.own r1 s0.2 (by omega) |> fun q=>(show Box2 _ 29 _ _ _ from q))).set (.int .i64 ln) (.int .i64 cl)
   have s0b:=Blk.own (show Blk _ _ _ from s0.1) s1.2 (by omega)
   have hfin:=Lib.hid (And.intro s0b (And.intro (show Blk _ _ _ from s1.1) (hB6b.out.trans ((s0.2.below.mono (Nat.le_refl _)).trans (s1.2.below.mono (by omega))))))
   clear s0 s1 s0b r0 r1 hB6
   go_wp2_with fail
   refine bodyPost_ret (results_pE rfl _ _ rfl rfl rfl hfin.out.1 hfin.out.2.1) rfl ⟨?_,hfin.out.2.2⟩
   rw [hFp.out]
   show (if chk y=true then _ else _)
   rw [if_neg (by rw [hcy];simp),hq'.out]
   rfl
  | true =>
   rw [hcy] at hck
   have w00:W5.cell? ⟨W.heap.size,0,none⟩=some (.int .i64 kk):=(q0.out.cl 0).trans rfl
   have w01:W5.cell? ⟨W.heap.size,1,none⟩=some (.string ss):=(q0.out.cl 1).trans rfl
   have w02:W5.cell? ⟨W.heap.size,2,none⟩=some (.int .i64 nn):=(q0.out.cl 2).trans rfl
   have w03:W5.cell? ⟨W.heap.size,3,none⟩=some (.slice a1 m1 c1):=(q0.out.cl 3).trans rfl
   have w04:W5.cell? ⟨W.heap.size,4,none⟩=some (.slice a2 m2 c2):=(q0.out.cl 4).trans rfl
   go_wp2_with fail
   refine hck.out.mono ?_
   rintro e W6 ⟨rfl,hB6⟩
   clear w00 w01 w02 w03 w04
   have r0:=q0.out.below hB6
   have r1:=q1.out.below hB6
   have hL6:=hL5.out.below hB6
   have c00:W6.cell? ⟨W.heap.size,0,none⟩=some (.int .i64 kk):=(r0.cl 0).trans rfl
   have c01:W6.cell? ⟨W.heap.size,1,none⟩=some (.string ss):=(r0.cl 1).trans rfl
   have c02:W6.cell? ⟨W.heap.size,2,none⟩=some (.int .i64 nn):=(r0.cl 2).trans rfl
   have c03:W6.cell? ⟨W.heap.size,3,none⟩=some (.slice a1 m1 c1):=(r0.cl 3).trans rfl
   have c04:W6.cell? ⟨W.heap.size,4,none⟩=some (.slice a2 m2 c2):=(r0.cl 4).trans rfl
   have r0f:=r0.fr
   have r0l:=r0.lt
   have c10:W6.cell? ⟨W.heap.size + 1,0,none⟩=some (.int .i64 0):=(r1.cl 0).trans rfl
   have c11:W6.cell? ⟨W.heap.size + 1,1,none⟩=some (.int .i64 0):=(r1.cl 1).trans rfl
   have r1f:=r1.fr
   have r1l:=r1.lt
   have s0:=(show Box5 W6 27 W.heap.size (.int .i64 kk) (.string ss) (.int .i64 nn) (.slice a1 m1 c1) (.slice a2 m2 c2) from r0).set (.int .i64 kk) (.string ss) (.int .i64 nn) (.slice a1 m1 c1) (.slice a2 m2 c2)
   have s1:=((Blk.own r1 s0.2 (by omega) |> fun q=>(show Box2 _ 29 _ _ _ from q))).set (.int .i64 0) (.int .i64 0)
   have s0b:=Blk.own (show Blk _ _ _ from s0.1) s1.2 (by omega)
   have hL7:=(hL6.own s0.2 (.inl (by have:=hVw.out;omega))).own s1.2 (.inl (by have:=hVw.out;omega))
   have hfin:=Lib.hid (And.intro s0b (And.intro (show Blk _ _ _ from s1.1) (And.intro ((hB5.out.trans (hB6.mono hB5.out.size)).trans ((s0.2.below.mono (Nat.le_refl _)).trans (s1.2.below.mono (by omega)))) (hL7.wide (B':=W.heap.size) (by have:=hVw.out;omega) hL7.1 (Nat.le_refl _)))))
   clear s0 s1 s0b r0 r1 hB6 hL6 hL7
   go_wp2_with fail
   refine bodyPost_ret (results_pE rfl _ _ rfl rfl rfl hfin.out.1 hfin.out.2.1) rfl ⟨?_,hfin.out.2.2.1⟩
   rw [hFp.out]
   show (if chk y=true then _ else _)
   rw [if_pos hcy]
   exact ⟨_,rfl,hfin.out.2.2.2⟩
end Go.Proofs.YtinjocchommbdaaGreatDoor
