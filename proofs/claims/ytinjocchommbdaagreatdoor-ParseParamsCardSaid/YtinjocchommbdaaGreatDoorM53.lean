/- A part of the proof that parser laws hold: texts of the walk and of its plain laws, made small. -/
import Derived.Test.YtinjocchommbdaaGreatDoorM46
set_option linter.unusedVariables false
set_option linter.unusedSimpArgs false
namespace Go.Proofs.YtinjocchommbdaaGreatDoor
open Go.RowKit
theorem wpList_app_run {P:Program} {w w':World} {ops:Array Oper} {rest:List Oper} {o:Oper} {a:Act} {Q:Exit→Act→World→Prop} (s x:Operand) (t:TypeId) (hgd:o.guard=none) (v v':Value) (sa:Option Addr) (m c:Nat)
  (ho:o.op=.call { callee:=.builtin .append,args:=#[s,x],argTypes:=#[t,t] }) (hs:a.eval s=v) (hx:a.eval x=.slice sa m c)
  (hr:(Builtin.append_ #[t,t] o.type #[v,.slice sa m c]).run P w=.ok v' w') (h:wpList P ops Q rest (a.put o.dst v') w'):wpList P ops Q (o :: rest) a w :=
 wpList_plain hgd fun _ hK=>wp_append_run s x t v v' sa m c ho hs hx hr (hK _ _ h)
set_option maxRecDepth 100000 in
theorem tk_app {B0:Nat} {V:World} {x:Value} {P ts:List Tk} {sa:Option Addr} {ca:Nat} (hown:V.ownsRow B0 51 5 x P.length (tkCs P)) (hT:TkSl V (.slice sa ts.length ca) ts) (h1:P.length≤1000000) (h2:ts.length≤1000000) (hB:B0≤V.heap.size) :
  ∃ va vc V',(Builtin.append_ #[22,22] 22 #[x,.slice sa ts.length ca]).run Tryz.prog V=.ok (.slice va (P ++ ts).length vc) V'∧V'.ownsRow B0 51 5 (.slice va (P ++ ts).length vc) (P ++ ts).length (tkCs (P ++ ts))∧V.grownBy V' x.ownBlock∧((Value.slice va (P ++ ts).length vc).ownBlock=x.ownBlock∨(Value.slice va (P ++ ts).length vc).ownBlock=some V.heap.size):=by
 obtain ⟨i0,hi,hz0,hz1',hz2'⟩:=info_of Tryz.infoTk
 obtain ⟨_,⟨hn,hc⟩,hr⟩:=hT.at
 obtain ⟨v',w3,hrun,hr3,hg,hx⟩:=run_append_own_src (P:=Tryz.prog) V B0 22 22 51 i0 (.agg #[.int .i64 0,.string ⟨#[]⟩,.int .i64 0,.int .i64 0,.int .i64 0]) 5 48 Tryz.underlying22 hi hz0 hz1' hz2' rfl (by decide) _ _ _ hown sa ts.length ca (tkCs ts) (fun e=>⟨by have:=hn e;omega,hn e⟩) (tkCs_len ts) hr.cells (tkCs_one ts) (by unfold maxLen;omega) (by omega) hB
 obtain ⟨va,vc,rfl,_⟩:=tk_own_form hr3
 rw [←List.length_append] at hrun hr3 hx
 rw [←tkCs_append] at hr3
 exact ⟨va,vc,w3,hrun,hr3,hg,hx⟩
theorem tk_row {V:World} {B0:Nat} (hB:B0≤V.heap.size) (ts:List Tk) (hl:ts.length≤1000000):(V.alloc (.cells (tkCs ts).toArray 51)).ownsRow B0 51 5 (.slice (some ⟨V.heap.size,0,none⟩) ts.length ts.length) ts.length (tkCs ts) :=
 ⟨tkCs_len ts,.inr ⟨V.heap.size,ts.length,(tkCs ts).toArray,rfl,hB,tk_alloc_block V _,Nat.le_refl _,by unfold maxLen;omega,by simp [tkCs_len],by simp [←tkCs_len ts]⟩⟩
theorem tk_one {V:World} {B0:Nat} (hB:B0≤V.heap.size) (nt:Tk):(V.alloc (.cells (tkC nt).toArray 51)).ownsRow B0 51 5 (.slice (some ⟨V.heap.size,0,none⟩) 1 1) 1 (tkCs [nt]):=by
 have:=tk_row hB [nt] (by simp)
 rwa [show tkCs [nt]=tkC nt by simp [tkCs]] at this ⊢
def CpW (B0:Nat) (Wb:World) (P ts:List Tk) (nt:Tk) (p1 p3 p5 p6:Bool) (x1 x3 x5 x6:Value) (V:World):Prop :=
 (Below B0 Wb V∧B0≤V.heap.size) ∧
 (p1=true→p3=false→V.ownsRow B0 51 5 x1 P.length (tkCs P)) ∧
 (p3=true→p6=false→∃ va vc,x3=.slice va (P ++ ts).length vc∧V.ownsRow B0 51 5 x3 (P ++ ts).length (tkCs (P ++ ts))) ∧
 (p5=true→p6=false→∃ g,x5=.slice (some ⟨g,0,none⟩) 1 1∧B0≤g∧V.heap[g]?=some (.cells (tkC nt).toArray 51 (0,0))∧(p1=true→p3=false→x1.ownBlock≠some g)∧(p3=true→x3.ownBlock≠some g)) ∧
 (p6=true→∃ va vc,x6=.slice va (P ++ ts ++ [nt]).length vc∧V.ownsRow B0 51 5 x6 (P ++ ts ++ [nt]).length (tkCs (P ++ ts ++ [nt])))
section
variable {B0:Nat} {Wb V V':World} {P ts:List Tk} {nt:Tk} {p1 p3 p5 p6:Bool} {x1 x3 x5 x6:Value}
theorem CpW.start (Wb:World) (P ts:List Tk) (nt:Tk) (x1 x3 x5 x6:Value):CpW Wb.heap.size Wb P ts nt false false false false x1 x3 x5 x6 Wb.drew :=
 ⟨⟨(Below.refl _ _).drew,Nat.le_refl _⟩,fun h=>(by cases h),fun h=>(by cases h),fun h=>(by cases h),fun h=>(by cases h)⟩
theorem CpW.any (h:CpW B0 Wb P ts nt p1 p3 p5 p6 x1 x3 x5 x6 V) (hb:Below V.heap.size V V'):CpW B0 Wb P ts nt p1 p3 p5 p6 x1 x3 x5 x6 V':=by
 obtain ⟨⟨h1,h0⟩,h2,h3,h4,h5⟩:=h
 have hk:∀ {n:Nat} {xs:List Value} {v:Value},V.ownsRow B0 51 5 v n xs→V'.ownsRow B0 51 5 v n xs:=fun hr=>ownsRow_heap hr fun g hg=>hb.block g (ownBlock_ge hr hg).2
 refine ⟨⟨h1.trans (hb.mono h0),Nat.le_trans h0 hb.size⟩,fun a b=>hk (h2 a b),fun a b=>?_,fun a b=>?_,fun a=>?_⟩
 ·
  obtain ⟨va,vc,e,r⟩:=h3 a b
  exact ⟨va,vc,e,hk r⟩
 ·
  obtain ⟨g,e,hg,hh,r⟩:=h4 a b
  exact ⟨g,e,hg,(hb.block g (blk_lt hh)).trans hh,r⟩
 ·
  obtain ⟨va,vc,e,r⟩:=h5 a
  exact ⟨va,vc,e,hk r⟩
theorem CpW.s1 {t:Tk} (h:CpW B0 Wb [t] ts nt false false p5 false x1 x3 x5 x6 V):CpW B0 Wb [t] ts nt true false p5 false (.slice (some ⟨V.heap.size,0,none⟩) 1 1) x3 x5 x6 (V.alloc (.cells (tkC t).toArray 51)):=by
 have k:=h.any ((Below.refl V.heap.size V).alloc (Nat.le_refl _) (.cells (tkC t).toArray 51))
 refine ⟨k.1,fun _ _=>tk_one h.1.2 t,fun h=>(by cases h),fun hp _=>?_,fun h=>(by cases h)⟩
 obtain ⟨g,e,hg,hh,_,_⟩:=h.2.2.2.1 hp rfl
 refine ⟨g,e,hg,(Below.heap_alloc V _ g (blk_lt hh)).trans hh,fun _ _ hx=>?_,fun h=>(by cases h)⟩
 simp only [Value.ownBlock,Option.some.injEq] at hx
 have:=blk_lt hh
 omega
theorem CpW.s5 (h:CpW B0 Wb P ts nt p1 p3 false false x1 x3 x5 x6 V):CpW B0 Wb P ts nt p1 p3 true false x1 x3 (.slice (some ⟨V.heap.size,0,none⟩) 1 1) x6 (V.alloc (.cells (tkC nt).toArray 51)):=by
 have k:=h.any ((Below.refl V.heap.size V).alloc (Nat.le_refl _) (.cells (tkC nt).toArray 51))
 refine ⟨k.1,k.2.1,k.2.2.1,fun _ _=>⟨V.heap.size,rfl,h.1.2,tk_alloc_block V _,fun a b hx=>?_,fun a hx=>?_⟩,fun h=>(by cases h)⟩
 ·
  have:=(ownBlock_ge (h.2.1 a b) hx).2;omega
 ·
  obtain ⟨va,vc,_,r⟩:=h.2.2.1 a rfl
  have:=(ownBlock_ge r hx).2;omega
theorem CpW.s3 {sa:Option Addr} {ca:Nat} (h:CpW B0 Wb P ts nt true false p5 false x1 x3 x5 x6 V) (hT:B0=Wb.heap.size∧TkSl Wb (.slice sa ts.length ca) ts∧P.length≤1000000∧ts.length≤1000000) :
  ∃ va vc V',(Builtin.append_ #[22,22] 22 #[x1,.slice sa ts.length ca]).run Tryz.prog V=.ok (.slice va (P ++ ts).length vc) V'∧CpW B0 Wb P ts nt true true p5 false x1 (.slice va (P ++ ts).length vc) x5 x6 V':=by
 obtain ⟨hb,hB⟩:=h.1
 have hown:=h.2.1 rfl rfl
 obtain ⟨hB0,hTs,l1,l2⟩:=hT
 obtain ⟨va,vc,w3,hrun,hr3,hg,hx⟩:=tk_app hown (hTs.keeps (Keeps.of_below (by rw [←hB0];exact hb))) l1 l2 hB
 refine ⟨va,vc,w3,hrun,⟨hb.grown hg hB (fun q e=>(ownBlock_ge hown e).1),Nat.le_trans hB hg.size⟩,fun _ h=>(by cases h),fun _ _=>⟨va,vc,rfl,hr3⟩,fun hp _=>?_,fun h=>(by cases h)⟩
 obtain ⟨g,e,hg',hh,hne,_⟩:=h.2.2.2.1 hp rfl
 refine ⟨g,e,hg',(hg.block g (blk_lt hh) (fun e=>hne rfl rfl e.symm)).trans hh,fun _ h=>(by cases h),fun _ hx'=>?_⟩
 rcases hx with hx | hx
 ·
  rw [hx] at hx';exact hne rfl rfl hx'
 ·
  rw [hx] at hx'
  simp only [Option.some.injEq] at hx'
  have:=blk_lt hh
  omega
theorem tk_src {V:World} {g:Nat} {nt:Tk} (hh:V.heap[g]?=some (.cells (tkC nt).toArray 51 (0,0))):TkSl V (.slice (some ⟨g,0,none⟩) [nt].length 1) [nt]:=by
 refine ⟨_,1,rfl,⟨fun e=>(by cases e),by simp⟩,.inr ⟨g,0,rfl,fun i hi=>?_⟩⟩
 obtain rfl:i=0:=by simp at hi;omega
 refine ⟨?_,?_,?_,?_,?_⟩ <;> (unfold World.cell?;rw [hh];rfl)
theorem CpW.s6 (h:CpW B0 Wb P ts nt true true true false x1 x3 x5 x6 V) (hl:P.length≤1000∧ts.length≤1000) :
  ∃ a3 c3 va vc V' g,x3=.slice a3 (P ++ ts).length c3∧x5=.slice (some ⟨g,0,none⟩) 1 1∧(Builtin.append_ #[22,22] 22 #[.slice a3 (P ++ ts).length c3,.slice (some ⟨g,0,none⟩) 1 1]).run Tryz.prog V=.ok (.slice va (P ++ ts ++ [nt]).length vc) V'∧CpW B0 Wb P ts nt true true true true x1 x3 x5 (.slice va (P ++ ts ++ [nt]).length vc) V':=by
 obtain ⟨hb,hB⟩:=h.1
 obtain ⟨a3,c3,rfl,hown⟩:=h.2.2.1 rfl rfl
 obtain ⟨g,rfl,hg',hh,_,hne⟩:=h.2.2.2.1 rfl rfl
 obtain ⟨va,vc,w3,hrun,hr3,hg,hx⟩:=tk_app hown (tk_src hh) (by simp;omega) (by simp) hB
 exact ⟨a3,c3,va,vc,w3,g,rfl,rfl,hrun,⟨hb.grown hg hB (fun q e=>(ownBlock_ge hown e).1),Nat.le_trans hB hg.size⟩,fun _ h=>(by cases h),fun _ h=>(by cases h),fun _ h=>(by cases h),fun _=>⟨va,vc,rfl,hr3⟩⟩
end
structure TwoR (B0:Nat) (A B:List Tk) (a b:Value) (W:World):Prop where
 oa:W.ownsRow B0 51 5 a A.length (tkCs A)
 ob:W.ownsRow B0 51 5 b B.length (tkCs B)
 ne:∀ g,a.ownBlock=some g→b.ownBlock≠some g
section
variable {B0:Nat} {A B ts:List Tk} {a b:Value} {W V:World}
theorem TwoR.swap (h:TwoR B0 A B a b W):TwoR B0 B A b a W:=⟨h.ob,h.oa,fun g hg ha=>h.ne g ha hg⟩
theorem TwoR.below (h:TwoR B0 A B a b W) (hb:Below W.heap.size W V):TwoR B0 A B a b V:=⟨ownsRow_heap h.oa fun g hg=>hb.block g (ownBlock_ge h.oa hg).2,ownsRow_heap h.ob fun g hg=>hb.block g (ownBlock_ge h.ob hg).2,h.ne⟩
theorem TwoR.app (h:TwoR B0 A B a b W) {sa:Option Addr} {ca:Nat} (hT:TkSl W (.slice sa ts.length ca) ts) (h1:A.length≤1000000) (h2:ts.length≤1000000) (hB:B0≤W.heap.size) :
  ∃ a' W',(Builtin.append_ #[22,22] 22 #[a,.slice sa ts.length ca]).run Tryz.prog W=.ok a' W'∧TwoR B0 (A ++ ts) B a' b W'∧W.grownBy W' a.ownBlock:=by
 obtain ⟨va,vc,V',hrun,hown,hg,hx⟩:=tk_app h.oa hT h1 h2 hB
 refine ⟨_,V',hrun,⟨hown,ownsRow_heap h.ob fun g hg'=>hg.block g (ownBlock_ge h.ob hg').2 fun e=>h.ne g e.symm hg',fun g e hb=>?_⟩,hg⟩
 rcases hx with hx | hx
 ·
  rw [hx] at e;exact h.ne g e hb
 ·
  rw [hx] at e
  simp only [Option.some.injEq] at e
  have:=(ownBlock_ge h.ob hb).2
  omega
theorem TwoR.blk (h:TwoR B0 A B a b W) (hg:W.grownBy V a.ownBlock) {g:Nat} {cs:Array Value} {T:TypeId} (hT:T≠51) (hb:W.heap[g]?=some (.cells cs T (0,0))):V.heap[g]?=some (.cells cs T (0,0)) :=
 own_keepNT h.oa hg g _ hb fun cs' hc=>hT (by injection hc)
theorem TwoR.low (h:TwoR B0 A B a b W) (hg:W.grownBy V a.ownBlock) {w:World} (hb:Below B0 w W) (hB:B0≤W.heap.size):Below B0 w V:=hb.grown hg hB fun q e=>(ownBlock_ge h.oa e).1
end
end Go.Proofs.YtinjocchommbdaaGreatDoor
