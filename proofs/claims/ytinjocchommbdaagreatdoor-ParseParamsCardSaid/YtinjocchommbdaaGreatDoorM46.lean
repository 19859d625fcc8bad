/- A part of the proof that parser laws hold: texts of the walk and of its plain laws, made small. -/
import Derived.Test.YtinjocchommbdaaGreatDoorM13
import Derived.Test.YtinjocchommbdaaGreatDoorM10
set_option linter.unusedVariables false
set_option linter.unusedSimpArgs false
namespace Go.Proofs.YtinjocchommbdaaGreatDoor
open Go.RowKit
theorem own_empty (w:World) {base:Nat} (hb:base≤w.heap.size) (e:TypeId) (size:Nat):(w.alloc (.cells #[] e)).ownsRow base e size (.slice (some ⟨w.heap.size,0,none⟩) 0 0) 0 [] :=
 ⟨by simp,.inr ⟨w.heap.size,0,#[],rfl,hb,by simp only [World.alloc];simp,Nat.le_refl _,by decide,by simp,by simp⟩⟩
theorem own_keepNT {V V':World} {B0 n:Nat} {x:Value} {xs:List Value} (hown:V.ownsRow B0 51 5 x n xs) (hg:V.grownBy V' x.ownBlock):∀ (g:Nat) (o:Obj),V.heap[g]?=some o→(∀ cs,o≠Obj.cells cs 51 (0,0))→V'.heap[g]?=some o:=by
 intro g o h hne
 refine (hg.block g (blk_lt h) fun e=>?_).trans h
 rcases hown.2 with ⟨rfl,_⟩ | ⟨b,cap,cur,rfl,_,hb,_⟩
 ·
  simp [Value.ownBlock] at e
 ·
  simp only [Value.ownBlock,Option.some.injEq] at e
  subst e
  rw [h] at hb
  exact hne _ (Option.some.inj hb)
def CpC (B0:Nat) (Wb:World) (ts:List Tk) (nt:Tk) (p0 p3 p10 p11 p13:Bool) (x0 x3 x10 x11:Value) (V:World):Prop :=
 (p13=false→Below B0 Wb V∧B0≤V.heap.size) ∧
 (p0=true→p3=false→p13=false→V.ownsRow B0 51 5 x0 0 []) ∧
 (p3=true→p11=false→p13=false→V.ownsRow B0 51 5 x3 ts.length (tkCs ts)) ∧
 (p10=true→p11=false→p13=false→∃ g,x10=.slice (some ⟨g,0,none⟩) 1 1∧B0≤g∧V.heap[g]?=some (.cells (tkC nt).toArray 51 (0,0))∧(p0=true→p3=false→x0.ownBlock≠some g)∧(p3=true→x3.ownBlock≠some g)) ∧
 (p11=true→p13=false→∃ va vc,x11=.slice va (ts.length + 1) vc∧V.ownsRow B0 51 5 x11 (ts.length + 1) (tkCs (ts ++ [nt])))
theorem CpC.start (Wb:World) (ts:List Tk) (nt:Tk) (x0 x3 x10 x11:Value):CpC Wb.heap.size Wb ts nt false false false false false x0 x3 x10 x11 Wb.drew :=
 ⟨fun _=>⟨(Below.refl _ _).drew,Nat.le_refl _⟩,fun h=>(by cases h),fun h=>(by cases h),fun h=>(by cases h),fun h=>(by cases h)⟩
theorem tk_alloc_block (V:World) (l:List Value):(V.alloc (.cells l.toArray 51)).heap[V.heap.size]?=some (.cells l.toArray 51 (0,0)):=by simp only [World.alloc];simp
theorem CpC.s0 {B0:Nat} {Wb V:World} {ts:List Tk} {nt:Tk} {p10:Bool} {x0 x3 x10 x11:Value} (h:CpC B0 Wb ts nt false false p10 false false x0 x3 x10 x11 V):CpC B0 Wb ts nt true false p10 false false (.slice (some ⟨V.heap.size,0,none⟩) 0 0) x3 x10 x11 (V.alloc (.cells #[] 51)):=by
 obtain ⟨hb,hB⟩:=h.1 rfl
 have hz:V.heap.size≤(V.alloc (.cells #[] 51)).heap.size:=by simp
 refine ⟨fun _=>⟨hb.alloc hB _,Nat.le_trans hB hz⟩,fun _ _ _=>own_empty V hB _ 5,fun h=>(by cases h),fun hp _ _=>?_,fun h=>(by cases h)⟩
 obtain ⟨g,e,hg,hh,_,_⟩:=h.2.2.2.1 hp rfl rfl
 refine ⟨g,e,hg,(Below.heap_alloc V _ g (blk_lt hh)).trans hh,fun _ _ hx=>?_,fun h=>(by cases h)⟩
 simp only [Value.ownBlock,Option.some.injEq] at hx
 have:=blk_lt hh
 omega
theorem CpC.s10 {B0:Nat} {Wb V:World} {ts:List Tk} {nt:Tk} {p0 p3:Bool} {x0 x3 x10 x11:Value} (h:CpC B0 Wb ts nt p0 p3 false false false x0 x3 x10 x11 V):CpC B0 Wb ts nt p0 p3 true false false x0 x3 (.slice (some ⟨V.heap.size,0,none⟩) 1 1) x11 (V.alloc (.cells (tkC nt).toArray 51)):=by
 obtain ⟨hb,hB⟩:=h.1 rfl
 have hz:V.heap.size≤(V.alloc (.cells (tkC nt).toArray 51)).heap.size:=by simp
 have hk:∀ {n:Nat} {xs:List Value} {v:Value},V.ownsRow B0 51 5 v n xs→(V.alloc (.cells (tkC nt).toArray 51)).ownsRow B0 51 5 v n xs:=fun hr=>ownsRow_heap hr fun g hg=>Below.heap_alloc V _ g (ownBlock_ge hr hg).2
 refine ⟨fun _=>⟨hb.alloc hB _,Nat.le_trans hB hz⟩,fun a b c=>hk (h.2.1 a b c),fun a b c=>hk (h.2.2.1 a b c),fun _ _ _=>⟨V.heap.size,rfl,hB,tk_alloc_block V _,fun a b hx=>?_,fun a hx=>?_⟩,fun h=>(by cases h)⟩
 ·
  have:=(ownBlock_ge (h.2.1 a b rfl) hx).2;omega
 ·
  have:=(ownBlock_ge (h.2.2.1 a rfl rfl) hx).2;omega
set_option maxRecDepth 100000 in
theorem CpC.s3k {B0:Nat} {Wb V:World} {ts:List Tk} {nt:Tk} {p10:Bool} {x0 x3 x10 x11:Value} {sa:Option Addr} {ca:Nat} (h:CpC B0 Wb ts nt true false p10 false false x0 x3 x10 x11 V) (hT:B0=Wb.heap.size∧TkSl Wb (.slice sa ts.length ca) ts) (hl:ts.length≤1000000) :
  ∃ va vc V',(Builtin.append_ #[22,22] 22 #[x0,.slice sa ts.length ca]).run Tryz.prog V=.ok (.slice va ts.length vc) V'∧CpC B0 Wb ts nt true true p10 false false x0 (.slice va ts.length vc) x10 x11 V'∧(∀ (g:Nat) (o:Obj),V.heap[g]?=some o→(∀ cs,o≠Obj.cells cs 51 (0,0))→V'.heap[g]?=some o):=by
 obtain ⟨hb,hB⟩:=h.1 rfl
 have hown:=h.2.1 rfl rfl rfl
 obtain ⟨hB0,hTs⟩:=hT
 obtain ⟨i0,hi,hz0,hz1',hz2'⟩:=info_of Tryz.infoTk
 obtain ⟨_,⟨hn,hc⟩,hr⟩:=hTs.at
 have hr':=hr.keeps (Keeps.of_below (by rw [←hB0];exact hb))
 obtain ⟨v',w3,hrun,hr3,hg,hx⟩:=run_append_own_src (P:=Tryz.prog) V B0 22 22 51 i0 (.agg #[.int .i64 0,.string ⟨#[]⟩,.int .i64 0,.int .i64 0,.int .i64 0]) 5 48 Tryz.underlying22 hi hz0 hz1' hz2' rfl (by decide) _ _ _ hown sa ts.length ca (tkCs ts) (fun e=>⟨by have:=hn e;omega,hn e⟩) (tkCs_len ts) hr'.cells (tkCs_one ts) (by unfold maxLen;omega) (by omega) hB
 rw [Nat.zero_add,List.nil_append] at hr3
 obtain ⟨va,vc,rfl,_⟩:=tk_own_form hr3
 refine ⟨va,vc,w3,hrun,⟨fun _=>⟨hb.grown hg hB (fun q e=>(ownBlock_ge hown e).1),Nat.le_trans hB hg.size⟩,fun _ h=>(by cases h),fun _ _ _=>hr3,fun hp _ _=>?_,fun h=>(by cases h)⟩,own_keepNT hown hg⟩
 obtain ⟨g,e,hg',hh,hne,_⟩:=h.2.2.2.1 hp rfl rfl
 refine ⟨g,e,hg',(hg.block g (blk_lt hh) (fun e=>hne rfl rfl e.symm)).trans hh,fun _ h=>(by cases h),fun _ hx'=>?_⟩
 rcases hx with hx | hx
 ·
  rw [hx] at hx';exact hne rfl rfl hx'
 ·
  rw [hx] at hx'
  simp only [Option.some.injEq] at hx'
  have:=blk_lt hh
  omega
set_option maxRecDepth 100000 in
theorem CpC.s11k {B0:Nat} {Wb V:World} {ts:List Tk} {nt:Tk} {x0 x3 x10 x11:Value} (h:CpC B0 Wb ts nt true true true false false x0 x3 x10 x11 V) (hl:ts.length≤1000000) :
  ∃ va vc V' g,x10=.slice (some ⟨g,0,none⟩) 1 1∧(Builtin.append_ #[22,22] 22 #[x3,.slice (some ⟨g,0,none⟩) 1 1]).run Tryz.prog V=.ok (.slice va (ts.length + 1) vc) V'∧CpC B0 Wb ts nt true true true true false x0 x3 x10 (.slice va (ts.length + 1) vc) V'∧(∀ (g:Nat) (o:Obj),V.heap[g]?=some o→(∀ cs,o≠Obj.cells cs 51 (0,0))→V'.heap[g]?=some o):=by
 obtain ⟨hb,hB⟩:=h.1 rfl
 have hown:=h.2.2.1 rfl rfl rfl
 obtain ⟨g,e,hg',hh,_,hne⟩:=h.2.2.2.1 rfl rfl rfl
 obtain ⟨i0,hi,hz0,hz1',hz2'⟩:=info_of Tryz.infoTk
 have hnews:∀ ad,some (⟨g,0,none⟩:Addr)=some ad→∀ j u,(tkC nt)[j]?=some u→V.cell? (ad.add j)=some u:=by
  intro ad had j u hj
  cases had
  rw [addr_plus,Nat.zero_add]
  unfold World.cell?
  rw [hh]
  simpa using hj
 obtain ⟨v',w3,hrun,hr3,hg,hx⟩:=run_append_own_src (P:=Tryz.prog) V B0 22 22 51 i0 (.agg #[.int .i64 0,.string ⟨#[]⟩,.int .i64 0,.int .i64 0,.int .i64 0]) 5 48 Tryz.underlying22 hi hz0 hz1' hz2' rfl (by decide) _ _ _ hown (some ⟨g,0,none⟩) 1 1 (tkC nt) (fun e=>(by cases e)) rfl hnews (by intro u hu;simp [tkC] at hu;rcases hu with rfl | rfl | rfl | rfl | rfl <;> rfl) (by unfold maxLen;omega) (by omega) hB
 obtain ⟨va,vc,rfl,_⟩:=tk_own_form hr3
 refine ⟨va,vc,w3,g,e,hrun,⟨fun _=>⟨hb.grown hg hB (fun q e=>(ownBlock_ge hown e).1),Nat.le_trans hB hg.size⟩,fun _ h=>(by cases h),fun _ h=>(by cases h),fun _ h=>(by cases h),fun _ _=>⟨va,vc,rfl,?_⟩⟩,own_keepNT hown hg⟩
 rw [tkCs_append,show tkCs [nt]=tkC nt by simp [tkCs]]
 exact hr3
theorem CpC.any {B0:Nat} {Wb V V':World} {ts:List Tk} {nt:Tk} {p0 p3 p10 p11:Bool} {x0 x3 x10 x11:Value} (h:CpC B0 Wb ts nt p0 p3 p10 p11 false x0 x3 x10 x11 V) (hb:Below V.heap.size V V'):CpC B0 Wb ts nt p0 p3 p10 p11 false x0 x3 x10 x11 V':=by
 obtain ⟨h1,h2,h3,h4,h5⟩:=h
 have hk:∀ {n:Nat} {xs:List Value} {v:Value},V.ownsRow B0 51 5 v n xs→V'.ownsRow B0 51 5 v n xs:=fun hr=>ownsRow_heap hr fun g hg=>hb.block g (ownBlock_ge hr hg).2
 refine ⟨fun _=>⟨(h1 rfl).1.trans (hb.mono (h1 rfl).2),Nat.le_trans (h1 rfl).2 hb.size⟩,fun a b c=>hk (h2 a b c),fun a b c=>hk (h3 a b c),fun a b c=>?_,fun a b=>?_⟩
 ·
  obtain ⟨g,e,hg,hh,r⟩:=h4 a b c
  exact ⟨g,e,hg,(hb.block g (blk_lt hh)).trans hh,r⟩
 ·
  obtain ⟨va,vc,e,r⟩:=h5 a b
  exact ⟨va,vc,e,hk r⟩
def Bx (B0:Nat) (T:TypeId) (cs:Array Value) (x:Value) (V:World):Prop:=∃ g,x=.pointer (some ⟨g,0,none⟩)∧B0≤g∧V.heap[g]?=some (.cells cs T (0,0))
theorem Bx.any {B0:Nat} {T:TypeId} {cs:Array Value} {x:Value} {V V':World} (h:Bx B0 T cs x V) (hb:Below V.heap.size V V'):Bx B0 T cs x V':=by
 obtain ⟨g,e,hg,hh⟩:=h
 exact ⟨g,e,hg,(hb.block g (blk_lt hh)).trans hh⟩
theorem Bx.keep {B0:Nat} {T:TypeId} {cs:Array Value} {x:Value} {V V':World} (h:Bx B0 T cs x V) (hT:T≠51) (hk:∀ (g:Nat) (o:Obj),V.heap[g]?=some o→(∀ cs,o≠Obj.cells cs 51 (0,0))→V'.heap[g]?=some o):Bx B0 T cs x V':=by
 obtain ⟨g,e,hg,hh⟩:=h
 exact ⟨g,e,hg,hk g _ hh fun cs' hc=>hT (by injection hc)⟩
theorem Bx.new {B0:Nat} {T:TypeId} {cs:Array Value} {V:World} (hB:B0≤V.heap.size):Bx B0 T cs (.pointer (some ⟨V.heap.size,0,none⟩)) (V.alloc (.cells cs T)):=⟨_,rfl,hB,by simp only [World.alloc];simp⟩
end Go.Proofs.YtinjocchommbdaaGreatDoor
