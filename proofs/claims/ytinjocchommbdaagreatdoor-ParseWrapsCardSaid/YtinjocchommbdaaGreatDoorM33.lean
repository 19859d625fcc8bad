/- A part of the proof that parser laws hold: texts of the walk and of its plain laws, made small. -/
import Derived.Test.YtinjocchommbdaaGreatDoorM27
import Derived.Test.YtinjocchommbdaaGreatDoorM28
import Derived.Sort.CutIn
import Derived.Sort.QuietTacIn
import Derived.Lib.SlBytesConst
import Derived.Maps.OwnIn
import Derived.Laws.EntriesVeiled
import Derived.Test.YtinjocchommbdaaGreatDoorM25
import Derived.Test.YtinjocchommbdaaGreatDoorM07
import Derived.Test.YtinjocchommbdaaGreatDoorM14
import Derived.Test.YtinjocchommbdaaGreatDoorM32
import Derived.Test.YtinjocchommbdaaGreatDoorM05
set_option linter.unusedVariables false
set_option linter.unusedSimpArgs false
namespace Go.Proofs.YtinjocchommbdaaGreatDoor
open Go.RowKit Go.Shelf
attribute [local go_sem] Oper.semAt_some
structure LxJ (w:World) (B:Nat) (W:World) (v:Value) (ts:List Tk):Prop where
 low:Below B w W
 out:Box1 W 22 B v
 plc:Box2 W 29 (B + 1) (.int .i64 0) (.int .i64 0)
 err:Box1 W 30 (B + 2) (.int .i64 0)
 fnv:Box1 W 80 (B + 3) (.func (.func 43) #[] #[])
 row:W.ownsRow (B + 5) 51 5 v ts.length (tkCs ts)
theorem LxJ.lt {w W:World} {B:Nat} {v:Value} {ts:List Tk} (h:LxJ w B W v ts):B + 3 < W.heap.size:=blk_lt h.fnv
theorem LxJ.heap {w W W':World} {B:Nat} {v:Value} {ts:List Tk} (h:LxJ w B W v ts) (hb:Below B W W') (hk:∀ g,(g < B + 4∨v.ownBlock=some g)→W'.heap[g]?=W.heap[g]?):LxJ w B W' v ts :=
 ⟨h.low.trans hb,(hk _ (.inl (by omega))).trans h.out,(hk _ (.inl (by omega))).trans h.plc,(hk _ (.inl (by omega))).trans h.err,(hk _ (.inl (by omega))).trans h.fnv,ownsRow_heap h.row fun g hg=>hk g (.inr hg)⟩
theorem LxJ.below {w W W':World} {B:Nat} {v:Value} {ts:List Tk} (h:LxJ w B W v ts) (hb:Below W.heap.size W W'):LxJ w B W' v ts :=
 h.heap (hb.mono (by have:=h.lt;omega)) fun g hg=>hb.block g (by rcases hg with hg | hg;have:=h.lt;omega;exact (ownBlock_ge h.row hg).2)
theorem LxJ.other {w W W':World} {B b:Nat} {v:Value} {ts:List Tk} (h:LxJ w B W v ts) (hb:OneSet b W W') (h1:B + 3 < b) (h2:∀ q,v.ownBlock=some q→q≠b):LxJ w B W' v ts :=
 h.heap (hb.below.mono (by omega)) fun g hg=>hb.other g (by rcases hg with hg | hg;omega;exact h2 g hg)
theorem LxJ.own {w:World} {B S0:Nat} (hS:B + 4≤S0) (hv:∀ (_:World),B≤S0) {X Y:World} {row:Option Nat} {v:Value} {ts:List Tk} (h:LxJ w B X v ts) (hg:X.grownBy Y row) (hr:∀ r,row=some r→S0≤r∧∃ o:Obj,X.heap[r]?=some o∧o.isCells=false):LxJ w B Y v ts:=by
 have hs:=h.lt
 refine h.heap ((Below.refl _ _).grown hg (by omega) fun k e=>by have:=(hr k e).1;omega) fun g hg'=>hg.block g ?_ fun e=>?_
 ·
  rcases hg' with hg' | hg'
  ·
   omega
  ·
   exact (ownBlock_ge h.row hg').2
 ·
  obtain ⟨h1,o,ho,hc⟩:=hr g e.symm
  rcases hg' with hg' | hg'
  ·
   omega
  ·
   obtain ⟨_,q | ⟨g',cp,cur,hv',_,hh,_⟩⟩:=h.row
   ·
    rw [q.1] at hg';cases hg'
   ·
    rw [hv'] at hg'
    simp only [Value.ownBlock,Option.some.injEq] at hg'
    subst hg'
    rw [hh] at ho;cases ho;cases hc
theorem LxJ.grow {w W W':World} {B:Nat} {v v':Value} {ts:List Tk} {t:Tk} (h:LxJ w B W v ts) (hg:W.grownBy W' v.ownBlock) (hr:W'.ownsRow (B + 5) 51 5 v' (ts.length + 1) (tkCs ts ++ tkC t)):LxJ w B (W'.setCell ⟨B,0,none⟩ v') v' (ts ++ [t]):=by
 have hk:∀ g,g < B + 4→W'.heap[g]?=W.heap[g]?:=fun g h1=>hg.block g (by have:=h.lt;omega) (fun e=>by have:=(ownBlock_ge h.row e.symm).1;omega)
 have hs:∀ g,g≠B→(W'.setCell ⟨B,0,none⟩ v').heap[g]?=W'.heap[g]?:=fun g hg=>Below.heap_setCell _ _ _ _ (fun e=>hg e)
 refine ⟨(h.low.grown hg (by have:=h.lt;omega) (fun q e=>by have:=(ownBlock_ge h.row e).1;omega)).setCell (Nat.le_refl _) _,?_,(hs _ (by omega)).trans ((hk _ (by omega)).trans h.plc),(hs _ (by omega)).trans ((hk _ (by omega)).trans h.err),(hs _ (by omega)).trans ((hk _ (by omega)).trans h.fnv),?_⟩
 ·
  have hb:W'.heap[B]?=some (.cells #[v] 22 (0,0)):=(hk _ (by omega)).trans h.out
  unfold Box1
  simp [World.setCell,Array.getElem?_modify,hb]
 ·
  have e1:tkCs [t]=tkC t:=by simp [tkCs]
  rw [List.length_append,tkCs_append,e1]
  exact ownsRow_heap hr fun g hg=>hs g (by have:=(ownBlock_ge hr hg).1;omega)
def keepO:Obj→Bool
 | .cells _ t _=>t == 42
 | _=>true
def KK (W W':World):Prop:=W.heap.size≤W'.heap.size∧∀ (k:Nat) (o:Obj),W.heap[k]?=some o→keepO o=true→W'.heap[k]?=some o
theorem KK.refl (W:World):KK W W:=⟨Nat.le_refl _,fun _ _ h _=>h⟩
theorem KK.trans {a b c:World} (h:KK a b) (k:KK b c):KK a c:=⟨Nat.le_trans h.1 k.1,fun i o hi ho=>k.2 i o (h.2 i o hi ho) ho⟩
theorem KK.below {W W':World} (h:Below W.heap.size W W'):KK W W':=⟨h.size,fun k o hk _=>(h.block k (blk_lt hk)).trans hk⟩
theorem KK.grown {W W':World} {row:Option Nat} (h:W.grownBy W' row) (hr:∀ r o,row=some r→W.heap[r]?=some o→keepO o=false):KK W W' :=
 ⟨h.size,fun k o hk ho=>(h.block k (blk_lt hk) fun e=>by rw [hr k o e.symm hk] at ho;cases ho).trans hk⟩
theorem KK.one {b:Nat} {W W':World} (h:OneSet b W W') (hr:∀ o,W.heap[b]?=some o→keepO o=false):KK W W' :=
 ⟨Nat.le_of_eq h.size.symm,fun k o hk ho=>(h.other k fun e=>by subst e;rw [hr o hk] at ho;cases ho).trans hk⟩
theorem KK.from {W W':World} (h:KK W W') (B:Nat):KeepsFrom B W W':=⟨h.1,fun k o _ hk ho=>h.2 k o hk (by cases o <;> first | rfl | cases ho)⟩
theorem KK.kp {W W':World} (h:KK W W'):KpS W W':=fun k vs m hk=>h.2 k _ hk (by simp [keepO])
theorem KK.row {W W':World} {base n:Nat} {v:Value} {xs:List Value} (hr:W.ownsRow base 51 5 v n xs) (h:W.grownBy W' v.ownBlock):KK W W':=by
 refine KK.grown h fun r o e ho=>?_
 obtain ⟨_,q | ⟨g,cp,cur,hv,_,hh,_⟩⟩:=hr
 ·
  rw [q.1] at e;cases e
 ·
  rw [hv] at e
  simp only [Value.ownBlock,Option.some.injEq] at e
  subst e
  rw [hh] at ho;cases ho
  simp [keepO]
theorem ByteRow.drop {w:World} {a:Option Addr} {l:Bs} (h:ByteRow w a l) (k:Nat):ByteRow w (a.map fun x=>x.add k) (l.drop k):=by
 rcases h with h | ⟨b,off,rfl,h⟩
 ·
  subst h;exact .inl (by simp)
 ·
  refine .inr ⟨b,off + k,by simp [addr_plus],fun i hi=>?_⟩
  rw [List.length_drop] at hi
  rw [Nat.add_assoc,h (k + i) (by omega),List.getElem_drop]
theorem com_prefix (l:Bs):([45,45]:Bs).isPrefixOf l=comB l:=by
 unfold comB
 cases l with
 | nil=>rfl
 | cons b r =>
  cases r with
  | nil=>simp [List.isPrefixOf]
  | cons c q =>
   rw [Bool.eq_iff_iff]
   simp [List.isPrefixOf]
   exact ⟨fun h=>⟨h.1.symm,h.2.symm⟩,fun h=>⟨h.1.symm,h.2.symm⟩⟩
def failW (V:World) (B:Nat) (x y:Int) (f5 f6 f7:Bool):World :=
 if f5=true then (if f6=true then (if f7=true then (((V.drew.setCell ⟨B,0,none⟩ (.slice none 0 0)).setCell ⟨B + 1,0,none⟩ (.int .i64 x)).setCell ⟨B + 1,1,none⟩ (.int .i64 y)).setCell ⟨B + 1 + 1,0,none⟩ (.int .i64 20)
  else ((V.drew.setCell ⟨B,0,none⟩ (.slice none 0 0)).setCell ⟨B + 1,0,none⟩ (.int .i64 x)).setCell ⟨B + 1,1,none⟩ (.int .i64 y)) else V.drew.setCell ⟨B,0,none⟩ (.slice none 0 0)) else V.drew
theorem failW_cells {w V:World} {B b:Nat} {v:Value} {ts:List Tk} {x0 x1 x2 x3 x4:Value} (hx:Box5 V 51 b x0 x1 x2 x3 x4) (hJ:LxJ w B V v ts) (f5 f6 f7:Bool) (x y:Int) (hb:B + 3 < b) :
  ((failW V B x y f5 f6 f7).cell? ⟨b,3,none⟩=some x3∧(failW V B x y f5 f6 f7).cell? ⟨b,4,none⟩=some x4) ∧
  ((failW V B x y f5 f6 f7).cell? ⟨B,0,none⟩=some (if f5=true then .slice none 0 0 else v)∧(failW V B x y f5 f6 f7).cell? ⟨B + 1,0,none⟩=some (if f5=true∧f6=true then .int .i64 x else .int .i64 0)∧(failW V B x y f5 f6 f7).cell? ⟨B + 1,1,none⟩=some (if f5=true∧f6=true then .int .i64 y else .int .i64 0)∧(failW V B x y f5 f6 f7).cell? ⟨B + 1 + 1,0,none⟩=some (if f5=true∧f6=true∧f7=true then .int .i64 20 else .int .i64 0)) ∧
  ∀ g o,(g=B∨g=B + 1∨g=B + 1 + 1)→(failW V B x y f5 f6 f7).frozen? ⟨g,o,none⟩=false:=by
 have q0:V.drew.heap[B]?=some (.cells #[v] 22 (0,0)):=hJ.out
 have q1:V.drew.heap[B + 1]?=some (.cells #[.int .i64 0,.int .i64 0] 29 (0,0)):=hJ.plc
 have q2:V.drew.heap[B + 2]?=some (.cells #[.int .i64 0] 30 (0,0)):=hJ.err
 have q3:V.drew.heap[b]?=some (.cells #[x0,x1,x2,x3,x4] 51 (0,0)):=hx
 have n1:¬ B=b:=by omega
 have n2:¬ B + 1=b:=by omega
 have n3:¬ B + 1 + 1=b:=by omega
 have n4:¬ B + 1 + 1=B:=by omega
 have n5:¬ B=B + 1 + 1:=by omega
 have hz:∀ g o,(g=B∨g=B + 1∨g=B + 1 + 1)→V.drew.frozen? ⟨g,o,none⟩=false:=by
  rintro g o (rfl | rfl | rfl)
  ·
   exact hJ.out.cells.2 o
  ·
   exact hJ.plc.cells.2 o
  ·
   exact hJ.err.cells.2 o
 unfold failW
 generalize V.drew=D at q0 q1 q2 q3 hz ⊢
 refine ⟨⟨?_,?_⟩,⟨?_,?_,?_,?_⟩,?_⟩
 ·
  cases f5 <;> cases f6 <;> cases f7 <;> simp [World.cell?,World.setCell,Array.getElem?_modify,q0,q1,q2,q3,n1,n2,n3,n4,n5]
 ·
  cases f5 <;> cases f6 <;> cases f7 <;> simp [World.cell?,World.setCell,Array.getElem?_modify,q0,q1,q2,q3,n1,n2,n3,n4,n5]
 ·
  cases f5 <;> cases f6 <;> cases f7 <;> simp [World.cell?,World.setCell,Array.getElem?_modify,q0,q1,q2,q3,n1,n2,n3,n4,n5]
 ·
  cases f5 <;> cases f6 <;> cases f7 <;> simp [World.cell?,World.setCell,Array.getElem?_modify,q0,q1,q2,q3,n1,n2,n3,n4,n5]
 ·
  cases f5 <;> cases f6 <;> cases f7 <;> simp [World.cell?,World.setCell,Array.getElem?_modify,q0,q1,q2,q3,n1,n2,n3,n4,n5]
 ·
  cases f5 <;> cases f6 <;> cases f7 <;> simp [World.cell?,World.setCell,Array.getElem?_modify,q0,q1,q2,q3,n1,n2,n3,n4,n5]
 ·
  intro g o hg
  have h0:=hz g o hg
  cases f5 <;> cases f6 <;> cases f7 <;> simp [World.frozen?_setCell,h0]
theorem LxJ.fail {w V:World} {B:Nat} {v:Value} {ts:List Tk} (hJ:LxJ w B V v ts) (x y:Int):Below B w (failW V B x y true true true)∧Box1 (failW V B x y true true true) 22 B (.slice none 0 0)∧Box2 (failW V B x y true true true) 29 (B + 1) (.int .i64 x) (.int .i64 y)∧Box1 (failW V B x y true true true) 30 (B + 2) (.int .i64 20)∧KK V (failW V B x y true true true):=by
 have q0:V.drew.heap[B]?=some (.cells #[v] 22 (0,0)):=hJ.out
 have q1:V.drew.heap[B + 1]?=some (.cells #[.int .i64 0,.int .i64 0] 29 (0,0)):=hJ.plc
 have q2:V.drew.heap[B + 2]?=some (.cells #[.int .i64 0] 30 (0,0)):=hJ.err
 have hlo:Below B w V.drew:=hJ.low.drew
 have hkd:KK V V.drew:=KK.below (Below.refl _ _).drew
 have n4:¬ B + 1 + 1=B:=by omega
 have n5:¬ B=B + 1 + 1:=by omega
 simp only [failW,if_true]
 generalize V.drew=D at q0 q1 q2 hlo hkd ⊢
 refine ⟨?_,?_,?_,?_,?_⟩
 ·
  exact ((((hlo.setCell (Nat.le_refl _) _).setCell (by simp) _).setCell (by simp) _).setCell (by simp <;> omega) _)
 ·
  unfold Box1;simp [World.setCell,Array.getElem?_modify,q0,q1,q2,n4,n5]
 ·
  unfold Box2;simp [World.setCell,Array.getElem?_modify,q0,q1,q2,n4,n5]
 ·
  unfold Box1;simp [World.setCell,Array.getElem?_modify,q0,q1,q2,n4,n5]
 ·
  refine KK.trans (KK.trans (KK.trans (KK.trans hkd (KK.one (b:=B) (OneSet.cell _ _ _ _) ?_)) (KK.one (b:=B + 1) (OneSet.cell _ _ _ _) ?_)) (KK.one (b:=B + 1) (OneSet.cell _ _ _ _) ?_)) (KK.one (b:=B + 1 + 1) (OneSet.cell _ _ _ _) ?_)
  ·
   intro o ho;rw [q0] at ho;cases ho;simp [keepO]
  ·
   intro o ho;simp [World.setCell,Array.getElem?_modify,q1,n4,n5] at ho;subst ho;simp [keepO]
  ·
   intro o ho;simp [World.setCell,Array.getElem?_modify,q1,n4,n5] at ho;subst ho;simp [keepO]
  ·
   intro o ho;simp [World.setCell,Array.getElem?_modify,q2,n4,n5] at ho;subst ho;simp [keepO]
def doneW (V:World) (B:Nat) (v:Value):World:=(((V.setCell ⟨B,0,none⟩ v).setCell ⟨B + 1,0,none⟩ (.int .i64 0)).setCell ⟨B + 1,1,none⟩ (.int .i64 0)).setCell ⟨B + 1 + 1,0,none⟩ (.int .i64 0)
theorem LxJ.done {w V:World} {B:Nat} {v:Value} {ts:List Tk} (hJ:LxJ w B V v ts):Below B w (doneW V B v)∧Box1 (doneW V B v) 22 B v∧Box2 (doneW V B v) 29 (B + 1) (.int .i64 0) (.int .i64 0)∧Box1 (doneW V B v) 30 (B + 2) (.int .i64 0)∧TkSl (doneW V B v) v ts∧∀ D,B + 3 < D→(doneW V B v).heap[D]?=V.heap[D]?:=by
 have q0:V.heap[B]?=some (.cells #[v] 22 (0,0)):=hJ.out
 have q1:V.heap[B + 1]?=some (.cells #[.int .i64 0,.int .i64 0] 29 (0,0)):=hJ.plc
 have q2:V.heap[B + 2]?=some (.cells #[.int .i64 0] 30 (0,0)):=hJ.err
 have n4:¬ B + 1 + 1=B:=by omega
 have n5:¬ B=B + 1 + 1:=by omega
 have hk:∀ D,B + 3 < D→(doneW V B v).heap[D]?=V.heap[D]?:=by
  intro D hD
  unfold doneW
  rw [Below.heap_setCell _ _ _ _ (by simp;omega),Below.heap_setCell _ _ _ _ (by simp;omega),Below.heap_setCell _ _ _ _ (by simp;omega),Below.heap_setCell _ _ _ _ (by simp;omega)]
 refine ⟨?_,?_,?_,?_,TkSl.own (ownsRow_heap hJ.row fun g hg=>hk g (by have:=(ownBlock_ge hJ.row hg).1;omega)),hk⟩
 ·
  exact (((hJ.low.setCell (Nat.le_refl _) _).setCell (by simp) _).setCell (by simp) _).setCell (by simp <;> omega) _
 ·
  unfold Box1 doneW;simp [World.setCell,Array.getElem?_modify,q0,q1,q2,n4,n5]
 ·
  unfold Box2 doneW;simp [World.setCell,Array.getElem?_modify,q0,q1,q2,n4,n5]
 ·
  unfold Box1 doneW;simp [World.setCell,Array.getElem?_modify,q0,q1,q2,n4,n5]
theorem results_three (tmps:Array Value) (w:World) {B:Nat} {v x y e:Value} (h2:tmps.getD 2 undef=.pointer (some ⟨B,0,none⟩)) (h3:tmps.getD 3 undef=.pointer (some ⟨B + 1,0,none⟩)) (h4:tmps.getD 4 undef=.pointer (some ⟨B + 1 + 1,0,none⟩))
  (c0:w.cell? ⟨B,0,none⟩=some v) (c1:w.cell? ⟨B + 1,0,none⟩=some x) (c2:w.cell? ⟨B + 1,1,none⟩=some y) (c3:w.cell? ⟨B + 1 + 1,0,none⟩=some e):(results Tryz.f19 tmps).run Tryz.prog w=.ok (.tuple #[v,.agg #[x,y],e]) w:=by
 have e2:=Tryz.isAgg29
 have e3:=Tryz.sizeOf29
 have e4:=Tryz.isAgg22
 have e5:=Tryz.sizeOf22
 have e6:=Tryz.isAgg30
 have e7:=Tryz.sizeOf30
 have h2':tmps[2]?.getD undef=.pointer (some ⟨B,0,none⟩):=by simpa using h2
 have h3':tmps[3]?.getD undef=.pointer (some ⟨B + 1,0,none⟩):=by simpa using h3
 have h4':tmps[4]?.getD undef=.pointer (some ⟨B + 1 + 1,0,none⟩):=by simpa using h4
 simp [results,Tryz.results19,h2',h3',h4',asAddr,loadVar,e2,e3,e4,e5,e6,e7,loadCells,loadCellsFrom,Result.andThen,c0,c1,c2,c3,Addr.add,load,Sem.run]
theorem lex_end {n:Nat} {R:Res} {w W:World} {B D:Nat} {tmps:Array Value} {v x y e:Value} (h2:tmps.getD 2 undef=.pointer (some ⟨B,0,none⟩)) (h3:tmps.getD 3 undef=.pointer (some ⟨B + 1,0,none⟩)) (h4:tmps.getD 4 undef=.pointer (some ⟨B + 1 + 1,0,none⟩)) (hKD:W.heap[D]?=some (.deferred (some []))) (hD:B≤D)
  (hb:Below B w W) (b0:Box1 W 22 B v) (b1:Box2 W 29 (B + 1) x y) (b2:Box1 W 30 (B + 2) e) (hR:∀ W',Keeps W W'→LexR R (.returned (.tuple #[v,.agg #[x,y],e])) W') :
  bodyPostM Fence.wide n Tryz.prog Tryz.f19 (fun r w'=>LexR R r w'∧Below B w w') Exit.ret { tmps:=tmps,defers:=[{ target:=.collected D,args:=#[] }] } W:=by
 have hg:=grownBy_putObj' W D (.deferred none)
 have hk:Keeps W (W.putObj D (.deferred none)):=fun a u hu=>cell_kept hu hg (fun r e=>by cases e;exact ⟨_,hKD,rfl⟩)
 refine ⟨by simp,.inl ⟨_,_,rfl,run_takeDeferred hKD,?_⟩⟩
 exact ⟨_,results_three tmps _ h2 h3 h4 (hk _ _ b0.cells.1) (hk _ _ b1.cells.1.1) (hk _ _ b1.cells.1.2) (hk _ _ b2.cells.1),hR _ hk,hb.grown hg (by have:=hb.size;have:=blk_lt b0;omega) (fun k e=>by cases e;exact hD)⟩
def LnI (w:World) (B S0:Nat) (pre:List (LnX w)) (W:World):Prop:=∃ v ts,LxJ w B W v ts∧S0≤W.heap.size∧lexQ 0 (pre.map lnK)=.ok ts∧ts.length≤2000
def LnE (w:World) (B S0:Nat) (c:Code) (pre:List (LnX w)) (W:World):Prop:=c=.ret∧∃ x y,lexQ 0 (pre.map lnK)=.bad x y∧Below B w W∧Box1 W 22 B (.slice none 0 0)∧Box2 W 29 (B + 1) (.int .i64 x) (.int .i64 y)∧Box1 W 30 (B + 2) (.int .i64 20)
theorem LnI.own {w:World} {B S0:Nat} (hS:B + 4≤S0):OwnFrom S0 (LnI w B S0):=by
 rintro pre A C row ⟨v,ts,h,hz,h2⟩ hg hr
 exact ⟨v,ts,h.own hS (fun _=>by omega) hg hr,Nat.le_trans hz hg.size,h2⟩
theorem LnE.own {w:World} {B S0:Nat} (hS:B + 4≤S0) (c:Code):OwnFrom S0 (LnE w B S0 c):=by
 rintro pre A C row ⟨h0,x,y,h1,h2,h3,h4,h5⟩ hg hr
 have hz:=blk_lt h5
 have hk:∀ g,g < B + 4→g < A.heap.size→C.heap[g]?=A.heap[g]?:=fun g hgB hgA=>hg.block g hgA fun e=>by have:=(hr g e.symm).1;omega
 exact ⟨h0,x,y,h1,h2.grown hg (by omega) fun k e=>by have:=(hr k e).1;omega,(hk _ (by omega) (by omega)).trans h3,(hk _ (by omega) (by omega)).trans h4,(hk _ (by omega) (by omega)).trans h5⟩
def LnF (B:Nat) (n:Int) (v:Value) (u:Nat→Value):Act:={ tmps:=#[u 0,u 1,.pointer (some ⟨B,0,none⟩),.pointer (some ⟨B + 1,0,none⟩),.pointer (some ⟨B + 1 + 1,0,none⟩),.pointer (some ⟨B + 1 + 1 + 1,0,none⟩),.int .i64 n,v,u 8,u 9,u 10,u 11,u 12,u 13,u 14,u 15,u 16,u 17,u 18,u 19,u 20,u 21,u 22,u 23,u 24,u 25,u 26,u 27,u 28,u 29,u 30,u 31,u 32,u 33,u 34,u 35,u 36,u 37,u 38,u 39,u 40,u 41,u 42,u 43,u 44,u 45,u 46,u 47,u 48,u 49,u 50,u 51,u 52,u 53,u 54,u 55,u 56,u 57,u 58,u 59,u 60,u 61,u 62,u 63,u 64,u 65,u 66,u 67,u 68,u 69,u 70,u 71,u 72],defers:=[] }
set_option maxHeartbeats 4000000 in
set_option maxRecDepth 100000 in
theorem lex_Lex (a:Option Addr) (l:Bs) (cap:Nat) (w:World) (hl:l.length≤1000000) (hc:l.length≤cap) (hc63:cap≤9223372036854775807) (ha:a=none→cap=0) (hr:ByteRow w a l) (hE:RngOk w) (hM:MaxOk w) :
  Calls Tryz.prog 19 #[.slice a l.length cap] w fun r w'=>LexR (lexA l) r w'∧Below w.heap.size w w':=by
 obtain ⟨R,hR⟩:∃ R,lexA l=R:=⟨_,rfl⟩
 rw [hR]
 have hR':Hid (lexQ 0 (numbered 1 (linesL l))=R):=by unfold Hid;rw [lexQ_lines,←lexF_lines l.length l 1 0 (Nat.le_refl _)];exact hR
 obtain ⟨W1,hW1⟩:∃ W,((((w.alloc (.cells #[.slice none 0 0] 22)).alloc (.cells #[.int .i64 0,.int .i64 0] 29)).alloc (.cells #[.int .i64 0] 30)).alloc (.cells #[.func (.func 43) #[] #[]] 80))=W:=⟨_,rfl⟩
 have hz1:W1.heap.size=w.heap.size + 4:=by rw [←hW1];simp
 have hb1:Below w.heap.size w W1:=by rw [←hW1];exact ((((Below.refl _ w).alloc (Nat.le_refl _) _).alloc (by simp) _).alloc (by simp <;> omega) _).alloc (by simp <;> omega) _
 have hJ1:LxJ w w.heap.size W1 (.slice none 0 0) []:=by
  refine ⟨hb1,?_,?_,?_,?_,rfl,.inl ⟨rfl,rfl⟩⟩
  ·
   have:=blk_new (w:=w) (U:=W1) (vs:=#[.slice none 0 0]) (t:=22) (by rw [←hW1];exact (((Below.refl _ _).alloc (by simp) _).alloc (by simp) _).alloc (by simp <;> omega) _)
   exact this
  ·
   have:=blk_new (w:=w.alloc (.cells #[.slice none 0 0] 22)) (U:=W1) (vs:=#[.int .i64 0,.int .i64 0]) (t:=29) (by rw [←hW1];exact ((Below.refl _ _).alloc (by simp) _).alloc (by simp) _)
   show W1.heap[w.heap.size + 1]?=_;simpa using this
  ·
   have:=blk_new (w:=(w.alloc (.cells #[.slice none 0 0] 22)).alloc (.cells #[.int .i64 0,.int .i64 0] 29)) (U:=W1) (vs:=#[.int .i64 0]) (t:=30) (by rw [←hW1];exact (Below.refl _ _).alloc (by simp) _)
   show W1.heap[w.heap.size + 2]?=_;simpa using this
  ·
   have:=blk_new (w:=((w.alloc (.cells #[.slice none 0 0] 22)).alloc (.cells #[.int .i64 0,.int .i64 0] 29)).alloc (.cells #[.int .i64 0] 30)) (U:=W1) (vs:=#[.func (.func 43) #[] #[]]) (t:=80) (by rw [←hW1];exact Below.refl _ _)
   show W1.heap[w.heap.size + 3]?=_;simpa using this
 have hb1':=Lib.hid hb1
 have hJ1':=Lib.hid hJ1
 have hW1':=Lib.hid hW1
 have hr':=Lib.hid hr
 have hE':=Lib.hid hE
 have hM':=Lib.hid hM
 have hdd:∀ k:Nat,(Fence.wide.depth.isSome=true→1≤k):=fun k h=>by cases h
 clear hR hW1 hJ1 hb1 hr hE hM
 refine (callsIn_wide (n:=6)).1 ?_
 refine callsIn_of_wp_marks Tryz.func19 rfl trivial ?_
 simp only [Tryz.ntmps19,List.size_toArray,List.length_cons,List.length_nil,Nat.reduceAdd,Nat.reduceSub,Array.replicate_succ,Array.replicate_zero,List.push_toArray,List.append_toArray,List.nil_append,List.cons_append]
 gi_wp2_with fail
 rw [hW1'.out]
 refine ⟨trivial,callsIn_wide.2 ((lex_lines _ _ a _ _ rfl).mono ?_)⟩
 rintro r V ⟨rfl,hV⟩
 have hbV:Below W1.heap.size W1 V:=by rw [hV];exact (Below.refl _ W1).alloc (Nat.le_refl _) _
 have hzV:V.heap.size=w.heap.size + 5:=by rw [hV];simp;omega
 have hsb:∀ W,Below V.heap.size V W→W.cell? ⟨w.heap.size + 4,0,none⟩=some (.slice a l.length cap):=by
  intro W hW
  have:=blk_new (w:=W1) (U:=W) (vs:=#[.slice a l.length cap]) (t:=42) (by rw [hV] at hW;exact hW.mono (by simp))
  rw [hz1] at this
  simp [World.cell?,this]
 rw [hz1]
 have hJV:=hJ1'.out.below hbV
 have hI0:LnI w w.heap.size (w.heap.size + 5) [] V:=⟨_,[],hJV,by omega,rfl,by simp⟩
 have hwV:Below w.heap.size w V:=hb1'.out.trans (hbV.mono (by omega))
 have hwV':=Lib.hid hwV
 have hsq:=line_stops w 5 a l cap V (w.heap.size + 4) hl hc hc63 ha hr'.out (fun W hW=>Keeps.of_below (hwV.trans (hW.mono (by omega)))) (fun W hW=>hM'.out.keeps (Keeps.of_below (hwV.trans (hW.mono (by omega))))) hsb
 clear hV hsb hwV hJV hbV
 gi_wp2_with fail
 refine wpIn_rangeFunc_ownH (F:=Fence.wide) rfl (by omega) (gf:=108) (lb:=#[.pointer (some ⟨w.heap.size + 4,0,none⟩)]) rfl trivial (enters_of Tryz.func108 (by kernel_rfl) rfl)
  hsq (fun h k=>h.trans k) (fun W lr o o' _ ho hc _ k vs m hk=>by
   by_cases e:k=lr
   ·
    subst e;rw [ho] at hk;cases hk;cases hc
   ·
    exact ((grownBy_putObj' W lr o').block k (blk_lt hk) (fun h=>e (by cases h;rfl))).trans hk) (Below.refl _ _) (fun _=>rfl)
  (LnI w w.heap.size (w.heap.size + 5)) (LnE w w.heap.size (w.heap.size + 5)) (by rw [hzV];exact LnI.own (by omega)) (fun c=>by rw [hzV];exact LnE.own (by omega) c) hI0
  (fun x a' _=>∃ u,a'=LnF w.heap.size x.1.1 x.1.2.1 u) (fun x a' _ _ _ _ hs _ _=>hs) ?assign ?body ?done ?stop
 case assign =>
  rintro l' pre x W K hI hK
  gi_wp2
  exact hK _ _ (KeepsFrom.refl _ _) (KpS.refl _) hI ⟨fun i=>match i with | 0=>.slice a l.length cap | 11=>.slice a l.length cap | 12=>.func (.func 108) #[] #[.pointer (some ⟨w.heap.size + 4,0,none⟩)] | 13=>.int .i64 x.1.1 | 14=>x.1.2.1 | _=>undef,rfl⟩
 case body =>
  rintro l' pre x a' W hl' hrc ⟨ov,ts,hJ,hzW,hq,hts⟩ ⟨u,rfl⟩ hpl
  obtain ⟨hp10,hpl,hn1,hn2,pa,pc,hve,hpc,hpa,hpr⟩:=x.2
  obtain ⟨n,hxn⟩:∃ n,x.1.1=n:=⟨_,rfl⟩
  obtain ⟨p,hxp⟩:∃ p,x.1.2.2=p:=⟨_,rfl⟩
  rw [hxp] at hp10 hpl hpc hpr hve
  rw [hxn] at hn1 hn2
  rw [hxn,hve]
  have hR0:Hid (∀ r,lexF n 1 ts.length p=r→lexQ 0 ((pre ++ [x]).map lnK)=Res.pre ts r):=by
   unfold Hid
   rintro r rfl
   rw [List.map_append,lexQ_append,hq]
   simp only [List.map_cons,List.map_nil,lnK,lexQ,Nat.zero_add,hxn,hxp]
   cases lexF n 1 ts.length p <;> simp [Res.pre]
  clear hve hxn hxp
  have hKr:=Lib.hid (hpr.keeps (Keeps.of_below hJ.low))
  have hrun:=lex_run pa p pc 43 #[] (fun x=>x == 32) W (by unfold lenMax;omega) hKr.out (answers_space _) enters_space
  rw [run_space] at hrun
  have hrun':=Lib.hid hrun
  have hsp0:spN p≤p.length:=runN_le _ _
  have hJ':=Lib.hid hJ
  have hq':=Lib.hid hq
  have hp10':=Lib.hid hp10
  have hpr':=Lib.hid hpr
  have q0:=hJ.fnv.cells.1
  have hlt:=hJ.lt
  clear hJ hq hrun hp10 hpr hI0 hsq
  unfold LnF
  gi_wp2_with fail
  refine ⟨trivial,callsIn_round (hrun'.out.mono ?_)⟩
  rintro e V' ⟨rfl,rfl⟩
  obtain ⟨k0,hk⟩:∃ k,spN p=k:=⟨_,rfl⟩
  rw [hk] at hsp0
  rw [hk]
  have hk':=Lib.hid hk
  clear hk
  gi_wp2_with fail
  obtain ⟨R0,hR0e⟩:∃ R0,lexQ 0 ((pre ++ [x]).map lnK)=R0:=⟨_,rfl⟩
  have hR1:Hid (Res.pre ts (lexF n ((k0:Int) + 1) ts.length (p.drop k0))=R0):=by
   unfold Hid
   have h:=lexF_sps p n ts.length 1
   rw [hk'.out,Int.add_comm] at h
   rw [←h,←hR0.out _ rfl,hR0e]
  have h32:Hid ((p.drop k0).head?≠some 32):=by unfold Hid;rw [←hk'.out];exact spN_head p
  have hR0':=Lib.hid hR0e
  clear hR0e hR0 hk' hrun' q0
  gi_loopw [8] (fun i W2=>∃ (k:Nat) (ts:List Tk) (oa:Option Addr) (oc:Nat),k≤p.length∧i=.int .i64 k∧Hid (LxJ w w.heap.size W2 (.slice oa ts.length oc) ts)∧Hid (KK W W2)∧Hid (Res.pre ts (lexF n ((k:Int) + 1) ts.length (p.drop k))=R0)∧Hid ((p.drop k).head?≠some 32)∧Hid (ts.length≤2000)) (fun i _=>p.length - (intOf i).toNat)
  case atStart =>
   obtain ⟨oa,oc,hoe,_⟩:=tk_own_form hJ'.out.row
   exact ⟨k0,ts,oa,oc,hsp0,rfl,by rw [←hoe];exact hJ',KK.refl _,hR1,h32,hts⟩
  case round =>
   clear hJ' hR1 h32 hts hq' hsp0 hlt
   clear ts ov
   obtain ⟨k,ts,oa,oc,hk,rfl,hJ,hKK,hR1,h32,hts⟩:=hrel
   obtain ⟨W2,rfl⟩:∃ W2,W2=wr:=⟨_,rfl⟩
   have hnil:Hid (lexF n ((k:Int) + 1) ts.length (p.drop k)=.ok []→∀ W3,Below W2.heap.size W2 W3→KeepsFrom V.heap.size W W3∧KpS W W3∧LnI w w.heap.size (w.heap.size + 5) (pre ++ [x]) W3):=by
    intro he W3 hb
    have hkk:=hKK.out.trans (KK.below hb)
    refine ⟨hkk.from _,hkk.kp,_,ts,hJ.out.below hb,Nat.le_trans hzW hkk.1,?_,hts.out⟩
    rw [hR0'.out,←hR1.out,he]
    simp [Res.pre]
   by_cases h1:k < p.length
   ·
    have hki:(k:Int) < (p.length:Int):=by omega
    have hkc:(k:Int)≤(pc:Int):=by omega
    have kc:=fun (w:World) (C:Array Value) (n c:Nat)=>Lib.run_convert_bytes_const (P:=Tryz.prog) w 42 5 C n c Tryz.underlying42 Tryz.underlying5
    obtain ⟨W3,hW3⟩:∃ U,W2.alloc (.cells #[.int .u8 45,.int .u8 45] 5 (2,3))=U:=⟨_,rfl⟩
    have hb3:Below W2.heap.size W2 W3:=by rw [←hW3];exact (Below.refl _ _).alloc (Nat.le_refl _) _
    have hh3:W3.heap[W2.heap.size]?=some (.cells #[.int .u8 45,.int .u8 45] 5 (2,3)):=by rw [←hW3];simp only [World.alloc];simp
    have hbr3:ByteRow W3 (some ⟨W2.heap.size,0,none⟩) [45,45]:=.inr ⟨_,0,rfl,fun i hi=>by
     have:i=0∨i=1:=by simp at hi;omega
     rcases this with rfl | rfl <;> simp [World.cell?,hh3]⟩
    have hpw:Below w.heap.size w W3:=hJ.out.low.trans (hb3.mono (by have:=hJ.out.lt;omega))
    have hpr3:ByteRow W3 (pa.map fun x=>x.add k) (p.drop k):=(hpr'.out.keeps (Keeps.of_below hpw)).drop k
    have hpf:=has_prefix (pa.map fun x=>x.add k) (some ⟨W2.heap.size,0,none⟩) (p.drop k) [45,45] (pc - k) 2 W3 (by rw [List.length_drop];omega) hpr3 hbr3
    rw [com_prefix,List.length_drop] at hpf
    simp only [List.length_cons,List.length_nil,Nat.zero_add,Nat.reduceAdd] at hpf
    have hpf':=Lib.hid hpf
    have hW3':=Lib.hid hW3
    have hb3':=Lib.hid hb3
    clear hW3 hpf hbr3 hb3 hh3
    gi_wp2_with fail
    refine ⟨trivial,callsIn_round ?_⟩
    rw [hW3'.out]
    refine hpf'.out.mono ?_
    rintro e W3 ⟨rfl,rfl⟩
    have hdl:(p.drop k).length=p.length - k:=List.length_drop
    have hdl':=Lib.hid hdl
    have hdne:Hid (p.drop k≠[]):=fun e=>by have:=congrArg List.length e;rw [hdl,List.length_nil] at this;omega
    have hd10:Hid ((10:UInt8) ∉ p.drop k):=fun h=>hp10'.out (List.mem_of_mem_drop h)
    cases hcm:comB (p.drop k)
    ·
     have hta:Hid (tokAt (p.drop k)):=line_at hd10.out h32.out hdne.out hcm
     have hJ3:=Lib.hid (hJ.out.below hb3'.out)
     have htk:=lex_token (pa.map fun x=>x.add k) (p.drop k) (pc - k) W3 (by rw [hdl];omega) (by rw [hdl];omega) hpr3 (hE'.out.keeps (Keeps.of_below hpw))
     rw [hdl] at htk
     have htk':=Lib.hid htk
     clear hcm htk hdl
     gi_upto_region 8 with (fail)
     gi_wp2_with fail
     refine ⟨trivial,callsIn_round ?_⟩
     refine htk'.out.mono ?_
     rintro e V1 ⟨hT,hB⟩
     obtain ⟨vk,vs,vn,vb,rfl,hT⟩:=TokR_form hT
     have hJV:=Lib.hid (hJ3.out.below hB)
     have hT':=Lib.hid hT
     have hb1V:=Lib.hid (hb3'.out.trans (hB.mono hb3'.out.size))
     obtain ⟨V5,hV5⟩:∃ W,V1.alloc (.cells #[.int .i64 vk,.string vs,.int .i64 vn,.int .i64 0,.int .i64 0] 51)=W:=⟨_,rfl⟩
     have hb5:Below V1.heap.size V1 V5:=by rw [←hV5];exact (Below.refl _ V1).alloc (Nat.le_refl _) _
     have hx5:Box5 V5 51 V1.heap.size (.int .i64 vk) (.string vs) (.int .i64 vn) (.int .i64 0) (.int .i64 0):=by rw [←hV5];exact blk_new (Below.refl _ _)
     have hz5:V5.heap.size=V1.heap.size + 1:=by rw [←hV5];simp
     have hJ5:=Lib.hid (hJV.out.below hb5)
     have hlt5:=hJV.out.lt
     have hVo:Hid (∀ q,(Value.slice oa ts.length oc).ownBlock=some q→q≠V1.heap.size):=fun q hq=>by have:=(ownBlock_ge hJV.out.row hq).2;omega
     obtain ⟨V6,hV6⟩:∃ W,(V5.setCell ⟨V1.heap.size,3,none⟩ (.int .i64 n)).setCell ⟨V1.heap.size,4,none⟩ (.int .i64 ((k:Int) + 1))=W:=⟨_,rfl⟩
     have hx6:=hx5.lc (.int .i64 n) (.int .i64 ((k:Int) + 1))
     rw [hV6] at hx6
     have hJ6:LxJ w w.heap.size V6 (.slice oa ts.length oc) ts:=hJ5.out.other hx6.2 (by omega) hVo.out
     have hK6:Hid (KK W V6):=hKK.out.trans ((KK.below (hb1V.out.trans (hb5.mono hb1V.out.size))).trans (KK.one hx6.2 fun o ho=>by have:=hx5;unfold Box5 at this;rw [this] at ho;cases ho;simp [keepO]))
     have hx6':=Lib.hid hx6
     have hJ6':=Lib.hid hJ6
     have hV5':=Lib.hid hV5
     have hV6':=Lib.hid hV6
     have hz5':=Lib.hid hz5
     obtain ⟨⟨p0,p1,p2,p3,p4⟩,pf⟩:=hx5.cells
     have hw1:IntKind.i64.wrap ((k:Int) + 1)=(k:Int) + 1:=IntWalk.i64_in _ (by omega)
     clear hB hT hV5 hb5 hV6 hz5 hx6 hJ6
     gi_upto_region 9 with (fail)
     rw [hV5'.out]
     gi_upto_region 10 with (fail)
     rw [hV6'.out]
     have hfail:Hid (R0=.bad n ((k:Int) + 1)→KeepsFrom V.heap.size W (failW V6 w.heap.size n ((k:Int) + 1) true true true)∧LnE w w.heap.size (w.heap.size + 5) .ret (pre ++ [x]) (failW V6 w.heap.size n ((k:Int) + 1) true true true)):=by
      intro he
      obtain ⟨h1,h2,h3,h4,h5⟩:=hJ6'.out.fail n ((k:Int) + 1)
      exact ⟨(hK6.out.trans h5).from _,rfl,_,_,hR0'.out.trans he,h1,h2,h3,h4⟩
     obtain ⟨r0,rf⟩:=hJ6'.out.out.cells
     obtain ⟨⟨s0,s1⟩,sf⟩:=hJ6'.out.plc.cells
     obtain ⟨t0,tf⟩:=hJ6'.out.err.cells
     obtain ⟨⟨p0,p1,p2,p3,p4⟩,pf⟩:=hx6'.out.1.cells
     cases vb
     ·
      have hbad:Hid (R0=.bad n ((k:Int) + 1)):=by
       unfold Hid
       rw [←hR1.out,lexF_tok _ _ _ hta.out,TokR_no hT'.out];rfl
      gi_upto_region 11 with (fail)
      refine wpIn_region_inv (fun f a Vr=>∃ x57 x58 x59 x60 x61,a=⟨#[u 0,u 1,.pointer (some ⟨w.heap.size,0,none⟩),.pointer (some ⟨w.heap.size + 1,0,none⟩),.pointer (some ⟨w.heap.size + 1 + 1,0,none⟩),.pointer (some ⟨w.heap.size + 1 + 1 + 1,0,none⟩),.int .i64 n,.slice pa p.length pc,.int .i64 (k:Int),.pointer (some ⟨V1.heap.size,0,none⟩),.bool false,u 11,u 12,u 13,u 14,.slice pa p.length pc,.func (.func 43) #[] #[],.int .i64 (k0:Int),.int .i64 (k:Int),.slice pa p.length pc,.int .i64 (p.length:Int),.bool true,.bool true,.slice pa p.length pc,.int .i64 (k:Int),.slice (Option.map (fun x=>x.add k) pa) (p.length - k) (pc - k),.slice (some ⟨W2.heap.size,0,none⟩) 2 2,.slice (some ⟨W2.heap.size,0,none⟩) 2 2,.bool false,.bool true,.bool true,u31,u32,u33,u34,u35,u36,u37,.tuple #[.agg #[.int .i64 vk,.string vs,.int .i64 vn,.int .i64 0,.int .i64 0],.bool false],.slice pa p.length pc,.int .i64 (k:Int),.slice (Option.map (fun x=>x.add k) pa) (p.length - k) (pc - k),.tuple #[.agg #[.int .i64 vk,.string vs,.int .i64 vn,.int .i64 0,.int .i64 0],.bool false],.agg #[.int .i64 vk,.string vs,.int .i64 vn,.int .i64 0,.int .i64 0],.bool false,.int .i64 n,.int .i64 (k:Int),.int .i64 ((k:Int) + 1),.pointer (some ⟨V1.heap.size,3,none⟩),.pointer (some ⟨V1.heap.size,4,none⟩),.bool false,.bool true,.bool true,undef,undef,undef,.bool true,x57,x58,x59,x60,x61,u62,u63,u64,u65,u66,u67,u68,u69,u70,u 71,u 72],[]⟩∧Vr=failW V6 w.heap.size n ((k:Int) + 1) (f 5) (f 6) (f 7)∧(f 0=true→x57=.pointer (some ⟨V1.heap.size,3,none⟩))∧(f 1=true→x58=.int .i64 n)∧(f 2=true→x59=.pointer (some ⟨V1.heap.size,4,none⟩))∧(f 3=true→x60=.int .i64 ((k:Int) + 1))∧(f 4=true→x61=.agg #[.int .i64 n,.int .i64 ((k:Int) + 1)])) (by kernel_rfl) (by kernel_rfl) (rs:=[0,1,2,3,4,5,6,7]) (by kernel_rfl) ?start ?steps ?last
      case start=>exact ⟨_,_,_,_,_,rfl,rfl,by simp,by simp,by simp,by simp,by simp⟩
      case steps =>
       refine KeepsIn.cons (ds:=[]) rfl (by kernel_rfl) ?s0 (KeepsIn.cons (ds:=[0]) rfl (by kernel_rfl) ?s1 (KeepsIn.cons (ds:=[]) rfl (by kernel_rfl) ?s2 (KeepsIn.cons (ds:=[2]) rfl (by kernel_rfl) ?s3 (KeepsIn.cons (ds:=[1,3]) rfl (by kernel_rfl) ?s4 (KeepsIn.cons (ds:=[]) rfl (by kernel_rfl) ?s5 (KeepsIn.cons (ds:=[4,5]) rfl (by kernel_rfl) ?s6 (KeepsIn.cons (ds:=[6]) rfl (by kernel_rfl) ?s7 KeepsIn.nil)))))))
       all_goals (intro f a Vr hf hd hcl hI K' hK;obtain ⟨x57,x58,x59,x60,x61,rfl,rfl,j0,j1,j2,j3,j4⟩:=hI;have hfc:=failW_cells hx6'.out.1 hJ6'.out (f 5) (f 6) (f 7) n ((k:Int) + 1) (by omega);obtain ⟨⟨e3,e4⟩,ee⟩:=hfc)
       case s0 =>
        go_simp
        exact hK _ _ ⟨_,_,_,_,_,rfl,by simp,fun _=>rfl,j1,j2,j3,j4⟩
       case s1 =>
        have e:=j0 (hd 0 (by simp))
        subst e
        go_simp
        exact hK _ _ ⟨_,_,_,_,_,rfl,by simp,j0,fun _=>rfl,j2,j3,j4⟩
       case s2 =>
        go_simp
        exact hK _ _ ⟨_,_,_,_,_,rfl,by simp,j0,j1,fun _=>rfl,j3,j4⟩
       case s3 =>
        have e:=j2 (hd 2 (by simp))
        subst e
        go_simp
        exact hK _ _ ⟨_,_,_,_,_,rfl,by simp,j0,j1,j2,fun _=>rfl,j4⟩
       case s4 =>
        have e:=j1 (hd 1 (by simp))
        subst e
        have e:=j3 (hd 3 (by simp))
        subst e
        go_simp
        exact hK _ _ ⟨_,_,_,_,_,rfl,by simp,j0,j1,j2,j3,fun _=>rfl⟩
       case s5 =>
        have h6:f 6=false:=by cases h:f 6;rfl;exact absurd (hcl 6 5 (by kernel_rfl) h) (by rw [hf];simp)
        have h7:f 7=false:=by cases h:f 7;rfl;exact absurd (hcl 6 5 (by kernel_rfl) (hcl 7 6 (by kernel_rfl) h)) (by rw [hf];simp)
        rw [hf,h6,h7] at ee ⊢
        obtain ⟨⟨g0,g1,g2,g3⟩,gf⟩:=ee
        have g4:=gf w.heap.size 0 (by simp)
        have g5:=gf (w.heap.size + 1) 0 (by simp)
        have g6:=gf (w.heap.size + 1) 1 (by simp)
        have g7:=gf (w.heap.size + 1 + 1) 0 (by simp)
        go_simp
        exact hK _ _ ⟨_,_,_,_,_,rfl,by simp [failW,h6,h7],j0,j1,j2,j3,j4⟩
       case s6 =>
        have e:=j4 (hd 4 (by simp))
        subst e
        have h5:f 5=true:=hd 5 (by simp)
        have h7:f 7=false:=by cases h:f 7;rfl;exact absurd (hcl 7 6 (by kernel_rfl) h) (by rw [hf];simp)
        rw [hf,h5,h7] at ee ⊢
        obtain ⟨⟨g0,g1,g2,g3⟩,gf⟩:=ee
        have g4:=gf w.heap.size 0 (by simp)
        have g5:=gf (w.heap.size + 1) 0 (by simp)
        have g6:=gf (w.heap.size + 1) 1 (by simp)
        have g7:=gf (w.heap.size + 1 + 1) 0 (by simp)
        go_simp
        exact hK _ _ ⟨_,_,_,_,_,rfl,by simp [failW,h5,h7],j0,j1,j2,j3,j4⟩
       case s7 =>
        have h6:f 6=true:=hd 6 (by simp)
        have h5:f 5=true:=hcl 6 5 (by kernel_rfl) h6
        rw [hf,h5,h6] at ee ⊢
        obtain ⟨⟨g0,g1,g2,g3⟩,gf⟩:=ee
        have g4:=gf w.heap.size 0 (by simp)
        have g5:=gf (w.heap.size + 1) 0 (by simp)
        have g6:=gf (w.heap.size + 1) 1 (by simp)
        have g7:=gf (w.heap.size + 1 + 1) 0 (by simp)
        go_simp
        exact hK _ _ ⟨_,_,_,_,_,rfl,by simp [failW,h5,h6],j0,j1,j2,j3,j4⟩
      case last =>
       rintro f a Vr hf ⟨x57,x58,x59,x60,x61,rfl,rfl,j0,j1,j2,j3,j4⟩
       rw [hf 5 (by simp),hf 6 (by simp),hf 7 (by simp)]
       gi_wp2_with fail
       exact hfail.out hbad.out
     ·
      obtain ⟨tk,tt,tn,hto,rfl,hvs,rfl⟩:=TokR_yes hT'.out
      have hvs':=Lib.hid hvs
      clear hvs
      by_cases h2:ts.length=2000
      ·
       have hbad:Hid (R0=.bad n ((k:Int) + 1)):=by
        unfold Hid
        rw [←hR1.out,lexF_tok _ _ _ hta.out,hto];simp only;rw [if_pos (by omega)];rfl
       have h2i:(ts.length:Int)=2000:=by omega
       clear h2
       gi_upto_region 11 with (fail)
       clear h2i
       refine wpIn_region_inv (fun f a Vr=>∃ x57 x58 x59 x60 x61,a=⟨#[u 0,u 1,.pointer (some ⟨w.heap.size,0,none⟩),.pointer (some ⟨w.heap.size + 1,0,none⟩),.pointer (some ⟨w.heap.size + 1 + 1,0,none⟩),.pointer (some ⟨w.heap.size + 1 + 1 + 1,0,none⟩),.int .i64 n,.slice pa p.length pc,.int .i64 (k:Int),.pointer (some ⟨V1.heap.size,0,none⟩),.bool true,u 11,u 12,u 13,u 14,.slice pa p.length pc,.func (.func 43) #[] #[],.int .i64 (k0:Int),.int .i64 (k:Int),.slice pa p.length pc,.int .i64 (p.length:Int),.bool true,.bool true,.slice pa p.length pc,.int .i64 (k:Int),.slice (Option.map (fun x=>x.add k) pa) (p.length - k) (pc - k),.slice (some ⟨W2.heap.size,0,none⟩) 2 2,.slice (some ⟨W2.heap.size,0,none⟩) 2 2,.bool false,.bool true,.bool true,u31,u32,u33,u34,u35,u36,u37,.tuple #[.agg #[.int .i64 vk,.string vs,.int .i64 (tn:Int),.int .i64 0,.int .i64 0],.bool true],.slice pa p.length pc,.int .i64 (k:Int),.slice (Option.map (fun x=>x.add k) pa) (p.length - k) (pc - k),.tuple #[.agg #[.int .i64 vk,.string vs,.int .i64 (tn:Int),.int .i64 0,.int .i64 0],.bool true],.agg #[.int .i64 vk,.string vs,.int .i64 (tn:Int),.int .i64 0,.int .i64 0],.bool true,.int .i64 n,.int .i64 (k:Int),.int .i64 ((k:Int) + 1),.pointer (some ⟨V1.heap.size,3,none⟩),.pointer (some ⟨V1.heap.size,4,none⟩),.bool true,.bool false,.bool false,.slice oa ts.length oc,.int .i64 2000,.bool true,.bool true,x57,x58,x59,x60,x61,u62,u63,u64,u65,u66,u67,u68,u69,u70,u 71,u 72],[]⟩∧Vr=failW V6 w.heap.size n ((k:Int) + 1) (f 5) (f 6) (f 7)∧(f 0=true→x57=.pointer (some ⟨V1.heap.size,3,none⟩))∧(f 1=true→x58=.int .i64 n)∧(f 2=true→x59=.pointer (some ⟨V1.heap.size,4,none⟩))∧(f 3=true→x60=.int .i64 ((k:Int) + 1))∧(f 4=true→x61=.agg #[.int .i64 n,.int .i64 ((k:Int) + 1)])) (by kernel_rfl) (by kernel_rfl) (rs:=[0,1,2,3,4,5,6,7]) (by kernel_rfl) ?start ?steps ?last
       case start=>exact ⟨_,_,_,_,_,rfl,rfl,by simp,by simp,by simp,by simp,by simp⟩
       case steps =>
        refine KeepsIn.cons (ds:=[]) rfl (by kernel_rfl) ?s0 (KeepsIn.cons (ds:=[0]) rfl (by kernel_rfl) ?s1 (KeepsIn.cons (ds:=[]) rfl (by kernel_rfl) ?s2 (KeepsIn.cons (ds:=[2]) rfl (by kernel_rfl) ?s3 (KeepsIn.cons (ds:=[1,3]) rfl (by kernel_rfl) ?s4 (KeepsIn.cons (ds:=[]) rfl (by kernel_rfl) ?s5 (KeepsIn.cons (ds:=[4,5]) rfl (by kernel_rfl) ?s6 (KeepsIn.cons (ds:=[6]) rfl (by kernel_rfl) ?s7 KeepsIn.nil)))))))
        all_goals (intro f a Vr hf hd hcl hI K' hK;obtain ⟨x57,x58,x59,x60,x61,rfl,rfl,j0,j1,j2,j3,j4⟩:=hI;have hfc:=failW_cells hx6'.out.1 hJ6'.out (f 5) (f 6) (f 7) n ((k:Int) + 1) (by omega);obtain ⟨⟨e3,e4⟩,ee⟩:=hfc)
        case s0 =>
         go_simp
         exact hK _ _ ⟨_,_,_,_,_,rfl,by simp,fun _=>rfl,j1,j2,j3,j4⟩
        case s1 =>
         have e:=j0 (hd 0 (by simp))
         subst e
         go_simp
         exact hK _ _ ⟨_,_,_,_,_,rfl,by simp,j0,fun _=>rfl,j2,j3,j4⟩
        case s2 =>
         go_simp
         exact hK _ _ ⟨_,_,_,_,_,rfl,by simp,j0,j1,fun _=>rfl,j3,j4⟩
        case s3 =>
         have e:=j2 (hd 2 (by simp))
         subst e
         go_simp
         exact hK _ _ ⟨_,_,_,_,_,rfl,by simp,j0,j1,j2,fun _=>rfl,j4⟩
        case s4 =>
         have e:=j1 (hd 1 (by simp))
         subst e
         have e:=j3 (hd 3 (by simp))
         subst e
         go_simp
         exact hK _ _ ⟨_,_,_,_,_,rfl,by simp,j0,j1,j2,j3,fun _=>rfl⟩
        case s5 =>
         have h6:f 6=false:=by cases h:f 6;rfl;exact absurd (hcl 6 5 (by kernel_rfl) h) (by rw [hf];simp)
         have h7:f 7=false:=by cases h:f 7;rfl;exact absurd (hcl 6 5 (by kernel_rfl) (hcl 7 6 (by kernel_rfl) h)) (by rw [hf];simp)
         rw [hf,h6,h7] at ee ⊢
         obtain ⟨⟨g0,g1,g2,g3⟩,gf⟩:=ee
         have g4:=gf w.heap.size 0 (by simp)
         have g5:=gf (w.heap.size + 1) 0 (by simp)
         have g6:=gf (w.heap.size + 1) 1 (by simp)
         have g7:=gf (w.heap.size + 1 + 1) 0 (by simp)
         go_simp
         exact hK _ _ ⟨_,_,_,_,_,rfl,by simp [failW,h6,h7],j0,j1,j2,j3,j4⟩
        case s6 =>
         have e:=j4 (hd 4 (by simp))
         subst e
         have h5:f 5=true:=hd 5 (by simp)
         have h7:f 7=false:=by cases h:f 7;rfl;exact absurd (hcl 7 6 (by kernel_rfl) h) (by rw [hf];simp)
         rw [hf,h5,h7] at ee ⊢
         obtain ⟨⟨g0,g1,g2,g3⟩,gf⟩:=ee
         have g4:=gf w.heap.size 0 (by simp)
         have g5:=gf (w.heap.size + 1) 0 (by simp)
         have g6:=gf (w.heap.size + 1) 1 (by simp)
         have g7:=gf (w.heap.size + 1 + 1) 0 (by simp)
         go_simp
         exact hK _ _ ⟨_,_,_,_,_,rfl,by simp [failW,h5,h7],j0,j1,j2,j3,j4⟩
        case s7 =>
         have h6:f 6=true:=hd 6 (by simp)
         have h5:f 5=true:=hcl 6 5 (by kernel_rfl) h6
         rw [hf,h5,h6] at ee ⊢
         obtain ⟨⟨g0,g1,g2,g3⟩,gf⟩:=ee
         have g4:=gf w.heap.size 0 (by simp)
         have g5:=gf (w.heap.size + 1) 0 (by simp)
         have g6:=gf (w.heap.size + 1) 1 (by simp)
         have g7:=gf (w.heap.size + 1 + 1) 0 (by simp)
         go_simp
         exact hK _ _ ⟨_,_,_,_,_,rfl,by simp [failW,h5,h6],j0,j1,j2,j3,j4⟩
       case last =>
        rintro f a Vr hf ⟨x57,x58,x59,x60,x61,rfl,rfl,j0,j1,j2,j3,j4⟩
        rw [hf 5 (by simp),hf 6 (by simp),hf 7 (by simp)]
        gi_wp2_with fail
        exact hfail.out hbad.out
      ·
       have h2i:((ts.length:Int) == 2000)=false:=beq_eq_false_iff_ne.2 (by omega)
       have hpf:=tokF_prefix hto
       have hne:=List.length_pos_iff.2 (tokF_ne hto)
       have hle:tt.length + k≤p.length:=by have:=hpf.length_le;rw [hdl'.out] at this;omega
       have hres2:Hid (Res.pre (ts ++ [(⟨vk,tt,tn,n,(k:Int) + 1⟩:Tk)]) (lexF n ((k:Int) + 1 + tt.length) (ts ++ [(⟨vk,tt,tn,n,(k:Int) + 1⟩:Tk)]).length (p.drop (k + tt.length)))=R0):=by
        unfold Hid
        rw [←hR1.out,lexF_tok _ _ _ hta.out,hto]
        simp only
        rw [if_neg (by have:=hts.out;omega),pre_pre,List.drop_drop,List.length_append]
        rfl
       have hne':=Lib.hid hne
       have h2':Hid (ts.length + 1≤2000):=by unfold Hid;have:=hts.out;omega
       have hvs:=hvs'.out
       have hvl:vs.size=tt.length:=by rw [hvs];rfl
       have htc:Hid (tkC ⟨vk,tt,tn,n,(k:Int) + 1⟩=[.int .i64 vk,.string vs,.int .i64 tn,.int .i64 n,.int .i64 ((k:Int) + 1)]):=by unfold Hid;rw [hvs];rfl
       obtain ⟨V7,hV7⟩:∃ W,V6.alloc (.cells #[.int .i64 vk,.string vs,.int .i64 tn,.int .i64 n,.int .i64 ((k:Int) + 1)] 51)=W:=⟨_,rfl⟩
       have hb7:Below V6.heap.size V6 V7:=by rw [←hV7];exact (Below.refl _ _).alloc (Nat.le_refl _) _
       have hJ7:=Lib.hid (hJ6'.out.below hb7)
       have hx7:=Lib.hid (hx6'.out.1.below hb7)
       have hnews:∀ j v,([.int .i64 vk,.string vs,.int .i64 tn,.int .i64 n,.int .i64 ((k:Int) + 1)]:List Value)[j]?=some v→V7.cell? ((⟨V6.heap.size,0,none⟩:Addr).add j)=some v:=by
        have:=cell_five_new (w:=V6) rfl ⟨vk,tt,tn,n,(k:Int) + 1⟩ 51
        rw [htc.out,hV7] at this
        exact this
       have hnews':=Lib.hid hnews
       have hone1:∀ u ∈ ([.int .i64 vk,.string vs,.int .i64 tn,.int .i64 n,.int .i64 ((k:Int) + 1)]:List Value),u.oneCell'=true:=by simp [Value.oneCell']
       have hk63:ts.length + 1≤maxLen:=by have:=h2'.out;unfold maxLen;omega
       have hk48:(ts.length + 1) * 48≤140737488355328:=by have:=h2'.out;omega
       have hbs7:w.heap.size + 5≤V7.heap.size:=by have:=hK6.out.1;have:=hb7.size;omega
       have hw2:IntKind.i64.wrap ((k:Int) + (tt.length:Int))=(k:Int) + (tt.length:Int):=IntWalk.i64_in _ (by omega)
       have hw4:wrap64 ((k:Int) + (tt.length:Int))=(k:Int) + (tt.length:Int):=(IntWalk.i64_left _).symm.trans hw2
       have hV7':=Lib.hid hV7
       have hK7:=Lib.hid (hK6.out.trans (KK.below hb7))
       have htn:Hid (tokF (p.drop k)=some (vk,tt,tn)):=hto
       obtain ⟨i0,hi,hz0,hz1',hz2'⟩:=info_of Tryz.infoTk
       clear h2 hto hpf hne hvs hb7 hnews hV7 s0 s1 sf t0 tf
       gi_wp2_with (gi_at_builtin;go_must (rw [hV7'.out];refine wpListIn_append_own_at _ rfl _ _ 22 rfl (w.heap.size + 5) 51 i0 (.agg #[.int .i64 0,.string ⟨#[]⟩,.int .i64 0,.int .i64 0,.int .i64 0]) 5 48 Tryz.underlying22 hi hz0 hz1' hz2' rfl (by decide) _ _ _ rfl hJ7.out.row ⟨V6.heap.size,0,none⟩ 1 1 [.int .i64 vk,.string vs,.int .i64 tn,.int .i64 n,.int .i64 ((k:Int) + 1)] rfl rfl hnews'.out hone1 hk63 hk48 hbs7 ?_);intro v2 w3 hown2 hg2 _ _;obtain ⟨va,vc,rfl,_⟩:=tk_own_form hown2;have hJ8:=hJ7.out.grow (t:=⟨vk,tt,tn,n,(k:Int) + 1⟩) hg2 (by rw [htc.out];exact hown2);have hK8a:=KK.row hJ7.out.row hg2;have hb8:∀ g,g < w.heap.size + 5→w3.heap[g]?=V7.heap[g]?:=(fun g h1=>hg2.block g (by omega) (fun e=>by have:=(ownBlock_ge hJ7.out.row e.symm).1;omega));have hbo:=(hb8 _ (by omega)).trans hJ7.out.out;have hbx:=(hg2.block _ (blk_lt hx7.out) (fun e=>hVo.out _ e.symm rfl)).trans hx7.out;have r0':w3.cell? ⟨w.heap.size,0,none⟩=some (.slice oa ts.length oc):=(by simp [World.cell?,hbo]);have rf':w3.frozen? ⟨w.heap.size,0,none⟩=false:=(by simp [World.frozen?,hbo]);have c1:(w3.setCell ⟨w.heap.size,0,none⟩ (.slice va (ts.length + 1) vc)).cell? ⟨V1.heap.size,1,none⟩=some (.string vs):=(by rw [World.cell?_of_block (Below.heap_setCell _ _ _ _ (by simp;omega))];simp [World.cell?,hbx]);have hJ8':=Lib.hid hJ8;have hK8:Hid (KK W (w3.setCell ⟨w.heap.size,0,none⟩ (.slice va (ts.length + 1) vc))):=((hK7.out.trans hK8a).trans (KK.one (OneSet.cell w3 w.heap.size 0 (.slice va (ts.length + 1) vc)) fun o ho=>by rw [hbo] at ho;cases ho;simp [keepO]));clear hJ8 hK8a hg2 hown2 hb8 hbo hbx r0 rf p0 p1 p2 p3 p4 pf)
       obtain ⟨U,hU⟩:∃ U,w3.setCell ⟨w.heap.size,0,none⟩ (.slice va (ts.length + 1) vc)=U:=⟨_,rfl⟩
       rw [hU] at hJ8' hK8 ⊢
       clear hw1 hw2 hw4
       obtain ⟨m,hm⟩:∃ m,k + tt.length=m:=⟨_,rfl⟩
       have hmi:(k:Int) + (tt.length:Int)=(m:Int):=by omega
       have hmp:m≤p.length:=by omega
       have hmc:(m:Int)≤(pc:Int):=by omega
       have hkm:k < m:=by have:=hne'.out;omega
       obtain ⟨a',hae⟩:∃ a',a'=if pc=m then pa else Option.map (fun x=>x.add m) pa:=⟨_,rfl⟩
       have hrowU:ByteRow U.drew a' (p.drop m):=by
        rw [hae]
        split
        ·
         exact .inl (List.drop_eq_nil_of_le (by omega))
        ·
         exact (hpr'.out.keeps (Keeps.of_below (hJ8'.out.low.drew))).drop m
       have hrn:=lex_run a' (p.drop m) (pc - m) 43 #[] (fun x=>x == 32) U.drew (by rw [List.length_drop];unfold lenMax;omega) hrowU (answers_space _) enters_space
       rw [run_space,List.length_drop] at hrn
       obtain ⟨s,hs⟩:∃ s,spN (p.drop m)=s:=⟨_,rfl⟩
       rw [hs] at hrn
       have hsl:m + s≤p.length:=by have:=runN_le (fun x=>x == 32) (p.drop m);rw [run_space,hs,List.length_drop] at this;omega
       have hw5:IntKind.i64.wrap ((m:Int) + (s:Int))=(m:Int) + (s:Int):=IntWalk.i64_in _ (by omega)
       have hw6:wrap64 ((m:Int) + (s:Int))=(m:Int) + (s:Int):=(IntWalk.i64_left _).symm.trans hw5
       have f0:U.drew.cell? ⟨w.heap.size + 1 + 1 + 1,0,none⟩=some (.func (.func 43) #[] #[]):=hJ8'.out.fnv.cells.1
       have hrn':=Lib.hid hrn
       have hs':=Lib.hid hs
       have hmi':=Lib.hid hmi
       have hm':=Lib.hid hm
       have hae':=Lib.hid hae
       have hU':=Lib.hid hU
       clear hU hrn hs hmi hm hae hrowU hx7 hJ7 c1 r0' rf'
       refine wpIn_region_inv (fun f a Vr=>∃ x8 x31 x32 x33 x34 x35 x36 x37,a=⟨#[u 0,u 1,.pointer (some ⟨w.heap.size,0,none⟩),.pointer (some ⟨w.heap.size + 1,0,none⟩),.pointer (some ⟨w.heap.size + 1 + 1,0,none⟩),.pointer (some ⟨w.heap.size + 1 + 1 + 1,0,none⟩),.int .i64 n,.slice pa p.length pc,x8,.pointer (some ⟨V1.heap.size,0,none⟩),.bool true,u 11,u 12,u 13,u 14,.slice pa p.length pc,.func (.func 43) #[] #[],.int .i64 (k0:Int),.int .i64 (k:Int),.slice pa p.length pc,.int .i64 (p.length:Int),.bool true,.bool true,.slice pa p.length pc,.int .i64 (k:Int),.slice (Option.map (fun x=>x.add k) pa) (p.length - k) (pc - k),.slice (some ⟨W2.heap.size,0,none⟩) 2 2,.slice (some ⟨W2.heap.size,0,none⟩) 2 2,.bool false,.bool true,.bool true,x31,x32,x33,x34,x35,x36,x37,.tuple #[.agg #[.int .i64 vk,.string vs,.int .i64 (tn:Int),.int .i64 0,.int .i64 0],.bool true],.slice pa p.length pc,.int .i64 (k:Int),.slice (Option.map (fun x=>x.add k) pa) (p.length - k) (pc - k),.tuple #[.agg #[.int .i64 vk,.string vs,.int .i64 (tn:Int),.int .i64 0,.int .i64 0],.bool true],.agg #[.int .i64 vk,.string vs,.int .i64 (tn:Int),.int .i64 0,.int .i64 0],.bool true,.int .i64 n,.int .i64 (k:Int),.int .i64 ((k:Int) + 1),.pointer (some ⟨V1.heap.size,3,none⟩),.pointer (some ⟨V1.heap.size,4,none⟩),.bool true,.bool false,.bool false,.slice oa ts.length oc,.int .i64 (ts.length:Int),.bool false,.bool false,u57,u58,u59,u60,u61,.slice oa ts.length oc,.agg #[.int .i64 vk,.string vs,.int .i64 (tn:Int),.int .i64 n,.int .i64 ((k:Int) + 1)],.slice (some ⟨V6.heap.size,0,none⟩) 1 1,.slice va (ts.length + 1) vc,.int .i64 (k:Int),.pointer (some ⟨V1.heap.size,1,none⟩),.string vs,.int .i64 (tt.length:Int),.int .i64 ((k:Int) + (tt.length:Int)),u 71,u 72],[]⟩∧Vr=U.drew∧(f 7=false→x8=.int .i64 (m:Int))∧(f 0=true→x31=.int .i64 (m:Int))∧(f 1=true→x32=.slice pa p.length pc)∧(f 2=true→x33=.int .i64 (m:Int))∧(f 3=true→x34=.slice a' (p.length - m) (pc - m))∧(f 4=true→x35=.func (.func 43) #[] #[])∧(f 5=true→x36=.int .i64 (s:Int))∧(f 6=true→x37=.int .i64 ((m:Int) + (s:Int)))∧(f 7=true→x8=.int .i64 ((m:Int) + (s:Int)))) (by kernel_rfl) (by kernel_rfl) (rs:=[0,1,2,3,4,5,6,7]) (by kernel_rfl) ?start ?steps ?last
       case start=>exact ⟨_,_,_,_,_,_,_,_,rfl,rfl,fun _=>by rw [hmi'.out],by simp,by simp,by simp,by simp,by simp,by simp,by simp,by simp⟩
       case steps =>
        refine (KeepsIn.cons (ds:=[]) rfl (by kernel_rfl) ?s0 (KeepsIn.cons (ds:=[]) rfl (by kernel_rfl) ?s1 (KeepsIn.cons (ds:=[]) rfl (by kernel_rfl) ?s2 (KeepsIn.cons (ds:=[1,2]) rfl (by kernel_rfl) ?s3 (KeepsIn.cons (ds:=[]) rfl (by kernel_rfl) ?s4 (KeepsIn.cons (ds:=[3,4]) rfl (by kernel_rfl) ?s5 (KeepsIn.cons (ds:=[0,5]) rfl (by kernel_rfl) ?s6 (KeepsIn.cons (ds:=[6]) rfl (by kernel_rfl) ?s7 KeepsIn.nil))))))))
        all_goals (intro f a Vr hf hd hcl hI K' hK;obtain ⟨x8,x31,x32,x33,x34,x35,x36,x37,rfl,rfl,j8,j0,j1,j2,j3,j4,j5,j6,j7⟩:=hI)
        case s0 =>
         have e:=j8 (by cases h:f 7;rfl;exact absurd (hcl 7 0 (by kernel_rfl) h) (by rw [hf];simp))
         subst e
         go_simp
         exact hK _ _ ⟨_,_,_,_,_,_,_,_,rfl,rfl,j8,fun _=>rfl,j1,j2,j3,j4,j5,j6,j7⟩
        case s1 =>
         go_simp
         exact hK _ _ ⟨_,_,_,_,_,_,_,_,rfl,rfl,j8,j0,fun _=>rfl,j2,j3,j4,j5,j6,j7⟩
        case s2 =>
         have e:=j8 (by cases h:f 7;rfl;exact absurd (hcl 7 2 (by kernel_rfl) h) (by rw [hf];simp))
         subst e
         go_simp
         exact hK _ _ ⟨_,_,_,_,_,_,_,_,rfl,rfl,j8,j0,j1,fun _=>rfl,j3,j4,j5,j6,j7⟩
        case s3 =>
         have e:=j1 (hd 1 (by simp))
         subst e
         have e:=j2 (hd 2 (by simp))
         subst e
         go_simp
         exact hK _ _ ⟨_,_,_,_,_,_,_,_,rfl,rfl,j8,j0,j1,j2,fun _=>by rw [hae'.out],j4,j5,j6,j7⟩
        case s4 =>
         go_simp
         exact hK _ _ ⟨_,_,_,_,_,_,_,_,rfl,rfl,j8,j0,j1,j2,j3,fun _=>rfl,j5,j6,j7⟩
        case s5 =>
         have e:=j3 (hd 3 (by simp))
         subst e
         have e:=j4 (hd 4 (by simp))
         subst e
         go_simp
         refine ⟨trivial,callsIn_round (hrn'.out.mono ?_)⟩
         rintro e V ⟨rfl,rfl⟩
         exact hK _ _ ⟨_,_,_,_,_,_,_,_,rfl,rfl,j8,j0,j1,j2,j3,j4,fun _=>rfl,j6,j7⟩
        case s6 =>
         have e:=j0 (hd 0 (by simp))
         subst e
         have e:=j5 (hd 5 (by simp))
         subst e
         go_simp
         exact hK _ _ ⟨_,_,_,_,_,_,_,_,rfl,rfl,j8,j0,j1,j2,j3,j4,j5,fun _=>rfl,j7⟩
        case s7 =>
         have e:=j6 (hd 6 (by simp))
         subst e
         go_simp
         exact hK _ _ ⟨_,_,_,_,_,_,_,_,rfl,rfl,by simp,j0,j1,j2,j3,j4,j5,j6,fun _=>rfl⟩
       case last =>
        rintro f a Vr hf ⟨x8,x31,x32,x33,x34,x35,x36,x37,rfl,rfl,j8,j0,j1,j2,j3,j4,j5,j6,j7⟩
        have e:=j7 (hf 7 (by simp))
        subst e
        have hJ9:=hJ8'.out.below (Below.refl _ _).drew
        have hK9:KK W U.drew:=hK8.trans (KK.below (Below.refl _ _).drew)
        have hl9:(ts ++ [(⟨vk,tt,tn,n,(k:Int) + 1⟩:Tk)]).length=ts.length + 1:=by simp
        gi_wp2_with fail
        clear hw5 hw6
        refine ⟨⟨m + s,ts ++ [(⟨vk,tt,tn,n,(k:Int) + 1⟩:Tk)],va,vc,hsl,by rw [Int.natCast_add],by rw [hl9];exact hJ9,hK9,?_,?_,by rw [hl9];exact h2'⟩,by simp [intOf];omega⟩
        ·
         have h:=hres2.out
         have h2:=lexF_sps (p.drop m) n (ts ++ [(⟨vk,tt,tn,n,(k:Int) + 1⟩:Tk)]).length ((m:Int) + 1)
         rw [hs'.out,List.drop_drop] at h2
         unfold Hid
         rw [←h,hm'.out,show (k:Int) + 1 + (tt.length:Int)=(m:Int) + 1 by have:=hmi'.out;omega,h2]
         congr 2
         rw [Int.natCast_add];omega
        ·
         unfold Hid
         rw [←hs'.out,←List.drop_drop]
         exact spN_head _
    ·
     have hcm':=Lib.hid hcm
     clear hcm hdl
     gi_wp2_with fail
     exact hnil.out (line_com hd10.out hcm'.out _ _ _) _ hb3'.out
   ·
    have hend:Hid (lexF n ((k:Int) + 1) ts.length (p.drop k)=.ok []):=by
     unfold Hid
     rw [List.drop_eq_nil_of_le (by omega),lexF_nil]
    gi_wp2_with fail
    refine ⟨trivial,?_⟩
    gi_wp2_with fail
    exact hnil.out hend.out _ (Below.refl _ _)
 case done =>
  rintro D xs W hD hys ⟨v,ts,hJ,hzW,hq,hts⟩ hKD
  obtain ⟨oa,oc,hoe,_⟩:=tk_own_form hJ.row
  subst hoe
  have hok:Hid (R=.ok ts):=by
   unfold Hid
   rw [←hR'.out,←hys];exact hq
  have hJ':=Lib.hid hJ
  obtain ⟨r0,rf⟩:=hJ.out.cells
  obtain ⟨⟨s0,s1⟩,sf⟩:=hJ.plc.cells
  obtain ⟨t0,tf⟩:=hJ.err.cells
  clear hJ hq hys
  gi_wp2_with fail
  obtain ⟨d1,d2,d3,d4,d5,d6⟩:=hJ'.out.done
  refine lex_end (W:=doneW W w.heap.size (.slice oa ts.length oc)) rfl rfl rfl ((d6 D (by omega)).trans hKD) (by omega) d1 d2 d3 d4 fun W' hk=>?_
  rw [hok.out]
  exact ⟨_,rfl,d5.keeps hk⟩
 case stop =>
  rintro D c pre W hD hpre ⟨rfl,x,y,hq,hB,b1,b2,b3⟩ hKD
  have hbad:Hid (R=.bad x y):=by
   unfold Hid
   obtain ⟨r,hr⟩:=hpre
   rw [←hR'.out,←hr,lexQ_append,hq]
  clear hpre hq
  gi_wp2_with fail
  refine lex_end rfl rfl rfl hKD (by omega) hB b1 b2 b3 fun W' hk=>?_
  rw [hbad.out]
  exact rfl
end Go.Proofs.YtinjocchommbdaaGreatDoor
namespace Go.Proofs.YtinjocchommbdaaGreatDoor
open Go.RowKit
def TxR (B:Nat) (l:Bs) (e:Ending) (W':World):Prop :=
 match lexA l with
 | .bad x y=>e=.returned (.tuple #[pgZ,.agg #[.int .i64 x,.int .i64 y],.int .i64 20])
 | .ok ts=>match layF ts with
  | .bad x y=>e=.returned (.tuple #[pgZ,.agg #[.int .i64 x,.int .i64 y],.int .i64 30])
  | .ok ms=>ParR (progF ms) progB pgZ (fun w v y=>Lay B w.heap.size w fun x=>IsPg x v y) ms e W'
theorem layS_max6:∀ (l:List Tk) (prev:Option Tk) (fresh:Bool) (st:List Int) (m:List Tk),layS prev fresh st l=.ok m→m.length≤5 * l.length + st.length
 | [],prev,fresh,st,m,h=>by
  rw [layS] at h
  cases prev with
  | none=>simp only [endS,Res.ok.injEq] at h;rw [←h];simp
  | some e =>
   simp only [endS] at h
   split at h
   ·
    simp only [Res.ok.injEq] at h
    have:=shutW_len (fun _=>true) st
    rw [←h,List.length_replicate]
    simp only [List.length_nil]
    omega
   ·
    cases h
 | t :: r,prev,fresh,st,m,h=>by
  obtain ⟨o2,s2,q,h1,h2,rfl⟩:=layS_cons h
  have a:=ahead_len prev fresh t st
  have b:=fitS_len h1
  have c:=beh_len t r.head? s2
  have d:=layS_max6 r _ _ _ q h2
  simp only [List.length_append,List.length_cons] at *
  omega
theorem lay_max6 {l m:List Tk} (h:layF l=.ok m):m.length≤5 * l.length:=by
 have:=layS_max6 l none true [] m h
 simpa using this
theorem fit_tk {n:Nat} {t:Tk} (h:FitT n t) (hn:n≤1000001):TkFit t:=by
 refine ⟨?_,h.2⟩
 have:=h.1
 have e:(tS t.text).size=t.text.length:=rfl
 unfold lenMax
 omega
theorem ParR.imp {α:Type} {F:Except Nat α} {chk:α→Bool} {z:Value} {I J:World→Value→α→Prop} {l:List Tk} {e:Ending} {W W':World} (h:ParR F chk z I l e W) (hi:∀ v y,I W v y→J W' v y):ParR F chk z J l e W':=by
 unfold ParR at h ⊢
 cases F with
 | error p=>exact h
 | ok y =>
  simp only at h ⊢
  split at h
  ·
   rename_i hc
   rw [if_pos hc]
   obtain ⟨v,h1,h2⟩:=h
   exact ⟨v,h1,hi v y h2⟩
  ·
   rename_i hc
   rw [if_neg hc]
   exact h
theorem ParR.pg {F:Except Nat Pg} {chk:Pg→Bool} {I:World→Value→Pg→Prop} {l:List Tk} {e:Ending} {W:World} (h:ParR F chk pgZ I l e W) (hi:∀ v y,I W v y→IsPg W v y):∃ a1 m1 c1 a2 m2 c2 x y k,e=.returned (.tuple #[.agg #[.slice a1 m1 c1,.slice a2 m2 c2],.agg #[.int .i64 x,.int .i64 y],.int .i64 k]):=by
 unfold ParR at h
 cases F with
 | error p=>exact ⟨_,_,_,_,_,_,_,_,_,h⟩
 | ok y =>
  simp only at h
  split at h
  ·
   obtain ⟨v,h1,h2⟩:=h
   obtain ⟨a1,m1,c1,a2,m2,c2,rfl⟩:=pg_agg (hi _ _ h2)
   exact ⟨_,_,_,_,_,_,_,_,_,h1⟩
  ·
   exact ⟨_,_,_,_,_,_,_,_,_,h⟩
theorem set2_still {w:World} {t:TypeId} {b:Nat} {x0 x1:Value} (h:Box2 w t b x0 x1):Below w.heap.size w ((w.setCell ⟨b,0,none⟩ x0).setCell ⟨b,1,none⟩ x1):=by
 have k:=h.set x0 x1
 refine ⟨k.2.below.os,k.2.below.tape,k.2.below.output,by rw [show ((w.setCell ⟨b,0,none⟩ x0).setCell ⟨b,1,none⟩ x1)=World.set2 w b x0 x1 from rfl,k.2.size];exact Nat.le_refl _,fun i hi=>?_⟩
 by_cases e:i=b
 ·
  subst e;exact k.1.trans h.symm
 ·
  exact k.2.other i e
theorem tx_box {W V:World} (hB:Below (W.heap.size + 2) ((W.alloc (.cells #[.slice none 0 0,.slice none 0 0] 38)).alloc (.cells #[.int .i64 0,.int .i64 0] 29)) V):Blk V W.heap.size (.cells #[.slice none 0 0,.slice none 0 0] 38 (0,0))∧Blk V (W.heap.size + 1) (.cells #[.int .i64 0,.int .i64 0] 29 (0,0))∧Below W.heap.size W V:=by
 have z1:(W.alloc (.cells #[.slice none 0 0,.slice none 0 0] 38)).heap.size=W.heap.size + 1:=by simp
 have q0:Blk (W.alloc (.cells #[.slice none 0 0,.slice none 0 0] 38)) W.heap.size (.cells #[.slice none 0 0,.slice none 0 0] 38 (0,0)):=Blk.new
 have q1:Blk ((W.alloc (.cells #[.slice none 0 0,.slice none 0 0] 38)).alloc (.cells #[.int .i64 0,.int .i64 0] 29)) (W.heap.size + 1) (.cells #[.int .i64 0,.int .i64 0] 29 (0,0)):=by
  have:=Blk.new (w:=W.alloc (.cells #[.slice none 0 0,.slice none 0 0] 38)) (vs:=#[.int .i64 0,.int .i64 0]) (t:=29)
  rw [z1] at this;exact this
 have b1:Below W.heap.size W ((W.alloc (.cells #[.slice none 0 0,.slice none 0 0] 38)).alloc (.cells #[.int .i64 0,.int .i64 0] 29)):=((Below.refl _ _).alloc (Nat.le_refl _) _).alloc (by simp) _
 have q0':=q0.below ((Below.refl _ _).alloc (Nat.le_refl _) (.cells #[.int .i64 0,.int .i64 0] 29))
 have hz:((W.alloc (.cells #[.slice none 0 0,.slice none 0 0] 38)).alloc (.cells #[.int .i64 0,.int .i64 0] 29)).heap.size=W.heap.size + 2:=by simp
 rw [←hz] at hB
 exact ⟨q0'.below hB,q1.below hB,b1.trans (hB.mono (by simp;omega))⟩
set_option maxHeartbeats 4000000 in
set_option maxRecDepth 100000 in
theorem par_Text (a:Option Addr) (l:Bs) (cap:Nat) (W:World) (hl:l.length≤1000000) (hc:l.length≤cap) (hc63:cap≤9223372036854775807) (ha:a=none→cap=0) (hr:ByteRow W a l) (hE:RngOk W) (hM:MaxOk W) :
  Calls Tryz.prog 17 #[.slice a l.length cap] W fun e W'=>TxR W.heap.size l e W'∧Below W.heap.size W W':=by
 obtain ⟨W1,hW1⟩:∃ V,(W.alloc (.cells #[.slice none 0 0,.slice none 0 0] 38)).alloc (.cells #[.int .i64 0,.int .i64 0] 29)=V:=⟨_,rfl⟩
 have hz1:W1.heap.size=W.heap.size + 2:=by rw [←hW1];simp
 have hbox:Hid (∀ V,Below W1.heap.size W1 V→Blk V W.heap.size (.cells #[.slice none 0 0,.slice none 0 0] 38 (0,0))∧Blk V (W.heap.size + 1) (.cells #[.int .i64 0,.int .i64 0] 29 (0,0))∧Below W.heap.size W V):=fun V hV=>by
  rw [hz1,←hW1] at hV
  exact tx_box hV
 have hk1:=Keeps.of_below (hbox.out W1 (Below.refl _ _)).2.2
 have hlex:=lex_Lex a l cap W1 hl hc hc63 ha (hr.keeps hk1) (hE.keeps hk1) (hM.keeps hk1)
 obtain ⟨R,hR⟩:∃ R,lexA l=R:=⟨_,rfl⟩
 rw [hR] at hlex
 have hlex':=Lib.hid hlex
 have hR':=Lib.hid hR
 have hW1':=Lib.hid hW1
 have hl':=Lib.hid hl
 have hz1':=Lib.hid hz1
 clear hlex hR hW1 hk1 hr hE hM hl hz1
 go_enter Tryz.func17,Tryz.ntmps17
 go_upto_region 1 with (fail)
 rw [hW1'.out]
 go_wp2_with fail
 refine hlex'.out.mono ?_
 rintro e V ⟨hm,hB⟩
 have hzz:=hz1'.out
 have hVz:W.heap.size + 2≤V.heap.size:=by have:=hB.size;omega
 cases R with
 | bad x y =>
  obtain rfl:=hm
  obtain ⟨V1,hV1⟩:∃ U,V.alloc (.cells #[.int .i64 x,.int .i64 y] 29)=U:=⟨_,rfl⟩
  have hb1:Below V.heap.size V V1:=by rw [←hV1];exact (Below.refl _ _).alloc (Nat.le_refl _) _
  have hBV:=hB.trans (hb1.mono hB.size)
  obtain ⟨q0,q1,hW⟩:=hbox.out V1 hBV
  have q2:Blk V1 V.heap.size (.cells #[.int .i64 x,.int .i64 y] 29 (0,0)):=by rw [←hV1];exact Blk.new
  have c00:V1.cell? ⟨W.heap.size,0,none⟩=some (.slice none 0 0):=(q0.cl 0).trans rfl
  have c01:V1.cell? ⟨W.heap.size,1,none⟩=some (.slice none 0 0):=(q0.cl 1).trans rfl
  have c10:V1.cell? ⟨W.heap.size + 1,0,none⟩=some (.int .i64 0):=(q1.cl 0).trans rfl
  have c11:V1.cell? ⟨W.heap.size + 1,1,none⟩=some (.int .i64 0):=(q1.cl 1).trans rfl
  have c20:V1.cell? ⟨V.heap.size,0,none⟩=some (.int .i64 x):=(q2.cl 0).trans rfl
  have c21:V1.cell? ⟨V.heap.size,1,none⟩=some (.int .i64 y):=(q2.cl 1).trans rfl
  have f0:=q0.fr
  have f1:=q1.fr
  have l0:=q0.lt
  have l1:=q1.lt
  have s0:=(show Box2 V1 38 W.heap.size _ _ from q0).set (.slice none 0 0) (.slice none 0 0)
  have s1:=((Blk.own q1 s0.2 (by omega) |> fun q=>(show Box2 _ 29 _ _ _ from q))).set (.int .i64 x) (.int .i64 y)
  have s0b:=Blk.own (show Blk _ _ _ from s0.1) s1.2 (by omega)
  have hfin:=Lib.hid (And.intro s0b (And.intro (show Blk _ _ _ from s1.1) (hW.trans ((s0.2.below.mono (Nat.le_refl _)).trans (s1.2.below.mono (by omega))))))
  clear s0 s1 s0b q0 q1 hW
  have hV1':=Lib.hid hV1
  clear hV1 hb1 hBV hB
  go_upto_region 2 with (fail)
  rw [hV1'.out]
  go_wp2_with fail
  go_region
  go_wp2_with fail
  refine bodyPost_ret (results_pP rfl _ _ rfl rfl rfl hfin.out.1 hfin.out.2.1) rfl ⟨?_,hfin.out.2.2.drew⟩
  unfold TxR
  rw [hR'.out]
  rfl
 | ok ts =>
  obtain ⟨v,rfl,a2,c2,rfl,⟨ha2,hc2⟩,hr2⟩:=hm
  obtain ⟨hts,hfit⟩:=lex_fit hR'.out
  obtain ⟨V1,hV1⟩:∃ U,V.alloc (.cells #[.int .i64 0,.int .i64 0] 29)=U:=⟨_,rfl⟩
  have hb1:Below V.heap.size V V1:=by rw [←hV1];exact (Below.refl _ _).alloc (Nat.le_refl _) _
  have hzV1:V1.heap.size=V.heap.size + 1:=by rw [←hV1];simp
  have hBV:=Lib.hid (hB.trans (hb1.mono hB.size))
  have q2:Blk V1 V.heap.size (.cells #[.int .i64 0,.int .i64 0] 29 (0,0)):=by rw [←hV1];exact Blk.new
  have q2':=Lib.hid q2
  have hlay:=lay_Layout a2 ts c2 V1 hts hc2 ha2 (hr2.keeps (Keeps.of_below hb1))
  obtain ⟨R2,hR2⟩:∃ R,layF ts=R:=⟨_,rfl⟩
  rw [hR2] at hlay
  have hlay':=Lib.hid hlay
  have hR2':=Lib.hid hR2
  have hV1':=Lib.hid hV1
  have hfit':=Lib.hid hfit
  have hts':=Lib.hid hts
  clear hV1 hb1 hB hR2 hlay hr2 hfit q2
  go_upto_region 2 with (fail)
  rw [hV1'.out]
  go_wp2_with fail
  refine hlay'.out.mono ?_
  rintro e V2 ⟨hm2,hB2⟩
  have hBV2:=Lib.hid (hBV.out.trans (hB2.mono hBV.out.size))
  have q22:=Lib.hid (q2'.out.below hB2)
  have c20:V2.cell? ⟨V.heap.size,0,none⟩=some (.int .i64 0):=(q22.out.cl 0).trans rfl
  have c21:V2.cell? ⟨V.heap.size,1,none⟩=some (.int .i64 0):=(q22.out.cl 1).trans rfl
  have f2:=q22.out.fr
  have l2:=q22.out.lt
  have hV2z:V.heap.size + 1≤V2.heap.size:=by have:=hB2.size;omega
  clear hB2
  cases R2 with
  | bad x y =>
   obtain rfl:=hm2
   obtain ⟨q0,q1,hW⟩:=hbox.out V2 hBV2.out
   have qz:=(show Box2 V2 29 V.heap.size _ _ from q22.out).set (.int .i64 x) (.int .i64 y)
   obtain ⟨Z,hZ⟩:∃ Z,(V2.setCell ⟨V.heap.size,0,none⟩ (.int .i64 x)).setCell ⟨V.heap.size,1,none⟩ (.int .i64 y)=Z:=⟨_,rfl⟩
   rw [show World.set2 V2 V.heap.size (.int .i64 x) (.int .i64 y)=Z from hZ] at qz
   have q0:=Blk.own q0 qz.2 (by omega)
   have q1:=Blk.own q1 qz.2 (by omega)
   have hW:=hW.trans (qz.2.below.mono (by omega))
   have q2:Blk Z V.heap.size (.cells #[.int .i64 x,.int .i64 y] 29 (0,0)):=qz.1
   have c00:Z.cell? ⟨W.heap.size,0,none⟩=some (.slice none 0 0):=(q0.cl 0).trans rfl
   have c01:Z.cell? ⟨W.heap.size,1,none⟩=some (.slice none 0 0):=(q0.cl 1).trans rfl
   have c10:Z.cell? ⟨W.heap.size + 1,0,none⟩=some (.int .i64 0):=(q1.cl 0).trans rfl
   have c11:Z.cell? ⟨W.heap.size + 1,1,none⟩=some (.int .i64 0):=(q1.cl 1).trans rfl
   have c20:Z.cell? ⟨V.heap.size,0,none⟩=some (.int .i64 x):=(q2.cl 0).trans rfl
   have c21:Z.cell? ⟨V.heap.size,1,none⟩=some (.int .i64 y):=(q2.cl 1).trans rfl
   have f0:=q0.fr
   have f1:=q1.fr
   have l0:=q0.lt
   have l1:=q1.lt
   have s0:=(show Box2 Z 38 W.heap.size _ _ from q0).set (.slice none 0 0) (.slice none 0 0)
   have s1:=((Blk.own q1 s0.2 (by omega) |> fun q=>(show Box2 _ 29 _ _ _ from q))).set (.int .i64 x) (.int .i64 y)
   have s0b:=Blk.own (show Blk _ _ _ from s0.1) s1.2 (by omega)
   have hfin:=Lib.hid (And.intro s0b (And.intro (show Blk _ _ _ from s1.1) (hW.trans ((s0.2.below.mono (Nat.le_refl _)).trans (s1.2.below.mono (by omega))))))
   clear s0 s1 s0b q0 q1 hW
   have hZ':=Lib.hid hZ
   clear hZ qz q2
   go_upto_region 5 with (fail)
   rw [hZ'.out]
   go_wp2_with fail
   go_region
   go_wp2_with fail
   refine bodyPost_ret (results_pP rfl _ _ rfl rfl rfl hfin.out.1 hfin.out.2.1) rfl ⟨?_,hfin.out.2.2.drew⟩
   unfold TxR
   rw [hR'.out]
   simp only
   rw [hR2'.out]
   rfl
  | ok ms =>
   obtain ⟨v2,rfl,hv2⟩:=hm2
   obtain ⟨Z,hZ⟩:∃ Z,(V2.setCell ⟨V.heap.size,0,none⟩ (.int .i64 0)).setCell ⟨V.heap.size,1,none⟩ (.int .i64 0)=Z:=⟨_,rfl⟩
   have hbZ:Below V2.heap.size V2 Z:=by rw [←hZ];exact set2_still (show Box2 V2 29 V.heap.size _ _ from q22.out)
   have hBZ:=Lib.hid (hBV2.out.trans (hbZ.mono hBV2.out.size))
   have hms:ms.length≤100000:=by have:=lay_max6 hR2'.out;have:=hts'.out;omega
   have hmf:∀ t ∈ ms,TkFit t:=fun t ht=>fit_tk (n:=l.length + 1) (FitT.from (fun t ht=>⟨by have:=(hfit'.out t ht).1;omega,(hfit'.out t ht).2⟩) (by omega) (layF_from hR2'.out t ht)) (by have:=hl'.out;omega)
   have hdoor:=Lib.hid (par_doorP progB tree_Prog Z v2 ms (hv2.keeps (Keeps.of_below hbZ)) hms hmf)
   have hZz:V.heap.size + 1≤Z.heap.size:=by have:=hbZ.size;omega
   have hZ':=Lib.hid hZ
   clear hZ hbZ hms hmf hv2
   go_upto_region 5 with (fail)
   rw [hZ'.out]
   go_wp2_with fail
   refine hdoor.out.mono ?_
   rintro e V3 ⟨hm3,hB3⟩
   have hBV3:=Lib.hid (hBZ.out.trans (hB3.mono hBZ.out.size))
   have hm3':=Lib.hid hm3
   obtain ⟨a3,m3,c3,a4,m4,c4,x,y,k,rfl⟩:=hm3.pg fun v y h=>h.out
   obtain ⟨q0,q1,hWb⟩:=hbox.out V3 hBV3.out
   have hV3z:Z.heap.size≤V3.heap.size:=hB3.size
   have s0:=(show Box2 V3 38 W.heap.size _ _ from q0).set (.slice a3 m3 c3) (.slice a4 m4 c4)
   have s1:=((Blk.own q1 s0.2 (by omega) |> fun q=>(show Box2 _ 29 _ _ _ from q))).set (.int .i64 x) (.int .i64 y)
   have s0b:=Blk.own (show Blk _ _ _ from s0.1) s1.2 (by omega)
   have hfin:=Lib.hid (And.intro s0b (And.intro (show Blk _ _ _ from s1.1) (And.intro (hWb.trans ((s0.2.below.mono (Nat.le_refl _)).trans (s1.2.below.mono (by omega)))) (hm3'.out.imp (J:=fun w v y=>Lay W.heap.size w.heap.size w fun x=>IsPg x v y) fun v y h=>(by
    have h7:=(h.own s0.2 (.inl (by omega))).own s1.2 (.inl (by omega))
    exact h7.wide (by omega) h7.1 (Nat.le_refl _))))))
   have d00:V3.cell? ⟨W.heap.size,0,none⟩=some (.slice none 0 0):=(q0.cl 0).trans rfl
   have d01:V3.cell? ⟨W.heap.size,1,none⟩=some (.slice none 0 0):=(q0.cl 1).trans rfl
   have d10:V3.cell? ⟨W.heap.size + 1,0,none⟩=some (.int .i64 0):=(q1.cl 0).trans rfl
   have d11:V3.cell? ⟨W.heap.size + 1,1,none⟩=some (.int .i64 0):=(q1.cl 1).trans rfl
   have f0:=q0.fr
   have f1:=q1.fr
   have l0:=q0.lt
   have l1:=q1.lt
   clear s0 s1 s0b q0 q1 hWb hB3 hm3 c20 c21 f2
   go_wp2_with fail
   refine bodyPost_ret (results_pP rfl _ _ rfl rfl rfl hfin.out.1 hfin.out.2.1) rfl ⟨?_,hfin.out.2.2.1⟩
   unfold TxR
   rw [hR'.out]
   simp only
   rw [hR2'.out]
   exact hfin.out.2.2.2
end Go.Proofs.YtinjocchommbdaaGreatDoor
namespace Go.Proofs.YtinjocchommbdaaGreatDoor
open Go.RowKit
theorem marked_row (w:World) (l:Bs) (C:Array Value) (m:Nat × Nat) (hC:C.toList=l.map fun b=>.int .u8 b.toNat):ByteRow (w.alloc (.cells C 5 m)) (some ⟨w.heap.size,0,none⟩) l:=by
 have hh:(w.alloc (.cells C 5 m)).heap[w.heap.size]?=some (.cells C 5 m):=by simp only [World.alloc];simp
 refine .inr ⟨_,0,rfl,fun i hi=>?_⟩
 have:C[0 + i]?=some (.int .u8 l[i].toNat):=by
  rw [←Array.getElem?_toList,hC,Nat.zero_add]
  simp [hi]
 unfold World.cell?
 rw [hh]
 simpa using this
theorem TkRow.take {w:World} {a:Option Addr} {l:List Tk} (h:TkRow w a l) (n:Nat):TkRow w a (l.take n):=by
 rcases h with h | ⟨b,off,rfl,h⟩
 ·
  subst h;exact .inl (by simp)
 ·
  refine .inr ⟨b,off,rfl,fun i hi=>?_⟩
  rw [List.length_take] at hi
  have:=h i (by omega)
  rw [List.getElem_take]
  exact this
end Go.Proofs.YtinjocchommbdaaGreatDoor
