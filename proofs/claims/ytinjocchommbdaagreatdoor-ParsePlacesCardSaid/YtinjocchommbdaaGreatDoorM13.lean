/- A part of the proof that parser laws hold: texts of the walk and of its plain laws, made small. -/
import Derived.Test.YtinjocchommbdaaGreatDoorM02
import Derived.Test.YtinjocchommbdaaGreatDoorM12
import Derived.Test.YtinjocchommbdaaGreatDoorM05
import Derived.Shelf.Bytes.SlSmallAll
import Derived.Laws.IdiomStrings
import Derived.OwnWalk
import Derived.Deep.CutRange
import Derived.BigQuiet
import Derived.Test.YtinjocchommbdaaGreatDoorM10
import Derived.Deep.QuietTactic
import Derived.Deep.LoopGhost
set_option linter.unusedVariables false
set_option linter.unusedSimpArgs false
namespace Go.Proofs.YtinjocchommbdaaGreatDoor
open Go.RowKit
theorem conv_row (w:World) (a:Option Addr) (l:Bs) (cap:Nat) (hr:ByteRow w a l):(convert 42 9 (.slice a l.length cap)).run Tryz.prog w=.ok (.string (tS l)) w:=by
 rcases hr with h | ⟨b,off,rfl,hc⟩
 ·
  subst h
  exact run_convert_bytes_zero w 42 5 Tryz.underlying42 Tryz.underlying5 a cap _ Tryz.underlying9
 ·
  refine run_convert_bytes_back w _ _ 5 _ cap l Tryz.underlying42 Tryz.underlying5 Tryz.underlying9 fun j hj=>?_
  rw [addr_plus]
  exact hc j hj
theorem Box5.lc {w:World} {t:TypeId} {b:Nat} {x0 x1 x2 x3 x4:Value} (h:Box5 w t b x0 x1 x2 x3 x4) (y z:Value):Box5 ((w.setCell ⟨b,3,none⟩ y).setCell ⟨b,4,none⟩ z) t b x0 x1 x2 y z∧OneSet b w ((w.setCell ⟨b,3,none⟩ y).setCell ⟨b,4,none⟩ z):=by
 unfold Box5 at h
 refine ⟨by unfold Box5;simp [World.setCell,Array.getElem?_modify,h],(OneSet.cell _ _ _ _).trans (OneSet.cell _ _ _ _)⟩
def LexR (r:Res) (e:Ending) (W:World):Prop :=
 match r with
 | .ok l=>∃ v,e=.returned (.tuple #[v,.agg #[.int .i64 0,.int .i64 0],.int .i64 0])∧TkSl W v l
 | .bad a b=>e=.returned (.tuple #[.slice none 0 0,.agg #[.int .i64 a,.int .i64 b],.int .i64 20])
def lexA (l:Bs):Res:=lexF 1 1 0 l
theorem results_lex {fn:Func} {t u v:Tmp} (h:fn.results=#[.tmp u,.cell t 29,.tmp v]) (tmps:Array Value) (w:World) {b:Nat} {x0 x1 y z:Value} (ha:tmps.getD t undef=.pointer (some ⟨b,0,none⟩)) (hu:tmps.getD u undef=y) (hv:tmps.getD v undef=z)
  (hc:w.cell? ⟨b,0,none⟩=some x0∧w.cell? ⟨b,1,none⟩=some x1):(results fn tmps).run Tryz.prog w=.ok (.tuple #[y,.agg #[x0,x1],z]) w:=by
 obtain ⟨h0,h1⟩:=hc
 have e2:=Tryz.isAgg29
 have e3:=Tryz.sizeOf29
 have ha':tmps[t]?.getD undef=.pointer (some ⟨b,0,none⟩):=by simpa using ha
 have hu':tmps[u]?.getD undef=y:=by simpa using hu
 have hv':tmps[v]?.getD undef=z:=by simpa using hv
 simp [results,h,ha',hu',hv',asAddr,loadVar,e2,loadCells,loadCellsFrom,Result.andThen,h0,h1,Addr.add,load,Sem.run]
theorem TokR_no {o:Option (Int × Bs × Nat)} {k n:Int} {s:Str} (h:TokR o (.returned (.tuple #[.agg #[.int .i64 k,.string s,.int .i64 n,.int .i64 0,.int .i64 0],.bool false]))):o=none:=by
 rcases o with _ | ⟨k',t,n'⟩
 ·
  rfl
 ·
  simp [TokR] at h
theorem TokR_yes {o:Option (Int × Bs × Nat)} {k n:Int} {s:Str} (h:TokR o (.returned (.tuple #[.agg #[.int .i64 k,.string s,.int .i64 n,.int .i64 0,.int .i64 0],.bool true]))):∃ (k':Int) (t:Bs) (n':Nat),o=some (k',t,n')∧k=k'∧s=tS t∧n=n':=by
 rcases o with _ | ⟨k',t,n'⟩
 ·
  simp [TokR] at h
 ·
  simp [TokR] at h
  exact ⟨k',t,n',rfl,h.1,h.2.1,h.2.2⟩
end Go.Proofs.YtinjocchommbdaaGreatDoor
namespace Go.Proofs.YtinjocchommbdaaGreatDoor
open Go.RowKit
deriving instance DecidableEq for Tk
attribute [-go_sem] run_neq_struct run_eql_struct
end Go.Proofs.YtinjocchommbdaaGreatDoor
namespace Go.Proofs.YtinjocchommbdaaGreatDoor
open Go.RowKit
def textL (l:List Tk):Bs:=joinL (l.map (·.text))
end Go.Proofs.YtinjocchommbdaaGreatDoor
namespace Go.Proofs.YtinjocchommbdaaGreatDoor
open Go.RowKit
def iC (st:List Int):List Value:=st.reverse.map (Value.int .i64)
theorem iC_cons (c:Int) (st:List Int):iC (c :: st)=iC st ++ [.int .i64 c]:=by simp [iC]
structure MkS (base:Nat) (W:World) (mb:Nat) (o:Value) (ts:List Tk) (s:Value) (st:List Int):Prop where
 box:Box2 W 91 mb o s
 low:mb < base
 out:W.ownsRow base 51 5 o ts.length (tkCs ts)
 opn:W.ownsRow base 3 1 s st.length (iC st)
 apart:∀ g,o.ownBlock=some g→s.ownBlock≠some g
theorem MkS.lt {base:Nat} {W:World} {mb:Nat} {o s:Value} {ts:List Tk} {st:List Int} (h:MkS base W mb o ts s st):mb < W.heap.size:=blk_lt h.box
theorem MkS.heap {base:Nat} {W W':World} {mb:Nat} {o s:Value} {ts:List Tk} {st:List Int} (h:MkS base W mb o ts s st) (hk:∀ g,(g=mb∨o.ownBlock=some g∨s.ownBlock=some g)→W'.heap[g]?=W.heap[g]?):MkS base W' mb o ts s st :=
 ⟨(hk _ (.inl rfl)).trans h.box,h.low,ownsRow_heap h.out fun g hg=>hk g (.inr (.inl hg)),ownsRow_heap h.opn fun g hg=>hk g (.inr (.inr hg)),h.apart⟩
theorem MkS.below {base:Nat} {W W':World} {mb:Nat} {o s:Value} {ts:List Tk} {st:List Int} (h:MkS base W mb o ts s st) (hb:Below W.heap.size W W'):MkS base W' mb o ts s st :=
 h.heap fun g hg=>hb.block g (by
  rcases hg with rfl | hg | hg
  ·
   exact h.lt
  ·
   exact (ownBlock_ge h.out hg).2
  ·
   exact (ownBlock_ge h.opn hg).2)
structure MkK (mb:Nat) (o s:Value) (W W':World):Prop where
 os:W'.os=W.os
 tape:W'.tape=W.tape
 output:W'.output=W.output
 size:W.heap.size≤W'.heap.size
 block:∀ k,k < W.heap.size→k≠mb→o.ownBlock≠some k→s.ownBlock≠some k→W'.heap[k]?=W.heap[k]?
theorem MkK.refl (mb:Nat) (o s:Value) (W:World):MkK mb o s W W:=⟨rfl,rfl,rfl,Nat.le_refl _,fun _ _ _ _ _=>rfl⟩
theorem MkK.of_below {mb:Nat} {o s:Value} {W W':World} (h:Below W.heap.size W W'):MkK mb o s W W':=⟨h.os,h.tape,h.output,h.size,fun k hk _ _ _=>h.block k hk⟩
def Nx (W:World) (v v':Value):Prop:=∀ g,v'.ownBlock=some g→v.ownBlock=some g∨W.heap.size≤g
theorem Nx.refl (W:World) (v:Value):Nx W v v:=fun _ h=>.inl h
theorem MkK.trans {mb:Nat} {o s o' s':Value} {W W' W'':World} (h:MkK mb o s W W') (ho:Nx W o o') (hs:Nx W s s') (k:MkK mb o' s' W' W''):MkK mb o s W W'' :=
 ⟨k.os.trans h.os,k.tape.trans h.tape,k.output.trans h.output,Nat.le_trans h.size k.size,fun i hi h1 h2 h3=>(k.block i (Nat.lt_of_lt_of_le hi h.size) h1
  (fun e=>by rcases ho i e with e | e;exact h2 e;omega) (fun e=>by rcases hs i e with e | e;exact h3 e;omega)).trans (h.block i hi h1 h2 h3)⟩
theorem Nx.trans {W W':World} {a b c:Value} (h:Nx W a b) (k:Nx W' b c) (hz:W.heap.size≤W'.heap.size):Nx W a c:=fun g hg=>by
 rcases k g hg with e | e
 ·
  exact h g e
 ·
  exact .inr (Nat.le_trans hz e)
structure MkR (base mb:Nat) (W:World) (o s:Value) (W':World) (o':Value) (ts:List Tk) (s':Value) (st:List Int):Prop where
 st:MkS base W' mb o' ts s' st
 keep:MkK mb o s W W'
 no:Nx W o o'
 ns:Nx W s s'
theorem MkR.refl {base mb:Nat} {W:World} {o s:Value} {ts:List Tk} {st:List Int} (h:MkS base W mb o ts s st):MkR base mb W o s W o ts s st:=⟨h,MkK.refl _ _ _ _,Nx.refl _ _,Nx.refl _ _⟩
theorem MkR.trans {base mb:Nat} {W W' W'':World} {o s o' s' o'' s'':Value} {ts ts':List Tk} {st st':List Int} (h:MkR base mb W o s W' o' ts s' st) (k:MkR base mb W' o' s' W'' o'' ts' s'' st'):MkR base mb W o s W'' o'' ts' s'' st' :=
 ⟨k.st,h.keep.trans h.no h.ns k.keep,h.no.trans k.no h.keep.size,h.ns.trans k.ns h.keep.size⟩
theorem MkR.below {base mb:Nat} {W W' W'':World} {o s o' s':Value} {ts:List Tk} {st:List Int} (h:MkR base mb W o s W' o' ts s' st) (k:Below W'.heap.size W' W''):MkR base mb W o s W'' o' ts s' st :=
 ⟨h.st.below k,h.keep.trans h.no h.ns (MkK.of_below k),h.no,h.ns⟩
theorem MkR.ahead {base mb:Nat} {W W' W'':World} {o s o' s':Value} {ts:List Tk} {st:List Int} (k:Below W.heap.size W W') (h:MkR base mb W' o s W'' o' ts s' st):MkR base mb W o s W'' o' ts s' st :=
 ⟨h.st,(MkK.of_below k).trans (Nx.refl _ _) (Nx.refl _ _) h.keep,fun g hg=>(h.no g hg).imp id fun e=>Nat.le_trans k.size e,fun g hg=>(h.ns g hg).imp id fun e=>Nat.le_trans k.size e⟩
theorem MkK.low {mb base B:Nat} {o s:Value} {W W':World} {ts:List Tk} {st:List Int} (h:MkK mb o s W W') (hS:MkS base W mb o ts s st) (hB:B≤mb) (hz:B≤W.heap.size):Below B W W' :=
 ⟨h.os,h.tape,h.output,h.size,fun k hk=>h.block k (by omega) (by omega) (fun e=>by have:=(ownBlock_ge hS.out e).1;have:=hS.low;omega) (fun e=>by have:=(ownBlock_ge hS.opn e).1;have:=hS.low;omega)⟩
theorem MkS.put {base:Nat} {W W1 W2:World} {mb:Nat} {o s o':Value} {ts:List Tk} {st:List Int} {t:Tk} (h:MkS base W mb o ts s st) (h1:Below W.heap.size W W1) (hg:W1.grownBy W2 o.ownBlock) (hx:o'.ownBlock=o.ownBlock∨o'.ownBlock=some W1.heap.size)
  (hr:W2.ownsRow base 51 5 o' (ts.length + 1) (tkCs ts ++ tkC t)):MkR base mb W o s (W2.setCell ⟨mb,0,none⟩ o') o' (ts ++ [t]) s st:=by
 have hz1:=h1.size
 have hz2:=hg.size
 have hmb:=h.lt
 have hlow:=h.low
 have hk:∀ k,k < W.heap.size→o.ownBlock≠some k→W2.heap[k]?=W.heap[k]?:=fun k hk ho=>(hg.block k (by omega) fun e=>ho e.symm).trans (h1.block k hk)
 have hno:Nx W o o':=fun g hg'=>by
  rcases hx with e | e
  ·
   exact .inl (e ▸ hg')
  ·
   rw [e] at hg';cases hg';exact .inr hz1
 refine ⟨⟨((hk mb hmb (fun e=>by have:=(ownBlock_ge h.out e).1;omega)).trans h.box |> fun (q:Box2 W2 91 mb o s)=>q.first o'),hlow,?_,?_,?_⟩,⟨?_,?_,?_,?_,?_⟩,hno,Nx.refl _ _⟩
 ·
  rw [List.length_append,tkCs_append]
  have:tkCs [t]=tkC t:=by simp [tkCs]
  rw [this]
  exact ownsRow_heap hr fun g hg=>heap_set _ _ _ _ _ (by have:=(ownBlock_ge hr hg).1;omega)
 ·
  refine ownsRow_heap h.opn fun g hg=>?_
  have:=ownBlock_ge h.opn hg
  rw [heap_set _ _ _ _ _ (by omega)]
  exact hk g this.2 fun e=>h.apart g e hg
 ·
  intro g hg' e
  rcases hno g hg' with q | q
  ·
   exact h.apart g q e
  ·
   have:=(ownBlock_ge h.opn e).2;omega
 ·
  exact (hg.os.trans h1.os)
 ·
  exact (hg.tape.trans h1.tape)
 ·
  exact (hg.output.trans h1.output)
 ·
  rw [size_set];omega
 ·
  intro k hk1 hk2 hk3 hk4
  rw [heap_set _ _ _ _ _ hk2]
  exact hk k hk1 hk3
theorem MkS.push {base:Nat} {W W1 W2:World} {mb:Nat} {o s s':Value} {ts:List Tk} {st:List Int} {c:Int} (h:MkS base W mb o ts s st) (h1:Below W.heap.size W W1) (hg:W1.grownBy W2 s.ownBlock) (hx:s'.ownBlock=s.ownBlock∨s'.ownBlock=some W1.heap.size)
  (hr:W2.ownsRow base 3 1 s' (st.length + 1) (iC st ++ [.int .i64 c])):MkR base mb W o s (W2.setCell ⟨mb,1,none⟩ s') o ts s' (c :: st):=by
 have hz1:=h1.size
 have hz2:=hg.size
 have hmb:=h.lt
 have hlow:=h.low
 have hk:∀ k,k < W.heap.size→s.ownBlock≠some k→W2.heap[k]?=W.heap[k]?:=fun k hk ho=>(hg.block k (by omega) fun e=>ho e.symm).trans (h1.block k hk)
 have hno:Nx W s s':=fun g hg'=>by
  rcases hx with e | e
  ·
   exact .inl (e ▸ hg')
  ·
   rw [e] at hg';cases hg';exact .inr hz1
 refine ⟨⟨((hk mb hmb (fun e=>by have:=(ownBlock_ge h.opn e).1;omega)).trans h.box |> fun (q:Box2 W2 91 mb o s)=>q.second s'),hlow,?_,?_,?_⟩,⟨?_,?_,?_,?_,?_⟩,Nx.refl _ _,hno⟩
 ·
  refine ownsRow_heap h.out fun g hg=>?_
  have:=ownBlock_ge h.out hg
  rw [heap_set _ _ _ _ _ (by omega)]
  exact hk g this.2 fun e=>h.apart g hg e
 ·
  rw [List.length_cons,iC_cons]
  exact ownsRow_heap hr fun g hg=>heap_set _ _ _ _ _ (by have:=(ownBlock_ge hr hg).1;omega)
 ·
  intro g hg' e
  rcases hno g e with q | q
  ·
   exact h.apart g hg' q
  ·
   have:=(ownBlock_ge h.out hg').2;omega
 ·
  exact (hg.os.trans h1.os)
 ·
  exact (hg.tape.trans h1.tape)
 ·
  exact (hg.output.trans h1.output)
 ·
  rw [size_set];omega
 ·
  intro k hk1 hk2 hk3 hk4
  rw [heap_set _ _ _ _ _ hk2]
  exact hk k hk1 hk4
theorem own_less {w:World} {base:Nat} {e:TypeId} {a:Option Addr} {n c:Nat} {xs:List Value} {x:Value} (h:w.ownsRow base e 1 (.slice a (n + 1) c) (n + 1) (xs ++ [x])):w.ownsRow base e 1 (.slice a n c) n xs:=by
 obtain ⟨hl,⟨h,_⟩ | ⟨g,cap,cur,hv,hb,hh,hnc,hcm,hsz,htk⟩⟩:=h
 ·
  simp at h
 ·
  simp only [Value.slice.injEq,true_and] at hv
  obtain ⟨rfl,rfl⟩:=hv
  have hxl:xs.length=n:=by simpa using hl
  refine ⟨by rw [hxl,Nat.mul_one],.inr ⟨g,c,cur,rfl,hb,hh,by omega,hcm,hsz,?_⟩⟩
  have:=congrArg (List.take n) htk
  rw [List.take_take,Nat.mul_one,Nat.min_eq_left (by omega)] at this
  rw [Nat.mul_one,this,←hxl,List.take_left]
theorem MkS.pop {base:Nat} {W:World} {mb:Nat} {o:Value} {ts:List Tk} {c:Int} {st:List Int} {sa:Option Addr} {sn sc:Nat} (h:MkS base W mb o ts (.slice sa (sn + 1) sc) (c :: st)) (hn:sn=st.length):MkR base mb W o (.slice sa (sn + 1) sc) (W.setCell ⟨mb,1,none⟩ (.slice sa sn sc)) o ts (.slice sa sn sc) st:=by
 subst hn
 have hlow:=h.low
 have hb:(Value.slice sa st.length sc).ownBlock=(Value.slice sa (st.length + 1) sc).ownBlock:=by cases sa <;> rfl
 have hr:W.ownsRow base 3 1 (.slice sa st.length sc) st.length (iC st):=by
  have h1:=h.opn
  rw [List.length_cons,iC_cons] at h1
  exact own_less h1
 refine ⟨⟨h.box.second _,hlow,?_,?_,fun g hg=>by rw [hb];exact h.apart g hg⟩,⟨rfl,rfl,rfl,Nat.le_of_eq (size_set _ _ _).symm,fun k _ hk2 _ _=>heap_set _ _ _ _ _ hk2⟩,Nx.refl _ _,fun g hg=>.inl (by rw [←hb];exact hg)⟩
 ·
  exact ownsRow_heap h.out fun g hg=>heap_set _ _ _ _ _ (by have:=(ownBlock_ge h.out hg).1;omega)
 ·
  exact ownsRow_heap hr fun g hg=>heap_set _ _ _ _ _ (by have:=(ownBlock_ge hr hg).1;omega)
theorem MkS.forms {base:Nat} {W:World} {mb:Nat} {o s:Value} {ts:List Tk} {st:List Int} (h:MkS base W mb o ts s st):∃ oa oc sa sc,o=.slice oa ts.length oc∧s=.slice sa st.length sc∧ts.length≤oc∧st.length≤sc:=by
 obtain ⟨oa,oc,h1,_,h2⟩:=tk_own_form h.out
 obtain ⟨sa,sc,h3,_,h4⟩:=tk_own_form h.opn
 exact ⟨oa,oc,sa,sc,h1,h3,h2,h4⟩
theorem MkS.at {base:Nat} {W:World} {mb:Nat} {o:Value} {ts:List Tk} {st:List Int} {sa:Option Addr} {sn sc:Nat} (h:MkS base W mb o ts (.slice sa sn sc) st) (hne:st≠[]):∃ g,sa=some ⟨g,0,none⟩∧∀ i (hi:i < st.length),W.cell? ⟨g,st.length - 1 - i,none⟩=some (.int .i64 st[i]):=by
 obtain ⟨hl,⟨_,h0⟩ | ⟨g,cap,cur,hv,hb,hh,hnc,hcm,hsz,htk⟩⟩:=h.opn
 ·
  exact (hne (List.length_eq_zero_iff.1 h0)).elim
 ·
  simp only [Value.slice.injEq] at hv
  obtain ⟨rfl,_,rfl⟩:=hv
  refine ⟨g,rfl,fun i hi=>?_⟩
  have h1:(iC st)[st.length - 1 - i]?=some (.int .i64 st[i]):=by
   unfold iC
   rw [List.getElem?_map,List.getElem?_reverse (by omega),show st.length - 1 - (st.length - 1 - i)=i by omega,List.getElem?_eq_getElem hi]
   rfl
  rw [←htk,List.getElem?_take] at h1
  split at h1
  ·
   simp [World.cell?,hh]
   simpa using h1
  ·
   cases h1
theorem Tryz.infoInt:(Tryz.prog.info? 3).map (fun i=>(i.zero,i.size,i.bytes))=some (some (.int .i64 0),1,8):=by kernel_rfl
end Go.Proofs.YtinjocchommbdaaGreatDoor
namespace Go.Proofs.YtinjocchommbdaaGreatDoor
open Go.RowKit
set_option maxHeartbeats 4000000 in
set_option maxRecDepth 100000 in
theorem lay_put {base mb:Nat} {o s:Value} {ts:List Tk} {st:List Int} (u:Bs) (t:Tk) (W:World) (h:MkS base W mb o ts s st) (hbz:base≤W.heap.size) (hl:ts.length≤1000000) :
  Calls Tryz.prog 50 #[.pointer (some ⟨mb,0,none⟩),.string (tS u),tkV t] W fun e W'=>e=.returned (.tuple #[])∧∃ va vc,MkR base mb W o s W' (.slice va (ts.length + 1) vc) (ts ++ [mkT u t]) s st:=by
 obtain ⟨oa,oc,sa,sc,rfl,hse,_,_⟩:=h.forms
 clear hse
 obtain ⟨W1,hW1⟩:∃ V,W.alloc (.cells #[.int .i64 t.kind,.string (tS t.text),.int .i64 t.num,.int .i64 t.line,.int .i64 t.col] 51)=V:=⟨_,rfl⟩
 have hb1:Below W.heap.size W W1:=by rw [←hW1];exact (Below.refl _ _).alloc (Nat.le_refl _) _
 have hx1:Box5 W1 51 W.heap.size (.int .i64 t.kind) (.string (tS t.text)) (.int .i64 t.num) (.int .i64 t.line) (.int .i64 t.col):=by rw [←hW1];exact blk_new (Below.refl _ _)
 have hz1:W1.heap.size=W.heap.size + 1:=by rw [←hW1];simp
 obtain ⟨W2,hW2⟩:∃ V,W1.drew.alloc (.cells #[.int .i64 4,.string (tS u),.int .i64 0,.int .i64 t.line,.int .i64 t.col] 51)=V:=⟨_,rfl⟩
 have hb2:Below W1.heap.size W1 W2:=by rw [←hW2];exact ((Below.refl _ W1).drew).alloc (Nat.le_refl _) _
 have hb12:Below W.heap.size W W2:=hb1.trans (hb2.mono (by omega))
 have hst:Hid (∀ V,(V=W1.drew∨V=W2)→V.cell? ⟨mb,0,none⟩=some (.slice oa ts.length oc)∧V.cell? ⟨W.heap.size,0,none⟩=some (.int .i64 t.kind)∧V.cell? ⟨W.heap.size,3,none⟩=some (.int .i64 t.line)∧V.cell? ⟨W.heap.size,4,none⟩=some (.int .i64 t.col)∧V.frozen? ⟨mb,0,none⟩=false):=by
  intro V hV
  have hb:Below W1.heap.size W1 V:=by
   rcases hV with rfl | rfl
   ·
    exact (Below.refl _ _).drew
   ·
    exact hb2
  obtain ⟨⟨c0,_⟩,cf⟩:=(h.box.below (hb1.trans (hb.mono (by omega)))).cells
  obtain ⟨⟨d0,_,_,d3,d4⟩,_⟩:=(hx1.below hb).cells
  exact ⟨c0,d0,d3,d4,cf 0⟩
 have hap:Hid (∃ va vc w3,(Builtin.append_ #[22,22] 22 #[.slice oa ts.length oc,.slice (some ⟨W1.heap.size,0,none⟩) 1 1]).run Tryz.prog W2=.ok (.slice va (ts.length + 1) vc) w3∧w3.cell? ⟨mb,0,none⟩=some (.slice oa ts.length oc)∧w3.frozen? ⟨mb,0,none⟩=false ∧
   MkR base mb W (.slice oa ts.length oc) s (w3.setCell ⟨mb,0,none⟩ (.slice va (ts.length + 1) vc)) (.slice va (ts.length + 1) vc) (ts ++ [mkT u t]) s st):=by
  obtain ⟨i0,hi,hz0,hz1',hz2'⟩:=info_of Tryz.infoTk
  have hown:=(h.below hb12).out
  have hnews:∀ ad,some (⟨W1.heap.size,0,none⟩:Addr)=some ad→∀ j v,(tkC (mkT u t))[j]?=some v→W2.cell? (ad.add j)=some v:=by
   intro ad had j v hj
   cases had
   rw [←hW2]
   exact cell_five_new (w:=W1.drew) rfl (mkT u t) 51 j v hj
  obtain ⟨v',w3,hrun,hr,hg,hx⟩:=run_append_own_src (P:=Tryz.prog) W2 base 22 22 51 i0 (.agg #[.int .i64 0,.string ⟨#[]⟩,.int .i64 0,.int .i64 0,.int .i64 0]) 5 48 Tryz.underlying22 hi hz0 hz1' hz2' rfl (by decide) _ _ _ hown (some ⟨W1.heap.size,0,none⟩) 1 1 (tkC (mkT u t)) (fun e=>(by cases e)) rfl hnews (by intro u hu;simp [tkC] at hu;rcases hu with rfl | rfl | rfl | rfl | rfl <;> rfl) (by unfold maxLen;omega) (by omega) (by have:=hb12.size;omega)
  obtain ⟨va,vc,rfl,_⟩:=tk_own_form hr
  have hmr:=h.put hb12 hg (hx.imp id id) hr
  have hbx:w3.heap[mb]?=W2.heap[mb]?:=hg.block mb (by have:=h.lt;have:=hb12.size;omega) fun e=>by have:=(ownBlock_ge h.out e.symm).1;have:=h.low;omega
  have hcx:=(show Box2 w3 91 mb (.slice oa ts.length oc) s from hbx.trans (h.box.below hb12)).cells
  exact ⟨va,vc,w3,hrun,hcx.1.1,hcx.2 0,hmr⟩
 have hW1':=Lib.hid hW1
 have hW2':=Lib.hid hW2
 have hW2:Hid (W1.drew.alloc (.cells #[.int .i64 4,.string (tS u),.int .i64 0,.int .i64 t.line,.int .i64 t.col] 51)=W2):=hW2'.out
 have hz1':=Lib.hid hz1
 clear hW1 hb1 hx1 hb2 hb12 hz1 h
 unfold tkV
 go_enter Tryz.func50,Tryz.ntmps50
 go_upto_region 1 with (fail)
 rw [hW1'.out]
 refine wp_region_inv (fun f a Vr=>∃ x:Nat→Value,a=⟨#[.pointer (some ⟨mb,0,none⟩),.string (tS u),.agg #[.int .i64 t.kind,.string (tS t.text),.int .i64 t.num,.int .i64 t.line,.int .i64 t.col],undef,undef,.pointer (some ⟨W.heap.size,0,none⟩),x 0,x 1,x 2,x 3,x 4,x 5,x 6,x 7,x 8,x 9,x 10,x 11,x 12,x 13,x 14],[]⟩∧(f 11=false→Vr=W1.drew)∧(f 11=true→f 12=false→Vr=W2)∧(f 12=true→f 15=false→∃ va vc,(x 12)=.slice va (ts.length + 1) vc∧Vr.cell? ⟨mb,0,none⟩=some (.slice oa ts.length oc)∧Vr.frozen? ⟨mb,0,none⟩=false∧MkR base mb W (.slice oa ts.length oc) s (Vr.setCell ⟨mb,0,none⟩ (.slice va (ts.length + 1) vc)) (.slice va (ts.length + 1) vc) (ts ++ [mkT u t]) s st)∧(f 15=true→∃ va vc,MkR base mb W (.slice oa ts.length oc) s Vr (.slice va (ts.length + 1) vc) (ts ++ [mkT u t]) s st)∧VO [some (.pointer (some ⟨mb,0,none⟩)),some (.pointer (some ⟨mb,0,none⟩)),some (.pointer (some ⟨mb,0,none⟩)),some (.pointer (some ⟨mb,0,none⟩)),some (.slice oa ts.length oc),some (.string (tS u)),some (.pointer (some ⟨W.heap.size,3,none⟩)),some (.int .i64 t.line),some (.pointer (some ⟨W.heap.size,4,none⟩)),some (.int .i64 t.col),some (.agg #[.int .i64 4,.string (tS u),.int .i64 0,.int .i64 t.line,.int .i64 t.col]),some (.slice (some ⟨W1.heap.size,0,none⟩) 1 1),none,some (.pointer (some ⟨mb,0,none⟩)),some (.pointer (some ⟨mb,0,none⟩)),none] f x) (by kernel_rfl) (by kernel_rfl) (rs:=[0,1,2,3,4,5,6,7,8,9,10,11,12,13,14,15]) (by kernel_rfl) ?start ?steps ?last
 case start=>exact ⟨fun _=>undef,rfl,fun _=>rfl,by simp,by simp,by simp,VO.nil _ _⟩
 case steps =>
  refine (KeepsI.cons (ds:=[]) rfl (by kernel_rfl) ?s0 (KeepsI.cons (ds:=[]) rfl (by kernel_rfl) ?s1 (KeepsI.cons (ds:=[1]) rfl (by kernel_rfl) ?s2 (KeepsI.cons (ds:=[2]) rfl (by kernel_rfl) ?s3 (KeepsI.cons (ds:=[3]) rfl (by kernel_rfl) ?s4 (KeepsI.cons (ds:=[]) rfl (by kernel_rfl) ?s5 (KeepsI.cons (ds:=[]) rfl (by kernel_rfl) ?s6 (KeepsI.cons (ds:=[6]) rfl (by kernel_rfl) ?s7 (KeepsI.cons (ds:=[]) rfl (by kernel_rfl) ?s8 (KeepsI.cons (ds:=[8]) rfl (by kernel_rfl) ?s9 (KeepsI.cons (ds:=[5,7,9]) rfl (by kernel_rfl) ?s10 (KeepsI.cons (ds:=[10]) rfl (by kernel_rfl) ?s11 (KeepsI.cons (ds:=[4,11]) rfl (by kernel_rfl) ?s12 (KeepsI.cons (ds:=[0]) rfl (by kernel_rfl) ?s13 (KeepsI.cons (ds:=[13]) rfl (by kernel_rfl) ?s14 (KeepsI.cons (ds:=[14,12]) rfl (by kernel_rfl) ?s15 KeepsI.nil))))))))))))))))
  all_goals (intro f a Vr hf hd hcl hI K' hK;obtain ⟨x,rfl,c0,c1,c2,c3,hx⟩:=hI)
  case s0 =>
   go_simp
   exact hK _ _ ⟨(upd x 0 (.pointer (some ⟨mb,0,none⟩))),rfl,c0,c1,c2,c3,(hx.set 0 rfl)⟩
  case s1 =>
   go_simp
   exact hK _ _ ⟨(upd x 1 (.pointer (some ⟨mb,0,none⟩))),rfl,c0,c1,c2,c3,(hx.set 1 rfl)⟩
  case s2 =>
   have e1:=hx.get 1 rfl (hd 1 (by simp))
   rw [e1]
   clear e1
   go_simp
   exact hK _ _ ⟨(upd (upd x 1 (.pointer (some ⟨mb,0,none⟩))) 2 (.pointer (some ⟨mb,0,none⟩))),rfl,c0,c1,c2,c3,((hx.put 1 rfl).set 2 rfl)⟩
  case s3 =>
   have e2:=hx.get 2 rfl (hd 2 (by simp))
   rw [e2]
   clear e2
   go_simp
   exact hK _ _ ⟨(upd (upd x 2 (.pointer (some ⟨mb,0,none⟩))) 3 (.pointer (some ⟨mb,0,none⟩))),rfl,c0,c1,c2,c3,((hx.put 2 rfl).set 3 rfl)⟩
  case s4 =>
   have e3:=hx.get 3 rfl (hd 3 (by simp))
   rw [e3]
   clear e3
   have n12:f 12=false:=by cases h:f 12;rfl;exact absurd (hcl 12 4 (by kernel_rfl) (h)) (by rw [hf];simp)
   have n15:f 15=false:=by cases h:f 15;rfl;exact absurd (hcl 12 4 (by kernel_rfl) (hcl 15 12 (by kernel_rfl) (h))) (by rw [hf];simp)
   have hv:Vr=W1.drew∨Vr=W2:=by cases h:f 11;exact .inl (c0 h);exact .inr (c1 h n12)
   obtain ⟨k0,k1,k3,k4,kf⟩:=hst.out Vr hv
   clear hv
   clear n12 n15
   go_simp
   exact hK _ _ ⟨(upd (upd x 3 (.pointer (some ⟨mb,0,none⟩))) 4 (.slice oa ts.length oc)),rfl,c0,c1,c2,c3,((hx.put 3 rfl).set 4 rfl)⟩
  case s5 =>
   go_simp
   exact hK _ _ ⟨(upd x 5 (.string (tS u))),rfl,c0,c1,c2,c3,(hx.set 5 rfl)⟩
  case s6 =>
   go_simp
   exact hK _ _ ⟨(upd x 6 (.pointer (some ⟨W.heap.size,3,none⟩))),rfl,c0,c1,c2,c3,(hx.set 6 rfl)⟩
  case s7 =>
   have e6:=hx.get 6 rfl (hd 6 (by simp))
   rw [e6]
   clear e6
   have n11:f 11=false:=by cases h:f 11;rfl;exact absurd (hcl 10 7 (by kernel_rfl) (hcl 11 10 (by kernel_rfl) (h))) (by rw [hf];simp)
   have n12:f 12=false:=by cases h:f 12;rfl;exact absurd (hcl 10 7 (by kernel_rfl) (hcl 11 10 (by kernel_rfl) (hcl 12 11 (by kernel_rfl) (h)))) (by rw [hf];simp)
   have n15:f 15=false:=by cases h:f 15;rfl;exact absurd (hcl 10 7 (by kernel_rfl) (hcl 11 10 (by kernel_rfl) (hcl 12 11 (by kernel_rfl) (hcl 15 12 (by kernel_rfl) (h))))) (by rw [hf];simp)
   have hv:Vr=W1.drew∨Vr=W2:=by cases h:f 11;exact .inl (c0 h);exact .inr (c1 h n12)
   obtain ⟨k0,k1,k3,k4,kf⟩:=hst.out Vr hv
   clear hv
   clear n11 n12 n15
   go_simp
   exact hK _ _ ⟨(upd (upd x 6 (.pointer (some ⟨W.heap.size,3,none⟩))) 7 (.int .i64 t.line)),rfl,c0,c1,c2,c3,((hx.put 6 rfl).set 7 rfl)⟩
  case s8 =>
   go_simp
   exact hK _ _ ⟨(upd x 8 (.pointer (some ⟨W.heap.size,4,none⟩))),rfl,c0,c1,c2,c3,(hx.set 8 rfl)⟩
  case s9 =>
   have e8:=hx.get 8 rfl (hd 8 (by simp))
   rw [e8]
   clear e8
   have n11:f 11=false:=by cases h:f 11;rfl;exact absurd (hcl 10 9 (by kernel_rfl) (hcl 11 10 (by kernel_rfl) (h))) (by rw [hf];simp)
   have n12:f 12=false:=by cases h:f 12;rfl;exact absurd (hcl 10 9 (by kernel_rfl) (hcl 11 10 (by kernel_rfl) (hcl 12 11 (by kernel_rfl) (h)))) (by rw [hf];simp)
   have n15:f 15=false:=by cases h:f 15;rfl;exact absurd (hcl 10 9 (by kernel_rfl) (hcl 11 10 (by kernel_rfl) (hcl 12 11 (by kernel_rfl) (hcl 15 12 (by kernel_rfl) (h))))) (by rw [hf];simp)
   have hv:Vr=W1.drew∨Vr=W2:=by cases h:f 11;exact .inl (c0 h);exact .inr (c1 h n12)
   obtain ⟨k0,k1,k3,k4,kf⟩:=hst.out Vr hv
   clear hv
   clear n11 n12 n15
   go_simp
   exact hK _ _ ⟨(upd (upd x 8 (.pointer (some ⟨W.heap.size,4,none⟩))) 9 (.int .i64 t.col)),rfl,c0,c1,c2,c3,((hx.put 8 rfl).set 9 rfl)⟩
  case s10 =>
   have e5:=hx.get 5 rfl (hd 5 (by simp))
   have e7:=hx.get 7 rfl (hd 7 (by simp))
   have e9:=hx.get 9 rfl (hd 9 (by simp))
   rw [e5,e7,e9]
   clear e5 e7 e9
   go_simp
   exact hK _ _ ⟨(upd (upd (upd (upd x 5 (.string (tS u))) 7 (.int .i64 t.line)) 9 (.int .i64 t.col)) 10 (.agg #[.int .i64 4,.string (tS u),.int .i64 0,.int .i64 t.line,.int .i64 t.col])),rfl,c0,c1,c2,c3,((((hx.put 5 rfl).put 7 rfl).put 9 rfl).set 10 rfl)⟩
  case s11 =>
   have e10:=hx.get 10 rfl (hd 10 (by simp))
   rw [e10]
   clear e10
   have n12:f 12=false:=by cases h:f 12;rfl;exact absurd (hcl 12 11 (by kernel_rfl) (h)) (by rw [hf];simp)
   have n15:f 15=false:=by cases h:f 15;rfl;exact absurd (hcl 12 11 (by kernel_rfl) (hcl 15 12 (by kernel_rfl) (h))) (by rw [hf];simp)
   have e:=c0 hf
   subst e
   go_simp
   exact hK _ _ ⟨upd (upd x 10 (.agg #[.int .i64 4,.string (tS u),.int .i64 0,.int .i64 t.line,.int .i64 t.col])) 11 (.slice (some ⟨W1.heap.size,0,none⟩) 1 1),rfl,fun h=>(by cases h),fun _ _=>rfl,fun h=>absurd h (by simp [n12]),fun h=>absurd h (by simp [n15]),(hx.put 10 rfl).set 11 rfl⟩
  case s12 =>
   have e4:=hx.get 4 rfl (hd 4 (by simp))
   have e11:=hx.get 11 rfl (hd 11 (by simp))
   rw [e4,e11]
   clear e4 e11
   have n15:f 15=false:=by cases h:f 15;rfl;exact absurd (hcl 15 12 (by kernel_rfl) (h)) (by rw [hf];simp)
   have y11:f 11=true:=hd 11 (by simp)
   have e:=c1 y11 hf
   subst e
   obtain ⟨va,vc,w3,hrun,hb0,hf0,hR⟩:=hap.out
   refine wanted_run (by rfl) ?_
   refine wp_append_run (.tmp 10) (.tmp 17) 22 _ _ _ _ _ rfl rfl rfl hrun ?_
   exact hK _ _ ⟨upd (upd (upd x 4 (.slice oa ts.length oc)) 11 (.slice (some ⟨W1.heap.size,0,none⟩) 1 1)) 12 (.slice va (ts.length + 1) vc),rfl,fun h=>absurd h (by simp [y11]),fun _ h=>(by cases h),fun _ _=>⟨va,vc,rfl,hb0,hf0,hR⟩,fun h=>absurd h (by simp [n15]),VO.free ((hx.put 4 rfl).put 11 rfl) 12 rfl _⟩
  case s13 =>
   have e0:=hx.get 0 rfl (hd 0 (by simp))
   rw [e0]
   clear e0
   go_simp
   exact hK _ _ ⟨(upd (upd x 0 (.pointer (some ⟨mb,0,none⟩))) 13 (.pointer (some ⟨mb,0,none⟩))),rfl,c0,c1,c2,c3,((hx.put 0 rfl).set 13 rfl)⟩
  case s14 =>
   have e13:=hx.get 13 rfl (hd 13 (by simp))
   rw [e13]
   clear e13
   go_simp
   exact hK _ _ ⟨(upd (upd x 13 (.pointer (some ⟨mb,0,none⟩))) 14 (.pointer (some ⟨mb,0,none⟩))),rfl,c0,c1,c2,c3,((hx.put 13 rfl).set 14 rfl)⟩
  case s15 =>
   have e14:=hx.get 14 rfl (hd 14 (by simp))
   rw [e14]
   clear e14
   have y11:f 11=true:=hcl 12 11 (by kernel_rfl) (hd 12 (by simp))
   have y12:f 12=true:=hd 12 (by simp)
   obtain ⟨va,vc,hx12,hb0,hf0,hR⟩:=c2 y12 hf
   rw [hx12]
   go_simp
   exact hK _ _ ⟨upd (upd x 14 (.pointer (some ⟨mb,0,none⟩))) 12 (.slice va (ts.length + 1) vc),rfl,fun h=>absurd h (by simp [y11]),fun _ h=>absurd h (by simp [y12]),fun _ h=>(by cases h),fun _=>⟨va,vc,hR⟩,VO.done (VO.keep (hx.put 14 rfl) 12 rfl _) 15 rfl⟩
 case last =>
  rintro f a Vr hf ⟨x,rfl,c0,c1,c2,c3,hx⟩
  obtain ⟨va,vc,hR⟩:=c3 (hf 15 (by simp))
  clear c0 c1 c2 c3 hx
  go_wp2_with fail
  go_end0
  exact ⟨rfl,va,vc,hR⟩
set_option maxHeartbeats 4000000 in
set_option maxRecDepth 100000 in
theorem lay_shut {base mb:Nat} {o s:Value} {ts:List Tk} {c:Int} {r:List Int} (W:World) (h:MkS base W mb o ts s (c :: r)) (hl:r.length≤1000000) :
  Calls Tryz.prog 116 #[.pointer (some ⟨mb,0,none⟩)] W fun e W'=>e=.returned (.tuple #[])∧∃ sa sc,MkR base mb W o s W' o ts (.slice sa r.length sc) r:=by
 obtain ⟨oa,oc,sa,sc,rfl,hse,_,hsc⟩:=h.forms
 rw [List.length_cons] at hse hsc
 have hrs:r.length≤sc:=by omega
 clear hsc
 subst hse
 have hpop:Hid (∃ sa' sc',MkR base mb W (.slice oa ts.length oc) (.slice sa (r.length + 1) sc) (W.drew.setCell ⟨mb,1,none⟩ (.slice sa r.length sc)) (.slice oa ts.length oc) ts (.slice sa' r.length sc') r):=by
  exact ⟨sa,sc,(h.below (Below.refl _ _).drew).pop rfl |> MkR.ahead (Below.refl _ _).drew⟩
 have hst:Hid (∀ V,V=W.drew→V.cell? ⟨mb,1,none⟩=some (.slice sa (r.length + 1) sc)∧V.frozen? ⟨mb,1,none⟩=false):=by
  rintro V rfl
  obtain ⟨⟨_,c1⟩,cf⟩:=(h.box.below (Below.refl _ _).drew).cells
  exact ⟨c1,cf 1⟩
 clear h
 go_enter Tryz.func116,Tryz.ntmps116
 refine wp_region_inv (fun f a Vr=>∃ x:Nat→Value,a=⟨#[.pointer (some ⟨mb,0,none⟩),undef,x 0,x 1,x 2,x 3,x 4,x 5,x 6,x 7,x 8,x 9,x 10,x 11,x 12,x 13],[]⟩∧(f 14=false→Vr=W.drew)∧(f 14=true→Vr=W.drew.setCell ⟨mb,1,none⟩ (.slice sa r.length sc))∧VO [some (.pointer (some ⟨mb,0,none⟩)),some (.pointer (some ⟨mb,0,none⟩)),some (.pointer (some ⟨mb,0,none⟩)),some (.pointer (some ⟨mb,1,none⟩)),some (.slice sa (r.length + 1) sc),some (.pointer (some ⟨mb,0,none⟩)),some (.pointer (some ⟨mb,0,none⟩)),some (.pointer (some ⟨mb,1,none⟩)),some (.slice sa (r.length + 1) sc),some (.int .i64 ((r.length:Int) + 1)),some (.int .i64 (r.length:Int)),some (.slice sa r.length sc),some (.pointer (some ⟨mb,0,none⟩)),some (.pointer (some ⟨mb,1,none⟩)),none] f x) (by kernel_rfl) (by kernel_rfl) (rs:=[0,1,2,3,4,5,6,7,8,9,10,11,12,13,14]) (by kernel_rfl) ?start ?steps ?last
 case start=>exact ⟨fun _=>undef,rfl,fun _=>rfl,by simp,VO.nil _ _⟩
 case steps =>
  refine (KeepsI.cons (ds:=[]) rfl (by kernel_rfl) ?s0 (KeepsI.cons (ds:=[]) rfl (by kernel_rfl) ?s1 (KeepsI.cons (ds:=[1]) rfl (by kernel_rfl) ?s2 (KeepsI.cons (ds:=[2]) rfl (by kernel_rfl) ?s3 (KeepsI.cons (ds:=[3]) rfl (by kernel_rfl) ?s4 (KeepsI.cons (ds:=[]) rfl (by kernel_rfl) ?s5 (KeepsI.cons (ds:=[5]) rfl (by kernel_rfl) ?s6 (KeepsI.cons (ds:=[6]) rfl (by kernel_rfl) ?s7 (KeepsI.cons (ds:=[7]) rfl (by kernel_rfl) ?s8 (KeepsI.cons (ds:=[8]) rfl (by kernel_rfl) ?s9 (KeepsI.cons (ds:=[9]) rfl (by kernel_rfl) ?s10 (KeepsI.cons (ds:=[4,10]) rfl (by kernel_rfl) ?s11 (KeepsI.cons (ds:=[0]) rfl (by kernel_rfl) ?s12 (KeepsI.cons (ds:=[12]) rfl (by kernel_rfl) ?s13 (KeepsI.cons (ds:=[13,11]) rfl (by kernel_rfl) ?s14 KeepsI.nil)))))))))))))))
  all_goals (intro f a Vr hf hd hcl hI K' hK;obtain ⟨x,rfl,c0,c1,hx⟩:=hI)
  case s0 =>
   go_simp
   exact hK _ _ ⟨(upd x 0 (.pointer (some ⟨mb,0,none⟩))),rfl,c0,c1,(hx.set 0 rfl)⟩
  case s1 =>
   go_simp
   exact hK _ _ ⟨(upd x 1 (.pointer (some ⟨mb,0,none⟩))),rfl,c0,c1,(hx.set 1 rfl)⟩
  case s2 =>
   have e1:=hx.get 1 rfl (hd 1 (by simp))
   rw [e1]
   clear e1
   go_simp
   exact hK _ _ ⟨(upd (upd x 1 (.pointer (some ⟨mb,0,none⟩))) 2 (.pointer (some ⟨mb,0,none⟩))),rfl,c0,c1,((hx.put 1 rfl).set 2 rfl)⟩
  case s3 =>
   have e2:=hx.get 2 rfl (hd 2 (by simp))
   rw [e2]
   clear e2
   go_simp
   exact hK _ _ ⟨(upd (upd x 2 (.pointer (some ⟨mb,0,none⟩))) 3 (.pointer (some ⟨mb,1,none⟩))),rfl,c0,c1,((hx.put 2 rfl).set 3 rfl)⟩
  case s4 =>
   have e3:=hx.get 3 rfl (hd 3 (by simp))
   rw [e3]
   clear e3
   have n14:f 14=false:=by cases h:f 14;rfl;exact absurd (hcl 11 4 (by kernel_rfl) (hcl 14 11 (by kernel_rfl) (h))) (by rw [hf];simp)
   have hv:=c0 n14
   obtain ⟨k1,kf⟩:=hst.out Vr hv
   clear hv
   clear n14
   go_simp
   exact hK _ _ ⟨(upd (upd x 3 (.pointer (some ⟨mb,1,none⟩))) 4 (.slice sa (r.length + 1) sc)),rfl,c0,c1,((hx.put 3 rfl).set 4 rfl)⟩
  case s5 =>
   go_simp
   exact hK _ _ ⟨(upd x 5 (.pointer (some ⟨mb,0,none⟩))),rfl,c0,c1,(hx.set 5 rfl)⟩
  case s6 =>
   have e5:=hx.get 5 rfl (hd 5 (by simp))
   rw [e5]
   clear e5
   go_simp
   exact hK _ _ ⟨(upd (upd x 5 (.pointer (some ⟨mb,0,none⟩))) 6 (.pointer (some ⟨mb,0,none⟩))),rfl,c0,c1,((hx.put 5 rfl).set 6 rfl)⟩
  case s7 =>
   have e6:=hx.get 6 rfl (hd 6 (by simp))
   rw [e6]
   clear e6
   go_simp
   exact hK _ _ ⟨(upd (upd x 6 (.pointer (some ⟨mb,0,none⟩))) 7 (.pointer (some ⟨mb,1,none⟩))),rfl,c0,c1,((hx.put 6 rfl).set 7 rfl)⟩
  case s8 =>
   have e7:=hx.get 7 rfl (hd 7 (by simp))
   rw [e7]
   clear e7
   have n14:f 14=false:=by cases h:f 14;rfl;exact absurd (hcl 9 8 (by kernel_rfl) (hcl 10 9 (by kernel_rfl) (hcl 11 10 (by kernel_rfl) (hcl 14 11 (by kernel_rfl) (h))))) (by rw [hf];simp)
   have hv:=c0 n14
   obtain ⟨k1,kf⟩:=hst.out Vr hv
   clear hv
   clear n14
   go_simp
   exact hK _ _ ⟨(upd (upd x 7 (.pointer (some ⟨mb,1,none⟩))) 8 (.slice sa (r.length + 1) sc)),rfl,c0,c1,((hx.put 7 rfl).set 8 rfl)⟩
  case s9 =>
   have e8:=hx.get 8 rfl (hd 8 (by simp))
   rw [e8]
   clear e8
   go_simp
   exact hK _ _ ⟨(upd (upd x 8 (.slice sa (r.length + 1) sc)) 9 (.int .i64 ((r.length:Int) + 1))),rfl,c0,c1,((hx.put 8 rfl).set 9 rfl)⟩
  case s10 =>
   have e9:=hx.get 9 rfl (hd 9 (by simp))
   rw [e9]
   clear e9
   have hw:IntKind.i64.wrap (r.length:Int)=(r.length:Int):=IntWalk.i64_in _ (by omega)
   go_simp
   exact hK _ _ ⟨(upd (upd x 9 (.int .i64 ((r.length:Int) + 1))) 10 (.int .i64 (r.length:Int))),rfl,c0,c1,((hx.put 9 rfl).set 10 rfl)⟩
  case s11 =>
   have e4:=hx.get 4 rfl (hd 4 (by simp))
   have e10:=hx.get 10 rfl (hd 10 (by simp))
   rw [e4,e10]
   clear e4 e10
   go_simp
   exact hK _ _ ⟨(upd (upd (upd x 4 (.slice sa (r.length + 1) sc)) 10 (.int .i64 (r.length:Int))) 11 (.slice sa r.length sc)),rfl,c0,c1,(((hx.put 4 rfl).put 10 rfl).set 11 rfl)⟩
  case s12 =>
   have e0:=hx.get 0 rfl (hd 0 (by simp))
   rw [e0]
   clear e0
   go_simp
   exact hK _ _ ⟨(upd (upd x 0 (.pointer (some ⟨mb,0,none⟩))) 12 (.pointer (some ⟨mb,0,none⟩))),rfl,c0,c1,((hx.put 0 rfl).set 12 rfl)⟩
  case s13 =>
   have e12:=hx.get 12 rfl (hd 12 (by simp))
   rw [e12]
   clear e12
   go_simp
   exact hK _ _ ⟨(upd (upd x 12 (.pointer (some ⟨mb,0,none⟩))) 13 (.pointer (some ⟨mb,1,none⟩))),rfl,c0,c1,((hx.put 12 rfl).set 13 rfl)⟩
  case s14 =>
   have e13:=hx.get 13 rfl (hd 13 (by simp))
   have e11:=hx.get 11 rfl (hd 11 (by simp))
   rw [e13,e11]
   clear e13 e11
   have hv:=Lib.hid (c0 hf)
   obtain ⟨k1,kf⟩:=hst.out Vr hv.out
   clear c0
   go_simp
   exact hK _ _ ⟨(upd (upd x 13 (.pointer (some ⟨mb,1,none⟩))) 11 (.slice sa r.length sc)),rfl,fun h=>(by cases h),fun _=>by rw [hv.out],VO.done ((hx.put 13 rfl).put 11 rfl) 14 rfl⟩
 case last =>
  rintro f a Vr hf ⟨x,rfl,c0,c1,hx⟩
  have e:=c1 (hf 14 (by simp))
  clear c0 c1 hx
  subst e
  go_wp2_with fail
  go_end0
  exact ⟨rfl,hpop.out⟩
end Go.Proofs.YtinjocchommbdaaGreatDoor
namespace Go.Proofs.YtinjocchommbdaaGreatDoor
open Go.RowKit
def sgnT (t:Tk):Bs:=if t.kind=4 then t.text else []
theorem keyT_sign (t:Tk) (s:Bs) (hs:s≠[]):keyT t s=decide (tS (sgnT t)=tS s):=by
 have hinj:∀ a b:Bs,tS a=tS b→a=b:=fun a b h=>by
  have:=congrArg bS h
  rwa [bS_tS,bS_tS] at this
 unfold keyT sgnT
 split
 ·
  rename_i h
  simp only [h,decide_true,Bool.true_and]
  by_cases h2:t.text=s
  ·
   simp [h2]
  ·
   rw [decide_eq_false h2,decide_eq_false fun e=>h2 (hinj _ _ e)]
 ·
  rename_i h
  simp only [h,decide_false,Bool.false_and]
  exact (decide_eq_false fun e=>hs (hinj _ _ e).symm).symm
theorem lay_sign (t:Tk) (W:World):Calls Tryz.prog 49 #[tkV t] W fun e W'=>e=.returned (.string (tS (sgnT t)))∧Below W.heap.size W W':=by
 obtain ⟨W1,hW1⟩:∃ V,W.alloc (.cells #[.int .i64 t.kind,.string (tS t.text),.int .i64 t.num,.int .i64 t.line,.int .i64 t.col] 51)=V:=⟨_,rfl⟩
 have hb1:Below W.heap.size W W1:=by rw [←hW1];exact (Below.refl _ _).alloc (Nat.le_refl _) _
 have hx1:Box5 W1 51 W.heap.size (.int .i64 t.kind) (.string (tS t.text)) (.int .i64 t.num) (.int .i64 t.line) (.int .i64 t.col):=by rw [←hW1];exact blk_new (Below.refl _ _)
 obtain ⟨⟨d0,d1,_,_,_⟩,_⟩:=hx1.cells
 have hb1':=Lib.hid hb1
 clear hb1 hx1
 unfold tkV
 by_cases hk:t.kind=4
 ·
  rw [hk] at hW1 d0
  have hW1':=Lib.hid hW1
  clear hW1
  have hs:Hid (tS (sgnT t)=tS t.text):=by unfold Hid sgnT;rw [if_pos hk]
  go_enter Tryz.func49,Tryz.ntmps49
  go_upto_region 1 with (fail)
  rw [hW1'.out]
  go_wp2_with fail
  go_ret
  exact ⟨by rw [hs.out];rfl,hb1'.out⟩
 ·
  have hW1':=Lib.hid hW1
  clear hW1
  have hs:Hid (tS (sgnT t)=⟨#[]⟩):=by unfold Hid sgnT;rw [if_neg hk];rfl
  go_enter Tryz.func49,Tryz.ntmps49
  go_upto_region 1 with (fail)
  rw [hW1'.out]
  go_wp2_with fail
  go_ret
  exact ⟨by rw [hs.out];rfl,hb1'.out⟩
def lastS:List Int→Int
 | []=>-2
 | c :: _=>c
theorem lay_last {base mb:Nat} {o s:Value} {ts:List Tk} {st:List Int} (W:World) (h:MkS base W mb o ts s st) (hl:st.length≤1000000) :
  Calls Tryz.prog 53 #[.pointer (some ⟨mb,0,none⟩)] W fun e W'=>e=.returned (.int .i64 (lastS st))∧∃ n,W'=W.drewN n:=by
 obtain ⟨oa,oc,sa,sc,rfl,rfl,_,_⟩:=h.forms
 obtain ⟨⟨_,c1⟩,cf⟩:=h.box.cells
 cases st with
 | nil =>
  rw [List.length_nil] at c1
  clear h
  go_enter Tryz.func53,Tryz.ntmps53
  go_wp2_with fail
  go_ret
  exact ⟨rfl,0,rfl⟩
 | cons c r =>
  obtain ⟨g,rfl,hc⟩:=h.at (by simp)
  have hc0:=hc 0 (by simp)
  simp only [List.length_cons,Nat.add_sub_cancel,Nat.sub_zero,List.getElem_cons_zero] at hc0
  rw [List.length_cons] at c1 hl
  have hw:IntKind.i64.wrap (r.length:Int)=(r.length:Int):=IntWalk.i64_in _ (by omega)
  clear h hc
  go_enter Tryz.func53,Tryz.ntmps53
  go_wp2_with fail
  go_quiet (fail)
  go_wp2_with fail
  go_ret
  exact ⟨rfl,_,rfl⟩
set_option maxHeartbeats 1000000 in
theorem lay_column {base mb:Nat} {o s:Value} {ts:List Tk} {st:List Int} (W:World) (h:MkS base W mb o ts s st) (hl:st.length≤1000000) :
  Calls Tryz.prog 117 #[.pointer (some ⟨mb,0,none⟩)] W fun e W'=>e=.returned (.int .i64 (colS st))∧W'=W:=by
 obtain ⟨oa,oc,sa,sc,rfl,rfl,_,_⟩:=h.forms
 obtain ⟨⟨_,c1⟩,cf⟩:=h.box.cells
 have hw0:IntKind.i64.wrap ((st.length:Int) - 1)=(st.length:Int) - 1:=IntWalk.i64_in _ (by omega)
 have h':=Lib.hid h
 clear h
 go_enter Tryz.func117,Tryz.ntmps117
 go_wp2_with fail
 go_loop [3] (fun n=>∃ (k:Nat) (i:Int),k≤st.length∧n=.int .i64 i∧i=(k:Int) - 1∧Hid (colS (st.drop (st.length - k))=colS st)) (fun n=>(intOf n + 1).toNat)
 case atStart=>exact ⟨st.length,_,Nat.le_refl _,rfl,rfl,by unfold Hid;simp⟩
 case round =>
  obtain ⟨k,i,hk,rfl,hi,hcs⟩:=hrel
  clear hw0
  cases k with
  | zero =>
   obtain rfl:i=-1:=by omega
   have hcs2:Hid (colS st=0):=by have:=hcs.out;rw [Nat.sub_zero,List.drop_length] at this;exact this.symm
   clear hi
   go_wp2_with fail
   go_ret
   exact ⟨by rw [hcs2.out];rfl,rfl⟩
  | succ k =>
   obtain rfl:i=(k:Int):=by omega
   clear hi
   obtain ⟨g,rfl,hc⟩:=h'.out.at (by rintro rfl;simp at hk)
   have hck:=hc (st.length - 1 - k) (by omega)
   rw [show st.length - 1 - (st.length - 1 - k)=k by omega] at hck
   have hdr:Hid (colS st=if 0 < st[st.length - 1 - k]'(by omega) then st[st.length - 1 - k]'(by omega) else colS (st.drop (st.length - k))):=by
    unfold Hid
    rw [←hcs.out,List.drop_eq_getElem_cons (by omega),colS]
    simp only [show st.length - (k + 1)=st.length - 1 - k by omega]
    rw [show st.length - 1 - k + 1=st.length - k by omega]
   generalize st[st.length - 1 - k]'(by omega)=c at hck hdr
   have hlt:k < st.length:=by omega
   have hki:(k:Int) < (st.length:Int):=by omega
   have hw:IntKind.i64.wrap ((k:Int) - 1)=(k:Int) - 1:=IntWalk.i64_in _ (by omega)
   clear hc hcs
   by_cases h0:0 < c
   ·
    have hr:Hid (colS st=c):=by have:=hdr.out;rw [if_pos h0] at this;exact this
    go_wp2_with fail
    go_ret
    exact ⟨by rw [hr.out];rfl,rfl⟩
   ·
    have hr:Hid (colS (st.drop (st.length - k))=colS st):=by have:=hdr.out;rw [if_neg h0] at this;exact this.symm
    go_wp2_with fail
    go_round
    case rel=>exact ⟨k,_,by omega,rfl,rfl,hr⟩
    case measure=>simp [intOf] <;> omega
theorem lay_all (W:World) (c:Int):Calls Tryz.prog 56 #[.int .i64 c] W fun e W'=>e=.returned (.bool true)∧W'=W:=by
 go_enter Tryz.func56,Tryz.ntmps56
 go_wp2_with fail
 go_ret
 exact ⟨rfl,rfl⟩
theorem lay_further (W:World) (c:Int) (b:Nat) (x0 x1 x2 x3:Value) (x4:Int) (h:Box5 W 51 b x0 x1 x2 x3 (.int .i64 x4)):Calls Tryz.prog 52 #[.int .i64 c,.pointer (some ⟨b,0,none⟩)] W fun e W'=>e=.returned (.bool (decide (x4 < c)))∧W'=W:=by
 obtain ⟨⟨_,_,_,_,d4⟩,_⟩:=h.cells
 clear h
 go_enter Tryz.func52,Tryz.ntmps52
 go_wp2_with fail
 go_ret
 exact ⟨rfl,rfl⟩
end Go.Proofs.YtinjocchommbdaaGreatDoor
namespace Go.Proofs.YtinjocchommbdaaGreatDoor
open Go.RowKit
theorem MkK.box {mb base b:Nat} {o s:Value} {W W':World} {ts:List Tk} {st:List Int} {ob:Obj} (h:MkK mb o s W W') (hS:MkS base W mb o ts s st) (hx:W.heap[b]?=some ob) (h1:b≠mb) (h2:o.ownBlock≠some b) (h3:s.ownBlock≠some b):W'.heap[b]?=some ob :=
 (h.block b (blk_lt hx) h1 h2 h3).trans hx
theorem MkR.box {mb base:Nat} {o s o' s':Value} {W W1 V:World} {ts ts':List Tk} {st st':List Int} {ob:Obj} (hS:MkS base W mb o ts s st) (hz:W.heap.size < W1.heap.size) (hx:W1.heap[W.heap.size]?=some ob) (h:MkR base mb W1 o s V o' ts' s' st'):V.heap[W.heap.size]?=some ob :=
 (h.keep.block _ (blk_lt hx) (by have:=hS.lt;omega) (fun e=>by have:=(ownBlock_ge hS.out e).2;omega) (fun e=>by have:=(ownBlock_ge hS.opn e).2;omega)).trans hx
theorem shutW_stop {p:Int→Bool} {c:Int} {r:List Int} (h:¬ (0 < c∧p c=true)):shutW p (c :: r)=(0,c :: r):=by rw [shutW,if_neg h]
theorem shutW_go {p:Int→Bool} {c:Int} {r:List Int} (h:0 < c∧p c=true):shutW p (c :: r)=((shutW p r).1 + 1,(shutW p r).2):=by rw [shutW,if_pos h]
theorem shutW_len (p:Int→Bool):∀ st:List Int,(shutW p st).1 + (shutW p st).2.length=st.length
 | []=>rfl
 | c :: r=>by
  by_cases h:0 < c∧p c=true
  ·
   rw [shutW_go h];have:=shutW_len p r;simp;omega
  ·
   rw [shutW_stop h];simp
set_option maxHeartbeats 4000000 in
set_option maxRecDepth 100000 in
theorem lay_shutWhile {base mb:Nat} {o s:Value} {ts:List Tk} {st:List Int} (p:Int→Bool) (t:Tk) (g:Nat) (lb:Array Value) (W:World) (h:MkS base W mb o ts s st) (hbz:base≤W.heap.size) (hl:ts.length + st.length≤1000000)
  (his:∀ (V:World),MkK mb o s W V→∀ c:Int,Calls Tryz.prog g (#[.int .i64 c] ++ lb) V fun e V'=>e=.returned (.bool (p c))∧V'=V)
  (henter:∀ args w,(callFunc g args).run Tryz.prog w=.ok (.enter g args) w) :
  Calls Tryz.prog 51 #[.pointer (some ⟨mb,0,none⟩),tkV t,.func (.func g) #[] lb] W fun e W'=>e=.returned (.tuple #[])∧∃ o' s',MkR base mb W o s W' o' (ts ++ List.replicate (shutW p st).1 (mkT bShut t)) s' (shutW p st).2:=by
 obtain ⟨W1,hW1⟩:∃ V,W.alloc (.cells #[.int .i64 t.kind,.string (tS t.text),.int .i64 t.num,.int .i64 t.line,.int .i64 t.col] 51)=V:=⟨_,rfl⟩
 have hb1:Below W.heap.size W W1:=by rw [←hW1];exact (Below.refl _ _).alloc (Nat.le_refl _) _
 have hx1:Box5 W1 51 W.heap.size (.int .i64 t.kind) (.string (tS t.text)) (.int .i64 t.num) (.int .i64 t.line) (.int .i64 t.col):=by rw [←hW1];exact blk_new (Below.refl _ _)
 have hz1:W1.heap.size=W.heap.size + 1:=by rw [←hW1];simp
 have hW1':=Lib.hid hW1
 have hb1':=Lib.hid hb1
 have hx1':=Lib.hid hx1
 have hz1':=Lib.hid hz1
 have h1':=Lib.hid (h.below hb1)
 have h':=Lib.hid h
 have his':=Lib.hid his
 clear hW1 hb1 hx1 hz1 h his
 unfold tkV
 go_enter Tryz.func51,Tryz.ntmps51
 go_wp2
 go_step3
 go_wp2
 go_step3
 go_wp2
 rw [hW1'.out]
 go_loopg [6] st.length (fun k _ wr=>∃ (o1 s1:Value) (ts1:List Tk) (st1:List Int),k=st1.length∧Hid (MkR base mb W1 o s wr o1 ts1 s1 st1)∧Hid (ts1 ++ List.replicate (shutW p st1).1 (mkT bShut t)=ts ++ List.replicate (shutW p st).1 (mkT bShut t))∧Hid ((shutW p st1).2=(shutW p st).2)∧Hid (ts1.length + st1.length=ts.length + st.length))
 case atStart=>exact ⟨o,s,ts,st,rfl,MkR.refl h1'.out,rfl,rfl,rfl⟩
 case round =>
  obtain ⟨o1,s1,ts1,st1,rfl,hR,hA,hS,hN⟩:=hrel
  have hbR:=hR.out.st.forms
  obtain ⟨oa,oc,sa,sc,rfl,rfl,_,_⟩:=hbR
  obtain ⟨⟨c0,c1⟩,cf⟩:=hR.out.st.box.cells
  have hxr:=Lib.hid (hR.out.box h'.out (by have:=hz1'.out;omega) hx1'.out)
  obtain ⟨⟨d0,d1,d2,d3,d4⟩,_⟩:=(show Box5 wr 51 W.heap.size (.int .i64 t.kind) (.string (tS t.text)) (.int .i64 t.num) (.int .i64 t.line) (.int .i64 t.col) from hxr.out).cells
  have hkr:Hid (MkK mb o s W wr):=(MkK.of_below hb1'.out).trans (Nx.refl _ _) (Nx.refl _ _) hR.out.keep
  cases st1 with
  | nil =>
   rw [List.length_nil] at c1
   have hfin:Hid (∃ o' s',MkR base mb W o s wr o' (ts ++ List.replicate (shutW p st).1 (mkT bShut t)) s' (shutW p st).2):=by
    unfold Hid
    rw [←hS.out,←hA.out]
    simp only [shutW,List.replicate_zero,List.append_nil]
    exact ⟨_,_,hR.out.ahead hb1'.out⟩
   clear c0 d0 d1 d2 d3 d4
   go_wp2_with fail
   dsimp only [Exit.noGoto]
   go_end0
   exact ⟨rfl,hfin.out⟩
  | cons c r =>
   have hlr:Hid ((c :: r).length≤1000000):=by have:=hN.out;unfold Hid;omega
   rw [List.length_cons] at c1
   have hlast:Hid (Calls Tryz.prog 53 #[.pointer (some ⟨mb,0,none⟩)] wr fun e W'=>e=.returned (.int .i64 c)∧∃ n,W'=wr.drewN n):=lay_last wr hR.out.st hlr.out
   by_cases hc:0 < c
   ·
    have hc1:¬ c≤0:=by omega
    have hic:=Lib.hid (fun n=>his'.out (wr.drewN n) (hkr.out.trans (Nx.refl _ _) (Nx.refl _ _) (MkK.of_below (below_drewN' (Below.refl _ _) n))) c)
    have hcp:=Lib.hid hc
    clear hc
    cases hp:p c
    ·
     rw [hp] at hic
     have hpf:=Lib.hid hp
     clear hp
     go_wp2_with fail
     refine hlast.out.mono ?_
     rintro e V ⟨rfl,n,rfl⟩
     have hie:=hic.out n
     go_wp2_with (refine hie.mono ?_;rintro e V ⟨rfl,rfl⟩)
     have hfin:Hid (∃ o' s',MkR base mb W o s (wr.drewN n) o' (ts ++ List.replicate (shutW p st).1 (mkT bShut t)) s' (shutW p st).2):=by
      unfold Hid
      rw [←hS.out,←hA.out,shutW_stop (fun h=>by rw [hpf.out] at h;cases h.2)]
      simp only [List.replicate_zero,List.append_nil]
      exact ⟨_,_,(hR.out.below (below_drewN' (Below.refl _ _) n)).ahead hb1'.out⟩
     dsimp only [Exit.noGoto]
     go_end0
     exact ⟨rfl,hfin.out⟩
    ·
     rw [hp] at hic
     have hpf:=Lib.hid hp
     clear hp
     have hr1:Hid (ts1.length≤1000000∧r.length≤1000000):=by have:=hN.out;rw [List.length_cons] at this;unfold Hid;omega
     have hput:=Lib.hid (fun n=>lay_put bShut t (wr.drewN n) (hR.out.below (below_drewN' (Below.refl _ _) n)).st (by have:=hb1'.out.size;have:=hR.out.keep.size;simp;omega) hr1.out.1)
     unfold tkV at hput
     go_wp2_with fail
     refine hlast.out.mono ?_
     rintro e V ⟨rfl,n,rfl⟩
     have hie:=hic.out n
     have hpu:=Lib.hid (hput.out n)
     have hdn:∀ i,(wr.drewN n).cell? i=wr.cell? i:=fun i=>rfl
     go_wp2_with (refine hie.mono ?_;rintro e V ⟨rfl,rfl⟩)
     refine hpu.out.mono ?_
     rintro e V ⟨rfl,va,vc,hR2⟩
     have hR3:=Lib.hid ((hR.out.below (below_drewN' (Below.refl _ _) n)).trans hR2)
     have hshut:=Lib.hid (lay_shut V hR2.st hr1.out.2)
     clear hR2
     go_wp2_with fail
     refine hshut.out.mono ?_
     rintro e V2 ⟨rfl,sa2,sc2,hR4⟩
     have hR5:=Lib.hid (hR3.out.trans hR4)
     clear hR4
     go_wp2_with fail
     go_roundg r.length
     case measure=>simp
     case rel=>exact ⟨_,_,_,r,rfl,hR5,by unfold Hid;rw [←hA.out,shutW_go ⟨hcp.out,hpf.out⟩,List.append_assoc,List.singleton_append,←List.replicate_succ],by unfold Hid;rw [←hS.out,shutW_go ⟨hcp.out,hpf.out⟩],by have:=hN.out;unfold Hid;simp at this ⊢;omega⟩
   ·
    have hc1:c≤0:=by omega
    have hcp:=Lib.hid hc
    clear hc
    go_wp2_with fail
    refine hlast.out.mono ?_
    rintro e V ⟨rfl,n,rfl⟩
    go_wp2_with fail
    have hfin:Hid (∃ o' s',MkR base mb W o s (wr.drewN n) o' (ts ++ List.replicate (shutW p st).1 (mkT bShut t)) s' (shutW p st).2):=by
     unfold Hid
     rw [←hS.out,←hA.out,shutW_stop (fun h=>by have h1:=h.1;have h2:=hcp.out;omega)]
     simp only [List.replicate_zero,List.append_nil]
     exact ⟨_,_,(hR.out.below (below_drewN' (Below.refl _ _) n)).ahead hb1'.out⟩
    dsimp only [Exit.noGoto]
    go_end0
    exact ⟨rfl,hfin.out⟩
theorem str_ne {s:Str} {l:Bs} (h:¬ s=tS l):(s.toList == l)=false:=by
 rw [beq_eq_false_iff_ne]
 intro e
 exact h ((tS_bS s).symm.trans (by rw [←toL,e]))
def fitA (x:Int) (o:List Tk):List Int→Option (List Tk × List Int)
 | []=>none
 | c :: r=>if c=x then some (o,r) else none
theorem fit_round {t:Tk} {st:List Int} (h:keyT t pShut=true):fitS t st=fitA (-1) (List.replicate (shutW (fun _=>true) st).1 (mkT bShut t)) (shutW (fun _=>true) st).2:=by
 unfold fitS
 rw [if_pos h]
 generalize (shutW (fun _=>true) st).2=q
 cases q <;> rfl
theorem fit_brace {t:Tk} {st:List Int} (h1:keyT t pShut=false) (h2:keyT t bShut=true):fitS t st=fitA 0 [] st:=by
 unfold fitS
 rw [if_neg (by rw [h1];simp),if_pos h2]
 cases st <;> rfl
set_option maxHeartbeats 4000000 in
set_option maxRecDepth 100000 in
theorem lay_fits {base mb:Nat} {o s:Value} {ts:List Tk} {st:List Int} (t:Tk) (W:World) (h:MkS base W mb o ts s st) (hbz:base≤W.heap.size) (hl:ts.length + st.length≤1000000) :
  Calls Tryz.prog 54 #[.pointer (some ⟨mb,0,none⟩),tkV t] W fun e W'=>e=.returned (.bool (fitS t st).isSome)∧∃ o' s' ts' st',MkR base mb W o s W' o' ts' s' st'∧∀ o2 s2,fitS t st=some (o2,s2)→ts'=ts ++ o2∧st'=s2:=by
 obtain ⟨W1,hW1⟩:∃ V,W.alloc (.cells #[.int .i64 t.kind,.string (tS t.text),.int .i64 t.num,.int .i64 t.line,.int .i64 t.col] 51)=V:=⟨_,rfl⟩
 have hb1:Below W.heap.size W W1:=by rw [←hW1];exact (Below.refl _ _).alloc (Nat.le_refl _) _
 have hx1:Box5 W1 51 W.heap.size (.int .i64 t.kind) (.string (tS t.text)) (.int .i64 t.num) (.int .i64 t.line) (.int .i64 t.col):=by rw [←hW1];exact blk_new (Below.refl _ _)
 have hz1:W1.heap.size=W.heap.size + 1:=by rw [←hW1];simp
 obtain ⟨⟨d0,d1,d2,d3,d4⟩,_⟩:=hx1.cells
 have hW1':=Lib.hid hW1
 have hb1':=Lib.hid hb1
 have hx1':=Lib.hid hx1
 have hz1':=Lib.hid hz1
 have h1':=Lib.hid (h.below hb1)
 have h':=Lib.hid h
 have hsg:=Lib.hid (lay_sign t W1)
 have k1:=keyT_sign t pShut (by decide)
 have k2:=keyT_sign t bShut (by decide)
 obtain ⟨sg,hsge⟩:∃ sg,tS (sgnT t)=sg:=⟨_,rfl⟩
 rw [hsge] at hsg k1 k2
 have hp1:tS pShut=⟨#[41]⟩:=rfl
 have hp2:tS bShut=⟨#[125]⟩:=rfl
 rw [hp1] at k1
 rw [hp2] at k2
 clear hW1 hb1 hx1 hz1 h hsge hp1 hp2
 unfold tkV at hsg ⊢
 by_cases hA:sg=⟨#[41]⟩
 ·
  subst hA
  rw [decide_eq_true rfl] at k1
  have k1':=Lib.hid k1
  clear k1 k2
  go_enter Tryz.func54,Tryz.ntmps54
  go_upto_region 2 with (fail)
  rw [hW1'.out]
  go_wp2_with fail
  refine hsg.out.mono ?_
  rintro e V ⟨rfl,hB⟩
  have hbV:=Lib.hid hB
  obtain ⟨⟨d0,d1,d2,d3,d4⟩,_⟩:=(hx1'.out.below hB).cells
  have hR1:Hid (MkR base mb W o s V o ts s st):=(MkR.refl h1'.out).below hB |>.ahead hb1'.out
  have hxV:=Lib.hid (hx1'.out.below hB)
  have hsw:=Lib.hid (lay_shutWhile (fun _=>true) t 56 #[] V hR1.out.st (by have:=hR1.out.keep.size;omega) hl (fun V' _ c=>lay_all V' c) (enters_of Tryz.func56 (by kernel_rfl) rfl))
  unfold tkV at hsw
  clear hB
  go_wp2_with fail
  refine hsw.out.mono ?_
  rintro e V2 ⟨rfl,o2,s2,hR⟩
  have hR2:=Lib.hid (hR1.out.trans hR)
  have hl2:Hid ((shutW (fun _=>true) st).2.length≤1000000):=by have:=shutW_len (fun _=>true) st;unfold Hid;omega
  have hlast:=lay_last V2 hR.st hl2.out
  clear hR
  obtain ⟨n1,hn1⟩:∃ n,(shutW (fun _=>true) st).1=n:=⟨_,rfl⟩
  obtain ⟨q,hq⟩:∃ n,(shutW (fun _=>true) st).2=n:=⟨_,rfl⟩
  have hfit:Hid (fitS t st=fitA (-1) (List.replicate n1 (mkT bShut t)) q):=by
   unfold Hid
   rw [fit_round k1'.out,hq,hn1]
  rw [hn1,hq] at hR2
  rw [hq] at hlast hl2
  clear hn1 hq
  cases q with
  | nil =>
   have hlast:Hid (Calls Tryz.prog 53 #[.pointer (some ⟨mb,0,none⟩)] V2 fun e W'=>e=.returned (.int .i64 (-2))∧∃ n,W'=V2.drewN n):=hlast
   go_wp2_with fail
   refine hlast.out.mono ?_
   rintro e V3 ⟨rfl,n,rfl⟩
   go_wp2_with fail
   go_ret
   exact ⟨by rw [hfit.out];rfl,_,_,_,_,hR2.out.below (below_drewN' (Below.refl _ _) n),fun o2 s2 h=>by rw [hfit.out] at h;simp [fitA] at h⟩
  | cons c r =>
   have hlast:Hid (Calls Tryz.prog 53 #[.pointer (some ⟨mb,0,none⟩)] V2 fun e W'=>e=.returned (.int .i64 c)∧∃ n,W'=V2.drewN n):=hlast
   by_cases hc:c=-1
   ·
    subst hc
    have hr1:Hid (r.length≤1000000):=by have:=hl2.out;rw [List.length_cons] at this;unfold Hid;omega
    go_wp2_with fail
    refine hlast.out.mono ?_
    rintro e V3 ⟨rfl,n,rfl⟩
    have hR3:=Lib.hid (hR2.out.below (below_drewN' (Below.refl _ _) n))
    have hshut:=Lib.hid (lay_shut (V2.drewN n) hR3.out.st hr1.out)
    go_wp2_with fail
    refine hshut.out.mono ?_
    rintro e V4 ⟨rfl,sa2,sc2,hR4⟩
    go_wp2_with fail
    go_ret
    exact ⟨by rw [hfit.out];rfl,_,_,_,_,hR3.out.trans hR4,fun o2 s2 h=>by rw [hfit.out] at h;simp [fitA] at h;obtain ⟨rfl,rfl⟩:=h;exact ⟨rfl,rfl⟩⟩
   ·
    have hc':=Lib.hid hc
    have hcb:(c == -1)=false:=by simpa using hc
    go_wp2_with fail
    refine hlast.out.mono ?_
    rintro e V3 ⟨rfl,n,rfl⟩
    go_wp2_with fail
    go_ret
    exact ⟨by rw [hfit.out,fitA,if_neg hc'.out];rfl,_,_,_,_,hR2.out.below (below_drewN' (Below.refl _ _) n),fun o2 s2 h=>by rw [hfit.out,fitA,if_neg hc'.out] at h;cases h⟩
 ·
  by_cases hBr:sg=⟨#[125]⟩
  ·
   subst hBr
   rw [decide_eq_true rfl] at k2
   rw [decide_eq_false hA] at k1
   have k1':=Lib.hid k1
   have k2':=Lib.hid k2
   clear k1 k2 hA
   have hfit:Hid (fitS t st=fitA 0 [] st):=fit_brace k1'.out k2'.out
   have hl2:Hid (st.length≤1000000):=by unfold Hid;omega
   go_enter Tryz.func54,Tryz.ntmps54
   go_upto_region 2 with (fail)
   rw [hW1'.out]
   go_wp2_with fail
   refine hsg.out.mono ?_
   rintro e V ⟨rfl,hB⟩
   have hR2:Hid (MkR base mb W o s V o ts s st):=(MkR.refl h1'.out).below hB |>.ahead hb1'.out
   have hlast:=lay_last V hR2.out.st hl2.out
   clear hB
   cases st with
   | nil =>
    have hlast:Hid (Calls Tryz.prog 53 #[.pointer (some ⟨mb,0,none⟩)] V fun e W'=>e=.returned (.int .i64 (-2))∧∃ n,W'=V.drewN n):=hlast
    go_wp2_with fail
    refine hlast.out.mono ?_
    rintro e V3 ⟨rfl,n,rfl⟩
    go_wp2_with fail
    go_ret
    exact ⟨by rw [hfit.out];rfl,_,_,_,_,hR2.out.below (below_drewN' (Below.refl _ _) n),fun o2 s2 h=>by rw [hfit.out] at h;simp [fitA] at h⟩
   | cons c r =>
    have hlast:Hid (Calls Tryz.prog 53 #[.pointer (some ⟨mb,0,none⟩)] V fun e W'=>e=.returned (.int .i64 c)∧∃ n,W'=V.drewN n):=hlast
    by_cases hc:c=0
    ·
     subst hc
     have hr1:Hid (r.length≤1000000):=by have:=hl2.out;rw [List.length_cons] at this;unfold Hid;omega
     go_wp2_with fail
     refine hlast.out.mono ?_
     rintro e V3 ⟨rfl,n,rfl⟩
     have hR3:=Lib.hid (hR2.out.below (below_drewN' (Below.refl _ _) n))
     have hshut:=Lib.hid (lay_shut (V.drewN n) hR3.out.st hr1.out)
     go_wp2_with fail
     refine hshut.out.mono ?_
     rintro e V4 ⟨rfl,sa2,sc2,hR4⟩
     go_wp2_with fail
     go_ret
     exact ⟨by rw [hfit.out];rfl,_,_,_,_,hR3.out.trans hR4,fun o2 s2 h=>by rw [hfit.out] at h;simp [fitA] at h;obtain ⟨rfl,rfl⟩:=h;exact ⟨by simp,rfl⟩⟩
    ·
     have hc':=Lib.hid hc
     have hcb:(c == 0)=false:=by simpa using hc
     go_wp2_with fail
     refine hlast.out.mono ?_
     rintro e V3 ⟨rfl,n,rfl⟩
     go_wp2_with fail
     go_ret
     exact ⟨by rw [hfit.out,fitA,if_neg hc'.out];rfl,_,_,_,_,hR2.out.below (below_drewN' (Below.refl _ _) n),fun o2 s2 h=>by rw [hfit.out,fitA,if_neg hc'.out] at h;cases h⟩
  ·
   rw [decide_eq_false hA] at k1
   rw [decide_eq_false hBr] at k2
   have hfit:Hid (fitS t st=some ([],st)):=by
    unfold Hid fitS
    rw [if_neg (by rw [k1];simp),if_neg (by rw [k2];simp)]
   clear k1 k2
   have hA':=str_ne (l:=[41]) hA
   have hB':=str_ne (l:=[125]) hBr
   clear hA hBr
   go_enter Tryz.func54,Tryz.ntmps54
   go_upto_region 2 with (fail)
   rw [hW1'.out]
   go_wp2_with fail
   refine hsg.out.mono ?_
   rintro e V ⟨rfl,hB⟩
   have hR2:Hid (MkR base mb W o s V o ts s st):=(MkR.refl h1'.out).below hB |>.ahead hb1'.out
   clear hB
   go_wp2_with fail
   go_ret
   exact ⟨by rw [hfit.out];rfl,_,_,_,_,hR2.out,fun o2 s2 h=>by rw [hfit.out] at h;simp [fitA] at h;obtain ⟨rfl,rfl⟩:=h;exact ⟨by simp,rfl⟩⟩
end Go.Proofs.YtinjocchommbdaaGreatDoor
namespace Go.Proofs.YtinjocchommbdaaGreatDoor
open Go.RowKit
theorem wpList_append_run {P:Program} {w w':World} {ops:Array Oper} {rest:List Oper} {o:Oper} {a:Act} {Q:Exit→Act→World→Prop} (hgd:o.guard=none) (s x:Operand) (t:TypeId) (v v':Value) (sa:Option Addr) (m c:Nat)
  (ho:o.op=.call { callee:=.builtin .append,args:=#[s,x],argTypes:=#[t,t] }) (hs:a.eval s=v) (hx:a.eval x=.slice sa m c)
  (hr:(Builtin.append_ #[t,t] o.type #[v,.slice sa m c]).run P w=.ok v' w') (h:wpList P ops Q rest (a.put o.dst v') w'):wpList P ops Q (o :: rest) a w:=by
 refine wpList_plain hgd fun K hK=>?_
 exact wp_append_run s x t v v' sa m c ho hs hx hr (hK _ _ h)
set_option maxRecDepth 100000 in
theorem push_run {base mb:Nat} {o:Value} {ts:List Tk} {st:List Int} {sa:Option Addr} {n sc:Nat} (W V:World) (h:MkS base W mb o ts (.slice sa n sc) st) (hb:Below W.heap.size W V) (hbz:base≤W.heap.size) (hl:st.length≤1000000) (c:Int) :
  ∃ va vc w3,(Builtin.append_ #[89,89] 89 #[.slice sa n sc,.slice (some ⟨V.heap.size,0,none⟩) 1 1]).run Tryz.prog (V.alloc (.cells #[.int .i64 c] 3))=.ok (.slice va (st.length + 1) vc) w3∧w3.cell? ⟨mb,1,none⟩=some (.slice sa n sc)∧w3.frozen? ⟨mb,1,none⟩=false ∧
   MkR base mb W o (.slice sa n sc) (w3.setCell ⟨mb,1,none⟩ (.slice va (st.length + 1) vc)) o ts (.slice va (st.length + 1) vc) (c :: st):=by
 obtain ⟨W2,hW2⟩:∃ X,V.alloc (.cells #[.int .i64 c] 3)=X:=⟨_,rfl⟩
 have hb2:Below W.heap.size W W2:=by rw [←hW2];exact hb.alloc hb.size _
 obtain ⟨i0,hi,hz0,hz1',hz2'⟩:=info_of Tryz.infoInt
 have hown:=(h.below hb2).opn
 have hnews:∀ ad,some (⟨V.heap.size,0,none⟩:Addr)=some ad→∀ j v,[Value.int .i64 c][j]?=some v→W2.cell? (ad.add j)=some v:=by
  intro ad had
  cases had
  rw [←hW2]
  exact Go.cell_one_new _ _ _
 obtain ⟨v',w3,hrun,hr,hg,hx⟩:=run_append_own_src (P:=Tryz.prog) W2 base 89 89 3 i0 (.int .i64 0) 1 8 Tryz.underlying89 hi hz0 hz1' hz2' rfl (by decide) _ _ _ hown (some ⟨V.heap.size,0,none⟩) 1 1 [.int .i64 c] (fun e=>(by cases e)) rfl hnews (by intro u hu;simp at hu;subst hu;rfl) (by unfold maxLen;omega) (by omega) (by have:=hb2.size;omega)
 obtain ⟨va,vc,rfl,_⟩:=tk_own_form hr
 have hmr:=h.push hb2 hg (hx.imp id id) hr
 have hbx:w3.heap[mb]?=W2.heap[mb]?:=hg.block mb (by have:=h.lt;have:=hb2.size;omega) fun e=>by have:=(ownBlock_ge h.opn e.symm).1;have:=h.low;omega
 have hcx:=(show Box2 w3 91 mb o (.slice sa n sc) from hbx.trans (h.box.below hb2)).cells
 exact ⟨va,vc,w3,by rw [hW2];exact hrun,hcx.1.2,hcx.2 1,hmr⟩
set_option maxRecDepth 100000 in
theorem tok_run {base mb:Nat} {s:Value} {ts:List Tk} {st:List Int} {oa:Option Addr} {n oc:Nat} (W V:World) (h:MkS base W mb (.slice oa n oc) ts s st) (hb:Below W.heap.size W V) (hbz:base≤W.heap.size) (hl:ts.length≤1000000) (t:Tk) :
  ∃ va vc w3,(Builtin.append_ #[22,22] 22 #[.slice oa n oc,.slice (some ⟨V.heap.size,0,none⟩) 1 1]).run Tryz.prog (V.alloc (.cells #[.int .i64 t.kind,.string (tS t.text),.int .i64 t.num,.int .i64 t.line,.int .i64 t.col] 51))=.ok (.slice va (ts.length + 1) vc) w3∧w3.cell? ⟨mb,0,none⟩=some (.slice oa n oc)∧w3.frozen? ⟨mb,0,none⟩=false ∧
   MkR base mb W (.slice oa n oc) s (w3.setCell ⟨mb,0,none⟩ (.slice va (ts.length + 1) vc)) (.slice va (ts.length + 1) vc) (ts ++ [t]) s st:=by
 obtain ⟨W2,hW2⟩:∃ X,V.alloc (.cells #[.int .i64 t.kind,.string (tS t.text),.int .i64 t.num,.int .i64 t.line,.int .i64 t.col] 51)=X:=⟨_,rfl⟩
 have hb2:Below W.heap.size W W2:=by rw [←hW2];exact hb.alloc hb.size _
 obtain ⟨i0,hi,hz0,hz1',hz2'⟩:=info_of Tryz.infoTk
 have hown:=(h.below hb2).out
 have hnews:∀ ad,some (⟨V.heap.size,0,none⟩:Addr)=some ad→∀ j v,(tkC t)[j]?=some v→W2.cell? (ad.add j)=some v:=by
  intro ad had j v hj
  cases had
  rw [←hW2]
  exact cell_five_new (w:=V) rfl t 51 j v hj
 obtain ⟨v',w3,hrun,hr,hg,hx⟩:=run_append_own_src (P:=Tryz.prog) W2 base 22 22 51 i0 (.agg #[.int .i64 0,.string ⟨#[]⟩,.int .i64 0,.int .i64 0,.int .i64 0]) 5 48 Tryz.underlying22 hi hz0 hz1' hz2' rfl (by decide) _ _ _ hown (some ⟨V.heap.size,0,none⟩) 1 1 (tkC t) (fun e=>(by cases e)) rfl hnews (by intro u hu;simp [tkC] at hu;rcases hu with rfl | rfl | rfl | rfl | rfl <;> rfl) (by unfold maxLen;omega) (by omega) (by have:=hb2.size;omega)
 obtain ⟨va,vc,rfl,_⟩:=tk_own_form hr
 have hmr:=h.put hb2 hg (hx.imp id id) hr
 have hbx:w3.heap[mb]?=W2.heap[mb]?:=hg.block mb (by have:=h.lt;have:=hb2.size;omega) fun e=>by have:=(ownBlock_ge h.out e.symm).1;have:=h.low;omega
 have hcx:=(show Box2 w3 91 mb (.slice oa n oc) s from hbx.trans (h.box.below hb2)).cells
 exact ⟨va,vc,w3,by rw [hW2];exact hrun,hcx.1.1,hcx.2 0,hmr⟩
theorem block_of {t:Tk} {s:Str} (h:tS (sgnT t)=s):blockT t=(decide (s=⟨#[111,102]⟩) || decide (s=⟨#[100,111]⟩) || decide (s=⟨#[100,111,115]⟩)):=by
 have h1:=keyT_sign t [111,102] (by decide)
 have h2:=keyT_sign t [100,111] (by decide)
 have h3:=keyT_sign t [100,111,115] (by decide)
 rw [h] at h1 h2 h3
 have e1:tS [111,102]=⟨#[111,102]⟩:=rfl
 have e2:tS [100,111]=⟨#[100,111]⟩:=rfl
 have e3:tS [100,111,115]=⟨#[100,111,115]⟩:=rfl
 rw [e1] at h1
 rw [e2] at h2
 rw [e3] at h3
 rw [←h1,←h2,←h3]
 unfold blockT keyT blockW
 rw [Bool.eq_iff_iff]
 simp
 constructor
 ·
  rintro ⟨a,b | b | b⟩ <;> simp [a,b]
 ·
  rintro ((h | h) | h) <;> simp [h.1,h.2]
set_option maxHeartbeats 4000000 in
set_option maxRecDepth 100000 in
theorem lay_behind {base mb:Nat} {o s:Value} {ts:List Tk} {st:List Int} (t:Tk) (a:Option Addr) (rest:List Tk) (cap:Nat) (W W0:World) (h:MkS base W mb o ts s st) (hbz:base≤W.heap.size) (hl:ts.length + st.length≤1000000 - 2) (hrl:rest.length≤1000000)
  (hrow:TkRow W0 a rest) (hW0:Below W0.heap.size W0 W) (hmb:W0.heap.size≤mb) :
  Calls Tryz.prog 55 #[.pointer (some ⟨mb,0,none⟩),tkV t,.slice a rest.length cap] W fun e W'=>e=.returned (.bool (behS t rest.head? st).2.2)∧∃ o' s',MkR base mb W o s W' o' (ts ++ (behS t rest.head? st).1) s' (behS t rest.head? st).2.1:=by
 obtain ⟨W1,hW1⟩:∃ V,W.alloc (.cells #[.int .i64 t.kind,.string (tS t.text),.int .i64 t.num,.int .i64 t.line,.int .i64 t.col] 51)=V:=⟨_,rfl⟩
 have hb1:Below W.heap.size W W1:=by rw [←hW1];exact (Below.refl _ _).alloc (Nat.le_refl _) _
 have hx1:Box5 W1 51 W.heap.size (.int .i64 t.kind) (.string (tS t.text)) (.int .i64 t.num) (.int .i64 t.line) (.int .i64 t.col):=by rw [←hW1];exact blk_new (Below.refl _ _)
 have hz1:W1.heap.size=W.heap.size + 1:=by rw [←hW1];simp
 obtain ⟨⟨d0,d1,d2,d3,d4⟩,_⟩:=hx1.cells
 have hW1':=Lib.hid hW1
 have hb1':=Lib.hid hb1
 have hx1':=Lib.hid hx1
 have hz1':=Lib.hid hz1
 have h1':=Lib.hid (h.below hb1)
 have h':=Lib.hid h
 have hsg:=Lib.hid (lay_sign t W1)
 have k1:=keyT_sign t pOpen (by decide)
 have k2:=keyT_sign t bOpen (by decide)
 obtain ⟨sg,hsge⟩:∃ sg,tS (sgnT t)=sg:=⟨_,rfl⟩
 have k3:=block_of hsge
 rw [hsge] at hsg k1 k2
 have hW01:Hid (Below W0.heap.size W0 W1):=hW0.trans (hb1'.out.mono hW0.size)
 have hlow:=Lib.hid (fun (X:World) (o' s':Value) (ts':List Tk) (st':List Int) (hX:MkR base mb W1 o s X o' ts' s' st')=>hW01.out.trans (hX.keep.low h1'.out hmb hW01.out.size))
 have hst1:Hid (st.length≤1000000∧ts.length≤1000000∧ts.length + 1≤1000000):=by unfold Hid;omega
 have hpa:=Lib.hid (fun (X:World) (ts':List Tk) (o' s':Value) (st':List Int) (hX:MkR base mb W1 o s X o' ts' s' st') (h1:ts'.length≤1000000) (q:Bs) (u:Tk)=>lay_put q u X hX.st (by have:=hX.keep.size;have:=hz1'.out;omega) h1)
 unfold tkV at hpa
 have hp1:tS pOpen=⟨#[40]⟩:=rfl
 have hp2:tS bOpen=⟨#[123]⟩:=rfl
 rw [hp1] at k1
 rw [hp2] at k2
 clear hW1 hb1 hx1 hz1 h hsge hp1 hp2
 unfold tkV at hsg ⊢
 by_cases hA:sg=⟨#[40]⟩
 ·
  subst hA
  rw [decide_eq_true rfl] at k1
  have hbe:Hid (behS t rest.head? st=([],-1 :: st,false)):=by unfold Hid behS;rw [if_pos k1]
  clear k1 k2 k3
  go_enter Tryz.func55,Tryz.ntmps55
  go_upto_region 1 with (fail)
  rw [hW1'.out]
  go_wp2_with fail
  refine hsg.out.mono ?_
  rintro e V ⟨rfl,hB⟩
  have hR1:Hid (MkR base mb W1 o s V o ts s st):=(MkR.refl h1'.out).below hB
  have hxV:=Lib.hid (hx1'.out.below hB)
  clear hB
  obtain ⟨oa,oc,sa,sc,hoe,rfl,_,_⟩:=hR1.out.st.forms
  clear hoe
  obtain ⟨⟨c0,c1⟩,cf⟩:=hR1.out.st.box.cells
  obtain ⟨va,vc,w3,hrun,hb0,hf0,hRp⟩:=push_run V V hR1.out.st (Below.refl _ _) (by have:=hR1.out.keep.size;have:=hz1'.out;omega) hst1.out.1 (-1)
  have hrun':=Lib.hid hrun
  have hRp':=Lib.hid (hR1.out.trans hRp)
  clear hrun hRp
  go_wp2_with (at_builtin;go_must (refine wpList_append_run rfl (Operand.tmp 15) (Operand.tmp 16) _ _ _ _ _ _ rfl rfl rfl hrun'.out ?_))
  go_ret
  exact ⟨by rw [hbe.out];rfl,_,_,by rw [hbe.out];simpa using hRp'.out.ahead hb1'.out⟩
 ·
  by_cases hBr:sg=⟨#[123]⟩
  ·
   subst hBr
   rw [decide_eq_true rfl] at k2
   rw [decide_eq_false hA] at k1
   have hbe:Hid (behS t rest.head? st=([],0 :: st,false)):=by unfold Hid behS;rw [if_neg (by rw [k1];simp),if_pos k2]
   clear k1 k2 k3 hA
   go_enter Tryz.func55,Tryz.ntmps55
   go_upto_region 1 with (fail)
   rw [hW1'.out]
   go_wp2_with fail
   refine hsg.out.mono ?_
   rintro e V ⟨rfl,hB⟩
   have hR1:Hid (MkR base mb W1 o s V o ts s st):=(MkR.refl h1'.out).below hB
   have hxV:=Lib.hid (hx1'.out.below hB)
   clear hB
   obtain ⟨oa,oc,sa,sc,hoe,rfl,_,_⟩:=hR1.out.st.forms
   clear hoe
   obtain ⟨⟨c0,c1⟩,cf⟩:=hR1.out.st.box.cells
   obtain ⟨va,vc,w3,hrun,hb0,hf0,hRp⟩:=push_run V V hR1.out.st (Below.refl _ _) (by have:=hR1.out.keep.size;have:=hz1'.out;omega) hst1.out.1 (0)
   have hrun':=Lib.hid hrun
   have hRp':=Lib.hid (hR1.out.trans hRp)
   clear hrun hRp
   go_wp2_with (at_builtin;go_must (refine wpList_append_run rfl (Operand.tmp 26) (Operand.tmp 27) _ _ _ _ _ _ rfl rfl rfl hrun'.out ?_))
   go_ret
   exact ⟨by rw [hbe.out];rfl,_,_,by rw [hbe.out];simpa using hRp'.out.ahead hb1'.out⟩
  ·
   by_cases hC:sg=⟨#[111,102]⟩∨sg=⟨#[100,111]⟩∨sg=⟨#[100,111,115]⟩
   ·
    have k1':Hid (keyT t pOpen=false):=by unfold Hid;rw [k1,decide_eq_false hA]
    have k2':Hid (keyT t bOpen=false):=by unfold Hid;rw [k2,decide_eq_false hBr]
    have k3':Hid (blockT t=true):=by unfold Hid;rw [k3];simpa [or_assoc] using hC
    clear k1 k2 k3
    have hA':=str_ne (l:=[40]) hA
    have hB':=str_ne (l:=[123]) hBr
    clear hA hBr
    go_enter Tryz.func55,Tryz.ntmps55
    go_upto_region 1 with (fail)
    rw [hW1'.out]
    go_wp2_with fail
    refine hsg.out.mono ?_
    rintro e V ⟨rfl,hB⟩
    have hR1:Hid (MkR base mb W1 o s V o ts s st):=(MkR.refl h1'.out).below hB
    have hxV:=Lib.hid (hx1'.out.below hB)
    clear hB
    go_upto_if 20 with (fail)
    refine wp_cond_false rfl ?_
    go_step
    go_cut [31,32,33,34] from 31 to 35 (fun a31 _ _ _ X=>a31=.bool true∧X=V)
    case first =>
     rcases hC with rfl | rfl | rfl
     all_goals
      go_wp2_with fail
      go_meet
      case rel=>exact ⟨rfl,rfl⟩
    case rest =>
    obtain ⟨rfl,rfl⟩:=hcut
    clear hC
    cases rest with
    | nil =>
     have hbe:Hid (behS t ([]:List Tk).head? st=([mkT bOpen t,mkT bShut t],st,false)):=by
      unfold Hid behS
      rw [if_neg (by rw [k1'.out];simp),if_neg (by rw [k2'.out];simp),if_pos k3'.out]
      rfl
     rw [List.length_nil]
     go_wp2_with fail
     go_quiet (fail)
     have hx0:=Lib.hid (hR1.out.below (below_drewN' (Below.refl _ wc) nq))
     obtain ⟨⟨d0,d1,d2,d3,d4⟩,_⟩:=(show Box5 _ 51 W.heap.size _ _ _ _ _ from MkR.box h'.out (by have:=hz1'.out;omega) hx1'.out hx0.out).cells
     have hp1:=Lib.hid (hpa.out _ _ _ _ _ hx0.out hst1.out.2.1 bOpen t)
     go_wp2_with fail
     refine hp1.out.mono ?_
     rintro e V2 ⟨rfl,va,vc,hR3⟩
     have hR3':=Lib.hid (hx0.out.trans hR3)
     clear hR3 d0 d1 d2 d3 d4
     obtain ⟨⟨d0,d1,d2,d3,d4⟩,_⟩:=(show Box5 _ 51 W.heap.size _ _ _ _ _ from MkR.box h'.out (by have:=hz1'.out;omega) hx1'.out hR3'.out).cells
     have hp2:=Lib.hid (hpa.out _ _ _ _ _ hR3'.out (by have:=hst1.out.2.2;simpa using this) bShut t)
     go_wp2_with fail
     refine hp2.out.mono ?_
     rintro e V3 ⟨rfl,va2,vc2,hR4⟩
     have hR4':=Lib.hid (hR3'.out.trans hR4)
     clear hR4 d0 d1 d2 d3 d4
     go_wp2_with fail
     go_ret
     exact ⟨by rw [hbe.out];rfl,_,_,by rw [hbe.out];simpa using hR4'.out.ahead hb1'.out⟩
    | cons u r =>
     obtain ⟨b,off,rfl,hc⟩:=hrow.at (by simp)
     obtain ⟨g0,g1,g2,g3,g4⟩:=hc 0 (by simp)
     simp only [Nat.zero_mul,Nat.add_zero,List.getElem_cons_zero] at g0 g1 g2 g3 g4
     have hgs:=Lib.hid (fun (X:World) (o' s':Value) (ts':List Tk) (st':List Int) (hX:MkR base mb W1 o s X o' ts' s' st')=>(⟨Keeps.of_below (hlow.out X o' s' ts' st' hX) _ _ g0,Keeps.of_below (hlow.out X o' s' ts' st' hX) _ _ g1,Keeps.of_below (hlow.out X o' s' ts' st' hX) _ _ g2,Keeps.of_below (hlow.out X o' s' ts' st' hX) _ _ g3,Keeps.of_below (hlow.out X o' s' ts' st' hX) _ _ g4⟩:X.cell? ⟨b,off,none⟩=some (.int .i64 u.kind)∧X.cell? ⟨b,off + 1,none⟩=some (.string (tS u.text))∧X.cell? ⟨b,off + 2,none⟩=some (.int .i64 u.num)∧X.cell? ⟨b,off + 3,none⟩=some (.int .i64 u.line)∧X.cell? ⟨b,off + 4,none⟩=some (.int .i64 u.col)))
     clear hc g0 g1 g2 g3 g4
     obtain ⟨g0,g1,g2,g3,g4⟩:=hgs.out _ _ _ _ _ hR1.out
     have hsu:=Lib.hid (lay_sign u wc)
     have ku:=keyT_sign u bOpen (by decide)
     obtain ⟨su,hsue⟩:∃ su,tS (sgnT u)=su:=⟨_,rfl⟩
     rw [hsue] at hsu ku
     have hp2:tS bOpen=⟨#[123]⟩:=rfl
     rw [hp2] at ku
     unfold tkV at hsu
     clear hsue hp2
     rw [List.length_cons]
     by_cases hU:su=⟨#[123]⟩
     ·
      subst hU
      rw [decide_eq_true rfl] at ku
      have hbe:Hid (behS t (u :: r).head? st=([],st,false)):=by
       unfold Hid behS
       rw [if_neg (by rw [k1'.out];simp),if_neg (by rw [k2'.out];simp),if_pos k3'.out]
       simp only [List.head?_cons]
       rw [if_pos ku]
      clear ku
      go_wp2_with fail
      refine hsu.out.mono ?_
      rintro e V2 ⟨rfl,hB⟩
      have hR2:=Lib.hid (hR1.out.below hB)
      clear hB
      go_wp2_with fail
      go_ret
      exact ⟨by rw [hbe.out];rfl,_,_,by rw [hbe.out];simpa using hR2.out.ahead hb1'.out⟩
     ·
      rw [decide_eq_false hU] at ku
      have hU':=str_ne (l:=[123]) hU
      clear hU
      by_cases hcl:colS st < u.col
      ·
       have hbe:Hid (behS t (u :: r).head? st=([mkT bOpen u],u.col :: st,true)):=by
        unfold Hid behS
        rw [if_neg (by rw [k1'.out];simp),if_neg (by rw [k2'.out];simp),if_pos k3'.out]
        simp only [List.head?_cons]
        rw [if_neg (by rw [ku];simp),if_pos hcl]
       have hd:decide (colS st < u.col)=true:=decide_eq_true hcl
       have hg:decide ((0:Int) < (r.length:Int) + 1)=true:=by rw [decide_eq_true_eq];omega
       clear ku hcl
       go_wp2_with fail
       refine hsu.out.mono ?_
       rintro e V2 ⟨rfl,hB⟩
       have hR2:=Lib.hid (hR1.out.below hB)
       have hcol:=Lib.hid (fun n=>lay_column (V2.drewN n) (hR2.out.st.below (below_drewN' (Below.refl _ _) n)) hst1.out.1)
       clear hB g0 g1 g2 g3 g4
       obtain ⟨g0,g1,g2,g3,g4⟩:=hgs.out _ _ _ _ _ hR2.out
       go_wp2_with fail
       go_quiet (first | (go_at_call 117;refine Calls.quiet_of_same (hcol.out _)))
       have hx0:=Lib.hid (hR2.out.below (below_drewN' (Below.refl _ V2) nq))
       have hp1:=Lib.hid (hpa.out _ _ _ _ _ hx0.out hst1.out.2.1 bOpen u)
       go_wp2_with fail
       refine hp1.out.mono ?_
       rintro e V3 ⟨rfl,va,vc,hR3⟩
       have hR3':=Lib.hid (hx0.out.trans hR3)
       clear hR3 g0 g1 g2 g3 g4
       obtain ⟨g0,g1,g2,g3,g4⟩:=hgs.out _ _ _ _ _ hR3'.out
       obtain ⟨oa,oc,sa,sc,hoe,rfl,_,_⟩:=hR3'.out.st.forms
       clear hoe
       go_upto_region 14 with (fail)
       have hR3q:=hR3'
       obtain ⟨o3,ho3⟩:∃ x,(Value.slice va (ts.length + 1) vc)=x:=⟨_,rfl⟩
       obtain ⟨ts3,hts3⟩:∃ x,ts ++ [mkT bOpen u]=x:=⟨_,rfl⟩
       have hR3q:Hid (MkR base mb W1 o (.slice sa st.length sc) V3 o3 ts3 (.slice sa st.length sc) st):=by rw [←ho3,←hts3];exact hR3'.out
       have hbe:Hid (behS t (u :: r).head? st=([mkT bOpen u],u.col :: st,true)):=hbe
       have hts3':=Lib.hid hts3
       clear ho3 hts3 hR3'
       obtain ⟨W2,hW2⟩:∃ X,V3.drew.alloc (.cells #[.int .i64 u.col] 3)=X:=⟨_,rfl⟩
       have hap0:=push_run V3 V3.drew hR3q.out.st (Below.refl _ _).drew (by have:=hR3q.out.keep.size;have:=hz1'.out;omega) hst1.out.1 u.col
       rw [hW2] at hap0
       have hap:=Lib.hid hap0
       have hb2:Below V3.heap.size V3 W2:=by rw [←hW2];exact ((Below.refl _ V3).drew).alloc (Nat.le_refl _) _
       have hst:Hid (∀ X,(X=V3.drew∨X=W2)→X.cell? ⟨mb,1,none⟩=some (.slice sa st.length sc)∧X.cell? ⟨b,off + 4,none⟩=some (.int .i64 u.col)∧X.frozen? ⟨mb,1,none⟩=false):=by
        intro X hX
        have hb:Below V3.heap.size V3 X:=by
         rcases hX with rfl | rfl
         ·
          exact (Below.refl _ _).drew
         ·
          exact hb2
        obtain ⟨⟨_,c1⟩,cf⟩:=(hR3q.out.st.box.below hb).cells
        exact ⟨c1,Keeps.of_below hb _ _ g4,cf 1⟩
       have hW2q:Hid (V3.drew.alloc (.cells #[.int .i64 u.col] 3)=W2):=hW2
       clear hap0 hb2 hW2 g0 g1 g2 g3 g4 d0 d1 d2 d3 d4
       refine wp_region_inv (fun f a Vr=>∃ x:Nat→Value,a=⟨#[.pointer (some ⟨mb,0,none⟩),.agg #[.int .i64 t.kind,.string (tS t.text),.int .i64 t.num,.int .i64 t.line,.int .i64 t.col],.slice (some ⟨b,off,none⟩) (r.length + 1) cap,undef,.pointer (some ⟨W.heap.size,0,none⟩),undef,.bool false,.agg #[.int .i64 t.kind,.string (tS t.text),.int .i64 t.num,.int .i64 t.line,.int .i64 t.col],.string sg,.bool false,.bool false,undef,undef,undef,undef,undef,undef,undef,undef,undef,.bool false,.bool false,undef,undef,undef,undef,undef,undef,undef,undef,undef,.bool true,u32,u33,u34,u35,undef,undef,undef,undef,undef,.bool false,.slice (some ⟨b,off,none⟩) (r.length + 1) cap,.int .i64 (↑r.length + 1),.bool true,.bool true,.slice (some ⟨b,off,none⟩) (r.length + 1) cap,.pointer (some ⟨b,off,none⟩),.agg #[.int .i64 u.kind,.string (tS u.text),.int .i64 u.num,.int .i64 u.line,.int .i64 u.col],.string su,.bool false,.bool false,.bool true,.slice (some ⟨b,off,none⟩) (r.length + 1) cap,.int .i64 (↑r.length + 1),.bool true,.bool true,.slice (some ⟨b,off,none⟩) (r.length + 1) cap,.pointer (some ⟨b,off,none⟩),.pointer (some ⟨b,off + 4,none⟩),.int .i64 u.col,.pointer (some ⟨mb,0,none⟩),.int .i64 (colS st),.bool true,.bool true,.pointer (some ⟨mb,0,none⟩),.slice (some ⟨b,off,none⟩) (r.length + 1) cap,.pointer (some ⟨b,off,none⟩),.agg #[.int .i64 u.kind,.string (tS u.text),.int .i64 u.num,.int .i64 u.line,.int .i64 u.col],.tuple #[],x 0,x 1,x 2,x 3,x 4,x 5,x 6,x 7,x 8,x 9,x 10,x 11,x 12],[]⟩∧(f 9=false→Vr=V3.drew)∧(f 9=true→f 10=false→Vr=W2)∧(f 10=true→f 13=false→∃ va vc,(x 10)=.slice va (st.length + 1) vc∧Vr.cell? ⟨mb,1,none⟩=some (.slice sa st.length sc)∧Vr.frozen? ⟨mb,1,none⟩=false∧MkR base mb V3 o3 (.slice sa st.length sc) (Vr.setCell ⟨mb,1,none⟩ (.slice va (st.length + 1) vc)) o3 ts3 (.slice va (st.length + 1) vc) (u.col :: st))∧(f 13=true→∃ va vc,MkR base mb V3 o3 (.slice sa st.length sc) Vr o3 ts3 (.slice va (st.length + 1) vc) (u.col :: st))∧VO [some (.pointer (some ⟨mb,0,none⟩)),some (.pointer (some ⟨mb,0,none⟩)),some (.pointer (some ⟨mb,0,none⟩)),some (.pointer (some ⟨mb,1,none⟩)),some (.slice sa st.length sc),some (.slice (some ⟨b,off,none⟩) (r.length + 1) cap),some (.pointer (some ⟨b,off,none⟩)),some (.pointer (some ⟨b,off + 4,none⟩)),some (.int .i64 u.col),some (.slice (some ⟨V3.heap.size,0,none⟩) 1 1),none,some (.pointer (some ⟨mb,0,none⟩)),some (.pointer (some ⟨mb,1,none⟩)),none] f x) (by kernel_rfl) (by kernel_rfl) (rs:=[0,1,2,3,4,5,6,7,8,9,10,11,12,13]) (by kernel_rfl) ?start ?steps ?last
       case start=>exact ⟨fun _=>undef,rfl,fun _=>rfl,by simp,by simp,by simp,VO.nil _ _⟩
       case steps =>
        refine (KeepsI.cons (ds:=[]) rfl (by kernel_rfl) ?s0 (KeepsI.cons (ds:=[]) rfl (by kernel_rfl) ?s1 (KeepsI.cons (ds:=[1]) rfl (by kernel_rfl) ?s2 (KeepsI.cons (ds:=[2]) rfl (by kernel_rfl) ?s3 (KeepsI.cons (ds:=[3]) rfl (by kernel_rfl) ?s4 (KeepsI.cons (ds:=[]) rfl (by kernel_rfl) ?s5 (KeepsI.cons (ds:=[5]) rfl (by kernel_rfl) ?s6 (KeepsI.cons (ds:=[6]) rfl (by kernel_rfl) ?s7 (KeepsI.cons (ds:=[7]) rfl (by kernel_rfl) ?s8 (KeepsI.cons (ds:=[8]) rfl (by kernel_rfl) ?s9 (KeepsI.cons (ds:=[4,9]) rfl (by kernel_rfl) ?s10 (KeepsI.cons (ds:=[0]) rfl (by kernel_rfl) ?s11 (KeepsI.cons (ds:=[11]) rfl (by kernel_rfl) ?s12 (KeepsI.cons (ds:=[12,10]) rfl (by kernel_rfl) ?s13 KeepsI.nil))))))))))))))
        all_goals (intro f a Vr hf hd hcl hI K' hK;obtain ⟨x,rfl,c0,c1,c2,c3,hx⟩:=hI)
        case s0 =>
         go_simp
         exact hK _ _ ⟨(upd x 0 (.pointer (some ⟨mb,0,none⟩))),rfl,c0,c1,c2,c3,(hx.set 0 rfl)⟩
        case s1 =>
         go_simp
         exact hK _ _ ⟨(upd x 1 (.pointer (some ⟨mb,0,none⟩))),rfl,c0,c1,c2,c3,(hx.set 1 rfl)⟩
        case s2 =>
         have e1:=hx.get 1 rfl (hd 1 (by simp))
         rw [e1]
         clear e1
         go_simp
         exact hK _ _ ⟨(upd (upd x 1 (.pointer (some ⟨mb,0,none⟩))) 2 (.pointer (some ⟨mb,0,none⟩))),rfl,c0,c1,c2,c3,((hx.put 1 rfl).set 2 rfl)⟩
        case s3 =>
         have e2:=hx.get 2 rfl (hd 2 (by simp))
         rw [e2]
         clear e2
         go_simp
         exact hK _ _ ⟨(upd (upd x 2 (.pointer (some ⟨mb,0,none⟩))) 3 (.pointer (some ⟨mb,1,none⟩))),rfl,c0,c1,c2,c3,((hx.put 2 rfl).set 3 rfl)⟩
        case s4 =>
         have e3:=hx.get 3 rfl (hd 3 (by simp))
         rw [e3]
         clear e3
         have n10:f 10=false:=by cases h:f 10;rfl;exact absurd (hcl 10 4 (by kernel_rfl) (h)) (by rw [hf];simp)
         have n13:f 13=false:=by cases h:f 13;rfl;exact absurd (hcl 10 4 (by kernel_rfl) (hcl 13 10 (by kernel_rfl) (h))) (by rw [hf];simp)
         have hv:Vr=V3.drew∨Vr=W2:=by cases h:f 9;exact .inl (c0 h);exact .inr (c1 h n10)
         obtain ⟨k1,k4,kf⟩:=hst.out Vr hv
         clear hv
         clear n10 n13
         go_simp
         exact hK _ _ ⟨(upd (upd x 3 (.pointer (some ⟨mb,1,none⟩))) 4 (.slice sa st.length sc)),rfl,c0,c1,c2,c3,((hx.put 3 rfl).set 4 rfl)⟩
        case s5 =>
         go_simp
         exact hK _ _ ⟨(upd x 5 (.slice (some ⟨b,off,none⟩) (r.length + 1) cap)),rfl,c0,c1,c2,c3,(hx.set 5 rfl)⟩
        case s6 =>
         have e5:=hx.get 5 rfl (hd 5 (by simp))
         rw [e5]
         clear e5
         go_simp
         exact hK _ _ ⟨(upd (upd x 5 (.slice (some ⟨b,off,none⟩) (r.length + 1) cap)) 6 (.pointer (some ⟨b,off,none⟩))),rfl,c0,c1,c2,c3,((hx.put 5 rfl).set 6 rfl)⟩
        case s7 =>
         have e6:=hx.get 6 rfl (hd 6 (by simp))
         rw [e6]
         clear e6
         go_simp
         exact hK _ _ ⟨(upd (upd x 6 (.pointer (some ⟨b,off,none⟩))) 7 (.pointer (some ⟨b,off + 4,none⟩))),rfl,c0,c1,c2,c3,((hx.put 6 rfl).set 7 rfl)⟩
        case s8 =>
         have e7:=hx.get 7 rfl (hd 7 (by simp))
         rw [e7]
         clear e7
         have n9:f 9=false:=by cases h:f 9;rfl;exact absurd (hcl 9 8 (by kernel_rfl) (h)) (by rw [hf];simp)
         have n10:f 10=false:=by cases h:f 10;rfl;exact absurd (hcl 9 8 (by kernel_rfl) (hcl 10 9 (by kernel_rfl) (h))) (by rw [hf];simp)
         have n13:f 13=false:=by cases h:f 13;rfl;exact absurd (hcl 9 8 (by kernel_rfl) (hcl 10 9 (by kernel_rfl) (hcl 13 10 (by kernel_rfl) (h)))) (by rw [hf];simp)
         have hv:Vr=V3.drew∨Vr=W2:=by cases h:f 9;exact .inl (c0 h);exact .inr (c1 h n10)
         obtain ⟨k1,k4,kf⟩:=hst.out Vr hv
         clear hv
         clear n9 n10 n13
         go_simp
         exact hK _ _ ⟨(upd (upd x 7 (.pointer (some ⟨b,off + 4,none⟩))) 8 (.int .i64 u.col)),rfl,c0,c1,c2,c3,((hx.put 7 rfl).set 8 rfl)⟩
        case s9 =>
         have e8:=hx.get 8 rfl (hd 8 (by simp))
         rw [e8]
         clear e8
         have n10:f 10=false:=by cases h:f 10;rfl;exact absurd (hcl 10 9 (by kernel_rfl) (h)) (by rw [hf];simp)
         have n13:f 13=false:=by cases h:f 13;rfl;exact absurd (hcl 10 9 (by kernel_rfl) (hcl 13 10 (by kernel_rfl) (h))) (by rw [hf];simp)
         have e:=c0 hf
         subst e
         have hW2:=hW2q.out
         go_simp
         exact hK _ _ ⟨upd (upd x 8 (.int .i64 u.col)) 9 (.slice (some ⟨V3.heap.size,0,none⟩) 1 1),rfl,fun h=>(by cases h),fun _ _=>rfl,fun h=>absurd h (by simp [n10]),fun h=>absurd h (by simp [n13]),(hx.put 8 rfl).set 9 rfl⟩
        case s10 =>
         have e4:=hx.get 4 rfl (hd 4 (by simp))
         have e9:=hx.get 9 rfl (hd 9 (by simp))
         rw [e4,e9]
         clear e4 e9
         have n13:f 13=false:=by cases h:f 13;rfl;exact absurd (hcl 13 10 (by kernel_rfl) (h)) (by rw [hf];simp)
         have y9:f 9=true:=hd 9 (by simp)
         have e:=c1 y9 hf
         subst e
         obtain ⟨va,vc,w3,hrun,hb0,hf0,hR⟩:=hap.out
         refine wanted_run (by rfl) ?_
         refine wp_append_run (.tmp 74) (.tmp 79) 89 _ _ _ _ _ rfl rfl rfl hrun ?_
         exact hK _ _ ⟨upd (upd (upd x 4 (.slice sa st.length sc)) 9 (.slice (some ⟨V3.heap.size,0,none⟩) 1 1)) 10 (.slice va (st.length + 1) vc),rfl,fun h=>absurd h (by simp [y9]),fun _ h=>(by cases h),fun _ _=>⟨va,vc,rfl,hb0,hf0,hR⟩,fun h=>absurd h (by simp [n13]),VO.free ((hx.put 4 rfl).put 9 rfl) 10 rfl _⟩
        case s11 =>
         have e0:=hx.get 0 rfl (hd 0 (by simp))
         rw [e0]
         clear e0
         go_simp
         exact hK _ _ ⟨(upd (upd x 0 (.pointer (some ⟨mb,0,none⟩))) 11 (.pointer (some ⟨mb,0,none⟩))),rfl,c0,c1,c2,c3,((hx.put 0 rfl).set 11 rfl)⟩
        case s12 =>
         have e11:=hx.get 11 rfl (hd 11 (by simp))
         rw [e11]
         clear e11
         go_simp
         exact hK _ _ ⟨(upd (upd x 11 (.pointer (some ⟨mb,0,none⟩))) 12 (.pointer (some ⟨mb,1,none⟩))),rfl,c0,c1,c2,c3,((hx.put 11 rfl).set 12 rfl)⟩
        case s13 =>
         have e12:=hx.get 12 rfl (hd 12 (by simp))
         rw [e12]
         clear e12
         have y9:f 9=true:=hcl 10 9 (by kernel_rfl) (hd 10 (by simp))
         have y10:f 10=true:=hd 10 (by simp)
         obtain ⟨va,vc,hx10,hb0,hf0,hR⟩:=c2 y10 hf
         rw [hx10]
         go_simp
         exact hK _ _ ⟨upd (upd x 12 (.pointer (some ⟨mb,1,none⟩))) 10 (.slice va (st.length + 1) vc),rfl,fun h=>absurd h (by simp [y9]),fun _ h=>absurd h (by simp [y10]),fun _ h=>(by cases h),fun _=>⟨va,vc,hR⟩,VO.done (VO.keep (hx.put 12 rfl) 10 rfl _) 13 rfl⟩
       case last =>
        rintro f a Vr hf ⟨x,rfl,c0,c1,c2,c3,hx⟩
        obtain ⟨va,vc,hR⟩:=c3 (hf 13 (by simp))
        have hR5:=Lib.hid (hR3q.out.trans hR)
        clear c0 c1 c2 c3 hx hR
        go_wp2_with fail
        go_ret
        exact ⟨by rw [hbe.out];rfl,_,_,by rw [hbe.out,hts3'.out];exact hR5.out.ahead hb1'.out⟩
      ·
       have hbe:Hid (behS t (u :: r).head? st=([mkT bOpen t,mkT bShut t],st,false)):=by
        unfold Hid behS
        rw [if_neg (by rw [k1'.out];simp),if_neg (by rw [k2'.out];simp),if_pos k3'.out]
        simp only [List.head?_cons]
        rw [if_neg (by rw [ku];simp),if_neg hcl]
       have hd:decide (colS st < u.col)=false:=decide_eq_false hcl
       have hg:decide ((0:Int) < (r.length:Int) + 1)=true:=by rw [decide_eq_true_eq];omega
       clear ku hcl
       go_wp2_with fail
       refine hsu.out.mono ?_
       rintro e V2 ⟨rfl,hB⟩
       have hR2:=Lib.hid (hR1.out.below hB)
       have hcol:=Lib.hid (fun n=>lay_column (V2.drewN n) (hR2.out.st.below (below_drewN' (Below.refl _ _) n)) hst1.out.1)
       clear hB g0 g1 g2 g3 g4
       obtain ⟨g0,g1,g2,g3,g4⟩:=hgs.out _ _ _ _ _ hR2.out
       go_wp2_with fail
       go_quiet (first | (go_at_call 117;refine Calls.quiet_of_same (hcol.out _)))
       have hx0:=Lib.hid (hR2.out.below (below_drewN' (Below.refl _ V2) nq))
       obtain ⟨⟨d0,d1,d2,d3,d4⟩,_⟩:=(show Box5 _ 51 W.heap.size _ _ _ _ _ from MkR.box h'.out (by have:=hz1'.out;omega) hx1'.out hx0.out).cells
       have hp1:=Lib.hid (hpa.out _ _ _ _ _ hx0.out hst1.out.2.1 bOpen t)
       go_wp2_with fail
       refine hp1.out.mono ?_
       rintro e V2 ⟨rfl,va,vc,hR3⟩
       have hR3':=Lib.hid (hx0.out.trans hR3)
       clear hR3 d0 d1 d2 d3 d4
       obtain ⟨⟨d0,d1,d2,d3,d4⟩,_⟩:=(show Box5 _ 51 W.heap.size _ _ _ _ _ from MkR.box h'.out (by have:=hz1'.out;omega) hx1'.out hR3'.out).cells
       have hp2:=Lib.hid (hpa.out _ _ _ _ _ hR3'.out (by have:=hst1.out.2.2;simpa using this) bShut t)
       go_wp2_with fail
       refine hp2.out.mono ?_
       rintro e V3 ⟨rfl,va2,vc2,hR4⟩
       have hR4':=Lib.hid (hR3'.out.trans hR4)
       clear hR4 d0 d1 d2 d3 d4
       go_wp2_with fail
       go_ret
       exact ⟨by rw [hbe.out];rfl,_,_,by rw [hbe.out];simpa using hR4'.out.ahead hb1'.out⟩
   ·
    have hbe:Hid (behS t rest.head? st=([],st,false)):=by
     unfold Hid behS
     rw [if_neg (by rw [k1,decide_eq_false hA];simp),if_neg (by rw [k2,decide_eq_false hBr];simp),if_neg (by rw [k3];simpa [or_assoc] using hC)]
    have hA':=str_ne (l:=[40]) hA
    have hB':=str_ne (l:=[123]) hBr
    have hC1:=str_ne (l:=[111,102]) fun e=>hC (.inl e)
    have hC2:=str_ne (l:=[100,111]) fun e=>hC (.inr (.inl e))
    have hC3:=str_ne (l:=[100,111,115]) fun e=>hC (.inr (.inr e))
    clear hA hBr hC k1 k2 k3
    go_enter Tryz.func55,Tryz.ntmps55
    go_upto_region 1 with (fail)
    rw [hW1'.out]
    go_wp2_with fail
    refine hsg.out.mono ?_
    rintro e V ⟨rfl,hB⟩
    have hR1:Hid (MkR base mb W1 o s V o ts s st):=(MkR.refl h1'.out).below hB
    clear hB
    go_wp2_with fail
    go_ret
    exact ⟨by rw [hbe.out];rfl,_,_,by rw [hbe.out];simpa using hR1.out.ahead hb1'.out⟩
end Go.Proofs.YtinjocchommbdaaGreatDoor
