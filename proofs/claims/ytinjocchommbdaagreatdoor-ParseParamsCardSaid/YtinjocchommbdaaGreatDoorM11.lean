/- A part of the proof that parser laws hold: texts of the walk and of its plain laws, made small. -/
import Derived.Test.YtinjocchommbdaaGreatDoorM06
import Derived.Deep.LoopGhost
import Derived.Deep.RegionHeld3
import Derived.Deep.CutRange
import Derived.Deep.QuietTactic
import Derived.BigQuiet
import Derived.Deep.DeepMust
import Derived.Test.YtinjocchommbdaaGreatDoorM10
set_option linter.unusedVariables false
set_option linter.unusedSimpArgs false
namespace Go.Proofs.YtinjocchommbdaaGreatDoor
open Go.RowKit
def Box5 (w:World) (t:TypeId) (b:Nat) (x0 x1 x2 x3 x4:Value):Prop:=w.heap[b]?=some (.cells #[x0,x1,x2,x3,x4] t (0,0))
def Box2 (w:World) (t:TypeId) (b:Nat) (x0 x1:Value):Prop:=w.heap[b]?=some (.cells #[x0,x1] t (0,0))
def Box1 (w:World) (t:TypeId) (b:Nat) (x0:Value):Prop:=w.heap[b]?=some (.cells #[x0] t (0,0))
theorem blk_lt {w:World} {b:Nat} {o:Obj} (h:w.heap[b]?=some o):b < w.heap.size:=(Array.getElem?_eq_some_iff.1 h).1
theorem Box5.below {w W:World} {t:TypeId} {b:Nat} {x0 x1 x2 x3 x4:Value} (h:Box5 w t b x0 x1 x2 x3 x4) (hB:Below w.heap.size w W):Box5 W t b x0 x1 x2 x3 x4:=(hB.block b (blk_lt h)).trans h
theorem Box2.below {w W:World} {t:TypeId} {b:Nat} {x0 x1:Value} (h:Box2 w t b x0 x1) (hB:Below w.heap.size w W):Box2 W t b x0 x1:=(hB.block b (blk_lt h)).trans h
theorem Box5.cells {w:World} {t:TypeId} {b:Nat} {x0 x1 x2 x3 x4:Value} (h:Box5 w t b x0 x1 x2 x3 x4):(w.cell? ⟨b,0,none⟩=some x0∧w.cell? ⟨b,1,none⟩=some x1∧w.cell? ⟨b,2,none⟩=some x2∧w.cell? ⟨b,3,none⟩=some x3∧w.cell? ⟨b,4,none⟩=some x4)∧∀ o,w.frozen? ⟨b,o,none⟩=false:=by
 unfold Box5 at h
 exact ⟨⟨by simp [World.cell?,h],by simp [World.cell?,h],by simp [World.cell?,h],by simp [World.cell?,h],by simp [World.cell?,h]⟩,fun o=>by simp [World.frozen?,h]⟩
theorem Box2.cells {w:World} {t:TypeId} {b:Nat} {x0 x1:Value} (h:Box2 w t b x0 x1):(w.cell? ⟨b,0,none⟩=some x0∧w.cell? ⟨b,1,none⟩=some x1)∧∀ o,w.frozen? ⟨b,o,none⟩=false:=by
 unfold Box2 at h
 exact ⟨⟨by simp [World.cell?,h],by simp [World.cell?,h]⟩,fun o=>by simp [World.frozen?,h]⟩
theorem Box1.cells {w:World} {t:TypeId} {b:Nat} {x0:Value} (h:Box1 w t b x0):w.cell? ⟨b,0,none⟩=some x0∧∀ o,w.frozen? ⟨b,o,none⟩=false:=by
 unfold Box1 at h
 exact ⟨by simp [World.cell?,h],fun o=>by simp [World.frozen?,h]⟩
theorem blk_new {w U:World} {t:TypeId} {vs:Array Value} (h:Below (w.heap.size + 1) (w.alloc (.cells vs t)) U):U.heap[w.heap.size]?=some (.cells vs t (0,0)):=by
 rw [h.block _ (by omega)];simp only [World.alloc];simp
structure OneSet (b:Nat) (w W:World):Prop where
 below:Below b w W
 size:W.heap.size=w.heap.size
 other:∀ i,i≠b→W.heap[i]?=w.heap[i]?
theorem OneSet.cell (w:World) (b o:Nat) (v:Value):OneSet b w (w.setCell ⟨b,o,none⟩ v) :=
 ⟨(Below.refl b w).setCell (p:=⟨b,o,none⟩) (Nat.le_refl b) v,by simp [World.setCell],fun i hi=>Below.heap_setCell _ _ _ _ (fun e=>hi e)⟩
theorem OneSet.trans {b:Nat} {x y z:World} (h:OneSet b x y) (k:OneSet b y z):OneSet b x z :=
 ⟨h.below.trans k.below,k.size.trans h.size,fun i hi=>(k.other i hi).trans (h.other i hi)⟩
def World.set5 (w:World) (b:Nat) (x0 x1 x2 x3 x4:Value):World:=((((w.setCell ⟨b,0,none⟩ x0).setCell ⟨b,1,none⟩ x1).setCell ⟨b,2,none⟩ x2).setCell ⟨b,3,none⟩ x3).setCell ⟨b,4,none⟩ x4
def World.set2 (w:World) (b:Nat) (x0 x1:Value):World:=(w.setCell ⟨b,0,none⟩ x0).setCell ⟨b,1,none⟩ x1
theorem Box5.set {w:World} {t:TypeId} {b:Nat} {y0 y1 y2 y3 y4:Value} (h:Box5 w t b y0 y1 y2 y3 y4) (x0 x1 x2 x3 x4:Value):Box5 (World.set5 w b x0 x1 x2 x3 x4) t b x0 x1 x2 x3 x4∧OneSet b w (World.set5 w b x0 x1 x2 x3 x4):=by
 unfold Box5 at h
 refine ⟨by unfold Box5;simp [World.set5,World.setCell,Array.getElem?_modify,h],?_⟩
 unfold World.set5
 exact ((((OneSet.cell _ _ _ _).trans (OneSet.cell _ _ _ _)).trans (OneSet.cell _ _ _ _)).trans (OneSet.cell _ _ _ _)).trans (OneSet.cell _ _ _ _)
theorem Box2.set {w:World} {t:TypeId} {b:Nat} {y0 y1:Value} (h:Box2 w t b y0 y1) (x0 x1:Value):Box2 (World.set2 w b x0 x1) t b x0 x1∧OneSet b w (World.set2 w b x0 x1):=by
 unfold Box2 at h
 refine ⟨by unfold Box2;simp [World.set2,World.setCell,Array.getElem?_modify,h],?_⟩
 unfold World.set2
 exact (OneSet.cell _ _ _ _).trans (OneSet.cell _ _ _ _)
theorem results_tok {fn:Func} {t u:Tmp} (h:fn.results=#[.cell t 51,.tmp u]) (tmps:Array Value) (w:World) {b:Nat} {x0 x1 x2 x3 x4 v:Value} (ha:tmps.getD t undef=.pointer (some ⟨b,0,none⟩)) (hu:tmps.getD u undef=v)
  (hc:w.cell? ⟨b,0,none⟩=some x0∧w.cell? ⟨b,1,none⟩=some x1∧w.cell? ⟨b,2,none⟩=some x2∧w.cell? ⟨b,3,none⟩=some x3∧w.cell? ⟨b,4,none⟩=some x4):(results fn tmps).run Tryz.prog w=.ok (.tuple #[.agg #[x0,x1,x2,x3,x4],v]) w:=by
 obtain ⟨h0,h1,h2,h3,h4⟩:=hc
 have e2:=Tryz.isAgg51
 have e3:=Tryz.sizeOf51
 have ha':tmps[t]?.getD undef=.pointer (some ⟨b,0,none⟩):=by simpa using ha
 have hu':tmps[u]?.getD undef=v:=by simpa using hu
 simp [results,h,ha',hu',asAddr,loadVar,e2,loadCells,loadCellsFrom,Result.andThen,h0,h1,h2,h3,h4,Addr.add,load,Sem.run]
theorem below_drewN' {B:Nat} {W w:World} (h:Below B W w):∀ n,Below B W (w.drewN n)
 | 0=>h
 | n + 1=>(below_drewN' h n).drew
theorem Box2.first {w:World} {t:TypeId} {b:Nat} {x0 x1:Value} (h:Box2 w t b x0 x1) (y:Value):Box2 (w.setCell ⟨b,0,none⟩ y) t b y x1:=by
 unfold Box2 at h ⊢
 simp [World.setCell,Array.getElem?_modify,h]
theorem Box2.second {w:World} {t:TypeId} {b:Nat} {x0 x1:Value} (h:Box2 w t b x0 x1) (y:Value):Box2 (w.setCell ⟨b,1,none⟩ y) t b x0 y:=by
 unfold Box2 at h ⊢
 simp [World.setCell,Array.getElem?_modify,h]
theorem heap_set (W:World) (b o k:Nat) (v:Value) (h:k≠b):(W.setCell ⟨b,o,none⟩ v).heap[k]?=W.heap[k]?:=Below.heap_setCell _ _ _ _ (fun e=>h e)
theorem size_set (W:World) (a:Addr) (v:Value):(W.setCell a v).heap.size=W.heap.size:=by simp [World.setCell]
theorem set5_fold {P:Program} {fn:Func} {R:Ending→World→Prop} {e:Exit} {a:Act} {w:World} {b:Nat} {x0 x1 x2 x3 x4:Value} (h:bodyPost P fn R e a (World.set5 w b x0 x1 x2 x3 x4)):bodyPost P fn R e a (((((w.setCell ⟨b,0,none⟩ x0).setCell ⟨b,1,none⟩ x1).setCell ⟨b,2,none⟩ x2).setCell ⟨b,3,none⟩ x3).setCell ⟨b,4,none⟩ x4):=h
end Go.Proofs.YtinjocchommbdaaGreatDoor
namespace Go.Proofs.YtinjocchommbdaaGreatDoor
open Go.RowKit
def msk (b:Nat) (w:World):World:={ w with heap:=w.heap.setIfInBounds b (.cells #[] 0 (0,0)) }
theorem msk_cell {b:Nat} {w:World} {a:Addr} (h:a.block≠b):(msk b w).cell? a=w.cell? a:=by
 unfold World.cell? msk
 simp only
 rw [Array.getElem?_setIfInBounds_ne (fun e=>h e.symm)]
theorem msk_none {b:Nat} {w:World} {a:Addr} {v:Value} (h:(msk b w).cell? a=some v):a.block≠b:=by
 intro e
 have hb:=cell_block h
 unfold World.cell? msk at h
 simp only at h
 rw [e] at h hb
 have hlt:b < w.heap.size:=by simpa [msk] using hb
 simp [Array.getElem?_setIfInBounds_self,hlt] at h
theorem msk_at {b:Nat} {w:World} {a:Addr} {v:Value} (h:(msk b w).cell? a=some v):a.block≠b∧w.cell? a=some v:=by
 have h1:=msk_none h
 exact ⟨h1,by rwa [msk_cell h1] at h⟩
structure Bb (B mb:Nat) (w w':World):Prop where
 os:w'.os=w.os
 tape:w'.tape=w.tape
 output:w'.output=w.output
 size:w.heap.size≤w'.heap.size
 block:∀ k,k < B→k≠mb→w'.heap[k]?=w.heap[k]?
theorem Bb.refl (B mb:Nat) (w:World):Bb B mb w w:=⟨rfl,rfl,rfl,Nat.le_refl _,fun _ _ _=>rfl⟩
theorem Bb.trans {B mb:Nat} {a b c:World} (h:Bb B mb a b) (k:Bb B mb b c):Bb B mb a c :=
 ⟨k.os.trans h.os,k.tape.trans h.tape,k.output.trans h.output,Nat.le_trans h.size k.size,fun i hi hne=>(k.block i hi hne).trans (h.block i hi hne)⟩
theorem Bb.mono {B B' mb:Nat} {a b:World} (h:Bb B mb a b) (hB:B'≤B):Bb B' mb a b:=⟨h.os,h.tape,h.output,h.size,fun i hi hne=>h.block i (Nat.lt_of_lt_of_le hi hB) hne⟩
theorem Bb.of {B mb:Nat} {a b:World} (h:Below B a b):Bb B mb a b:=⟨h.os,h.tape,h.output,h.size,fun i hi _=>h.block i hi⟩
theorem Bb.next {mb:Nat} {a b c:World} (h:Bb a.heap.size mb a b) (k:Bb b.heap.size mb b c):Bb a.heap.size mb a c:=h.trans (k.mono h.size)
theorem Bb.ext {mb:Nat} {a b c:World} (h:Bb a.heap.size mb a b) (k:Below b.heap.size b c):Bb a.heap.size mb a c:=h.next (.of k)
theorem Bb.keeps {mb:Nat} {a b:World} (h:Bb a.heap.size mb a b):Keeps (msk mb a) (msk mb b):=by
 intro x v hv
 obtain ⟨h1,h2⟩:=msk_at hv
 rw [msk_cell h1]
 exact (World.cell?_of_block (h.block x.block (cell_block h2) h1)).trans h2
theorem Bb.box {mb g:Nat} {a b:World} {o:Obj} (h:Bb a.heap.size mb a b) (hg:g≠mb) (ho:a.heap[g]?=some o):b.heap[g]?=some o:=(h.block g (blk_lt ho) hg).trans ho
theorem Bb.set {mb o:Nat} (w:World) (v:Value):Bb w.heap.size mb w (w.setCell ⟨mb,o,none⟩ v):=⟨rfl,rfl,rfl,by rw [size_set];exact Nat.le_refl _,fun k _ hk=>heap_set _ _ _ _ _ hk⟩
theorem results_tk {fn:Func} {t:Tmp} (h:fn.results=#[.cell t 51]) (tmps:Array Value) (w:World) {b:Nat} {x0 x1 x2 x3 x4:Value} (ha:tmps.getD t undef=.pointer (some ⟨b,0,none⟩))
  (hc:w.cell? ⟨b,0,none⟩=some x0∧w.cell? ⟨b,1,none⟩=some x1∧w.cell? ⟨b,2,none⟩=some x2∧w.cell? ⟨b,3,none⟩=some x3∧w.cell? ⟨b,4,none⟩=some x4):(results fn tmps).run Tryz.prog w=.ok (.agg #[x0,x1,x2,x3,x4]) w:=by
 obtain ⟨h0,h1,h2,h3,h4⟩:=hc
 have e2:=Tryz.isAgg51
 have e3:=Tryz.sizeOf51
 have ha':tmps[t]?.getD undef=.pointer (some ⟨b,0,none⟩):=by simpa using ha
 simp [results,h,ha',asAddr,loadVar,e2,loadCells,loadCellsFrom,Result.andThen,h0,h1,h2,h3,h4,Addr.add,load,Sem.run]
theorem results_ex {fn:Func} {t:Tmp} (h:fn.results=#[.cell t 27]) (tmps:Array Value) (w:World) {b:Nat} {x0 x1 x2 x3 x4:Value} (ha:tmps.getD t undef=.pointer (some ⟨b,0,none⟩))
  (hc:w.cell? ⟨b,0,none⟩=some x0∧w.cell? ⟨b,1,none⟩=some x1∧w.cell? ⟨b,2,none⟩=some x2∧w.cell? ⟨b,3,none⟩=some x3∧w.cell? ⟨b,4,none⟩=some x4):(results fn tmps).run Tryz.prog w=.ok (.agg #[x0,x1,x2,x3,x4]) w:=by
 obtain ⟨h0,h1,h2,h3,h4⟩:=hc
 have e2:=Tryz.isAgg27
 have e3:=Tryz.sizeOf27
 have ha':tmps[t]?.getD undef=.pointer (some ⟨b,0,none⟩):=by simpa using ha
 simp [results,h,ha',asAddr,loadVar,e2,loadCells,loadCellsFrom,Result.andThen,h0,h1,h2,h3,h4,Addr.add,load,Sem.run]
def TkFit (t:Tk):Prop:=(tS t.text).size≤lenMax∧(-9223372036854775808≤t.num∧t.num≤9223372036854775807)
structure Rd (W:World) (rb:Nat) (a:Option Addr) (c:Nat) (l:List Tk) (i:Nat):Prop where
 box:Box2 W 60 rb (.slice a l.length c) (.int .i64 i)
 row:TkSl (msk rb W) (.slice a l.length c) l
 len:l.length≤100000
 fit:∀ t ∈ l,TkFit t
 le:i≤l.length
section
variable {W:World} {rb:Nat} {a:Option Addr} {c:Nat} {l:List Tk} {i:Nat}
theorem Rd.lt (h:Rd W rb a c l i):rb < W.heap.size:=blk_lt h.box
theorem Rd.next {W':World} {j:Nat} (h:Rd W rb a c l i) (hb:Bb W.heap.size rb W W') (hx:Box2 W' 60 rb (.slice a l.length c) (.int .i64 j)) (hj:j≤l.length):Rd W' rb a c l j :=
 ⟨hx,h.row.keeps hb.keeps,h.len,h.fit,hj⟩
theorem Rd.below {W':World} (h:Rd W rb a c l i) (hb:Below W.heap.size W W'):Rd W' rb a c l i:=h.next (.of hb) (h.box.below hb) h.le
theorem Rd.cells (h:Rd W rb a c l i):W.cell? ⟨rb,0,none⟩=some (.slice a l.length c)∧W.cell? ⟨rb,1,none⟩=some (.int .i64 i)∧∀ o,W.frozen? ⟨rb,o,none⟩=false :=
 ⟨h.box.cells.1.1,h.box.cells.1.2,h.box.cells.2⟩
theorem Rd.step (h:Rd W rb a c l i) {j:Nat} (hj:j≤l.length):Rd (W.setCell ⟨rb,1,none⟩ (.int .i64 j)) rb a c l j∧Bb W.heap.size rb W (W.setCell ⟨rb,1,none⟩ (.int .i64 j)) :=
 ⟨h.next (Bb.set _ _) (h.box.second _) hj,Bb.set _ _⟩
theorem Rd.tok (h:Rd W rb a c l i) (hi:i < l.length):∃ b off,a=some ⟨b,off,none⟩∧b≠rb∧(W.cell? ⟨b,off + i * 5,none⟩=some (.int .i64 (tkAt l i).kind)∧W.cell? ⟨b,off + i * 5 + 1,none⟩=some (.string (tS (tkAt l i).text))∧W.cell? ⟨b,off + i * 5 + 2,none⟩=some (.int .i64 (tkAt l i).num)∧W.cell? ⟨b,off + i * 5 + 3,none⟩=some (.int .i64 (tkAt l i).line)∧W.cell? ⟨b,off + i * 5 + 4,none⟩=some (.int .i64 (tkAt l i).col))∧TkFit (tkAt l i):=by
 obtain ⟨_,_,hr⟩:=h.row.at
 obtain ⟨b,off,ha,hc⟩:=hr.at (by rintro rfl;simp at hi)
 obtain ⟨h0,h1,h2,h3,h4⟩:=hc i hi
 have e:tkAt l i=l[i]:=by unfold tkAt;simp [List.getD,hi]
 rw [e]
 have hb:=(msk_at h0).1
 exact ⟨b,off,ha,hb,⟨(msk_at h0).2,(msk_at h1).2,(msk_at h2).2,(msk_at h3).2,(msk_at h4).2⟩,h.fit _ (List.getElem_mem hi)⟩
end
theorem kindAt_out {l:List Tk} {i:Nat} (h:l.length≤i):kindAt l i=0:=by unfold kindAt tkAt;simp [List.getD,List.getElem?_eq_none h]
section
variable {W:World} {rb:Nat} {a:Option Addr} {c:Nat} {l:List Tk} {i:Nat}
theorem par_kind (h:Rd W rb a c l i):Calls Tryz.prog 127 #[.pointer (some ⟨rb,0,none⟩)] W fun e W'=>e=.returned (.int .i64 (kindAt l i))∧∃ n,W'=W.drewN n:=by
 obtain ⟨c0,c1,cf⟩:=h.cells
 have hlen:=h.len
 by_cases hi:i < l.length
 ·
  obtain ⟨b,off,rfl,hb,⟨t0,_⟩,_⟩:=h.tok hi
  clear h
  have hii:¬ (l.length:Int)≤(i:Int):=by omega
  go_enter Tryz.func127,Tryz.ntmps127
  go_wp2_with fail
  go_quiet (fail)
  go_wp2_with fail
  go_quiet (fail)
  go_wp2_with fail
  go_ret
  exact ⟨rfl,_,World.drewN_drewN _ _ _⟩
 ·
  have hk:=Lib.hid (kindAt_out (l:=l) (i:=i) (by omega))
  clear h
  have hii:(l.length:Int)≤(i:Int):=by omega
  go_enter Tryz.func127,Tryz.ntmps127
  go_wp2_with fail
  go_quiet (fail)
  go_wp2_with fail
  go_ret
  exact ⟨by rw [hk.out];rfl,_,rfl⟩
end
end Go.Proofs.YtinjocchommbdaaGreatDoor
namespace Go.Proofs.YtinjocchommbdaaGreatDoor
open Go.RowKit
section
variable {W:World} {rb:Nat} {a:Option Addr} {c:Nat} {l:List Tk} {i:Nat}
set_option maxHeartbeats 4000000 in
set_option maxRecDepth 100000 in
theorem par_next (h:Rd W rb a c l i) (hi:i < l.length):Calls Tryz.prog 126 #[.pointer (some ⟨rb,0,none⟩)] W fun e W'=>e=.returned (tkV (tkAt l i))∧Bb W.heap.size rb W W'∧Rd W' rb a c l (i + 1):=by
 obtain ⟨W1,hW1⟩:∃ V,W.alloc (.cells #[.int .i64 0,.string ⟨#[]⟩,.int .i64 0,.int .i64 0,.int .i64 0] 51)=V:=⟨_,rfl⟩
 obtain ⟨W2,hW2⟩:∃ V,W1.drew.alloc (.cells #[.int .i64 0,.string ⟨#[]⟩,.int .i64 0,.int .i64 0,.int .i64 0] 51)=V:=⟨_,rfl⟩
 obtain ⟨W3,hW3⟩:∃ V,World.set5 W2 W1.heap.size (.int .i64 (tkAt l i).kind) (.string (tS (tkAt l i).text)) (.int .i64 (tkAt l i).num) (.int .i64 (tkAt l i).line) (.int .i64 (tkAt l i).col)=V:=⟨_,rfl⟩
 have hb1:Below W.heap.size W W1:=by rw [←hW1];exact (Below.refl _ _).alloc (Nat.le_refl _) _
 have hz1:W1.heap.size=W.heap.size + 1:=by rw [←hW1];simp
 have hx1:Box5 W1 51 W.heap.size (.int .i64 0) (.string ⟨#[]⟩) (.int .i64 0) (.int .i64 0) (.int .i64 0):=by rw [←hW1];exact blk_new (Below.refl _ _)
 have hb2:Below W1.heap.size W1 W2:=by rw [←hW2];exact ((Below.refl _ W1).drew).alloc (Nat.le_refl _) _
 have hx2:Box5 W2 51 W1.heap.size (.int .i64 0) (.string ⟨#[]⟩) (.int .i64 0) (.int .i64 0) (.int .i64 0):=by rw [←hW2];exact blk_new (w:=W1.drew) (Below.refl _ _)
 have hx3:=hx2.set (.int .i64 (tkAt l i).kind) (.string (tS (tkAt l i).text)) (.int .i64 (tkAt l i).num) (.int .i64 (tkAt l i).line) (.int .i64 (tkAt l i).col)
 rw [hW3] at hx3
 have hb3:Below W1.heap.size W1 W3:=hb2.trans hx3.2.below
 have hlen:=h.len
 have hrd:∀ V,(V=W1.drew∨V=W2∨V=W3)→Rd V rb a c l i:=fun V hV=>(h.below hb1).below (by
  rcases hV with rfl | rfl | rfl
  ·
   exact (Below.refl _ _).drew
  ·
   exact hb2
  ·
   exact hb3)
 obtain ⟨b,off,rfl,hb,_,_⟩:=h.tok hi
 have hst:Hid (∀ V,(V=W1.drew∨V=W2)→(V.cell? ⟨rb,0,none⟩=some (.slice (some ⟨b,off,none⟩) l.length c)∧V.cell? ⟨rb,1,none⟩=some (.int .i64 i))∧V.cell? ⟨b,off + i * 5,none⟩=some (.int .i64 (tkAt l i).kind)∧V.cell? ⟨b,off + i * 5 + 1,none⟩=some (.string (tS (tkAt l i).text))∧V.cell? ⟨b,off + i * 5 + 2,none⟩=some (.int .i64 (tkAt l i).num)∧V.cell? ⟨b,off + i * 5 + 3,none⟩=some (.int .i64 (tkAt l i).line)∧V.cell? ⟨b,off + i * 5 + 4,none⟩=some (.int .i64 (tkAt l i).col)):=by
  intro V hV
  have hr:=hrd V (hV.imp id .inl)
  obtain ⟨c0,c1,_⟩:=hr.cells
  obtain ⟨b',off',e,_,t,_⟩:=hr.tok hi
  cases e
  exact ⟨⟨c0,c1⟩,t⟩
 have hbx:Hid (((W2.cell? ⟨W1.heap.size,0,none⟩=some (.int .i64 0)∧W2.cell? ⟨W1.heap.size,1,none⟩=some (.string ⟨#[]⟩)∧W2.cell? ⟨W1.heap.size,2,none⟩=some (.int .i64 0)∧W2.cell? ⟨W1.heap.size,3,none⟩=some (.int .i64 0)∧W2.cell? ⟨W1.heap.size,4,none⟩=some (.int .i64 0))∧∀ o,W2.frozen? ⟨W1.heap.size,o,none⟩=false)):=hx2.cells
 have hend:Hid (((W3.cell? ⟨rb,0,none⟩=some (.slice (some ⟨b,off,none⟩) l.length c)∧W3.cell? ⟨rb,1,none⟩=some (.int .i64 i))∧(∀ o,W3.frozen? ⟨rb,o,none⟩=false)∧(W3.cell? ⟨W1.heap.size,0,none⟩=some (.int .i64 (tkAt l i).kind)∧W3.cell? ⟨W1.heap.size,1,none⟩=some (.string (tS (tkAt l i).text))∧W3.cell? ⟨W1.heap.size,2,none⟩=some (.int .i64 (tkAt l i).num)∧W3.cell? ⟨W1.heap.size,3,none⟩=some (.int .i64 (tkAt l i).line)∧W3.cell? ⟨W1.heap.size,4,none⟩=some (.int .i64 (tkAt l i).col))∧rb≠W.heap.size∧rb≠W1.heap.size∧W.heap.size≠rb∧W1.heap.size≠rb∧(W3.cell? ⟨W.heap.size,0,none⟩=some (.int .i64 0)∧W3.cell? ⟨W.heap.size,1,none⟩=some (.string ⟨#[]⟩)∧W3.cell? ⟨W.heap.size,2,none⟩=some (.int .i64 0)∧W3.cell? ⟨W.heap.size,3,none⟩=some (.int .i64 0)∧W3.cell? ⟨W.heap.size,4,none⟩=some (.int .i64 0))∧∀ o,W3.frozen? ⟨W.heap.size,o,none⟩=false)):=by
  have hr:=hrd W3 (.inr (.inr rfl))
  have:=h.lt
  exact ⟨⟨hr.cells.1,hr.cells.2.1⟩,hr.cells.2.2,hx3.1.cells.1,by omega,by omega,by omega,by omega,(hx1.below hb3).cells⟩
 have hfin:Hid (Box5 (World.set5 (W3.setCell ⟨rb,1,none⟩ (.int .i64 ((i:Int) + 1))) W.heap.size (.int .i64 (tkAt l i).kind) (.string (tS (tkAt l i).text)) (.int .i64 (tkAt l i).num) (.int .i64 (tkAt l i).line) (.int .i64 (tkAt l i).col)) 51 W.heap.size (.int .i64 (tkAt l i).kind) (.string (tS (tkAt l i).text)) (.int .i64 (tkAt l i).num) (.int .i64 (tkAt l i).line) (.int .i64 (tkAt l i).col)∧Bb W.heap.size rb W (World.set5 (W3.setCell ⟨rb,1,none⟩ (.int .i64 ((i:Int) + 1))) W.heap.size (.int .i64 (tkAt l i).kind) (.string (tS (tkAt l i).text)) (.int .i64 (tkAt l i).num) (.int .i64 (tkAt l i).line) (.int .i64 (tkAt l i).col))∧Rd (World.set5 (W3.setCell ⟨rb,1,none⟩ (.int .i64 ((i:Int) + 1))) W.heap.size (.int .i64 (tkAt l i).kind) (.string (tS (tkAt l i).text)) (.int .i64 (tkAt l i).num) (.int .i64 (tkAt l i).line) (.int .i64 (tkAt l i).col)) rb (some ⟨b,off,none⟩) c l (i + 1)):=by
  have hlt:=h.lt
  have hr:=hrd W3 (.inr (.inr rfl))
  obtain ⟨hr4,hb4⟩:=hr.step (j:=i + 1) (by omega)
  have e1:((i + 1:Nat):Int)=(i:Int) + 1:=by omega
  rw [e1] at hr4 hb4
  have hbx:=hb4.box (g:=W.heap.size) (by omega) (hx1.below hb3)
  have hset:=(show Box5 _ _ _ _ _ _ _ _ from hbx).set (.int .i64 (tkAt l i).kind) (.string (tS (tkAt l i).text)) (.int .i64 (tkAt l i).num) (.int .i64 (tkAt l i).line) (.int .i64 (tkAt l i).col)
  have hB:=(Bb.of (mb:=rb) (hb1.trans (hb3.mono (by omega)))).next hb4
  have hB5:=hset.2.below.mono (show rb + 1≤W.heap.size by omega)
  have hrow:Bb W.heap.size rb (W3.setCell ⟨rb,1,none⟩ (.int .i64 ((i:Int) + 1))) (World.set5 (W3.setCell ⟨rb,1,none⟩ (.int .i64 ((i:Int) + 1))) W.heap.size (.int .i64 (tkAt l i).kind) (.string (tS (tkAt l i).text)) (.int .i64 (tkAt l i).num) (.int .i64 (tkAt l i).line) (.int .i64 (tkAt l i).col)):=.of hset.2.below
  have hfull:=hB.trans hrow
  have hx:=(h.box.below hb1)
  refine ⟨hset.1,hfull,h.next hfull ?_ (by omega)⟩
  have:=(hset.2.below.block rb hlt).trans hr4.box
  rw [e1] at this
  exact this
 have hW1':=Lib.hid hW1
 have hW2:=Lib.hid hW2
 have hW3:=Lib.hid hW3
 have h':=Lib.hid h
 clear h hW1 hrd hb1 hb2 hb3 hx1 hx2 hx3 hz1
 go_enter Tryz.func126,Tryz.ntmps126
 go_upto_region 1 with (fail)
 rw [hW1'.out]
 refine wp_region_inv (fun f a Vr=>∃ x:Nat→Value,a=⟨#[.pointer (some ⟨rb,0,none⟩),undef,.pointer (some ⟨W.heap.size,0,none⟩),x 10,x 0,x 1,x 2,x 3,x 4,x 5,x 6,x 7,x 8,x 9,undef,undef,undef,undef,undef,undef,undef,undef],[]⟩∧(f 10=false→Vr=W1.drew)∧(f 10=true→f 11=false→Vr=W2)∧(f 11=true→Vr=W3)∧VO [some (.pointer (some ⟨rb,0,none⟩)),some (.pointer (some ⟨rb,0,none⟩)),some (.pointer (some ⟨rb,0,none⟩)),some (.slice (some ⟨b,off,none⟩) l.length c),some (.pointer (some ⟨rb,0,none⟩)),some (.pointer (some ⟨rb,0,none⟩)),some (.pointer (some ⟨rb,1,none⟩)),some (.int .i64 (i:Int)),some (.pointer (some ⟨b,off + i * 5,none⟩)),some (.agg #[.int .i64 (tkAt l i).kind,.string (tS (tkAt l i).text),.int .i64 (tkAt l i).num,.int .i64 (tkAt l i).line,.int .i64 (tkAt l i).col]),some (.pointer (some ⟨W1.heap.size,0,none⟩)),none] f x) (by kernel_rfl) (by kernel_rfl) (rs:=[0,1,2,3,4,5,6,7,8,9,10,11]) (by kernel_rfl) ?start ?steps ?last
 case start=>exact ⟨fun _=>undef,rfl,fun _=>rfl,by simp,by simp,VO.nil _ _⟩
 case steps =>
  refine (KeepsI.cons (ds:=[]) rfl (by kernel_rfl) ?s0 (KeepsI.cons (ds:=[0]) rfl (by kernel_rfl) ?s1 (KeepsI.cons (ds:=[1]) rfl (by kernel_rfl) ?s2 (KeepsI.cons (ds:=[2]) rfl (by kernel_rfl) ?s3 (KeepsI.cons (ds:=[]) rfl (by kernel_rfl) ?s4 (KeepsI.cons (ds:=[4]) rfl (by kernel_rfl) ?s5 (KeepsI.cons (ds:=[5]) rfl (by kernel_rfl) ?s6 (KeepsI.cons (ds:=[6]) rfl (by kernel_rfl) ?s7 (KeepsI.cons (ds:=[3,7]) rfl (by kernel_rfl) ?s8 (KeepsI.cons (ds:=[8]) rfl (by kernel_rfl) ?s9 (KeepsI.cons (ds:=[]) rfl (by kernel_rfl) ?s10 (KeepsI.cons (ds:=[10,9]) rfl (by kernel_rfl) ?s11 KeepsI.nil))))))))))))
  all_goals (intro f a Vr hf hd hcl hI K' hK;obtain ⟨x,rfl,c0,c1,c2,hx⟩:=hI)
  case s0 =>
   go_simp
   exact hK _ _ ⟨(upd x 0 (.pointer (some ⟨rb,0,none⟩))),rfl,c0,c1,c2,(hx.set 0 rfl)⟩
  case s1 =>
   have e0:=hx.get 0 rfl (hd 0 (by simp))
   rw [e0]
   clear e0
   go_simp
   exact hK _ _ ⟨(upd (upd x 0 (.pointer (some ⟨rb,0,none⟩))) 1 (.pointer (some ⟨rb,0,none⟩))),rfl,c0,c1,c2,((hx.put 0 rfl).set 1 rfl)⟩
  case s2 =>
   have e1:=hx.get 1 rfl (hd 1 (by simp))
   rw [e1]
   clear e1
   go_simp
   exact hK _ _ ⟨(upd (upd x 1 (.pointer (some ⟨rb,0,none⟩))) 2 (.pointer (some ⟨rb,0,none⟩))),rfl,c0,c1,c2,((hx.put 1 rfl).set 2 rfl)⟩
  case s3 =>
   have e2:=hx.get 2 rfl (hd 2 (by simp))
   rw [e2]
   clear e2
   have n11:f 11=false:=by cases h:f 11;rfl;exact absurd (hcl 8 3 (by kernel_rfl) (hcl 9 8 (by kernel_rfl) (hcl 11 9 (by kernel_rfl) (h)))) (by rw [hf];simp)
   have hv:Vr=W1.drew∨Vr=W2:=by cases h:f 10;exact .inl (c0 h);exact .inr (c1 h n11)
   obtain ⟨⟨k0,k1⟩,k2,k3,k4,k5,k6⟩:=hst.out Vr hv
   clear hv
   clear n11
   go_simp
   exact hK _ _ ⟨(upd (upd x 2 (.pointer (some ⟨rb,0,none⟩))) 3 (.slice (some ⟨b,off,none⟩) l.length c)),rfl,c0,c1,c2,((hx.put 2 rfl).set 3 rfl)⟩
  case s4 =>
   go_simp
   exact hK _ _ ⟨(upd x 4 (.pointer (some ⟨rb,0,none⟩))),rfl,c0,c1,c2,(hx.set 4 rfl)⟩
  case s5 =>
   have e4:=hx.get 4 rfl (hd 4 (by simp))
   rw [e4]
   clear e4
   go_simp
   exact hK _ _ ⟨(upd (upd x 4 (.pointer (some ⟨rb,0,none⟩))) 5 (.pointer (some ⟨rb,0,none⟩))),rfl,c0,c1,c2,((hx.put 4 rfl).set 5 rfl)⟩
  case s6 =>
   have e5:=hx.get 5 rfl (hd 5 (by simp))
   rw [e5]
   clear e5
   go_simp
   exact hK _ _ ⟨(upd (upd x 5 (.pointer (some ⟨rb,0,none⟩))) 6 (.pointer (some ⟨rb,1,none⟩))),rfl,c0,c1,c2,((hx.put 5 rfl).set 6 rfl)⟩
  case s7 =>
   have e6:=hx.get 6 rfl (hd 6 (by simp))
   rw [e6]
   clear e6
   have n11:f 11=false:=by cases h:f 11;rfl;exact absurd (hcl 8 7 (by kernel_rfl) (hcl 9 8 (by kernel_rfl) (hcl 11 9 (by kernel_rfl) (h)))) (by rw [hf];simp)
   have hv:Vr=W1.drew∨Vr=W2:=by cases h:f 10;exact .inl (c0 h);exact .inr (c1 h n11)
   obtain ⟨⟨k0,k1⟩,k2,k3,k4,k5,k6⟩:=hst.out Vr hv
   clear hv
   clear n11
   go_simp
   exact hK _ _ ⟨(upd (upd x 6 (.pointer (some ⟨rb,1,none⟩))) 7 (.int .i64 (i:Int))),rfl,c0,c1,c2,((hx.put 6 rfl).set 7 rfl)⟩
  case s8 =>
   have e3:=hx.get 3 rfl (hd 3 (by simp))
   have e7:=hx.get 7 rfl (hd 7 (by simp))
   rw [e3,e7]
   clear e3 e7
   have hlt:(i:Int) < (l.length:Int):=by omega
   go_simp
   exact hK _ _ ⟨(upd (upd (upd x 3 (.slice (some ⟨b,off,none⟩) l.length c)) 7 (.int .i64 (i:Int))) 8 (.pointer (some ⟨b,off + i * 5,none⟩))),rfl,c0,c1,c2,(((hx.put 3 rfl).put 7 rfl).set 8 rfl)⟩
  case s9 =>
   have e8:=hx.get 8 rfl (hd 8 (by simp))
   rw [e8]
   clear e8
   have n11:f 11=false:=by cases h:f 11;rfl;exact absurd (hcl 11 9 (by kernel_rfl) (h)) (by rw [hf];simp)
   have hv:Vr=W1.drew∨Vr=W2:=by cases h:f 10;exact .inl (c0 h);exact .inr (c1 h n11)
   obtain ⟨⟨k0,k1⟩,k2,k3,k4,k5,k6⟩:=hst.out Vr hv
   clear hv
   clear n11
   go_simp
   exact hK _ _ ⟨(upd (upd x 8 (.pointer (some ⟨b,off + i * 5,none⟩))) 9 (.agg #[.int .i64 (tkAt l i).kind,.string (tS (tkAt l i).text),.int .i64 (tkAt l i).num,.int .i64 (tkAt l i).line,.int .i64 (tkAt l i).col])),rfl,c0,c1,c2,((hx.put 8 rfl).set 9 rfl)⟩
  case s10 =>
   have n11:f 11=false:=by cases h:f 11;rfl;exact absurd (hcl 11 10 (by kernel_rfl) (h)) (by rw [hf];simp)
   have e:=c0 hf
   subst e
   go_simp
   exact hK _ _ ⟨upd x 10 (.pointer (some ⟨W1.heap.size,0,none⟩)),rfl,fun h=>(by cases h),fun _ _=>rfl,fun h=>absurd h (by simp [n11]),hx.set 10 rfl⟩
  case s11 =>
   have e10:=hx.get 10 rfl (hd 10 (by simp))
   have e9:=hx.get 9 rfl (hd 9 (by simp))
   rw [e10,e9]
   clear e10 e9
   have y10:f 10=true:=hd 10 (by simp)
   have e:=c1 y10 hf
   subst e
   obtain ⟨q0,q1⟩:=hbx.out
   go_simp
   exact hK _ _ ⟨(upd (upd x 10 (.pointer (some ⟨W1.heap.size,0,none⟩))) 9 (.agg #[.int .i64 (tkAt l i).kind,.string (tS (tkAt l i).text),.int .i64 (tkAt l i).num,.int .i64 (tkAt l i).line,.int .i64 (tkAt l i).col])),rfl,fun h=>absurd h (by simp [y10]),fun _ h=>(by cases h),fun _=>hW3.out,VO.done ((hx.put 10 rfl).put 9 rfl) 11 rfl⟩
 case last =>
  rintro f a Vr hf ⟨x,rfl,c0,c1,c2,hx⟩
  have e:=c2 (hf 11 (by simp))
  clear c0 c1 c2
  have e10:=hx.get 10 rfl (hf 10 (by simp))
  rw [e10]
  clear e10 hx
  subst e
  obtain ⟨⟨k0,k1⟩,kf,⟨d0,d1,d2,d3,d4⟩,m0,m1,m2,m3,⟨⟨z0,z1,z2,z3,z4⟩,zf⟩⟩:=hend.out
  clear hst hbx hend
  go_wp2_with fail
  refine set5_fold ?_
  refine bodyPost_ret (results_tk rfl _ _ rfl hfin.out.1.cells.1) rfl ⟨rfl,hfin.out.2⟩
end
end Go.Proofs.YtinjocchommbdaaGreatDoor
namespace Go.Proofs.YtinjocchommbdaaGreatDoor
open Go.RowKit
def Lay (B E:Nat) (w:World) (F:World→Prop):Prop:=E≤w.heap.size∧∀ w':World,(∀ k,B≤k→k < E→w'.heap[k]?=w.heap[k]?)→F w'
section
variable {B E B' E':Nat} {w w':World} {F G:World→Prop}
theorem Lay.out (h:Lay B E w F):F w:=h.2 w fun _ _ _=>rfl
theorem Lay.of (h:Lay B E w F) (hs:w.heap.size≤w'.heap.size) (hk:∀ k,B≤k→k < E→w'.heap[k]?=w.heap[k]?):Lay B E w' F :=
 ⟨Nat.le_trans h.1 hs,fun v hv=>h.2 v fun k h1 h2=>(hv k h1 h2).trans (hk k h1 h2)⟩
theorem Lay.wide (h:Lay B E w F) (hB:B'≤B) (hE:E≤E') (hs:E'≤w.heap.size):Lay B' E' w F :=
 ⟨hs,fun v hv=>h.2 v fun k h1 h2=>hv k (Nat.le_trans hB h1) (Nat.lt_of_lt_of_le h2 hE)⟩
theorem Lay.imp (h:Lay B E w F) (hi:∀ v,F v→G v):Lay B E w G:=⟨h.1,fun v hv=>hi v (h.2 v hv)⟩
theorem Lay.bb {m:Nat} (h:Lay B E w F) (hb:Bb w.heap.size m w w') (hm:m < B∨E≤m):Lay B E w' F :=
 h.of hb.size fun k h1 h2=>hb.block k (Nat.lt_of_lt_of_le h2 h.1) (by omega)
theorem Lay.below (h:Lay B E w F) (hb:Below w.heap.size w w'):Lay B E w' F:=h.of hb.size fun k _ h2=>hb.block k (Nat.lt_of_lt_of_le h2 h.1)
theorem Lay.all (hs:E≤w.heap.size) (h:∀ v,F v):Lay B E w F:=⟨hs,fun v _=>h v⟩
end
end Go.Proofs.YtinjocchommbdaaGreatDoor
namespace Go.Proofs.YtinjocchommbdaaGreatDoor
open Go.RowKit
theorem toL6 (s:Str):s.toList=bS s:=ByteArray.toList_eq s
theorem txt6 (x s:Bs):((tS x).toList == (tS s).toList)=decide (x=s):=by
 rw [toL6,toL6,bS_tS,bS_tS,Bool.eq_iff_iff,beq_iff_eq,decide_eq_true_iff]
theorem tS_ext {a b:Bs} (h:tS a=tS b):a=b:=by have:=congrArg bS h;rwa [bS_tS,bS_tS] at this
theorem Tryz.fldText (k n x y:Int) (s:Str) (w:World):(Instr.field 51 (.agg #[.int .i64 k,.string s,.int .i64 n,.int .i64 x,.int .i64 y]) 1).run Tryz.prog w=.ok (.string s) w:=by kernel_rfl
theorem Tryz.fldNum (k n x y:Int) (s:Str) (w:World):(Instr.field 51 (.agg #[.int .i64 k,.string s,.int .i64 n,.int .i64 x,.int .i64 y]) 2).run Tryz.prog w=.ok (.int .i64 n) w:=by kernel_rfl
def stuckE (p:Nat):Ending:=.panicked [{ v:=.iface 105 (.agg #[.int .i64 (p:Int)]),recovered:=false }]
section
variable {W:World} {rb:Nat} {a:Option Addr} {c:Nat} {l:List Tk} {i:Nat}
theorem Rd.drewN (h:Rd W rb a c l i) (n:Nat):Rd (W.drewN n) rb a c l i:=h.below (below_drewN' (Below.refl _ _) n)
theorem isAt_kind {s:Bs} (h:isAt l i s=true):kindAt l i=4:=by unfold isAt keyT at h;simp at h;exact h.1
set_option maxHeartbeats 1000000 in
theorem par_is (h:Rd W rb a c l i) (s:Bs):Calls Tryz.prog 125 #[.pointer (some ⟨rb,0,none⟩),.string (tS s)] W fun e W'=>e=.returned (.bool (isAt l i s))∧∃ n,W'=W.drewN n:=by
 obtain ⟨c0,c1,cf⟩:=h.cells
 have hlen:=h.len
 have hkd:=Lib.hid (fun n=>par_kind (h.drewN n))
 by_cases h4:kindAt l i=4
 ·
  have hi:=kindAt_lt h4 (by decide)
  obtain ⟨b,off,rfl,hb,⟨t0,t1,_⟩,_⟩:=h.tok hi
  have hres:Hid (isAt l i s=((tS (tkAt l i).text).toList == (tS s).toList)):=by
   unfold Hid isAt keyT
   rw [show (tkAt l i).kind=4 from h4,decide_eq_true rfl,Bool.true_and,txt6]
  have hlt:(i:Int) < (l.length:Int):=by omega
  rw [h4] at hkd
  clear h h4
  generalize tS s=S at *
  go_enter Tryz.func125,Tryz.ntmps125
  go_wp2_with fail
  go_quiet (first | (go_at_call 127;refine Calls.quiet_of (hkd.out _)))
  go_wp2_with fail
  go_ret
  exact ⟨by rw [hres.out];rfl,_,rfl⟩
 ·
  have hres:Hid (isAt l i s=false):=by
   unfold Hid
   cases hb:isAt l i s with
   | false=>rfl
   | true=>exact absurd (isAt_kind hb) h4
  generalize kindAt l i=k at *
  have hd:decide (k=4)=false:=decide_eq_false h4
  clear h
  go_enter Tryz.func125,Tryz.ntmps125
  go_wp2_with fail
  go_quiet (first | (go_at_call 127;refine Calls.quiet_of (hkd.out _)))
  go_wp2_with fail
  go_ret
  exact ⟨by rw [hres.out];rfl,_,rfl⟩
theorem par_sign (h:Rd W rb a c l i) (s:Bs):Calls Tryz.prog 64 #[.pointer (some ⟨rb,0,none⟩),.string (tS s)] W fun e W'=>Bb W.heap.size rb W W'∧if isAt l i s=true then e=.returned (.tuple #[])∧Rd W' rb a c l (i + 1) else e=stuckE i:=by
 have hlen:=h.len
 have his:=Lib.hid (par_is h s)
 have hw:IntKind.i64.wrap ((i:Int) + 1)=(i:Int) + 1:=IntWalk.i64_in _ (by have:=h.le;omega)
 have h':=Lib.hid h
 cases hb:isAt l i s with
 | true =>
  have hi:=isAt_lt hb
  rw [hb] at his
  generalize tS s=S at *
  clear hb h
  go_enter Tryz.func64,Tryz.ntmps64
  go_wp2_with fail
  refine his.out.mono ?_
  rintro e W1 ⟨rfl,n,rfl⟩
  have h1:=h'.out.drewN n
  obtain ⟨c0,c1,cf⟩:=h1.cells
  have h1':=Lib.hid h1
  clear h1
  go_wp2_with fail
  go_end0
  have h2:=h1'.out.step (j:=i + 1) (by omega)
  exact ⟨(Bb.of (below_drewN' (Below.refl _ _) n)).next h2.2,rfl,h2.1⟩
 | false =>
  rw [hb] at his
  generalize tS s=S at *
  clear hb h hw
  go_enter Tryz.func64,Tryz.ntmps64
  go_wp2_with fail
  refine his.out.mono ?_
  rintro e W1 ⟨rfl,n,rfl⟩
  have h1:=h'.out.drewN n
  obtain ⟨c0,c1,cf⟩:=h1.cells
  clear h1
  go_wp2_with fail
  exact ⟨rfl,Bb.of (below_drewN' (Below.refl _ _) n),rfl⟩
end
end Go.Proofs.YtinjocchommbdaaGreatDoor
