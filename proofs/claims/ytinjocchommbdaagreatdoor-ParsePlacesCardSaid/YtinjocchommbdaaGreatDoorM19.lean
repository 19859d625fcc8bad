/- A part of the proof that parser laws hold: texts of the walk and of its plain laws, made small. -/
import Derived.Test.YtinjocchommbdaaGreatDoorM11
import Derived.Test.YtinjocchommbdaaGreatDoorM02
import Derived.Laws.OwnMore
import Derived.Deep.CutRange
import Derived.Test.YtinjocchommbdaaGreatDoorM06
import Derived.Deep.LoopGhost
import Derived.Deep.RegionWith
set_option linter.unusedVariables false
set_option linter.unusedSimpArgs false
namespace Go.Proofs.YtinjocchommbdaaGreatDoor
open Go.RowKit
section
variable {W:World} {rb:Nat} {a:Option Addr} {c:Nat} {l:List Tk} {i:Nat}
set_option maxRecDepth 100000 in
theorem par_of (h:Rd W rb a c l i) (k:Int) (hk:k≠0):Calls Tryz.prog 63 #[.pointer (some ⟨rb,0,none⟩),.int .i64 k] W fun e W'=>Bb W.heap.size rb W W'∧if kindAt l i=k then e=.returned (.string (textAt l i))∧Rd W' rb a c l (i + 1) else e=stuckE i:=by
 have hkd:=Lib.hid (par_kind h)
 have h':=Lib.hid h
 have hfl:=Tryz.fldText
 by_cases hb:kindAt l i=k
 ·
  have hi:=kindAt_lt hb hk
  simp only [if_pos hb]
  rw [hb] at hkd
  clear hb h
  go_enter Tryz.func63,Tryz.ntmps63
  go_wp2_with fail
  refine hkd.out.mono ?_
  rintro e W1 ⟨rfl,n,rfl⟩
  have h1:=Lib.hid (h'.out.drewN n)
  have hnx:=Lib.hid (par_next h1.out hi)
  unfold tkV at hnx
  go_wp2_with fail
  refine hnx.out.mono ?_
  rintro e W2 ⟨rfl,hB,hR⟩
  have hB2:=Lib.hid ((Bb.of (below_drewN' (Below.refl _ _) n)).next hB)
  have hR':=Lib.hid hR
  clear hB hR
  go_wp2_with fail
  go_ret
  exact ⟨hB2.out,rfl,hR'.out⟩
 ·
  simp only [if_neg hb]
  have hd:(kindAt l i != k)=true:=by simpa using hb
  generalize kindAt l i=q at *
  clear h hb
  go_enter Tryz.func63,Tryz.ntmps63
  go_wp2_with fail
  refine hkd.out.mono ?_
  rintro e W1 ⟨rfl,n,rfl⟩
  have h1:=h'.out.drewN n
  obtain ⟨c0,c1,cf⟩:=h1.cells
  clear h1
  go_wp2_with fail
  exact ⟨rfl,Bb.of (below_drewN' (Below.refl _ _) n),rfl⟩
def anyAt (l:List Tk) (i:Nat) (ss:List Bs):Option Bs:=ss.find? (isAt l i)
def AnyR (W:World) (rb:Nat) (a:Option Addr) (c:Nat) (l:List Tk) (i:Nat) (o:Option Bs) (e:Ending) (W':World):Prop :=
 match o with
 | some s=>e=.returned (.tuple #[.string (tS s),.bool true])∧Rd W' rb a c l (i + 1)
 | none=>e=.returned (.tuple #[.string ⟨#[]⟩,.bool false])∧Rd W' rb a c l i
theorem isAt_text {s:Bs} (h:isAt l i s=true):textAt l i=tS s:=by unfold isAt keyT at h;simp at h;unfold textAt;rw [h.2]
set_option maxHeartbeats 1000000 in
set_option maxRecDepth 100000 in
theorem par_any (h:Rd W rb a c l i) (sb sc:Nat) (ss:List Bs) (hss:ss.length≤100) (hrow:∀ j (hj:j < ss.length),W.cell? ⟨sb,j,none⟩=some (.string (tS ss[j]))) :
  Calls Tryz.prog 62 #[.pointer (some ⟨rb,0,none⟩),.slice (some ⟨sb,0,none⟩) ss.length sc] W fun e W'=>Bb W.heap.size rb W W'∧AnyR W rb a c l i (anyAt l i ss) e W':=by
 have h':=Lib.hid h
 have hrow':=Lib.hid hrow
 have hfl:=Tryz.fldText
 clear h hrow
 go_enter Tryz.func62,Tryz.ntmps62
 go_wp2_with fail
 go_loopw [10] (fun n Wr=>∃ (k m:Nat),k≤ss.length∧n=.int .i64 k∧Hid (Wr=W.drewN m)∧Hid (anyAt l i ss=anyAt l i (ss.drop k))) (fun n _=>ss.length - (intOf n).toNat)
 case atStart=>exact ⟨0,0,Nat.zero_le _,rfl,rfl,rfl⟩
 case round =>
  obtain ⟨k,m,hk,rfl,hW,hA⟩:=hrel
  have h1:=h'.out.drewN m
  rw [←hW.out] at h1
  have h1':=Lib.hid h1
  have hBm:Hid (Bb W.heap.size rb W wr):=by rw [hW.out];exact Bb.of (below_drewN' (Below.refl _ _) m)
  by_cases hlt:k < ss.length
  ·
   have hki:(k:Int) < (ss.length:Int):=by omega
   have g0:=hrow'.out k hlt
   have g1:wr.cell? ⟨sb,k,none⟩=some (.string (tS ss[k])):=by rw [hW.out];exact Keeps.of_below (below_drewN' (Below.refl _ _) m) _ _ g0
   have hA2:Hid (anyAt l i ss=if isAt l i ss[k]=true then some ss[k] else anyAt l i (ss.drop (k + 1))):=by
    unfold Hid
    rw [hA.out,List.drop_eq_getElem_cons hlt,anyAt,List.find?_cons]
    cases isAt l i ss[k] <;> rfl
   obtain ⟨s,hs⟩:∃ s,ss[k]=s:=⟨_,rfl⟩
   rw [hs] at g1 hA2
   have his:=Lib.hid (par_is h1 s)
   have hnx:Hid (isAt l i s=true→∀ n,Calls Tryz.prog 126 #[.pointer (some ⟨rb,0,none⟩)] (wr.drewN n) fun e W'=>e=.returned (tkV (tkAt l i))∧Bb (wr.drewN n).heap.size rb (wr.drewN n) W'∧Rd W' rb a c l (i + 1)):=fun hb n=>par_next (h1.drewN n) (isAt_lt hb)
   have htx:Hid (isAt l i s=true→tS (tkAt l i).text=tS s):=fun hb=>isAt_text hb
   clear h1 g0 hs hA
   cases hb:isAt l i s with
   | true =>
    rw [hb] at his
    have hA3:Hid (anyAt l i ss=some s):=by rw [hb,if_pos rfl] at hA2;exact hA2
    have hnx2:=Lib.hid (hnx.out hb)
    have htx2:=htx.out hb
    unfold tkV at hnx2
    rw [htx2] at hnx2
    clear hnx htx hA2 hb htx2
    go_wp2_with fail
    refine his.out.mono ?_
    rintro e W1 ⟨rfl,n,rfl⟩
    go_wp2_with fail
    refine (hnx2.out n).mono ?_
    rintro e W2 ⟨rfl,hB,hR⟩
    have hB2:=Lib.hid (hBm.out.trans (((Bb.of (below_drewN' (Below.refl _ wr) n)).next hB).mono hBm.out.size))
    have hR':=Lib.hid hR
    clear hB hR
    go_wp2_with fail
    refine bodyPost_ret (results_tmp2 rfl _ _ _) rfl ?_
    refine ⟨hB2.out,?_⟩
    rw [hA3.out]
    exact ⟨rfl,hR'.out⟩
   | false =>
    rw [hb] at his
    have hA3:Hid (anyAt l i ss=anyAt l i (ss.drop (k + 1))):=by rw [hb,if_neg (by simp)] at hA2;exact hA2
    have hw:IntKind.i64.wrap ((k:Int) + 1)=(k:Int) + 1:=IntWalk.i64_in _ (by omega)
    clear hnx htx hA2 hb
    go_wp2_with fail
    refine his.out.mono ?_
    rintro e W1 ⟨rfl,n,rfl⟩
    go_wp2_with fail
    go_roundw
    case rel=>exact ⟨k + 1,m + n,by omega,by go_num,by unfold Hid;rw [hW.out,World.drewN_drewN],hA3.out⟩
    case measure=>simp [intOf];omega
  ·
   have e:k=ss.length:=by omega
   subst e
   have hA3:Hid (anyAt l i ss=none):=by have:=hA.out;rw [List.drop_length] at this;exact this
   clear hA h1
   go_wp2_with fail
   refine bodyPost_ret (results_tmp2 rfl _ _ _) rfl ?_
   refine ⟨hBm.out,?_⟩
   rw [hA3.out]
   exact ⟨rfl,h1'.out⟩
end
end Go.Proofs.YtinjocchommbdaaGreatDoor
namespace Go.Proofs.YtinjocchommbdaaGreatDoor
open Go.RowKit
theorem own_cells {w:World} {base s:Nat} {e:TypeId} {v:Value} {n:Nat} {xs:List Value} (h:w.ownsRow base e s v n xs) :
  ∃ a c,v=.slice a n c∧(a=none→c=0)∧n≤c∧(n=0∨∃ g,a=some ⟨g,0,none⟩∧base≤g∧g < w.heap.size∧∀ j x,xs[j]?=some x→w.cell? ⟨g,j,none⟩=some x):=by
 obtain ⟨hlen,⟨rfl,rfl⟩ | ⟨g,cap,cur,rfl,hb,hh,hnc,_,hsz,htk⟩⟩:=h
 ·
  exact ⟨none,0,rfl,fun _=>rfl,Nat.le_refl _,.inl rfl⟩
 ·
  refine ⟨_,cap,rfl,(fun h=>by cases h),hnc,.inr ⟨g,rfl,hb,(Array.getElem?_eq_some_iff.1 hh).1,fun j x hx=>?_⟩⟩
  rw [←htk,List.getElem?_take] at hx
  split at hx
  ·
   have hx':cur[j]?=some x:=by simpa using hx
   simp [World.cell?,hh,hx']
  ·
   cases hx
def NmIs (B E:Nat) (w:World) (v:Value) (ns:List Str):Prop:=∃ a c,v=.slice a ns.length c∧(a=none→c=0)∧ns.length≤c∧ns.length≤100000∧Lay B E w fun x=>StrRow x a ns
theorem NmIs.own {w:World} {base:Nat} {v:Value} {ns:List Str} (h:w.ownsRow base 9 1 v ns.length (ns.map Value.string)) (hz:base≤w.heap.size) (hl:ns.length≤100000) (hs:∀ s ∈ ns,s.size≤lenMax):NmIs base w.heap.size w v ns:=by
 obtain ⟨a,c,rfl,h1,h2,h3⟩:=own_cells h
 refine ⟨a,c,rfl,h1,h2,hl,?_⟩
 rcases h3 with h3 | ⟨g,rfl,hg1,hg2,hc⟩
 ·
  exact Lay.all (Nat.le_refl _) fun _=>.inl (List.length_eq_zero_iff.1 h3)
 ·
  refine ⟨Nat.le_refl _,fun x hx=>.inr ⟨g,0,rfl,fun i hi=>⟨?_,hs _ (List.getElem_mem hi)⟩⟩⟩
  rw [Nat.zero_add]
  exact (World.cell?_of_block (hx g hg1 hg2)).trans (hc i _ (by simp [hi]))
theorem cell_new6 (w:World) (v:Value) (t:TypeId):∀ j u,[v][j]?=some u→(w.alloc (.cells #[v] t)).cell? ((⟨w.heap.size,0,none⟩:Addr).add j)=some u:=by
 intro j u hj
 rw [addr_plus,Nat.zero_add,World.cell?_alloc_at _ _ _ _ rfl]
 simpa using hj
theorem Tryz.infoStr6:(Tryz.prog.info? 9).map (fun i=>(i.zero,i.size,i.bytes))=some (some (.string ⟨#[]⟩),1,16):=by kernel_rfl
theorem Bb.grown {m:Nat} {a b c:World} {row:Option Nat} (h:Bb a.heap.size m a b) (k:b.grownBy c row) (hr:∀ g,row=some g→a.heap.size≤g):Bb a.heap.size m a c :=
 ⟨k.os.trans h.os,k.tape.trans h.tape,k.output.trans h.output,Nat.le_trans h.size k.size,fun i hi hm=>(k.block i (Nat.lt_of_lt_of_le hi h.size) (fun e=>by have:=hr i e.symm;omega)).trans (h.block i hi hm)⟩
theorem Rd.grown {W W':World} {rb:Nat} {a:Option Addr} {c:Nat} {l:List Tk} {i:Nat} {row:Option Nat} {B:Nat} (h:Rd W rb a c l i) (k:W.grownBy W' row) (hr:∀ g,row=some g→B≤g) (hrb:rb < B) (hlow:∀ b off,a=some ⟨b,off,none⟩→l≠[]→b < B):Rd W' rb a c l i:=by
 refine ⟨(k.block rb h.lt (fun e=>by have:=hr rb e.symm;omega)).trans h.box,?_,h.len,h.fit,h.le⟩
 obtain ⟨_,ha,ht⟩:=h.row.at
 refine ⟨a,c,rfl,ha,?_⟩
 by_cases hl:l=[]
 ·
  exact .inl hl
 ·
  obtain ⟨b,off,rfl,hc⟩:=ht.at hl
  have hb:=hlow b off rfl hl
  refine .inr ⟨b,off,rfl,fun j hj=>?_⟩
  obtain ⟨g0,g1,g2,g3,g4⟩:=hc j hj
  have tr:∀ o v,(msk rb W).cell? ⟨b,o,none⟩=some v→(msk rb W').cell? ⟨b,o,none⟩=some v:=fun o v hv=>by
   obtain ⟨h1,h2⟩:=msk_at hv
   rw [msk_cell h1,←h2]
   exact World.cell?_of_block (k.block b (cell_block h2) (fun e=>by have:=hr b e.symm;omega))
  exact ⟨tr _ _ g0,tr _ _ g1,tr _ _ g2,tr _ _ g3,tr _ _ g4⟩
theorem Rd.lowRow {W:World} {rb:Nat} {a:Option Addr} {c:Nat} {l:List Tk} {i:Nat} (h:Rd W rb a c l i):∀ b off,a=some ⟨b,off,none⟩→l≠[]→b < W.heap.size:=by
 rintro b off rfl hl
 obtain ⟨_,_,ht⟩:=h.row.at
 obtain ⟨b',off',e,hc⟩:=ht.at hl
 cases e
 have:=(hc 0 (List.length_pos_iff.2 hl)).1
 exact cell_block (msk_at this).2
section
variable {W:World} {rb:Nat} {a:Option Addr} {c:Nat} {l:List Tk} {i:Nat}
theorem nms_text (h:∀ t ∈ l,TkFit t):∀ s ∈ nms l i,s.size≤lenMax:=by
 intro s hs
 unfold nms at hs
 obtain ⟨t,ht,rfl⟩:=List.mem_map.1 hs
 exact (h t (List.mem_of_mem_drop (List.takeWhile_subset _ ht))).1
set_option maxHeartbeats 2000000 in
set_option maxRecDepth 100000 in
theorem par_names (h:Rd W rb a c l i):Calls Tryz.prog 128 #[.pointer (some ⟨rb,0,none⟩)] W fun e W'=>∃ v,e=.returned v∧NmIs W.heap.size W'.heap.size W' v (nms l i)∧Bb W.heap.size rb W W'∧Rd W' rb a c l (i + (nms l i).length):=by
 obtain ⟨i0,hi,hz0,hz1',hz2'⟩:=info_of Tryz.infoStr6
 have hfl:=Tryz.fldText
 have h':=Lib.hid h
 have hlr:=Lib.hid h.lowRow
 have hlen:=h.len
 have hile:=h.le
 have hrb:=h.lt
 clear h
 go_enter Tryz.func128,Tryz.ntmps128
 go_wp2_with fail
 go_loopg [2] (l.length - i) (fun gm v wr=>∃ (j:Nat) (ns:List Str),i≤j∧gm=l.length - j∧Hid (Rd wr rb a c l j)∧Hid (Bb W.heap.size rb W wr)∧Hid (wr.ownsRow W.heap.size 9 1 v ns.length (ns.map Value.string))∧Hid (nms l i=ns ++ nms l j)∧Hid (j=i + ns.length))
 case atStart=>exact ⟨i,[],Nat.le_refl _,rfl,h'.out,Bb.refl _ _ _,⟨rfl,.inl ⟨rfl,rfl⟩⟩,rfl,rfl⟩
 case round =>
  obtain ⟨j,ns,hij,rfl,hR,hB,hown,hN,hj⟩:=hrel
  obtain ⟨Wr,rfl⟩:∃ W,W=wr:=⟨_,rfl⟩
  have hkd:=Lib.hid (par_kind hR.out)
  by_cases hk:kindAt l j=2
  ·
   have hlt:=kindAt_lt hk (by decide)
   rw [hk] at hkd
   have hNs:=Lib.hid (nms_step hk)
   clear hk
   go_wp2_with fail
   refine hkd.out.mono ?_
   rintro e W1 ⟨rfl,n,rfl⟩
   have hnx:=Lib.hid (par_next (hR.out.drewN n) hlt)
   have hbn:=Lib.hid (Bb.of (mb:=rb) (below_drewN' (Below.refl Wr.heap.size Wr) n))
   unfold tkV at hnx
   go_wp2_with fail
   refine hnx.out.mono ?_
   rintro e W2 ⟨rfl,hB2,hR2⟩
   have hB3:=Lib.hid (hbn.out.next hB2)
   have hR2':=Lib.hid hR2
   have own2:=Lib.hid (ownsRow_heap hown.out (fun g hg=>hB3.out.block g (ownBlock_ge hown.out hg).2 (by have:=(ownBlock_ge hown.out hg).1;omega)))
   have hBw:=Lib.hid (hB.out.next (c:=W2) (by exact hB3.out))
   have hz2:W.heap.size≤W2.heap.size:=hBw.out.size
   have hnl:ns.length≤100000:=by have:=hj.out;omega
   have hk63:ns.length + 1≤maxLen:=by unfold maxLen;omega
   clear hB2 hR2
   go_wp2_with (at_builtin;go_must (refine wpList_append_own_at _ rfl _ _ 24 rfl W.heap.size 9 i0 (.string ⟨#[]⟩) 1 16 Tryz.underlying24 hi hz0 hz1' hz2' rfl (by decide) _ _ _ rfl (own2.out.alloc _) ⟨W2.heap.size,0,none⟩ 1 1 [.string (tS (tkAt l j).text)] rfl rfl (cell_new6 _ _ _) (by simp [Value.oneCell']) hk63 (by omega) (by simp;omega) ?_);intro v2 w2 hown2 hg2 _ hat2;have hgl:=Lib.hid (fun g (q:_=some g)=>(ownBlock_ge own2.out q).1);have hBa:=Lib.hid ((hBw.out.ext (Below.alloc (Below.refl _ _) (Nat.le_refl _) _)).grown hg2 hgl.out);have hRa:=Lib.hid ((hR2'.out.below (Below.alloc (Below.refl _ _) (Nat.le_refl _) _)).grown hg2 hgl.out hrb hlr.out);have hown2':=Lib.hid hown2;clear hown2 hg2 hat2)
   go_roundg (l.length - (j + 1))
   case measure=>omega
   case rel =>
    refine ⟨j + 1,ns ++ [textAt l j],by omega,rfl,hRa.out,hBa.out,?_,?_,?_⟩
    ·
     rw [List.length_append,List.map_append]
     exact hown2'.out
    ·
     unfold Hid
     rw [hN.out,hNs.out,List.append_assoc];rfl
    ·
     unfold Hid
     rw [List.length_append,hj.out];rfl
  ·
   have hd:(kindAt l j == 2)=false:=by simpa using hk
   have hNs:=Lib.hid (nms_zero hk)
   have hfin:Hid (nms l i=ns):=by unfold Hid;rw [hN.out,hNs.out,List.append_nil]
   generalize kindAt l j=q at *
   clear hk
   obtain ⟨va,vc,rfl,_⟩:=own_cells hown.out
   go_wp2_with fail
   refine hkd.out.mono ?_
   rintro e W1 ⟨rfl,n,rfl⟩
   go_wp2_with fail
   go_ret
   have hbn:=(Bb.of (mb:=rb) (below_drewN' (Below.refl Wr.heap.size Wr) n))
   refine ⟨_,rfl,?_,hB.out.next hbn,?_⟩
   ·
    rw [hfin.out]
    refine NmIs.own (ownsRow_heap hown.out fun g hg=>hbn.block g (ownBlock_ge hown.out hg).2 (by have:=(ownBlock_ge hown.out hg).1;omega)) (hB.out.next hbn).size (by have:=hj.out;have:=hR.out.le;omega) ?_
    have:=nms_text (i:=i) h'.out.fit
    rw [hfin.out] at this
    exact this
   ·
    rw [hfin.out,←hj.out]
    exact hR.out.drewN n
end
end Go.Proofs.YtinjocchommbdaaGreatDoor
namespace Go.Proofs.YtinjocchommbdaaGreatDoor
open Go.RowKit
structure PS (W:World) (rb:Nat) (a:Option Addr) (c:Nat) (l:List Tk) (j:Nat) (X:World):Prop where
 bb:Bb W.heap.size rb W X
 rd:Rd X rb a c l j
theorem Bb.own {B m b:Nat} {w x y:World} (h:Bb B m w x) (k:OneSet b x y) (hb:B≤b∨b=m):Bb B m w y:=by
 refine ⟨k.below.os.trans h.os,k.below.tape.trans h.tape,k.below.output.trans h.output,by rw [k.size];exact h.size,fun i hi hm=>(k.other i ?_).trans (h.block i hi hm)⟩
 rcases hb with hb | hb <;> omega
section
variable {W X Y:World} {rb:Nat} {a:Option Addr} {c:Nat} {l:List Tk} {i j:Nat}
theorem PS.refl (h:Rd W rb a c l i):PS W rb a c l i W:=⟨Bb.refl _ _ _,h⟩
theorem PS.below (h:PS W rb a c l i X) (k:Below X.heap.size X Y):PS W rb a c l i Y:=⟨h.bb.ext k,h.rd.below k⟩
theorem PS.call (h:PS W rb a c l i X) (k:Bb X.heap.size rb X Y) (r:Rd Y rb a c l j):PS W rb a c l j Y:=⟨h.bb.next k,r⟩
theorem PS.own {b:Nat} (h0:Rd W rb a c l i) (h:PS W rb a c l j X) (k:OneSet b X Y) (hb:W.heap.size≤b):PS W rb a c l j Y:=by
 have h2:=h.bb.own k (.inl hb)
 exact ⟨h2,h0.next h2 ((k.other rb (by have:=h0.lt;omega)).trans h.rd.box) h.rd.le⟩
theorem PS.size (h:PS W rb a c l j X):W.heap.size≤X.heap.size:=h.bb.size
theorem Lay.own {B E b:Nat} {F:World→Prop} (h:Lay B E X F) (k:OneSet b X Y) (hb:b < B∨E≤b):Lay B E Y F:=h.of (by rw [k.size];exact Nat.le_refl _) fun q h1 h2=>k.other q (by omega)
end
def ExL (B:Nat) (w:World) (v:Value) (e:Ex):Prop:=Lay B w.heap.size w fun x=>IsEx x v e
def ExR (W:World) (rb:Nat) (a:Option Addr) (c:Nat) (l:List Tk) (x:Except Nat (List Ex × Nat)) (e:Ending) (W':World):Prop :=
 Bb W.heap.size rb W W'∧match x with
 | .error p=>e=stuckE p
 | .ok (es,j)=>∃ v y,es=[y]∧e=.returned v∧ExL W.heap.size W' v y∧Rd W' rb a c l j
def RuleC (fid:Nat) (rb:Nat) (a:Option Addr) (c:Nat) (l:List Tk) (f:Nat) (r:Rl):Prop :=
 ∀ (W:World) (i:Nat) (x:Except Nat (List Ex × Nat)),Rd W rb a c l i→pR l f r i=some x→Calls Tryz.prog fid #[.pointer (some ⟨rb,0,none⟩)] W fun e W'=>ExR W rb a c l x e W'
theorem ex_leaf {w:World} {k:Int} {s:Str} {n:Int} (h1:-9223372036854775808≤k∧k≤9223372036854775807) (h2:-9223372036854775808≤n∧n≤9223372036854775807) (h3:s.size≤lenMax) :
  IsEx w (.agg #[.int .i64 k,.string s,.int .i64 n,.slice none 0 0,.slice none 0 0]) (.mk k s n [] []) :=
 IsEx.shut (l:=[]) (ks:=[]) h1 h2 h3 (by decide) (by decide) (.inl rfl) (.inl rfl) ⟨fun _=>rfl,Nat.le_refl _⟩
def bx5 (w:World) (b:Nat) (v:Value):Prop:=∃ v0 v1 v2 v3 v4,v=.agg #[v0,v1,v2,v3,v4]∧Box5 w 27 b v0 v1 v2 v3 v4
section
variable {W:World} {rb:Nat} {a:Option Addr} {c:Nat} {l:List Tk} {i:Nat}
theorem Rd.fitAt (h:Rd W rb a c l i):TkFit (tkAt l i):=by
 unfold tkAt
 by_cases hi:i < l.length
 ·
  simp only [List.getD,List.getElem?_eq_getElem hi]
  exact h.fit _ (List.getElem_mem hi)
 ·
  simp only [List.getD,List.getElem?_eq_none (Nat.le_of_not_lt hi)]
  exact ⟨by decide,by decide⟩
set_option maxHeartbeats 4000000 in
set_option maxRecDepth 100000 in
theorem par_atom {f:Nat} (hE:RuleC 27 rb a c l f .expr):RuleC 223 rb a c l (f + 1) .atom:=by
 intro W i x h hx
 simp only [pR,stepR] at hx
 obtain ⟨W1,hW1⟩:∃ V,W.alloc (.cells #[.int .i64 0,.string ⟨#[]⟩,.int .i64 0,.slice none 0 0,.slice none 0 0] 27)=V:=⟨_,rfl⟩
 have hb1:Below W.heap.size W W1:=by rw [←hW1];exact (Below.refl _ _).alloc (Nat.le_refl _) _
 have hx1:Box5 W1 27 W.heap.size (.int .i64 0) (.string ⟨#[]⟩) (.int .i64 0) (.slice none 0 0) (.slice none 0 0):=by rw [←hW1];exact blk_new (Below.refl _ _)
 have hz1:Hid (W1.heap.size=W.heap.size + 1):=by rw [←hW1];simp [Hid]
 have hp1:=Lib.hid ((PS.refl h).below hb1)
 have hkd:=Lib.hid (par_kind hp1.out.rd)
 have hW1':=Lib.hid hW1
 have hx1':=Lib.hid hx1
 have h':=Lib.hid h
 have hft:=Lib.hid h.fitAt
 have hfl:=Tryz.fldText
 have hfn:=Tryz.fldNum
 clear hW1 hb1 hx1
 have hnx:Hid (i < l.length→∀ n,Calls Tryz.prog 126 #[.pointer (some ⟨rb,0,none⟩)] (W1.drewN n) fun e W'=>e=.returned (tkV (tkAt l i))∧Bb (W1.drewN n).heap.size rb (W1.drewN n) W'∧Rd W' rb a c l (i + 1)):=fun hi n=>par_next (hp1.out.rd.drewN n) hi
 have hd:Hid (∀ n,Below W1.heap.size W1 (W1.drewN n)):=fun n=>below_drewN' (Below.refl _ _) n
 unfold tkV at hnx
 have leaf:Hid (∀ (n:Nat) (W2:World) (k:Int) (s:Str) (m:Int),(-9223372036854775808≤k∧k≤9223372036854775807)→(-9223372036854775808≤m∧m≤9223372036854775807)→s.size≤lenMax→x=.ok ([.mk k s m [] []],i + 1)→Bb (W1.drewN n).heap.size rb (W1.drewN n) W2→Rd W2 rb a c l (i + 1) →
   ((W2.cell? ⟨W.heap.size,0,none⟩=some (.int .i64 0)∧W2.cell? ⟨W.heap.size,1,none⟩=some (.string ⟨#[]⟩)∧W2.cell? ⟨W.heap.size,2,none⟩=some (.int .i64 0)∧W2.cell? ⟨W.heap.size,3,none⟩=some (.slice none 0 0)∧W2.cell? ⟨W.heap.size,4,none⟩=some (.slice none 0 0))∧(∀ o,W2.frozen? ⟨W.heap.size,o,none⟩=false)) ∧
   Box5 (World.set5 W2 W.heap.size (.int .i64 k) (.string s) (.int .i64 m) (.slice none 0 0) (.slice none 0 0)) 27 W.heap.size (.int .i64 k) (.string s) (.int .i64 m) (.slice none 0 0) (.slice none 0 0) ∧
   ExR W rb a c l x (.returned (.agg #[.int .i64 k,.string s,.int .i64 m,.slice none 0 0,.slice none 0 0])) (World.set5 W2 W.heap.size (.int .i64 k) (.string s) (.int .i64 m) (.slice none 0 0) (.slice none 0 0))):=by
  intro n W2 k s m h1 h2 h3 hxx hB hR
  have hbx:=hx1'.out.below (hd.out n)
  have hrb:=h.lt
  have hbx2:Box5 W2 27 W.heap.size (.int .i64 0) (.string ⟨#[]⟩) (.int .i64 0) (.slice none 0 0) (.slice none 0 0):=hB.box (by omega) hbx
  have hst:=hbx2.set (.int .i64 k) (.string s) (.int .i64 m) (.slice none 0 0) (.slice none 0 0)
  have hps:=PS.own h ((hp1.out.below (hd.out n)).call hB hR) hst.2 (Nat.le_refl _)
  refine ⟨hbx2.cells,hst.1,hps.bb,?_⟩
  rw [hxx]
  exact ⟨_,_,rfl,rfl,Lay.all (Nat.le_refl _) fun _=>ex_leaf h1 h2 h3,hps.rd⟩
 by_cases k1:kindAt l i=1
 ·
  rw [if_pos k1] at hx
  have hxx:Hid (x=.ok ([.mk 1 ex0 (tkAt l i).num [] []],i + 1)):=(Option.some.inj hx).symm
  have hnx2:=Lib.hid (hnx.out (kindAt_lt k1 (by decide)))
  rw [k1] at hkd
  clear h k1 hx hnx
  go_enter Tryz.func223,Tryz.ntmps223
  go_upto_region 1 with (fail)
  rw [hW1'.out]
  go_wp2_with fail
  refine hkd.out.mono ?_
  rintro e V ⟨rfl,n,rfl⟩
  go_wp2_with fail
  refine (hnx2.out n).mono ?_
  rintro e W2 ⟨rfl,hB,hR⟩
  have lf:=Lib.hid (leaf.out n W2 1 ⟨#[]⟩ (tkAt l i).num (by decide) hft.out.2 (by decide) hxx.out hB hR)
  obtain ⟨⟨d0,d1,d2,d3,d4⟩,df⟩:=lf.out.1
  clear hB hR
  go_wp2_with fail
  refine set5_fold ?_
  refine bodyPost_ret (results_ex rfl _ _ rfl lf.out.2.1.cells.1) rfl lf.out.2.2
 ·
  rw [if_neg k1] at hx
  have g1:(kindAt l i == 1)=false:=by simpa using k1
  by_cases k2:kindAt l i=2
  ·
   rw [if_pos k2] at hx
   have hxx:Hid (x=.ok ([.mk 2 (tS (tkAt l i).text) 0 [] []],i + 1)):=(Option.some.inj hx).symm
   have hnx2:=Lib.hid (hnx.out (kindAt_lt k2 (by decide)))
   rw [k2] at hkd
   clear h k1 k2 hx hnx g1
   go_enter Tryz.func223,Tryz.ntmps223
   go_upto_region 1 with (fail)
   rw [hW1'.out]
   go_wp2_with fail
   refine hkd.out.mono ?_
   rintro e V ⟨rfl,n,rfl⟩
   go_wp2_with fail
   refine (hnx2.out n).mono ?_
   rintro e W2 ⟨rfl,hB,hR⟩
   have lf:=Lib.hid (leaf.out n W2 2 (tS (tkAt l i).text) 0 (by decide) (by decide) hft.out.1 hxx.out hB hR)
   obtain ⟨⟨d0,d1,d2,d3,d4⟩,df⟩:=lf.out.1
   clear hB hR
   go_wp2_with fail
   refine set5_fold ?_
   refine bodyPost_ret (results_ex rfl _ _ rfl lf.out.2.1.cells.1) rfl lf.out.2.2
  ·
   rw [if_neg k2] at hx
   have g2:(kindAt l i == 2)=false:=by simpa using k2
   by_cases k3:kindAt l i=3
   ·
    rw [if_pos k3] at hx
    have hxx:Hid (x=.ok ([.mk 3 (tS (tkAt l i).text) 0 [] []],i + 1)):=(Option.some.inj hx).symm
    have hnx2:=Lib.hid (hnx.out (kindAt_lt k3 (by decide)))
    rw [k3] at hkd
    clear h k1 k2 k3 hx hnx g1 g2
    go_enter Tryz.func223,Tryz.ntmps223
    go_upto_region 1 with (fail)
    rw [hW1'.out]
    go_wp2_with fail
    refine hkd.out.mono ?_
    rintro e V ⟨rfl,n,rfl⟩
    go_wp2_with fail
    refine (hnx2.out n).mono ?_
    rintro e W2 ⟨rfl,hB,hR⟩
    have lf:=Lib.hid (leaf.out n W2 3 (tS (tkAt l i).text) 0 (by decide) (by decide) hft.out.1 hxx.out hB hR)
    obtain ⟨⟨d0,d1,d2,d3,d4⟩,df⟩:=lf.out.1
    clear hB hR
    go_wp2_with fail
    refine set5_fold ?_
    refine bodyPost_ret (results_ex rfl _ _ rfl lf.out.2.1.cells.1) rfl lf.out.2.2
   ·
    rw [if_neg k3] at hx
    have g3:(kindAt l i == 3)=false:=by simpa using k3
    have hsg:Hid (∀ n,Calls Tryz.prog 64 #[.pointer (some ⟨rb,0,none⟩),.string ⟨#[40]⟩] (W1.drewN n) fun e W'=>Bb (W1.drewN n).heap.size rb (W1.drewN n) W'∧if isAt l i pOpen=true then e=.returned (.tuple #[])∧Rd W' rb a c l (i + 1) else e=stuckE i):=fun n=>par_sign (hp1.out.rd.drewN n) pOpen
    have hrb:=h.lt
    unfold sgn6 at hx
    by_cases ko:isAt l i pOpen=true
    ·
     rw [if_pos ko] at hx
     dsimp only at hx
     simp only [if_pos ko] at hsg
     obtain ⟨x2,hx2⟩:∃ x2,pR l f .expr (i + 1)=some x2:=by
      cases hq:pR l f .expr (i + 1) with
      | none=>rw [hq] at hx;cases hx
      | some x2=>exact ⟨x2,rfl⟩
     rw [hx2] at hx
     have hx':=Lib.hid hx
     have hx2':=Lib.hid hx2
     generalize kindAt l i=q at *
     clear h k1 k2 k3 hx hx2 hnx leaf ko
     go_enter Tryz.func223,Tryz.ntmps223
     go_upto_region 1 with (fail)
     rw [hW1'.out]
     go_wp2_with fail
     refine hkd.out.mono ?_
     rintro e V ⟨rfl,n,rfl⟩
     go_wp2_with fail
     refine (hsg.out n).mono ?_
     rintro e V2 ⟨hB,rfl,hR⟩
     have hp2:=Lib.hid ((hp1.out.below (hd.out n)).call hB hR)
     have bx2:=Lib.hid (hB.box (g:=W.heap.size) (by omega) (hx1'.out.below (hd.out n)))
     have hex:=Lib.hid (hE V2 (i + 1) x2 hR hx2'.out)
     have hz2:=Lib.hid (Nat.le_trans (hd.out n).size hB.size)
     clear hB hR
     go_wp2_with fail
     refine hex.out.mono ?_
     rintro e V3 ⟨hB3,hm⟩
     cases x2 with
     | error p =>
      obtain rfl:=hm
      have hp3:=hp2.out.bb.next hB3
      have hxx:x=.error p:=(Option.some.inj hx'.out).symm
      subst hxx
      exact ⟨rfl,hp3,rfl⟩
     | ok q =>
      obtain ⟨es,j⟩:=q
      obtain ⟨v,y,rfl,rfl,hL,hR3⟩:=hm
      have hp3:=Lib.hid (hp2.out.call hB3 hR3)
      have bx3:=Lib.hid (hB3.box (g:=W.heap.size) (by omega) bx2.out)
      have hL':=Lib.hid hL
      have hz3:=Lib.hid hB3.size
      obtain ⟨yk,ys,yn,yl,yy⟩:=y
      obtain ⟨a1,c1,a2,c2,rfl,_⟩:=hL.out.open
      have hp3b:=hp3.out
      have hj:=hR3.le
      clear hL hB3 hR3 hp3b
      obtain ⟨V4,hV4⟩:∃ V,V3.alloc (.cells #[.int .i64 yk,.string ys,.int .i64 yn,.slice a1 yl.length c1,.slice a2 yy.length c2] 27)=V:=⟨_,rfl⟩
      have hb4:Below V3.heap.size V3 V4:=by rw [←hV4];exact (Below.refl _ _).alloc (Nat.le_refl _) _
      have hx4:=Lib.hid (show Box5 V4 27 V3.heap.size (.int .i64 yk) (.string ys) (.int .i64 yn) (.slice a1 yl.length c1) (.slice a2 yy.length c2) by rw [←hV4];exact blk_new (Below.refl _ _))
      have hp4:=Lib.hid (hp3.out.below hb4)
      have bx4:=Lib.hid ((show Box5 V3 27 W.heap.size _ _ _ _ _ from bx3.out).below hb4)
      have hL4:=Lib.hid (hL'.out.below hb4)
      have hsg4:Hid (Calls Tryz.prog 64 #[.pointer (some ⟨rb,0,none⟩),.string ⟨#[41]⟩] V4 fun e W'=>Bb V4.heap.size rb V4 W'∧if isAt l j pShut=true then e=.returned (.tuple #[])∧Rd W' rb a c l (j + 1) else e=stuckE j):=par_sign hp4.out.rd pShut
      have hV4':=Lib.hid hV4
      have hxs:Hid ((if isAt l j pShut=true then ok6 [Ex.mk yk ys yn yl yy] (j + 1) else err6 j)=some x):=hx'.out
      have hz4:=Lib.hid hb4.size
      clear hb4 hV4
      go_upto_region 10 with (fail)
      rw [hV4'.out]
      go_wp2_with fail
      refine hsg4.out.mono ?_
      rintro e V5 ⟨hB5,hm5⟩
      by_cases ks:isAt l j pShut=true
      ·
       rw [if_pos ks] at hm5
       obtain ⟨rfl,hR5⟩:=hm5
       have hxx:Hid (x=.ok ([Ex.mk yk ys yn yl yy],j + 1)):=by have:=hxs.out;rw [if_pos ks] at this;exact (Option.some.inj this).symm
       have hp5:=Lib.hid (hp4.out.call hB5 hR5)
       have w2:=hp2.out.size
       have w3:=hz3.out
       have w4:=hz4.out
       have bx5:Box5 V5 27 W.heap.size (.int .i64 0) (.string ⟨#[]⟩) (.int .i64 0) (.slice none 0 0) (.slice none 0 0):=hB5.box (by omega) bx4.out
       have hx5:Box5 V5 27 V3.heap.size (.int .i64 yk) (.string ys) (.int .i64 yn) (.slice a1 yl.length c1) (.slice a2 yy.length c2):=hB5.box (by omega) hx4.out
       have hL5:=hL4.out.bb hB5 (.inl (by omega))
       obtain ⟨⟨d0,d1,d2,d3,d4⟩,df⟩:=bx5.cells
       obtain ⟨⟨m0,m1,m2,m3,m4⟩,_⟩:=hx5.cells
       have hst:=bx5.set (.int .i64 yk) (.string ys) (.int .i64 yn) (.slice a1 yl.length c1) (.slice a2 yy.length c2)
       have hps:=PS.own h'.out hp5.out hst.2 (Nat.le_refl _)
       have z1:=hz1.out
       have z2:=hz2.out
       have hfin:=Lib.hid (show ExR W rb a c l x (.returned (.agg #[.int .i64 yk,.string ys,.int .i64 yn,.slice a1 yl.length c1,.slice a2 yy.length c2])) (World.set5 V5 W.heap.size (.int .i64 yk) (.string ys) (.int .i64 yn) (.slice a1 yl.length c1) (.slice a2 yy.length c2)) from ⟨hps.bb,by
        rw [hxx.out]
        exact ⟨_,_,rfl,rfl,(hL5.own hst.2 (.inl (by omega))).wide (by omega) (by rw [hst.2.size];have:=hB5.size;omega) (Nat.le_refl _),hps.rd⟩⟩)
       have hst':=Lib.hid hst
       clear hst hps hL5 hB5 hR5 bx5 hx5 ks w2 w3 w4 z1 z2
       go_wp2_with fail
       refine set5_fold ?_
       refine bodyPost_ret (results_ex rfl _ _ rfl hst'.out.1.cells.1) rfl hfin.out
      ·
       rw [if_neg ks] at hm5
       obtain rfl:=hm5
       have hxx:x=.error j:=by have:=hxs.out;rw [if_neg ks] at this;exact (Option.some.inj this).symm
       subst hxx
       exact ⟨rfl,hp4.out.bb.next hB5,rfl⟩
    ·
     rw [if_neg ko] at hx
     simp only [if_neg ko] at hsg
     have hxx:x=.error i:=(Option.some.inj hx).symm
     subst hxx
     generalize kindAt l i=q at *
     clear h k1 k2 k3 hx hnx leaf ko
     go_enter Tryz.func223,Tryz.ntmps223
     go_upto_region 1 with (fail)
     rw [hW1'.out]
     go_wp2_with fail
     refine hkd.out.mono ?_
     rintro e V ⟨rfl,n,rfl⟩
     go_wp2_with fail
     refine (hsg.out n).mono ?_
     rintro e V2 ⟨hB,rfl⟩
     exact ⟨rfl,(hp1.out.below (hd.out n)).bb.next hB,rfl⟩
end
end Go.Proofs.YtinjocchommbdaaGreatDoor
namespace Go.Proofs.YtinjocchommbdaaGreatDoor
open Go.RowKit
def LayH (hs:List Nat) (B E:Nat) (w:World) (F:World→Prop):Prop:=E≤w.heap.size∧∀ w':World,(∀ k,B≤k→k < E→k ∉ hs→w'.heap[k]?=w.heap[k]?)→F w'
section
variable {hs hs':List Nat} {B E B' E':Nat} {w w':World} {F G:World→Prop}
theorem LayH.of (h:LayH hs B E w F) (hz:w.heap.size≤w'.heap.size) (hk:∀ k,B≤k→k < E→k ∉ hs→w'.heap[k]?=w.heap[k]?):LayH hs B E w' F :=
 ⟨Nat.le_trans h.1 hz,fun v hv=>h.2 v fun k h1 h2 h3=>(hv k h1 h2 h3).trans (hk k h1 h2 h3)⟩
theorem LayH.wide (h:LayH hs B E w F) (hB:B'≤B) (hE:E≤E') (hz:E'≤w.heap.size) (hh:∀ k ∈ hs',B≤k→k < E→k ∈ hs):LayH hs' B' E' w F :=
 ⟨hz,fun v hv=>h.2 v fun k h1 h2 h3=>hv k (Nat.le_trans hB h1) (Nat.lt_of_lt_of_le h2 hE) fun hk=>h3 (hh k hk h1 h2)⟩
theorem LayH.of_lay (h:Lay B E w F) (hB:B'≤B) (hE:E≤E') (hz:E'≤w.heap.size) (hh:∀ k ∈ hs,k < B∨E≤k):LayH hs B' E' w F :=
 ⟨hz,fun v hv=>h.2 v fun k h1 h2=>hv k (Nat.le_trans hB h1) (Nat.lt_of_lt_of_le h2 hE) fun hk=>by rcases hh k hk with q | q <;> omega⟩
theorem LayH.lay (h:LayH hs B E w F):Lay B E w F:=⟨h.1,fun v hv=>h.2 v fun k h1 h2 _=>hv k h1 h2⟩
theorem LayH.imp (h:LayH hs B E w F) (hi:∀ v,F v→G v):LayH hs B E w G:=⟨h.1,fun v hv=>hi v (h.2 v hv)⟩
theorem LayH.bb {m:Nat} (h:LayH hs B E w F) (hb:Bb w.heap.size m w w') (hm:m < B∨E≤m∨m ∈ hs):LayH hs B E w' F :=
 h.of hb.size fun k h1 h2 h3=>hb.block k (Nat.lt_of_lt_of_le h2 h.1) (by
  rintro rfl
  rcases hm with q | q | q
  ·
   omega
  ·
   omega
  ·
   exact h3 q)
theorem LayH.below (h:LayH hs B E w F) (hb:Below w.heap.size w w'):LayH hs B E w' F:=h.of hb.size fun k _ h2 _=>hb.block k (Nat.lt_of_lt_of_le h2 h.1)
theorem LayH.own {b:Nat} (h:LayH hs B E w F) (k:OneSet b w w') (hb:b < B∨E≤b∨b ∈ hs):LayH hs B E w' F:=h.of (by rw [k.size];exact Nat.le_refl _) fun q h1 h2 h3=>k.other q (by
 rintro rfl
 rcases hb with r | r | r
 ·
  omega
 ·
  omega
 ·
  exact h3 r)
end
theorem exRow_layH {hs:List Nat} {B E:Nat} {w:World} {b:Nat} {es:List Ex} (hz:E≤w.heap.size) (hb:B≤b) (hb2:b < E) (hb3:b ∉ hs)
  (h:∀ i (hi:i < es.length),∃ v0 v1 v2 v3 v4,(w.cell? ⟨b,i * 5,none⟩=some v0∧w.cell? ⟨b,i * 5 + 1,none⟩=some v1∧w.cell? ⟨b,i * 5 + 2,none⟩=some v2∧w.cell? ⟨b,i * 5 + 3,none⟩=some v3∧w.cell? ⟨b,i * 5 + 4,none⟩=some v4)∧LayH hs B E w fun x=>IsEx x (.agg #[v0,v1,v2,v3,v4]) es[i]) :
  LayH hs B E w fun x=>ExRow x (some ⟨b,0,none⟩) es:=by
 refine ⟨hz,fun x hx=>.inr ⟨b,0,rfl,fun i hi=>?_⟩⟩
 obtain ⟨v0,v1,v2,v3,v4,⟨h0,h1,h2,h3,h4⟩,hl⟩:=h i hi
 have hbk:=hx b hb hb2 hb3
 rw [Nat.zero_add]
 exact ⟨v0,v1,v2,v3,v4,(World.cell?_of_block hbk).trans h0,(World.cell?_of_block hbk).trans h1,(World.cell?_of_block hbk).trans h2,(World.cell?_of_block hbk).trans h3,(World.cell?_of_block hbk).trans h4,hl.2 x hx⟩
theorem new_cell (w:World) (A:Array Value) (t:TypeId) (o:Nat):(w.alloc (.cells A t)).cell? ⟨w.heap.size,o,none⟩=A[o]?:=World.cell?_alloc_at _ _ _ _ rfl
theorem exRow_new2 {hs:List Nat} {B:Nat} {w:World} {v0 v1 v2 v3 v4 u0 u1 u2 u3 u4:Value} {t:TypeId} {e g:Ex} (hB:B≤w.heap.size) (hh:w.heap.size ∉ hs) (h:LayH hs B w.heap.size w fun x=>IsEx x (.agg #[v0,v1,v2,v3,v4]) e) (k:LayH hs B w.heap.size w fun x=>IsEx x (.agg #[u0,u1,u2,u3,u4]) g) :
  LayH hs B (w.heap.size + 1) (w.alloc (.cells #[v0,v1,v2,v3,v4,u0,u1,u2,u3,u4] t)) fun x=>ExRow x (some ⟨w.heap.size,0,none⟩) [e,g]:=by
 have hb:Below w.heap.size w (w.alloc (.cells #[v0,v1,v2,v3,v4,u0,u1,u2,u3,u4] t)):=(Below.refl _ _).alloc (Nat.le_refl _) _
 have hz:(w.alloc (.cells #[v0,v1,v2,v3,v4,u0,u1,u2,u3,u4] t)).heap.size=w.heap.size + 1:=by simp
 refine exRow_layH (by omega) hB (by omega) hh fun i hi=>?_
 have hi2:i=0∨i=1:=by simp at hi;omega
 rcases hi2 with rfl | rfl
 ·
  exact ⟨v0,v1,v2,v3,v4,⟨(new_cell _ _ _ _).trans rfl,(new_cell _ _ _ _).trans rfl,(new_cell _ _ _ _).trans rfl,(new_cell _ _ _ _).trans rfl,(new_cell _ _ _ _).trans rfl⟩,(h.below hb).wide (Nat.le_refl _) (by omega) (by omega) fun k hk _ _=>hk⟩
 ·
  exact ⟨u0,u1,u2,u3,u4,⟨(new_cell _ _ _ _).trans rfl,(new_cell _ _ _ _).trans rfl,(new_cell _ _ _ _).trans rfl,(new_cell _ _ _ _).trans rfl,(new_cell _ _ _ _).trans rfl⟩,(k.below hb).wide (Nat.le_refl _) (by omega) (by omega) fun k hk _ _=>hk⟩
theorem LayH.tree {hs:List Nat} {B E:Nat} {w:World} {k n:Int} {s:Str} {l:List Str} {ks:List Ex} {a1 a2:Option Addr} {c1 c2:Nat} (h1:-9223372036854775808≤k∧k≤9223372036854775807) (h2:-9223372036854775808≤n∧n≤9223372036854775807) (h3:s.size≤lenMax) (h4:l.length≤lenMax) (h5:ks.length≤lenMax)
  (h6:LayH hs B E w fun x=>StrRow x a1 l) (h7:LayH hs B E w fun x=>ExRow x a2 ks) (h8:(a1=none→c1=0)∧ks.length≤c2) :
  LayH hs B E w fun x=>IsEx x (.agg #[.int .i64 k,.string s,.int .i64 n,.slice a1 l.length c1,.slice a2 ks.length c2]) (.mk k s n l ks) :=
 ⟨h6.1,fun x hx=>IsEx.shut h1 h2 h3 h4 h5 (h6.2 x hx) (h7.2 x hx) h8⟩
theorem LayH.nil {hs:List Nat} {B E:Nat} {w:World} {a:Option Addr} (hz:E≤w.heap.size):LayH hs B E w fun x=>StrRow x a []:=⟨hz,fun _ _=>.inl rfl⟩
theorem strRow_newH {hs:List Nat} {B:Nat} {w:World} {s:Str} {t:TypeId} (hB:B≤w.heap.size) (hh:w.heap.size ∉ hs) (hs2:s.size≤lenMax):LayH hs B (w.heap.size + 1) (w.alloc (.cells #[.string s] t)) fun x=>StrRow x (some ⟨w.heap.size,0,none⟩) [s]:=by
 have hz:(w.alloc (.cells #[.string s] t)).heap.size=w.heap.size + 1:=by simp
 refine ⟨by omega,fun x hx=>.inr ⟨w.heap.size,0,rfl,fun i hi=>?_⟩⟩
 obtain rfl:i=0:=by simp at hi;omega
 have hbk:=hx w.heap.size hB (by omega) hh
 exact ⟨(World.cell?_of_block hbk).trans ((new_cell _ _ _ _).trans rfl),hs2⟩
theorem IsEx.agg {w:World} {v:Value} {e:Ex} (h:IsEx w v e):∃ k s n a1 m1 c1 a2 m2 c2,v=.agg #[.int .i64 k,.string s,.int .i64 n,.slice a1 m1 c1,.slice a2 m2 c2]:=by
 cases e
 obtain ⟨a1,c1,a2,c2,rfl,_⟩:=h.open
 exact ⟨_,_,_,_,_,_,_,_,_,rfl⟩
end Go.Proofs.YtinjocchommbdaaGreatDoor
namespace Go.Proofs.YtinjocchommbdaaGreatDoor
open Go.RowKit
structure TrS (W:World) (rb:Nat) (a:Option Addr) (c:Nat) (l:List Tk) (j:Nat) (A B:Nat) (X:World) (e:Ex) (k:Int) (s:Str) (n:Int) (a1:Option Addr) (m1 c1:Nat) (a2:Option Addr) (m2 c2:Nat):Prop where
 ps:PS W rb a c l j X
 bA:Box5 X 27 A (.int .i64 0) (.string ⟨#[]⟩) (.int .i64 0) (.slice none 0 0) (.slice none 0 0)
 bB:Box5 X 27 B (.int .i64 k) (.string s) (.int .i64 n) (.slice a1 m1 c1) (.slice a2 m2 c2)
 la:W.heap.size≤A
 ab:A < B
 ly:LayH [A,B] W.heap.size X.heap.size X fun x=>IsEx x (.agg #[.int .i64 k,.string s,.int .i64 n,.slice a1 m1 c1,.slice a2 m2 c2]) e
section
variable {W X Y:World} {rb:Nat} {a:Option Addr} {c:Nat} {l:List Tk} {i j j' A B:Nat} {e:Ex} {k:Int} {s:Str} {n:Int} {a1:Option Addr} {m1 c1:Nat} {a2:Option Addr} {m2 c2:Nat}
theorem TrS.bx (h:TrS W rb a c l j A B X e k s n a1 m1 c1 a2 m2 c2):B < X.heap.size:=blk_lt h.bB
theorem TrS.below (h:TrS W rb a c l j A B X e k s n a1 m1 c1 a2 m2 c2) (hb:Below X.heap.size X Y):TrS W rb a c l j A B Y e k s n a1 m1 c1 a2 m2 c2 :=
 ⟨h.ps.below hb,h.bA.below hb,h.bB.below hb,h.la,h.ab,(h.ly.below hb).wide (Nat.le_refl _) hb.size (Nat.le_refl _) fun _ hk _ _=>hk⟩
theorem TrS.call (h0:Rd W rb a c l i) (h:TrS W rb a c l j A B X e k s n a1 m1 c1 a2 m2 c2) (hb:Bb X.heap.size rb X Y) (hr:Rd Y rb a c l j'):TrS W rb a c l j' A B Y e k s n a1 m1 c1 a2 m2 c2:=by
 have:=h0.lt
 have:=h.la
 have:=h.ab
 exact ⟨h.ps.call hb hr,hb.box (by omega) h.bA,hb.box (by omega) h.bB,h.la,h.ab,(h.ly.bb hb (.inl (by omega))).wide (Nat.le_refl _) hb.size (Nat.le_refl _) fun _ hk _ _=>hk⟩
theorem TrS.put {e':Ex} {k' n':Int} {s':Str} {a1' a2':Option Addr} {m1' c1' m2' c2':Nat} (h0:Rd W rb a c l i) (h:TrS W rb a c l j A B X e k s n a1 m1 c1 a2 m2 c2)
  (hl:LayH [A,B] W.heap.size X.heap.size X fun x=>IsEx x (.agg #[.int .i64 k',.string s',.int .i64 n',.slice a1' m1' c1',.slice a2' m2' c2']) e') :
  TrS W rb a c l j A B (World.set5 X B (.int .i64 k') (.string s') (.int .i64 n') (.slice a1' m1' c1') (.slice a2' m2' c2')) e' k' s' n' a1' m1' c1' a2' m2' c2':=by
 have h1:=h.la
 have h2:=h.ab
 have hs:=h.bB.set (.int .i64 k') (.string s') (.int .i64 n') (.slice a1' m1' c1') (.slice a2' m2' c2')
 exact ⟨h.ps.own h0 hs.2 (by omega),(hs.2.other A (by omega)).trans h.bA,hs.1,h1,h2,by rw [hs.2.size];exact hl.own hs.2 (.inr (.inr (by simp)))⟩
theorem TrS.fin (h0:Rd W rb a c l i) (h:TrS W rb a c l j A B X e k s n a1 m1 c1 a2 m2 c2) :
  Box5 (World.set5 X A (.int .i64 k) (.string s) (.int .i64 n) (.slice a1 m1 c1) (.slice a2 m2 c2)) 27 A (.int .i64 k) (.string s) (.int .i64 n) (.slice a1 m1 c1) (.slice a2 m2 c2) ∧
  ExR W rb a c l (.ok ([e],j)) (.returned (.agg #[.int .i64 k,.string s,.int .i64 n,.slice a1 m1 c1,.slice a2 m2 c2])) (World.set5 X A (.int .i64 k) (.string s) (.int .i64 n) (.slice a1 m1 c1) (.slice a2 m2 c2)):=by
 have h1:=h.la
 have h2:=h.ab
 have hs:=h.bA.set (.int .i64 k) (.string s) (.int .i64 n) (.slice a1 m1 c1) (.slice a2 m2 c2)
 have hp:=PS.own h0 h.ps hs.2 h1
 refine ⟨hs.1,hp.bb,_,_,rfl,rfl,?_,hp.rd⟩
 have:=(h.ly.own hs.2 (.inr (.inr (by simp)))).lay
 unfold ExL
 rw [hs.2.size]
 exact this
end
theorem TrS.pair {W X Y:World} {rb:Nat} {a:Option Addr} {c:Nat} {l:List Tk} {j j' A B:Nat} {e y:Ex} {k:Int} {s:Str} {n:Int} {a1:Option Addr} {m1 c1:Nat} {a2:Option Addr} {m2 c2:Nat} {k':Int} {s':Str} {n':Int} {a1':Option Addr} {m1' c1':Nat} {a2':Option Addr} {m2' c2':Nat}
  (h:TrS W rb a c l j A B X e k s n a1 m1 c1 a2 m2 c2) (t:TypeId) (hw:W.heap.size≤Y.heap.size) (hA:A < X.heap.size) (hxy:X.heap.size≤Y.heap.size) (h2:TrS W rb a c l j' A B Y e k s n a1 m1 c1 a2 m2 c2) (hl:Lay X.heap.size Y.heap.size Y fun x=>IsEx x (.agg #[.int .i64 k',.string s',.int .i64 n',.slice a1' m1' c1',.slice a2' m2' c2']) y)
  (kd:Int) (nm:Str) (h1:-9223372036854775808≤kd∧kd≤9223372036854775807) (hn:nm.size≤lenMax) :
  LayH [A,B] W.heap.size (Y.alloc (.cells #[.int .i64 k,.string s,.int .i64 n,.slice a1 m1 c1,.slice a2 m2 c2,.int .i64 k',.string s',.int .i64 n',.slice a1' m1' c1',.slice a2' m2' c2'] t)).heap.size (Y.alloc (.cells #[.int .i64 k,.string s,.int .i64 n,.slice a1 m1 c1,.slice a2 m2 c2,.int .i64 k',.string s',.int .i64 n',.slice a1' m1' c1',.slice a2' m2' c2'] t)) fun x =>
   IsEx x (.agg #[.int .i64 kd,.string nm,.int .i64 0,.slice none 0 0,.slice (some ⟨Y.heap.size,0,none⟩) 2 2]) (.mk kd nm 0 [] [e,y]):=by
 have hz:(Y.alloc (.cells #[.int .i64 k,.string s,.int .i64 n,.slice a1 m1 c1,.slice a2 m2 c2,.int .i64 k',.string s',.int .i64 n',.slice a1' m1' c1',.slice a2' m2' c2'] t)).heap.size=Y.heap.size + 1:=by simp
 have hbx:=h.bx
 have hab:=h.ab
 rw [hz]
 have hrow:=exRow_new2 (t:=t) (hs:=[A,B]) hw (by simp;omega) h2.ly (LayH.of_lay hl (B':=W.heap.size) (E':=Y.heap.size) (by have:=h.ps.size;omega) (Nat.le_refl _) (Nat.le_refl _) (fun q hq=>by simp at hq;rcases hq with rfl | rfl <;> omega))
 exact LayH.tree (l:=[]) (ks:=[e,y]) h1 (by decide) hn (by decide) (by simp [lenMax]) (LayH.nil (by omega)) hrow ⟨by simp,Nat.le_refl _⟩
theorem set5_alloc {w:World} {b:Nat} {x0 x1 x2 x3 x4:Value} (o:Obj) (h:b < w.heap.size):(World.set5 w b x0 x1 x2 x3 x4).alloc o=World.set5 (w.alloc o) b x0 x1 x2 x3 x4:=by
 unfold World.set5
 rw [World.setCell_alloc_past o b 0 x0 h,World.setCell_alloc_past o b 1 x1 (by rw [size_set];exact h),World.setCell_alloc_past o b 2 x2 (by rw [size_set,size_set];exact h),World.setCell_alloc_past o b 3 x3 (by rw [size_set,size_set,size_set];exact h),World.setCell_alloc_past o b 4 x4 (by rw [size_set,size_set,size_set,size_set];exact h)]
theorem TrS.grow {W X Y:World} {rb:Nat} {a:Option Addr} {c:Nat} {l:List Tk} {i j j' A B:Nat} {e y:Ex} {k:Int} {s:Str} {n:Int} {a1:Option Addr} {m1 c1:Nat} {a2:Option Addr} {m2 c2:Nat} {k':Int} {s':Str} {n':Int} {a1':Option Addr} {m1' c1':Nat} {a2':Option Addr} {m2' c2':Nat}
  (h0:Rd W rb a c l i) (h:TrS W rb a c l j A B X e k s n a1 m1 c1 a2 m2 c2) (hxy:X.heap.size≤Y.heap.size) (h2:TrS W rb a c l j' A B Y e k s n a1 m1 c1 a2 m2 c2) (hl:Lay X.heap.size Y.heap.size Y fun x=>IsEx x (.agg #[.int .i64 k',.string s',.int .i64 n',.slice a1' m1' c1',.slice a2' m2' c2']) y)
  (t:TypeId) (kd:Int) (nm:Str) (h1:-9223372036854775808≤kd∧kd≤9223372036854775807) (hn:nm.size≤lenMax) :
  TrS W rb a c l j' A B ((World.set5 Y B (.int .i64 kd) (.string nm) (.int .i64 0) (.slice none 0 0) (.slice (some ⟨Y.heap.size,0,none⟩) 2 2)).alloc (.cells #[.int .i64 k,.string s,.int .i64 n,.slice a1 m1 c1,.slice a2 m2 c2,.int .i64 k',.string s',.int .i64 n',.slice a1' m1' c1',.slice a2' m2' c2'] t)) (.mk kd nm 0 [] [e,y]) kd nm 0 none 0 0 (some ⟨Y.heap.size,0,none⟩) 2 2:=by
 rw [set5_alloc _ h2.bx]
 have hA:A < X.heap.size:=Nat.lt_trans h.ab h.bx
 exact TrS.put h0 (h2.below ((Below.refl _ _).alloc (Nat.le_refl _) _)) (h.pair t h2.ps.size hA hxy h2 hl kd nm h1 hn)
section
variable {rb:Nat} {a:Option Addr} {c:Nat} {l:List Tk}
theorem pR_some {l:List Tk} {f:Nat} {r:Rl} {i:Nat} {k:List Ex→Nat→Ans6 (List Ex)} {x:Except Nat (List Ex × Nat)} (h:(pR l f r i).bnd k=some x):∃ x2,pR l f r i=some x2:=by
 cases hq:pR l f r i with
 | none=>rw [hq] at h;cases h
 | some x2=>exact ⟨x2,rfl⟩
theorem RuleC.mono {fid f g:Nat} {r:Rl} (h:RuleC fid rb a c l f r) (hg:g≤f):RuleC fid rb a c l g r:=fun W i x hR hx=>h W i x hR (pR_mono hg _ _ _ hx)
theorem RuleC.later {fid f:Nat} {r:Rl} (h:RuleC fid rb a c l f r) {X:World} {i:Nat} {x:Except Nat (List Ex × Nat)} (hR:Rd X rb a c l i) (hx:pR l f r i=some x) :
  ∀ V,Below X.heap.size X V→Calls Tryz.prog fid #[.pointer (some ⟨rb,0,none⟩)] V fun e W'=>ExR X rb a c l x e W':=by
 intro V hV
 refine (h V i x (hR.below hV) hx).mono ?_
 rintro e W' ⟨hB,hm⟩
 refine ⟨(Bb.of hV).next hB,?_⟩
 cases x with
 | error p=>exact hm
 | ok q =>
  obtain ⟨v,y,h1,h2,h3,h4⟩:=hm
  exact ⟨v,y,h1,h2,h3.wide hV.size (Nat.le_refl _) (Nat.le_refl _),h4⟩
set_option maxHeartbeats 8000000 in
set_option maxRecDepth 100000 in
theorem par_app {f:Nat} (hA:RuleC 223 rb a c l f .atom):RuleC 203 rb a c l (f + 1) (.lev 0):=by
 intro W i x h hx
 simp only [pR,stepR] at hx
 obtain ⟨W1,hW1⟩:∃ V,W.alloc (.cells #[.int .i64 0,.string ⟨#[]⟩,.int .i64 0,.slice none 0 0,.slice none 0 0] 27)=V:=⟨_,rfl⟩
 have hb1:Below W.heap.size W W1:=by rw [←hW1];exact (Below.refl _ _).alloc (Nat.le_refl _) _
 have hx1:Box5 W1 27 W.heap.size (.int .i64 0) (.string ⟨#[]⟩) (.int .i64 0) (.slice none 0 0) (.slice none 0 0):=by rw [←hW1];exact blk_new (Below.refl _ _)
 have hz1:Hid (W1.heap.size=W.heap.size + 1):=by rw [←hW1];simp [Hid]
 have hp1:=Lib.hid ((PS.refl h).below hb1)
 have hW1':=Lib.hid hW1
 have hx1':=Lib.hid hx1
 have h':=Lib.hid h
 have hrb:=h.lt
 obtain ⟨x0,hx0⟩:=pR_some hx
 rw [hx0] at hx
 have hat:=Lib.hid (hA W1 i x0 hp1.out.rd hx0)
 have hx':=Lib.hid hx
 have hA':=Lib.hid hA
 clear hW1 hb1 hx1 h hx hx0 hA
 go_enter Tryz.func203,Tryz.ntmps203
 go_upto_region 1 with (fail)
 rw [hW1'.out]
 go_wp2_with fail
 refine hat.out.mono ?_
 rintro e V0 ⟨hB0,hm0⟩
 cases x0 with
 | error p =>
  obtain rfl:=hm0
  have hxx:x=.error p:=(Option.some.inj hx'.out).symm
  subst hxx
  exact ⟨rfl,hp1.out.bb.next hB0,rfl⟩
 | ok q =>
 obtain ⟨es,j0⟩:=q
 obtain ⟨v,y,rfl,rfl,hL0,hR0⟩:=hm0
 obtain ⟨k0,s0,n0,a10,m10,c10,a20,m20,c20,rfl⟩:=hL0.out.agg
 obtain ⟨W2,hW2⟩:∃ V,V0.alloc (.cells #[.int .i64 k0,.string s0,.int .i64 n0,.slice a10 m10 c10,.slice a20 m20 c20] 27)=V:=⟨_,rfl⟩
 have hS2:Hid (TrS W rb a c l j0 W.heap.size V0.heap.size W2 y k0 s0 n0 a10 m10 c10 a20 m20 c20):=by
  have hb2:Below V0.heap.size V0 W2:=by rw [←hW2];exact (Below.refl _ _).alloc (Nat.le_refl _) _
  have hz:=hz1.out
  have hs:=hB0.size
  refine ⟨(hp1.out.call hB0 hR0).below hb2,(hB0.box (g:=W.heap.size) (by omega) hx1'.out |> fun q=>(show Box5 V0 _ _ _ _ _ _ _ from q).below hb2),by rw [←hW2];exact blk_new (Below.refl _ _),Nat.le_refl _,by omega,?_⟩
  exact LayH.of_lay (hL0.below hb2) (by omega) hb2.size (Nat.le_refl _) (fun q hq=>by simp at hq;rcases hq with rfl | rfl <;> omega)
 have hkd:=Lib.hid (par_kind hS2.out.ps.rd)
 have hW2':=Lib.hid hW2
 have hxa:Hid (pR l f (.apps y) j0=some x):=hx'.out
 clear hL0 hR0 hB0 hW2
 go_upto_region 2 with (fail)
 rw [hW2'.out]
 go_wp2_with fail
 refine hkd.out.mono ?_
 rintro e V1 ⟨rfl,n1,rfl⟩
 have hS3:=Lib.hid (hS2.out.below (below_drewN' (Below.refl _ _) n1))
 clear hkd hat hW2' hW1'
 go_wp2_with fail
 go_loopg [4] f (fun g kv X=>∃ (j:Nat) (e:Ex) (k:Int) (s:Str) (n:Int) (a1:Option Addr) (m1 c1:Nat) (a2:Option Addr) (m2 c2:Nat),kv=.int .i64 (kindAt l j)∧Hid (g≤f)∧Hid (TrS W rb a c l j W.heap.size V0.heap.size X e k s n a1 m1 c1 a2 m2 c2)∧Hid (pR l g (.apps e) j=some x))
 case atStart=>exact ⟨j0,y,_,_,_,_,_,_,_,_,_,rfl,Nat.le_refl _,hS3.out,hxa.out⟩
 case round =>
  obtain ⟨j,e,k,s,n,a1,m1,c1,a2,m2,c2,rfl,hg,hS,hX⟩:=hrel
  obtain ⟨X,rfl⟩:∃ W,W=wr:=⟨_,rfl⟩
  obtain ⟨g,rfl⟩:∃ g',gk=g' + 1:=by
   cases gk with
   | zero=>have:=hX.out;cases this
   | succ g=>exact ⟨g,rfl⟩
  have hX2:=hX.out
  simp only [pR,stepR] at hX2
  have his:=Lib.hid (par_is hS.out.ps.rd pOpen)
  rw [show tS pOpen=⟨#[40]⟩ from rfl] at his
  have hle:=hS.out.ps.rd.le
  have hbB:=hS.out.bx
  have hA1:Hid (W.heap.size < V0.heap.size∧W.heap.size≤X.heap.size):=⟨hS.out.ab,hS.out.ps.size⟩
  clear hx' hxa hS2 hS3
  by_cases hbeg:beginsAt l j=true
  ·
   rw [if_pos hbeg] at hX2
   obtain ⟨x2,hx2⟩:=pR_some hX2
   rw [hx2] at hX2
   have hX3:=Lib.hid hX2
   have hatm:=Lib.hid (RuleC.later (hA'.out.mono (show g≤f by have:=hg.out;omega)) hS.out.ps.rd hx2)
   clear hX hX2 hx2
   obtain ⟨⟨p0,p1,p2,p3,p4⟩,pf⟩:=hS.out.bB.cells
   have q0:=hS.out.bA.cells.1.1
   clear q0
   by_cases h13:1≤kindAt l j∧kindAt l j≤3
   ·
    have d1:decide (1≤kindAt l j)=true:=decide_eq_true h13.1
    have d2:decide (kindAt l j≤3)=true:=decide_eq_true h13.2
    clear h13 hbeg his
    generalize kindAt l j=kd at *
    go_wp2_with fail
    go_region_with (first | (go_at_call 223;refine (hatm.out _ ((Below.refl _ _).drew)).mono ?_;rintro e1 Y ⟨hB,hm⟩;have hx2s:=hX3.out;rcases x2 with p | ⟨es,j2⟩;(· (have hxx:x=.error p:=(Option.some.inj hx2s).symm;subst hxx;obtain rfl:=hm;exact And.intro rfl (And.intro (hS.out.ps.bb.next hB) rfl)));obtain ⟨v,y2,rfl,rfl,hL,hR⟩:=hm;obtain ⟨k',s',n',a1',m1',c1',a2',m2',c2',rfl⟩:=hL.out.agg;have hS2:=Lib.hid (hS.out.call h'.out hB hR);have hL':=Lib.hid hL;have hXa:=Lib.hid hx2s;have hYz:=hB.size;have hne1:=hS2.out.bx;have hne2:=Nat.ne_of_lt hne1;clear hL hR hB hx2s;clear p0 p1 p2 p3 p4 pf;obtain ⟨⟨p0,p1,p2,p3,p4⟩,pf⟩:=hS2.out.bB.cells))
    all_goals
     obtain ⟨Z,hZ,hS5⟩:∃ Z,Z=((((((Y.setCell ⟨V0.heap.size,0,none⟩ (.int .i64 5)).setCell ⟨V0.heap.size,1,none⟩ (.string ⟨#[]⟩)).setCell ⟨V0.heap.size,2,none⟩ (.int .i64 0)).setCell ⟨V0.heap.size,3,none⟩ (.slice none 0 0)).setCell ⟨V0.heap.size,4,none⟩ (.slice (some ⟨Y.heap.size,0,none⟩) 2 2)).alloc (.cells #[.int .i64 k,.string s,.int .i64 n,.slice a1 m1 c1,.slice a2 m2 c2,.int .i64 k',.string s',.int .i64 n',.slice a1' m1' c1',.slice a2' m2' c2'] 27))∧Hid (TrS W rb a c l j2 W.heap.size V0.heap.size Z (.mk 5 ⟨#[]⟩ 0 [] [e,y2]) 5 ⟨#[]⟩ 0 none 0 0 (some ⟨Y.heap.size,0,none⟩) 2 2):=⟨_,rfl,TrS.grow h'.out hS.out hYz hS2.out hL'.out _ 5 ⟨#[]⟩ (by decide) (by decide)⟩
     rw [←hZ]
     have hkd5:=Lib.hid (par_kind hS5.out.ps.rd)
     clear hZ p0 p1 p2 p3 p4 pf hne1 hne2 d1 d2
     go_wp2_with fail
     refine hkd5.out.mono ?_
     rintro e1 V1 ⟨rfl,n2,rfl⟩
     go_wp2_with fail
     go_roundg g
     case measure=>omega
     case rel=>exact ⟨j2,_,5,⟨#[]⟩,0,none,0,0,_,2,2,rfl,by have:=hg.out;unfold Hid;omega,hS5.out.below (below_drewN' (Below.refl _ _) n2),hXa.out⟩
   ·
    have hop:isAt l j pOpen=true:=by
     unfold beginsAt at hbeg
     simp only [Bool.or_eq_true,decide_eq_true_eq] at hbeg
     rcases hbeg with ((q | q) | q) | q
     ·
      omega
     ·
      omega
     ·
      omega
     ·
      exact q
    have hk4:=isAt_kind hop
    rw [hop] at his
    rw [hk4]
    clear h13 hbeg hop hk4
    go_wp2_with fail
    refine his.out.mono ?_
    rintro e1 V1 ⟨rfl,n1,rfl⟩
    go_wp2_with fail
    go_region_with (first | (go_at_call 223;refine (hatm.out _ ((below_drewN' (Below.refl _ _) _).drew)).mono ?_;rintro e1 Y ⟨hB,hm⟩;have hx2s:=hX3.out;rcases x2 with p | ⟨es,j2⟩;(· (have hxx:x=.error p:=(Option.some.inj hx2s).symm;subst hxx;obtain rfl:=hm;exact And.intro rfl (And.intro (hS.out.ps.bb.next hB) rfl)));obtain ⟨v,y2,rfl,rfl,hL,hR⟩:=hm;obtain ⟨k',s',n',a1',m1',c1',a2',m2',c2',rfl⟩:=hL.out.agg;have hS2:=Lib.hid (hS.out.call h'.out hB hR);have hL':=Lib.hid hL;have hXa:=Lib.hid hx2s;have hYz:=hB.size;have hne1:=hS2.out.bx;have hne2:=Nat.ne_of_lt hne1;clear hL hR hB hx2s;clear p0 p1 p2 p3 p4 pf;obtain ⟨⟨p0,p1,p2,p3,p4⟩,pf⟩:=hS2.out.bB.cells))
    all_goals
     obtain ⟨Z,hZ,hS5⟩:∃ Z,Z=((((((Y.setCell ⟨V0.heap.size,0,none⟩ (.int .i64 5)).setCell ⟨V0.heap.size,1,none⟩ (.string ⟨#[]⟩)).setCell ⟨V0.heap.size,2,none⟩ (.int .i64 0)).setCell ⟨V0.heap.size,3,none⟩ (.slice none 0 0)).setCell ⟨V0.heap.size,4,none⟩ (.slice (some ⟨Y.heap.size,0,none⟩) 2 2)).alloc (.cells #[.int .i64 k,.string s,.int .i64 n,.slice a1 m1 c1,.slice a2 m2 c2,.int .i64 k',.string s',.int .i64 n',.slice a1' m1' c1',.slice a2' m2' c2'] 27))∧Hid (TrS W rb a c l j2 W.heap.size V0.heap.size Z (.mk 5 ⟨#[]⟩ 0 [] [e,y2]) 5 ⟨#[]⟩ 0 none 0 0 (some ⟨Y.heap.size,0,none⟩) 2 2):=⟨_,rfl,TrS.grow h'.out hS.out hYz hS2.out hL'.out _ 5 ⟨#[]⟩ (by decide) (by decide)⟩
     rw [←hZ]
     have hkd5:=Lib.hid (par_kind hS5.out.ps.rd)
     clear hZ p0 p1 p2 p3 p4 pf hne1 hne2
     go_wp2_with fail
     refine hkd5.out.mono ?_
     rintro e1 V1 ⟨rfl,n2,rfl⟩
     go_wp2_with fail
     go_roundg g
     case measure=>omega
     case rel=>exact ⟨j2,_,5,⟨#[]⟩,0,none,0,0,_,2,2,rfl,by have:=hg.out;unfold Hid;omega,hS5.out.below (below_drewN' (Below.refl _ _) n2),hXa.out⟩
  ·
   rw [if_neg hbeg] at hX2
   have hxx:Hid (x=.ok ([e],j)):=(Option.some.inj hX2).symm
   have hop:isAt l j pOpen=false:=by
    cases q:isAt l j pOpen with
    | false=>rfl
    | true=>exact absurd (by unfold beginsAt;rw [q];simp) hbeg
   have h13:¬ (1≤kindAt l j∧kindAt l j≤3):=by
    rintro ⟨q1,q2⟩
    refine hbeg ?_
    unfold beginsAt
    have:kindAt l j=1∨kindAt l j=2∨kindAt l j=3:=by omega
    rcases this with q | q | q <;> rw [q] <;> simp
   rw [hop] at his
   clear hX hX2 hbeg hop
   generalize kindAt l j=kd at *
   by_cases h1:1≤kd
   ·
    have d1:decide (1≤kd)=true:=decide_eq_true h1
    have d2:decide (kd≤3)=false:=decide_eq_false fun q=>h13 ⟨h1,q⟩
    clear h1 h13
    obtain ⟨⟨p0,p1,p2,p3,p4⟩,pf⟩:=hS.out.bB.cells
    go_wp2_with fail
    refine his.out.mono ?_
    rintro e1 V1 ⟨rfl,n1,rfl⟩
    have hS4:=Lib.hid (hS.out.below (below_drewN' (Below.refl _ _) n1))
    have hf:=Lib.hid (hS4.out.fin h'.out)
    clear p0 p1 p2 p3 p4 pf
    obtain ⟨⟨p0,p1,p2,p3,p4⟩,pf⟩:=hS4.out.bB.cells
    obtain ⟨⟨r0,r1,r2,r3,r4⟩,rf⟩:=hS4.out.bA.cells
    go_wp2_with fail
    refine set5_fold ?_
    refine bodyPost_ret (results_ex rfl _ _ rfl hf.out.1.cells.1) rfl ?_
    rw [hxx.out]
    exact hf.out.2
   ·
    have d1:decide (1≤kd)=false:=decide_eq_false h1
    clear h1 h13
    obtain ⟨⟨p0,p1,p2,p3,p4⟩,pf⟩:=hS.out.bB.cells
    go_wp2_with fail
    refine his.out.mono ?_
    rintro e1 V1 ⟨rfl,n1,rfl⟩
    have hS4:=Lib.hid (hS.out.below (below_drewN' (Below.refl _ _) n1))
    have hf:=Lib.hid (hS4.out.fin h'.out)
    clear p0 p1 p2 p3 p4 pf
    obtain ⟨⟨p0,p1,p2,p3,p4⟩,pf⟩:=hS4.out.bB.cells
    obtain ⟨⟨r0,r1,r2,r3,r4⟩,rf⟩:=hS4.out.bA.cells
    go_wp2_with fail
    refine set5_fold ?_
    refine bodyPost_ret (results_ex rfl _ _ rfl hf.out.1.cells.1) rfl ?_
    rw [hxx.out]
    exact hf.out.2
end
end Go.Proofs.YtinjocchommbdaaGreatDoor
namespace Go.Proofs.YtinjocchommbdaaGreatDoor
open Go.RowKit
def oS:Option Bs→Str
 | none=>⟨#[]⟩
 | some s=>tS s
def oN:Option Bs→Nat
 | none=>0
 | some _=>1
theorem AnyR.form {W:World} {rb:Nat} {a:Option Addr} {c:Nat} {l:List Tk} {i:Nat} {o:Option Bs} {e:Ending} {W':World} (h:AnyR W rb a c l i o e W'):e=.returned (.tuple #[.string (oS o),.bool o.isSome])∧Rd W' rb a c l (i + oN o):=by
 cases o with
 | none=>exact h
 | some s=>exact h
def opsL:Nat→List Bs
 | 1=>[[42],[47]]
 | 2=>[[43],[45]]
 | _=>[[61,61],[60]]
theorem opAt_any (l:List Tk) (i n:Nat):opAt l i n=(anyAt l i (opsL n)).isSome:=by
 have h2:∀ a b:Bs,(isAt l i a || isAt l i b)=(anyAt l i [a,b]).isSome:=by
  intro a b
  simp only [anyAt,List.find?_cons,List.find?_nil]
  cases isAt l i a <;> cases isAt l i b <;> rfl
 match n with
 | 0=>exact h2 _ _
 | 1=>exact h2 _ _
 | 2=>exact h2 _ _
 | n + 3=>exact h2 _ _
theorem any_text {l:List Tk} {i:Nat} {ss:List Bs} {s:Bs} (h:anyAt l i ss=some s):textAt l i=tS s:=isAt_text (List.find?_some h)
def OpRow (W:World) (sb:Nat) (ss:List Bs):Prop:=sb < W.heap.size∧∀ j (hj:j < ss.length),W.cell? ⟨sb,j,none⟩=some (.string (tS ss[j]))
theorem OpRow.bb {W X:World} {sb rb:Nat} {ss:List Bs} (h:OpRow W sb ss) (hb:Bb W.heap.size rb W X) (hne:sb≠rb):OpRow X sb ss :=
 ⟨Nat.lt_of_lt_of_le h.1 hb.size,fun j hj=>(World.cell?_of_block (hb.block sb h.1 hne)).trans (h.2 j hj)⟩
theorem any_call {X:World} {rb:Nat} {a:Option Addr} {c:Nat} {l:List Tk} {i sb sc:Nat} {ss:List Bs} (h:Rd X rb a c l i) (hs:OpRow X sb ss) (hl:ss.length≤100) :
  Calls Tryz.prog 62 #[.pointer (some ⟨rb,0,none⟩),.slice (some ⟨sb,0,none⟩) ss.length sc] X fun e W'=>e=.returned (.tuple #[.string (oS (anyAt l i ss)),.bool (anyAt l i ss).isSome])∧Bb X.heap.size rb X W'∧Rd W' rb a c l (i + oN (anyAt l i ss)):=by
 refine (par_any h sb sc ss hl hs.2).mono ?_
 rintro e W' ⟨hB,hm⟩
 obtain ⟨h1,h2⟩:=hm.form
 exact ⟨h1,hB,h2⟩
section
variable {rb:Nat} {a:Option Addr} {c:Nat} {l:List Tk}
theorem fit_text {l:List Tk} (h:∀ t ∈ l,TkFit t) (i:Nat):(textAt l i).size≤lenMax:=by
 unfold textAt tkAt
 by_cases hi:i < l.length
 ·
  simp only [List.getD,List.getElem?_eq_getElem hi]
  exact (h _ (List.getElem_mem hi)).1
 ·
  simp only [List.getD,List.getElem?_eq_none (Nat.le_of_not_lt hi)]
  exact by decide
set_option maxHeartbeats 8000000 in
set_option maxRecDepth 100000 in
theorem par_chain1 {f:Nat} (hA:RuleC 203 rb a c l f (.lev 0)) (W:World) (i:Nat) (x:Except Nat (List Ex × Nat)) (sb sc:Nat) (hsg:OpRow W sb (opsL 1)) (hsb:sb≠rb) (h:Rd W rb a c l i) (hx:pR l (f + 1) (.lev 1) i=some x) :
  Calls Tryz.prog 181 #[.pointer (some ⟨rb,0,none⟩),.func (.func 203) #[.pointer (some ⟨rb,0,none⟩)] #[],.slice (some ⟨sb,0,none⟩) 2 sc] W fun e W'=>ExR W rb a c l x e W':=by
 simp only [pR,stepR] at hx
 obtain ⟨W1,hW1⟩:∃ V,W.alloc (.cells #[.int .i64 0,.string ⟨#[]⟩,.int .i64 0,.slice none 0 0,.slice none 0 0] 27)=V:=⟨_,rfl⟩
 have hb1:Below W.heap.size W W1:=by rw [←hW1];exact (Below.refl _ _).alloc (Nat.le_refl _) _
 have hx1:Box5 W1 27 W.heap.size (.int .i64 0) (.string ⟨#[]⟩) (.int .i64 0) (.slice none 0 0) (.slice none 0 0):=by rw [←hW1];exact blk_new (Below.refl _ _)
 have hz1:Hid (W1.heap.size=W.heap.size + 1):=by rw [←hW1];simp [Hid]
 have hp1:=Lib.hid ((PS.refl h).below hb1)
 have hW1':=Lib.hid hW1
 have hx1':=Lib.hid hx1
 have h':=Lib.hid h
 have hrb:=h.lt
 have hsg':=Lib.hid hsg
 obtain ⟨x0,hx0⟩:=pR_some hx
 rw [hx0] at hx
 have hat:=Lib.hid (hA W1 i x0 hp1.out.rd hx0)
 have hx':=Lib.hid hx
 have hA':=Lib.hid hA
 have hany:Hid (∀ X j,PS W rb a c l j X→Calls Tryz.prog 62 #[.pointer (some ⟨rb,0,none⟩),.slice (some ⟨sb,0,none⟩) 2 sc] X fun e W'=>e=.returned (.tuple #[.string (oS (anyAt l j (opsL 1))),.bool (anyAt l j (opsL 1)).isSome])∧Bb X.heap.size rb X W'∧Rd W' rb a c l (j + oN (anyAt l j (opsL 1)))) :=
  fun X j hp=>any_call (ss:=opsL 1) hp.rd (hsg.bb hp.bb hsb) (by decide)
 clear hW1 hb1 hx1 h hx hx0 hA hsg hsb
 go_enter Tryz.func181,Tryz.ntmps181
 go_upto_region 1 with (fail)
 rw [hW1'.out]
 go_wp2_with fail
 refine hat.out.mono ?_
 rintro e V0 ⟨hB0,hm0⟩
 cases x0 with
 | error p =>
  obtain rfl:=hm0
  have hxx:x=.error p:=(Option.some.inj hx'.out).symm
  subst hxx
  exact ⟨rfl,hp1.out.bb.next hB0,rfl⟩
 | ok q =>
 obtain ⟨es,j0⟩:=q
 obtain ⟨v,y,rfl,rfl,hL0,hR0⟩:=hm0
 obtain ⟨k0,s0,n0,a10,m10,c10,a20,m20,c20,rfl⟩:=hL0.out.agg
 obtain ⟨W2,hW2⟩:∃ V,V0.alloc (.cells #[.int .i64 k0,.string s0,.int .i64 n0,.slice a10 m10 c10,.slice a20 m20 c20] 27)=V:=⟨_,rfl⟩
 have hS2:Hid (TrS W rb a c l j0 W.heap.size V0.heap.size W2 y k0 s0 n0 a10 m10 c10 a20 m20 c20):=by
  have hb2:Below V0.heap.size V0 W2:=by rw [←hW2];exact (Below.refl _ _).alloc (Nat.le_refl _) _
  have hz:=hz1.out
  have hs:=hB0.size
  refine ⟨(hp1.out.call hB0 hR0).below hb2,(hB0.box (g:=W.heap.size) (by omega) hx1'.out |> fun q=>(show Box5 V0 _ _ _ _ _ _ _ from q).below hb2),by rw [←hW2];exact blk_new (Below.refl _ _),Nat.le_refl _,by omega,?_⟩
  exact LayH.of_lay (hL0.below hb2) (by omega) hb2.size (Nat.le_refl _) (fun q hq=>by simp at hq;rcases hq with rfl | rfl <;> omega)
 have hkd:=Lib.hid (hany.out W2 j0 hS2.out.ps)
 have hW2':=Lib.hid hW2
 have hxa:Hid (pR l f (.ops 1 y) j0=some x):=hx'.out
 clear hL0 hR0 hB0 hW2
 obtain ⟨o0,ho0⟩:∃ o,anyAt l j0 (opsL 1)=o:=⟨_,rfl⟩
 obtain ⟨S0,hS0⟩:∃ S,oS (anyAt l j0 (opsL 1))=S:=⟨_,rfl⟩
 obtain ⟨t0,ht0⟩:∃ t,(anyAt l j0 (opsL 1)).isSome=t:=⟨_,rfl⟩
 rw [hS0,ht0,ho0] at hkd
 rw [ho0] at hS0 ht0
 have ho0':=Lib.hid ho0
 have hs0':=Lib.hid hS0
 have ht0':=Lib.hid ht0
 clear ho0 hS0 ht0
 go_upto_region 2 with (fail)
 rw [hW2'.out]
 go_wp2_with fail
 refine hkd.out.mono ?_
 rintro e V1 ⟨rfl,hB1,hR1⟩
 have hS3:=Lib.hid (hS2.out.call h'.out hB1 hR1)
 clear hkd hat hW2' hW1' hB1 hR1
 go_wp2_with fail
 go_loopg [8,9] f (fun g sv bv X=>∃ (S0:Str) (t0:Bool) (o:Option Bs) (j:Nat) (e:Ex) (k:Int) (s:Str) (n:Int) (a1:Option Addr) (m1 c1:Nat) (a2:Option Addr) (m2 c2:Nat),sv=.string S0∧bv=.bool t0∧Hid (oS o=S0)∧Hid (o.isSome=t0)∧Hid (anyAt l j (opsL 1)=o)∧Hid (g≤f)∧Hid (TrS W rb a c l (j + oN o) W.heap.size V0.heap.size X e k s n a1 m1 c1 a2 m2 c2)∧Hid (pR l g (.ops 1 e) j=some x))
 case atStart=>exact ⟨S0,t0,o0,j0,y,_,_,_,_,_,_,_,_,_,rfl,rfl,hs0'.out,ht0'.out,ho0'.out,Nat.le_refl _,hS3.out,hxa.out⟩
 case round =>
  obtain ⟨S,tb,o,j,e,k,s,n,a1,m1,c1,a2,m2,c2,rfl,rfl,hoS,hot,ho,hg,hS,hX⟩:=hrel
  obtain ⟨X,rfl⟩:∃ W,W=wr:=⟨_,rfl⟩
  obtain ⟨g,rfl⟩:∃ g',gk=g' + 1:=by
   cases gk with
   | zero=>have:=hX.out;cases this
   | succ g=>exact ⟨g,rfl⟩
  have hX2:=hX.out
  simp only [pR,stepR] at hX2
  rw [opAt_any,ho.out] at hX2
  have hle:=hS.out.ps.rd.le
  have hbB:=hS.out.bx
  have hA1:Hid (W.heap.size < V0.heap.size∧W.heap.size≤X.heap.size):=⟨hS.out.ab,hS.out.ps.size⟩
  clear hx' hxa hS2 hS3 ho0' hs0' ht0'
  cases o with
  | some sg =>
   rw [if_pos (show (some sg).isSome=true from rfl)] at hX2
   have htx:=any_text ho.out
   rw [htx] at hX2
   obtain ⟨x2,hx2⟩:=pR_some hX2
   rw [hx2] at hX2
   have hX3:=Lib.hid hX2
   have hatm:=Lib.hid (RuleC.later (hA'.out.mono (show g≤f by have:=hg.out;omega)) hS.out.ps.rd hx2)
   have hsz:Hid ((tS sg).size≤lenMax):=htx ▸ fit_text h'.out.fit j
   have hSe:tS sg=S:=hoS.out
   rw [hSe] at hX3 hsz
   obtain rfl:true=tb:=hot.out
   obtain ⟨⟨p0,p1,p2,p3,p4⟩,pf⟩:=hS.out.bB.cells
   clear hX hX2 hx2 htx hSe hoS hot
   go_wp2_with fail
   go_region_with (first | (go_at_call 203;refine (hatm.out _ (Below.refl _ _).drew).mono ?_;rintro e1 Y ⟨hB,hm⟩;have hx2s:=hX3.out;rcases x2 with p | ⟨es,j2⟩;(· (have hxx:x=.error p:=(Option.some.inj hx2s).symm;subst hxx;obtain rfl:=hm;exact And.intro rfl (And.intro (hS.out.ps.bb.next hB) rfl)));obtain ⟨v,y2,rfl,rfl,hL,hR⟩:=hm;obtain ⟨k',s',n',a1',m1',c1',a2',m2',c2',rfl⟩:=hL.out.agg;have hS2:=Lib.hid (hS.out.call h'.out hB hR);have hL':=Lib.hid hL;have hXa:=Lib.hid hx2s;have hYz:=hB.size;have hne1:=hS2.out.bx;have hne2:=Nat.ne_of_lt hne1;clear hL hR hB hx2s;clear p0 p1 p2 p3 p4 pf;obtain ⟨⟨p0,p1,p2,p3,p4⟩,pf⟩:=hS2.out.bB.cells))
   all_goals
    obtain ⟨Z,hZ,hS5⟩:∃ Z,Z=((((((Y.setCell ⟨V0.heap.size,0,none⟩ (.int .i64 9)).setCell ⟨V0.heap.size,1,none⟩ (.string S)).setCell ⟨V0.heap.size,2,none⟩ (.int .i64 0)).setCell ⟨V0.heap.size,3,none⟩ (.slice none 0 0)).setCell ⟨V0.heap.size,4,none⟩ (.slice (some ⟨Y.heap.size,0,none⟩) 2 2)).alloc (.cells #[.int .i64 k,.string s,.int .i64 n,.slice a1 m1 c1,.slice a2 m2 c2,.int .i64 k',.string s',.int .i64 n',.slice a1' m1' c1',.slice a2' m2' c2'] 27))∧Hid (TrS W rb a c l j2 W.heap.size V0.heap.size Z (.mk 9 S 0 [] [e,y2]) 9 S 0 none 0 0 (some ⟨Y.heap.size,0,none⟩) 2 2):=⟨_,rfl,TrS.grow h'.out hS.out hYz hS2.out hL'.out _ 9 S (by decide) hsz.out⟩
    rw [←hZ]
    have hkd5:=Lib.hid (hany.out Z j2 hS5.out.ps)
    obtain ⟨o2,ho2⟩:∃ o,anyAt l j2 (opsL 1)=o:=⟨_,rfl⟩
    obtain ⟨S2,hS2e⟩:∃ S,oS (anyAt l j2 (opsL 1))=S:=⟨_,rfl⟩
    obtain ⟨t2,ht2e⟩:∃ t,(anyAt l j2 (opsL 1)).isSome=t:=⟨_,rfl⟩
    rw [hS2e,ht2e,ho2] at hkd5
    rw [ho2] at hS2e ht2e
    have ho2':=Lib.hid ho2
    have hS2':=Lib.hid hS2e
    have ht2':=Lib.hid ht2e
    clear hZ p0 p1 p2 p3 p4 pf hne1 hne2 ho2 hS2e ht2e
    go_wp2_with fail
    refine hkd5.out.mono ?_
    rintro e1 V1 ⟨rfl,hB6,hR6⟩
    have hS6:=Lib.hid (hS5.out.call h'.out hB6 hR6)
    clear hB6 hR6
    go_wp2_with fail
    go_roundg g
    case measure=>omega
    case rel=>exact ⟨S2,t2,o2,j2,_,9,S,0,none,0,0,_,2,2,rfl,rfl,hS2'.out,ht2'.out,ho2'.out,by have:=hg.out;unfold Hid;omega,hS6.out,hXa.out⟩
  | none =>
   rw [if_neg (show ¬ (none:Option Bs).isSome=true by simp)] at hX2
   have hxx:Hid (x=.ok ([e],j)):=(Option.some.inj hX2).symm
   obtain rfl:⟨#[]⟩=S:=hoS.out
   obtain rfl:false=tb:=hot.out
   clear hX hX2 hoS hot
   have hf:=Lib.hid (hS.out.fin h'.out)
   obtain ⟨⟨p0,p1,p2,p3,p4⟩,pf⟩:=hS.out.bB.cells
   obtain ⟨⟨r0,r1,r2,r3,r4⟩,rf⟩:=hS.out.bA.cells
   go_wp2_with fail
   refine set5_fold ?_
   refine bodyPost_ret (results_ex rfl _ _ rfl hf.out.1.cells.1) rfl ?_
   rw [hxx.out]
   exact hf.out.2
set_option maxRecDepth 100000 in
theorem par_product {f:Nat} (hA:RuleC 203 rb a c l f (.lev 0)):RuleC 182 rb a c l (f + 1) (.lev 1):=by
 intro W i x h hx
 have hmf:∀ (fn:Fn) (first cap:Array Value) (w:World),(Instr.makeFunc fn first cap).run Tryz.prog w=.ok (.func fn first cap) w:=fun _ _ _ _=>rfl
 obtain ⟨W1,hW1⟩:∃ V,W.alloc (.cells #[.int .i64 0,.string ⟨#[]⟩,.int .i64 0,.slice none 0 0,.slice none 0 0] 27)=V:=⟨_,rfl⟩
 have hb1:Below W.heap.size W W1:=by rw [←hW1];exact (Below.refl _ _).alloc (Nat.le_refl _) _
 have hx1:Box5 W1 27 W.heap.size (.int .i64 0) (.string ⟨#[]⟩) (.int .i64 0) (.slice none 0 0) (.slice none 0 0):=by rw [←hW1];exact blk_new (Below.refl _ _)
 have hz1:Hid (W1.heap.size=W.heap.size + 1):=by rw [←hW1];simp [Hid]
 obtain ⟨W2,hW2⟩:∃ V,W1.alloc (.cells #[.string ⟨#[42]⟩,.string ⟨#[47]⟩] 9)=V:=⟨_,rfl⟩
 have hb2:Below W1.heap.size W1 W2:=by rw [←hW2];exact (Below.refl _ _).alloc (Nat.le_refl _) _
 have hz2:Hid (W2.heap.size=W.heap.size + 2):=by have:=hz1.out;rw [←hW2];simp [Hid];omega
 have hp2:=Lib.hid (((PS.refl h).below hb1).below hb2)
 have hsg:OpRow W2 W1.heap.size (opsL 1):=⟨by have:=hz1.out;have:=hz2.out;omega,fun j hj=>by
  have:j=0∨j=1:=by simp [opsL] at hj;omega
  rw [←hW2]
  rcases this with rfl | rfl <;> exact (new_cell _ _ _ _).trans rfl⟩
 have hrb:=h.lt
 have hch:=Lib.hid (par_chain1 hA W2 i x W1.heap.size 2 hsg (by have:=hz1.out;omega) hp2.out.rd hx)
 have hx2:=Lib.hid (hx1.below hb2)
 have hW1':=Lib.hid hW1
 have hW2':=Lib.hid hW2
 have h':=Lib.hid h
 clear hW1 hb1 hx1 hb2 hW2 hsg h hx
 go_enter Tryz.func182,Tryz.ntmps182
 go_upto_region 1 with (fail)
 rw [hW1'.out]
 go_wp2_with fail
 rw [hW2'.out]
 refine hch.out.mono ?_
 rintro e V ⟨hB,hm⟩
 cases x with
 | error p =>
  obtain rfl:=hm
  exact ⟨rfl,hp2.out.bb.next hB,rfl⟩
 | ok q =>
 obtain ⟨es,j⟩:=q
 obtain ⟨v,y,rfl,rfl,hL,hR⟩:=hm
 obtain ⟨k,s,n,a1,m1,c1,a2,m2,c2,rfl⟩:=hL.out.agg
 have z1:=hz1.out
 have z2:=hz2.out
 have bx:Box5 V 27 W.heap.size (.int .i64 0) (.string ⟨#[]⟩) (.int .i64 0) (.slice none 0 0) (.slice none 0 0):=hB.box (by omega) hx2.out
 have hst:=bx.set (.int .i64 k) (.string s) (.int .i64 n) (.slice a1 m1 c1) (.slice a2 m2 c2)
 have hps:=PS.own h'.out (hp2.out.call hB hR) hst.2 (Nat.le_refl _)
 have hfin:=Lib.hid (show ExR W rb a c l (.ok ([y],j)) (.returned (.agg #[.int .i64 k,.string s,.int .i64 n,.slice a1 m1 c1,.slice a2 m2 c2])) (World.set5 V W.heap.size (.int .i64 k) (.string s) (.int .i64 n) (.slice a1 m1 c1) (.slice a2 m2 c2)) from
  ⟨hps.bb,_,_,rfl,rfl,(Lay.own hL hst.2 (.inl (by omega))).wide (by omega) (by rw [hst.2.size];exact Nat.le_refl _) (Nat.le_refl _),hps.rd⟩)
 have hst':=Lib.hid hst
 obtain ⟨⟨d0,d1,d2,d3,d4⟩,df⟩:=bx.cells
 clear hst hps hL hB hR bx z1 z2
 go_wp2_with fail
 refine set5_fold ?_
 refine bodyPost_ret (results_ex rfl _ _ rfl hst'.out.1.cells.1) rfl hfin.out
set_option maxHeartbeats 8000000 in
set_option maxRecDepth 100000 in
theorem par_chain2 {f:Nat} (hA:RuleC 182 rb a c l f (.lev 1)) (W:World) (i:Nat) (x:Except Nat (List Ex × Nat)) (sb sc:Nat) (hsg:OpRow W sb (opsL 2)) (hsb:sb≠rb) (h:Rd W rb a c l i) (hx:pR l (f + 1) (.lev 2) i=some x) :
  Calls Tryz.prog 181 #[.pointer (some ⟨rb,0,none⟩),.func (.func 182) #[.pointer (some ⟨rb,0,none⟩)] #[],.slice (some ⟨sb,0,none⟩) 2 sc] W fun e W'=>ExR W rb a c l x e W':=by
 simp only [pR,stepR] at hx
 obtain ⟨W1,hW1⟩:∃ V,W.alloc (.cells #[.int .i64 0,.string ⟨#[]⟩,.int .i64 0,.slice none 0 0,.slice none 0 0] 27)=V:=⟨_,rfl⟩
 have hb1:Below W.heap.size W W1:=by rw [←hW1];exact (Below.refl _ _).alloc (Nat.le_refl _) _
 have hx1:Box5 W1 27 W.heap.size (.int .i64 0) (.string ⟨#[]⟩) (.int .i64 0) (.slice none 0 0) (.slice none 0 0):=by rw [←hW1];exact blk_new (Below.refl _ _)
 have hz1:Hid (W1.heap.size=W.heap.size + 1):=by rw [←hW1];simp [Hid]
 have hp1:=Lib.hid ((PS.refl h).below hb1)
 have hW1':=Lib.hid hW1
 have hx1':=Lib.hid hx1
 have h':=Lib.hid h
 have hrb:=h.lt
 have hsg':=Lib.hid hsg
 obtain ⟨x0,hx0⟩:=pR_some hx
 rw [hx0] at hx
 have hat:=Lib.hid (hA W1 i x0 hp1.out.rd hx0)
 have hx':=Lib.hid hx
 have hA':=Lib.hid hA
 have hany:Hid (∀ X j,PS W rb a c l j X→Calls Tryz.prog 62 #[.pointer (some ⟨rb,0,none⟩),.slice (some ⟨sb,0,none⟩) 2 sc] X fun e W'=>e=.returned (.tuple #[.string (oS (anyAt l j (opsL 2))),.bool (anyAt l j (opsL 2)).isSome])∧Bb X.heap.size rb X W'∧Rd W' rb a c l (j + oN (anyAt l j (opsL 2)))) :=
  fun X j hp=>any_call (ss:=opsL 2) hp.rd (hsg.bb hp.bb hsb) (by decide)
 clear hW1 hb1 hx1 h hx hx0 hA hsg hsb
 go_enter Tryz.func181,Tryz.ntmps181
 go_upto_region 1 with (fail)
 rw [hW1'.out]
 go_wp2_with fail
 refine hat.out.mono ?_
 rintro e V0 ⟨hB0,hm0⟩
 cases x0 with
 | error p =>
  obtain rfl:=hm0
  have hxx:x=.error p:=(Option.some.inj hx'.out).symm
  subst hxx
  exact ⟨rfl,hp1.out.bb.next hB0,rfl⟩
 | ok q =>
 obtain ⟨es,j0⟩:=q
 obtain ⟨v,y,rfl,rfl,hL0,hR0⟩:=hm0
 obtain ⟨k0,s0,n0,a10,m10,c10,a20,m20,c20,rfl⟩:=hL0.out.agg
 obtain ⟨W2,hW2⟩:∃ V,V0.alloc (.cells #[.int .i64 k0,.string s0,.int .i64 n0,.slice a10 m10 c10,.slice a20 m20 c20] 27)=V:=⟨_,rfl⟩
 have hS2:Hid (TrS W rb a c l j0 W.heap.size V0.heap.size W2 y k0 s0 n0 a10 m10 c10 a20 m20 c20):=by
  have hb2:Below V0.heap.size V0 W2:=by rw [←hW2];exact (Below.refl _ _).alloc (Nat.le_refl _) _
  have hz:=hz1.out
  have hs:=hB0.size
  refine ⟨(hp1.out.call hB0 hR0).below hb2,(hB0.box (g:=W.heap.size) (by omega) hx1'.out |> fun q=>(show Box5 V0 _ _ _ _ _ _ _ from q).below hb2),by rw [←hW2];exact blk_new (Below.refl _ _),Nat.le_refl _,by omega,?_⟩
  exact LayH.of_lay (hL0.below hb2) (by omega) hb2.size (Nat.le_refl _) (fun q hq=>by simp at hq;rcases hq with rfl | rfl <;> omega)
 have hkd:=Lib.hid (hany.out W2 j0 hS2.out.ps)
 have hW2':=Lib.hid hW2
 have hxa:Hid (pR l f (.ops 2 y) j0=some x):=hx'.out
 clear hL0 hR0 hB0 hW2
 obtain ⟨o0,ho0⟩:∃ o,anyAt l j0 (opsL 2)=o:=⟨_,rfl⟩
 obtain ⟨S0,hS0⟩:∃ S,oS (anyAt l j0 (opsL 2))=S:=⟨_,rfl⟩
 obtain ⟨t0,ht0⟩:∃ t,(anyAt l j0 (opsL 2)).isSome=t:=⟨_,rfl⟩
 rw [hS0,ht0,ho0] at hkd
 rw [ho0] at hS0 ht0
 have ho0':=Lib.hid ho0
 have hs0':=Lib.hid hS0
 have ht0':=Lib.hid ht0
 clear ho0 hS0 ht0
 go_upto_region 2 with (fail)
 rw [hW2'.out]
 go_wp2_with fail
 refine hkd.out.mono ?_
 rintro e V1 ⟨rfl,hB1,hR1⟩
 have hS3:=Lib.hid (hS2.out.call h'.out hB1 hR1)
 clear hkd hat hW2' hW1' hB1 hR1
 go_wp2_with fail
 go_loopg [8,9] f (fun g sv bv X=>∃ (S0:Str) (t0:Bool) (o:Option Bs) (j:Nat) (e:Ex) (k:Int) (s:Str) (n:Int) (a1:Option Addr) (m1 c1:Nat) (a2:Option Addr) (m2 c2:Nat),sv=.string S0∧bv=.bool t0∧Hid (oS o=S0)∧Hid (o.isSome=t0)∧Hid (anyAt l j (opsL 2)=o)∧Hid (g≤f)∧Hid (TrS W rb a c l (j + oN o) W.heap.size V0.heap.size X e k s n a1 m1 c1 a2 m2 c2)∧Hid (pR l g (.ops 2 e) j=some x))
 case atStart=>exact ⟨S0,t0,o0,j0,y,_,_,_,_,_,_,_,_,_,rfl,rfl,hs0'.out,ht0'.out,ho0'.out,Nat.le_refl _,hS3.out,hxa.out⟩
 case round =>
  obtain ⟨S,tb,o,j,e,k,s,n,a1,m1,c1,a2,m2,c2,rfl,rfl,hoS,hot,ho,hg,hS,hX⟩:=hrel
  obtain ⟨X,rfl⟩:∃ W,W=wr:=⟨_,rfl⟩
  obtain ⟨g,rfl⟩:∃ g',gk=g' + 1:=by
   cases gk with
   | zero=>have:=hX.out;cases this
   | succ g=>exact ⟨g,rfl⟩
  have hX2:=hX.out
  simp only [pR,stepR] at hX2
  rw [opAt_any,ho.out] at hX2
  have hle:=hS.out.ps.rd.le
  have hbB:=hS.out.bx
  have hA1:Hid (W.heap.size < V0.heap.size∧W.heap.size≤X.heap.size):=⟨hS.out.ab,hS.out.ps.size⟩
  clear hx' hxa hS2 hS3 ho0' hs0' ht0'
  cases o with
  | some sg =>
   rw [if_pos (show (some sg).isSome=true from rfl)] at hX2
   have htx:=any_text ho.out
   rw [htx] at hX2
   obtain ⟨x2,hx2⟩:=pR_some hX2
   rw [hx2] at hX2
   have hX3:=Lib.hid hX2
   have hatm:=Lib.hid (RuleC.later (hA'.out.mono (show g≤f by have:=hg.out;omega)) hS.out.ps.rd hx2)
   have hsz:Hid ((tS sg).size≤lenMax):=htx ▸ fit_text h'.out.fit j
   have hSe:tS sg=S:=hoS.out
   rw [hSe] at hX3 hsz
   obtain rfl:true=tb:=hot.out
   obtain ⟨⟨p0,p1,p2,p3,p4⟩,pf⟩:=hS.out.bB.cells
   clear hX hX2 hx2 htx hSe hoS hot
   go_wp2_with fail
   go_region_with (first | (go_at_call 182;refine (hatm.out _ (Below.refl _ _).drew).mono ?_;rintro e1 Y ⟨hB,hm⟩;have hx2s:=hX3.out;rcases x2 with p | ⟨es,j2⟩;(· (have hxx:x=.error p:=(Option.some.inj hx2s).symm;subst hxx;obtain rfl:=hm;exact And.intro rfl (And.intro (hS.out.ps.bb.next hB) rfl)));obtain ⟨v,y2,rfl,rfl,hL,hR⟩:=hm;obtain ⟨k',s',n',a1',m1',c1',a2',m2',c2',rfl⟩:=hL.out.agg;have hS2:=Lib.hid (hS.out.call h'.out hB hR);have hL':=Lib.hid hL;have hXa:=Lib.hid hx2s;have hYz:=hB.size;have hne1:=hS2.out.bx;have hne2:=Nat.ne_of_lt hne1;clear hL hR hB hx2s;clear p0 p1 p2 p3 p4 pf;obtain ⟨⟨p0,p1,p2,p3,p4⟩,pf⟩:=hS2.out.bB.cells))
   all_goals
    obtain ⟨Z,hZ,hS5⟩:∃ Z,Z=((((((Y.setCell ⟨V0.heap.size,0,none⟩ (.int .i64 9)).setCell ⟨V0.heap.size,1,none⟩ (.string S)).setCell ⟨V0.heap.size,2,none⟩ (.int .i64 0)).setCell ⟨V0.heap.size,3,none⟩ (.slice none 0 0)).setCell ⟨V0.heap.size,4,none⟩ (.slice (some ⟨Y.heap.size,0,none⟩) 2 2)).alloc (.cells #[.int .i64 k,.string s,.int .i64 n,.slice a1 m1 c1,.slice a2 m2 c2,.int .i64 k',.string s',.int .i64 n',.slice a1' m1' c1',.slice a2' m2' c2'] 27))∧Hid (TrS W rb a c l j2 W.heap.size V0.heap.size Z (.mk 9 S 0 [] [e,y2]) 9 S 0 none 0 0 (some ⟨Y.heap.size,0,none⟩) 2 2):=⟨_,rfl,TrS.grow h'.out hS.out hYz hS2.out hL'.out _ 9 S (by decide) hsz.out⟩
    rw [←hZ]
    have hkd5:=Lib.hid (hany.out Z j2 hS5.out.ps)
    obtain ⟨o2,ho2⟩:∃ o,anyAt l j2 (opsL 2)=o:=⟨_,rfl⟩
    obtain ⟨S2,hS2e⟩:∃ S,oS (anyAt l j2 (opsL 2))=S:=⟨_,rfl⟩
    obtain ⟨t2,ht2e⟩:∃ t,(anyAt l j2 (opsL 2)).isSome=t:=⟨_,rfl⟩
    rw [hS2e,ht2e,ho2] at hkd5
    rw [ho2] at hS2e ht2e
    have ho2':=Lib.hid ho2
    have hS2':=Lib.hid hS2e
    have ht2':=Lib.hid ht2e
    clear hZ p0 p1 p2 p3 p4 pf hne1 hne2 ho2 hS2e ht2e
    go_wp2_with fail
    refine hkd5.out.mono ?_
    rintro e1 V1 ⟨rfl,hB6,hR6⟩
    have hS6:=Lib.hid (hS5.out.call h'.out hB6 hR6)
    clear hB6 hR6
    go_wp2_with fail
    go_roundg g
    case measure=>omega
    case rel=>exact ⟨S2,t2,o2,j2,_,9,S,0,none,0,0,_,2,2,rfl,rfl,hS2'.out,ht2'.out,ho2'.out,by have:=hg.out;unfold Hid;omega,hS6.out,hXa.out⟩
  | none =>
   rw [if_neg (show ¬ (none:Option Bs).isSome=true by simp)] at hX2
   have hxx:Hid (x=.ok ([e],j)):=(Option.some.inj hX2).symm
   obtain rfl:⟨#[]⟩=S:=hoS.out
   obtain rfl:false=tb:=hot.out
   clear hX hX2 hoS hot
   have hf:=Lib.hid (hS.out.fin h'.out)
   obtain ⟨⟨p0,p1,p2,p3,p4⟩,pf⟩:=hS.out.bB.cells
   obtain ⟨⟨r0,r1,r2,r3,r4⟩,rf⟩:=hS.out.bA.cells
   go_wp2_with fail
   refine set5_fold ?_
   refine bodyPost_ret (results_ex rfl _ _ rfl hf.out.1.cells.1) rfl ?_
   rw [hxx.out]
   exact hf.out.2
set_option maxRecDepth 100000 in
theorem par_sum {f:Nat} (hA:RuleC 182 rb a c l f (.lev 1)):RuleC 129 rb a c l (f + 1) (.lev 2):=by
 intro W i x h hx
 have hmf:∀ (fn:Fn) (first cap:Array Value) (w:World),(Instr.makeFunc fn first cap).run Tryz.prog w=.ok (.func fn first cap) w:=fun _ _ _ _=>rfl
 obtain ⟨W1,hW1⟩:∃ V,W.alloc (.cells #[.int .i64 0,.string ⟨#[]⟩,.int .i64 0,.slice none 0 0,.slice none 0 0] 27)=V:=⟨_,rfl⟩
 have hb1:Below W.heap.size W W1:=by rw [←hW1];exact (Below.refl _ _).alloc (Nat.le_refl _) _
 have hx1:Box5 W1 27 W.heap.size (.int .i64 0) (.string ⟨#[]⟩) (.int .i64 0) (.slice none 0 0) (.slice none 0 0):=by rw [←hW1];exact blk_new (Below.refl _ _)
 have hz1:Hid (W1.heap.size=W.heap.size + 1):=by rw [←hW1];simp [Hid]
 obtain ⟨W2,hW2⟩:∃ V,W1.alloc (.cells #[.string ⟨#[43]⟩,.string ⟨#[45]⟩] 9)=V:=⟨_,rfl⟩
 have hb2:Below W1.heap.size W1 W2:=by rw [←hW2];exact (Below.refl _ _).alloc (Nat.le_refl _) _
 have hz2:Hid (W2.heap.size=W.heap.size + 2):=by have:=hz1.out;rw [←hW2];simp [Hid];omega
 have hp2:=Lib.hid (((PS.refl h).below hb1).below hb2)
 have hsg:OpRow W2 W1.heap.size (opsL 2):=⟨by have:=hz1.out;have:=hz2.out;omega,fun j hj=>by
  have:j=0∨j=1:=by simp [opsL] at hj;omega
  rw [←hW2]
  rcases this with rfl | rfl <;> exact (new_cell _ _ _ _).trans rfl⟩
 have hrb:=h.lt
 have hch:=Lib.hid (par_chain2 hA W2 i x W1.heap.size 2 hsg (by have:=hz1.out;omega) hp2.out.rd hx)
 have hx2:=Lib.hid (hx1.below hb2)
 have hW1':=Lib.hid hW1
 have hW2':=Lib.hid hW2
 have h':=Lib.hid h
 clear hW1 hb1 hx1 hb2 hW2 hsg h hx
 go_enter Tryz.func129,Tryz.ntmps129
 go_upto_region 1 with (fail)
 rw [hW1'.out]
 go_wp2_with fail
 rw [hW2'.out]
 refine hch.out.mono ?_
 rintro e V ⟨hB,hm⟩
 cases x with
 | error p =>
  obtain rfl:=hm
  exact ⟨rfl,hp2.out.bb.next hB,rfl⟩
 | ok q =>
 obtain ⟨es,j⟩:=q
 obtain ⟨v,y,rfl,rfl,hL,hR⟩:=hm
 obtain ⟨k,s,n,a1,m1,c1,a2,m2,c2,rfl⟩:=hL.out.agg
 have z1:=hz1.out
 have z2:=hz2.out
 have bx:Box5 V 27 W.heap.size (.int .i64 0) (.string ⟨#[]⟩) (.int .i64 0) (.slice none 0 0) (.slice none 0 0):=hB.box (by omega) hx2.out
 have hst:=bx.set (.int .i64 k) (.string s) (.int .i64 n) (.slice a1 m1 c1) (.slice a2 m2 c2)
 have hps:=PS.own h'.out (hp2.out.call hB hR) hst.2 (Nat.le_refl _)
 have hfin:=Lib.hid (show ExR W rb a c l (.ok ([y],j)) (.returned (.agg #[.int .i64 k,.string s,.int .i64 n,.slice a1 m1 c1,.slice a2 m2 c2])) (World.set5 V W.heap.size (.int .i64 k) (.string s) (.int .i64 n) (.slice a1 m1 c1) (.slice a2 m2 c2)) from
  ⟨hps.bb,_,_,rfl,rfl,(Lay.own hL hst.2 (.inl (by omega))).wide (by omega) (by rw [hst.2.size];exact Nat.le_refl _) (Nat.le_refl _),hps.rd⟩)
 have hst':=Lib.hid hst
 obtain ⟨⟨d0,d1,d2,d3,d4⟩,df⟩:=bx.cells
 clear hst hps hL hB hR bx z1 z2
 go_wp2_with fail
 refine set5_fold ?_
 refine bodyPost_ret (results_ex rfl _ _ rfl hst'.out.1.cells.1) rfl hfin.out
end
end Go.Proofs.YtinjocchommbdaaGreatDoor
namespace Go.Proofs.YtinjocchommbdaaGreatDoor
open Go.RowKit
theorem Box5.at3 {w:World} {t:TypeId} {b:Nat} {x0 x1 x2 x3 x4:Value} (h:Box5 w t b x0 x1 x2 x3 x4) (y:Value):Box5 (w.setCell ⟨b,3,none⟩ y) t b x0 x1 x2 y x4∧OneSet b w (w.setCell ⟨b,3,none⟩ y):=by
 unfold Box5 at h
 exact ⟨by unfold Box5;simp [World.setCell,Array.getElem?_modify,h],OneSet.cell _ _ _ _⟩
theorem Box5.at4 {w:World} {t:TypeId} {b:Nat} {x0 x1 x2 x3 x4:Value} (h:Box5 w t b x0 x1 x2 x3 x4) (y:Value):Box5 (w.setCell ⟨b,4,none⟩ y) t b x0 x1 x2 x3 y∧OneSet b w (w.setCell ⟨b,4,none⟩ y):=by
 unfold Box5 at h
 exact ⟨by unfold Box5;simp [World.setCell,Array.getElem?_modify,h],OneSet.cell _ _ _ _⟩
theorem Box5.own {w W:World} {t:TypeId} {b g:Nat} {x0 x1 x2 x3 x4:Value} (h:Box5 w t b x0 x1 x2 x3 x4) (k:OneSet g w W) (hne:b≠g):Box5 W t b x0 x1 x2 x3 x4:=(k.other b hne).trans h
theorem Box5.bb {w W:World} {m:Nat} {t:TypeId} {b:Nat} {x0 x1 x2 x3 x4:Value} (h:Box5 w t b x0 x1 x2 x3 x4) (k:Bb w.heap.size m w W) (hne:b≠m):Box5 W t b x0 x1 x2 x3 x4:=k.box hne h
theorem lay_str1 {w:World} {s:Str} {t:TypeId} (hs:s.size≤lenMax):Lay w.heap.size (w.heap.size + 1) (w.alloc (.cells #[.string s] t)) fun x=>StrRow x (some ⟨w.heap.size,0,none⟩) [s] :=
 (strRow_newH (hs:=[]) (Nat.le_refl _) (by simp) hs).lay
theorem ExR.fin1 {W X:World} {rb:Nat} {a:Option Addr} {c:Nat} {l:List Tk} {i j A:Nat} {y:Ex} {v0 v1 v2 v3 v4:Value} {k:Int} {s:Str} {n:Int} {a1:Option Addr} {m1 c1:Nat} {a2:Option Addr} {m2 c2:Nat}
  (h0:Rd W rb a c l i) (hp:PS W rb a c l j X) (bA:Box5 X 27 A v0 v1 v2 v3 v4) (hA:W.heap.size≤A) (hl:LayH [A] W.heap.size X.heap.size X fun x=>IsEx x (.agg #[.int .i64 k,.string s,.int .i64 n,.slice a1 m1 c1,.slice a2 m2 c2]) y) :
  Box5 (World.set5 X A (.int .i64 k) (.string s) (.int .i64 n) (.slice a1 m1 c1) (.slice a2 m2 c2)) 27 A (.int .i64 k) (.string s) (.int .i64 n) (.slice a1 m1 c1) (.slice a2 m2 c2) ∧
  ExR W rb a c l (.ok ([y],j)) (.returned (.agg #[.int .i64 k,.string s,.int .i64 n,.slice a1 m1 c1,.slice a2 m2 c2])) (World.set5 X A (.int .i64 k) (.string s) (.int .i64 n) (.slice a1 m1 c1) (.slice a2 m2 c2)):=by
 have hs:=bA.set (.int .i64 k) (.string s) (.int .i64 n) (.slice a1 m1 c1) (.slice a2 m2 c2)
 have hps:=PS.own h0 hp hs.2 hA
 refine ⟨hs.1,hps.bb,_,_,rfl,rfl,?_,hps.rd⟩
 have:=(hl.own hs.2 (.inr (.inr (by simp)))).lay
 unfold ExL
 rw [hs.2.size]
 exact this
theorem LayH.row1 {hs:List Nat} {B E b:Nat} {w:World} {v0 v1 v2 v3 v4:Value} {e:Ex} (hb:B≤b) (hb2:b < E) (hb3:b ∉ hs) (hc:w.cell? ⟨b,0,none⟩=some v0∧w.cell? ⟨b,1,none⟩=some v1∧w.cell? ⟨b,2,none⟩=some v2∧w.cell? ⟨b,3,none⟩=some v3∧w.cell? ⟨b,4,none⟩=some v4)
  (h:LayH hs B E w fun x=>IsEx x (.agg #[v0,v1,v2,v3,v4]) e):LayH hs B E w fun x=>ExRow x (some ⟨b,0,none⟩) [e] :=
 exRow_layH h.1 hb hb2 hb3 fun i hi=>by
  obtain rfl:i=0:=by simp at hi;omega
  exact ⟨v0,v1,v2,v3,v4,hc,h⟩
theorem LayH.row2 {hs:List Nat} {B E b:Nat} {w:World} {v0 v1 v2 v3 v4 u0 u1 u2 u3 u4:Value} {e g:Ex} (hb:B≤b) (hb2:b < E) (hb3:b ∉ hs)
  (hc:w.heap[b]?=some (.cells #[v0,v1,v2,v3,v4,u0,u1,u2,u3,u4] 27 (0,0)))
  (h:LayH hs B E w fun x=>IsEx x (.agg #[v0,v1,v2,v3,v4]) e) (k:LayH hs B E w fun x=>IsEx x (.agg #[u0,u1,u2,u3,u4]) g):LayH hs B E w fun x=>ExRow x (some ⟨b,0,none⟩) [e,g] :=
 exRow_layH h.1 hb hb2 hb3 fun i hi=>by
  have hi2:i=0∨i=1:=by simp at hi;omega
  have cl:∀ o,w.cell? ⟨b,o,none⟩=(#[v0,v1,v2,v3,v4,u0,u1,u2,u3,u4]:Array Value)[o]?:=fun o=>by simp [World.cell?,hc]
  rcases hi2 with rfl | rfl
  ·
   exact ⟨v0,v1,v2,v3,v4,⟨(cl _).trans rfl,(cl _).trans rfl,(cl _).trans rfl,(cl _).trans rfl,(cl _).trans rfl⟩,h⟩
  ·
   exact ⟨u0,u1,u2,u3,u4,⟨(cl _).trans rfl,(cl _).trans rfl,(cl _).trans rfl,(cl _).trans rfl,(cl _).trans rfl⟩,k⟩
theorem LayH.row3 {hs:List Nat} {B E b:Nat} {w:World} {v0 v1 v2 v3 v4 u0 u1 u2 u3 u4 q0 q1 q2 q3 q4:Value} {e g r:Ex} (hb:B≤b) (hb2:b < E) (hb3:b ∉ hs)
  (hc:w.heap[b]?=some (.cells #[v0,v1,v2,v3,v4,u0,u1,u2,u3,u4,q0,q1,q2,q3,q4] 27 (0,0)))
  (h:LayH hs B E w fun x=>IsEx x (.agg #[v0,v1,v2,v3,v4]) e) (k:LayH hs B E w fun x=>IsEx x (.agg #[u0,u1,u2,u3,u4]) g) (p:LayH hs B E w fun x=>IsEx x (.agg #[q0,q1,q2,q3,q4]) r):LayH hs B E w fun x=>ExRow x (some ⟨b,0,none⟩) [e,g,r] :=
 exRow_layH h.1 hb hb2 hb3 fun i hi=>by
  have hi2:i=0∨i=1∨i=2:=by simp at hi;omega
  have cl:∀ o,w.cell? ⟨b,o,none⟩=(#[v0,v1,v2,v3,v4,u0,u1,u2,u3,u4,q0,q1,q2,q3,q4]:Array Value)[o]?:=fun o=>by simp [World.cell?,hc]
  rcases hi2 with rfl | rfl | rfl
  ·
   exact ⟨v0,v1,v2,v3,v4,⟨(cl _).trans rfl,(cl _).trans rfl,(cl _).trans rfl,(cl _).trans rfl,(cl _).trans rfl⟩,h⟩
  ·
   exact ⟨u0,u1,u2,u3,u4,⟨(cl _).trans rfl,(cl _).trans rfl,(cl _).trans rfl,(cl _).trans rfl,(cl _).trans rfl⟩,k⟩
  ·
   exact ⟨q0,q1,q2,q3,q4,⟨(cl _).trans rfl,(cl _).trans rfl,(cl _).trans rfl,(cl _).trans rfl,(cl _).trans rfl⟩,p⟩
def Blk (w:World) (b:Nat) (o:Obj):Prop:=w.heap[b]?=some o
theorem Blk.below {w W:World} {b:Nat} {o:Obj} (h:Blk w b o) (k:Below w.heap.size w W):Blk W b o:=(k.block b (blk_lt h)).trans h
theorem Blk.bb {w W:World} {m b:Nat} {o:Obj} (h:Blk w b o) (k:Bb w.heap.size m w W) (hne:b≠m):Blk W b o:=k.box hne h
theorem Blk.own {w W:World} {g b:Nat} {o:Obj} (h:Blk w b o) (k:OneSet g w W) (hne:b≠g):Blk W b o:=(k.other b hne).trans h
theorem Blk.new {w:World} {vs:Array Value} {t:TypeId}:Blk (w.alloc (.cells vs t)) w.heap.size (.cells vs t (0,0)):=blk_new (Below.refl _ _)
theorem LayH.rowOf {hs:List Nat} {B E b:Nat} {w:World} {e:Ex} {v0 v1 v2 v3 v4:Value} (hb:B≤b) (hb2:b < E) (hb3:b ∉ hs) (hc:Blk w b (.cells #[v0,v1,v2,v3,v4] 27 (0,0)))
  (h:LayH hs B E w fun x=>IsEx x (.agg #[v0,v1,v2,v3,v4]) e):LayH hs B E w fun x=>ExRow x (some ⟨b,0,none⟩) [e] :=
 LayH.row1 hb hb2 hb3 (Box5.cells (t:=27) hc).1 h
theorem sgn6_ok {α:Type} {l:List Tk} {i:Nat} {s:Bs} {k:Nat→Ans6 α} {x:Except Nat (α × Nat)} (h:sgn6 l i s k=some x) (hs:isAt l i s=true):k (i + 1)=some x:=by unfold sgn6 at h;rwa [if_pos hs] at h
theorem sgn6_err {α:Type} {l:List Tk} {i:Nat} {s:Bs} {k:Nat→Ans6 α} {x:Except Nat (α × Nat)} (h:sgn6 l i s k=some x) (hs:¬ isAt l i s=true):x=.error i:=by unfold sgn6 at h;rw [if_neg hs] at h;exact (Option.some.inj h).symm
theorem pR_split {l:List Tk} {f:Nat} {r:Rl} {i:Nat} {k:List Ex→Nat→Ans6 (List Ex)} {x:Except Nat (List Ex × Nat)} (h:(pR l f r i).bnd k=some x):∃ x2,pR l f r i=some x2∧match x2 with
  | .error p=>x=.error p
  | .ok (es,j)=>k es j=some x:=by
 cases hq:pR l f r i with
 | none=>rw [hq] at h;cases h
 | some x2 =>
  rw [hq] at h
  refine ⟨x2,rfl,?_⟩
  cases x2 with
  | error p=>exact (Option.some.inj h).symm
  | ok q=>exact h
end Go.Proofs.YtinjocchommbdaaGreatDoor
