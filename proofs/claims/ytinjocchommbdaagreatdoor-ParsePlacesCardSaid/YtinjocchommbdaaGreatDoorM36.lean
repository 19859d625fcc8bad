/- A part of the proof that parser laws hold: texts of the walk and of its plain laws, made small. -/
import Derived.Test.YtinjocchommbdaaGreatDoorM35
import Derived.Test.YtinjocchommbdaaGreatDoorM15
import Derived.Laws.OwnMore
set_option linter.unusedVariables false
set_option linter.unusedSimpArgs false
namespace Go.Proofs.YtinjocchommbdaaGreatDoor
open Go.RowKit
theorem join_owned {base:Nat} {v:Value} {l:List Str} {n:Nat} (sep:Str) {w:World} (h:w.ownsRow base 9 1 v n (l.map Value.string)) (hlen:(Lib.join (l.map bs) (bs sep)).length≤lenMax) (hn:n≤lenMax) :
  Calls Tryz.prog 59 #[v,.string sep] w fun r w'=>r=.returned (.string (mkS (Lib.join (l.map bs) (bs sep))))∧Below w.heap.size w w':=by
 unfold lenMax at hlen hn
 have hl:l.length=n:=by have:=h.1;simpa using this
 subst hl
 have h0:=h
 obtain ⟨_,⟨h1,h2⟩ | ⟨g,cap,cur,hv,hb,hh,hcap,hcm,hr⟩⟩:=h
 ·
  obtain rfl:l=[]:=by cases l <;> simp at h2 ⊢
  rw [h1]
  refine (Tryz.strings_Join_none none 0 _ w).mono ?_
  rintro e w' ⟨rfl,rfl⟩
  exact ⟨rfl,Below.refl _ _⟩
 ·
  subst hv
  refine (Tryz.strings_Join g 0 cap l sep w (fun j x hj=>?_) (Array.getElem?_eq_some_iff.1 hh).1 hn hcap hlen).mono ?_
  ·
   obtain ⟨hj',rfl⟩:=List.getElem?_eq_some_iff.1 hj
   rw [show (0:Nat) + j=j from by omega,h0.cellAt j (by omega),List.getElem?_map,hj];rfl
  ·
   rintro e w' ⟨rfl,hB⟩
   exact ⟨rfl,hB⟩
theorem writer_String (bp:Nat) (v:Value) (l:List Str) (w:World) (hW:WrIs w bp v l) (hlen:(joinSp l).length≤lenMax) (hn:l.length≤lenMax) :
  Calls Tryz.prog 119 #[.pointer (some ⟨bp,0,none⟩)] w fun r w'=>r=.returned (.string (mkS (joinSp l)))∧Below w.heap.size w w':=by
 obtain ⟨hwc,hwf⟩:=hW.cell
 have hcall:=Lib.hid (join_owned ⟨#[32]⟩ hW.2 hlen hn)
 clear hlen hn hW
 go_enter Tryz.func119,Tryz.ntmps119
 go_wp2_with fail
 refine hcall.out.mono ?_
 rintro e w1 ⟨rfl,hB1⟩
 go_wp2_with fail
 go_ret
 exact ⟨rfl,hB1⟩
def outs (ps:List Pt):List Str:=ps.flatMap Pt.out
theorem print_of (ps:List Pt) (a:Option Addr) (c:Nat) (w:World) (hcan:∀ p ∈ ps,p.can) (hr:PtRow w a ps) (hn:(outs ps).length≤1099511627776) (hlen:ps.length≤lenMax) (hj:(joinSp (outs ps)).length≤lenMax) :
  Calls Tryz.prog 58 #[.slice a ps.length c] w fun r w'=>r=.returned (.string (mkS (joinSp (outs ps))))∧Below w.heap.size w w':=by
 have hb1:Below w.heap.size w (w.alloc (.cells #[.slice none 0 0] 161)):=(Below.refl _ _).alloc (Nat.le_refl _) _
 have hput:=Lib.hid (put_any w.heap.size (.slice none 0 0) [] ps a c (w.alloc (.cells #[.slice none 0 0] 161)) hcan ⟨by simp only [World.alloc];simp,rfl,.inl ⟨rfl,rfl⟩⟩
  (fun W _ hb=>hr.below (hb1.trans hb)) (by simpa [outs] using hn) hlen)
 have hb1':=Lib.hid hb1
 have hj':=Lib.hid hj
 have hn':=Lib.hid hn
 clear hb1 hr hcan hlen hj hn
 go_enter Tryz.func58,Tryz.ntmps58
 go_wp2_with fail
 refine hput.out.mono ?_
 rintro e w1 ⟨rfl,v1,hW1,hT1⟩
 go_wp2_with fail
 refine (writer_String w.heap.size v1 _ w1 hW1 (by simpa [outs] using hj'.out) (by have:=hn'.out;simp [outs] at this;simp [lenMax];omega)).mono ?_
 rintro e w2 ⟨rfl,hB2⟩
 go_wp2_with fail
 go_ret
 exact ⟨rfl,(hb1'.out.trans hT1.below).trans (hB2.mono (by have:=(hb1'.out.trans hT1.below).size;omega))⟩
end Go.Proofs.YtinjocchommbdaaGreatDoor
namespace Go.Proofs.YtinjocchommbdaaGreatDoor
open Go.RowKit
def Pts (W:World):List Value→List Pt→Prop
 | [],[]=>True
 | v :: vs,p :: ps=>IsPt W v p∧Pts W vs ps
 | _,_=>False
theorem Pts.at {W:World}:∀ {vs:List Value} {ps:List Pt},Pts W vs ps→vs.length=ps.length∧∀ i (h:i < ps.length),∃ v,vs[i]?=some v∧IsPt W v ps[i]
 | [],[],_=>⟨rfl,fun i h=>absurd h (by simp)⟩
 | v :: vs,p :: ps,h=>by
  obtain ⟨h1,h2⟩:=h
  obtain ⟨hl,hr⟩:=Pts.at h2
  refine ⟨by simp [hl],fun i hi=>?_⟩
  cases i with
  | zero=>exact ⟨v,rfl,h1⟩
  | succ i=>simpa using hr i (by simpa using hi)
 | [],_ :: _,h=>h.elim
 | _ :: _,[],h=>h.elim
theorem ptRow_new (w:World) (vs:List Value) (ps:List Pt) (t:TypeId) (h:Pts (w.alloc (.cells vs.toArray t)) vs ps):PtRow (w.alloc (.cells vs.toArray t)) (some ⟨w.heap.size,0,none⟩) ps:=by
 refine .inr ⟨_,_,rfl,fun i hi=>?_⟩
 obtain ⟨v,hv,hp⟩:=h.at.2 i hi
 refine ⟨v,?_,hp⟩
 rw [World.cell?_alloc_at _ _ _ _ rfl]
 simpa using hv
theorem count_le (l:List Str):l.length≤(joinSp l).length + 1:=by have:=join_count_le (l.map bs) [32] (by simp);rw [List.length_map] at this;exact this
theorem print_of_new (T:List UInt8) (ps:List Pt) (vs:List Value) (t:TypeId) (w:World) (n:Nat) (hn:ps.length=n) (hP:Pts (w.alloc (.cells vs.toArray t)) vs ps) (hcan:∀ p ∈ ps,p.can) (hlen:ps.length≤lenMax) (hT:T.length≤1099511627775) (he:joinSp (outs ps)=T) :
  Calls Tryz.prog 58 #[.slice (some ⟨w.heap.size,0,none⟩) n n] (w.alloc (.cells vs.toArray t)) fun r w'=>r=.returned (.string (mkS T))∧Below w.heap.size w w':=by
 subst hn
 refine (print_of ps _ _ _ hcan (ptRow_new w vs ps t hP) (by have:=count_le (outs ps);rw [he] at this;omega) hlen (by rw [he];unfold lenMax;omega)).mono ?_
 rintro e w' ⟨rfl,hB⟩
 rw [he]
 exact ⟨rfl,((Below.refl _ w).alloc (Nat.le_refl _) _).trans (hB.mono (by simp))⟩
theorem text_le_list {es:List Ex} {N:Nat} (h:(listT (es.map fun e=>(e.kind,textE e))).length≤N):(Lib.join (es.map textE) [32,59,32]).length≤N:=by
 refine Nat.le_trans (join_mem_le [[123],Lib.join (es.map textE) [32,59,32],[125]] [32] (by simp)) ?_
 simpa [listT,List.map_map,Function.comp_def] using h
set_option maxHeartbeats 800000 in
theorem print_list (es:List Ex) (a:Option Addr) (c:Nat) (w:World) (hcan:∀ e ∈ es,TextC e) (hr:ExRow w a es) (ht:Tab w) (hl:(listT (es.map fun e=>(e.kind,textE e))).length≤1099511627775) :
  Calls Tryz.prog 124 #[.slice a es.length c] w fun r w'=>r=.returned (.string (mkS (listT (es.map fun e=>(e.kind,textE e)))))∧Below w.heap.size w w':=by
 have hl1:=text_le_list hl
 have hn:es.length≤1099511627777:=by have:=join_count_le (es.map textE) [32,59,32] (by simp);simp at this;omega
 obtain ⟨i0,hi,hz0,hz1,hz2⟩:=info_parts Tryz.infoStr
 have hl':=Lib.hid hl
 have hl1':=Lib.hid hl1
 clear hl hl1
 go_enter Tryz.func124,Tryz.ntmps124
 go_wp2_with fail
 go_loopw [3,8] (fun v i wr=>∃ (k:Nat),k≤es.length∧i=.int .i64 k∧Hid (wr.ownsRow w.heap.size 9 1 v k (((es.take k).map fun e=>mkS (textE e)).map Value.string))∧Below w.heap.size w wr) (fun _ i _=>es.length - (intOf i).toNat)
 case atStart=>exact ⟨0,by omega,rfl,⟨by simp,.inl ⟨rfl,rfl⟩⟩,Below.refl _ _⟩
 case round =>
  obtain ⟨k,hk,rfl,hown,hB⟩:=hrel
  by_cases h1:k < es.length
  ·
   obtain ⟨b,off,rfl,hkid⟩:=(hr.keeps (Keeps.of_below hB)).kid (by rintro rfl;simp at h1)
   obtain ⟨a1,c1,a2,c2,g0,g1,g2,g3,g4,ge⟩:=hkid k h1
   have ge':=Lib.hid (fun (W:World) (hb:Below wr.heap.size wr W)=>hcan _ (List.getElem_mem h1) _ W (IsExT.below ⟨ge,ht.below hB⟩ hb))
   go_wp2_with fail
   refine (ge'.out _ ((Below.refl _ _).alloc (Nat.le_refl _) _)).mono ?_
   rintro e w1 ⟨rfl,hB1⟩
   have hbx:=Lib.hid (((Below.refl wr.heap.size wr).alloc (Nat.le_refl _) (.cells #[.int .i64 es[k].kind,.string es[k].name,.int .i64 es[k].num,.slice a1 es[k].names.length c1,.slice a2 es[k].kids.length c2] 27)).trans (hB1.mono (by simp)))
   have own1:=Lib.hid (ownsRow_heap hown.out (fun g hg=>hbx.out.block g (ownBlock_ge hown.out hg).2))
   have hz1':w.heap.size≤w1.heap.size:=by have:=hB.size;have:=hbx.out.size;omega
   clear hB1 ge'
   go_wp2_with (at_builtin;go_must (refine wpList_append_own_at _ rfl _ _ 24 rfl w.heap.size 9 i0 (.string ⟨#[]⟩) 1 16 Tryz.underlying24 hi hz0 hz1 hz2 rfl (by decide) _ _ _ rfl (own1.out.alloc _) ⟨w1.heap.size,0,none⟩ 1 1 [.string (mkS (textE es[k]))] rfl rfl (cell_one_new _ _ _) (by simp [Value.oneCell']) (by unfold maxLen;omega) (by omega) (by simp;omega) ?_);intro v2 w2 hown2 hg2 _ hat2;have hB2:=Lib.hid (((hB.trans (hbx.out.mono (by have:=hB.size;omega))).alloc (by omega) _).grown hg2 (by simp;omega) (fun q e=>(ownBlock_ge hown.out e).1));have hown2':=Lib.hid hown2;clear hown2 hg2 hat2)
   go_roundw
   case rel =>
    refine ⟨k + 1,by omega,by go_num,?_,hB2.out⟩
    have:=hown2'.out
    rw [List.take_succ_eq_append_getElem h1,List.map_append,List.map_append]
    exact this
   case measure=>simp [intOf];omega
  ·
   have e:k=es.length:=by omega
   have e':=Lib.hid e
   clear e
   have hj:Hid (Calls Tryz.prog 59 #[u3,.string ⟨#[32,59,32]⟩] wr fun r w'=>r=.returned (.string (mkS (Lib.join (es.map textE) [32,59,32])))∧Below wr.heap.size wr w'):=by
    have h:=hown.out
    rw [e'.out,List.take_length] at h
    have hm:(es.map fun e=>mkS (textE e)).map bs=es.map textE:=by rw [List.map_map];rfl
    have:=join_owned ⟨#[32,59,32]⟩ h (by rw [hm];unfold lenMax;have:=hl1'.out;show (Lib.join (es.map textE) [32,59,32]).length≤_;omega) (by unfold lenMax;omega)
    rw [hm] at this
    exact this
   go_wp2_with fail
   refine hj.out.mono ?_
   rintro e w1 ⟨rfl,hB1⟩
   go_wp2_with fail
   have hT:=hl'.out
   refine (print_of_new (listT (es.map fun e=>(e.kind,textE e))) [.str ⟨#[123]⟩,.str (mkS (Lib.join (es.map textE) [32,59,32])),.str ⟨#[125]⟩] _ _ w1 3 rfl (by exact ⟨rfl,rfl,rfl,trivial⟩) (by intro p hp;simp only [List.mem_cons,List.not_mem_nil,or_false] at hp;rcases hp with rfl | rfl | rfl <;> trivial) (by simp [lenMax]) hT (by simp [outs,Pt.out,joinSp,listT,List.map_map,Function.comp_def,mkS])).mono ?_
   rintro e w2 ⟨rfl,hB2⟩
   go_wp2_with fail
   go_ret
   exact ⟨rfl,hB.trans ((hB1.mono (by have:=hB.size;omega)).trans (hB2.mono (by have:=hB.size;have:=hB1.size;omega)))⟩
end Go.Proofs.YtinjocchommbdaaGreatDoor
