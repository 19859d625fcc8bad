/- A part of the proof that parser laws hold: texts of the walk and of its plain laws, made small. -/
import Derived.Test.YtinjocchommbdaaGreatDoorM36
import Derived.StillTailTactics
import Derived.Test.YtinjocchommbdaaGreatDoorM07
import Derived.Test.YtinjocchommbdaaGreatDoorM00
set_option linter.unusedVariables false
set_option linter.unusedSimpArgs false
namespace Go.Proofs.YtinjocchommbdaaGreatDoor
open Go.RowKit
def SigC (s:Sg):Prop:=∀ (v:Value) (w:World),IsSg w v s→Calls Tryz.prog 199 #[v] w fun r w'=>r=.returned (.string (mkS (sgText s)))∧Below w.heap.size w w'
theorem sigAtom_c (s:Sg) (h:0 < s.args.length→SigC s) (hl:(sgText s).length≤1099511627775):SgAtomC s:=by
 obtain ⟨nm,l⟩:=s
 intro v w hv
 obtain ⟨a1,c1,rfl,hs,hn,hr⟩:=hv.open
 unfold lenMax at hs hn
 have hb0:Below w.heap.size w (w.alloc (.cells #[.string nm,.slice a1 l.length c1] 163)):=(Below.refl _ _).alloc (Nat.le_refl _) _
 have hsz:w.heap.size < (w.alloc (.cells #[.string nm,.slice a1 l.length c1] 163)).heap.size:=by simp
 have k0:(w.alloc (.cells #[.string nm,.slice a1 l.length c1] 163)).cell? ⟨w.heap.size,0,none⟩=some (.string nm):=by rw [World.cell?_alloc_at _ _ _ _ rfl];rfl
 have k1:(w.alloc (.cells #[.string nm,.slice a1 l.length c1] 163)).cell? ⟨w.heap.size,1,none⟩=some (.slice a1 l.length c1):=by rw [World.cell?_alloc_at _ _ _ _ rfl];rfl
 have hcall:=Lib.hid (fun h0:0 < l.length=>h h0 _ _ (hv.below hb0))
 go_enter Tryz.func177,Tryz.ntmps177
 by_cases h0:l.length=0
 ·
  have h0':((l.length:Int) == 0)=true:=by rw [h0];rfl
  have h0h:=Lib.hid h0
  clear h0
  go_wp2_with fail
  go_ret
  exact ⟨ret_str (by rw [sgAtom,Sg.args,if_pos h0h.out];rfl),hb0⟩
 ·
  have h0':((l.length:Int) == 0)=false:=by rw [beq_eq_false_iff_ne];omega
  go_wp2_with fail
  refine (hcall.out (by omega)).mono ?_
  rintro e w1 ⟨rfl,hB1⟩
  go_wp2_with fail
  refine (print_atom _ _ (by rw [Lib.size_eq];show (sgText (.mk nm l)).length≤_;omega)).mono ?_
  rintro e w2 ⟨rfl,rfl⟩
  go_wp2_with fail
  go_ret
  exact ⟨ret_str (by rw [sgAtom,Sg.args,if_neg h0];rfl),hb0.trans (hB1.mono (by omega))⟩
end Go.Proofs.YtinjocchommbdaaGreatDoor
namespace Go.Proofs.YtinjocchommbdaaGreatDoor
open Go.RowKit
theorem wr_new (w:World) (B:Nat) (hB:w.heap.size=B):WrIs (w.alloc (.cells #[.slice none 0 0] 161)) B (.slice none 0 0) []:=by
 subst hB
 exact ⟨by simp only [World.alloc];simp,rfl,.inl ⟨rfl,rfl⟩⟩
theorem put_new (bp:Nat) (v:Value) (l:List Str) (ps:List Pt) (vs:List Value) (t:TypeId) (w:World) (n B:Nat) (hB:w.heap.size=B) (hn:ps.length=n) (hW:WrIs w bp v l) (hP:∀ W,Below bp w W→Pts W vs ps) (hcan:∀ p ∈ ps,p.can) (hlen:ps.length≤lenMax) (hcnt:(l ++ outs ps).length≤1099511627776) :
  Calls Tryz.prog 118 #[.pointer (some ⟨bp,0,none⟩),.slice (some ⟨B,0,none⟩) n n] (w.alloc (.cells vs.toArray t)) fun r w'=>r=.returned (.pointer (some ⟨bp,0,none⟩))∧∃ v',WrIs w' bp v' (l ++ outs ps)∧WrTo w bp v w' v':=by
 subst hn
 subst hB
 have hb1:Below w.heap.size w (w.alloc (.cells vs.toArray t)):=(Below.refl _ _).alloc (Nat.le_refl _) _
 have hlt:=hW.lt
 refine (put_any bp v l ps _ _ _ hcan (hW.below hb1) ?_ hcnt hlen).mono ?_
 ·
  intro W hk hb
  refine .inr ⟨_,_,rfl,fun i hi=>?_⟩
  obtain ⟨x,hx,hp⟩:=(hP W ((hb1.mono (by omega)).trans hb)).at.2 i hi
  refine ⟨x,hk.2 _ _ (fun hh=>?_) ?_,hp⟩
  ·
   rcases hh with hh | hh
   ·
    simp only at hh;omega
   ·
    have:=(ownBlock_ge hW.2 hh).2;simp only at this;omega
  ·
   rw [World.cell?_alloc_at _ _ _ _ rfl];simpa using hx
 ·
  rintro e w' ⟨rfl,v',h1,h2⟩
  exact ⟨rfl,v',h1,WrTo.trans ⟨hb1.mono (by omega),KeepsBut.of_below hb1,.inl rfl⟩ h2⟩
theorem sgText_le_atom (e:Sg):(sgText e).length≤(sgAtom e).length:=by
 obtain ⟨s,l⟩:=e
 unfold sgAtom
 show _≤(if l.length=0 then bs s else paren (sgText (.mk s l))).length
 by_cases h:l.length=0
 ·
  obtain rfl:=List.length_eq_zero_iff.1 h
  simp [sgText,sgBody,sgText.sgAtoms,Lib.join_one]
 ·
  rw [if_neg h];simp [paren];omega
theorem sgAtom_le (s:Str) (l:List Sg) {e:Sg} (h:e ∈ l):(sgAtom e).length≤(sgText (.mk s l)).length:=by
 unfold sgText sgBody
 rw [sgAtoms_map]
 split
 ·
  rename_i h2
  obtain ⟨a,b,rfl⟩:=len2 h2.2
  refine join_mem_le _ _ ?_
  simp only [List.mem_cons,List.not_mem_nil,or_false] at h
  rcases h with rfl | rfl <;> simp
 ·
  exact join_mem_le _ _ (by simp only [List.mem_cons,List.mem_map];exact .inr ⟨e,h,rfl⟩)
set_option maxHeartbeats 1600000 in
set_option maxRecDepth 100000 in
theorem sig_c:∀ s:Sg,(sgText s).length≤1099511627775→SigC s:=by
 refine Sg.ind fun nm l ih hlen v w hv=>?_
 have hat:∀ e ∈ l,SgAtomC e:=fun e he=>sigAtom_c e (fun _=>ih e he (Nat.le_trans (sgText_le_atom e) (Nat.le_trans (sgAtom_le nm l he) hlen))) (Nat.le_trans (sgText_le_atom e) (Nat.le_trans (sgAtom_le nm l he) hlen))
 obtain ⟨a1,c1,rfl,hs,hn,hr⟩:=hv.open
 unfold lenMax at hs hn
 have hb0:Below (w.heap.size + 1) (w.alloc (.cells #[.string nm,.slice a1 l.length c1] 163)) (w.alloc (.cells #[.string nm,.slice a1 l.length c1] 163)):=Below.refl _ _
 obtain ⟨k0,k1⟩:=box2 hb0
 have hbw:=below_box hb0
 have hr1:=hr.keeps (keeps_box hb0)
 have hsz:w.heap.size < (w.alloc (.cells #[.string nm,.slice a1 l.length c1] 163)).heap.size:=by simp
 clear hv hr ih
 go_enter Tryz.func199,Tryz.ntmps199
 by_cases h2:nm.toList=[45,62]∧l.length=2
 ·
  obtain ⟨h3,h4⟩:=h2
  obtain ⟨x,y,rfl⟩:=len2 h4
  have hj:joinSp (outs [.sg x,.str ⟨#[45,62]⟩,.sg y])=sgText (.mk nm [x,y]):=by
   rw [Lib.toList_data] at h3
   simp [outs,Pt.out,joinSp,sgText,sgBody,sgAtoms_map,bs,mkS,h3]
  have hj':=Lib.hid hj
  have hcan:∀ p ∈ ([.sg x,.str ⟨#[45,62]⟩,.sg y]:List Pt),p.can:=by
   intro p hp
   simp only [List.mem_cons,List.not_mem_nil,or_false] at hp
   rcases hp with rfl | rfl | rfl
   ·
    exact hat _ (by simp)
   ·
    trivial
   ·
    exact hat _ (by simp)
  have hcan':=Lib.hid hcan
  have hlen':=Lib.hid hlen
  obtain ⟨b,off,rfl,harg⟩:=hr1.arg (by simp)
  obtain ⟨a2,c2,g0,g1,ge⟩:=harg 0 (by simp)
  obtain ⟨a3,c3,g2,g3,ge2⟩:=harg 1 (by simp)
  simp only [List.getElem_cons_zero,List.getElem_cons_succ,Nat.zero_mul,Nat.one_mul,Nat.add_zero,Nat.add_assoc,Nat.reduceAdd] at g0 g1 g2 g3 ge ge2
  have h5:(nm.toList == [45,62])=true:=by rw [h3];rfl
  clear hj hcan hlen hat harg hr1 h4 h3
  simp only [List.length_cons,List.length_nil,Nat.zero_add,Nat.reduceAdd] at *
  go_wp2_with fail
  generalize w.alloc (.cells #[.string nm,.slice (some ⟨b,off,none⟩) 2 c1] 163)=W at *
  refine wp_region_still_tail 11 (by kernel_rfl) (by kernel_rfl) ?_
  simp only [List.take_succ_cons,List.take_zero,List.drop_succ_cons,List.drop_zero]
  change wpStill _ _ W.drew _ _ _
  iterate 11 still_step
  refine wpStill_nil ?_
  change wpList _ _ _ _ _ W.drew
  have hWD:Below W.heap.size W W.drew:=(Below.refl _ W).drew
  have hbD:Below w.heap.size w W.drew:=hbw.drew
  have hWDs:W.heap.size≤W.drew.heap.size:=hWD.size
  generalize W.drew=D at hWD hbD hWDs ⊢
  go_wp2_with fail
  refine (print_of_new (sgText (.mk nm [x,y])) [.sg x,.str ⟨#[45,62]⟩,.sg y] [.iface 163 (.agg #[.string x.name,.slice a2 x.args.length c2]),.iface 9 (.string ⟨#[45,62]⟩),.iface 163 (.agg #[.string y.name,.slice a3 y.args.length c3])] 20 D 3 rfl (by exact ⟨⟨_,rfl,ge.below (hWD.alloc hWDs _)⟩,rfl,⟨_,rfl,ge2.below (hWD.alloc hWDs _)⟩,trivial⟩) hcan'.out (by simp [lenMax]) hlen'.out hj'.out).mono ?_
  rintro e w2 ⟨rfl,hB2⟩
  go_wp2_with fail
  go_ret
  exact ⟨rfl,hbD.trans (hB2.mono (by have:=hbD.size;omega))⟩
 ·
  have hloop:Hid ((bs nm :: l.map sgAtom).length≤1099511627776∧Lib.join (bs nm :: l.map sgAtom) [32]=sgText (.mk nm l)):=by
   have e:Lib.join (bs nm :: l.map sgAtom) [32]=sgText (.mk nm l):=by
    unfold sgText sgBody
    rw [if_neg (fun h=>h2 ⟨by rw [Lib.toList_data];exact h.1,h.2⟩),sgAtoms_map]
   refine ⟨?_,e⟩
   have:=join_count_le (bs nm :: l.map sgAtom) [32] (by simp)
   rw [e] at this;omega
  have ht:((nm.toList == [45,62]) && ((l.length:Int) == 2))=false:=by
   rw [Bool.and_eq_false_iff,beq_eq_false_iff_ne,beq_eq_false_iff_ne]
   by_cases h:nm.toList=[45,62]
   ·
    exact .inr fun h'=>h2 ⟨h,by omega⟩
   ·
    exact .inl h
  have hlen':=Lib.hid hlen
  have hat':=Lib.hid hat
  clear hat hlen
  have hq:(nm.toList == [45,62])=false∨((nm.toList == [45,62])=true∧((l.length:Int) == 2)=false):=by
   cases h:(nm.toList == [45,62])
   ·
    exact .inl rfl
   ·
    rw [h,Bool.true_and] at ht;exact .inr ⟨rfl,ht⟩
  clear ht h2
  rcases hq with h4 | ⟨h4,h5⟩
  all_goals
   go_wp2_with fail
   refine (put_new (w.heap.size + 1) (.slice none 0 0) [] [.str nm] [.iface 9 (.string nm)] _ ((w.alloc (.cells #[.string nm,.slice a1 l.length c1] 163)).alloc (.cells #[.slice none 0 0] 161)) 1 _ (by simp) rfl (wr_new _ _ (by simp)) (fun _ _=>⟨rfl,trivial⟩) (by simp [Pt.can]) (by simp [lenMax]) (by simp [outs,Pt.out])).mono ?_
   rintro e w1 ⟨rfl,v1,hW1,hT1⟩
   have hB1:=hT1.below
   clear hT1
   have hB1':Below (w.heap.size + 1) (w.alloc (.cells #[.string nm,.slice a1 l.length c1] 163)) w1:=((Below.refl _ _).alloc (by simp) _).trans hB1
   have hW1':=Lib.hid hW1
   have hz1:w.heap.size + 1 < w1.heap.size:=hW1.lt
   have j1:=(box2 hB1').2
   clear hB1 hW1 k0 k1
   go_wp2_with fail
   go_loopw [38] (fun i wr=>∃ (k:Nat) (vv:Value),k≤l.length∧i=.int .i64 k∧Hid (WrIs wr (w.heap.size + 1) vv (nm :: (l.take k).map fun e=>mkS (sgAtom e)))∧Below (w.heap.size + 1) (w.alloc (.cells #[.string nm,.slice a1 l.length c1] 163)) wr) (fun i _=>l.length - (intOf i).toNat)
   case atStart=>exact ⟨0,v1,by omega,rfl,hW1',hB1'⟩
   case round =>
    clear hW1' hB1' hz1 j1
    obtain ⟨k,vv,hk,rfl,hW,hB⟩:=hrel
    have hz:=hW.out.lt
    have hz':=size_box hB
    by_cases h1:k < l.length
    ·
     obtain ⟨b,off,rfl,harg⟩:=hr1.arg (by rintro rfl;simp at h1)
     obtain ⟨a2,c2,g0,g1,ge⟩:=harg k h1
     have hK:Keeps _ wr:=Keeps.of_below (hB.mono (by simp))
     replace g0:=hK _ _ g0
     replace g1:=hK _ _ g1
     have hBa:=hB.alloc (Nat.le_of_lt hz) (.cells #[.string l[k].name,.slice a2 l[k].args.length c2] 163)
     have hWa:=Lib.hid (hW.out.below ((Below.refl _ _).alloc (Nat.le_refl _) (.cells #[.string l[k].name,.slice a2 l[k].args.length c2] 163)))
     have hP:=Lib.hid (fun (W:World) (hb:Below (w.heap.size + 1) (wr.alloc (.cells #[.string l[k].name,.slice a2 l[k].args.length c2] 163)) W)=>(show Pts W [.iface 163 (.agg #[.string l[k].name,.slice a2 l[k].args.length c2])] [.sg l[k]] from ⟨⟨_,rfl,IsSg.keeps (Keeps.of_below ((hBa.trans hb).mono (by simp))) _ _ ge⟩,trivial⟩))
     have hcan:=Lib.hid (hat'.out _ (List.getElem_mem h1))
     have hcnt:Hid (((nm :: (l.take k).map fun e=>mkS (sgAtom e)) ++ outs [.sg l[k]]).length≤1099511627776):=by
      have:=hloop.out.1
      unfold Hid
      simp [outs,Pt.out] at this ⊢
      omega
     clear ge hK
     go_wp2_with fail
     refine (put_new (w.heap.size + 1) vv _ [.sg l[k]] [.iface 163 (.agg #[.string l[k].name,.slice a2 l[k].args.length c2])] _ (wr.alloc (.cells #[.string l[k].name,.slice a2 l[k].args.length c2] 163)) 1 _ (by simp) rfl hWa.out hP.out (by intro p hp;simp only [List.mem_cons,List.not_mem_nil,or_false] at hp;subst hp;exact hcan.out) (by simp [lenMax]) hcnt.out).mono ?_
     rintro e w2 ⟨rfl,v2,hW2,hT2⟩
     have hB2:=hT2.below
     clear hT2
     have hW2':Hid (WrIs w2 (w.heap.size + 1) v2 (nm :: (l.take (k + 1)).map fun e=>mkS (sgAtom e))):=by
      rw [List.take_succ_eq_append_getElem h1,List.map_append]
      exact hW2
     have hB2':=hBa.trans hB2
     clear hW2 hB2
     go_wp2_with fail
     go_roundw
     case rel=>exact ⟨k + 1,v2,by omega,by go_num,hW2',hB2'⟩
     case measure=>simp [intOf];omega
    ·
     have e:k=l.length:=by omega
     have e':=Lib.hid e
     clear e
     have hcall:=Lib.hid (writer_String (w.heap.size + 1) vv _ wr hW.out (by
      have:=hloop.out.2
      rw [e'.out,List.take_length]
      have e2:joinSp (nm :: l.map fun e=>mkS (sgAtom e))=sgText (.mk nm l):=by rw [←this];simp [joinSp,bs,mkS,Function.comp_def]
      rw [e2];have:=hlen'.out;unfold lenMax;omega) (by have:=hloop.out.1;simp at this ⊢;unfold lenMax;omega))
     go_wp2_with fail
     refine hcall.out.mono ?_
     rintro e w2 ⟨rfl,hB2⟩
     go_wp2_with fail
     go_ret
     refine ⟨ret_str ?_,hbw.trans ((hB.mono (by omega)).trans (hB2.mono (by omega)))⟩
     have:=hloop.out.2
     rw [e'.out,←this]
     simp [joinSp,bs,mkS,Function.comp_def,List.take_of_length_le]
end Go.Proofs.YtinjocchommbdaaGreatDoor
