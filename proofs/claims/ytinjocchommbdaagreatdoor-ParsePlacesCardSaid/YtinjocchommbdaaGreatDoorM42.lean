/- A part of the proof that parser laws hold: texts of the walk and of its plain laws, made small. -/
import Derived.Test.YtinjocchommbdaaGreatDoorM38
import Derived.Test.YtinjocchommbdaaGreatDoorM39
import Derived.Test.YtinjocchommbdaaGreatDoorM41
set_option linter.unusedVariables false
set_option linter.unusedSimpArgs false
namespace Go.Proofs.YtinjocchommbdaaGreatDoor
open Go.RowKit
def xprS (e:Ex):Str:=if chkB e=true then mkS (textE e) else ⟨#[]⟩
def xprN (e:Ex):Int:=if chkB e=true then 0 else 40
theorem chk_snd {e:Ex} (h:chkB e=true):Snd e:=by
 simp only [chkB,Bool.and_eq_true] at h
 exact snd_of e h.2
theorem ret_sn {a b:Str} {m n:Int} (h:a=b) (h':m=n):Ending.returned (.tuple #[.string a,.int .i64 m])=.returned (.tuple #[.string b,.int .i64 n]):=by rw [h,h']
theorem print_Expr (e:Ex) (v:Value) (w:World) (hv:IsExT w v e) (hl:chkB e=true→(textE e).length≤1099511627775) :
  Calls Tryz.prog 22 #[v] w fun r w'=>r=.returned (.tuple #[.string (xprS e),.int .i64 (xprN e)])∧Below w.heap.size w w':=by
 have hv0:=hv
 obtain ⟨k,s,n,l,ks⟩:=e
 obtain ⟨a1,c1,a2,c2,rfl,_⟩:=hv.1.open
 have hB0:Below (w.heap.size + 1) (w.alloc (.cells #[.int .i64 k,.string s,.int .i64 n,.slice a1 l.length c1,.slice a2 ks.length c2] 27)) (w.alloc (.cells #[.int .i64 k,.string s,.int .i64 n,.slice a1 l.length c1,.slice a2 ks.length c2] 27)):=Below.refl _ _
 have hbw:=Lib.hid (below_box hB0)
 obtain ⟨k0,k1,k2,k3,k4⟩:=box5 hB0
 have hchk:=Lib.hid (tree_Check _ _ _ (hv0.below hbw.out).1)
 cases h:chkB (.mk k s n l ks)
 ·
  have hx:Hid (xprS (.mk k s n l ks)=⟨#[]⟩∧xprN (.mk k s n l ks)=40):=⟨by simp [xprS,h],by simp [xprN,h]⟩
  rw [h] at hchk
  clear h hl hv hv0 hB0
  go_enter Tryz.func22,Tryz.ntmps22
  go_wp2_with fail
  refine hchk.out.mono ?_
  rintro e w1 ⟨rfl,hB1⟩
  go_wp2_with fail
  go_ret2
  exact ⟨ret_sn hx.out.1.symm hx.out.2.symm,hbw.out.trans (hB1.mono (by simp))⟩
 ·
  have hx:Hid (xprS (.mk k s n l ks)=mkS (textE (.mk k s n l ks))∧xprN (.mk k s n l ks)=0):=⟨by simp [xprS,h],by simp [xprN,h]⟩
  have ht:=Lib.hid (fun W (hb:Below w.heap.size w W)=>text_c _ (OkT.of (chk_snd h)) (hl h) _ W (hv0.below hb))
  rw [h] at hchk
  clear h hl hv hv0 hB0
  go_enter Tryz.func22,Tryz.ntmps22
  go_wp2_with fail
  refine hchk.out.mono ?_
  rintro e w1 ⟨rfl,hB1⟩
  clear k0 k1 k2 k3 k4
  obtain ⟨k0,k1,k2,k3,k4⟩:=box5 (hB1.mono (by simp))
  have hB1':=hbw.out.trans (hB1.mono (by simp))
  clear hB1
  go_wp2_with fail
  refine (ht.out _ hB1').mono ?_
  rintro e w2 ⟨rfl,hB2⟩
  go_wp2_with fail
  go_ret2
  exact ⟨ret_sn hx.out.1.symm hx.out.2.symm,hB1'.trans (hB2.mono hB1'.size)⟩
def defW (d:Df):List Str:=[d.name,⟨#[61]⟩,mkS (textE d.body)]
def defT (d:Df):List UInt8:=joinSp (defW d)
def progL (p:Pg):List (List UInt8):=p.datas.map dataT ++ p.defs.map defT
def progW (p:Pg):List Str:=[⟨#[123]⟩,mkS (Lib.join (progL p) [32,59,32]),⟨#[125]⟩]
def progT (p:Pg):List UInt8:=if progL p=[] then [123,32,125] else joinSp (progW p)
def prgS (p:Pg):Str:=if progB p=true then mkS (progT p) else ⟨#[]⟩
def prgN (p:Pg):Int:=if progB p=true then 0 else 40
theorem prog_mem_le (p:Pg) {x:List UInt8} (h:x ∈ progL p):x.length≤(progT p).length:=by
 have hne:progL p≠[]:=by rintro e;rw [e] at h;simp at h
 unfold progT
 rw [if_neg hne]
 refine Nat.le_trans (join_mem_le (progL p) [32,59,32] h) ?_
 exact mem_le (p:=mkS (Lib.join (progL p) [32,59,32])) (l:=progW p) (by simp [progW])
theorem prog_join_le (p:Pg) (hne:progL p≠[]):(Lib.join (progL p) [32,59,32]).length≤(progT p).length:=by
 unfold progT
 rw [if_neg hne]
 exact mem_le (p:=mkS (Lib.join (progL p) [32,59,32])) (l:=progW p) (by simp [progW])
theorem sig_can {s:Sg} (h:(sgAtom s).length≤1099511627775):SgAtomC s :=
 sigAtom_c s (fun _=>sig_c s (Nat.le_trans (sgText_le_atom s) h)) (Nat.le_trans (sgText_le_atom s) h)
theorem data_can {d:Dt} (h:(dataT d).length≤1099511627775):∀ f ∈ d.forms,∀ e ∈ f.args,SgAtomC e:=fun f hf e he=>by
 refine sig_can (Nat.le_trans (mem_le (p:=mkS (sgAtom e)) (l:=dataW d) ?_) h)
 have:mkS (sgAtom e) ∈ formsW d.forms:=by
  cases hfs:d.forms with
  | nil=>rw [hfs] at hf;simp at hf
  | cons g r =>
   rw [hfs] at hf
   simp only [formsW,List.mem_append,List.mem_flatMap,formW,List.mem_cons,List.mem_map]
   rcases List.mem_cons.1 hf with rfl | hf
   ·
    exact .inl (.inr ⟨e,he,rfl⟩)
   ·
    exact .inr ⟨f,hf,.inr (.inr ⟨e,he,rfl⟩)⟩
 unfold dataW
 exact List.mem_append_right _ this
theorem print_of_newB (T:List UInt8) (ps:List Pt) (vs:List Value) (t:TypeId) (w:World) (n B:Nat) (hB:w.heap.size=B) (hn:ps.length=n) (hP:Pts (w.alloc (.cells vs.toArray t)) vs ps) (hcan:∀ p ∈ ps,p.can) (hlen:ps.length≤lenMax) (hT:T.length≤1099511627775) (he:joinSp (outs ps)=T) :
  Calls Tryz.prog 58 #[.slice (some ⟨B,0,none⟩) n n] (w.alloc (.cells vs.toArray t)) fun r w'=>r=.returned (.string (mkS T))∧Below w.heap.size w w':=by
 subst hB
 exact print_of_new T ps vs t w n hn hP hcan hlen hT he
theorem IsDf.body {w:World} {v0 v1 v2 v3 v4 v5:Value} {d:Df} (h:IsDf w (.agg #[v0,v1,v2,v3,v4,v5]) d):IsEx w (.agg #[v1,v2,v3,v4,v5]) d.body:=by
 obtain ⟨x1,x2,x3,x4,x5,hv,_,he⟩:=h
 simp only [Value.agg.injEq,Array.mk.injEq,List.cons.injEq,and_true] at hv
 obtain ⟨-,rfl,rfl,rfl,rfl,rfl⟩:=hv
 exact he
theorem prog_owned (ds:List Dt) (fs:List Df):(ds.map (fun d=>mkS (dataT d)) ++ fs.map fun d=>mkS (defT d)).map bs=progL ⟨ds,fs⟩:=by
 simp [progL,Function.comp_def,bs_mkS]
set_option maxHeartbeats 4000000 in
set_option maxRecDepth 100000 in
theorem print_Prog (p:Pg) (v:Value) (w:World) (hv:IsPg w v p) (ht:Tab w) (hl:progB p=true→(progT p).length≤1099511627775) :
  Calls Tryz.prog 21 #[v] w fun r w'=>r=.returned (.tuple #[.string (prgS p),.int .i64 (prgN p)])∧Below w.heap.size w w':=by
 have hv0:=hv
 obtain ⟨ds,fs⟩:=p
 obtain ⟨a1,c1,a2,c2,rfl,hds,hfs,hdr,hfr⟩:=hv
 simp only at hds hfs hdr hfr
 unfold lenMax at hds hfs
 have hB0:Below (w.heap.size + 1) (w.alloc (.cells #[.slice a1 ds.length c1,.slice a2 fs.length c2] 38)) (w.alloc (.cells #[.slice a1 ds.length c1,.slice a2 fs.length c2] 38)):=Below.refl _ _
 have hbw:=Lib.hid (below_box hB0)
 obtain ⟨k0,k1⟩:=box2 hB0
 have hchk:=Lib.hid (tree_Prog _ _ _ (hv0.keeps (Keeps.of_below hbw.out)))
 cases h:progB ⟨ds,fs⟩
 ·
  have hx:Hid (prgS ⟨ds,fs⟩=⟨#[]⟩∧prgN ⟨ds,fs⟩=40):=⟨by simp [prgS,h],by simp [prgN,h]⟩
  rw [h] at hchk
  clear h hl hv0 hB0 hdr hfr
  go_enter Tryz.func21,Tryz.ntmps21
  go_wp2_with fail
  refine hchk.out.mono ?_
  rintro e w1 ⟨rfl,hB1⟩
  go_wp2_with fail
  go_ret2
  exact ⟨ret_sn hx.out.1.symm hx.out.2.symm,hbw.out.trans (hB1.mono (by simp))⟩
 have hx:Hid (prgS ⟨ds,fs⟩=mkS (progT ⟨ds,fs⟩)∧prgN ⟨ds,fs⟩=0):=⟨by simp [prgS,h],by simp [prgN,h]⟩
 have hT:=Lib.hid (hl h)
 have hdef:Hid (∀ d ∈ fs,TextC d.body∧(defT d).length≤1099511627775):=fun d hd=>by
  have h1:(defT d).length≤1099511627775:=Nat.le_trans (prog_mem_le ⟨ds,fs⟩ (by simp only [progL,List.mem_append,List.mem_map];exact .inr ⟨d,hd,rfl⟩)) hT.out
  refine ⟨?_,h1⟩
  simp only [progB,Bool.and_eq_true,List.all_eq_true] at h
  have h2:=h.2 d hd
  simp only [defB,Bool.and_eq_true] at h2
  exact text_c _ (OkT.of (chk_snd h2.2)) (Nat.le_trans (mem_le (p:=mkS (textE d.body)) (l:=defW d) (by simp [defW])) h1)
 have hdat:Hid (∀ d ∈ ds,(∀ f ∈ d.forms,∀ e ∈ f.args,SgAtomC e)∧(dataT d).length≤1099511627775):=fun d hd=>by
  have h1:(dataT d).length≤1099511627775:=Nat.le_trans (prog_mem_le ⟨ds,fs⟩ (by simp only [progL,List.mem_append,List.mem_map];exact .inl ⟨d,hd,rfl⟩)) hT.out
  exact ⟨data_can h1,h1⟩
 have hd40:ds.length≤40∧fs.length≤40:=by simp only [progB,Bool.and_eq_true,decide_eq_true_eq] at h;exact h.1.1
 obtain ⟨hd40,hf40⟩:=hd40
 have hdr':=Lib.hid (hdr.keeps (Keeps.of_below hbw.out))
 have hfr':=Lib.hid (hfr.keeps (Keeps.of_below hbw.out))
 have ht':=Lib.hid (ht.below hbw.out)
 obtain ⟨i0,hi,hz0,hz1,hz2⟩:=info_parts Tryz.infoStr
 rw [h] at hchk
 clear h hl hv0 hB0 hdr hfr ht
 go_enter Tryz.func21,Tryz.ntmps21
 go_wp2_with fail
 refine hchk.out.mono ?_
 rintro e w1 ⟨rfl,hB1⟩
 have hB1':Below (w.heap.size + 1) (w.alloc (.cells #[.slice a1 ds.length c1,.slice a2 fs.length c2] 38)) w1:=hB1.mono (by simp)
 obtain ⟨j0,j1⟩:=box2 hB1'
 have hz1':w.heap.size + 1≤w1.heap.size:=by have:=hB1'.size;simpa using this
 clear hB1 k0 k1
 go_wp2_with fail
 go_loopw [4,15] (fun v i wr=>∃ (k:Nat),k≤ds.length∧i=.int .i64 k∧Hid (wr.ownsRow (w.heap.size + 1) 9 1 v k (((ds.take k).map fun d=>mkS (dataT d)).map Value.string))∧Below (w.heap.size + 1) (w.alloc (.cells #[.slice a1 ds.length c1,.slice a2 fs.length c2] 38)) wr) (fun _ i _=>ds.length - (intOf i).toNat)
 case atStart=>exact ⟨0,by omega,rfl,⟨by simp,.inl ⟨rfl,rfl⟩⟩,hB1'⟩
 case round =>
  clear hB1' j0 j1 hz1'
  obtain ⟨k,hk,rfl,hown,hB⟩:=hrel
  have hz:=size_box hB
  by_cases h1:k < ds.length
  ·
   obtain ⟨b,off,rfl,hat⟩:=(hdr'.out.keeps (Keeps.of_below (hB.mono (by simp)))).at (by rintro rfl;simp at h1)
   obtain ⟨a5,c5,a6,c6,g0,g1,g2,ge⟩:=hat k h1
   have hd:=hdat.out _ (List.getElem_mem h1)
   have hbx0:Below wr.heap.size wr (wr.alloc (.cells #[.string ds[k].name,.slice a5 ds[k].params.length c5,.slice a6 ds[k].forms.length c6] 77)):=(Below.refl _ _).alloc (Nat.le_refl _) _
   have hcall:=Lib.hid (data_c _ _ _ (ge.keeps (Keeps.of_below hbx0)) hd.1 hd.2)
   have hbx0':=Lib.hid hbx0
   clear hbx0 hd ge hat
   go_wp2_with fail
   refine hcall.out.mono ?_
   rintro e w2 ⟨rfl,hB2⟩
   have hbx:=Lib.hid (hbx0'.out.trans (hB2.mono (by simp)))
   have own1:=Lib.hid (ownsRow_heap hown.out (fun g hg=>hbx.out.block g (ownBlock_ge hown.out hg).2))
   have hz2':w.heap.size + 1≤w2.heap.size:=by have:=hbx.out.size;omega
   clear hB2 hcall
   go_wp2_with (at_builtin;go_must (refine wpList_append_own_at _ rfl _ _ 24 rfl (w.heap.size + 1) 9 i0 (.string ⟨#[]⟩) 1 16 Tryz.underlying24 hi hz0 hz1 hz2 rfl (by decide) _ _ _ rfl (own1.out.alloc _) ⟨w2.heap.size,0,none⟩ 1 1 [.string (mkS (dataT ds[k]))] rfl rfl (cell_one_new _ _ _) (by simp [Value.oneCell']) (by unfold maxLen;omega) (by omega) (by simp;omega) ?_);intro v2 w3 hown2 hg2 _ hat2;have hB3:=Lib.hid (((hB.trans (hbx.out.mono (by omega))).alloc (by omega) _).grown hg2 (by simp;omega) (fun q e=>(ownBlock_ge hown.out e).1));have hown2':=Lib.hid hown2;clear hown2 hg2 hat2)
   go_roundw
   case rel =>
    refine ⟨k + 1,by omega,by go_num,?_,hB3.out⟩
    have:=hown2'.out
    rw [List.take_succ_eq_append_getElem h1,List.map_append,List.map_append]
    exact this
   case measure=>simp [intOf];omega
  ·
   obtain ⟨j0,j1⟩:=box2 hB
   have e:k=ds.length:=by omega
   have hown0:Hid (wr.ownsRow (w.heap.size + 1) 9 1 u4 (ds.length + 0) ((ds.map (fun d=>mkS (dataT d)) ++ (fs.take 0).map fun d=>mkS (defT d)).map Value.string)):=by
    have:=hown.out
    rw [e,List.take_length] at this
    unfold Hid
    simpa using this
   clear hown e
   go_wp2_with fail
   go_loopw [4,28] (fun v i wr=>∃ (k:Nat),k≤fs.length∧i=.int .i64 k∧Hid (wr.ownsRow (w.heap.size + 1) 9 1 v (ds.length + k) ((ds.map (fun d=>mkS (dataT d)) ++ (fs.take k).map fun d=>mkS (defT d)).map Value.string))∧Below (w.heap.size + 1) (w.alloc (.cells #[.slice a1 ds.length c1,.slice a2 fs.length c2] 38)) wr) (fun _ i _=>fs.length - (intOf i).toNat)
   case atStart=>exact ⟨0,by omega,rfl,hown0,hB⟩
   case round =>
    clear hown0 hB j0 j1 hk h1 hz
    obtain ⟨m,hm,rfl,hown,hB⟩:=hrel
    have hz:=size_box hB
    by_cases h2:m < fs.length
    ·
     obtain ⟨b,off,rfl,hat⟩:=(hfr'.out.keeps (Keeps.of_below (hB.mono (by simp)))).at (by rintro rfl;simp at h2)
     obtain ⟨a5,c5,a6,c6,g0,g1,g2,g3,g4,g5,ge⟩:=hat m h2
     have hd:=hdef.out _ (List.getElem_mem h2)
     have hbx0:Below wr.heap.size wr (wr.alloc (.cells #[.string fs[m].name,.int .i64 fs[m].body.kind,.string fs[m].body.name,.int .i64 fs[m].body.num,.slice a5 fs[m].body.names.length c5,.slice a6 fs[m].body.kids.length c6] 79)):=(Below.refl _ _).alloc (Nat.le_refl _) _
     have hP:=Lib.hid (fun (W:World) (hb:Below wr.heap.size wr W)=>(show Pts W [.iface 9 (.string fs[m].name),.iface 9 (.string ⟨#[61]⟩),.iface 27 (.agg #[.int .i64 fs[m].body.kind,.string fs[m].body.name,.int .i64 fs[m].body.num,.slice a5 fs[m].body.names.length c5,.slice a6 fs[m].body.kids.length c6])] [.str fs[m].name,.str ⟨#[61]⟩,.ex fs[m].body] from ⟨rfl,rfl,⟨_,rfl,IsExT.below ⟨ge.body,ht'.out.below (hB.mono (by simp))⟩ hb⟩,trivial⟩))
     have hbx0':=Lib.hid hbx0
     have hd':=Lib.hid hd
     clear hbx0 hd ge hat
     go_wp2_with fail
     refine (print_of_newB (defT fs[m]) [.str fs[m].name,.str ⟨#[61]⟩,.ex fs[m].body] [.iface 9 (.string fs[m].name),.iface 9 (.string ⟨#[61]⟩),.iface 27 (.agg #[.int .i64 fs[m].body.kind,.string fs[m].body.name,.int .i64 fs[m].body.num,.slice a5 fs[m].body.names.length c5,.slice a6 fs[m].body.kids.length c6])] 20 (wr.alloc (.cells #[.string fs[m].name,.int .i64 fs[m].body.kind,.string fs[m].body.name,.int .i64 fs[m].body.num,.slice a5 fs[m].body.names.length c5,.slice a6 fs[m].body.kids.length c6] 79)) 3 _ (by simp) rfl (hP.out _ (hbx0'.out.alloc (by simp) _)) (by intro p hp;simp only [List.mem_cons,List.not_mem_nil,or_false] at hp;rcases hp with rfl | rfl | rfl;trivial;trivial;exact hd'.out.1) (by simp [lenMax]) hd'.out.2 rfl).mono ?_
     rintro e w2 ⟨rfl,hB2⟩
     have hbx:=Lib.hid (hbx0'.out.trans (hB2.mono (by simp)))
     have own1:=Lib.hid (ownsRow_heap hown.out (fun g hg=>hbx.out.block g (ownBlock_ge hown.out hg).2))
     have hz2':w.heap.size + 1≤w2.heap.size:=by have:=hbx.out.size;omega
     clear hB2 hP
     go_wp2_with (at_builtin;go_must (refine wpList_append_own_at _ rfl _ _ 24 rfl (w.heap.size + 1) 9 i0 (.string ⟨#[]⟩) 1 16 Tryz.underlying24 hi hz0 hz1 hz2 rfl (by decide) _ _ _ rfl (own1.out.alloc _) ⟨w2.heap.size,0,none⟩ 1 1 [.string (mkS (defT fs[m]))] rfl rfl (cell_one_new _ _ _) (by simp [Value.oneCell']) (by unfold maxLen;omega) (by omega) (by simp;omega) ?_);intro v2 w3 hown2 hg2 _ hat2;have hB3:=Lib.hid (((hB.trans (hbx.out.mono (by omega))).alloc (by omega) _).grown hg2 (by simp;omega) (fun q e=>(ownBlock_ge hown.out e).1));have hown2':=Lib.hid hown2;clear hown2 hg2 hat2)
     go_roundw
     case rel =>
      refine ⟨m + 1,by omega,by go_num,?_,hB3.out⟩
      have:=hown2'.out
      rw [show (ds.map (fun d=>mkS (dataT d)) ++ (fs.take (m + 1)).map fun d=>mkS (defT d)).map Value.string=(ds.map (fun d=>mkS (dataT d)) ++ (fs.take m).map fun d=>mkS (defT d)).map Value.string ++ [.string (mkS (defT fs[m]))] from by rw [List.take_succ_eq_append_getElem h2];simp only [List.map_append,List.map_cons,List.map_nil,List.append_assoc]]
      exact this
     case measure=>simp [intOf];omega
    ·
     have e:m=fs.length:=by omega
     have hown1:=hown.out
     rw [e,List.take_length] at hown1
     obtain ⟨nn,hnn⟩:∃ nn,ds.length + fs.length=nn:=⟨_,rfl⟩
     obtain ⟨va,vc,hvv⟩:=ownsRow_form hown.out
     rw [e,hnn] at hvv
     rw [hnn] at hown1
     subst hvv
     have hown1':=Lib.hid hown1
     have hnn':=Lib.hid hnn
     clear hown hown1 e hnn
     by_cases h3:nn=0
     ·
      have hT0:Hid (progT ⟨ds,fs⟩=[123,32,125]):=by
       have:=hnn'.out
       obtain rfl:ds=[]:=List.length_eq_zero_iff.1 (by omega)
       obtain rfl:fs=[]:=List.length_eq_zero_iff.1 (by omega)
       rfl
      have h4:((nn:Int) == 0)=true:=by rw [h3];rfl
      clear h3
      go_wp2_with fail
      go_ret2
      exact ⟨ret_sn (by rw [hx.out.1,hT0.out];rfl) hx.out.2.symm,hbw.out.trans (hB.mono (by simp))⟩
     ·
      have h4:((nn:Int) == 0)=false:=by rw [beq_eq_false_iff_ne];omega
      have hne:progL ⟨ds,fs⟩≠[]:=by
       intro h;have:=congrArg List.length h;have:=hnn'.out;simp [progL] at *;simp_all
      have hjl:=prog_join_le ⟨ds,fs⟩ hne
      have hTe:Hid (progT ⟨ds,fs⟩=joinSp (progW ⟨ds,fs⟩)):=by unfold Hid progT;rw [if_neg hne]
      have hcall:Hid (Calls Tryz.prog 59 #[.slice va nn vc,.string ⟨#[32,59,32]⟩] wr fun r w'=>r=.returned (.string (mkS (Lib.join (progL ⟨ds,fs⟩) [32,59,32])))∧Below wr.heap.size wr w'):=by
       have:=join_owned ⟨#[32,59,32]⟩ hown1'.out (by rw [prog_owned];have:=hT.out;unfold lenMax;exact Nat.le_trans hjl (by omega)) (by have:=hnn'.out;unfold lenMax;omega)
       rw [prog_owned] at this
       exact this
      clear hjl hne h3
      go_wp2_with fail
      refine hcall.out.mono ?_
      rintro e w2 ⟨rfl,hB2⟩
      have hB2':=hbw.out.trans ((hB.mono (by simp)).trans (hB2.mono (by omega)))
      clear hB2
      go_wp2_with fail
      refine (print_of_new (progT ⟨ds,fs⟩) [.str ⟨#[123]⟩,.str (mkS (Lib.join (progL ⟨ds,fs⟩) [32,59,32])),.str ⟨#[125]⟩] [.iface 9 (.string ⟨#[123]⟩),.iface 9 (.string (mkS (Lib.join (progL ⟨ds,fs⟩) [32,59,32]))),.iface 9 (.string ⟨#[125]⟩)] 20 w2 3 rfl (by exact ⟨rfl,rfl,rfl,trivial⟩) (by intro p hp;simp only [List.mem_cons,List.not_mem_nil,or_false] at hp;rcases hp with rfl | rfl | rfl <;> trivial) (by simp [lenMax]) hT.out (by rw [hTe.out];rfl)).mono ?_
      rintro e w3 ⟨rfl,hB3⟩
      go_wp2_with fail
      go_ret2
      exact ⟨ret_sn hx.out.1.symm hx.out.2.symm,hB2'.trans (hB3.mono hB2'.size)⟩
end Go.Proofs.YtinjocchommbdaaGreatDoor
