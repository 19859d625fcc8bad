/- A part of the proof that parser laws hold: texts of the walk and of its plain laws, made small. -/
import Derived.Test.YtinjocchommbdaaGreatDoorM37
import Derived.Test.YtinjocchommbdaaGreatDoorM32
set_option linter.unusedVariables false
set_option linter.unusedSimpArgs false
namespace Go.Proofs.YtinjocchommbdaaGreatDoor
open Go.RowKit
def formW (f:Sg):List Str:=f.name :: f.args.map fun e=>mkS (sgAtom e)
def formsW:List Sg→List Str
 | []=>[]
 | f :: r=>formW f ++ r.flatMap fun f=>⟨#[124]⟩ :: formW f
def dataW (d:Dt):List Str:=[⟨#[100,97,116,97]⟩,d.name] ++ d.params ++ [⟨#[61]⟩] ++ formsW d.forms
def dataT (d:Dt):List UInt8:=joinSp (dataW d)
theorem formsW_succ (fs:List Sg) (k:Nat) (h:k < fs.length):formsW (fs.take (k + 1))=formsW (fs.take k) ++ ((if 0 < k then [⟨#[124]⟩] else []) ++ formW fs[k]):=by
 cases fs with
 | nil=>simp at h
 | cons f r =>
  cases k with
  | zero=>simp [formsW]
  | succ k =>
   have hk:k < r.length:=by simpa using h
   simp only [List.take_succ_cons,formsW,List.getElem_cons_succ,if_pos (Nat.succ_pos k)]
   rw [List.take_succ_eq_append_getElem hk,List.flatMap_append]
   simp [List.append_assoc]
theorem formsW_le (fs:List Sg) (k:Nat):(formsW (fs.take k)).length≤(formsW fs).length:=by
 induction fs generalizing k with
 | nil=>simp
 | cons f r =>
  cases k with
  | zero=>simp [formsW]
  | succ k =>
   simp only [List.take_succ_cons,formsW,List.length_append]
   have:(r.take k).flatMap (fun f=>(⟨#[124]⟩:Str) :: formW f) ++ (r.drop k).flatMap (fun f=>(⟨#[124]⟩:Str) :: formW f)=r.flatMap (fun f=>(⟨#[124]⟩:Str) :: formW f):=by rw [←List.flatMap_append,List.take_append_drop]
   rw [←this,List.length_append];omega
structure Aside (w:World) (bp:Nat) (v:Value) (B:Nat):Prop where
 lt:B < w.heap.size
 ne:B≠bp
 own:v.ownBlock≠some B
theorem WrTo.aside {w W:World} {bp B:Nat} {v vv:Value} (h:WrTo w bp v W vv) (a:Aside w bp v B):Aside W bp vv B∧∀ o x,w.cell? ⟨B,o,none⟩=some x→W.cell? ⟨B,o,none⟩=some x:=by
 refine ⟨⟨Nat.lt_of_lt_of_le a.lt h.keeps.1,a.ne,?_⟩,fun o x hx=>h.keeps.2 _ _ (fun hh=>?_) hx⟩
 ·
  rcases h.own with e | e
  ·
   rw [e];exact a.own
  ·
   intro hg;have:=e _ hg;have:=a.lt;omega
 ·
  rcases hh with hh | hh
  ·
   exact a.ne hh
  ·
   exact a.own hh
theorem aside_new {w:World} {bp:Nat} {v:Value} {l:List Str} (o:Obj) (h:WrIs w bp v l):Aside (w.alloc o) bp v w.heap.size :=
 ⟨by simp,by have:=h.lt;omega,fun e=>by have:=(ownBlock_ge h.2 e).2;omega⟩
set_option maxHeartbeats 4000000 in
set_option maxRecDepth 100000 in
theorem data_c (d:Dt) (v:Value) (w:World) (hv:IsDt w v d) (hat:∀ f ∈ d.forms,∀ e ∈ f.args,SgAtomC e) (hlen:(dataT d).length≤1099511627775) :
  Calls Tryz.prog 57 #[v] w fun r w'=>r=.returned (.string (mkS (dataT d)))∧Below w.heap.size w w':=by
 obtain ⟨nm,ps,fs⟩:=d
 obtain ⟨a1,c1,a2,c2,rfl,hcap,hs,hps,hfs,hpr,hfr⟩:=hv
 simp only at hs hps hfs hpr hfr hat hcap
 have hN:Hid ((dataW ⟨nm,ps,fs⟩).length≤1099511627776):=by
  have:=count_le (dataW ⟨nm,ps,fs⟩)
  unfold dataT at hlen;unfold Hid;omega
 have hps':=hps
 unfold lenMax at hps hfs
 have hB0:Below (w.heap.size + 1) (w.alloc (.cells #[.string nm,.slice a1 ps.length c1,.slice a2 fs.length c2] 77)) (w.alloc (.cells #[.string nm,.slice a1 ps.length c1,.slice a2 fs.length c2] 77)):=Below.refl _ _
 have hbw:=Lib.hid (below_box hB0)
 obtain ⟨k0,k1,k2⟩:=box3 hB0
 have hpr':=Lib.hid (hpr.keeps (keeps_box hB0))
 have hfr':=hfr.keeps (keeps_box hB0)
 have hat':=Lib.hid hat
 have hlen':=Lib.hid hlen
 have hp1:Hid (∀ W:World,Below (w.heap.size + 1) ((w.alloc (.cells #[.string nm,.slice a1 ps.length c1,.slice a2 fs.length c2] 77)).alloc (.cells #[.slice none 0 0] 161)) W→Pts W [.iface 9 (.string ⟨#[100,97,116,97]⟩),.iface 9 (.string nm),.iface 24 (.slice a1 ps.length c1),.iface 9 (.string ⟨#[61]⟩)] [.str ⟨#[100,97,116,97]⟩,.str nm,.strs ps,.str ⟨#[61]⟩]):=fun W hb =>
  ⟨rfl,rfl,⟨_,_,rfl,hcap,hps',hpr'.out.keeps (Keeps.of_below ((((Below.refl _ _).alloc (by simp) _).trans hb).mono (by simp)))⟩,rfl,trivial⟩
 clear hpr hfr hat hlen hB0 hcap hs
 go_enter Tryz.func57,Tryz.ntmps57
 go_wp2_with fail
 refine (put_new (w.heap.size + 1) (.slice none 0 0) [] [.str ⟨#[100,97,116,97]⟩,.str nm,.strs ps,.str ⟨#[61]⟩] [.iface 9 (.string ⟨#[100,97,116,97]⟩),.iface 9 (.string nm),.iface 24 (.slice a1 ps.length c1),.iface 9 (.string ⟨#[61]⟩)] _ ((w.alloc (.cells #[.string nm,.slice a1 ps.length c1,.slice a2 fs.length c2] 77)).alloc (.cells #[.slice none 0 0] 161)) 4 _ (by simp) rfl (wr_new _ _ (by simp)) hp1.out (by simp [Pt.can]) (by simp [lenMax]) (by have:=hN.out;simp [dataW] at this;simp [outs,Pt.out];omega)).mono ?_
 rintro e w1 ⟨rfl,v1,hW1,hT1⟩
 have hB1:Below (w.heap.size + 1) (w.alloc (.cells #[.string nm,.slice a1 ps.length c1,.slice a2 fs.length c2] 77)) w1:=((Below.refl _ _).alloc (by simp) _).trans hT1.below
 have hW1':Hid (WrIs w1 (w.heap.size + 1) v1 ([⟨#[100,97,116,97]⟩,nm] ++ ps ++ [⟨#[61]⟩] ++ formsW (fs.take 0))):=by
  have:=hW1
  simp [outs,Pt.out] at this
  unfold Hid;simpa [formsW] using this
 have j2:=(box3 hB1).2.2
 clear hT1 hW1 k0 k1 k2 hp1
 go_wp2_with fail
 go_loopw [23] (fun i wr=>∃ (k:Nat) (vv:Value),k≤fs.length∧i=.int .i64 k∧Hid (WrIs wr (w.heap.size + 1) vv ([⟨#[100,97,116,97]⟩,nm] ++ ps ++ [⟨#[61]⟩] ++ formsW (fs.take k)))∧Below (w.heap.size + 1) (w.alloc (.cells #[.string nm,.slice a1 ps.length c1,.slice a2 fs.length c2] 77)) wr) (fun i _=>fs.length - (intOf i).toNat)
 case atStart=>exact ⟨0,v1,by omega,rfl,hW1',hB1⟩
 case round =>
  clear hW1' hB1 j2
  obtain ⟨k,vv,hk,rfl,hW,hB⟩:=hrel
  have hz:=hW.out.lt
  by_cases h1:k < fs.length
  ·
   obtain ⟨b,off,rfl,harg⟩:=hfr'.arg (by rintro rfl;simp at h1)
   obtain ⟨a3,c3,g0,g1,ge⟩:=harg k h1
   have hK:Keeps _ wr:=Keeps.of_below (hB.mono (by simp))
   replace g0:=hK _ _ g0
   replace g1:=hK _ _ g1
   have hgo:=ge
   have hff:=List.getElem_mem h1
   have hsucc:=Lib.hid (formsW_succ fs k h1)
   have hle:=Lib.hid (formsW_le fs (k + 1))
   obtain ⟨f,hf⟩:∃ f,fs[k]=f:=⟨_,rfl⟩
   rw [hf] at g0 g1 ge hgo hff hsucc
   obtain ⟨fn,fl⟩:=f
   simp only [Sg.name,Sg.args] at g0 g1 ge hgo
   obtain ⟨x1,x2,hx,hfs1,hfl,hflr⟩:=ge.open
   simp only [Value.agg.injEq,Array.mk.injEq,List.cons.injEq,Value.slice.injEq,and_true,true_and] at hx
   obtain ⟨rfl,rfl⟩:=hx
   unfold lenMax at hfl hfs1
   have hff':=Lib.hid hff
   have hBa:=hB.alloc (Nat.le_of_lt hz) (.cells #[.string fn,.slice a3 fl.length c3] 125)
   have hWa:=hW.out.below ((Below.refl _ _).alloc (Nat.le_refl _) (.cells #[.string fn,.slice a3 fl.length c3] 125))
   have hasd:=aside_new (.cells #[.string fn,.slice a3 fl.length c3] 125) hW.out
   obtain ⟨q0,q1⟩:=box2 (w:=wr) (v0:=.string fn) (v1:=.slice a3 fl.length c3) (t:=125) (Below.refl _ _)
   have hqr:=Lib.hid hflr
   have hat2:=Lib.hid (hat'.out _ hff)
   simp only [Sg.args] at hat2
   obtain ⟨L,hL⟩:∃ L,[⟨#[100,97,116,97]⟩,nm] ++ ps ++ [⟨#[61]⟩] ++ formsW (fs.take k) ++ (if 0 < k then [⟨#[124]⟩] else [])=L:=⟨_,rfl⟩
   have hL1:Hid ([⟨#[100,97,116,97]⟩,nm] ++ ps ++ [⟨#[61]⟩] ++ formsW (fs.take (k + 1))=L ++ [fn] ++ fl.map fun e=>mkS (sgAtom e)):=by
    unfold Hid
    rw [hsucc.out,←hL]
    simp [formW,List.append_assoc,Sg.name,Sg.args]
   have hnum:Hid (L.length + 1 + fl.length≤1099511627776):=by
    have h5:=congrArg List.length hL1.out
    have h6:=hN.out
    have h7:=hle.out
    unfold Hid
    simp [dataW] at h5 h6
    omega
   clear ge hgo hff hflr hsucc hle hf hK harg hff'
   rcases Nat.eq_zero_or_pos k with h0 | h0
   case' inl =>
    have hWA:Hid (WrIs (wr.alloc (.cells #[.string fn,.slice a3 fl.length c3] 125)) (w.heap.size + 1) vv L):=by rw [←hL,if_neg (by omega),List.append_nil];exact hWa
    have hk0:(k:Int)≤0:=by omega
    have hBA:=hBa
    have hAA:=hasd
    clear hBa hasd hWa h0 hB
    go_wp2_with fail
   case' inr =>
    have hk0:(0:Int) < (k:Int):=by omega
    have hLa:=Lib.hid hL
    have hWa':=Lib.hid hWa
    clear hWa hL
    go_wp2_with fail
    refine (put_new (w.heap.size + 1) vv _ [.str ⟨#[124]⟩] [.iface 9 (.string ⟨#[124]⟩)] _ (wr.alloc (.cells #[.string fn,.slice a3 fl.length c3] 125)) 1 _ (by simp) rfl hWa'.out (fun _ _=>⟨rfl,trivial⟩) (by simp [Pt.can]) (by simp [lenMax]) (by
     have h5:=congrArg List.length hLa.out
     rw [if_pos h0] at h5
     have h6:=hnum.out
     simp [outs,Pt.out] at h5 ⊢
     omega)).mono ?_
    rintro e w2 ⟨rfl,v2,hW2,hT2⟩
    have hWA:Hid (WrIs w2 (w.heap.size + 1) v2 L):=by
     rw [←hLa.out,if_pos h0];exact hW2
    obtain ⟨hAA,hq⟩:=hT2.aside hasd
    have hBA:=hBa.trans hT2.below
    replace q0:=hq _ _ q0
    replace q1:=hq _ _ q1
    clear hBa hasd hWa' h0 hB hT2 hW2 hLa
    clear hq
    go_wp2_with fail
   all_goals
    refine (put_new (w.heap.size + 1) _ _ [.str fn] [.iface 9 (.string fn)] _ _ 1 _ (by simp) rfl hWA.out (fun _ _=>⟨rfl,trivial⟩) (by simp [Pt.can]) (by simp [lenMax]) (by have h6:=hnum.out;simp [outs,Pt.out];omega)).mono ?_
    rintro e w3 ⟨rfl,v3,hW3,hT3⟩
    obtain ⟨hA3,hq⟩:=hT3.aside hAA
    have hB3:=hBA.trans hT3.below
    have hW3':Hid (WrIs w3 (w.heap.size + 1) v3 (L ++ [fn] ++ (fl.take 0).map fun e=>mkS (sgAtom e))):=by
     simpa [Hid,outs,Pt.out] using hW3
    replace q0:=hq _ _ q0
    replace q1:=hq _ _ q1
    clear hq hT3 hW3 hAA hBA hWA hA3
    go_wp2_with fail
    go_loopw [43] (fun i wi=>∃ (m:Nat) (vi:Value),m≤fl.length∧i=.int .i64 m∧Hid (WrIs wi (w.heap.size + 1) vi (L ++ [fn] ++ (fl.take m).map fun e=>mkS (sgAtom e)))∧Below (w.heap.size + 1) (w.alloc (.cells #[.string nm,.slice a1 ps.length c1,.slice (some ⟨b,off,none⟩) fs.length c2] 77)) wi) (fun i _=>fl.length - (intOf i).toNat)
    case atStart=>exact ⟨0,v3,by omega,rfl,hW3',hB3⟩
    case round =>
     clear hW3' hB3 q0 q1
     obtain ⟨m,vi,hm,rfl,hWi,hBi⟩:=hrel
     have hzi:=hWi.out.lt
     by_cases h2:m < fl.length
     ·
      obtain ⟨b5,off5,rfl,harg⟩:=hqr.out.arg (by rintro rfl;simp at h2)
      obtain ⟨a5,c5,g0,g1,ge⟩:=harg m h2
      have hK:Keeps _ wr:=Keeps.of_below (hBi.mono (by simp))
      replace g0:=hK _ _ g0
      replace g1:=hK _ _ g1
      have hBa:=hBi.alloc (Nat.le_of_lt hzi) (.cells #[.string fl[m].name,.slice a5 fl[m].args.length c5] 163)
      have hWa:=Lib.hid (hWi.out.below ((Below.refl _ _).alloc (Nat.le_refl _) (.cells #[.string fl[m].name,.slice a5 fl[m].args.length c5] 163)))
      have hP:=Lib.hid (fun (W:World) (hb:Below (w.heap.size + 1) (wr.alloc (.cells #[.string fl[m].name,.slice a5 fl[m].args.length c5] 163)) W)=>(show Pts W [.iface 163 (.agg #[.string fl[m].name,.slice a5 fl[m].args.length c5])] [.sg fl[m]] from ⟨⟨_,rfl,IsSg.keeps (Keeps.of_below ((hBa.trans hb).mono (by simp))) _ _ ge⟩,trivial⟩))
      have hcan:=Lib.hid (hat2.out _ (List.getElem_mem h2))
      clear ge hK harg
      go_wp2_with fail
      refine (put_new (w.heap.size + 1) vi _ [.sg fl[m]] [.iface 163 (.agg #[.string fl[m].name,.slice a5 fl[m].args.length c5])] _ (wr.alloc (.cells #[.string fl[m].name,.slice a5 fl[m].args.length c5] 163)) 1 _ (by simp) rfl hWa.out hP.out (by intro p hp;simp only [List.mem_cons,List.not_mem_nil,or_false] at hp;subst hp;exact hcan.out) (by simp [lenMax]) (by have h6:=hnum.out;simp [outs,Pt.out];omega)).mono ?_
      rintro e w5 ⟨rfl,v5,hW5,hT5⟩
      have hW5':Hid (WrIs w5 (w.heap.size + 1) v5 (L ++ [fn] ++ (fl.take (m + 1)).map fun e=>mkS (sgAtom e))):=by
       rw [List.take_succ_eq_append_getElem h2,List.map_append,←List.append_assoc]
       exact hW5
      have hB5':=hBa.trans hT5.below
      clear hW5 hT5
      go_wp2_with fail
      go_roundw
      case rel=>exact ⟨m + 1,v5,by omega,by go_num,hW5',hB5'⟩
      case measure=>simp [intOf];omega
     ·
      go_wp2_with fail
      go_roundw
      case rel=>exact ⟨k + 1,vi,by omega,by go_num,by
       rw [hL1.out]
       have:=hWi.out
       rw [List.take_of_length_le (by omega)] at this
       exact this,hBi⟩
      case measure=>simp [intOf];omega
  ·
   have e:k=fs.length:=by omega
   have e':=Lib.hid e
   clear e
   have hcall:=Lib.hid (writer_String (w.heap.size + 1) vv _ wr hW.out (by
    rw [e'.out,List.take_length]
    have:=hlen'.out
    unfold lenMax;unfold dataT dataW at this;simp only at this;omega) (by rw [e'.out,List.take_length];have:=hN.out;unfold dataW at this;simp only at this;unfold lenMax;omega))
   go_wp2_with fail
   refine hcall.out.mono ?_
   rintro e w2 ⟨rfl,hB2⟩
   go_wp2_with fail
   go_ret
   refine ⟨ret_str ?_,hbw.out.trans ((hB.mono (by simp)).trans (hB2.mono (by have:=hB.size;simp at this;omega)))⟩
   rw [e'.out]
   simp [dataT,dataW,List.take_of_length_le]
end Go.Proofs.YtinjocchommbdaaGreatDoor
