/- A part of the proof that parser laws hold: texts of the walk and of its plain laws, made small. -/
import Derived.Test.YtinjocchommbdaaGreatDoorM00
import Derived.Test.YtinjocchommbdaaGreatDoorM34
import Derived.Test.YtinjocchommbdaaGreatDoorProg
import Derived.Deep.QuietTactic
import Derived.BigQuiet
import Derived.PlainAid
import Derived.StillTailTactics
import Derived.Test.YtinjocchommbdaaGreatDoorM07
import Derived.Test.YtinjocchommbdaaGreatDoorM32
set_option linter.unusedVariables false
set_option linter.unusedSimpArgs false
namespace Go.Proofs.YtinjocchommbdaaGreatDoor
open Go.RowKit
open Classical in
noncomputable def eqB {α:Type} (a b:α):Bool:=decide (a=b)
theorem eqB_true {α:Type} {a b:α} (h:a=b):eqB a b=true:=by simp [eqB,h]
theorem eqB_false {α:Type} {a b:α} (h:¬ a=b):eqB a b=false:=by simp [eqB,h]
theorem str_eq {a b:Str} (h:(a.toList == b.toList)=true):a=b:=by
 rw [beq_iff_eq,Lib.toList_data,Lib.toList_data] at h
 obtain ⟨⟨a⟩⟩:=a;obtain ⟨⟨b⟩⟩:=b
 simp at h;rw [h]
theorem str_ne5 {a b:Str} (h:(a.toList == b.toList)=false):¬ a=b:=by
 rintro rfl;simp at h
theorem below_drewN5' {B:Nat} {W w:World} (h:Below B W w):∀ n,Below B W (w.drewN n)
 | 0=>h
 | n + 1=>(below_drewN5' h n).drew
set_option maxHeartbeats 800000 in
theorem r04_Texts (a1 a2:Option Addr) (l m:List Str) (c1 c2:Nat) (w:World) (hl:l.length≤lenMax) (hm:m.length≤lenMax) (h1:StrRow w a1 l) (h2:StrRow w a2 m) :
  Calls Tryz.prog 34 #[.slice a1 l.length c1,.slice a2 m.length c2] w fun r w'=>r=.returned (.bool (eqB l m))∧Below w.heap.size w w':=by
 unfold lenMax at hl hm
 by_cases hn:l.length=m.length
 ·
  have ht:((l.length:Int) != (m.length:Int))=false:=by rw [hn];simp
  have hn':=Lib.hid hn
  have hle:l.length≤m.length:=by omega
  clear hn
  go_enter Tryz.func34,Tryz.ntmps34
  go_wp2_with fail
  go_loopw [5] (fun i wr=>∃ k:Nat,k≤l.length∧i=.int .i64 k∧Hid (∀ j (hj:j < k) (hl:j < l.length) (hm:j < m.length),l[j]=m[j])∧Below w.heap.size w wr) (fun i _=>l.length - (intOf i).toNat)
  case atStart=>exact ⟨0,by omega,rfl,fun j hj=>by omega,Below.refl _ _⟩
  case round =>
   obtain ⟨k,hk,rfl,hall,hB⟩:=hrel
   by_cases hlt:k < l.length
   ·
    rcases h1.keeps (Keeps.of_below hB) with h | ⟨b,off,rfl,g1⟩
    ·
     simp [h] at hlt
    rcases h2.keeps (Keeps.of_below hB) with h | ⟨b2,off2,rfl,g2⟩
    ·
     have h0:m.length=0:=by rw [h];rfl
     omega
    have e1:=(g1 k hlt).1
    have e2:=(g2 k (by omega)).1
    have hlt2:k < m.length:=by omega
    have hlt3:(k:Int) < (m.length:Int):=by omega
    clear g1 g2
    cases h3:(l[k].toList == m[k].toList)
    ·
     have hne:=Lib.hid (str_ne5 h3)
     go_wp2_with fail
     go_quiet (fail)
     go_wp2_with fail
     go_ret
     exact ⟨ret_bool (eqB_false (fun e=>hne.out (by simp [e]))).symm,below_drewN5' hB _⟩
    ·
     have heq:=Lib.hid (str_eq h3)
     go_wp2_with fail
     go_quiet (fail)
     go_wp2_with fail
     go_roundw
     case rel=>exact ⟨k + 1,by omega,by go_num,fun j hj hl hm=>by
      rcases Nat.lt_or_ge j k with h | h
      ·
       exact hall.out j h hl hm
      ·
       obtain rfl:j=k:=by omega
       exact heq.out,below_drewN5' hB _⟩
     case measure=>simp [intOf];omega
   ·
    go_wp2_with fail
    go_ret
    exact ⟨ret_bool (eqB_true (List.ext_getElem hn'.out fun j h1 h2=>hall.out j (by omega) h1 h2)).symm,hB⟩
 ·
  have ht:((l.length:Int) != (m.length:Int))=true:=by rw [bne_iff_ne];omega
  have hn':=Lib.hid hn
  clear hn
  go_enter Tryz.func34,Tryz.ntmps34
  go_wp2_with fail
  go_ret
  exact ⟨ret_bool (eqB_false (fun e=>hn'.out (by rw [e]))).symm,Below.refl _ _⟩
set_option maxHeartbeats 1600000 in
set_option maxRecDepth 100000 in
theorem r04_Same:∀ (e f:Ex) (v u:Value) (w:World),IsEx w v e→IsEx w u f→Calls Tryz.prog 13 #[v,u] w fun r w'=>r=.returned (.bool (eqB e f))∧Below w.heap.size w w':=by
 refine Ex.ind fun k s n l ks ih f v u w hv hu=>?_
 obtain ⟨k',s',n',l',ks'⟩:=f
 obtain ⟨a1,c1,a2,c2,rfl,_,_,hs,hls,hks,hl,hr⟩:=hv.open
 obtain ⟨a1',c1',a2',c2',rfl,_,_,hs',hls',hks',hl',hr'⟩:=hu.open
 have hlsm:=hls
 have hlsm':=hls'
 unfold lenMax at hks hks' hls hls'
 have hB0:Below (w.heap.size + 1) (w.alloc (.cells #[.int .i64 k,.string s,.int .i64 n,.slice a1 l.length c1,.slice a2 ks.length c2] 27)) ((w.alloc (.cells #[.int .i64 k,.string s,.int .i64 n,.slice a1 l.length c1,.slice a2 ks.length c2] 27)).alloc (.cells #[.int .i64 k',.string s',.int .i64 n',.slice a1' l'.length c1',.slice a2' ks'.length c2'] 27)):=(Below.refl _ _).alloc (by simp) _
 have hbw:=Lib.hid (below_box hB0)
 have hbox:∀ W,Below (w.heap.size + 2) ((w.alloc (.cells #[.int .i64 k,.string s,.int .i64 n,.slice a1 l.length c1,.slice a2 ks.length c2] 27)).alloc (.cells #[.int .i64 k',.string s',.int .i64 n',.slice a1' l'.length c1',.slice a2' ks'.length c2'] 27)) W →
   (W.cell? ⟨w.heap.size,0,none⟩=some (.int .i64 k)∧W.cell? ⟨w.heap.size,1,none⟩=some (.string s)∧W.cell? ⟨w.heap.size,2,none⟩=some (.int .i64 n)∧W.cell? ⟨w.heap.size,3,none⟩=some (.slice a1 l.length c1)∧W.cell? ⟨w.heap.size,4,none⟩=some (.slice a2 ks.length c2)) ∧
   (W.cell? ⟨w.heap.size + 1,0,none⟩=some (.int .i64 k')∧W.cell? ⟨w.heap.size + 1,1,none⟩=some (.string s')∧W.cell? ⟨w.heap.size + 1,2,none⟩=some (.int .i64 n')∧W.cell? ⟨w.heap.size + 1,3,none⟩=some (.slice a1' l'.length c1')∧W.cell? ⟨w.heap.size + 1,4,none⟩=some (.slice a2' ks'.length c2')):=by
  intro W hb
  refine ⟨box5 (hB0.trans (hb.mono (by omega))),?_⟩
  have:=box5 (w:=w.alloc (.cells #[.int .i64 k,.string s,.int .i64 n,.slice a1 l.length c1,.slice a2 ks.length c2] 27)) (wr:=W) (by simpa using hb)
  simpa using this
 obtain ⟨⟨x0,x1,x2,x3,x4⟩,y0,y1,y2,y3,y4⟩:=hbox _ (Below.refl _ _)
 have hbox':=Lib.hid hbox
 have hT:=Lib.hid (r04_Texts a1 a1' l l' c1 c1' _ hlsm hlsm' (hl.keeps (Keeps.of_below hbw.out)) (hl'.keeps (Keeps.of_below hbw.out)))
 have hr0:=Lib.hid hr
 have hr0':=Lib.hid hr'
 have ih':=Lib.hid ih
 clear hv hu hB0 hbox hr hr' ih hl hl'
 have enter:∀ {b:Bool} {Q:Prop},Q→Q:=fun h=>h
 by_cases q1:k=k'
 case neg =>
  have e1:(k != k')=true:=by rw [bne_iff_ne];exact q1
  have hq:=Lib.hid q1
  clear q1
  go_enter Tryz.func13,Tryz.ntmps13
  go_wp2_with fail
  go_ret
  exact ⟨ret_bool (eqB_false (fun e=>hq.out (by injection e))).symm,hbw.out⟩
 subst q1
 cases q2:(s.toList == s'.toList)
 case false =>
  have hq:=Lib.hid (str_ne5 q2)
  go_enter Tryz.func13,Tryz.ntmps13
  go_wp2_with fail
  go_ret
  exact ⟨ret_bool (eqB_false (fun e=>hq.out (by injection e))).symm,hbw.out⟩
 have hq2:=str_eq q2
 subst hq2
 clear q2
 by_cases q3:n=n'
 case neg =>
  have e1:(n != n')=true:=by rw [bne_iff_ne];exact q3
  have hq:=Lib.hid q3
  clear q3
  go_enter Tryz.func13,Tryz.ntmps13
  go_wp2_with fail
  go_ret
  exact ⟨ret_bool (eqB_false (fun e=>hq.out (by injection e))).symm,hbw.out⟩
 subst q3
 by_cases q4:ks.length=ks'.length
 case neg =>
  have e1:((ks.length:Int) != (ks'.length:Int))=true:=by rw [bne_iff_ne];omega
  have hq:=Lib.hid q4
  clear q4
  go_enter Tryz.func13,Tryz.ntmps13
  go_wp2_with fail
  go_ret
  exact ⟨ret_bool (eqB_false (fun e=>hq.out (by injection e with _ _ _ _ e;rw [e]))).symm,hbw.out⟩
 have e4:((ks.length:Int) != (ks'.length:Int))=false:=by rw [bne_eq_false_iff_eq];omega
 have q4':=Lib.hid q4
 have hle:ks.length≤ks'.length:=by omega
 clear q4
 by_cases q5:l=l'
 case neg =>
  rw [eqB_false q5] at hT
  have hq:=Lib.hid q5
  clear q5
  go_enter Tryz.func13,Tryz.ntmps13
  go_wp2_with fail
  refine hT.out.mono ?_
  rintro e w1 ⟨rfl,hB1⟩
  go_wp2_with fail
  go_ret
  exact ⟨ret_bool (eqB_false (fun e=>hq.out (by injection e))).symm,hbw.out.trans (hB1.mono (by simp;omega))⟩
 subst q5
 rw [eqB_true rfl] at hT
 go_enter Tryz.func13,Tryz.ntmps13
 go_wp2_with fail
 refine hT.out.mono ?_
 rintro e w1 ⟨rfl,hB1⟩
 have hBx:Below (w.heap.size + 2) _ w1:=hB1.mono (by simp)
 clear hB1 hT x0 x1 x2 x3 x4 y0 y1 y2 y3 y4
 obtain ⟨⟨x0,x1,x2,x3,x4⟩,y0,y1,y2,y3,y4⟩:=hbox'.out _ hBx
 go_wp2_with fail
 go_loopw [5] (fun i wr=>∃ m:Nat,m≤ks.length∧i=.int .i64 m∧Hid (∀ j (hj:j < m) (hl:j < ks.length) (hm:j < ks'.length),ks[j]=ks'[j])∧Below (w.heap.size + 2) ((w.alloc (.cells #[.int .i64 k,.string s,.int .i64 n,.slice a1 l.length c1,.slice a2 ks.length c2] 27)).alloc (.cells #[.int .i64 k,.string s,.int .i64 n,.slice a1' l.length c1',.slice a2' ks'.length c2'] 27)) wr) (fun i _=>ks.length - (intOf i).toNat)
 case atStart=>exact ⟨0,by omega,rfl,fun j hj=>by omega,hBx⟩
 case round =>
  clear hBx x0 x1 x2 x3 x4 y0 y1 y2 y3 y4
  obtain ⟨i,hk,rfl,hall,hB⟩:=hrel
  obtain ⟨⟨x0,x1,x2,x3,x4⟩,y0,y1,y2,y3,y4⟩:=hbox'.out _ hB
  have hbW:=hbw.out.trans (hB.mono (by omega))
  have hz:w.heap.size + 2≤wr.heap.size:=by have:=hB.size;simp at this;omega
  by_cases hlt:i < ks.length
  ·
   obtain ⟨b,off,rfl,hkid⟩:=(hr0.out.keeps (Keeps.of_below hbW)).kid (by rintro rfl;simp at hlt)
   have hne':ks'≠[]:=fun h=>by have h0:ks'.length=0:=(by rw [h];rfl);omega
   obtain ⟨b',off',rfl,hkid'⟩:=(hr0'.out.keeps (Keeps.of_below hbW)).kid hne'
   have hlt2:i < ks'.length:=by omega
   have hlt3:(i:Int) < (ks'.length:Int):=by omega
   obtain ⟨a3,c3,a4,c4,g0,g1,g2,g3,g4,ge⟩:=hkid i hlt
   obtain ⟨a3',c3',a4',c4',g0',g1',g2',g3',g4',ge'⟩:=hkid' i hlt2
   have hcall:=Lib.hid (fun V (hb:Below wr.heap.size wr V)=>ih'.out _ (List.getElem_mem hlt) ks'[i] _ _ V (ge.keeps (Keeps.of_below hb)) (ge'.keeps (Keeps.of_below hb)))
   clear hkid hkid' ge ge'
   by_cases hq:ks[i]=ks'[i]
   ·
    rw [eqB_true hq] at hcall
    have hq':=Lib.hid hq
    clear hq
    go_wp2_with fail
    refine wp_region_still_tail 10 (by kernel_rfl) (by kernel_rfl) ?_
    simp only [List.take_succ_cons,List.take_zero,List.drop_succ_cons,List.drop_zero]
    change wpStill _ _ wr.drew _ _ _
    iterate 10 still_step
    refine wpStill_nil ?_
    change wpList _ _ _ _ _ wr.drew
    have hD:Below wr.heap.size wr wr.drew:=(Below.refl _ _).drew
    generalize wr.drew=D at hD ⊢
    go_wp2_with fail
    refine (hcall.out _ hD).mono ?_
    rintro e w2 ⟨rfl,hB2⟩
    have hb2:=hD.trans (hB2.mono hD.size)
    have hB2':=hB.trans (hb2.mono hz)
    clear hB2 hD
    go_wp2_with fail
    go_roundw
    case rel=>exact ⟨i + 1,by omega,by go_num,fun j hj hl hm=>by
     rcases Nat.lt_or_ge j i with h | h
     ·
      exact hall.out j h hl hm
     ·
      obtain rfl:j=i:=by omega
      exact hq'.out,hB2'⟩
    case measure=>simp [intOf];omega
   ·
    rw [eqB_false hq] at hcall
    have hq':=Lib.hid hq
    clear hq
    go_wp2_with fail
    refine wp_region_still_tail 10 (by kernel_rfl) (by kernel_rfl) ?_
    simp only [List.take_succ_cons,List.take_zero,List.drop_succ_cons,List.drop_zero]
    change wpStill _ _ wr.drew _ _ _
    iterate 10 still_step
    refine wpStill_nil ?_
    change wpList _ _ _ _ _ wr.drew
    have hD:Below wr.heap.size wr wr.drew:=(Below.refl _ _).drew
    generalize wr.drew=D at hD ⊢
    go_wp2_with fail
    refine (hcall.out _ hD).mono ?_
    rintro e w2 ⟨rfl,hB2⟩
    have hb2:=hD.trans (hB2.mono hD.size)
    have hB2':=hB.trans (hb2.mono hz)
    clear hB2 hD
    go_wp2_with fail
    go_ret
    exact ⟨ret_bool (eqB_false (fun e=>hq'.out (by injection e with _ _ _ _ e;simp [e]))).symm,hbW.trans (hb2.mono hbW.size)⟩
  ·
   go_wp2_with fail
   go_ret
   refine ⟨ret_bool (eqB_true ?_).symm,hbW⟩
   rw [List.ext_getElem q4'.out fun j h1 h2=>hall.out j (by omega) h1 h2]
end Go.Proofs.YtinjocchommbdaaGreatDoor
namespace Go.Proofs.YtinjocchommbdaaGreatDoor
open Go.RowKit
set_option maxHeartbeats 1600000 in
set_option maxRecDepth 100000 in
theorem r_sameSig:∀ (e f:Sg) (v u:Value) (w:World),IsSg w v e→IsSg w u f→Calls Tryz.prog 165 #[v,u] w fun r w'=>r=.returned (.bool (eqB e f))∧Below w.heap.size w w':=by
 refine Sg.ind fun s l ih f v u w hv hu=>?_
 obtain ⟨s',l'⟩:=f
 obtain ⟨a1,c1,rfl,hs,hls,hr⟩:=hv.open
 obtain ⟨a1',c1',rfl,hs',hls',hr'⟩:=hu.open
 unfold lenMax at hls hls'
 have hB0:Below (w.heap.size + 1) (w.alloc (.cells #[.string s,.slice a1 l.length c1] 163)) ((w.alloc (.cells #[.string s,.slice a1 l.length c1] 163)).alloc (.cells #[.string s',.slice a1' l'.length c1'] 163)):=(Below.refl _ _).alloc (by simp) _
 have hbw:=Lib.hid (below_box hB0)
 have hbox:∀ W,Below (w.heap.size + 2) ((w.alloc (.cells #[.string s,.slice a1 l.length c1] 163)).alloc (.cells #[.string s',.slice a1' l'.length c1'] 163)) W→(W.cell? ⟨w.heap.size,0,none⟩=some (.string s)∧W.cell? ⟨w.heap.size,1,none⟩=some (.slice a1 l.length c1))∧(W.cell? ⟨w.heap.size + 1,0,none⟩=some (.string s')∧W.cell? ⟨w.heap.size + 1,1,none⟩=some (.slice a1' l'.length c1')):=by
  intro W hb
  refine ⟨box2 (hB0.trans (hb.mono (by omega))),?_⟩
  have:=box2 (w:=w.alloc (.cells #[.string s,.slice a1 l.length c1] 163)) (wr:=W) (by simpa using hb)
  simpa using this
 obtain ⟨⟨x0,x1⟩,y0,y1⟩:=hbox _ (Below.refl _ _)
 have hbox':=Lib.hid hbox
 have hr0:=Lib.hid hr
 have hr0':=Lib.hid hr'
 have ih':=Lib.hid ih
 clear hv hu hB0 hbox hr hr' ih
 cases q2:(s.toList == s'.toList)
 case false =>
  have hq:=Lib.hid (str_ne5 q2)
  go_enter Tryz.func165,Tryz.ntmps165
  go_wp2_with fail
  go_ret
  exact ⟨ret_bool (eqB_false (fun e=>hq.out (by injection e))).symm,hbw.out⟩
 have hq2:=str_eq q2
 subst hq2
 clear q2
 by_cases q4:l.length=l'.length
 case neg =>
  have e1:((l.length:Int) != (l'.length:Int))=true:=by rw [bne_iff_ne];omega
  have hq:=Lib.hid q4
  clear q4
  go_enter Tryz.func165,Tryz.ntmps165
  go_wp2_with fail
  go_ret
  exact ⟨ret_bool (eqB_false (fun e=>hq.out (by injection e with _ e;rw [e]))).symm,hbw.out⟩
 have e4:((l.length:Int) != (l'.length:Int))=false:=by rw [bne_eq_false_iff_eq];omega
 have q4':=Lib.hid q4
 have hle:l.length≤l'.length:=by omega
 clear q4
 go_enter Tryz.func165,Tryz.ntmps165
 go_wp2_with fail
 go_loopw [5] (fun i wr=>∃ m:Nat,m≤l.length∧i=.int .i64 m∧Hid (∀ j (hj:j < m) (hl:j < l.length) (hm:j < l'.length),l[j]=l'[j])∧Below (w.heap.size + 2) ((w.alloc (.cells #[.string s,.slice a1 l.length c1] 163)).alloc (.cells #[.string s,.slice a1' l'.length c1'] 163)) wr) (fun i _=>l.length - (intOf i).toNat)
 case atStart=>exact ⟨0,by omega,rfl,fun j hj=>by omega,Below.refl _ _⟩
 case round =>
  clear x0 x1 y0 y1
  obtain ⟨i,hk,rfl,hall,hB⟩:=hrel
  obtain ⟨⟨x0,x1⟩,y0,y1⟩:=hbox'.out _ hB
  have hbW:=hbw.out.trans (hB.mono (by omega))
  have hz:w.heap.size + 2≤wr.heap.size:=by have:=hB.size;simp at this;omega
  by_cases hlt:i < l.length
  ·
   obtain ⟨b,off,rfl,hkid⟩:=(hr0.out.keeps (Keeps.of_below hbW)).arg (by rintro rfl;simp at hlt)
   have hne':l'≠[]:=fun h=>by have h0:l'.length=0:=(by rw [h];rfl);omega
   obtain ⟨b',off',rfl,hkid'⟩:=(hr0'.out.keeps (Keeps.of_below hbW)).arg hne'
   have hlt2:i < l'.length:=by omega
   have hlt3:(i:Int) < (l'.length:Int):=by omega
   obtain ⟨a3,c3,g0,g1,ge⟩:=hkid i hlt
   obtain ⟨a3',c3',g0',g1',ge'⟩:=hkid' i hlt2
   have hcall:=Lib.hid (fun V (hb:Below wr.heap.size wr V)=>ih'.out _ (List.getElem_mem hlt) l'[i] _ _ V (IsSg.keeps (Keeps.of_below hb) _ _ ge) (IsSg.keeps (Keeps.of_below hb) _ _ ge'))
   clear hkid hkid' ge ge'
   by_cases hq:l[i]=l'[i]
   ·
    rw [eqB_true hq] at hcall
    have hq':=Lib.hid hq
    clear hq
    go_wp2_with fail
    refine wp_region_still_tail 10 (by kernel_rfl) (by kernel_rfl) ?_
    simp only [List.take_succ_cons,List.take_zero,List.drop_succ_cons,List.drop_zero]
    change wpStill _ _ wr.drew _ _ _
    iterate 10 still_step
    refine wpStill_nil ?_
    change wpList _ _ _ _ _ wr.drew
    have hD:Below wr.heap.size wr wr.drew:=(Below.refl _ _).drew
    generalize wr.drew=D at hD ⊢
    go_wp2_with fail
    refine (hcall.out _ hD).mono ?_
    rintro e w2 ⟨rfl,hB2⟩
    have hb2:=hD.trans (hB2.mono hD.size)
    have hB2':=hB.trans (hb2.mono hz)
    clear hB2 hD
    go_wp2_with fail
    go_roundw
    case rel=>exact ⟨i + 1,by omega,by go_num,fun j hj hl hm=>by
     rcases Nat.lt_or_ge j i with h | h
     ·
      exact hall.out j h hl hm
     ·
      obtain rfl:j=i:=by omega
      exact hq'.out,hB2'⟩
    case measure=>simp [intOf];omega
   ·
    rw [eqB_false hq] at hcall
    have hq':=Lib.hid hq
    clear hq
    go_wp2_with fail
    refine wp_region_still_tail 10 (by kernel_rfl) (by kernel_rfl) ?_
    simp only [List.take_succ_cons,List.take_zero,List.drop_succ_cons,List.drop_zero]
    change wpStill _ _ wr.drew _ _ _
    iterate 10 still_step
    refine wpStill_nil ?_
    change wpList _ _ _ _ _ wr.drew
    have hD:Below wr.heap.size wr wr.drew:=(Below.refl _ _).drew
    generalize wr.drew=D at hD ⊢
    go_wp2_with fail
    refine (hcall.out _ hD).mono ?_
    rintro e w2 ⟨rfl,hB2⟩
    have hb2:=hD.trans (hB2.mono hD.size)
    have hB2':=hB.trans (hb2.mono hz)
    clear hB2 hD
    go_wp2_with fail
    go_ret
    exact ⟨ret_bool (eqB_false (fun e=>hq'.out (by injection e with _ e;simp [e]))).symm,hbW.trans (hb2.mono hbW.size)⟩
  ·
   go_wp2_with fail
   go_ret
   refine ⟨ret_bool (eqB_true ?_).symm,hbW⟩
   rw [List.ext_getElem q4'.out fun j h1 h2=>hall.out j (by omega) h1 h2]
set_option maxHeartbeats 800000 in
set_option maxRecDepth 100000 in
theorem r_sameForm (e f:Sg) (v u:Value) (w:World) (hv:IsSg w v e) (hu:IsSg w u f):Calls Tryz.prog 98 #[v,u] w fun r w'=>r=.returned (.bool (eqB e f))∧Below w.heap.size w w':=by
 obtain ⟨s,l⟩:=e
 obtain ⟨s',l'⟩:=f
 obtain ⟨a1,c1,rfl,hs,hls,hr⟩:=hv.open
 obtain ⟨a1',c1',rfl,hs',hls',hr'⟩:=hu.open
 have hb0:=Lib.hid (((Below.refl w.heap.size w).alloc (Nat.le_refl _) (.cells #[.string s,.slice a1 l.length c1] 125)).alloc (by simp) (.cells #[.string s',.slice a1' l'.length c1'] 125))
 have hcall:=Lib.hid (r_sameSig (.mk ⟨#[]⟩ l) (.mk ⟨#[]⟩ l') (.agg #[.string ⟨#[]⟩,.slice a1 l.length c1]) (.agg #[.string ⟨#[]⟩,.slice a1' l'.length c1']) _ (IsSg.shut (by decide) hls (hr.keeps (Keeps.of_below hb0.out))) (IsSg.shut (by decide) hls' (hr'.keeps (Keeps.of_below hb0.out))))
 have hee:eqB (Sg.mk (⟨#[]⟩:Str) l) (.mk ⟨#[]⟩ l')=eqB l l':=by
  by_cases h:l=l'
  ·
   rw [h,eqB_true rfl,eqB_true rfl]
  ·
   rw [eqB_false h,eqB_false (fun e=>h (by injection e))]
 rw [hee] at hcall
 clear hv hu hr hr' hee
 cases q2:(s.toList == s'.toList)
 case false =>
  have hq:=Lib.hid (str_ne5 q2)
  go_enter Tryz.func98,Tryz.ntmps98
  go_wp2_with fail
  go_ret
  exact ⟨ret_bool (eqB_false (fun e=>hq.out (by injection e))).symm,hb0.out⟩
 have hq2:=str_eq q2
 subst hq2
 clear q2
 have hee:Hid (eqB (Sg.mk s l) (.mk s l')=eqB l l'):=by
  unfold Hid
  by_cases h:l=l'
  ·
   rw [h,eqB_true rfl,eqB_true rfl]
  ·
   rw [eqB_false h,eqB_false (fun e=>h (by injection e))]
 go_enter Tryz.func98,Tryz.ntmps98
 go_wp2_with fail
 refine hcall.out.mono ?_
 rintro e w1 ⟨rfl,hB1⟩
 go_wp2_with fail
 go_ret
 exact ⟨ret_bool hee.out.symm,hb0.out.trans (hB1.mono (by simp;omega))⟩
end Go.Proofs.YtinjocchommbdaaGreatDoor
namespace Go.Proofs.YtinjocchommbdaaGreatDoor
open Go.RowKit
set_option maxHeartbeats 1600000 in
set_option maxRecDepth 100000 in
theorem r_sameData (e f:Dt) (v u:Value) (w:World) (hv:IsDt w v e) (hu:IsDt w u f):Calls Tryz.prog 40 #[v,u] w fun r w'=>r=.returned (.bool (eqB e f))∧Below w.heap.size w w':=by
 obtain ⟨s,l,m⟩:=e
 obtain ⟨s',l',m'⟩:=f
 obtain ⟨a1,c1,a2,c2,rfl,_,hs,hls,hms,hlr,hmr⟩:=hv
 obtain ⟨a1',c1',a2',c2',rfl,_,hs',hls',hms',hlr',hmr'⟩:=hu
 simp only at hs hls hms hlr hmr hs' hls' hms' hlr' hmr'
 have hB0:Below (w.heap.size + 1) (w.alloc (.cells #[.string s,.slice a1 l.length c1,.slice a2 m.length c2] 77)) ((w.alloc (.cells #[.string s,.slice a1 l.length c1,.slice a2 m.length c2] 77)).alloc (.cells #[.string s',.slice a1' l'.length c1',.slice a2' m'.length c2'] 77)):=(Below.refl _ _).alloc (by simp) _
 have hbw:=Lib.hid (below_box hB0)
 have hT:=Lib.hid (r04_Texts a1 a1' l l' c1 c1' _ hls hls' (hlr.keeps (Keeps.of_below hbw.out)) (hlr'.keeps (Keeps.of_below hbw.out)))
 unfold lenMax at hls hls' hms hms'
 have hbox:∀ W,Below (w.heap.size + 2) ((w.alloc (.cells #[.string s,.slice a1 l.length c1,.slice a2 m.length c2] 77)).alloc (.cells #[.string s',.slice a1' l'.length c1',.slice a2' m'.length c2'] 77)) W→(W.cell? ⟨w.heap.size,0,none⟩=some (.string s)∧W.cell? ⟨w.heap.size,1,none⟩=some (.slice a1 l.length c1)∧W.cell? ⟨w.heap.size,2,none⟩=some (.slice a2 m.length c2))∧(W.cell? ⟨w.heap.size + 1,0,none⟩=some (.string s')∧W.cell? ⟨w.heap.size + 1,1,none⟩=some (.slice a1' l'.length c1')∧W.cell? ⟨w.heap.size + 1,2,none⟩=some (.slice a2' m'.length c2')):=by
  intro W hb
  refine ⟨box3 (hB0.trans (hb.mono (by omega))),?_⟩
  have:=box3 (w:=w.alloc (.cells #[.string s,.slice a1 l.length c1,.slice a2 m.length c2] 77)) (wr:=W) (by simpa using hb)
  simpa using this
 obtain ⟨⟨x0,x1,x2⟩,y0,y1,y2⟩:=hbox _ (Below.refl _ _)
 have hbox':=Lib.hid hbox
 have hr0:=Lib.hid hmr
 have hr0':=Lib.hid hmr'
 clear hB0 hbox hmr hmr' hlr hlr'
 cases q2:(s.toList == s'.toList)
 case false =>
  have hq:=Lib.hid (str_ne5 q2)
  go_enter Tryz.func40,Tryz.ntmps40
  go_wp2_with fail
  go_ret
  exact ⟨ret_bool (eqB_false (fun e=>hq.out (by injection e))).symm,hbw.out⟩
 have hq2:=str_eq q2
 subst hq2
 clear q2
 by_cases q5:l=l'
 case neg =>
  rw [eqB_false q5] at hT
  have hq:=Lib.hid q5
  clear q5
  go_enter Tryz.func40,Tryz.ntmps40
  go_wp2_with fail
  refine hT.out.mono ?_
  rintro e w1 ⟨rfl,hB1⟩
  go_wp2_with fail
  go_ret
  exact ⟨ret_bool (eqB_false (fun e=>hq.out (by injection e))).symm,hbw.out.trans (hB1.mono (by simp;omega))⟩
 subst q5
 rw [eqB_true rfl] at hT
 by_cases q4:m.length=m'.length
 case neg =>
  have e1:((m.length:Int) != (m'.length:Int))=true:=by rw [bne_iff_ne];omega
  have hq:=Lib.hid q4
  clear q4
  go_enter Tryz.func40,Tryz.ntmps40
  go_wp2_with fail
  refine hT.out.mono ?_
  rintro e w1 ⟨rfl,hB1⟩
  clear x0 x1 x2 y0 y1 y2
  obtain ⟨⟨x0,x1,x2⟩,y0,y1,y2⟩:=hbox'.out _ (hB1.mono (by simp))
  have hb1:=hbw.out.trans (hB1.mono (by simp;omega))
  clear hB1
  go_wp2_with fail
  go_ret
  exact ⟨ret_bool (eqB_false (fun e=>hq.out (by injection e with _ _ e;rw [e]))).symm,hb1⟩
 have e4:((m.length:Int) != (m'.length:Int))=false:=by rw [bne_eq_false_iff_eq];omega
 have q4':=Lib.hid q4
 have hle:m.length≤m'.length:=by omega
 clear q4
 go_enter Tryz.func40,Tryz.ntmps40
 go_wp2_with fail
 refine hT.out.mono ?_
 rintro e w1 ⟨rfl,hB1⟩
 have hBx:Below (w.heap.size + 2) _ w1:=hB1.mono (by simp)
 clear hB1 hT x0 x1 x2 y0 y1 y2
 obtain ⟨⟨x0,x1,x2⟩,y0,y1,y2⟩:=hbox'.out _ hBx
 go_wp2_with fail
 go_loopw [5] (fun i wr=>∃ g:Nat,g≤m.length∧i=.int .i64 g∧Hid (∀ j (hj:j < g) (hl:j < m.length) (hm:j < m'.length),m[j]=m'[j])∧Below (w.heap.size + 2) ((w.alloc (.cells #[.string s,.slice a1 l.length c1,.slice a2 m.length c2] 77)).alloc (.cells #[.string s,.slice a1' l.length c1',.slice a2' m'.length c2'] 77)) wr) (fun i _=>m.length - (intOf i).toNat)
 case atStart=>exact ⟨0,by omega,rfl,fun j hj=>by omega,hBx⟩
 case round =>
  clear hBx x0 x1 x2 y0 y1 y2
  obtain ⟨i,hk,rfl,hall,hB⟩:=hrel
  obtain ⟨⟨x0,x1,x2⟩,y0,y1,y2⟩:=hbox'.out _ hB
  have hbW:=hbw.out.trans (hB.mono (by omega))
  have hz:w.heap.size + 2≤wr.heap.size:=by have:=hB.size;simp at this;omega
  by_cases hlt:i < m.length
  ·
   obtain ⟨b,off,rfl,hkid⟩:=(hr0.out.keeps (Keeps.of_below hbW)).arg (by rintro rfl;simp at hlt)
   have hne':m'≠[]:=fun h=>by have h0:m'.length=0:=(by rw [h];rfl);omega
   obtain ⟨b',off',rfl,hkid'⟩:=(hr0'.out.keeps (Keeps.of_below hbW)).arg hne'
   have hlt2:i < m'.length:=by omega
   have hlt3:(i:Int) < (m'.length:Int):=by omega
   obtain ⟨a3,c3,g0,g1,ge⟩:=hkid i hlt
   obtain ⟨a3',c3',g0',g1',ge'⟩:=hkid' i hlt2
   have hcall:=Lib.hid (fun V (hb:Below wr.heap.size wr V)=>r_sameForm m[i] m'[i] _ _ V (IsSg.keeps (Keeps.of_below hb) _ _ ge) (IsSg.keeps (Keeps.of_below hb) _ _ ge'))
   clear hkid hkid' ge ge'
   by_cases hq:m[i]=m'[i]
   ·
    rw [eqB_true hq] at hcall
    have hq':=Lib.hid hq
    clear hq
    go_wp2_with fail
    refine wp_region_still_tail 10 (by kernel_rfl) (by kernel_rfl) ?_
    simp only [List.take_succ_cons,List.take_zero,List.drop_succ_cons,List.drop_zero]
    change wpStill _ _ wr.drew _ _ _
    iterate 10 still_step
    refine wpStill_nil ?_
    change wpList _ _ _ _ _ wr.drew
    have hD:Below wr.heap.size wr wr.drew:=(Below.refl _ _).drew
    generalize wr.drew=D at hD ⊢
    go_wp2_with fail
    refine (hcall.out _ hD).mono ?_
    rintro e w2 ⟨rfl,hB2⟩
    have hb2:=hD.trans (hB2.mono hD.size)
    have hB2':=hB.trans (hb2.mono hz)
    clear hB2 hD
    go_wp2_with fail
    go_roundw
    case rel=>exact ⟨i + 1,by omega,by go_num,fun j hj hl hm=>by
     rcases Nat.lt_or_ge j i with h | h
     ·
      exact hall.out j h hl hm
     ·
      obtain rfl:j=i:=by omega
      exact hq'.out,hB2'⟩
    case measure=>simp [intOf];omega
   ·
    rw [eqB_false hq] at hcall
    have hq':=Lib.hid hq
    clear hq
    go_wp2_with fail
    refine wp_region_still_tail 10 (by kernel_rfl) (by kernel_rfl) ?_
    simp only [List.take_succ_cons,List.take_zero,List.drop_succ_cons,List.drop_zero]
    change wpStill _ _ wr.drew _ _ _
    iterate 10 still_step
    refine wpStill_nil ?_
    change wpList _ _ _ _ _ wr.drew
    have hD:Below wr.heap.size wr wr.drew:=(Below.refl _ _).drew
    generalize wr.drew=D at hD ⊢
    go_wp2_with fail
    refine (hcall.out _ hD).mono ?_
    rintro e w2 ⟨rfl,hB2⟩
    have hb2:=hD.trans (hB2.mono hD.size)
    have hB2':=hB.trans (hb2.mono hz)
    clear hB2 hD
    go_wp2_with fail
    go_ret
    exact ⟨ret_bool (eqB_false (fun e=>hq'.out (by injection e with _ _ e;simp [e]))).symm,hbW.trans (hb2.mono hbW.size)⟩
  ·
   go_wp2_with fail
   go_ret
   refine ⟨ret_bool (eqB_true ?_).symm,hbW⟩
   rw [List.ext_getElem q4'.out fun j h1 h2=>hall.out j (by omega) h1 h2]
theorem IsDf.body' {w:World} {v0 v1 v2 v3 v4 v5:Value} {d:Df} (h:IsDf w (.agg #[v0,v1,v2,v3,v4,v5]) d):IsEx w (.agg #[v1,v2,v3,v4,v5]) d.body:=by
 obtain ⟨x1,x2,x3,x4,x5,hv,_,he⟩:=h
 simp only [Value.agg.injEq,Array.mk.injEq,List.cons.injEq,and_true] at hv
 obtain ⟨-,rfl,rfl,rfl,rfl,rfl⟩:=hv
 exact he
set_option maxHeartbeats 4000000 in
set_option maxRecDepth 100000 in
theorem r_SameP (e f:Pg) (v u:Value) (w:World) (hv:IsPg w v e) (hu:IsPg w u f):Calls Tryz.prog 16 #[v,u] w fun r w'=>r=.returned (.bool (eqB e f))∧Below w.heap.size w w':=by
 obtain ⟨l,m⟩:=e
 obtain ⟨l',m'⟩:=f
 obtain ⟨a1,c1,a2,c2,rfl,hls,hms,hlr,hmr⟩:=hv
 obtain ⟨a1',c1',a2',c2',rfl,hls',hms',hlr',hmr'⟩:=hu
 simp only at hls hms hlr hmr hls' hms' hlr' hmr'
 have hB0:Below (w.heap.size + 1) (w.alloc (.cells #[.slice a1 l.length c1,.slice a2 m.length c2] 38)) ((w.alloc (.cells #[.slice a1 l.length c1,.slice a2 m.length c2] 38)).alloc (.cells #[.slice a1' l'.length c1',.slice a2' m'.length c2'] 38)):=(Below.refl _ _).alloc (by simp) _
 have hbw:=Lib.hid (below_box hB0)
 unfold lenMax at hls hls' hms hms'
 have hbox:∀ W,Below (w.heap.size + 2) ((w.alloc (.cells #[.slice a1 l.length c1,.slice a2 m.length c2] 38)).alloc (.cells #[.slice a1' l'.length c1',.slice a2' m'.length c2'] 38)) W→(W.cell? ⟨w.heap.size,0,none⟩=some (.slice a1 l.length c1)∧W.cell? ⟨w.heap.size,1,none⟩=some (.slice a2 m.length c2))∧(W.cell? ⟨w.heap.size + 1,0,none⟩=some (.slice a1' l'.length c1')∧W.cell? ⟨w.heap.size + 1,1,none⟩=some (.slice a2' m'.length c2')):=by
  intro W hb
  refine ⟨box2 (hB0.trans (hb.mono (by omega))),?_⟩
  have:=box2 (w:=w.alloc (.cells #[.slice a1 l.length c1,.slice a2 m.length c2] 38)) (wr:=W) (by simpa using hb)
  simpa using this
 obtain ⟨⟨x0,x1⟩,y0,y1⟩:=hbox _ (Below.refl _ _)
 have hbox':=Lib.hid hbox
 have hl0:=Lib.hid hlr
 have hl0':=Lib.hid hlr'
 have hr0:=Lib.hid hmr
 have hr0':=Lib.hid hmr'
 clear hB0 hbox hmr hmr' hlr hlr'
 by_cases q3:l.length=l'.length
 case neg =>
  have e1:((l.length:Int) != (l'.length:Int))=true:=by rw [bne_iff_ne];omega
  have hq:=Lib.hid q3
  clear q3
  go_enter Tryz.func16,Tryz.ntmps16
  go_wp2_with fail
  go_ret
  exact ⟨ret_bool (eqB_false (fun e=>hq.out (by injection e with e;rw [e]))).symm,hbw.out⟩
 have e3:((l.length:Int) != (l'.length:Int))=false:=by rw [bne_eq_false_iff_eq];omega
 have q3':=Lib.hid q3
 have hle3:l.length≤l'.length:=by omega
 clear q3
 by_cases q4:m.length=m'.length
 case neg =>
  have e1:((m.length:Int) != (m'.length:Int))=true:=by rw [bne_iff_ne];omega
  have hq:=Lib.hid q4
  clear q4
  go_enter Tryz.func16,Tryz.ntmps16
  go_wp2_with fail
  go_ret
  exact ⟨ret_bool (eqB_false (fun e=>hq.out (by injection e with _ e;rw [e]))).symm,hbw.out⟩
 have e4:((m.length:Int) != (m'.length:Int))=false:=by rw [bne_eq_false_iff_eq];omega
 have q4':=Lib.hid q4
 have hle:m.length≤m'.length:=by omega
 clear q4
 go_enter Tryz.func16,Tryz.ntmps16
 go_wp2_with fail
 go_loopw [5] (fun i wr=>∃ g:Nat,g≤l.length∧i=.int .i64 g∧Hid (∀ j (hj:j < g) (hl:j < l.length) (hm:j < l'.length),l[j]=l'[j])∧Below (w.heap.size + 2) ((w.alloc (.cells #[.slice a1 l.length c1,.slice a2 m.length c2] 38)).alloc (.cells #[.slice a1' l'.length c1',.slice a2' m'.length c2'] 38)) wr) (fun i _=>l.length - (intOf i).toNat)
 case atStart=>exact ⟨0,by omega,rfl,fun j hj=>by omega,Below.refl _ _⟩
 case round =>
  clear x0 x1 y0 y1
  obtain ⟨i,hk,rfl,hall,hB⟩:=hrel
  obtain ⟨⟨x0,x1⟩,y0,y1⟩:=hbox'.out _ hB
  have hbW:=hbw.out.trans (hB.mono (by omega))
  have hz:w.heap.size + 2≤wr.heap.size:=by have:=hB.size;simp at this;omega
  by_cases hlt:i < l.length
  ·
   obtain ⟨b,off,rfl,hkid⟩:=(hl0.out.keeps (Keeps.of_below hbW)).at (by rintro rfl;simp at hlt)
   have hne':l'≠[]:=fun h=>by have h0:l'.length=0:=(by rw [h];rfl);omega
   obtain ⟨b',off',rfl,hkid'⟩:=(hl0'.out.keeps (Keeps.of_below hbW)).at hne'
   have hlt2:i < l'.length:=by omega
   have hlt3:(i:Int) < (l'.length:Int):=by omega
   obtain ⟨a3,c3,a4,c4,g0,g1,g2,ge⟩:=hkid i hlt
   obtain ⟨a3',c3',a4',c4',g0',g1',g2',ge'⟩:=hkid' i hlt2
   have hcall:=Lib.hid (fun V (hb:Below wr.heap.size wr V)=>r_sameData l[i] l'[i] _ _ V (ge.keeps (Keeps.of_below hb)) (ge'.keeps (Keeps.of_below hb)))
   clear hkid hkid' ge ge'
   by_cases hq:l[i]=l'[i]
   ·
    rw [eqB_true hq] at hcall
    have hq':=Lib.hid hq
    clear hq
    go_wp2_with fail
    refine wp_region_still_tail 10 (by kernel_rfl) (by kernel_rfl) ?_
    simp only [List.take_succ_cons,List.take_zero,List.drop_succ_cons,List.drop_zero]
    change wpStill _ _ wr.drew _ _ _
    iterate 10 still_step
    refine wpStill_nil ?_
    change wpList _ _ _ _ _ wr.drew
    have hD:Below wr.heap.size wr wr.drew:=(Below.refl _ _).drew
    generalize wr.drew=D at hD ⊢
    go_wp2_with fail
    refine (hcall.out _ hD).mono ?_
    rintro e w2 ⟨rfl,hB2⟩
    have hb2:=hD.trans (hB2.mono hD.size)
    have hB2':=hB.trans (hb2.mono hz)
    clear hB2 hD
    go_wp2_with fail
    go_roundw
    case rel=>exact ⟨i + 1,by omega,by go_num,fun j hj hl hm=>by
     rcases Nat.lt_or_ge j i with h | h
     ·
      exact hall.out j h hl hm
     ·
      obtain rfl:j=i:=by omega
      exact hq'.out,hB2'⟩
    case measure=>simp [intOf];omega
   ·
    rw [eqB_false hq] at hcall
    have hq':=Lib.hid hq
    clear hq
    go_wp2_with fail
    refine wp_region_still_tail 10 (by kernel_rfl) (by kernel_rfl) ?_
    simp only [List.take_succ_cons,List.take_zero,List.drop_succ_cons,List.drop_zero]
    change wpStill _ _ wr.drew _ _ _
    iterate 10 still_step
    refine wpStill_nil ?_
    change wpList _ _ _ _ _ wr.drew
    have hD:Below wr.heap.size wr wr.drew:=(Below.refl _ _).drew
    generalize wr.drew=D at hD ⊢
    go_wp2_with fail
    refine (hcall.out _ hD).mono ?_
    rintro e w2 ⟨rfl,hB2⟩
    have hb2:=hD.trans (hB2.mono hD.size)
    have hB2':=hB.trans (hb2.mono hz)
    clear hB2 hD
    go_wp2_with fail
    go_ret
    exact ⟨ret_bool (eqB_false (fun e=>hq'.out (by injection e with e;simp [e]))).symm,hbW.trans (hb2.mono hbW.size)⟩
  ·
   have heq1:Hid (l=l'):=List.ext_getElem q3'.out fun j h1 h2=>hall.out j (by omega) h1 h2
   have hBx:=hB
   clear hall hz hbW
   go_wp2_with fail
   go_loopw [7] (fun i wr=>∃ g:Nat,g≤m.length∧i=.int .i64 g∧Hid (∀ j (hj:j < g) (hl:j < m.length) (hm:j < m'.length),m[j]=m'[j])∧Below (w.heap.size + 2) ((w.alloc (.cells #[.slice a1 l.length c1,.slice a2 m.length c2] 38)).alloc (.cells #[.slice a1' l'.length c1',.slice a2' m'.length c2'] 38)) wr) (fun i _=>m.length - (intOf i).toNat)
   case atStart=>exact ⟨0,by omega,rfl,fun j hj=>by omega,hBx⟩
   case round =>
    clear hBx hB x0 x1 y0 y1 hlt hk
    obtain ⟨i,hk,rfl,hall,hB⟩:=hrel
    obtain ⟨⟨x0,x1⟩,y0,y1⟩:=hbox'.out _ hB
    have hbW:=hbw.out.trans (hB.mono (by omega))
    have hz:w.heap.size + 2≤wr.heap.size:=by have:=hB.size;simp at this;omega
    by_cases hlt:i < m.length
    ·
     obtain ⟨b,off,rfl,hkid⟩:=(hr0.out.keeps (Keeps.of_below hbW)).at (by rintro rfl;simp at hlt)
     have hne':m'≠[]:=fun h=>by have h0:m'.length=0:=(by rw [h];rfl);omega
     obtain ⟨b',off',rfl,hkid'⟩:=(hr0'.out.keeps (Keeps.of_below hbW)).at hne'
     have hlt2:i < m'.length:=by omega
     have hlt3:(i:Int) < (m'.length:Int):=by omega
     obtain ⟨a3,c3,a4,c4,g0,g1,g2,g3,g4,g5,ge⟩:=hkid i hlt
     obtain ⟨a3',c3',a4',c4',g0',g1',g2',g3',g4',g5',ge'⟩:=hkid' i hlt2
     have hcall:=Lib.hid (fun V (hb:Below wr.heap.size wr V)=>r04_Same m[i].body m'[i].body _ _ V (ge.body'.keeps (Keeps.of_below hb)) (ge'.body'.keeps (Keeps.of_below hb)))
     have hk2:Hid (∀ V,Below wr.heap.size wr V→(V.cell? ⟨w.heap.size,0,none⟩=some (.slice a1 l.length c1)∧V.cell? ⟨w.heap.size,1,none⟩=some (.slice (some ⟨b,off,none⟩) m.length c2))∧(V.cell? ⟨w.heap.size + 1,0,none⟩=some (.slice a1' l'.length c1')∧V.cell? ⟨w.heap.size + 1,1,none⟩=some (.slice (some ⟨b',off',none⟩) m'.length c2'))∧V.cell? ⟨b,off + i * 6,none⟩=some (.string m[i].name)∧V.cell? ⟨b',off' + i * 6,none⟩=some (.string m'[i].name)):=by
      intro V hb
      have hk:=Keeps.of_below hb
      exact ⟨⟨hk _ _ x0,hk _ _ x1⟩,⟨hk _ _ y0,hk _ _ y1⟩,hk _ _ g0,hk _ _ g0'⟩
     clear hkid hkid' ge ge'
     by_cases hq:m[i].body=m'[i].body
     ·
      rw [eqB_true hq] at hcall
      have hq':=Lib.hid hq
      clear hq
      cases hn:(m[i].name.toList == m'[i].name.toList)
      ·
       have hn':=Lib.hid (str_ne5 hn)
       go_wp2_with fail
       refine wp_region_still_tail 12 (by kernel_rfl) (by kernel_rfl) ?_
       simp only [List.take_succ_cons,List.take_zero,List.drop_succ_cons,List.drop_zero]
       change wpStill _ _ wr.drew _ _ _
       iterate 12 still_step
       refine wpStill_nil ?_
       change wpList _ _ _ _ _ wr.drew
       have hD:Below wr.heap.size wr wr.drew:=(Below.refl _ _).drew
       generalize wr.drew=D at hD ⊢
       go_wp2_with fail
       refine (hcall.out _ hD).mono ?_
       rintro e w2 ⟨rfl,hB2⟩
       have hb2:=hD.trans (hB2.mono hD.size)
       have hB2':=hB.trans (hb2.mono hz)
       clear hB2 hD
       go_wp2_with fail
       clear x0 x1 y0 y1 g0 g0'
       obtain ⟨⟨x0,x1⟩,⟨y0,y1⟩,g0,g0'⟩:=hk2.out _ hb2
       go_quiet (fail)
       go_wp2_with fail
       go_ret
       exact ⟨ret_bool (eqB_false (fun e=>hn'.out (by injection e with _ e;simp [e]))).symm,hbW.trans ((below_drewN5' hb2 _).mono hbW.size)⟩
      ·
       have hn':=Lib.hid (str_eq hn)
       go_wp2_with fail
       refine wp_region_still_tail 12 (by kernel_rfl) (by kernel_rfl) ?_
       simp only [List.take_succ_cons,List.take_zero,List.drop_succ_cons,List.drop_zero]
       change wpStill _ _ wr.drew _ _ _
       iterate 12 still_step
       refine wpStill_nil ?_
       change wpList _ _ _ _ _ wr.drew
       have hD:Below wr.heap.size wr wr.drew:=(Below.refl _ _).drew
       generalize wr.drew=D at hD ⊢
       go_wp2_with fail
       refine (hcall.out _ hD).mono ?_
       rintro e w2 ⟨rfl,hB2⟩
       have hb2:=hD.trans (hB2.mono hD.size)
       have hB2':=hB.trans (hb2.mono hz)
       clear hB2 hD
       go_wp2_with fail
       clear x0 x1 y0 y1 g0 g0'
       obtain ⟨⟨x0,x1⟩,⟨y0,y1⟩,g0,g0'⟩:=hk2.out _ hb2
       go_quiet (fail)
       go_wp2_with fail
       go_roundw
       case rel=>exact ⟨i + 1,by omega,by go_num,fun j hj hl hm=>by
        rcases Nat.lt_or_ge j i with h | h
        ·
         exact hall.out j h hl hm
        ·
         obtain rfl:j=i:=by omega
         have h1:=hq'.out
         have h2:=hn'.out
         cases hx:m[j]
         cases hy:m'[j]
         rw [hx,hy] at h1 h2
         simp only at h1 h2
         rw [h1,h2],below_drewN5' hB2' _⟩
       case measure=>simp [intOf];omega
     ·
      rw [eqB_false hq] at hcall
      have hq':=Lib.hid hq
      clear hq
      go_wp2_with fail
      refine wp_region_still_tail 12 (by kernel_rfl) (by kernel_rfl) ?_
      simp only [List.take_succ_cons,List.take_zero,List.drop_succ_cons,List.drop_zero]
      change wpStill _ _ wr.drew _ _ _
      iterate 12 still_step
      refine wpStill_nil ?_
      change wpList _ _ _ _ _ wr.drew
      have hD:Below wr.heap.size wr wr.drew:=(Below.refl _ _).drew
      generalize wr.drew=D at hD ⊢
      go_wp2_with fail
      refine (hcall.out _ hD).mono ?_
      rintro e w2 ⟨rfl,hB2⟩
      have hb2:=hD.trans (hB2.mono hD.size)
      have hB2':=hB.trans (hb2.mono hz)
      clear hB2 hD
      go_wp2_with fail
      clear x0 x1 y0 y1 g0 g0'
      obtain ⟨⟨x0,x1⟩,⟨y0,y1⟩,g0,g0'⟩:=hk2.out _ hb2
      go_quiet (fail)
      go_wp2_with fail
      go_ret
      exact ⟨ret_bool (eqB_false (fun e=>hq'.out (by injection e with _ e;simp [e]))).symm,hbW.trans ((below_drewN5' hb2 _).mono hbW.size)⟩
    ·
     go_wp2_with fail
     go_ret
     refine ⟨ret_bool (eqB_true ?_).symm,hbW⟩
     rw [heq1.out,List.ext_getElem q4'.out fun j h1 h2=>hall.out j (by omega) h1 h2]
end Go.Proofs.YtinjocchommbdaaGreatDoor
