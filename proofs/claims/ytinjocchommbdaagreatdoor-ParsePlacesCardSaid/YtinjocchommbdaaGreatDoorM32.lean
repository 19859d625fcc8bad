/- A part of the proof that parser laws hold: texts of the walk and of its plain laws, made small. -/
import Derived.Test.YtinjocchommbdaaGreatDoorM31
import Derived.Laws.EntriesVeiled
set_option linter.unusedVariables false
set_option linter.unusedSimpArgs false
namespace Go.Proofs.YtinjocchommbdaaGreatDoor
open Go.RowKit
theorem box3 {w wr:World} {v0 v1 v2:Value} {t:TypeId} (h:Below (w.heap.size + 1) (w.alloc (.cells #[v0,v1,v2] t)) wr) :
  wr.cell? ⟨w.heap.size,0,none⟩=some v0∧wr.cell? ⟨w.heap.size,1,none⟩=some v1∧wr.cell? ⟨w.heap.size,2,none⟩=some v2:=by
 refine ⟨?_,?_,?_⟩ <;> (rw [h.cell (by simp),World.cell?_alloc_at _ _ _ _ rfl];rfl)
set_option maxHeartbeats 1600000 in
theorem prog_wrong (d:Dt) (v:Value) (W:World) (b:Nat) (hb:W.cell? ⟨b,0,none⟩=some (.func (.func 84) #[] #[])) (hv:IsDt W v d) :
  Calls Tryz.prog 86 (#[v] ++ #[.pointer (some ⟨b,0,none⟩)]) W fun r W'=>r=.returned (.bool (!datB d))∧Below W.heap.size W W':=by
 obtain ⟨nm,ps,fs⟩:=d
 obtain ⟨a1,c1,a2,c2,rfl,_,hs,hps,hfs,hpr,hfr⟩:=hv
 simp only at hs hps hfs hpr hfr
 have hps':=hps
 have hfs':=hfs
 unfold lenMax at hps hfs
 have hB0:Below (W.heap.size + 1) (W.alloc (.cells #[.string nm,.slice a1 ps.length c1,.slice a2 fs.length c2] 77)) (W.alloc (.cells #[.string nm,.slice a1 ps.length c1,.slice a2 fs.length c2] 77)):=Below.refl _ _
 have hbw:=Lib.hid (below_box hB0)
 obtain ⟨k0,k1,k2⟩:=box3 hB0
 have kb:=Keeps.of_below (below_box hB0) _ _ hb
 have hCon:=Lib.hid (fun V=>lex_Con nm V)
 have hNms:=Lib.hid (fun V (h:Below W.heap.size W V)=>tree_names a1 ps c1 V hps' (hpr.keeps (Keeps.of_below h)))
 have hFrm:=Lib.hid (fun V (h:Below W.heap.size W V)=>contains_Form a2 fs c2 84 #[] (fun e=>!formB e) V hfs' (hfr.keeps (Keeps.of_below h)) (fun e he v W hb hv=>prog_bad e v W hv) (fun args w=>Tryz.call84 args w))
 clear hpr hfr hb hB0 hs hps' hfs'
 show Calls Tryz.prog 86 #[.agg #[.string nm,.slice a1 ps.length c1,.slice a2 fs.length c2],.pointer (some ⟨b,0,none⟩)] W _
 cases hc:conB nm
 ·
  have hH:Hid (datB ⟨nm,ps,fs⟩=false):=by unfold Hid;rw [datB,hc];rfl
  rw [hc] at hCon
  clear hc
  go_enter Tryz.func86,Tryz.ntmps86
  go_wp2_with fail
  refine (hCon.out _).mono ?_
  rintro e w1 ⟨rfl,hB1⟩
  go_wp2_with fail
  go_ret
  exact ⟨ret_bool (by rw [hH.out];rfl),hbw.out.trans (hB1.mono (by simp))⟩
 rw [hc] at hCon
 have hc':=Lib.hid hc
 clear hc
 cases hn:namesB ps
 ·
  have hH:Hid (datB ⟨nm,ps,fs⟩=false):=by unfold Hid;rw [datB,hn,Bool.and_false];rfl
  rw [hn] at hNms
  clear hn
  go_enter Tryz.func86,Tryz.ntmps86
  go_wp2_with fail
  refine (hCon.out _).mono ?_
  rintro e w1 ⟨rfl,hB1⟩
  clear k0 k1 k2
  obtain ⟨k0,k1,k2⟩:=box3 (hB1.mono (by simp))
  have hB1':=hbw.out.trans (hB1.mono (by simp))
  clear hB1
  go_wp2_with fail
  refine (hNms.out _ hB1').mono ?_
  rintro e w2 ⟨rfl,hB2⟩
  go_wp2_with fail
  go_ret
  exact ⟨ret_bool (by rw [hH.out];rfl),hB1'.trans (hB2.mono hB1'.size)⟩
 rw [hn] at hNms
 have hn':=Lib.hid hn
 clear hn
 rcases show fs.length < 1∨40 < fs.length∨(1≤fs.length∧fs.length≤40) by omega with hf | hf | ⟨hf1,hf2⟩
 ·
  have hH:Hid (datB ⟨nm,ps,fs⟩=false):=by unfold Hid;rw [datB,decide_eq_false (p:=1≤fs.length) (by show ¬ _;omega),Bool.and_false];rfl
  go_enter Tryz.func86,Tryz.ntmps86
  go_wp2_with fail
  refine (hCon.out _).mono ?_
  rintro e w1 ⟨rfl,hB1⟩
  clear k0 k1 k2
  obtain ⟨k0,k1,k2⟩:=box3 (hB1.mono (by simp))
  have hB1':=hbw.out.trans (hB1.mono (by simp))
  have kb1:=Keeps.of_below (hB1.mono (by simp)) _ _ kb
  clear hB1 kb
  go_wp2_with fail
  refine (hNms.out _ hB1').mono ?_
  rintro e w2 ⟨rfl,hB2⟩
  have hB2':=hB1'.trans (hB2.mono hB1'.size)
  have hK2:=Lib.hid (Keeps.of_below hB2)
  replace k0:=hK2.out _ _ k0
  replace k1:=hK2.out _ _ k1
  replace k2:=hK2.out _ _ k2
  have kb2:=hK2.out _ _ kb1
  clear hB2 kb1
  go_wp2_with fail
  go_ret
  exact ⟨ret_bool (by rw [hH.out];rfl),hB2'⟩
 ·
  have hH:Hid (datB ⟨nm,ps,fs⟩=false):=by unfold Hid;rw [datB,decide_eq_false (p:=fs.length≤40) (Nat.not_le.2 hf),Bool.and_false];rfl
  go_enter Tryz.func86,Tryz.ntmps86
  go_wp2_with fail
  refine (hCon.out _).mono ?_
  rintro e w1 ⟨rfl,hB1⟩
  clear k0 k1 k2
  obtain ⟨k0,k1,k2⟩:=box3 (hB1.mono (by simp))
  have hB1':=hbw.out.trans (hB1.mono (by simp))
  have kb1:=Keeps.of_below (hB1.mono (by simp)) _ _ kb
  clear hB1 kb
  go_wp2_with fail
  refine (hNms.out _ hB1').mono ?_
  rintro e w2 ⟨rfl,hB2⟩
  have hB2':=hB1'.trans (hB2.mono hB1'.size)
  have hK2:=Lib.hid (Keeps.of_below hB2)
  replace k0:=hK2.out _ _ k0
  replace k1:=hK2.out _ _ k1
  replace k2:=hK2.out _ _ k2
  have kb2:=hK2.out _ _ kb1
  clear hB2 kb1
  go_wp2_with fail
  go_ret
  exact ⟨ret_bool (by rw [hH.out];rfl),hB2'⟩
 ·
  have hH:Hid (datB ⟨nm,ps,fs⟩=fs.all formB):=by unfold Hid;rw [datB,hc'.out,hn'.out,decide_eq_true hf1,decide_eq_true hf2];rfl
  go_enter Tryz.func86,Tryz.ntmps86
  go_wp2_with fail
  refine (hCon.out _).mono ?_
  rintro e w1 ⟨rfl,hB1⟩
  clear k0 k1 k2
  obtain ⟨k0,k1,k2⟩:=box3 (hB1.mono (by simp))
  have hB1':=hbw.out.trans (hB1.mono (by simp))
  have kb1:=Keeps.of_below (hB1.mono (by simp)) _ _ kb
  clear hB1 kb
  go_wp2_with fail
  refine (hNms.out _ hB1').mono ?_
  rintro e w2 ⟨rfl,hB2⟩
  have hB2':=hB1'.trans (hB2.mono hB1'.size)
  have hK2:=Lib.hid (Keeps.of_below hB2)
  replace k0:=hK2.out _ _ k0
  replace k1:=hK2.out _ _ k1
  replace k2:=hK2.out _ _ k2
  have kb2:=hK2.out _ _ kb1
  clear hB2 kb1
  go_wp2_with fail
  refine (hFrm.out _ hB2').mono ?_
  rintro e w3 ⟨rfl,hB3⟩
  go_wp2_with fail
  go_ret
  exact ⟨ret_bool (by rw [hH.out,any_not,decide_eq_false (by omega),decide_eq_false (by omega)];rfl),hB2'.trans (hB3.mono hB2'.size)⟩
set_option maxHeartbeats 1600000 in
theorem tree_Prog (p:Pg) (v:Value) (w:World) (hv:IsPg w v p) :
  Calls Tryz.prog 37 #[v] w fun r w'=>r=.returned (.bool (progB p))∧Below w.heap.size w w':=by
 obtain ⟨ds,fs⟩:=p
 obtain ⟨a1,c1,a2,c2,rfl,hds,hfs,hdr,hfr⟩:=hv
 simp only at hds hfs hdr hfr
 have hds':=hds
 have hfs':=hfs
 unfold lenMax at hds hfs
 have hmf:∀ (fn:Fn) (first cap:Array Value) (w:World),(Instr.makeFunc fn first cap).run Tryz.prog w=.ok (.func fn first cap) w:=fun _ _ _ _=>rfl
 have hB0:Below (w.heap.size + 1) (w.alloc (.cells #[.slice a1 ds.length c1,.slice a2 fs.length c2] 38)) ((w.alloc (.cells #[.slice a1 ds.length c1,.slice a2 fs.length c2] 38)).alloc (.cells #[.func (.func 84) #[] #[]] 126)):=(Below.refl _ _).alloc (by simp) _
 have hbw:=Lib.hid (below_box hB0)
 have hbox:∀ W,Below (w.heap.size + 2) ((w.alloc (.cells #[.slice a1 ds.length c1,.slice a2 fs.length c2] 38)).alloc (.cells #[.func (.func 84) #[] #[]] 126)) W→W.cell? ⟨w.heap.size,0,none⟩=some (.slice a1 ds.length c1)∧W.cell? ⟨w.heap.size,1,none⟩=some (.slice a2 fs.length c2)∧W.cell? ⟨w.heap.size + 1,0,none⟩=some (.func (.func 84) #[] #[]):=by
  intro W hb
  refine ⟨(box2 (hB0.trans (hb.mono (by omega)))).1,(box2 (hB0.trans (hb.mono (by omega)))).2,?_⟩
  rw [hb.cell (by simp),World.cell?_alloc_at _ _ _ _ (by simp)];rfl
 obtain ⟨k0,k1,k2⟩:=hbox _ (Below.refl _ _)
 have hbox':=Lib.hid hbox
 have hDat:=Lib.hid (fun V (h:Below w.heap.size w V) (kb:V.cell? ⟨w.heap.size + 1,0,none⟩=some (.func (.func 84) #[] #[]))=>contains_Data a1 ds c1 86 #[.pointer (some ⟨w.heap.size + 1,0,none⟩)] (fun e=>!datB e) V hds' (hdr.keeps (Keeps.of_below h)) (fun e he v W hb hv=>prog_wrong e v W _ (Keeps.of_below hb _ _ kb) hv) (fun args w=>Tryz.call86 args w))
 have hDef:=Lib.hid (fun V (h:Below w.heap.size w V)=>contains_Def a2 fs c2 90 #[] (fun e=>!defB e) V hfs' (hfr.keeps (Keeps.of_below h)) (fun e he v W hb hv=>prog_no e v W hv) (fun args w=>Tryz.call90 args w))
 clear hbox hdr hfr hB0 hds' hfs'
 by_cases h1:ds.length≤40
 case neg =>
  have hH:Hid (progB ⟨ds,fs⟩=false):=by unfold Hid;rw [progB,decide_eq_false (p:=ds.length≤40) h1];rfl
  go_enter Tryz.func37,Tryz.ntmps37
  go_wp2_with fail
  go_ret
  exact ⟨ret_bool (by rw [hH.out]),hbw.out⟩
 by_cases h2:fs.length≤40
 case neg =>
  have hH:Hid (progB ⟨ds,fs⟩=false):=by unfold Hid;rw [progB,decide_eq_false (p:=fs.length≤40) h2,Bool.and_false];rfl
  go_enter Tryz.func37,Tryz.ntmps37
  go_wp2_with fail
  go_ret
  exact ⟨ret_bool (by rw [hH.out]),hbw.out⟩
 have hH:Hid (progB ⟨ds,fs⟩=(ds.all datB && fs.all defB)):=by unfold Hid;rw [progB,decide_eq_true (p:=ds.length≤40) h1,decide_eq_true (p:=fs.length≤40) h2];rfl
 have hd0:=Lib.hid (hDat.out _ (hbw.out) k2)
 rw [any_not] at hd0
 cases h3:ds.all datB
 ·
  rw [h3] at hd0 hH
  clear h3
  go_enter Tryz.func37,Tryz.ntmps37
  go_wp2_with fail
  refine hd0.out.mono ?_
  rintro e w1 ⟨rfl,hB1⟩
  go_wp2_with fail
  go_ret
  exact ⟨ret_bool (by rw [hH.out];rfl),hbw.out.trans (hB1.mono (by simp;omega))⟩
 ·
  rw [h3] at hd0 hH
  clear h3
  go_enter Tryz.func37,Tryz.ntmps37
  go_wp2_with fail
  refine hd0.out.mono ?_
  rintro e w1 ⟨rfl,hB1⟩
  clear k0 k1 k2
  obtain ⟨k0,k1,k2⟩:=hbox'.out _ (hB1.mono (by simp))
  have hB1':=hbw.out.trans (hB1.mono (by simp;omega))
  clear hB1
  go_wp2_with fail
  refine (hDef.out _ hB1').mono ?_
  rintro e w2 ⟨rfl,hB2⟩
  go_wp2_with fail
  go_ret
  exact ⟨ret_bool (by rw [hH.out,any_not,Bool.not_not];rfl),hB1'.trans (hB2.mono hB1'.size)⟩
end Go.Proofs.YtinjocchommbdaaGreatDoor
