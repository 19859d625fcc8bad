/- A part of the proof that parser laws hold: texts of the walk and of its plain laws, made small. -/
import Derived.Test.YtinjocchommbdaaGreatDoorM29
import Derived.Test.YtinjocchommbdaaGreatDoorM30
import Derived.Test.YtinjocchommbdaaGreatDoorM07
set_option linter.unusedVariables false
set_option linter.unusedSimpArgs false
namespace Go.Proofs.YtinjocchommbdaaGreatDoor
open Go.RowKit Go.Shelf
attribute [local go_sem] Oper.semAt_some
theorem allP_parts (p:Ex→Bool):∀ e,allP p e=(partsL e).all p:=by
 refine Ex.ind fun k s n l ks ih=>?_
 rw [allP,partsL,List.all_cons]
 congr 1
 induction ks with
 | nil=>rfl
 | cons e r ihr =>
  rw [allP.allPL,partsL.partsLL,List.all_append,ih e (List.mem_cons_self ..),ihr fun x hx=>ih x (List.mem_cons_of_mem _ hx)]
set_option maxHeartbeats 400000 in
theorem tree_parts (v0 v1 v2 v3 v4:Value) (w:World):Calls Tryz.prog 72 #[.agg #[v0,v1,v2,v3,v4]] w fun r w'=>r=.returned (.func (.func 130) #[] #[.pointer (some ⟨w.heap.size,0,none⟩)])∧w'=w.alloc (.cells #[v0,v1,v2,v3,v4] 27):=by
 have hmf:∀ (fn:Fn) (first cap:Array Value) (w:World),(Instr.makeFunc fn first cap).run Tryz.prog w=.ok (.func fn first cap) w:=fun _ _ _ _=>rfl
 go_enter Tryz.func72,Tryz.ntmps72
 go_wp2_with fail
 go_ret
 exact ⟨rfl,rfl⟩
set_option maxHeartbeats 1000000 in
theorem parts_stops (w₀:World) (n:Nat) (X:Nat→Prop) (v:Value) (e:Ex) (hv:IsEx w₀ v e) (w:World) (Bt:Nat) (hX:∀ b,X b→w₀.heap.size≤b∧b < w.heap.size) (hk:∀ W,Below w.heap.size w W→KeepsBut X w₀ W)
  (hB:∀ W,Below w.heap.size w W→∃ v0 v1 v2 v3 v4,v=.agg #[v0,v1,v2,v3,v4]∧W.cell? ⟨Bt,0,none⟩=some v0∧W.cell? ⟨Bt,1,none⟩=some v1∧W.cell? ⟨Bt,2,none⟩=some v2∧W.cell? ⟨Bt,3,none⟩=some v3∧W.cell? ⟨Bt,4,none⟩=some v4) :
  SeqStopsK Fence.wide n Tryz.prog 130 #[.pointer (some ⟨Bt,0,none⟩)] (fun x:Part w₀=>#[x.1.1]) (KeepsBut X) (fun ys=>ys.map Part.ex=partsL e) (fun ys=>ys.map Part.ex <+: partsL e) (cnt e) w:=by
 intro l J Jx W hW hJ hJx hY h0
 have hdd:∀ k:Nat,(Fence.wide.depth.isSome=true→1≤k):=fun k h=>by cases h
 obtain ⟨v0,v1,v2,v3,v4,rfl,c0,c1,c2,c3,c4⟩:=hB W hW
 have hall:=Lib.hid (tree_all w₀ l (cnt e) X J Jx W.heap.size hJ (fun m pre x W hj hl=>YieldAt.any m (hY pre x W hj hl)) e _ (n - 1) [] W hv (fun b hb=>⟨(hX b hb).1,by have:=(hX b hb).2;have:=hW.size;omega⟩) (hk W hW) h0 (by simp))
 refine callsIn_of_wp Tryz.func130 rfl trivial ?_ rfl
 simp only [Tryz.ntmps130,List.size_toArray,List.length_cons,List.length_nil,Nat.reduceAdd,Nat.reduceSub,Array.replicate_succ,Array.replicate_zero,List.push_toArray,List.append_toArray,List.nil_append,List.cons_append]
 clear hB hk hY hX
 gi_wp2_with fail
 refine ⟨trivial,hdd _,?_⟩
 refine hall.out.mono ?_
 rintro e W1 (⟨rfl,ys,hys,hJ1,_⟩ | ⟨rfl,ys,hys,hJ1⟩)
 ·
  gi_wp2_with fail
  go_end0
  exact ⟨⟨_,rfl⟩,.inl ⟨_,hys,by simpa using hJ1⟩⟩
 ·
  gi_wp2_with fail
  go_end0
  exact ⟨⟨_,rfl⟩,.inr ⟨_,hys,by simpa using hJ1⟩⟩
theorem cell_new1 (W:World) (v:Value) (t:TypeId):(W.alloc (.cells #[v] t)).cell? ⟨W.heap.size,0,none⟩=some v:=by
 rw [World.cell?_alloc_at _ _ _ _ rfl];rfl
theorem frozen_new1 (W:World) (v:Value) (t:TypeId):(W.alloc (.cells #[v] t)).frozen? ⟨W.heap.size,0,none⟩=false:=World.frozen?_alloc_at _ _ _ _ rfl
theorem box51 {w wr:World} {v0 v1 v2 v3 v4 v5:Value} {t t':TypeId} (h:Below (w.heap.size + 2) ((w.alloc (.cells #[v0,v1,v2,v3,v4] t)).alloc (.cells #[v5] t')) wr) :
  Below (w.heap.size + 1) (w.alloc (.cells #[v0,v1,v2,v3,v4] t)) wr∧wr.cell? ⟨w.heap.size + 1,0,none⟩=some v5∧wr.frozen? ⟨w.heap.size + 1,0,none⟩=false∧w.heap.size + 2≤wr.heap.size:=by
 refine ⟨((Below.refl _ _).alloc (by simp) _).trans (h.mono (by omega)),?_,?_,by simpa using h.size⟩
 ·
  rw [h.cell (by simp)]
  have:=cell_new1 (w.alloc (.cells #[v0,v1,v2,v3,v4] t)) v5 t'
  rwa [World.size_alloc] at this
 ·
  rw [h.frozen (by simp)]
  have:=frozen_new1 (w.alloc (.cells #[v0,v1,v2,v3,v4] t)) v5 t'
  rwa [World.size_alloc] at this
set_option maxHeartbeats 1000000 in
theorem tree_Check (e:Ex) (v:Value) (w:World) (hv:IsEx w v e):Calls Tryz.prog 29 #[v] w fun r w'=>r=.returned (.bool (chkB e))∧Below w.heap.size w w':=by
 have hv0:=hv
 have hd:=dep_pos e
 cases e with
 | mk k s n l ks =>
 obtain ⟨a1,c1,a2,c2,rfl,_⟩:=hv.open
 have hB0:Below (w.heap.size + 2) ((w.alloc (.cells #[.int .i64 k,.string s,.int .i64 n,.slice a1 l.length c1,.slice a2 ks.length c2] 27)).alloc (.cells #[.bool false] 4)) ((w.alloc (.cells #[.int .i64 k,.string s,.int .i64 n,.slice a1 l.length c1,.slice a2 ks.length c2] 27)).alloc (.cells #[.bool false] 4)):=Below.refl _ _
 by_cases h2:dep (.mk k s n l ks)≤30
 ·
  by_cases h1:cnt (.mk k s n l ks)≤1000
  ·
   rcases show (k=8∨k=13)∨((k == 8)=false∧(k == 13)=false) by simp only [beq_eq_false_iff_ne];omega with h813 | ⟨h8,h13⟩
   ·
    have hx:Hid (chkB (.mk k s n l ks)=false):=by unfold Hid;rcases h813 with rfl | rfl <;> simp [chkB,Ex.kind]
    rcases h813 with rfl | rfl
    all_goals
     go_enter Tryz.func29,Tryz.ntmps29
     go_wp2_with fail
     refine (tree_depth _ _ _ _ (hv.keeps (keeps_box (box51 hB0).1)) (by omega) (by omega)).mono ?_
     rintro e w1 ⟨rfl,hB1⟩
     have hB1:=hB0.trans (hB1.mono (by simp))
     obtain ⟨hX1,r0,r1,hz1⟩:=box51 hB1
     obtain ⟨b0,b1,b2,b3,b4⟩:=box5 hX1
     go_wp2_with fail
     refine (tree_size _ _ _ _ (hv.keeps (keeps_box hX1)) (by omega) (by omega)).mono ?_
     rintro e w2 ⟨rfl,hB2⟩
     have hB2:=hB1.trans (hB2.mono hz1)
     clear b0 b1 b2 b3 b4 hX1 r0 r1
     obtain ⟨hX2,r0,r1,hz2⟩:=box51 hB2
     obtain ⟨b0,b1,b2,b3,b4⟩:=box5 hX2
     go_wp2_with fail
     refine bodyPost_ret (v:=.bool false) (by simp [results,Tryz.results29,go_sem,r0]) rfl ⟨ret_bool hx.out.symm,?_⟩
     exact (below_box hX2).setCell (by simp) _
   ·
    have hx:=Lib.hid (show chkB (.mk k s n l ks)=sndR (.mk k s n l ks) by rw [chkB,decide_eq_true h1,decide_eq_true h2,Ex.kind,h8,h13];rfl)
    have hparts:=Lib.hid (allP_parts sndQ (.mk k s n l ks))
    have hdd:∀ k:Nat,(Fence.wide.depth.isSome=true→1≤k):=fun k h=>by cases h
    refine (callsIn_wide (n:=6)).1 ?_
    refine callsIn_of_wp_marks Tryz.func29 rfl trivial ?_
    simp only [Tryz.ntmps29,List.size_toArray,List.length_cons,List.length_nil,Nat.reduceAdd,Nat.reduceSub,Array.replicate_succ,Array.replicate_zero,List.push_toArray,List.append_toArray,List.nil_append,List.cons_append]
    gi_wp2_with fail
    refine ⟨trivial,callsIn_wide.2 ((tree_depth _ _ _ _ (hv.keeps (keeps_box (box51 hB0).1)) (by omega) (by omega)).mono ?_)⟩
    rintro e w1 ⟨rfl,hB1⟩
    have hB1:=hB0.trans (hB1.mono (by simp))
    obtain ⟨hX1,r0,r1,hz1⟩:=box51 hB1
    obtain ⟨b0,b1,b2,b3,b4⟩:=box5 hX1
    gi_wp2_with fail
    refine ⟨trivial,callsIn_wide.2 ((tree_size _ _ _ _ (hv.keeps (keeps_box hX1)) (by omega) (by omega)).mono ?_)⟩
    rintro e w2 ⟨rfl,hB2⟩
    have hB2:=hB1.trans (hB2.mono hz1)
    clear b0 b1 b2 b3 b4 hX1 r0 r1
    obtain ⟨hX2,r0,r1,hz2⟩:=box51 hB2
    obtain ⟨b0,b1,b2,b3,b4⟩:=box5 hX2
    gi_wp2_with fail
    refine ⟨trivial,callsIn_wide.2 ((tree_parts _ _ _ _ _ _).mono ?_)⟩
    rintro e w3 ⟨rfl,rfl⟩
    gi_wp2_with fail
    clear b0 b1 b2 b3 b4 r0 r1
    have hBL:Below w2.heap.size w2 (w2.alloc (.cells #[.int .i64 k,.string s,.int .i64 n,.slice a1 l.length c1,.slice a2 ks.length c2] 27)):=(Below.refl _ _).alloc (Nat.le_refl _) _
    have hBL':Below (w.heap.size + 2) ((w.alloc (.cells #[.int .i64 k,.string s,.int .i64 n,.slice a1 l.length c1,.slice a2 ks.length c2] 27)).alloc (.cells #[.bool false] 4)) (w2.alloc (.cells #[.int .i64 k,.string s,.int .i64 n,.slice a1 l.length c1,.slice a2 ks.length c2] 27)):=hB2.trans (hBL.mono hz2)
    refine wpIn_rangeFunc_ownH (F:=Fence.wide) rfl (by omega) (gf:=130) (lb:=#[.pointer (some ⟨w2.heap.size,0,none⟩)]) rfl trivial (enters_of Tryz.func130 (by kernel_rfl) rfl)
     (parts_stops w _ (fun _=>False) _ _ hv0 (w2.alloc (.cells #[.int .i64 k,.string s,.int .i64 n,.slice a1 l.length c1,.slice a2 ks.length c2] 27)) w2.heap.size (fun _ h=>h.elim)
      (fun W hW=>KeepsBut.of_below (below_box (box51 (hBL'.trans (hW.mono (by simp;omega)))).1))
      (fun W hW=>⟨_,_,_,_,_,rfl,box5 (w:=w2) (hW.mono (by simp))⟩))
     (fun h k=>h.trans k) (fun W l o o' hl h ho _=>⟨by simp [World.putObj],fun a v _ hv=>cell_kept hv (grownBy_putObj' W l o') (fun r e=>by cases e;exact ⟨o,h,ho⟩)⟩) (Below.refl _ _) (fun _=>rfl)
     (fun pre W=>(∀ x ∈ pre,sndQ (Part.ex x)=true)∧Below (w.heap.size + 2) ((w.alloc (.cells #[.int .i64 k,.string s,.int .i64 n,.slice a1 l.length c1,.slice a2 ks.length c2] 27)).alloc (.cells #[.bool false] 4)) W)
     (fun c pre W=>(c=.ret∧∃ x ∈ pre,sndQ (Part.ex x)=false)∧Below (w.heap.size + 1) (w.alloc (.cells #[.int .i64 k,.string s,.int .i64 n,.slice a1 l.length c1,.slice a2 ks.length c2] 27)) W∧W.cell? ⟨w.heap.size + 1,0,none⟩=some (.bool false))
     (OwnFrom.and (ownFrom_pure _ _) (ownFrom_below (by simp) (by simp;omega)))
     (fun c=>OwnFrom.and (ownFrom_pure _ _) (OwnFrom.and (ownFrom_below (by simp) (by simp;omega)) (fun s A B row hs hg hr=>cell_kept hs hg (fun r e=>(hr r e).2))))
     ⟨fun x hx=>by simp at hx,hBL'⟩
     (fun x a' W=>∃ (Bx:Nat) (u0 u1 u4 u5 u6 u7 u8 u9 u10 u11 u12 u13 u14 u15 u16 u17 u18 u19 u20 u21 u22 u23 u24 u25 u26 u27:Value),a'={ tmps:=#[u0,u1,.pointer (some ⟨w.heap.size + 1,0,none⟩),.pointer (some ⟨Bx,0,none⟩),u4,u5,u6,u7,u8,u9,u10,u11,u12,u13,u14,u15,u16,u17,u18,u19,u20,u21,u22,u23,u24,u25,u26,u27],defers:=[] }∧∃ v0 v1 v2 v3 v4,x.1.1=.agg #[v0,v1,v2,v3,v4]∧W.cell? ⟨Bx,0,none⟩=some v0∧W.cell? ⟨Bx,1,none⟩=some v1∧W.cell? ⟨Bx,2,none⟩=some v2∧W.cell? ⟨Bx,3,none⟩=some v3∧W.cell? ⟨Bx,4,none⟩=some v4)
     (fun x a' _ A B row hs hg hr=>by
      obtain ⟨Bx,u0,u1,u4,u5,u6,u7,u8,u9,u10,u11,u12,u13,u14,u15,u16,u17,u18,u19,u20,u21,u22,u23,u24,u25,u26,u27,ha,v0,v1,v2,v3,v4,hx,g0,g1,g2,g3,g4⟩:=hs
      have hr':=fun r e=>(hr r e).2
      exact ⟨Bx,u0,u1,u4,u5,u6,u7,u8,u9,u10,u11,u12,u13,u14,u15,u16,u17,u18,u19,u20,u21,u22,u23,u24,u25,u26,u27,ha,v0,v1,v2,v3,v4,hx,cell_kept g0 hg hr',cell_kept g1 hg hr',cell_kept g2 hg hr',cell_kept g3 hg hr',cell_kept g4 hg hr'⟩)
     ?assign ?body ?done ?stop
    case assign =>
     rintro l' pre ⟨⟨xv,xe⟩,hx⟩ W K hI hK
     obtain ⟨xk,xs,xn,xl,xks⟩:=xe
     obtain ⟨x1,y1,x2,y2,rfl,_⟩:=IsEx.open hx
     have hb:Below W.heap.size W (W.alloc (.cells #[.int .i64 xk,.string xs,.int .i64 xn,.slice x1 xl.length y1,.slice x2 xks.length y2] 27)):=(Below.refl _ _).alloc (Nat.le_refl _) _
     gi_wp2
     refine hK _ _ ?_ ?_ ?_ ?_
     ·
      exact KeepsFrom.of_grownBy (grown_of_below hb) (fun j e=>by cases e)
     ·
      exact KeepsBut.of_below hb
     ·
      exact ⟨hI.1,hI.2.trans (hb.mono (by have:=hI.2.size;simpa using this))⟩
     ·
      exact ⟨W.heap.size,_,_,_,_,_,_,_,_,_,_,_,_,_,_,_,_,_,_,_,_,_,_,_,_,_,_,rfl,_,_,_,_,_,rfl,box5 (Below.refl _ _)⟩
    case body =>
     rintro l' pre ⟨⟨xv,xe⟩,hx⟩ a' W hl' hr' hI ⟨Bx,u0,u1,u4,u5,u6,u7,u8,u9,u10,u11,u12,u13,u14,u15,u16,u17,u18,u19,u20,u21,u22,u23,u24,u25,u26,u27,rfl,v0,v1,v2,v3,v4,rfl,g0,g1,g2,g3,g4⟩ hlen
     obtain ⟨hall,hBI⟩:=hI
     have hall':=Lib.hid hall
     clear hall
     obtain ⟨hXI,r0,r1,hzI⟩:=box51 hBI
     have hxW:IsEx W _ xe:=IsEx.keeps (keeps_box hXI) xe _ hx
     cases hs:sndQ xe
     ·
      gi_wp2_with fail
      refine ⟨trivial,?_⟩
      refine (CallsIn.inRound l' (callsIn_wide.2 (tree_sound xe _ W hxW))).mono ?_
      rintro e w5 ⟨rfl,hB5⟩
      rw [hs]
      have hBI5:=hBI.trans (hB5.mono hzI)
      obtain ⟨hX5,r0,r1,hz5⟩:=box51 hBI5
      gi_wp2_with fail
      refine ⟨((KeepsOthers.of_grownBy (grown_of_below hB5) (fun j o e _=>by cases e)).trans (KeepsOthers.setCell _ _ _)).from _,⟨rfl,_,List.mem_append_right _ (List.mem_singleton.2 rfl),hs⟩,hX5.setCell (by simp) _,?_⟩
      exact World.cell?_setCell_same' _ _ _ (by rw [r0];rfl)
     ·
      gi_wp2_with fail
      refine ⟨trivial,?_⟩
      refine (CallsIn.inRound l' (callsIn_wide.2 (tree_sound xe _ W hxW))).mono ?_
      rintro e w5 ⟨rfl,hB5⟩
      rw [hs]
      gi_wp2_with fail
      refine ⟨(KeepsOthers.of_grownBy (grown_of_below hB5) (fun j o e _=>by cases e)).from _,KeepsBut.of_below hB5,fun x hx=>?_,hBI.trans (hB5.mono hzI)⟩
      rcases List.mem_append.1 hx with hx | hx
      ·
       exact hall'.out x hx
      ·
       rw [List.mem_singleton.1 hx];exact hs
    case done =>
     rintro D xs W hD hys ⟨hall,hBI⟩ hKD
     obtain ⟨hXI,r0,r1,hzI⟩:=box51 hBI
     have hall':=Lib.hid hall
     have hys':=Lib.hid hys
     clear hall hys
     gi_wp2_with fail
     have hKD':=(KeepsOthers.setCell W ⟨w.heap.size + 1,0,none⟩ (.bool true)).same D _ hKD rfl
     refine ⟨by simp,.inl ⟨_,_,rfl,run_takeDeferred hKD',?_⟩⟩
     have hc1:(W.setCell ⟨w.heap.size + 1,0,none⟩ (.bool true)).cell? ⟨w.heap.size + 1,0,none⟩=some (.bool true):=World.cell?_setCell_same' _ _ _ (by rw [r0];rfl)
     have hc2:=cell_kept hc1 (grownBy_putObj' _ D (.deferred none)) (fun r e=>by cases e;exact ⟨_,hKD',rfl⟩)
     refine ⟨.bool true,by simp [results,Tryz.results29,go_sem,hc2],ret_bool ?_,?_⟩
     ·
      rw [hx.out,sndR,hparts.out,←hys'.out,eq_comm,List.all_eq_true]
      intro y hy
      obtain ⟨z,hz,rfl⟩:=List.mem_map.1 hy
      exact hall'.out z hz
     ·
      exact ((below_box hXI).setCell (by simp) _).grown (grownBy_putObj' _ D _) (by have:=hBI.size;simp [World.setCell] at this ⊢;omega) (fun k e=>by cases e;simp at hD;omega)
    case stop =>
     rintro D c pre W hD hpre ⟨⟨rfl,hbad⟩,hBI,r0⟩ hKD
     gi_wp2_with fail
     refine ⟨by simp,.inl ⟨_,_,rfl,run_takeDeferred hKD,?_⟩⟩
     have hc2:=cell_kept r0 (grownBy_putObj' _ D (.deferred none)) (fun r e=>by cases e;exact ⟨_,hKD,rfl⟩)
     refine ⟨.bool false,by simp [results,Tryz.results29,go_sem,hc2],ret_bool ?_,?_⟩
     ·
      rw [hx.out,sndR,hparts.out,eq_comm,List.all_eq_false]
      obtain ⟨y,hy,hb⟩:=hbad
      exact ⟨y.ex,hpre.subset (List.mem_map_of_mem hy),by rw [hb];simp⟩
     ·
      exact (below_box hBI).grown (grownBy_putObj' _ D _) (by have:=size_box hBI;omega) (fun k e=>by cases e;simp at hD;omega)
  ·
   have hx:=Lib.hid (show chkB (.mk k s n l ks)=false by rw [chkB,decide_eq_false h1];rfl)
   go_enter Tryz.func29,Tryz.ntmps29
   go_wp2_with fail
   refine (tree_depth _ _ _ _ (hv.keeps (keeps_box (box51 hB0).1)) (by omega) (by omega)).mono ?_
   rintro e w1 ⟨rfl,hB1⟩
   have hB1:=hB0.trans (hB1.mono (by simp))
   obtain ⟨hX1,r0,r1,hz1⟩:=box51 hB1
   obtain ⟨b0,b1,b2,b3,b4⟩:=box5 hX1
   go_wp2_with fail
   refine (tree_size _ _ _ _ (hv.keeps (keeps_box hX1)) (by omega) (by omega)).mono ?_
   rintro e w2 ⟨rfl,hB2⟩
   have hB2:=hB1.trans (hB2.mono hz1)
   clear b0 b1 b2 b3 b4 hX1 r0 r1
   obtain ⟨hX2,r0,r1,hz2⟩:=box51 hB2
   go_wp2_with fail
   refine bodyPost_ret (v:=.bool false) (by simp [results,Tryz.results29,go_sem,r0]) rfl ⟨ret_bool hx.out.symm,?_⟩
   exact (below_box hX2).setCell (by simp) _
 ·
  have hx:=Lib.hid (show chkB (.mk k s n l ks)=false by rw [chkB,decide_eq_false h2,Bool.and_false];rfl)
  go_enter Tryz.func29,Tryz.ntmps29
  go_wp2_with fail
  refine (tree_depth _ _ _ _ (hv.keeps (keeps_box (box51 hB0).1)) (by omega) (by omega)).mono ?_
  rintro e w1 ⟨rfl,hB1⟩
  have hB1:=hB0.trans (hB1.mono (by simp))
  obtain ⟨hX1,r0,r1,hz1⟩:=box51 hB1
  go_wp2_with fail
  refine bodyPost_ret (v:=.bool false) (by simp [results,Tryz.results29,go_sem,r0]) rfl ⟨ret_bool hx.out.symm,?_⟩
  exact (below_box hX1).setCell (by simp) _
end Go.Proofs.YtinjocchommbdaaGreatDoor
namespace Go.Proofs.YtinjocchommbdaaGreatDoor
open Go.RowKit
def headS5 (s:Str) (n:Nat):Bool:=conB s || (nameB s && (n:Int) == 0) || (s.toList == [45,62] && (n:Int) == 2)
def sigB:Sg→Int→Bool
 | .mk s l,most=>decide (0 < most) && decide (l.length≤40) && headS5 s l.length && sigL l (most - 1)
where sigL:List Sg→Int→Bool
 | [],_=>true
 | e :: r,most=>sigB e most && sigL r most
theorem sigL_all (l:List Sg) (most:Int):sigB.sigL l most=l.all fun e=>sigB e most:=by
 induction l with
 | nil=>rfl
 | cons e r ih=>simp only [sigB.sigL,List.all_cons,ih]
theorem any_not {α:Type} (p:α→Bool) (l:List α):(l.any fun e=>!p e)=!(l.all p):=by
 induction l with
 | nil=>rfl
 | cons e r ih=>simp only [List.any_cons,List.all_cons,ih];cases p e <;> simp
theorem sig_inner (e:Sg) (most:Int) (h0:-1000≤most) (h9:most≤1000) (ih:∀ (v:Value) (w:World),IsSg w v e→Calls Tryz.prog 150 #[v,.int .i64 (most - 1)] w fun r w'=>r=.returned (.bool (sigB e (most - 1)))∧Below w.heap.size w w')
  (v:Value) (W:World) (b:Nat) (hb:W.cell? ⟨b,0,none⟩=some (.int .i64 most)) (hv:IsSg W v e) :
  Calls Tryz.prog 187 (#[v] ++ #[.pointer (some ⟨b,0,none⟩)]) W fun r W'=>r=.returned (.bool (!sigB e (most - 1)))∧Below W.heap.size W W':=by
 have hv0:=hv
 obtain ⟨nm,l⟩:=e
 obtain ⟨a1,c1,rfl,_⟩:=hv.open
 have hB0:Below W.heap.size W (W.alloc (.cells #[.string nm,.slice a1 l.length c1] 163)):=(Below.refl _ _).alloc (Nat.le_refl _) _
 have hcall:=Lib.hid (ih _ _ (IsSg.keeps (Keeps.of_below hB0) _ _ hv0))
 have hb1:=Keeps.of_below hB0 _ _ hb
 have hB0':=Lib.hid hB0
 clear hv hv0 hB0 ih hb
 show Calls Tryz.prog 187 #[.agg #[.string nm,.slice a1 l.length c1],.pointer (some ⟨b,0,none⟩)] W _
 go_enter Tryz.func187,Tryz.ntmps187
 go_wp2_with fail
 refine hcall.out.mono ?_
 rintro e w1 ⟨rfl,hB1⟩
 go_wp2_with fail
 go_ret
 exact ⟨rfl,hB0'.out.trans (hB1.mono (by simp))⟩
set_option maxHeartbeats 1600000 in
theorem tree_sig:∀ (s:Sg) (v:Value) (most:Int) (w:World),IsSg w v s→-900≤most→most≤900 →
  Calls Tryz.prog 150 #[v,.int .i64 most] w fun r w'=>r=.returned (.bool (sigB s most))∧Below w.heap.size w w':=by
 refine Sg.ind fun nm l ih v most w hv h0 h9=>?_
 obtain ⟨a1,c1,rfl,hs,hn,hr⟩:=hv.open
 unfold lenMax at hs hn
 have hmf:∀ (fn:Fn) (first cap:Array Value) (w:World),(Instr.makeFunc fn first cap).run Tryz.prog w=.ok (.func fn first cap) w:=fun _ _ _ _=>rfl
 have hB0:Below (w.heap.size + 1) (w.alloc (.cells #[.string nm,.slice a1 l.length c1] 163)) ((w.alloc (.cells #[.string nm,.slice a1 l.length c1] 163)).alloc (.cells #[.int .i64 most] 3)):=(Below.refl _ _).alloc (by simp) _
 have hbw:=Lib.hid (below_box hB0)
 have hbox:∀ W,Below (w.heap.size + 2) ((w.alloc (.cells #[.string nm,.slice a1 l.length c1] 163)).alloc (.cells #[.int .i64 most] 3)) W→W.cell? ⟨w.heap.size,0,none⟩=some (.string nm)∧W.cell? ⟨w.heap.size,1,none⟩=some (.slice a1 l.length c1)∧W.cell? ⟨w.heap.size + 1,0,none⟩=some (.int .i64 most):=by
  intro W hb
  refine ⟨(box2 (hB0.trans (hb.mono (by omega)))).1,(box2 (hB0.trans (hb.mono (by omega)))).2,?_⟩
  rw [hb.cell (by simp),World.cell?_alloc_at _ _ _ _ (by simp)];rfl
 obtain ⟨k0,k1,k2⟩:=hbox _ (Below.refl _ _)
 have hbox':=Lib.hid hbox
 have hr':=Lib.hid hr
 have ih':=Lib.hid ih
 clear hbox hr ih hv hB0
 have hCon:=Lib.hid (fun W=>lex_Con nm W)
 have hNm:=Lib.hid (fun W=>lex_Name nm W)
 by_cases hm:most≤0
 ·
  go_enter Tryz.func150,Tryz.ntmps150
  go_wp2_with fail
  go_ret
  exact ⟨ret_bool (by rw [sigB,decide_eq_false (by omega)];rfl),hbw.out⟩
 by_cases hk:40 < l.length
 ·
  go_enter Tryz.func150,Tryz.ntmps150
  go_wp2_with fail
  go_ret
  exact ⟨ret_bool (by rw [sigB,decide_eq_false (p:=l.length≤40) (by omega),Bool.and_false];rfl),hbw.out⟩
 cases hc:conB nm
 case true =>
  have hc':=Lib.hid hc
  have hH:Hid (headS5 nm l.length=true):=by unfold Hid;rw [headS5,hc];rfl
  rw [hc] at hCon
  clear hc
  go_enter Tryz.func150,Tryz.ntmps150
  go_wp2_with fail
  refine (hCon.out _).mono ?_
  rintro e w1 ⟨rfl,hB1⟩
  have hC1:=hB1
  clear hB1 k0 k1 k2
  obtain ⟨k0,k1,k2⟩:=hbox'.out _ (hC1.mono (by simp))
  have hz:w.heap.size + 2≤w1.heap.size:=by have:=hC1.size;simp at this;omega
  have hcon:=Lib.hid (contains_Sig a1 l c1 187 #[.pointer (some ⟨w.heap.size + 1,0,none⟩)] (fun e=>!sigB e (most - 1)) w1 (by unfold lenMax;omega) (hr'.out.keeps (Keeps.of_below (hbw.out.trans (hC1.mono (by simp;omega))))) (fun e he v W hb hv=>sig_inner e most (by omega) (by omega) (fun v w hv=>ih'.out e he v (most - 1) w hv (by omega) (by omega)) v W _ (Keeps.of_below hb _ _ k2) hv) (fun args w=>Tryz.call187 args w))
  go_wp2_with fail
  refine hcon.out.mono ?_
  rintro e wz ⟨rfl,hBz⟩
  go_wp2_with fail
  go_ret
  refine ⟨ret_bool ?_,hbw.out.trans ((hC1.mono (by simp;omega)).trans (hBz.mono (by omega)))⟩
  rw [any_not,Bool.not_not,sigB,sigL_all,decide_eq_true (by omega),decide_eq_true (by omega),hH.out];rfl
 case false =>
 cases hn:nameB nm
 case false =>
  cases ha:(nm.toList == [45,62])
  case false =>
   have hc':=Lib.hid hc
   have hn':=Lib.hid hn
   have ha':=Lib.hid ha
   have hH:Hid (headS5 nm l.length=false):=by unfold Hid;rw [headS5,hc,hn,ha];rfl
   rw [hc] at hCon
   rw [hn] at hNm
   clear hc hn
   go_enter Tryz.func150,Tryz.ntmps150
   go_wp2_with fail
   refine (hCon.out _).mono ?_
   rintro e w1 ⟨rfl,hB1⟩
   have hC1:=hB1
   clear hB1 k0 k1 k2
   obtain ⟨k0,k1,k2⟩:=hbox'.out _ (hC1.mono (by simp))
   go_wp2_with fail
   refine (hNm.out _).mono ?_
   rintro e w2 ⟨rfl,hB2⟩
   have hC2:=hC1.trans (hB2.mono (by have:=hC1.size;simp at this ⊢;omega))
   clear hB2 k0 k1 k2
   obtain ⟨k0,k1,k2⟩:=hbox'.out _ (hC2.mono (by simp))
   go_wp2_with fail
   go_ret
   refine ⟨ret_bool ?_,hbw.out.trans (hC2.mono (by simp;omega))⟩
   rw [sigB,hH.out,Bool.and_false];rfl
  case true =>
  cases h2:((l.length:Int) == 2)
  case false =>
   have hc':=Lib.hid hc
   have hn':=Lib.hid hn
   have ha':=Lib.hid ha
   have h2':=Lib.hid h2
   have hH:Hid (headS5 nm l.length=false):=by unfold Hid;rw [headS5,hc,hn,ha,h2];rfl
   rw [hc] at hCon
   rw [hn] at hNm
   clear hc hn
   go_enter Tryz.func150,Tryz.ntmps150
   go_wp2_with fail
   refine (hCon.out _).mono ?_
   rintro e w1 ⟨rfl,hB1⟩
   have hC1:=hB1
   clear hB1 k0 k1 k2
   obtain ⟨k0,k1,k2⟩:=hbox'.out _ (hC1.mono (by simp))
   go_wp2_with fail
   refine (hNm.out _).mono ?_
   rintro e w2 ⟨rfl,hB2⟩
   have hC2:=hC1.trans (hB2.mono (by have:=hC1.size;simp at this ⊢;omega))
   clear hB2 k0 k1 k2
   obtain ⟨k0,k1,k2⟩:=hbox'.out _ (hC2.mono (by simp))
   go_wp2_with fail
   go_ret
   refine ⟨ret_bool ?_,hbw.out.trans (hC2.mono (by simp;omega))⟩
   rw [sigB,hH.out,Bool.and_false];rfl
  case true =>
   have hc':=Lib.hid hc
   have hn':=Lib.hid hn
   have ha':=Lib.hid ha
   have h2':=Lib.hid h2
   have hH:Hid (headS5 nm l.length=true):=by unfold Hid;rw [headS5,hc,hn,ha,h2];rfl
   rw [hc] at hCon
   rw [hn] at hNm
   clear hc hn
   go_enter Tryz.func150,Tryz.ntmps150
   go_wp2_with fail
   refine (hCon.out _).mono ?_
   rintro e w1 ⟨rfl,hB1⟩
   have hC1:=hB1
   clear hB1 k0 k1 k2
   obtain ⟨k0,k1,k2⟩:=hbox'.out _ (hC1.mono (by simp))
   go_wp2_with fail
   refine (hNm.out _).mono ?_
   rintro e w2 ⟨rfl,hB2⟩
   have hC2:=hC1.trans (hB2.mono (by have:=hC1.size;simp at this ⊢;omega))
   clear hB2 k0 k1 k2
   obtain ⟨k0,k1,k2⟩:=hbox'.out _ (hC2.mono (by simp))
   have hz:w.heap.size + 2≤w2.heap.size:=by have:=hC2.size;simp at this;omega
   have hcon:=Lib.hid (contains_Sig a1 l c1 187 #[.pointer (some ⟨w.heap.size + 1,0,none⟩)] (fun e=>!sigB e (most - 1)) w2 (by unfold lenMax;omega) (hr'.out.keeps (Keeps.of_below (hbw.out.trans (hC2.mono (by simp;omega))))) (fun e he v W hb hv=>sig_inner e most (by omega) (by omega) (fun v w hv=>ih'.out e he v (most - 1) w hv (by omega) (by omega)) v W _ (Keeps.of_below hb _ _ k2) hv) (fun args w=>Tryz.call187 args w))
   go_wp2_with fail
   refine hcon.out.mono ?_
   rintro e wz ⟨rfl,hBz⟩
   go_wp2_with fail
   go_ret
   refine ⟨ret_bool ?_,hbw.out.trans ((hC2.mono (by simp;omega)).trans (hBz.mono (by omega)))⟩
   rw [any_not,Bool.not_not,sigB,sigL_all,decide_eq_true (by omega),decide_eq_true (by omega),hH.out];rfl
 case true =>
  cases h00:((l.length:Int) == 0)
  case false =>
   cases ha:(nm.toList == [45,62])
   case false =>
    have hc':=Lib.hid hc
    have hn':=Lib.hid hn
    have h0':=Lib.hid h00
    have ha':=Lib.hid ha
    have hH:Hid (headS5 nm l.length=false):=by unfold Hid;rw [headS5,hc,hn,h00,ha];rfl
    rw [hc] at hCon
    rw [hn] at hNm
    clear hc hn
    go_enter Tryz.func150,Tryz.ntmps150
    go_wp2_with fail
    refine (hCon.out _).mono ?_
    rintro e w1 ⟨rfl,hB1⟩
    have hC1:=hB1
    clear hB1 k0 k1 k2
    obtain ⟨k0,k1,k2⟩:=hbox'.out _ (hC1.mono (by simp))
    go_wp2_with fail
    refine (hNm.out _).mono ?_
    rintro e w2 ⟨rfl,hB2⟩
    have hC2:=hC1.trans (hB2.mono (by have:=hC1.size;simp at this ⊢;omega))
    clear hB2 k0 k1 k2
    obtain ⟨k0,k1,k2⟩:=hbox'.out _ (hC2.mono (by simp))
    go_wp2_with fail
    go_ret
    refine ⟨ret_bool ?_,hbw.out.trans (hC2.mono (by simp;omega))⟩
    rw [sigB,hH.out,Bool.and_false];rfl
   case true =>
   cases h2:((l.length:Int) == 2)
   case false =>
    have hc':=Lib.hid hc
    have hn':=Lib.hid hn
    have h0':=Lib.hid h00
    have ha':=Lib.hid ha
    have h2':=Lib.hid h2
    have hH:Hid (headS5 nm l.length=false):=by unfold Hid;rw [headS5,hc,hn,h00,ha,h2];rfl
    rw [hc] at hCon
    rw [hn] at hNm
    clear hc hn
    go_enter Tryz.func150,Tryz.ntmps150
    go_wp2_with fail
    refine (hCon.out _).mono ?_
    rintro e w1 ⟨rfl,hB1⟩
    have hC1:=hB1
    clear hB1 k0 k1 k2
    obtain ⟨k0,k1,k2⟩:=hbox'.out _ (hC1.mono (by simp))
    go_wp2_with fail
    refine (hNm.out _).mono ?_
    rintro e w2 ⟨rfl,hB2⟩
    have hC2:=hC1.trans (hB2.mono (by have:=hC1.size;simp at this ⊢;omega))
    clear hB2 k0 k1 k2
    obtain ⟨k0,k1,k2⟩:=hbox'.out _ (hC2.mono (by simp))
    go_wp2_with fail
    go_ret
    refine ⟨ret_bool ?_,hbw.out.trans (hC2.mono (by simp;omega))⟩
    rw [sigB,hH.out,Bool.and_false];rfl
   case true =>
    have hc':=Lib.hid hc
    have hn':=Lib.hid hn
    have h0':=Lib.hid h00
    have ha':=Lib.hid ha
    have h2':=Lib.hid h2
    have hH:Hid (headS5 nm l.length=true):=by unfold Hid;rw [headS5,hc,hn,h00,ha,h2];rfl
    rw [hc] at hCon
    rw [hn] at hNm
    clear hc hn
    go_enter Tryz.func150,Tryz.ntmps150
    go_wp2_with fail
    refine (hCon.out _).mono ?_
    rintro e w1 ⟨rfl,hB1⟩
    have hC1:=hB1
    clear hB1 k0 k1 k2
    obtain ⟨k0,k1,k2⟩:=hbox'.out _ (hC1.mono (by simp))
    go_wp2_with fail
    refine (hNm.out _).mono ?_
    rintro e w2 ⟨rfl,hB2⟩
    have hC2:=hC1.trans (hB2.mono (by have:=hC1.size;simp at this ⊢;omega))
    clear hB2 k0 k1 k2
    obtain ⟨k0,k1,k2⟩:=hbox'.out _ (hC2.mono (by simp))
    have hz:w.heap.size + 2≤w2.heap.size:=by have:=hC2.size;simp at this;omega
    have hcon:=Lib.hid (contains_Sig a1 l c1 187 #[.pointer (some ⟨w.heap.size + 1,0,none⟩)] (fun e=>!sigB e (most - 1)) w2 (by unfold lenMax;omega) (hr'.out.keeps (Keeps.of_below (hbw.out.trans (hC2.mono (by simp;omega))))) (fun e he v W hb hv=>sig_inner e most (by omega) (by omega) (fun v w hv=>ih'.out e he v (most - 1) w hv (by omega) (by omega)) v W _ (Keeps.of_below hb _ _ k2) hv) (fun args w=>Tryz.call187 args w))
    go_wp2_with fail
    refine hcon.out.mono ?_
    rintro e wz ⟨rfl,hBz⟩
    go_wp2_with fail
    go_ret
    refine ⟨ret_bool ?_,hbw.out.trans ((hC2.mono (by simp;omega)).trans (hBz.mono (by omega)))⟩
    rw [any_not,Bool.not_not,sigB,sigL_all,decide_eq_true (by omega),decide_eq_true (by omega),hH.out];rfl
  case true =>
   have hc':=Lib.hid hc
   have hn':=Lib.hid hn
   have h0':=Lib.hid h00
   have hH:Hid (headS5 nm l.length=true):=by unfold Hid;rw [headS5,hc,hn,h00];rfl
   rw [hc] at hCon
   rw [hn] at hNm
   clear hc hn
   go_enter Tryz.func150,Tryz.ntmps150
   go_wp2_with fail
   refine (hCon.out _).mono ?_
   rintro e w1 ⟨rfl,hB1⟩
   have hC1:=hB1
   clear hB1 k0 k1 k2
   obtain ⟨k0,k1,k2⟩:=hbox'.out _ (hC1.mono (by simp))
   go_wp2_with fail
   refine (hNm.out _).mono ?_
   rintro e w2 ⟨rfl,hB2⟩
   have hC2:=hC1.trans (hB2.mono (by have:=hC1.size;simp at this ⊢;omega))
   clear hB2 k0 k1 k2
   obtain ⟨k0,k1,k2⟩:=hbox'.out _ (hC2.mono (by simp))
   have hz:w.heap.size + 2≤w2.heap.size:=by have:=hC2.size;simp at this;omega
   have hcon:=Lib.hid (contains_Sig a1 l c1 187 #[.pointer (some ⟨w.heap.size + 1,0,none⟩)] (fun e=>!sigB e (most - 1)) w2 (by unfold lenMax;omega) (hr'.out.keeps (Keeps.of_below (hbw.out.trans (hC2.mono (by simp;omega))))) (fun e he v W hb hv=>sig_inner e most (by omega) (by omega) (fun v w hv=>ih'.out e he v (most - 1) w hv (by omega) (by omega)) v W _ (Keeps.of_below hb _ _ k2) hv) (fun args w=>Tryz.call187 args w))
   go_wp2_with fail
   refine hcon.out.mono ?_
   rintro e wz ⟨rfl,hBz⟩
   go_wp2_with fail
   go_ret
   refine ⟨ret_bool ?_,hbw.out.trans ((hC2.mono (by simp;omega)).trans (hBz.mono (by omega)))⟩
   rw [any_not,Bool.not_not,sigB,sigL_all,decide_eq_true (by omega),decide_eq_true (by omega),hH.out];rfl
end Go.Proofs.YtinjocchommbdaaGreatDoor
namespace Go.Proofs.YtinjocchommbdaaGreatDoor
open Go.RowKit
def formB (f:Sg):Bool:=conB f.name && decide (f.args.length≤40) && f.args.all fun e=>sigB e 30
def datB (d:Dt):Bool:=conB d.name && namesB d.params && decide (1≤d.forms.length) && decide (d.forms.length≤40) && d.forms.all formB
def defB (d:Df):Bool:=nameB d.name && chkB d.body
def progB (p:Pg):Bool:=decide (p.datas.length≤40) && decide (p.defs.length≤40) && p.datas.all datB && p.defs.all defB
theorem form_inner (e:Sg) (v:Value) (W:World) (hv:IsSg W v e) :
  Calls Tryz.prog 149 (#[v] ++ #[]) W fun r W'=>r=.returned (.bool (!sigB e 30))∧Below W.heap.size W W':=by
 have hv0:=hv
 obtain ⟨nm,l⟩:=e
 obtain ⟨a1,c1,rfl,_⟩:=hv.open
 have hB0:Below W.heap.size W (W.alloc (.cells #[.string nm,.slice a1 l.length c1] 163)):=(Below.refl _ _).alloc (Nat.le_refl _) _
 have hcall:=Lib.hid (tree_sig _ _ 30 _ (IsSg.keeps (Keeps.of_below hB0) _ _ hv0) (by omega) (by omega))
 have hB0':=Lib.hid hB0
 clear hv hv0 hB0
 show Calls Tryz.prog 149 #[.agg #[.string nm,.slice a1 l.length c1]] W _
 go_enter Tryz.func149,Tryz.ntmps149
 go_wp2_with fail
 refine hcall.out.mono ?_
 rintro e w1 ⟨rfl,hB1⟩
 go_wp2_with fail
 go_ret
 exact ⟨rfl,hB0'.out.trans (hB1.mono (by simp))⟩
set_option maxHeartbeats 800000 in
theorem tree_form (f:Sg) (v:Value) (w:World) (hv:IsSg w v f) :
  Calls Tryz.prog 85 #[v] w fun r w'=>r=.returned (.bool (formB f))∧Below w.heap.size w w':=by
 obtain ⟨nm,l⟩:=f
 obtain ⟨a1,c1,rfl,hs,hn,hr⟩:=hv.open
 unfold lenMax at hs hn
 have hB0:Below (w.heap.size + 1) (w.alloc (.cells #[.string nm,.slice a1 l.length c1] 125)) (w.alloc (.cells #[.string nm,.slice a1 l.length c1] 125)):=Below.refl _ _
 have hbw:=Lib.hid (below_box hB0)
 have hCon:=Lib.hid (fun W=>lex_Con nm W)
 have hr':=Lib.hid hr
 clear hr hv hB0
 cases hc:conB nm
 ·
  have hH:Hid (formB (.mk nm l)=false):=by unfold Hid;rw [formB,Sg.name,hc];rfl
  rw [hc] at hCon
  clear hc
  go_enter Tryz.func85,Tryz.ntmps85
  go_wp2_with fail
  refine (hCon.out _).mono ?_
  rintro e w1 ⟨rfl,hB1⟩
  go_wp2_with fail
  go_ret
  exact ⟨ret_bool hH.out.symm,hbw.out.trans (hB1.mono (by simp))⟩
 ·
  rw [hc] at hCon
  have hc':=Lib.hid hc
  clear hc
  by_cases hk:l.length≤40
  ·
   have hH:Hid (formB (.mk nm l)=l.all fun e=>sigB e 30):=by unfold Hid;rw [formB,Sg.name,hc'.out,Sg.args,decide_eq_true hk];rfl
   go_enter Tryz.func85,Tryz.ntmps85
   go_wp2_with fail
   refine (hCon.out _).mono ?_
   rintro e w1 ⟨rfl,hB1⟩
   obtain ⟨j0,j1⟩:=box2 (hB1.mono (by simp))
   have hB1':=hbw.out.trans (hB1.mono (by simp))
   have hcon:=Lib.hid (contains_Sig a1 l c1 149 #[] (fun e=>!sigB e 30) w1 (by unfold lenMax;omega) (hr'.out.keeps (Keeps.of_below hB1')) (fun e he v W hb hv=>form_inner e v W hv) (fun args w=>Tryz.call149 args w))
   clear hB1
   go_wp2_with fail
   refine hcon.out.mono ?_
   rintro e w2 ⟨rfl,hB2⟩
   go_wp2_with fail
   go_ret
   exact ⟨ret_bool (by rw [hH.out,any_not,Bool.not_not]),hB1'.trans (hB2.mono hB1'.size)⟩
  ·
   have hH:Hid (formB (.mk nm l)=false):=by unfold Hid;rw [formB,Sg.args,decide_eq_false hk,Bool.and_false];rfl
   go_enter Tryz.func85,Tryz.ntmps85
   go_wp2_with fail
   refine (hCon.out _).mono ?_
   rintro e w1 ⟨rfl,hB1⟩
   obtain ⟨j0,j1⟩:=box2 (hB1.mono (by simp))
   have hB1':=hbw.out.trans (hB1.mono (by simp))
   clear hB1
   go_wp2_with fail
   go_ret
   exact ⟨ret_bool hH.out.symm,hB1'⟩
theorem prog_bad (e:Sg) (v:Value) (W:World) (hv:IsSg W v e) :
  Calls Tryz.prog 84 (#[v] ++ #[]) W fun r W'=>r=.returned (.bool (!formB e))∧Below W.heap.size W W':=by
 have hv0:=hv
 obtain ⟨nm,l⟩:=e
 obtain ⟨a1,c1,rfl,_⟩:=hv.open
 have hB0:Below W.heap.size W (W.alloc (.cells #[.string nm,.slice a1 l.length c1] 125)):=(Below.refl _ _).alloc (Nat.le_refl _) _
 have hcall:=Lib.hid (tree_form _ _ _ (IsSg.keeps (Keeps.of_below hB0) _ _ hv0))
 have hB0':=Lib.hid hB0
 clear hv hv0 hB0
 show Calls Tryz.prog 84 #[.agg #[.string nm,.slice a1 l.length c1]] W _
 go_enter Tryz.func84,Tryz.ntmps84
 go_wp2_with fail
 refine hcall.out.mono ?_
 rintro e w1 ⟨rfl,hB1⟩
 go_wp2_with fail
 go_ret
 exact ⟨rfl,hB0'.out.trans (hB1.mono (by simp))⟩
theorem prog_no (d:Df) (v:Value) (W:World) (hv:IsDf W v d) :
  Calls Tryz.prog 90 (#[v] ++ #[]) W fun r W'=>r=.returned (.bool (!defB d))∧Below W.heap.size W W':=by
 obtain ⟨nm,e⟩:=d
 obtain ⟨v1,v2,v3,v4,v5,rfl,hs,he⟩:=hv
 simp only at hs he
 have hB0:Below (W.heap.size + 1) (W.alloc (.cells #[.string nm,v1,v2,v3,v4,v5] 79)) (W.alloc (.cells #[.string nm,v1,v2,v3,v4,v5] 79)):=Below.refl _ _
 have hbw:=Lib.hid (below_box hB0)
 have hbox:∀ V,Below (W.heap.size + 1) (W.alloc (.cells #[.string nm,v1,v2,v3,v4,v5] 79)) V→V.cell? ⟨W.heap.size,0,none⟩=some (.string nm)∧V.cell? ⟨W.heap.size,1,none⟩=some v1∧V.cell? ⟨W.heap.size,2,none⟩=some v2∧V.cell? ⟨W.heap.size,3,none⟩=some v3∧V.cell? ⟨W.heap.size,4,none⟩=some v4∧V.cell? ⟨W.heap.size,5,none⟩=some v5:=by
  intro V h
  refine ⟨?_,?_,?_,?_,?_,?_⟩ <;> (rw [h.cell (by simp),World.cell?_alloc_at _ _ _ _ rfl];rfl)
 obtain ⟨k0,k1,k2,k3,k4,k5⟩:=hbox _ hB0
 have hbox':=Lib.hid hbox
 have hNm:=Lib.hid (fun W=>lex_Name nm W)
 have hChk:=Lib.hid (fun V (hb:Below W.heap.size W V)=>tree_Check e _ V (he.keeps (Keeps.of_below hb)))
 clear hbox hB0 he
 show Calls Tryz.prog 90 #[.agg #[.string nm,v1,v2,v3,v4,v5]] W _
 cases hn:nameB nm
 ·
  have hH:Hid (defB ⟨nm,e⟩=false):=by unfold Hid;rw [defB,hn];rfl
  rw [hn] at hNm
  clear hn
  go_enter Tryz.func90,Tryz.ntmps90
  go_wp2_with fail
  refine (hNm.out _).mono ?_
  rintro e w1 ⟨rfl,hB1⟩
  go_wp2_with fail
  go_ret
  exact ⟨ret_bool (by rw [hH.out];rfl),hbw.out.trans (hB1.mono (by simp))⟩
 ·
  have hH:Hid (defB ⟨nm,e⟩=chkB e):=by unfold Hid;rw [defB,hn];rfl
  rw [hn] at hNm
  clear hn
  go_enter Tryz.func90,Tryz.ntmps90
  go_wp2_with fail
  refine (hNm.out _).mono ?_
  rintro e w1 ⟨rfl,hB1⟩
  clear k0 k1 k2 k3 k4 k5
  obtain ⟨k0,k1,k2,k3,k4,k5⟩:=hbox'.out _ (hB1.mono (by simp))
  have hB1':=hbw.out.trans (hB1.mono (by simp))
  clear hB1
  go_wp2_with fail
  refine (hChk.out _ hB1').mono ?_
  rintro e w2 ⟨rfl,hB2⟩
  go_wp2_with fail
  go_ret
  exact ⟨ret_bool (by rw [hH.out]),hB1'.trans (hB2.mono hB1'.size)⟩
end Go.Proofs.YtinjocchommbdaaGreatDoor
