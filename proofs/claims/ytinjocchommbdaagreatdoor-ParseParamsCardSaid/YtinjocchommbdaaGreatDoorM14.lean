/- A part of the proof that parser laws hold: texts of the walk and of its plain laws, made small. -/
import Derived.Test.YtinjocchommbdaaGreatDoorM13
set_option linter.unusedVariables false
set_option linter.unusedSimpArgs false
namespace Go.Proofs.YtinjocchommbdaaGreatDoor
open Go.RowKit
theorem ahead_len (p:Option Tk) (f:Bool) (t:Tk) (st:List Int):(aheadS p f t st).1.length + (aheadS p f t st).2.length≤st.length + 2:=by
 unfold aheadS
 cases p with
 | none=>simp only;split <;> simp <;> omega
 | some q =>
  simp only
  split
  ·
   unfold lineS
   have:=shutW_len (fun c=>decide (t.col < c)) st
   simp only [List.length_append,List.length_replicate]
   split <;> simp <;> omega
  ·
   simp
theorem fitS_len {t:Tk} {st:List Int} {o2:List Tk} {s2:List Int} (h:fitS t st=some (o2,s2)):o2.length + s2.length≤st.length:=by
 unfold fitS at h
 split at h
 ·
  have hl:=shutW_len (fun _=>true) st
  split at h
  ·
   cases h
  ·
   rename_i c r hq
   rw [hq] at hl
   split at h
   ·
    simp at h;obtain ⟨rfl,rfl⟩:=h;simp at hl ⊢;omega
   ·
    cases h
 ·
  split at h
  ·
   cases st with
   | nil=>cases h
   | cons c r =>
    simp only at h
    split at h
    ·
     simp at h;obtain ⟨rfl,rfl⟩:=h;simp
    ·
     cases h
  ·
   simp at h;obtain ⟨rfl,rfl⟩:=h;simp
theorem beh_len (t:Tk) (n:Option Tk) (st:List Int):(behS t n st).1.length + (behS t n st).2.1.length≤st.length + 2:=by
 unfold behS
 split
 ·
  simp
 ·
  split
  ·
   simp
  ·
   split
   ·
    cases n with
    | none=>simp;omega
    | some u =>
     simp only
     split
     ·
      simp
     ·
      split
      ·
       simp;omega
      ·
       simp;omega
   ·
    simp
theorem TkRow.drop {w:World} {a:Option Addr} {l:List Tk} (h:TkRow w a l) (k:Nat):TkRow w (a.map fun x=>x.add (k * 5)) (l.drop k):=by
 rcases h with h | ⟨b,off,rfl,h⟩
 ·
  subst h;exact .inl (by simp)
 ·
  refine .inr ⟨b,off + k * 5,by simp [addr_plus],fun i hi=>?_⟩
  rw [List.length_drop] at hi
  have:=h (k + i) (by omega)
  simp only [List.getElem_drop]
  rw [show off + k * 5 + i * 5=off + (k + i) * 5 by omega]
  exact this
def LayR (R:Res) (e:Ending) (W:World):Prop :=
 match R with
 | .ok m=>∃ v,e=.returned (.tuple #[v,.agg #[.int .i64 0,.int .i64 0],.int .i64 0])∧TkSl W v m
 | .bad x y=>e=.returned (.tuple #[.slice none 0 0,.agg #[.int .i64 x,.int .i64 y],.int .i64 30])
set_option maxHeartbeats 4000000 in
set_option maxRecDepth 100000 in
theorem lay_failed (t:Tk) (W:World):Calls Tryz.prog 48 #[tkV t] W fun e W'=>e=.returned (.tuple #[.slice none 0 0,.agg #[.int .i64 t.line,.int .i64 t.col],.int .i64 30])∧Below W.heap.size W W':=by
 obtain ⟨W1,hW1⟩:∃ V,W.alloc (.cells #[.int .i64 t.kind,.string (tS t.text),.int .i64 t.num,.int .i64 t.line,.int .i64 t.col] 51)=V:=⟨_,rfl⟩
 have hb1:Below W.heap.size W W1:=by rw [←hW1];exact (Below.refl _ _).alloc (Nat.le_refl _) _
 have hx1:Box5 W1 51 W.heap.size (.int .i64 t.kind) (.string (tS t.text)) (.int .i64 t.num) (.int .i64 t.line) (.int .i64 t.col):=by rw [←hW1];exact blk_new (Below.refl _ _)
 have hz1:W1.heap.size=W.heap.size + 1:=by rw [←hW1];simp
 obtain ⟨W2,hW2⟩:∃ V,W1.alloc (.cells #[.int .i64 0,.int .i64 0] 29)=V:=⟨_,rfl⟩
 have hb2:Below W1.heap.size W1 W2:=by rw [←hW2];exact (Below.refl _ _).alloc (Nat.le_refl _) _
 have hx2:Box2 W2 29 W1.heap.size (.int .i64 0) (.int .i64 0):=by rw [←hW2];exact blk_new (Below.refl _ _)
 rw [hz1] at hx2
 have hst:Hid (∀ V,V=W2.drew→V.cell? ⟨W.heap.size,3,none⟩=some (.int .i64 t.line)∧V.cell? ⟨W.heap.size,4,none⟩=some (.int .i64 t.col)∧V.cell? ⟨W.heap.size + 1,0,none⟩=some (.int .i64 0)∧V.cell? ⟨W.heap.size + 1,1,none⟩=some (.int .i64 0)∧∀ i,V.frozen? ⟨W.heap.size + 1,i,none⟩=false):=by
  rintro V rfl
  obtain ⟨⟨_,_,_,d3,d4⟩,_⟩:=(hx1.below hb2).cells
  obtain ⟨⟨e0,e1⟩,ef⟩:=hx2.cells
  exact ⟨d3,d4,e0,e1,ef⟩
 have hfin:Hid (Box2 ((W2.drew.setCell ⟨W.heap.size + 1,0,none⟩ (.int .i64 t.line)).setCell ⟨W.heap.size + 1,1,none⟩ (.int .i64 t.col)) 29 (W.heap.size + 1) (.int .i64 t.line) (.int .i64 t.col)∧Below W.heap.size W ((W2.drew.setCell ⟨W.heap.size + 1,0,none⟩ (.int .i64 t.line)).setCell ⟨W.heap.size + 1,1,none⟩ (.int .i64 t.col))):=by
  have hq:=(show Box2 W2.drew 29 (W.heap.size + 1) (.int .i64 0) (.int .i64 0) from hx2).set (.int .i64 t.line) (.int .i64 t.col)
  unfold World.set2 at hq
  exact ⟨hq.1,(hb1.trans ((hb2.trans (Below.refl _ _).drew).mono (by omega))).trans (hq.2.below.mono (by omega))⟩
 have hW1':=Lib.hid hW1
 have hW2':=Lib.hid hW2
 clear hW1 hb1 hx1 hz1 hW2 hb2 hx2
 unfold tkV
 go_enter Tryz.func48,Tryz.ntmps48
 go_upto_region 1 with (fail)
 rw [hW1'.out,hW2'.out]
 refine wp_region_inv (fun f a Vr=>∃ x:Nat→Value,a=⟨#[.agg #[.int .i64 t.kind,.string (tS t.text),.int .i64 t.num,.int .i64 t.line,.int .i64 t.col],.pointer (some ⟨W.heap.size,0,none⟩),x 5,.pointer (some ⟨W.heap.size + 1,0,none⟩),x 7,x 0,x 1,x 2,x 3,x 4],[]⟩∧(f 6=false→Vr=W2.drew)∧(f 6=true→Vr=(W2.drew.setCell ⟨W.heap.size + 1,0,none⟩ (.int .i64 t.line)).setCell ⟨W.heap.size + 1,1,none⟩ (.int .i64 t.col))∧VO [some (.pointer (some ⟨W.heap.size,3,none⟩)),some (.int .i64 t.line),some (.pointer (some ⟨W.heap.size,4,none⟩)),some (.int .i64 t.col),some (.agg #[.int .i64 t.line,.int .i64 t.col]),some (.slice none 0 0),none,some (.int .i64 30)] f x) (by kernel_rfl) (by kernel_rfl) (rs:=[0,1,2,3,4,5,6,7]) (by kernel_rfl) ?start ?steps ?last
 case start=>exact ⟨fun i=>([undef,undef,undef,undef,undef,.slice none 0 0,undef,.int .i64 0]:List Value).getD i undef,rfl,fun _=>rfl,by simp,VO.nil _ _⟩
 case steps =>
  refine (KeepsI.cons (ds:=[]) rfl (by kernel_rfl) ?s0 (KeepsI.cons (ds:=[0]) rfl (by kernel_rfl) ?s1 (KeepsI.cons (ds:=[]) rfl (by kernel_rfl) ?s2 (KeepsI.cons (ds:=[2]) rfl (by kernel_rfl) ?s3 (KeepsI.cons (ds:=[1,3]) rfl (by kernel_rfl) ?s4 (KeepsI.cons (ds:=[]) rfl (by kernel_rfl) ?s5 (KeepsI.cons (ds:=[4]) rfl (by kernel_rfl) ?s6 (KeepsI.cons (ds:=[]) rfl (by kernel_rfl) ?s7 KeepsI.nil))))))))
  all_goals (intro f a Vr hf hd hcl hI K' hK;obtain ⟨x,rfl,c0,c1,hx⟩:=hI)
  case s0 =>
   go_simp
   exact hK _ _ ⟨(upd x 0 (.pointer (some ⟨W.heap.size,3,none⟩))),rfl,c0,c1,(hx.set 0 rfl)⟩
  case s1 =>
   have e0:=hx.get 0 rfl (hd 0 (by simp))
   rw [e0]
   clear e0
   have n6:f 6=false:=by cases h:f 6;rfl;exact absurd (hcl 4 1 (by kernel_rfl) (hcl 6 4 (by kernel_rfl) (h))) (by rw [hf];simp)
   have hv:=c0 n6
   obtain ⟨d3,d4,e0,e1,ef⟩:=hst.out Vr hv
   clear hv
   clear n6
   go_simp
   exact hK _ _ ⟨(upd (upd x 0 (.pointer (some ⟨W.heap.size,3,none⟩))) 1 (.int .i64 t.line)),rfl,c0,c1,((hx.put 0 rfl).set 1 rfl)⟩
  case s2 =>
   go_simp
   exact hK _ _ ⟨(upd x 2 (.pointer (some ⟨W.heap.size,4,none⟩))),rfl,c0,c1,(hx.set 2 rfl)⟩
  case s3 =>
   have e2:=hx.get 2 rfl (hd 2 (by simp))
   rw [e2]
   clear e2
   have n6:f 6=false:=by cases h:f 6;rfl;exact absurd (hcl 4 3 (by kernel_rfl) (hcl 6 4 (by kernel_rfl) (h))) (by rw [hf];simp)
   have hv:=c0 n6
   obtain ⟨d3,d4,e0,e1,ef⟩:=hst.out Vr hv
   clear hv
   clear n6
   go_simp
   exact hK _ _ ⟨(upd (upd x 2 (.pointer (some ⟨W.heap.size,4,none⟩))) 3 (.int .i64 t.col)),rfl,c0,c1,((hx.put 2 rfl).set 3 rfl)⟩
  case s4 =>
   have e1:=hx.get 1 rfl (hd 1 (by simp))
   have e3:=hx.get 3 rfl (hd 3 (by simp))
   rw [e1,e3]
   clear e1 e3
   go_simp
   exact hK _ _ ⟨(upd (upd (upd x 1 (.int .i64 t.line)) 3 (.int .i64 t.col)) 4 (.agg #[.int .i64 t.line,.int .i64 t.col])),rfl,c0,c1,(((hx.put 1 rfl).put 3 rfl).set 4 rfl)⟩
  case s5 =>
   go_simp
   exact hK _ _ ⟨(upd x 5 (.slice none 0 0)),rfl,c0,c1,(hx.set 5 rfl)⟩
  case s6 =>
   have e4:=hx.get 4 rfl (hd 4 (by simp))
   rw [e4]
   clear e4
   have hv:=Lib.hid (c0 hf)
   obtain ⟨d3,d4,e0,e1,ef⟩:=hst.out Vr hv.out
   clear c0
   go_simp
   exact hK _ _ ⟨(upd x 4 (.agg #[.int .i64 t.line,.int .i64 t.col])),rfl,fun h=>(by cases h),fun _=>by rw [hv.out],VO.done (hx.put 4 rfl) 6 rfl⟩
  case s7 =>
   go_simp
   exact hK _ _ ⟨(upd x 7 (.int .i64 30)),rfl,c0,c1,(hx.set 7 rfl)⟩
 case last =>
  rintro f a Vr hf ⟨x,rfl,c0,c1,hx⟩
  have e:=c1 (hf 6 (by simp))
  have e5:=hx.get 5 rfl (hf 5 (by simp))
  have e7:=hx.get 7 rfl (hf 7 (by simp))
  rw [e5,e7]
  clear c0 c1 hx e5 e7
  subst e
  go_wp2_with fail
  refine bodyPost_ret (results_lex rfl _ _ rfl rfl rfl hfin.out.1.cells.1) rfl ⟨rfl,hfin.out.2⟩
theorem place_end {W:World} {b:Nat} {t:TypeId} {x0 x1:Value} (h:Box2 W t b x0 x1) (y0 y1:Value):Box2 ((W.setCell ⟨b,0,none⟩ y0).setCell ⟨b,1,none⟩ y1) t b y0 y1∧OneSet b W ((W.setCell ⟨b,0,none⟩ y0).setCell ⟨b,1,none⟩ y1):=by
 have:=h.set y0 y1
 unfold World.set2 at this
 exact this
end Go.Proofs.YtinjocchommbdaaGreatDoor
namespace Go.Proofs.YtinjocchommbdaaGreatDoor
open Go.RowKit
def prevT (l:List Tk):Nat→Option Tk
 | 0=>none
 | k + 1=>l[k]?
set_option maxHeartbeats 4000000 in
set_option maxRecDepth 100000 in
theorem lay_Layout (a:Option Addr) (l:List Tk) (cap:Nat) (W:World) (hlen:l.length≤2000) (hc:l.length≤cap) (ha:a=none→cap=0) (hrow:TkRow W a l) :
  Calls Tryz.prog 20 #[.slice a l.length cap] W fun e W'=>LayR (layF l) e W'∧Below W.heap.size W W':=by
 obtain ⟨W1,hW1⟩:∃ V,W.alloc (.cells #[.int .i64 0,.int .i64 0] 29)=V:=⟨_,rfl⟩
 have hb1:Below W.heap.size W W1:=by rw [←hW1];exact (Below.refl _ _).alloc (Nat.le_refl _) _
 have hx1:Box2 W1 29 W.heap.size (.int .i64 0) (.int .i64 0):=by rw [←hW1];exact blk_new (Below.refl _ _)
 have hz1:W1.heap.size=W.heap.size + 1:=by rw [←hW1];simp
 obtain ⟨W2,hW2⟩:∃ V,W1.alloc (.cells #[.slice none 0 0,.slice none 0 0] 91)=V:=⟨_,rfl⟩
 have hb2:Below W1.heap.size W1 W2:=by rw [←hW2];exact (Below.refl _ _).alloc (Nat.le_refl _) _
 have hx2:Box2 W2 91 (W.heap.size + 1) (.slice none 0 0) (.slice none 0 0):=by rw [←hz1,←hW2];exact blk_new (Below.refl _ _)
 have hz2:W2.heap.size=W.heap.size + 2:=by rw [←hW2];simp;omega
 have hxp:=Lib.hid (hx1.below hb2)
 have hbW2:Hid (Below W.heap.size W W2):=hb1.trans (hb2.mono (by omega))
 have hM0:Hid (MkS (W.heap.size + 2) W2 (W.heap.size + 1) (.slice none 0 0) [] (.slice none 0 0) []) :=
  ⟨hx2,by omega,⟨rfl,.inl ⟨rfl,rfl⟩⟩,⟨rfl,.inl ⟨rfl,rfl⟩⟩,fun g hg=>(by cases hg)⟩
 have hrow':=Lib.hid hrow
 have hW1':=Lib.hid hW1
 have hW2':=Lib.hid hW2
 have hz2':=Lib.hid hz2
 have ha':=Lib.hid ha
 clear hW1 hb1 hx1 hz1 hW2 hb2 hx2 hz2 hrow ha
 go_enter Tryz.func20,Tryz.ntmps20
 go_upto_region 2 with (fail)
 rw [hW1'.out,hW2'.out]
 go_wp2_with fail
 go_loopg [6,16] l.length (fun gm v i X=>∃ (k:Nat) (fb:Bool) (o1 s1:Value) (ts1:List Tk) (st1:List Int),k≤l.length∧gm + k=l.length∧Hid (v=.bool fb)∧i=.int .i64 k∧Hid (MkR (W.heap.size + 2) (W.heap.size + 1) W2 (.slice none 0 0) (.slice none 0 0) X o1 ts1 s1 st1)∧Hid (Res.pre ts1 (layS (prevT l k) fb st1 (l.drop k))=layF l)∧Hid (ts1.length + st1.length≤6 * k))
 case atStart=>exact ⟨0,true,.slice none 0 0,.slice none 0 0,[],[],Nat.zero_le _,rfl,rfl,rfl,MkR.refl hM0.out,by unfold Hid;rw [List.drop_zero];show Res.pre [] (layF l)=layF l;cases layF l <;> rfl,Nat.zero_le _⟩
 case round =>
  obtain ⟨k,fb,o1,s1,ts1,st1,hk,hgm,hv,rfl,hR,hA,hN⟩:=hrel
  obtain rfl:=hv.out
  obtain ⟨X,rfl⟩:∃ X,X=wr:=⟨_,rfl⟩
  by_cases hlt:k < l.length
  ·
   have hki:(k:Int) < (l.length:Int):=by omega
   obtain ⟨b,off,rfl,hcell⟩:=hrow'.out.at (by rintro rfl;simp at hlt)
   obtain ⟨t,ht⟩:∃ t,l[k]=t:=⟨_,rfl⟩
   have hlow:=Lib.hid (fun (Y:World) (o' s':Value) (ts':List Tk) (st':List Int) (hX:MkR (W.heap.size + 2) (W.heap.size + 1) W2 (.slice none 0 0) (.slice none 0 0) Y o' ts' s' st')=>hbW2.out.trans (hX.keep.low hM0.out (by omega) hbW2.out.size))
   obtain ⟨g0,g1,g2,g3,g4⟩:=hcell k hlt
   rw [ht] at g0 g1 g2 g3 g4
   have q0:=Keeps.of_below (hlow.out X _ _ _ _ hR.out) _ _ g0
   have q1:=Keeps.of_below (hlow.out X _ _ _ _ hR.out) _ _ g1
   have q2:=Keeps.of_below (hlow.out X _ _ _ _ hR.out) _ _ g2
   have q3:=Keeps.of_below (hlow.out X _ _ _ _ hR.out) _ _ g3
   have q4:=Keeps.of_below (hlow.out X _ _ _ _ hR.out) _ _ g4
   have hcell':=Lib.hid hcell
   have ht':=Lib.hid ht
   clear hcell ht g0 g1 g2 g3 g4
   go_upto_region 6 with (fail)
   go_cut [8,9] from 18 to 20 (fun i p Y=>i=.int .i64 (k:Int)∧p=.pointer (some ⟨X.heap.size,0,none⟩)∧Y=X.alloc (.cells #[.int .i64 t.kind,.string (tS t.text),.int .i64 t.num,.int .i64 t.line,.int .i64 t.col] 51))
   case first =>
    go_wp2_with fail
    go_meet
    case rel=>exact ⟨rfl,rfl,rfl⟩
   case rest =>
   obtain ⟨rfl,rfl,hY⟩:=hcut
   obtain ⟨Y,rfl⟩:∃ Y,Y=wc:=⟨_,rfl⟩
   have hbY:Hid (Below X.heap.size X Y):=by rw [hY];exact (Below.refl _ _).alloc (Nat.le_refl _) _
   have hxY:Hid (Box5 Y 51 X.heap.size (.int .i64 t.kind) (.string (tS t.text)) (.int .i64 t.num) (.int .i64 t.line) (.int .i64 t.col)):=by rw [hY];exact blk_new (Below.refl _ _)
   have hzY:Hid (Y.heap.size=X.heap.size + 1):=by rw [hY];simp [Hid]
   clear hY q0 q1 q2 q3 q4
   have hSY:=Lib.hid (hR.out.st.below hbY.out)
   have hRY:=Lib.hid (hR.out.below hbY.out)
   have hbox:=Lib.hid (fun (Z:World) (o' s':Value) (ts':List Tk) (st':List Int) (hX:MkR (W.heap.size + 2) (W.heap.size + 1) Y o1 s1 Z o' ts' s' st')=>(show Box5 Z 51 X.heap.size (.int .i64 t.kind) (.string (tS t.text)) (.int .i64 t.num) (.int .i64 t.line) (.int .i64 t.col) from MkR.box hR.out.st (by have:=hzY.out;omega) hxY.out hX))
   go_step
   go_step
   go_cut [10] from 21 to 78 (fun _ Z=>∃ o2 s2,Hid (MkR (W.heap.size + 2) (W.heap.size + 1) Y o1 s1 Z o2 (ts1 ++ (aheadS (prevT l k) fb t st1).1) s2 (aheadS (prevT l k) fb t st1).2))
   case first =>
    have hst1:Hid (ts1.length≤100000∧st1.length≤100000∧ts1.length + st1.length≤100000):=by have:=hN.out;unfold Hid;omega
    obtain ⟨⟨d0,d1,d2,d3,d4⟩,_⟩:=hxY.out.cells
    cases k with
    | zero =>
     have hz0:Hid (ts1=[]∧st1=[]):=by
      have h:=hN.out
      exact ⟨List.length_eq_zero_iff.1 (by omega),List.length_eq_zero_iff.1 (by omega)⟩
     have hsg:=Lib.hid (lay_sign t Y)
     have k2:=keyT_sign t bOpen (by decide)
     obtain ⟨sg,hsge⟩:∃ sg,tS (sgnT t)=sg:=⟨_,rfl⟩
     rw [hsge] at hsg k2
     have hp2:tS bOpen=⟨#[123]⟩:=rfl
     rw [hp2] at k2
     unfold tkV at hsg
     clear hsge hp2
     by_cases hS:sg=⟨#[123]⟩
     ·
      subst hS
      rw [decide_eq_true rfl] at k2
      have hah:Hid (aheadS (prevT l 0) fb t st1=([],st1)):=by unfold Hid aheadS prevT;simp only;rw [if_pos k2]
      clear k2
      go_wp2_with fail
      refine hsg.out.mono ?_
      rintro e V ⟨rfl,hB⟩
      have hR2:Hid (MkR (W.heap.size + 2) (W.heap.size + 1) Y o1 s1 V o1 ts1 s1 st1):=(MkR.refl hSY.out).below hB
      clear hB
      go_wp2_with fail
      go_quiet (fail)
      go_wp2_with fail
      go_meet
      case rel=>exact ⟨o1,s1,by rw [hah.out];unfold Hid;rw [List.append_nil];exact hR2.out.below (below_drewN' (Below.refl _ _) _)⟩
     ·
      rw [decide_eq_false hS] at k2
      have hS':=str_ne (l:=[123]) hS
      have hah:Hid (aheadS (prevT l 0) fb t st1=([mkT bOpen t],max t.col 1 :: st1)):=by unfold Hid aheadS prevT;simp only;rw [if_neg (by rw [k2];simp)]
      clear k2 hS
      go_wp2_with fail
      refine hsg.out.mono ?_
      rintro e V ⟨rfl,hB⟩
      have hR2:Hid (MkR (W.heap.size + 2) (W.heap.size + 1) Y o1 s1 V o1 ts1 s1 st1):=(MkR.refl hSY.out).below hB
      clear hB d0 d1 d2 d3 d4
      obtain ⟨⟨d0,d1,d2,d3,d4⟩,_⟩:=(hbox.out _ _ _ _ _ hR2.out).cells
      have hput:=Lib.hid (lay_put bOpen t V hR2.out.st (by have:=hR2.out.keep.size;have:=hzY.out;have:=hlow.out _ _ _ _ _ hRY.out;have:=hRY.out.keep.size;have:=hz2'.out;omega) (by have:=hst1.out;omega))
      unfold tkV at hput
      go_wp2_with fail
      refine hput.out.mono ?_
      rintro e V3 ⟨rfl,va,vc,hR3⟩
      have hR3':=Lib.hid (hR2.out.trans hR3)
      clear hR3 d0 d1 d2 d3 d4
      obtain ⟨⟨d0,d1,d2,d3,d4⟩,_⟩:=(hbox.out _ _ _ _ _ hR3'.out).cells
      obtain ⟨oa,oc,sa,sc,hoe,rfl,_,_⟩:=hR3'.out.st.forms
      clear hoe
      go_upto_region 9 with (fail)
      --<9
      obtain ⟨o3,ho3⟩:∃ x,(Value.slice va (ts1.length + 1) vc)=x:=⟨_,rfl⟩
      obtain ⟨ts3,hts3⟩:∃ x,ts1 ++ [mkT bOpen t]=x:=⟨_,rfl⟩
      have hR3q:Hid (MkR (W.heap.size + 2) (W.heap.size + 1) Y o1 (.slice sa st1.length sc) V3 o3 ts3 (.slice sa st1.length sc) st1):=by rw [←ho3,←hts3];exact hR3'.out
      have hts3':=Lib.hid hts3
      clear ho3 hts3 hR3'
      obtain ⟨W9,hW9⟩:∃ X,V3.drew.alloc (.cells #[.int .i64 (max t.col 1)] 3)=X:=⟨_,rfl⟩
      have hap0:=push_run V3 V3.drew hR3q.out.st (Below.refl _ _).drew (by have:=hR3q.out.keep.size;have:=hzY.out;have:=hRY.out.keep.size;have:=hz2'.out;omega) (by have:=hst1.out;omega) (max t.col 1)
      rw [hW9] at hap0
      have hap:=Lib.hid hap0
      have hb2:Below V3.heap.size V3 W9:=by rw [←hW9];exact ((Below.refl _ V3).drew).alloc (Nat.le_refl _) _
      have hxq:Hid (Box5 V3 51 X.heap.size (.int .i64 t.kind) (.string (tS t.text)) (.int .i64 t.num) (.int .i64 t.line) (.int .i64 t.col)):=hbox.out _ _ _ _ _ hR3q.out
      have hst:Hid (∀ Z,(Z=V3.drew∨Z=W9)→Z.cell? ⟨W.heap.size + 1,1,none⟩=some (.slice sa st1.length sc)∧Z.cell? ⟨X.heap.size,4,none⟩=some (.int .i64 t.col)∧Z.frozen? ⟨W.heap.size + 1,1,none⟩=false):=by
       intro Z hZ
       have hb:Below V3.heap.size V3 Z:=by
        rcases hZ with rfl | rfl
        ·
         exact (Below.refl _ _).drew
        ·
         exact hb2
       obtain ⟨⟨_,c1⟩,cf⟩:=(hR3q.out.st.box.below hb).cells
       exact ⟨c1,(hxq.out.below hb).cells.1.2.2.2.2,cf 1⟩
      have hW9q:Hid (V3.drew.alloc (.cells #[.int .i64 (max t.col 1)] 3)=W9):=hW9
      clear hap0 hb2 hW9 d0 d1 d2 d3 d4
      refine wp_region_inv (fun f a Vr=>∃ x:Nat→Value,a=⟨#[.slice (some ⟨b,off,none⟩) l.length cap,undef,u2,.pointer (some ⟨W.heap.size,0,none⟩),u4,.pointer (some ⟨W.heap.size + 1,0,none⟩),.bool fb,.func (.func 48) #[] #[],.int .i64 0,.pointer (some ⟨X.heap.size,0,none⟩),u10,undef,.agg #[.slice none 0 0,.slice none 0 0],.pointer (some ⟨W.heap.size + 1,0,none⟩),.slice (some ⟨b,off,none⟩) l.length cap,.int .i64 (l.length:Int),.int .i64 0,.bool true,u18,u19,u20,.bool true,.int .i64 0,.bool true,.bool true,.agg #[.int .i64 t.kind,.string (tS t.text),.int .i64 t.num,.int .i64 t.line,.int .i64 t.col],.string sg,.bool true,.bool true,.pointer (some ⟨W.heap.size + 1,0,none⟩),.agg #[.int .i64 t.kind,.string (tS t.text),.int .i64 t.num,.int .i64 t.line,.int .i64 t.col],.tuple #[],x 0,x 1,x 2,x 3,x 4,x 5,x 6,x 7,x 8,x 9,x 10,x 11,u44,u45,u46,u47,u48,u49,u50,u51,u52,u53,u54,u55,u56,u57,u58,u59,u60,u61,u62,u63,u64,u65,u66,u67,u68,u69,u70,u71,u72,u73,u74,u75,u76,u77,u78,u79,u80,u81,u82,u83,u84,u85,u86,u87,u88,u89,u90,u91,u92,u93,u94,u95,u96,u97,u98,u99,u100,u101,u102,u103,u104,u105,u106,undef,undef,undef,undef,undef,undef,undef,undef,undef,undef,undef,undef,undef,undef,undef,undef,undef,undef,undef,undef,undef,undef,undef,undef,undef,undef,undef,undef,undef,undef],[]⟩∧(f 8=false→Vr=V3.drew)∧(f 8=true→f 9=false→Vr=W9)∧(f 9=true→f 12=false→∃ va vc,(x 9)=.slice va (st1.length + 1) vc∧Vr.cell? ⟨W.heap.size + 1,1,none⟩=some (.slice sa st1.length sc)∧Vr.frozen? ⟨W.heap.size + 1,1,none⟩=false∧MkR (W.heap.size + 2) (W.heap.size + 1) V3 o3 (.slice sa st1.length sc) (Vr.setCell ⟨W.heap.size + 1,1,none⟩ (.slice va (st1.length + 1) vc)) o3 ts3 (.slice va (st1.length + 1) vc) (max t.col 1 :: st1))∧(f 12=true→∃ va vc,MkR (W.heap.size + 2) (W.heap.size + 1) V3 o3 (.slice sa st1.length sc) Vr o3 ts3 (.slice va (st1.length + 1) vc) (max t.col 1 :: st1))∧VO [some (.pointer (some ⟨W.heap.size + 1,0,none⟩)),some (.pointer (some ⟨W.heap.size + 1,0,none⟩)),some (.pointer (some ⟨W.heap.size + 1,0,none⟩)),some (.pointer (some ⟨W.heap.size + 1,1,none⟩)),some (.slice sa st1.length sc),some (.pointer (some ⟨X.heap.size,4,none⟩)),some (.int .i64 t.col),some (.int .i64 (max t.col 1)),some (.slice (some ⟨V3.heap.size,0,none⟩) 1 1),none,some (.pointer (some ⟨W.heap.size + 1,0,none⟩)),some (.pointer (some ⟨W.heap.size + 1,1,none⟩)),none] f x) (by kernel_rfl) (by kernel_rfl) (rs:=[0,1,2,3,4,5,6,7,8,9,10,11,12]) (by kernel_rfl) ?start ?steps ?last
      case start=>exact ⟨fun i=>([u32,u33,u34,u35,u36,u37,u38,u39,u40,u41,u42,u43,undef]:List Value).getD i undef,rfl,fun _=>rfl,by simp,by simp,by simp,VO.nil _ _⟩
      case steps =>
       refine (KeepsI.cons (ds:=[]) rfl (by kernel_rfl) ?s0 (KeepsI.cons (ds:=[]) rfl (by kernel_rfl) ?s1 (KeepsI.cons (ds:=[1]) rfl (by kernel_rfl) ?s2 (KeepsI.cons (ds:=[2]) rfl (by kernel_rfl) ?s3 (KeepsI.cons (ds:=[3]) rfl (by kernel_rfl) ?s4 (KeepsI.cons (ds:=[]) rfl (by kernel_rfl) ?s5 (KeepsI.cons (ds:=[5]) rfl (by kernel_rfl) ?s6 (KeepsI.cons (ds:=[6]) rfl (by kernel_rfl) ?s7 (KeepsI.cons (ds:=[7]) rfl (by kernel_rfl) ?s8 (KeepsI.cons (ds:=[4,8]) rfl (by kernel_rfl) ?s9 (KeepsI.cons (ds:=[0]) rfl (by kernel_rfl) ?s10 (KeepsI.cons (ds:=[10]) rfl (by kernel_rfl) ?s11 (KeepsI.cons (ds:=[11,9]) rfl (by kernel_rfl) ?s12 KeepsI.nil)))))))))))))
       all_goals (intro f a Vr hf hd hcl hI K' hK;obtain ⟨x,rfl,c0,c1,c2,c3,hx⟩:=hI)
       case s0 =>
        go_simp
        exact hK _ _ ⟨(upd x 0 (.pointer (some ⟨W.heap.size + 1,0,none⟩))),rfl,c0,c1,c2,c3,(hx.set 0 rfl)⟩
       case s1 =>
        go_simp
        exact hK _ _ ⟨(upd x 1 (.pointer (some ⟨W.heap.size + 1,0,none⟩))),rfl,c0,c1,c2,c3,(hx.set 1 rfl)⟩
       case s2 =>
        have e1:=hx.get 1 rfl (hd 1 (by simp))
        rw [e1]
        clear e1
        go_simp
        exact hK _ _ ⟨(upd (upd x 1 (.pointer (some ⟨W.heap.size + 1,0,none⟩))) 2 (.pointer (some ⟨W.heap.size + 1,0,none⟩))),rfl,c0,c1,c2,c3,((hx.put 1 rfl).set 2 rfl)⟩
       case s3 =>
        have e2:=hx.get 2 rfl (hd 2 (by simp))
        rw [e2]
        clear e2
        go_simp
        exact hK _ _ ⟨(upd (upd x 2 (.pointer (some ⟨W.heap.size + 1,0,none⟩))) 3 (.pointer (some ⟨W.heap.size + 1,1,none⟩))),rfl,c0,c1,c2,c3,((hx.put 2 rfl).set 3 rfl)⟩
       case s4 =>
        have e3:=hx.get 3 rfl (hd 3 (by simp))
        rw [e3]
        clear e3
        have n9:f 9=false:=by cases h:f 9;rfl;exact absurd (hcl 9 4 (by kernel_rfl) (h)) (by rw [hf];simp)
        have n12:f 12=false:=by cases h:f 12;rfl;exact absurd (hcl 9 4 (by kernel_rfl) (hcl 12 9 (by kernel_rfl) (h))) (by rw [hf];simp)
        have hv:Vr=V3.drew∨Vr=W9:=by cases h:f 8;exact .inl (c0 h);exact .inr (c1 h n9)
        obtain ⟨k1,k4,kf⟩:=hst.out Vr hv
        clear hv
        clear n9 n12
        go_simp
        exact hK _ _ ⟨(upd (upd x 3 (.pointer (some ⟨W.heap.size + 1,1,none⟩))) 4 (.slice sa st1.length sc)),rfl,c0,c1,c2,c3,((hx.put 3 rfl).set 4 rfl)⟩
       case s5 =>
        go_simp
        exact hK _ _ ⟨(upd x 5 (.pointer (some ⟨X.heap.size,4,none⟩))),rfl,c0,c1,c2,c3,(hx.set 5 rfl)⟩
       case s6 =>
        have e5:=hx.get 5 rfl (hd 5 (by simp))
        rw [e5]
        clear e5
        have n8:f 8=false:=by cases h:f 8;rfl;exact absurd (hcl 7 6 (by kernel_rfl) (hcl 8 7 (by kernel_rfl) (h))) (by rw [hf];simp)
        have n9:f 9=false:=by cases h:f 9;rfl;exact absurd (hcl 7 6 (by kernel_rfl) (hcl 8 7 (by kernel_rfl) (hcl 9 8 (by kernel_rfl) (h)))) (by rw [hf];simp)
        have n12:f 12=false:=by cases h:f 12;rfl;exact absurd (hcl 7 6 (by kernel_rfl) (hcl 8 7 (by kernel_rfl) (hcl 9 8 (by kernel_rfl) (hcl 12 9 (by kernel_rfl) (h))))) (by rw [hf];simp)
        have hv:Vr=V3.drew∨Vr=W9:=by cases h:f 8;exact .inl (c0 h);exact .inr (c1 h n9)
        obtain ⟨k1,k4,kf⟩:=hst.out Vr hv
        clear hv
        clear n8 n9 n12
        go_simp
        exact hK _ _ ⟨(upd (upd x 5 (.pointer (some ⟨X.heap.size,4,none⟩))) 6 (.int .i64 t.col)),rfl,c0,c1,c2,c3,((hx.put 5 rfl).set 6 rfl)⟩
       case s7 =>
        have e6:=hx.get 6 rfl (hd 6 (by simp))
        rw [e6]
        clear e6
        go_simp
        exact hK _ _ ⟨(upd (upd x 6 (.int .i64 t.col)) 7 (.int .i64 (max t.col 1))),rfl,c0,c1,c2,c3,((hx.put 6 rfl).set 7 rfl)⟩
       case s8 =>
        have e7:=hx.get 7 rfl (hd 7 (by simp))
        rw [e7]
        clear e7
        have n9:f 9=false:=by cases h:f 9;rfl;exact absurd (hcl 9 8 (by kernel_rfl) (h)) (by rw [hf];simp)
        have n12:f 12=false:=by cases h:f 12;rfl;exact absurd (hcl 9 8 (by kernel_rfl) (hcl 12 9 (by kernel_rfl) (h))) (by rw [hf];simp)
        have e:=c0 hf
        subst e
        have hW9:=hW9q.out
        go_simp
        exact hK _ _ ⟨upd (upd x 7 (.int .i64 (max t.col 1))) 8 (.slice (some ⟨V3.heap.size,0,none⟩) 1 1),rfl,fun h=>(by cases h),fun _ _=>rfl,fun h=>absurd h (by simp [n9]),fun h=>absurd h (by simp [n12]),(hx.put 7 rfl).set 8 rfl⟩
       case s9 =>
        have e4:=hx.get 4 rfl (hd 4 (by simp))
        have e8:=hx.get 8 rfl (hd 8 (by simp))
        rw [e4,e8]
        clear e4 e8
        have n12:f 12=false:=by cases h:f 12;rfl;exact absurd (hcl 12 9 (by kernel_rfl) (h)) (by rw [hf];simp)
        have y8:f 8=true:=hd 8 (by simp)
        have e:=c1 y8 hf
        subst e
        obtain ⟨va,vc,w3,hrun,hb0,hf0,hR⟩:=hap.out
        refine wanted_run (by rfl) ?_
        refine wp_append_run (.tmp 36) (.tmp 40) 89 _ _ _ _ _ rfl rfl rfl hrun ?_
        exact hK _ _ ⟨upd (upd (upd x 4 (.slice sa st1.length sc)) 8 (.slice (some ⟨V3.heap.size,0,none⟩) 1 1)) 9 (.slice va (st1.length + 1) vc),rfl,fun h=>absurd h (by simp [y8]),fun _ h=>(by cases h),fun _ _=>⟨va,vc,rfl,hb0,hf0,hR⟩,fun h=>absurd h (by simp [n12]),VO.free ((hx.put 4 rfl).put 8 rfl) 9 rfl _⟩
       case s10 =>
        have e0:=hx.get 0 rfl (hd 0 (by simp))
        rw [e0]
        clear e0
        go_simp
        exact hK _ _ ⟨(upd (upd x 0 (.pointer (some ⟨W.heap.size + 1,0,none⟩))) 10 (.pointer (some ⟨W.heap.size + 1,0,none⟩))),rfl,c0,c1,c2,c3,((hx.put 0 rfl).set 10 rfl)⟩
       case s11 =>
        have e10:=hx.get 10 rfl (hd 10 (by simp))
        rw [e10]
        clear e10
        go_simp
        exact hK _ _ ⟨(upd (upd x 10 (.pointer (some ⟨W.heap.size + 1,0,none⟩))) 11 (.pointer (some ⟨W.heap.size + 1,1,none⟩))),rfl,c0,c1,c2,c3,((hx.put 10 rfl).set 11 rfl)⟩
       case s12 =>
        have e11:=hx.get 11 rfl (hd 11 (by simp))
        rw [e11]
        clear e11
        have y8:f 8=true:=hcl 9 8 (by kernel_rfl) (hd 9 (by simp))
        have y9:f 9=true:=hd 9 (by simp)
        obtain ⟨va,vc,hx9,hb0,hf0,hR⟩:=c2 y9 hf
        rw [hx9]
        go_simp
        exact hK _ _ ⟨upd (upd x 11 (.pointer (some ⟨W.heap.size + 1,1,none⟩))) 9 (.slice va (st1.length + 1) vc),rfl,fun h=>absurd h (by simp [y8]),fun _ h=>absurd h (by simp [y9]),fun _ h=>(by cases h),fun _=>⟨va,vc,hR⟩,VO.done (VO.keep (hx.put 11 rfl) 9 rfl _) 12 rfl⟩
      case last =>
       rintro f a Vr hf ⟨x,rfl,c0,c1,c2,c3,hx⟩
       obtain ⟨va,vc,hR⟩:=c3 (hf 12 (by simp))
       have hR5:=Lib.hid (hR3q.out.trans hR)
       clear c0 c1 c2 c3 hx hR
       go_wp2_with fail
       go_meet
       case rel=>exact ⟨_,_,by rw [hah.out];unfold Hid;rw [hts3'.out];exact hR5.out⟩
      -->9
    | succ k =>
     obtain ⟨p,hp⟩:∃ p,l[k]'(by omega)=p:=⟨_,rfl⟩
     have hprev:Hid (prevT l (k + 1)=some p):=by show l[k]?=some p;rw [List.getElem?_eq_getElem (by omega),hp]
     obtain ⟨p0,p1,p2,p3,p4⟩:=hcell'.out k (by omega)
     rw [hp] at p3
     have g3:=Keeps.of_below (hlow.out Y _ _ _ _ hRY.out) _ _ p3
     have hk0:((k:Int) + 1 == 0)=false:=by simp;omega
     have hw:IntKind.i64.wrap (k:Int)=(k:Int):=IntWalk.i64_in _ (by omega)
     have hkp:(0:Int) < (k:Int) + 1:=by omega
     have hkd:decide ((0:Int) < (k:Int) + 1)=true:=decide_eq_true hkp
     clear p0 p1 p2 p3 p4 hp
     cases fb with
     | true =>
      have hah:Hid (aheadS (prevT l (k + 1)) true t st1=([],st1)):=by unfold Hid;rw [hprev.out];unfold aheadS;simp
      go_wp2_with fail
      go_quiet (fail)
      go_wp2_with fail
      go_meet
      case rel=>exact ⟨o1,s1,by rw [hah.out];unfold Hid;rw [List.append_nil];exact (MkR.refl hSY.out).below (below_drewN' (Below.refl _ _) _)⟩
     | false =>
      by_cases hl3:p.line < t.line
      ·
       have hd:decide (p.line < t.line)=true:=decide_eq_true hl3
       have hah:Hid (aheadS (prevT l (k + 1)) false t st1=lineS t st1):=by unfold Hid;rw [hprev.out];unfold aheadS;simp [hl3]
       clear hl3
       go_wp2_with fail
       go_quiet (fail)
       have hR2:=Lib.hid ((MkR.refl hSY.out).below (below_drewN' (Below.refl _ Y) nq))
       have hxq:=Lib.hid (hbox.out _ _ _ _ _ hR2.out)
       obtain ⟨⟨e0,e1,e2,e3,e4⟩,_⟩:=hxq.out.cells
       have hbzY:Hid (W.heap.size + 2≤Y.heap.size):=by have:=hRY.out.keep.size;have:=hz2'.out;unfold Hid;omega
       have hsw:=Lib.hid (lay_shutWhile (fun c=>decide (t.col < c)) t 52 #[.pointer (some ⟨X.heap.size,0,none⟩)] (Y.drewN nq) hR2.out.st (by have:=hbzY.out;have:=hR2.out.keep.size;omega) (by have:=hst1.out;omega)
        (fun V hV c=>lay_further V c X.heap.size _ _ _ _ t.col (MkK.box hV hR2.out.st hxq.out (by have:=hR.out.st.lt;omega) (fun e=>by have:=(ownBlock_ge hR.out.st.out e).2;omega) (fun e=>by have:=(ownBlock_ge hR.out.st.opn e).2;omega))) (enters_of Tryz.func52 (by kernel_rfl) rfl))
       unfold tkV at hsw
       clear d0 d1 d2 d3 d4 g3
       go_wp2_with fail
       refine hsw.out.mono ?_
       rintro e V ⟨rfl,o2,s2,hR3⟩
       have hR3':=Lib.hid (hR2.out.trans hR3)
       have hl2:Hid ((shutW (fun c=>decide (t.col < c)) st1).1 + (shutW (fun c=>decide (t.col < c)) st1).2.length=st1.length):=shutW_len _ _
       clear hR3 e0 e1 e2 e3 e4
       obtain ⟨n1,hn1⟩:∃ n,(shutW (fun c=>decide (t.col < c)) st1).1=n:=⟨_,rfl⟩
       obtain ⟨q,hq⟩:∃ n,(shutW (fun c=>decide (t.col < c)) st1).2=n:=⟨_,rfl⟩
       have hln:Hid (lineS t st1=(List.replicate n1 (mkT bShut t) ++ (if q.head?=some t.col∧0 < t.col then [mkT semiT t] else []),q)):=by unfold Hid lineS;rw [hn1,hq]
       rw [hn1,hq] at hR3' hl2
       clear hn1 hq
       have hql:Hid (q.length≤1000000∧(ts1 ++ List.replicate n1 (mkT bShut t)).length≤1000000):=by have h1:=hl2.out;have h2:=hst1.out;unfold Hid;rw [List.length_append,List.length_replicate];omega
       have hlast:=lay_last V hR3'.out.st hql.out.1
       cases q with
       | nil =>
        have hlast:Hid (Calls Tryz.prog 53 #[.pointer (some ⟨W.heap.size + 1,0,none⟩)] V fun e W'=>e=.returned (.int .i64 (-2))∧∃ n,W'=V.drewN n):=hlast
        go_wp2_with fail
        refine hlast.out.mono ?_
        rintro e V3 ⟨rfl,n,rfl⟩
        go_wp2_with fail
        go_meet
        case rel=>exact ⟨o2,s2,by rw [hah.out,hln.out];unfold Hid;simpa using hR3'.out.below (below_drewN' (Below.refl _ _) n)⟩
       | cons c r =>
        have hlast:Hid (Calls Tryz.prog 53 #[.pointer (some ⟨W.heap.size + 1,0,none⟩)] V fun e W'=>e=.returned (.int .i64 c)∧∃ n,W'=V.drewN n):=hlast
        have hbx:=Lib.hid (hbox.out _ _ _ _ _ hR3'.out)
        obtain ⟨⟨e0,e1,e2,e3,e4⟩,_⟩:=hbx.out.cells
        by_cases hc0:0 < c
        ·
         by_cases hct:c=t.col
         ·
          have hsem:Hid (lineS t st1=(List.replicate n1 (mkT bShut t) ++ [mkT semiT t],c :: r)):=by
           unfold Hid
           rw [hln.out,if_pos (by simp [hct];omega)]
          have hce:(c == t.col)=true:=by simpa using hct
          have hput:=Lib.hid (fun n=>lay_put semiT t (V.drewN n) (hR3'.out.st.below (below_drewN' (Below.refl _ _) n)) (by have:=hbzY.out;have:=hR3'.out.keep.size;simp;omega) hql.out.2)
          unfold tkV at hput
          clear hct
          go_wp2_with fail
          refine hlast.out.mono ?_
          rintro e V3 ⟨rfl,n,rfl⟩
          have hpu:=Lib.hid (hput.out n)
          go_wp2_with fail
          refine hpu.out.mono ?_
          rintro e V4 ⟨rfl,va,vc,hR4⟩
          have hR5:=Lib.hid ((hR3'.out.below (below_drewN' (Below.refl _ _) n)).trans hR4)
          clear hR4
          go_wp2_with fail
          go_meet
          case rel=>exact ⟨_,_,by rw [hah.out,hsem.out];unfold Hid;rw [←List.append_assoc];exact hR5.out⟩
         ·
          have hsem:Hid (lineS t st1=(List.replicate n1 (mkT bShut t),c :: r)):=by
           unfold Hid
           rw [hln.out,if_neg (by simp [hct]),List.append_nil]
          have hce:(c == t.col)=false:=by simpa using hct
          clear hct
          go_wp2_with fail
          refine hlast.out.mono ?_
          rintro e V3 ⟨rfl,n,rfl⟩
          go_wp2_with fail
          go_meet
          case rel=>exact ⟨_,_,by rw [hah.out,hsem.out];unfold Hid;exact hR3'.out.below (below_drewN' (Below.refl _ _) n)⟩
        ·
         have hsem:Hid (lineS t st1=(List.replicate n1 (mkT bShut t),c :: r)):=by
          unfold Hid
          rw [hln.out,if_neg (by simp;omega),List.append_nil]
         have hc1:decide (0 < c)=false:=decide_eq_false hc0
         go_wp2_with fail
         refine hlast.out.mono ?_
         rintro e V3 ⟨rfl,n,rfl⟩
         go_wp2_with fail
         go_meet
         case rel=>exact ⟨_,_,by rw [hah.out,hsem.out];unfold Hid;exact hR3'.out.below (below_drewN' (Below.refl _ _) n)⟩
      ·
       have hd:decide (p.line < t.line)=false:=decide_eq_false hl3
       have hah:Hid (aheadS (prevT l (k + 1)) false t st1=([],st1)):=by unfold Hid;rw [hprev.out];unfold aheadS;simp [hl3]
       clear hl3
       go_wp2_with fail
       go_quiet (fail)
       go_wp2_with fail
       go_meet
       case rel=>exact ⟨o1,s1,by rw [hah.out];unfold Hid;rw [List.append_nil];exact (MkR.refl hSY.out).below (below_drewN' (Below.refl _ _) _)⟩
   case rest =>
   obtain ⟨o2,s2,hR2⟩:=hcut
   obtain ⟨Z,rfl⟩:∃ Z,Z=wc:=⟨_,rfl⟩
   have hal:=ahead_len (prevT l k) fb t st1
   obtain ⟨A1,hA1⟩:∃ x,(aheadS (prevT l k) fb t st1).1=x:=⟨_,rfl⟩
   obtain ⟨st2,hst2⟩:∃ x,(aheadS (prevT l k) fb t st1).2=x:=⟨_,rfl⟩
   have hF:Hid (Res.pre ts1 (match fitS t st2 with
     | none=>.bad t.line t.col
     | some (o2,s2)=>Res.pre (A1 ++ (o2 ++ (t :: (behS t (l.drop (k + 1)).head? s2).1))) (layS (some t) (behS t (l.drop (k + 1)).head? s2).2.2 (behS t (l.drop (k + 1)).head? s2).2.1 (l.drop (k + 1))))=layF l):=by
    have h:=hA.out
    rw [List.drop_eq_getElem_cons hlt,ht'.out,layS,hst2,hA1] at h
    exact h
   rw [hA1,hst2] at hal hR2
   have hn2:Hid ((ts1 ++ A1).length + st2.length≤6 * k + 2):=by have:=hN.out;unfold Hid;rw [List.length_append];omega
   obtain ⟨ts2,hts2⟩:∃ x,ts1 ++ A1=x:=⟨_,rfl⟩
   have hts2':=Lib.hid hts2
   rw [hts2] at hR2 hn2
   clear hA1 hst2 hal hA hts2
   have hbz:Hid (W.heap.size + 2≤Y.heap.size):=by have:=hRY.out.keep.size;have:=hz2'.out;unfold Hid;omega
   have hbzZ:Hid (∀ (V:World) (o' s':Value) (ts':List Tk) (st':List Int),MkR (W.heap.size + 2) (W.heap.size + 1) Y o1 s1 V o' ts' s' st'→W.heap.size + 2≤V.heap.size):=fun V o' s' ts' st' h=>Nat.le_trans hbz.out h.keep.size
   have hpl:=Lib.hid (fun (V:World) (o' s':Value) (ts':List Tk) (st':List Int) (h:MkR (W.heap.size + 2) (W.heap.size + 1) Y o1 s1 V o' ts' s' st') =>
    (show Box2 V 29 W.heap.size (.int .i64 0) (.int .i64 0) from ((hRY.out.trans h).keep.block _ (blk_lt hxp.out) (by omega) (fun e=>(by cases e)) (fun e=>(by cases e))).trans hxp.out))
   obtain ⟨⟨d0,d1,d2,d3,d4⟩,_⟩:=(hbox.out _ _ _ _ _ hR2.out).cells
   have hfits:=Lib.hid (lay_fits t Z hR2.out.st (hbzZ.out _ _ _ _ _ hR2.out) (by have:=hn2.out;omega))
   unfold tkV at hfits
   cases hf:fitS t st2 with
   | none =>
    have hB0:Hid (layF l=.bad t.line t.col):=by have h:=hF.out;rw [hf] at h;exact h.symm
    rw [hf] at hfits
    clear hf hF
    go_wp2_with fail
    refine hfits.out.mono ?_
    rintro e V ⟨rfl,o3,s3,ts3,st3,hR3,_⟩
    have hR4:=Lib.hid (hR2.out.trans hR3)
    clear hR3 d0 d1 d2 d3 d4
    obtain ⟨⟨d0,d1,d2,d3,d4⟩,_⟩:=(hbox.out _ _ _ _ _ hR4.out).cells
    have hfa:=Lib.hid (lay_failed t V)
    unfold tkV at hfa
    go_wp2_with fail
    refine hfa.out.mono ?_
    rintro e V2 ⟨rfl,hB⟩
    have hpe:=Lib.hid (place_end ((hpl.out _ _ _ _ _ hR4.out).below hB) (.int .i64 t.line) (.int .i64 t.col))
    obtain ⟨⟨e0,e1⟩,ef⟩:=((hpl.out _ _ _ _ _ hR4.out).below hB).cells
    have hbl:=Lib.hid ((hlow.out _ _ _ _ _ (hRY.out.trans hR4.out)).trans (hB.mono (by have:=hbzZ.out _ _ _ _ _ hR4.out;omega)))
    clear hB
    go_wp2_with fail
    refine bodyPost_ret (results_lex rfl _ _ rfl rfl rfl hpe.out.1.cells.1) rfl ⟨?_,hbl.out.trans hpe.out.2.below⟩
    rw [hB0.out]
    exact rfl
   | some x =>
    obtain ⟨f2,q2⟩:=x
    have hB0:Hid (Res.pre (ts2 ++ f2 ++ [t] ++ (behS t (l.drop (k + 1)).head? q2).1) (layS (some t) (behS t (l.drop (k + 1)).head? q2).2.2 (behS t (l.drop (k + 1)).head? q2).2.1 (l.drop (k + 1)))=layF l):=by
     have h:=hF.out
     rw [hf] at h
     simp only at h
     rw [pre_pre,←List.append_assoc,hts2'.out] at h
     unfold Hid
     rw [←h]
     congr 1
     simp
    have hfl:=Lib.hid (fitS_len hf)
    rw [hf] at hfits
    clear hf hF
    go_wp2_with fail
    refine hfits.out.mono ?_
    rintro e V ⟨rfl,o3,s3,ts3,st3,hR3,hx3⟩
    obtain ⟨rfl,rfl⟩:=hx3 f2 q2 rfl
    have hR4:=Lib.hid (hR2.out.trans hR3)
    clear hR3 hx3 d0 d1 d2 d3 d4
    obtain ⟨oa,oc,sa,sc,rfl,hse,_,_⟩:=hR4.out.st.forms
    clear hse
    have hn3:Hid ((ts2 ++ f2).length + st3.length≤6 * k + 2):=by have h1:=hn2.out;have h2:=hfl.out;unfold Hid;rw [List.length_append];omega
    go_upto_region 17 with (fail)
    --<17
    obtain ⟨no,hno⟩:∃ x,(ts2 ++ f2).length=x:=⟨_,rfl⟩
    obtain ⟨ts3,hts3⟩:∃ x,ts2 ++ f2=x:=⟨_,rfl⟩
    rw [hno] at hR4
    rw [hts3] at hR4 hno
    have hR4q:Hid (MkR (W.heap.size + 2) (W.heap.size + 1) Y o1 s1 V (.slice oa no oc) ts3 s3 st3):=hR4.out
    have hts3':=Lib.hid hts3
    have hno':=Lib.hid hno
    rw [hts3] at hn3 hB0
    clear hts3
    obtain ⟨W9,hW9⟩:∃ X,V.drew.alloc (.cells #[.int .i64 t.kind,.string (tS t.text),.int .i64 t.num,.int .i64 t.line,.int .i64 t.col] 51)=X:=⟨_,rfl⟩
    have hap0:=tok_run V V.drew hR4q.out.st (Below.refl _ _).drew (hbzZ.out _ _ _ _ _ hR4q.out) (by have:=hn3.out;omega) t
    rw [hW9,hno] at hap0
    have hap:=Lib.hid hap0
    have hb2:Below V.heap.size V W9:=by rw [←hW9];exact ((Below.refl _ V).drew).alloc (Nat.le_refl _) _
    have hxq:Hid (Box5 V 51 X.heap.size (.int .i64 t.kind) (.string (tS t.text)) (.int .i64 t.num) (.int .i64 t.line) (.int .i64 t.col)):=hbox.out _ _ _ _ _ hR4q.out
    have hst:Hid (∀ Q,(Q=V.drew∨Q=W9)→Q.cell? ⟨W.heap.size + 1,0,none⟩=some (.slice oa no oc)∧Q.cell? ⟨X.heap.size,0,none⟩=some (.int .i64 t.kind)∧Q.cell? ⟨X.heap.size,1,none⟩=some (.string (tS t.text))∧Q.cell? ⟨X.heap.size,2,none⟩=some (.int .i64 t.num)∧Q.cell? ⟨X.heap.size,3,none⟩=some (.int .i64 t.line)∧Q.cell? ⟨X.heap.size,4,none⟩=some (.int .i64 t.col)∧Q.frozen? ⟨W.heap.size + 1,0,none⟩=false):=by
     intro Q hQ
     have hb:Below V.heap.size V Q:=by
      rcases hQ with rfl | rfl
      ·
       exact (Below.refl _ _).drew
      ·
       exact hb2
     obtain ⟨⟨c0,_⟩,cf⟩:=(hR4q.out.st.box.below hb).cells
     obtain ⟨⟨d0,d1,d2,d3,d4⟩,_⟩:=(hxq.out.below hb).cells
     exact ⟨c0,d0,d1,d2,d3,d4,cf 0⟩
    have hW9q:Hid (V.drew.alloc (.cells #[.int .i64 t.kind,.string (tS t.text),.int .i64 t.num,.int .i64 t.line,.int .i64 t.col] 51)=W9):=hW9
    clear hap0 hb2 hW9 hno hR4
    refine wp_region_inv (fun f a Vr=>∃ x:Nat→Value,a=⟨#[.slice (some ⟨b,off,none⟩) l.length cap,undef,u2,.pointer (some ⟨W.heap.size,0,none⟩),u4,.pointer (some ⟨W.heap.size + 1,0,none⟩),.bool fb,.func (.func 48) #[] #[],.int .i64 (k:Int),.pointer (some ⟨X.heap.size,0,none⟩),u10,undef,.agg #[.slice none 0 0,.slice none 0 0],.pointer (some ⟨W.heap.size + 1,0,none⟩),.slice (some ⟨b,off,none⟩) l.length cap,.int .i64 (l.length:Int),.int .i64 (k:Int),.bool true,u18,u19,u20,u21,u22,u23,u24,u25,u26,u27,u28,u29,u30,u31,u32,u33,u34,u35,u36,u37,u38,u39,u40,u41,u42,u43,u44,u45,u46,u47,u48,u49,u50,u51,u52,u53,u54,u55,u56,u57,u58,u59,u60,u61,u62,u63,u64,u65,u66,u67,u68,u69,u70,u71,u72,u73,u74,u75,u76,u77,u78,.pointer (some ⟨W.heap.size + 1,0,none⟩),.agg #[.int .i64 t.kind,.string (tS t.text),.int .i64 t.num,.int .i64 t.line,.int .i64 t.col],.bool true,.bool false,u83,u84,u85,u86,u87,u88,x 0,x 1,x 2,x 3,x 4,x 5,x 6,x 7,x 8,x 9,u99,u100,u101,u102,u103,u104,u105,u106,undef,undef,undef,undef,undef,undef,undef,undef,undef,undef,undef,undef,undef,undef,undef,undef,undef,undef,undef,undef,undef,undef,undef,undef,undef,undef,undef,undef,undef,undef],[]⟩∧(f 6=false→Vr=V.drew)∧(f 6=true→f 7=false→Vr=W9)∧(f 7=true→f 10=false→∃ va vc,(x 7)=.slice va (no + 1) vc∧Vr.cell? ⟨W.heap.size + 1,0,none⟩=some (.slice oa no oc)∧Vr.frozen? ⟨W.heap.size + 1,0,none⟩=false∧MkR (W.heap.size + 2) (W.heap.size + 1) V (.slice oa no oc) s3 (Vr.setCell ⟨W.heap.size + 1,0,none⟩ (.slice va (no + 1) vc)) (.slice va (no + 1) vc) (ts3 ++ [t]) s3 st3)∧(f 10=true→∃ va vc,MkR (W.heap.size + 2) (W.heap.size + 1) V (.slice oa no oc) s3 Vr (.slice va (no + 1) vc) (ts3 ++ [t]) s3 st3)∧VO [some (.pointer (some ⟨W.heap.size + 1,0,none⟩)),some (.pointer (some ⟨W.heap.size + 1,0,none⟩)),some (.pointer (some ⟨W.heap.size + 1,0,none⟩)),some (.pointer (some ⟨W.heap.size + 1,0,none⟩)),some (.slice oa no oc),some (.agg #[.int .i64 t.kind,.string (tS t.text),.int .i64 t.num,.int .i64 t.line,.int .i64 t.col]),some (.slice (some ⟨V.heap.size,0,none⟩) 1 1),none,some (.pointer (some ⟨W.heap.size + 1,0,none⟩)),some (.pointer (some ⟨W.heap.size + 1,0,none⟩)),none] f x) (by kernel_rfl) (by kernel_rfl) (rs:=[0,1,2,3,4,5,6,7,8,9,10]) (by kernel_rfl) ?start ?steps ?last
    case start=>exact ⟨fun i=>([u89,u90,u91,u92,u93,u94,u95,u96,u97,u98,undef]:List Value).getD i undef,rfl,fun _=>rfl,by simp,by simp,by simp,VO.nil _ _⟩
    case steps =>
     refine (KeepsI.cons (ds:=[]) rfl (by kernel_rfl) ?s0 (KeepsI.cons (ds:=[]) rfl (by kernel_rfl) ?s1 (KeepsI.cons (ds:=[1]) rfl (by kernel_rfl) ?s2 (KeepsI.cons (ds:=[2]) rfl (by kernel_rfl) ?s3 (KeepsI.cons (ds:=[3]) rfl (by kernel_rfl) ?s4 (KeepsI.cons (ds:=[]) rfl (by kernel_rfl) ?s5 (KeepsI.cons (ds:=[5]) rfl (by kernel_rfl) ?s6 (KeepsI.cons (ds:=[4,6]) rfl (by kernel_rfl) ?s7 (KeepsI.cons (ds:=[0]) rfl (by kernel_rfl) ?s8 (KeepsI.cons (ds:=[8]) rfl (by kernel_rfl) ?s9 (KeepsI.cons (ds:=[9,7]) rfl (by kernel_rfl) ?s10 KeepsI.nil)))))))))))
     all_goals (intro f a Vr hf hd hcl hI K' hK;obtain ⟨x,rfl,c0,c1,c2,c3,hx⟩:=hI)
     case s0 =>
      go_simp
      exact hK _ _ ⟨(upd x 0 (.pointer (some ⟨W.heap.size + 1,0,none⟩))),rfl,c0,c1,c2,c3,(hx.set 0 rfl)⟩
     case s1 =>
      go_simp
      exact hK _ _ ⟨(upd x 1 (.pointer (some ⟨W.heap.size + 1,0,none⟩))),rfl,c0,c1,c2,c3,(hx.set 1 rfl)⟩
     case s2 =>
      have e1:=hx.get 1 rfl (hd 1 (by simp))
      rw [e1]
      clear e1
      go_simp
      exact hK _ _ ⟨(upd (upd x 1 (.pointer (some ⟨W.heap.size + 1,0,none⟩))) 2 (.pointer (some ⟨W.heap.size + 1,0,none⟩))),rfl,c0,c1,c2,c3,((hx.put 1 rfl).set 2 rfl)⟩
     case s3 =>
      have e2:=hx.get 2 rfl (hd 2 (by simp))
      rw [e2]
      clear e2
      go_simp
      exact hK _ _ ⟨(upd (upd x 2 (.pointer (some ⟨W.heap.size + 1,0,none⟩))) 3 (.pointer (some ⟨W.heap.size + 1,0,none⟩))),rfl,c0,c1,c2,c3,((hx.put 2 rfl).set 3 rfl)⟩
     case s4 =>
      have e3:=hx.get 3 rfl (hd 3 (by simp))
      rw [e3]
      clear e3
      have n7:f 7=false:=by cases h:f 7;rfl;exact absurd (hcl 7 4 (by kernel_rfl) (h)) (by rw [hf];simp)
      have n10:f 10=false:=by cases h:f 10;rfl;exact absurd (hcl 7 4 (by kernel_rfl) (hcl 10 7 (by kernel_rfl) (h))) (by rw [hf];simp)
      have hv:Vr=V.drew∨Vr=W9:=by cases h:f 6;exact .inl (c0 h);exact .inr (c1 h n7)
      obtain ⟨k0,d0,d1,d2,d3,d4,kf⟩:=hst.out Vr hv
      clear hv
      clear n7 n10
      go_simp
      exact hK _ _ ⟨(upd (upd x 3 (.pointer (some ⟨W.heap.size + 1,0,none⟩))) 4 (.slice oa no oc)),rfl,c0,c1,c2,c3,((hx.put 3 rfl).set 4 rfl)⟩
     case s5 =>
      have n6:f 6=false:=by cases h:f 6;rfl;exact absurd (hcl 6 5 (by kernel_rfl) (h)) (by rw [hf];simp)
      have n7:f 7=false:=by cases h:f 7;rfl;exact absurd (hcl 6 5 (by kernel_rfl) (hcl 7 6 (by kernel_rfl) (h))) (by rw [hf];simp)
      have n10:f 10=false:=by cases h:f 10;rfl;exact absurd (hcl 6 5 (by kernel_rfl) (hcl 7 6 (by kernel_rfl) (hcl 10 7 (by kernel_rfl) (h)))) (by rw [hf];simp)
      have hv:Vr=V.drew∨Vr=W9:=by cases h:f 6;exact .inl (c0 h);exact .inr (c1 h n7)
      obtain ⟨k0,d0,d1,d2,d3,d4,kf⟩:=hst.out Vr hv
      clear hv
      clear n6 n7 n10
      go_simp
      exact hK _ _ ⟨(upd x 5 (.agg #[.int .i64 t.kind,.string (tS t.text),.int .i64 t.num,.int .i64 t.line,.int .i64 t.col])),rfl,c0,c1,c2,c3,(hx.set 5 rfl)⟩
     case s6 =>
      have e5:=hx.get 5 rfl (hd 5 (by simp))
      rw [e5]
      clear e5
      have n7:f 7=false:=by cases h:f 7;rfl;exact absurd (hcl 7 6 (by kernel_rfl) (h)) (by rw [hf];simp)
      have n10:f 10=false:=by cases h:f 10;rfl;exact absurd (hcl 7 6 (by kernel_rfl) (hcl 10 7 (by kernel_rfl) (h))) (by rw [hf];simp)
      have e:=c0 hf
      subst e
      have hW9:=hW9q.out
      go_simp
      exact hK _ _ ⟨upd (upd x 5 (.agg #[.int .i64 t.kind,.string (tS t.text),.int .i64 t.num,.int .i64 t.line,.int .i64 t.col])) 6 (.slice (some ⟨V.heap.size,0,none⟩) 1 1),rfl,fun h=>(by cases h),fun _ _=>rfl,fun h=>absurd h (by simp [n7]),fun h=>absurd h (by simp [n10]),(hx.put 5 rfl).set 6 rfl⟩
     case s7 =>
      have e4:=hx.get 4 rfl (hd 4 (by simp))
      have e6:=hx.get 6 rfl (hd 6 (by simp))
      rw [e4,e6]
      clear e4 e6
      have n10:f 10=false:=by cases h:f 10;rfl;exact absurd (hcl 10 7 (by kernel_rfl) (h)) (by rw [hf];simp)
      have y6:f 6=true:=hd 6 (by simp)
      have e:=c1 y6 hf
      subst e
      obtain ⟨va,vc,w3,hrun,hb0,hf0,hR⟩:=hap.out
      refine wanted_run (by rfl) ?_
      refine wp_append_run (.tmp 93) (.tmp 95) 22 _ _ _ _ _ rfl rfl rfl hrun ?_
      exact hK _ _ ⟨upd (upd (upd x 4 (.slice oa no oc)) 6 (.slice (some ⟨V.heap.size,0,none⟩) 1 1)) 7 (.slice va (no + 1) vc),rfl,fun h=>absurd h (by simp [y6]),fun _ h=>(by cases h),fun _ _=>⟨va,vc,rfl,hb0,hf0,hR⟩,fun h=>absurd h (by simp [n10]),VO.free ((hx.put 4 rfl).put 6 rfl) 7 rfl _⟩
     case s8 =>
      have e0:=hx.get 0 rfl (hd 0 (by simp))
      rw [e0]
      clear e0
      go_simp
      exact hK _ _ ⟨(upd (upd x 0 (.pointer (some ⟨W.heap.size + 1,0,none⟩))) 8 (.pointer (some ⟨W.heap.size + 1,0,none⟩))),rfl,c0,c1,c2,c3,((hx.put 0 rfl).set 8 rfl)⟩
     case s9 =>
      have e8:=hx.get 8 rfl (hd 8 (by simp))
      rw [e8]
      clear e8
      go_simp
      exact hK _ _ ⟨(upd (upd x 8 (.pointer (some ⟨W.heap.size + 1,0,none⟩))) 9 (.pointer (some ⟨W.heap.size + 1,0,none⟩))),rfl,c0,c1,c2,c3,((hx.put 8 rfl).set 9 rfl)⟩
     case s10 =>
      have e9:=hx.get 9 rfl (hd 9 (by simp))
      rw [e9]
      clear e9
      have y6:f 6=true:=hcl 7 6 (by kernel_rfl) (hd 7 (by simp))
      have y7:f 7=true:=hd 7 (by simp)
      obtain ⟨va,vc,hx7,hb0,hf0,hR⟩:=c2 y7 hf
      rw [hx7]
      go_simp
      exact hK _ _ ⟨upd (upd x 9 (.pointer (some ⟨W.heap.size + 1,0,none⟩))) 7 (.slice va (no + 1) vc),rfl,fun h=>absurd h (by simp [y6]),fun _ h=>absurd h (by simp [y7]),fun _ h=>(by cases h),fun _=>⟨va,vc,hR⟩,VO.done (VO.keep (hx.put 9 rfl) 7 rfl _) 10 rfl⟩
    case last =>
     rintro f a Vr hf ⟨x,rfl,c0,c1,c2,c3,hx⟩
     obtain ⟨z,rfl⟩:∃ z,z=x:=⟨_,rfl⟩
     obtain ⟨va,vc,hR⟩:=c3 (hf 10 (by simp))
     have hR5:=Lib.hid (hR4q.out.trans hR)
     clear c0 c1 c2 c3 hx hR
     obtain ⟨V5,rfl⟩:∃ V5,V5=Vr:=⟨_,rfl⟩
     obtain ⟨⟨d0,d1,d2,d3,d4⟩,_⟩:=(hbox.out _ _ _ _ _ hR5.out).cells
     go_upto_region 18 with (fail)
     --<18
     obtain ⟨⟨be1,be2,fb2⟩,hbe⟩:∃ r,behS t (l.drop (k + 1)).head? st3=r:=⟨_,rfl⟩
     have hbl:=beh_len t (l.drop (k + 1)).head? st3
     rw [hbe] at hB0 hbl
     simp only at hbl
     have hB1:Hid (Res.pre (ts3 ++ [t] ++ be1) (layS (prevT l (k + 1)) fb2 be2 (l.drop (k + 1)))=layF l):=by
      unfold Hid
      rw [show prevT l (k + 1)=some t from by show l[k]?=some t;rw [List.getElem?_eq_getElem hlt,ht'.out]]
      exact hB0.out
     have hn6:Hid ((ts3 ++ [t] ++ be1).length + be2.length≤6 * (k + 1)):=by have h1:=hn3.out;unfold Hid;simp only [List.length_append,List.length_singleton];omega
     obtain ⟨ar,har⟩:∃ x,(if cap=k + 1 then some (⟨b,off,none⟩:Addr) else some ⟨b,off + (k + 1) * 5,none⟩)=x:=⟨_,rfl⟩
     have hrr:Hid (TkRow W ar (l.drop (k + 1))):=by
      unfold Hid
      rw [←har]
      split
      ·
       exact .inl (List.drop_eq_nil_of_le (by omega))
      ·
       have h:=hrow'.out.drop (k + 1)
       simpa [addr_plus] using h
     have hbeh0:=lay_behind t ar (l.drop (k + 1)) (cap - (k + 1)) V5.drew W (hR5.out.st.below (Below.refl _ V5).drew) (show W.heap.size + 2≤V5.heap.size from hbzZ.out _ _ _ _ _ hR5.out) (by have h1:=hn3.out;have h2:=hno'.out;simp only [List.length_append,List.length_singleton];omega) (by rw [List.length_drop];omega) hrr.out (hlow.out _ _ _ _ _ (hRY.out.trans (hR5.out.below (Below.refl _ V5).drew))) (by omega)
     rw [hbe,List.length_drop] at hbeh0
     unfold tkV at hbeh0
     have hbeh:=Lib.hid hbeh0
     have har':=Lib.hid har
     clear hbe hbl hB0 hbeh0 har
     refine wp_region_inv (fun f a Vr=>∃ x:Nat→Value,a=⟨#[.slice (some ⟨b,off,none⟩) l.length cap,undef,u2,.pointer (some ⟨W.heap.size,0,none⟩),u4,.pointer (some ⟨W.heap.size + 1,0,none⟩),x 7,.func (.func 48) #[] #[],.int .i64 (k:Int),.pointer (some ⟨X.heap.size,0,none⟩),u10,undef,.agg #[.slice none 0 0,.slice none 0 0],.pointer (some ⟨W.heap.size + 1,0,none⟩),.slice (some ⟨b,off,none⟩) l.length cap,.int .i64 (l.length:Int),.int .i64 (k:Int),.bool true,u18,u19,u20,u21,u22,u23,u24,u25,u26,u27,u28,u29,u30,u31,u32,u33,u34,u35,u36,u37,u38,u39,u40,u41,u42,u43,u44,u45,u46,u47,u48,u49,u50,u51,u52,u53,u54,u55,u56,u57,u58,u59,u60,u61,u62,u63,u64,u65,u66,u67,u68,u69,u70,u71,u72,u73,u74,u75,u76,u77,u78,.pointer (some ⟨W.heap.size + 1,0,none⟩),.agg #[.int .i64 t.kind,.string (tS t.text),.int .i64 t.num,.int .i64 t.line,.int .i64 t.col],.bool true,.bool false,u83,u84,u85,u86,u87,u88,z 0,z 1,z 2,z 3,z 4,z 5,z 6,z 7,z 8,z 9,x 0,x 1,x 2,x 3,x 4,x 5,x 6,u106,undef,undef,undef,undef,undef,undef,undef,undef,undef,undef,undef,undef,undef,undef,undef,undef,undef,undef,undef,undef,undef,undef,undef,undef,undef,undef,undef,undef,undef,undef],[]⟩∧(f 6=false→Vr=V5.drew)∧(f 6=true→∃ o6 s6,MkR (W.heap.size + 2) (W.heap.size + 1) V5.drew (.slice va (no + 1) vc) s3 Vr o6 (ts3 ++ [t] ++ be1) s6 be2)∧VO [some (.pointer (some ⟨W.heap.size + 1,0,none⟩)),some (.agg #[.int .i64 t.kind,.string (tS t.text),.int .i64 t.num,.int .i64 t.line,.int .i64 t.col]),some (.slice (some ⟨b,off,none⟩) l.length cap),some (.int .i64 (k:Int)),some (.int .i64 ((k:Int) + 1)),some (.slice ar (l.length - (k + 1)) (cap - (k + 1))),some (.bool fb2),some (.bool fb2)] f x) (by kernel_rfl) (by kernel_rfl) (rs:=[0,1,2,3,4,5,6,7]) (by kernel_rfl) ?start ?steps ?last
     case start=>exact ⟨fun i=>([u99,u100,u101,u102,u103,u104,u105,.bool fb]:List Value).getD i undef,rfl,fun _=>rfl,by simp,VO.nil _ _⟩
     case steps =>
      refine (KeepsI.cons (ds:=[]) rfl (by kernel_rfl) ?s0 (KeepsI.cons (ds:=[]) rfl (by kernel_rfl) ?s1 (KeepsI.cons (ds:=[]) rfl (by kernel_rfl) ?s2 (KeepsI.cons (ds:=[]) rfl (by kernel_rfl) ?s3 (KeepsI.cons (ds:=[3]) rfl (by kernel_rfl) ?s4 (KeepsI.cons (ds:=[2,4]) rfl (by kernel_rfl) ?s5 (KeepsI.cons (ds:=[0,1,5]) rfl (by kernel_rfl) ?s6 (KeepsI.cons (ds:=[6]) rfl (by kernel_rfl) ?s7 KeepsI.nil))))))))
      all_goals (intro f a Vr hf hd hcl hI K' hK;obtain ⟨x,rfl,c0,c1,hx⟩:=hI)
      case s0 =>
       go_simp
       exact hK _ _ ⟨(upd x 0 (.pointer (some ⟨W.heap.size + 1,0,none⟩))),rfl,c0,c1,(hx.set 0 rfl)⟩
      case s1 =>
       have n6:f 6=false:=by cases h:f 6;rfl;exact absurd (hcl 6 1 (by kernel_rfl) (h)) (by rw [hf];simp)
       have hv:=c0 n6
       subst hv
       clear n6
       go_simp
       exact hK _ _ ⟨(upd x 1 (.agg #[.int .i64 t.kind,.string (tS t.text),.int .i64 t.num,.int .i64 t.line,.int .i64 t.col])),rfl,c0,c1,(hx.set 1 rfl)⟩
      case s2 =>
       go_simp
       exact hK _ _ ⟨(upd x 2 (.slice (some ⟨b,off,none⟩) l.length cap)),rfl,c0,c1,(hx.set 2 rfl)⟩
      case s3 =>
       go_simp
       exact hK _ _ ⟨(upd x 3 (.int .i64 (k:Int))),rfl,c0,c1,(hx.set 3 rfl)⟩
      case s4 =>
       have e3:=hx.get 3 rfl (hd 3 (by simp))
       rw [e3]
       clear e3
       have hw:IntKind.i64.wrap ((k:Int) + 1)=(k:Int) + 1:=IntWalk.i64_in _ (by omega)
       go_simp
       exact hK _ _ ⟨(upd (upd x 3 (.int .i64 (k:Int))) 4 (.int .i64 ((k:Int) + 1))),rfl,c0,c1,((hx.put 3 rfl).set 4 rfl)⟩
      case s5 =>
       have e2:=hx.get 2 rfl (hd 2 (by simp))
       have e4:=hx.get 4 rfl (hd 4 (by simp))
       rw [e2,e4]
       clear e2 e4
       have hs0:(0:Int)≤(k:Int) + 1:=by omega
       have hs1:(k:Int) + 1≤(l.length:Int):=by omega
       go_simp
       rw [har'.out]
       exact hK _ _ ⟨(upd (upd (upd x 2 (.slice (some ⟨b,off,none⟩) l.length cap)) 4 (.int .i64 ((k:Int) + 1))) 5 (.slice ar (l.length - (k + 1)) (cap - (k + 1)))),rfl,c0,c1,(((hx.put 2 rfl).put 4 rfl).set 5 rfl)⟩
      case s6 =>
       have e0:=hx.get 0 rfl (hd 0 (by simp))
       have e1:=hx.get 1 rfl (hd 1 (by simp))
       have e5:=hx.get 5 rfl (hd 5 (by simp))
       rw [e0,e1,e5]
       clear e0 e1 e5
       have e:=c0 hf
       subst e
       go_simp
       refine hbeh.out.mono ?_
       rintro e V6 ⟨rfl,o6,s6,hR6⟩
       exact hK _ _ ⟨upd (upd (upd (upd x 0 (.pointer (some ⟨W.heap.size + 1,0,none⟩))) 1 (.agg #[.int .i64 t.kind,.string (tS t.text),.int .i64 t.num,.int .i64 t.line,.int .i64 t.col])) 5 (.slice ar (l.length - (k + 1)) (cap - (k + 1)))) 6 (.bool fb2),rfl,fun h=>(by cases h),fun _=>⟨o6,s6,hR6⟩,(((hx.put 0 rfl).put 1 rfl).put 5 rfl).set 6 rfl⟩
      case s7 =>
       have e6:=hx.get 6 rfl (hd 6 (by simp))
       rw [e6]
       clear e6
       go_simp
       exact hK _ _ ⟨(upd (upd x 6 (.bool fb2)) 7 (.bool fb2)),rfl,c0,c1,((hx.put 6 rfl).set 7 rfl)⟩
     case last =>
      rintro f a Vr hf ⟨x,rfl,c0,c1,hx⟩
      obtain ⟨o6,s6,hR6⟩:=c1 (hf 6 (by simp))
      have e7:=hx.get 7 rfl (hf 7 (by simp))
      rw [e7]
      have hR7:=Lib.hid (hRY.out.trans ((hR5.out.below (Below.refl _ V5).drew).trans hR6))
      clear c0 c1 hx hR6 e7
      go_wp2_with fail
      go_roundg (l.length - (k + 1))
      case measure=>omega
      case rel=>exact ⟨k + 1,fb2,o6,s6,_,be2,by omega,by omega,rfl,by go_num,hR7,hB1.out,hn6.out⟩
      -->18
    -->17
  ·
   obtain rfl:k=l.length:=by omega
   have hE:Hid (Res.pre ts1 (endS (prevT l l.length) st1)=layF l):=by have h:=hA.out;rw [List.drop_length,layS] at h;exact h
   have hlow:=Lib.hid (fun (Y:World) (o' s':Value) (ts':List Tk) (st':List Int) (hX:MkR (W.heap.size + 2) (W.heap.size + 1) W2 (.slice none 0 0) (.slice none 0 0) Y o' ts' s' st')=>hbW2.out.trans (hX.keep.low hM0.out (by omega) hbW2.out.size))
   have hpl:=Lib.hid (fun (V:World) (o' s':Value) (ts':List Tk) (st':List Int) (h:MkR (W.heap.size + 2) (W.heap.size + 1) W2 (.slice none 0 0) (.slice none 0 0) V o' ts' s' st') =>
    (show Box2 V 29 W.heap.size (.int .i64 0) (.int .i64 0) from (h.keep.block _ (blk_lt hxp.out) (by omega) (fun e=>(by cases e)) (fun e=>(by cases e))).trans hxp.out))
   clear hA hk hlt
   by_cases hl0:l.length=0
   ·
    have hl:=List.length_eq_zero_iff.1 hl0
    subst hl
    have hB0:Hid (layF ([]:List Tk)=.ok []):=rfl
    obtain ⟨⟨e0,e1⟩,ef⟩:=(hpl.out _ _ _ _ _ hR.out).cells
    have hpe:=Lib.hid (place_end (hpl.out _ _ _ _ _ hR.out) (.int .i64 0) (.int .i64 0))
    have hbl:=Lib.hid (hlow.out _ _ _ _ _ hR.out)
    clear hl0
    rw [List.length_nil]
    go_wp2_with fail
    refine bodyPost_ret (results_lex rfl _ _ rfl rfl rfl hpe.out.1.cells.1) rfl ⟨?_,hbl.out.trans hpe.out.2.below⟩
    rw [hB0.out]
    exact ⟨_,rfl,TkSl.nil _⟩
   ·
    obtain ⟨m,hm⟩:∃ m,l.length=m + 1:=⟨l.length - 1,by omega⟩
    obtain ⟨t,ht⟩:∃ t,l[m]'(by omega)=t:=⟨_,rfl⟩
    have hpv:prevT l l.length=some t:=by rw [hm];show l[m]?=some t;rw [List.getElem?_eq_getElem (by omega),ht]
    rw [hpv] at hE
    obtain ⟨b,off,rfl,hcell⟩:=hrow'.out.at (by rintro rfl;simp at hl0)
    obtain ⟨g0,g1,g2,g3,g4⟩:=hcell m (by omega)
    rw [ht] at g0 g1 g2 g3 g4
    have q0:=Keeps.of_below (hlow.out X _ _ _ _ hR.out) _ _ g0
    have q1:=Keeps.of_below (hlow.out X _ _ _ _ hR.out) _ _ g1
    have q2:=Keeps.of_below (hlow.out X _ _ _ _ hR.out) _ _ g2
    have q3:=Keeps.of_below (hlow.out X _ _ _ _ hR.out) _ _ g3
    have q4:=Keeps.of_below (hlow.out X _ _ _ _ hR.out) _ _ g4
    have hm':=Lib.hid hm
    have hN':Hid (ts1.length + st1.length≤6 * (m + 1)):=by have h:=hN.out;rw [hm] at h;exact h
    have hE':Hid (Res.pre ts1 (endS (some t) st1)=layF l):=hE
    clear hcell ht g0 g1 g2 g3 g4 hpv hl0 hN hE
    have hlz:((l.length:Int) == 0)=false:=beq_eq_false_iff_ne.2 (by omega)
    have hw:IntKind.i64.wrap ((l.length:Int) - 1)=(m:Int):=by rw [show (l.length:Int) - 1=(m:Int) by omega];exact IntWalk.i64_in _ (by omega)
    have hml:m < l.length:=by omega
    have hm5:Hid (m < 2000):=by unfold Hid;omega
    clear hm
    obtain ⟨Y,hY⟩:∃ Y,X.alloc (.cells #[.int .i64 t.kind,.string (tS t.text),.int .i64 t.num,.int .i64 t.line,.int .i64 t.col] 51)=Y:=⟨_,rfl⟩
    have hbY:Hid (Below X.heap.size X Y):=by rw [←hY];exact (Below.refl _ _).alloc (Nat.le_refl _) _
    have hxY:Hid (Box5 Y 51 X.heap.size (.int .i64 t.kind) (.string (tS t.text)) (.int .i64 t.num) (.int .i64 t.line) (.int .i64 t.col)):=by rw [←hY];exact blk_new (Below.refl _ _)
    have hzY:Hid (Y.heap.size=X.heap.size + 1):=by rw [←hY];simp [Hid]
    have hY':=Lib.hid hY
    clear hY
    have hSY:=Lib.hid (hR.out.st.below hbY.out)
    have hRY:=Lib.hid (hR.out.below hbY.out)
    have hbox:=Lib.hid (fun (Z:World) (o' s':Value) (ts':List Tk) (st':List Int) (hX:MkR (W.heap.size + 2) (W.heap.size + 1) Y o1 s1 Z o' ts' s' st')=>(show Box5 Z 51 X.heap.size (.int .i64 t.kind) (.string (tS t.text)) (.int .i64 t.num) (.int .i64 t.line) (.int .i64 t.col) from MkR.box hR.out.st (by have:=hzY.out;omega) hxY.out hX))
    have hbz:Hid (W.heap.size + 2≤Y.heap.size):=by have:=hRY.out.keep.size;have:=hz2'.out;unfold Hid;omega
    obtain ⟨⟨d0,d1,d2,d3,d4⟩,_⟩:=hxY.out.cells
    have hsw:=Lib.hid (lay_shutWhile (fun _=>true) t 56 #[] Y hSY.out hbz.out (by have:=hN'.out;have:=hm5.out;omega) (fun V' _ c=>lay_all V' c) (enters_of Tryz.func56 (by kernel_rfl) rfl))
    unfold tkV at hsw
    go_upto_region 23 with (fail)
    rw [hY'.out]
    clear q0 q1 q2 q3 q4
    go_wp2_with fail
    refine hsw.out.mono ?_
    rintro e V ⟨rfl,o2,s2,hR2⟩
    have hR3:=Lib.hid (hRY.out.trans hR2)
    clear d0 d1 d2 d3 d4
    obtain ⟨⟨d0,d1,d2,d3,d4⟩,_⟩:=(hbox.out _ _ _ _ _ hR2).cells
    clear hR2
    obtain ⟨n1,hn1⟩:∃ n,List.replicate (shutW (fun _=>true) st1).1 (mkT bShut t)=n:=⟨_,rfl⟩
    obtain ⟨q,hq⟩:∃ n,(shutW (fun _=>true) st1).2=n:=⟨_,rfl⟩
    have hE2:Hid (Res.pre ts1 (if q=[] then .ok n1 else .bad t.line t.col)=layF l):=by
     have h:=hE'.out
     rw [endS,hn1,hq] at h
     exact h
    rw [hn1,hq] at hR3
    clear hn1 hq
    obtain ⟨oa,oc,sa,sc,rfl,rfl,_,_⟩:=hR3.out.st.forms
    obtain ⟨⟨c0,c1⟩,cf⟩:=hR3.out.st.box.cells
    have hbl:=Lib.hid (hlow.out _ _ _ _ _ hR3.out)
    have hpV:=Lib.hid (hpl.out _ _ _ _ _ hR3.out)
    cases q with
    | nil =>
     have hB0:Hid (layF l=.ok (ts1 ++ n1)):=by have h:=hE2.out;rw [if_pos rfl] at h;exact h.symm
     rw [List.length_nil] at c1
     obtain ⟨⟨e0,e1⟩,ef⟩:=hpV.out.cells
     have hpe:=Lib.hid (place_end hpV.out (.int .i64 0) (.int .i64 0))
     have hts:Hid (TkSl ((V.setCell ⟨W.heap.size,0,none⟩ (.int .i64 0)).setCell ⟨W.heap.size,1,none⟩ (.int .i64 0)) (.slice oa (ts1.length + n1.length) oc) (ts1 ++ n1)):=by
      unfold Hid
      rw [←List.length_append]
      exact TkSl.own (ownsRow_heap hR3.out.st.out fun g hg=>hpe.out.2.other g (by have:=(ownBlock_ge hR3.out.st.out hg).1;omega))
     go_wp2_with fail
     refine bodyPost_ret (results_lex rfl _ _ rfl rfl rfl hpe.out.1.cells.1) rfl ⟨?_,hbl.out.trans hpe.out.2.below⟩
     rw [hB0.out]
     exact ⟨_,rfl,hts.out⟩
    | cons c r =>
     have hB0:Hid (layF l=.bad t.line t.col):=by have h:=hE2.out;rw [if_neg (by simp)] at h;exact h.symm
     have hfa:=Lib.hid (lay_failed t V)
     unfold tkV at hfa
     rw [List.length_cons] at c1
     have hpos:(0:Int) < (r.length:Int) + 1:=by omega
     go_wp2_with fail
     refine hfa.out.mono ?_
     rintro e V2 ⟨rfl,hB⟩
     obtain ⟨⟨e0,e1⟩,ef⟩:=(hpV.out.below hB).cells
     have hpe:=Lib.hid (place_end (hpV.out.below hB) (.int .i64 t.line) (.int .i64 t.col))
     have hb2:=Lib.hid (hbl.out.trans (hB.mono hbl.out.size))
     clear hB
     go_wp2_with fail
     refine bodyPost_ret (results_lex rfl _ _ rfl rfl rfl hpe.out.1.cells.1) rfl ⟨?_,hb2.out.trans hpe.out.2.below⟩
     rw [hB0.out]
     exact rfl
end Go.Proofs.YtinjocchommbdaaGreatDoor
