/- A part of the proof that parser laws hold: texts of the walk and of its plain laws, made small. -/
import Derived.Test.YtinjocchommbdaaGreatDoorM36
import Derived.StillTailTactics
import Derived.Lib.AppendIntMem
set_option linter.unusedVariables false
set_option linter.unusedSimpArgs false
namespace Go.Proofs.YtinjocchommbdaaGreatDoor
open Go.RowKit
def okB (k:Int) (l:List Str) (ks:List Ex):Prop:=(k=4→1≤l.length∧1≤ks.length)∧(k=5→2≤ks.length)∧(k=6→2≤ks.length)∧(k=7→1≤ks.length)∧(k=8→1≤ks.length)∧(k=9→2≤ks.length)∧(k=10→3≤ks.length)∧(k=13→1≤ks.length)
inductive OkT:Ex→Prop
 | mk {k:Int} {s:Str} {n:Int} {l:List Str} {ks:List Ex} (h:okB k l ks) (hk:∀ e ∈ ks,OkT e):OkT (.mk k s n l ks)
theorem bs_fun:bs=fun s:Str=>s.data.toList:=rfl
theorem mem_le {l:List Str} {p:Str} (h:p ∈ l):(bs p).length≤(joinSp l).length:=join_mem_le _ _ (List.mem_map.2 ⟨p,h,rfl⟩)
theorem text_le_atom (e:Ex):(textE e).length≤(atomE e).length:=by
 unfold atomE atomT paren
 split <;> simp <;> omega
theorem textL_get (ks:List Ex) (i:Nat) (h:i < ks.length):(textE.textL ks)[i]?.getD (0,[])=(ks[i].kind,textE ks[i]):=by
 rw [←List.getD_eq_getElem?_getD];exact textL_getD ks i h
theorem row_drop {W:World} {b off c:Nat} {ks:List Ex} (h:ExRow W (some ⟨b,off,none⟩) ks) (hc:ks.length≤c):ExRow W (if c=1 then some ⟨b,off,none⟩ else some ⟨b,off + 5,none⟩) (ks.drop 1):=by
 by_cases h1:ks.length≤1
 ·
  exact .inl (List.drop_eq_nil_of_le h1)
 ·
  rw [if_neg (by omega)]
  rcases h with rfl | ⟨b',off',ha,h⟩
  ·
   simp at h1
  ·
   simp only [Option.some.injEq,Addr.mk.injEq,and_true] at ha
   obtain ⟨rfl,rfl⟩:=ha
   refine .inr ⟨b,off + 5,rfl,fun i hi=>?_⟩
   have hi':i + 1 < ks.length:=by simp at hi;omega
   have:=h (i + 1) hi'
   rw [show off + (i + 1) * 5=off + 5 + i * 5 from by omega] at this
   rw [List.getElem_drop]
   simpa [Nat.add_comm] using this
end Go.Proofs.YtinjocchommbdaaGreatDoor
namespace Go.Proofs.YtinjocchommbdaaGreatDoor
open Go.RowKit
set_option maxHeartbeats 4000000 in
set_option maxRecDepth 100000 in
theorem text_k4 {k:Int} {s:Str} {n:Int} {l:List Str} {ks:List Ex} (ih:∀ e ∈ ks,OkT e→(textE e).length≤1099511627775→TextC e) (hok:okB k l ks) (hko:∀ e ∈ ks,OkT e) (hlen:(textE (.mk k s n l ks)).length≤1099511627775) (h4:k=4):TextC (.mk k s n l ks):=by
 intro v w hv
 obtain ⟨hv1,ht⟩:=hv
 obtain ⟨a1,c1,a2,c2,rfl,_,hn,hs,hls,hks,hl,hr⟩:=hv1.open
 unfold lenMax at hs hls hks
 have hb0:Below w.heap.size w (w.alloc (.cells #[.int .i64 k,.string s,.int .i64 n,.slice a1 l.length c1,.slice a2 ks.length c2] 27)):=(Below.refl _ _).alloc (Nat.le_refl _) _
 obtain ⟨k0,k1,k2,k3,k4⟩:=box5 (w:=w) (v0:=.int .i64 k) (v1:=.string s) (v2:=.int .i64 n) (v3:=.slice a1 l.length c1) (v4:=.slice a2 ks.length c2) (t:=27) (Below.refl _ _)
 have hr1:=hr.keeps (Keeps.of_below hb0)
 have hl1:=hl.keeps (Keeps.of_below hb0)
 have ht1:=ht.below hb0
 have hwz:w.heap.size < (w.alloc (.cells #[.int .i64 k,.string s,.int .i64 n,.slice a1 l.length c1,.slice a2 ks.length c2] 27)).heap.size:=by simp
 have hcap:=hv1.caps
 clear hv1 hr hl ht
 go_enter Tryz.func60,Tryz.ntmps60
 subst h4
 have hm:=hok.1 rfl
 obtain ⟨hm0,hm⟩:=hm
 obtain ⟨b,off,rfl,hkid⟩:=hr1.kid (by rintro rfl;simp at hm)
 obtain ⟨x0,y0,z0,u0,g00,g01,g02,g03,g04,ge0⟩:=hkid 0 (by omega)
 simp only [Nat.zero_mul,Nat.one_mul,Nat.add_zero,Nat.reduceMul,Nat.reduceAdd,Nat.add_assoc] at g00 g01 g02 g03 g04
 rcases hl1 with rfl | ⟨b2,o2,rfl,hl1⟩
 ·
  simp at hm0
 have n0:=(hl1 0 (by omega)).1
 simp only [Nat.add_zero] at n0
 have b0:0 < ks.length:=by omega
 have d0:(0:Int) < (ks.length:Int):=by omega
 have e0:=textL_get ks 0 (by omega)
 have bn:0 < l.length:=by omega
 have dn:(0:Int) < (l.length:Int):=by omega
 have hd:l.head?.getD ⟨#[]⟩=l[0]:=by cases l with | nil=>simp at bn | cons x r=>rfl
 have hj:joinSp (outs [.str (⟨#[92]⟩ ++ l[0]),.str ⟨#[45,62]⟩,.ex ks[0]])=textE (.mk 4 s n l ks):=by
  simp [outs,Pt.out,joinSp,textE,textBody,mkS,bs,atomE,e0,hd,data_app]
 have L0:(textE ks[0]).length≤1099511627775:=(Nat.le_trans (mem_le (p:=mkS (textE ks[0])) (l:=outs [.str (⟨#[92]⟩ ++ l[0]),.str ⟨#[45,62]⟩,.ex ks[0]]) (by simp [outs,Pt.out])) (by rw [hj];exact hlen))
 have C0:TextC ks[0]:=ih _ (List.getElem_mem _) (hko _ (List.getElem_mem _)) L0
 have hsz:l[0].size≤1099511627775:=by
  have:=Nat.le_trans (mem_le (p:=⟨#[92]⟩ ++ l[0]) (l:=outs [.str (⟨#[92]⟩ ++ l[0]),.str ⟨#[45,62]⟩,.ex ks[0]]) (by simp [outs,Pt.out])) (by rw [hj];exact hlen)
  rw [bs_app,List.length_append] at this
  rw [Lib.size_eq];exact Nat.le_trans (Nat.le_add_left _ _) this
 have hno:¬ (9223372036854775807 < 1 + ByteArray.size l[0]):=by omega
 have hcan:∀ p ∈ ([.str (⟨#[92]⟩ ++ l[0]),.str ⟨#[45,62]⟩,.ex ks[0]]:List Pt),p.can:=by
  intro p hp
  simp only [List.mem_cons,List.not_mem_nil,or_false] at hp
  rcases hp with rfl | rfl | rfl
  ·
   trivial
  ·
   trivial
  ·
   exact C0
 have hcap1:=hcap.1
 have hj':=Lib.hid hj
 have hlen':=Lib.hid hlen
 have hcan':=Lib.hid hcan
 clear hj hlen hcan ih hko hkid
 go_wp2_with fail
 generalize w.alloc (.cells #[.int .i64 4,.string s,.int .i64 n,.slice (some ⟨b2,o2,none⟩) l.length c1,.slice (some ⟨b,off,none⟩) ks.length c2] 27)=W at *
 refine wp_region_still_tail 12 (by kernel_rfl) (by kernel_rfl) ?_
 simp only [List.take_succ_cons,List.take_zero,List.drop_succ_cons,List.drop_zero]
 change wpStill _ _ W.drew _ _ _
 iterate 12 still_step
 refine wpStill_nil ?_
 change wpList _ _ _ _ _ W.drew
 have hWD:Below W.heap.size W W.drew:=(Below.refl _ W).drew
 have hbD:Below w.heap.size w W.drew:=hb0.drew
 have hWDs:W.heap.size≤W.drew.heap.size:=hWD.size
 generalize W.drew=D at hWD hbD hWDs ⊢
 go_wp2_with fail
 refine (print_of_new (textE (.mk 4 s n l ks)) [.str (⟨#[92]⟩ ++ l[0]),.str ⟨#[45,62]⟩,.ex ks[0]] [.iface 9 (.string (⟨#[92]⟩ ++ l[0])),.iface 9 (.string ⟨#[45,62]⟩),.iface 27 (.agg #[.int .i64 ks[0].kind,.string ks[0].name,.int .i64 ks[0].num,.slice x0 ks[0].names.length y0,.slice z0 ks[0].kids.length u0])] 20 D 3 rfl (by exact ⟨rfl,rfl,⟨_,rfl,IsExT.below ⟨ge0,ht1⟩ (hWD.alloc hWDs _)⟩,trivial⟩) hcan'.out (by simp [lenMax]) hlen'.out hj'.out).mono ?_
 rintro e w2 ⟨rfl,hB2⟩
 go_wp2_with fail
 go_ret
 exact ⟨rfl,hbD.trans (hB2.mono (by have:=hbD.size;omega))⟩
set_option maxHeartbeats 4000000 in
set_option maxRecDepth 100000 in
theorem text_k5 {k:Int} {s:Str} {n:Int} {l:List Str} {ks:List Ex} (ih:∀ e ∈ ks,OkT e→(textE e).length≤1099511627775→TextC e) (hok:okB k l ks) (hko:∀ e ∈ ks,OkT e) (hlen:(textE (.mk k s n l ks)).length≤1099511627775) (h5:k=5):TextC (.mk k s n l ks):=by
 intro v w hv
 obtain ⟨hv1,ht⟩:=hv
 obtain ⟨a1,c1,a2,c2,rfl,_,hn,hs,hls,hks,hl,hr⟩:=hv1.open
 unfold lenMax at hs hls hks
 have hb0:Below w.heap.size w (w.alloc (.cells #[.int .i64 k,.string s,.int .i64 n,.slice a1 l.length c1,.slice a2 ks.length c2] 27)):=(Below.refl _ _).alloc (Nat.le_refl _) _
 obtain ⟨k0,k1,k2,k3,k4⟩:=box5 (w:=w) (v0:=.int .i64 k) (v1:=.string s) (v2:=.int .i64 n) (v3:=.slice a1 l.length c1) (v4:=.slice a2 ks.length c2) (t:=27) (Below.refl _ _)
 have hr1:=hr.keeps (Keeps.of_below hb0)
 have hl1:=hl.keeps (Keeps.of_below hb0)
 have ht1:=ht.below hb0
 have hwz:w.heap.size < (w.alloc (.cells #[.int .i64 k,.string s,.int .i64 n,.slice a1 l.length c1,.slice a2 ks.length c2] 27)).heap.size:=by simp
 have hcap:=hv1.caps
 clear hv1 hr hl ht
 go_enter Tryz.func60,Tryz.ntmps60
 subst h5
 have hm:=hok.2.1 rfl
 obtain ⟨b,off,rfl,hkid⟩:=hr1.kid (by rintro rfl;simp at hm)
 obtain ⟨x0,y0,z0,u0,g00,g01,g02,g03,g04,ge0⟩:=hkid 0 (by omega)
 obtain ⟨x1,y1,z1,u1,g10,g11,g12,g13,g14,ge1⟩:=hkid 1 (by omega)
 simp only [Nat.zero_mul,Nat.one_mul,Nat.add_zero,Nat.reduceMul,Nat.reduceAdd,Nat.add_assoc] at g00 g01 g02 g03 g04 g10 g11 g12 g13 g14
 have b0:0 < ks.length:=by omega
 have d0:(0:Int) < (ks.length:Int):=by omega
 have e0:=textL_get ks 0 (by omega)
 have b1:1 < ks.length:=by omega
 have d1:(1:Int) < (ks.length:Int):=by omega
 have e1:=textL_get ks 1 (by omega)
 have hj:joinSp (outs [.br ks[0],.br ks[1]])=textE (.mk 5 s n l ks):=by
  simp [outs,Pt.out,joinSp,textE,textBody,mkS,bs,atomE,e0,e1]
 have L0:(textE ks[0]).length≤1099511627775:=Nat.le_trans (text_le_atom _) (Nat.le_trans (mem_le (p:=mkS (atomE ks[0])) (l:=outs [.br ks[0],.br ks[1]]) (by simp [outs,Pt.out])) (by rw [hj];exact hlen))
 have C0:TextC ks[0]:=ih _ (List.getElem_mem _) (hko _ (List.getElem_mem _)) L0
 have L1:(textE ks[1]).length≤1099511627775:=Nat.le_trans (text_le_atom _) (Nat.le_trans (mem_le (p:=mkS (atomE ks[1])) (l:=outs [.br ks[0],.br ks[1]]) (by simp [outs,Pt.out])) (by rw [hj];exact hlen))
 have C1:TextC ks[1]:=ih _ (List.getElem_mem _) (hko _ (List.getElem_mem _)) L1
 have hcan:∀ p ∈ ([.br ks[0],.br ks[1]]:List Pt),p.can:=by
  intro p hp
  simp only [List.mem_cons,List.not_mem_nil,or_false] at hp
  rcases hp with rfl | rfl
  ·
   exact ⟨C0,by omega⟩
  ·
   exact ⟨C1,by omega⟩
 have hcap1:=hcap.1
 have hj':=Lib.hid hj
 have hlen':=Lib.hid hlen
 have hcan':=Lib.hid hcan
 clear hj hlen hcan ih hko hkid
 go_wp2_with fail
 generalize w.alloc (.cells #[.int .i64 5,.string s,.int .i64 n,.slice a1 l.length c1,.slice (some ⟨b,off,none⟩) ks.length c2] 27)=W at *
 refine wp_region_still_tail 12 (by kernel_rfl) (by kernel_rfl) ?_
 simp only [List.take_succ_cons,List.take_zero,List.drop_succ_cons,List.drop_zero]
 change wpStill _ _ W.drew _ _ _
 iterate 12 still_step
 refine wpStill_nil ?_
 change wpList _ _ _ _ _ W.drew
 have hWD:Below W.heap.size W W.drew:=(Below.refl _ W).drew
 have hbD:Below w.heap.size w W.drew:=hb0.drew
 have hWDs:W.heap.size≤W.drew.heap.size:=hWD.size
 generalize W.drew=D at hWD hbD hWDs ⊢
 go_wp2_with fail
 refine (print_of_new (textE (.mk 5 s n l ks)) [.br ks[0],.br ks[1]] [.iface 173 (.agg #[.int .i64 ks[0].kind,.string ks[0].name,.int .i64 ks[0].num,.slice x0 ks[0].names.length y0,.slice z0 ks[0].kids.length u0]),.iface 173 (.agg #[.int .i64 ks[1].kind,.string ks[1].name,.int .i64 ks[1].num,.slice x1 ks[1].names.length y1,.slice z1 ks[1].kids.length u1])] 20 D 2 rfl (by exact ⟨⟨_,rfl,IsExT.below ⟨ge0,ht1⟩ (hWD.alloc hWDs _)⟩,⟨_,rfl,IsExT.below ⟨ge1,ht1⟩ (hWD.alloc hWDs _)⟩,trivial⟩) hcan'.out (by simp [lenMax]) hlen'.out hj'.out).mono ?_
 rintro e w2 ⟨rfl,hB2⟩
 go_wp2_with fail
 go_ret
 exact ⟨rfl,hbD.trans (hB2.mono (by have:=hbD.size;omega))⟩
end Go.Proofs.YtinjocchommbdaaGreatDoor
namespace Go.Proofs.YtinjocchommbdaaGreatDoor
open Go.RowKit
set_option maxHeartbeats 4000000 in
set_option maxRecDepth 100000 in
theorem text_k6 {k:Int} {s:Str} {n:Int} {l:List Str} {ks:List Ex} (ih:∀ e ∈ ks,OkT e→(textE e).length≤1099511627775→TextC e) (hok:okB k l ks) (hko:∀ e ∈ ks,OkT e) (hlen:(textE (.mk k s n l ks)).length≤1099511627775) (h6:k=6):TextC (.mk k s n l ks):=by
 intro v w hv
 obtain ⟨hv1,ht⟩:=hv
 obtain ⟨a1,c1,a2,c2,rfl,_,hn,hs,hls,hks,hl,hr⟩:=hv1.open
 unfold lenMax at hs hls hks
 have hb0:Below w.heap.size w (w.alloc (.cells #[.int .i64 k,.string s,.int .i64 n,.slice a1 l.length c1,.slice a2 ks.length c2] 27)):=(Below.refl _ _).alloc (Nat.le_refl _) _
 obtain ⟨k0,k1,k2,k3,k4⟩:=box5 (w:=w) (v0:=.int .i64 k) (v1:=.string s) (v2:=.int .i64 n) (v3:=.slice a1 l.length c1) (v4:=.slice a2 ks.length c2) (t:=27) (Below.refl _ _)
 have hr1:=hr.keeps (Keeps.of_below hb0)
 have hl1:=hl.keeps (Keeps.of_below hb0)
 have ht1:=ht.below hb0
 have hwz:w.heap.size < (w.alloc (.cells #[.int .i64 k,.string s,.int .i64 n,.slice a1 l.length c1,.slice a2 ks.length c2] 27)).heap.size:=by simp
 have hcap:=hv1.caps
 clear hv1 hr hl ht
 go_enter Tryz.func60,Tryz.ntmps60
 subst h6
 have hm:=hok.2.2.1 rfl
 obtain ⟨b,off,rfl,hkid⟩:=hr1.kid (by rintro rfl;simp at hm)
 obtain ⟨x0,y0,z0,u0,g00,g01,g02,g03,g04,ge0⟩:=hkid 0 (by omega)
 obtain ⟨x1,y1,z1,u1,g10,g11,g12,g13,g14,ge1⟩:=hkid 1 (by omega)
 simp only [Nat.zero_mul,Nat.one_mul,Nat.add_zero,Nat.reduceMul,Nat.reduceAdd,Nat.add_assoc] at g00 g01 g02 g03 g04 g10 g11 g12 g13 g14
 have b0:0 < ks.length:=by omega
 have d0:(0:Int) < (ks.length:Int):=by omega
 have e0:=textL_get ks 0 (by omega)
 have b1:1 < ks.length:=by omega
 have d1:(1:Int) < (ks.length:Int):=by omega
 have e1:=textL_get ks 1 (by omega)
 have hj:joinSp (outs [.str ⟨#[108,101,116]⟩,.strs l,.str ⟨#[61]⟩,.ex ks[0],.str ⟨#[105,110]⟩,.ex ks[1]])=textE (.mk 6 s n l ks):=by
  simp [outs,Pt.out,joinSp,textE,textBody,mkS,bs_fun,atomE,e0,e1]
 have L0:(textE ks[0]).length≤1099511627775:=(Nat.le_trans (mem_le (p:=mkS (textE ks[0])) (l:=outs [.str ⟨#[108,101,116]⟩,.strs l,.str ⟨#[61]⟩,.ex ks[0],.str ⟨#[105,110]⟩,.ex ks[1]]) (by simp [outs,Pt.out])) (by rw [hj];exact hlen))
 have C0:TextC ks[0]:=ih _ (List.getElem_mem _) (hko _ (List.getElem_mem _)) L0
 have L1:(textE ks[1]).length≤1099511627775:=(Nat.le_trans (mem_le (p:=mkS (textE ks[1])) (l:=outs [.str ⟨#[108,101,116]⟩,.strs l,.str ⟨#[61]⟩,.ex ks[0],.str ⟨#[105,110]⟩,.ex ks[1]]) (by simp [outs,Pt.out])) (by rw [hj];exact hlen))
 have C1:TextC ks[1]:=ih _ (List.getElem_mem _) (hko _ (List.getElem_mem _)) L1
 have hcan:∀ p ∈ ([.str ⟨#[108,101,116]⟩,.strs l,.str ⟨#[61]⟩,.ex ks[0],.str ⟨#[105,110]⟩,.ex ks[1]]:List Pt),p.can:=by
  intro p hp
  simp only [List.mem_cons,List.not_mem_nil,or_false] at hp
  rcases hp with rfl | rfl | rfl | rfl | rfl | rfl
  ·
   trivial
  ·
   trivial
  ·
   trivial
  ·
   exact C0
  ·
   trivial
  ·
   exact C1
 have hcap1:=hcap.1
 have hj':=Lib.hid hj
 have hlen':=Lib.hid hlen
 have hcan':=Lib.hid hcan
 clear hj hlen hcan ih hko hkid
 go_wp2_with fail
 generalize w.alloc (.cells #[.int .i64 6,.string s,.int .i64 n,.slice a1 l.length c1,.slice (some ⟨b,off,none⟩) ks.length c2] 27)=W at *
 refine wp_region_still_tail 16 (by kernel_rfl) (by kernel_rfl) ?_
 simp only [List.take_succ_cons,List.take_zero,List.drop_succ_cons,List.drop_zero]
 change wpStill _ _ W.drew _ _ _
 iterate 16 still_step
 refine wpStill_nil ?_
 change wpList _ _ _ _ _ W.drew
 have hWD:Below W.heap.size W W.drew:=(Below.refl _ W).drew
 have hbD:Below w.heap.size w W.drew:=hb0.drew
 have hWDs:W.heap.size≤W.drew.heap.size:=hWD.size
 generalize W.drew=D at hWD hbD hWDs ⊢
 go_wp2_with fail
 refine (print_of_new (textE (.mk 6 s n l ks)) [.str ⟨#[108,101,116]⟩,.strs l,.str ⟨#[61]⟩,.ex ks[0],.str ⟨#[105,110]⟩,.ex ks[1]] [.iface 9 (.string ⟨#[108,101,116]⟩),.iface 24 (.slice a1 l.length c1),.iface 9 (.string ⟨#[61]⟩),.iface 27 (.agg #[.int .i64 ks[0].kind,.string ks[0].name,.int .i64 ks[0].num,.slice x0 ks[0].names.length y0,.slice z0 ks[0].kids.length u0]),.iface 9 (.string ⟨#[105,110]⟩),.iface 27 (.agg #[.int .i64 ks[1].kind,.string ks[1].name,.int .i64 ks[1].num,.slice x1 ks[1].names.length y1,.slice z1 ks[1].kids.length u1])] 20 D 6 rfl (by exact ⟨rfl,⟨_,_,rfl,hcap1,hls,hl1.keeps (Keeps.of_below (hWD.alloc hWDs _))⟩,rfl,⟨_,rfl,IsExT.below ⟨ge0,ht1⟩ (hWD.alloc hWDs _)⟩,rfl,⟨_,rfl,IsExT.below ⟨ge1,ht1⟩ (hWD.alloc hWDs _)⟩,trivial⟩) hcan'.out (by simp [lenMax]) hlen'.out hj'.out).mono ?_
 rintro e w2 ⟨rfl,hB2⟩
 go_wp2_with fail
 go_ret
 exact ⟨rfl,hbD.trans (hB2.mono (by have:=hbD.size;omega))⟩
end Go.Proofs.YtinjocchommbdaaGreatDoor
namespace Go.Proofs.YtinjocchommbdaaGreatDoor
open Go.RowKit
set_option maxHeartbeats 4000000 in
set_option maxRecDepth 100000 in
theorem text_k7 {k:Int} {s:Str} {n:Int} {l:List Str} {ks:List Ex} (ih:∀ e ∈ ks,OkT e→(textE e).length≤1099511627775→TextC e) (hok:okB k l ks) (hko:∀ e ∈ ks,OkT e) (hlen:(textE (.mk k s n l ks)).length≤1099511627775) (h7:k=7):TextC (.mk k s n l ks):=by
 intro v w hv
 obtain ⟨hv1,ht⟩:=hv
 obtain ⟨a1,c1,a2,c2,rfl,_,hn,hs,hls,hks,hl,hr⟩:=hv1.open
 unfold lenMax at hs hls hks
 have hb0:Below w.heap.size w (w.alloc (.cells #[.int .i64 k,.string s,.int .i64 n,.slice a1 l.length c1,.slice a2 ks.length c2] 27)):=(Below.refl _ _).alloc (Nat.le_refl _) _
 obtain ⟨k0,k1,k2,k3,k4⟩:=box5 (w:=w) (v0:=.int .i64 k) (v1:=.string s) (v2:=.int .i64 n) (v3:=.slice a1 l.length c1) (v4:=.slice a2 ks.length c2) (t:=27) (Below.refl _ _)
 have hr1:=hr.keeps (Keeps.of_below hb0)
 have hl1:=hl.keeps (Keeps.of_below hb0)
 have ht1:=ht.below hb0
 have hwz:w.heap.size < (w.alloc (.cells #[.int .i64 k,.string s,.int .i64 n,.slice a1 l.length c1,.slice a2 ks.length c2] 27)).heap.size:=by simp
 have hcap:=hv1.caps
 clear hv1 hr hl ht
 go_enter Tryz.func60,Tryz.ntmps60
 subst h7
 have hm:=hok.2.2.2.1 rfl
 obtain ⟨b,off,rfl,hkid⟩:=hr1.kid (by rintro rfl;simp at hm)
 obtain ⟨x0,y0,z0,u0,g00,g01,g02,g03,g04,ge0⟩:=hkid 0 (by omega)
 simp only [Nat.zero_mul,Nat.one_mul,Nat.add_zero,Nat.reduceMul,Nat.reduceAdd,Nat.add_assoc] at g00 g01 g02 g03 g04
 have b0:0 < ks.length:=by omega
 have d0:(0:Int) < (ks.length:Int):=by omega
 have d1:(1:Int)≤(ks.length:Int):=by omega
 have e0:=textL_get ks 0 (by omega)
 have hrd:=row_drop hr1 hcap.2
 obtain ⟨LT,hLT⟩:∃ LT,listT ((ks.drop 1).map fun e=>(e.kind,textE e))=LT:=⟨_,rfl⟩
 have hj:joinSp (outs [.str ⟨#[99,97,115,101]⟩,.ex ks[0],.str ⟨#[111,102]⟩,.str (mkS LT)])=textE (.mk 7 s n l ks):=by
  rw [←hLT]
  simp [outs,Pt.out,joinSp,textE,textBody,mkS,bs,textL_map,List.getElem?_eq_getElem b0]
 have hL:LT.length≤1099511627775:=Nat.le_trans (mem_le (p:=mkS LT) (l:=outs [.str ⟨#[99,97,115,101]⟩,.ex ks[0],.str ⟨#[111,102]⟩,.str (mkS LT)]) (by simp [outs,Pt.out])) (by rw [hj];exact hlen)
 have hC:∀ e ∈ ks.drop 1,TextC e:=fun e he=>ih e (List.mem_of_mem_drop he) (hko e (List.mem_of_mem_drop he)) (Nat.le_trans (join_mem_le ((ks.drop 1).map textE) [32,59,32] (List.mem_map.2 ⟨e,he,rfl⟩)) (text_le_list (by rw [hLT];exact hL)))
 have L0:(textE ks[0]).length≤1099511627775:=(Nat.le_trans (mem_le (p:=mkS (textE ks[0])) (l:=outs [.str ⟨#[99,97,115,101]⟩,.ex ks[0],.str ⟨#[111,102]⟩,.str (mkS LT)]) (by simp [outs,Pt.out])) (by rw [hj];exact hlen))
 have C0:TextC ks[0]:=ih _ (List.getElem_mem _) (hko _ (List.getElem_mem _)) L0
 have hcan:∀ p ∈ ([.str ⟨#[99,97,115,101]⟩,.ex ks[0],.str ⟨#[111,102]⟩,.str (mkS LT)]:List Pt),p.can:=by
  intro p hp
  simp only [List.mem_cons,List.not_mem_nil,or_false] at hp
  rcases hp with rfl | rfl | rfl | rfl
  ·
   trivial
  ·
   exact C0
  ·
   trivial
  ·
   trivial
 have hj':=Lib.hid hj
 have hlen':=Lib.hid hlen
 have hcan':=Lib.hid hcan
 clear hj hlen hcan ih hko hkid
 go_wp2_with fail
 generalize w.alloc (.cells #[.int .i64 7,.string s,.int .i64 n,.slice a1 l.length c1,.slice (some ⟨b,off,none⟩) ks.length c2] 27)=W at *
 have hcall:Hid (∀ V:World,Below W.heap.size W V→Calls Tryz.prog 124 #[.slice (if c2=1 then some ⟨b,off,none⟩ else some ⟨b,off + 5,none⟩) (ks.length - 1) (c2 - 1)] V fun r w'=>r=.returned (.string (mkS LT))∧Below V.heap.size V w'):=by
  intro V hb
  have:=print_list (ks.drop 1) (if c2=1 then some ⟨b,off,none⟩ else some ⟨b,off + 5,none⟩) (c2 - 1) V hC (hrd.keeps (Keeps.of_below hb)) (ht1.below hb) (by rw [hLT];exact hL)
  rwa [List.length_drop,hLT] at this
 have hWd:=Lib.hid ((Below.refl W.heap.size W).drew)
 clear hC hL hrd hcap hLT
 go_region_law (first | (go_simp;go_at_call 124;refine (hcall.out _ hWd.out).mono ?_;rintro e w1 ⟨rfl,hB1⟩;have hbw1:=hWd.out.trans (hB1.mono hWd.out.size);have j4:=Keeps.of_below hbw1 _ _ k4;have j00:=Keeps.of_below hbw1 _ _ g00;have j01:=Keeps.of_below hbw1 _ _ g01;have j02:=Keeps.of_below hbw1 _ _ g02;have j03:=Keeps.of_below hbw1 _ _ g03;have j04:=Keeps.of_below hbw1 _ _ g04;clear hB1) | (go_simp;go_at_call 58;refine (print_of_new (textE (.mk 7 s n l ks)) [.str ⟨#[99,97,115,101]⟩,.ex ks[0],.str ⟨#[111,102]⟩,.str (mkS LT)] [.iface 9 (.string ⟨#[99,97,115,101]⟩),.iface 27 (.agg #[.int .i64 ks[0].kind,.string ks[0].name,.int .i64 ks[0].num,.slice x0 ks[0].names.length y0,.slice z0 ks[0].kids.length u0]),.iface 9 (.string ⟨#[111,102]⟩),.iface 9 (.string (mkS LT))] 20 w1 4 rfl (by exact ⟨rfl,⟨_,rfl,IsExT.below ⟨ge0,ht1⟩ (hbw1.alloc hbw1.size _)⟩,rfl,rfl,trivial⟩) hcan'.out (by simp [lenMax]) hlen'.out hj'.out).mono ?_;rintro e w2 ⟨rfl,hB2⟩))
 all_goals
  go_wp2_with fail
  all_goals
   go_ret
   exact ⟨rfl,hb0.trans ((hbw1.mono (Nat.le_of_lt hwz)).trans (hB2.mono (by have:=hbw1.size;omega)))⟩
end Go.Proofs.YtinjocchommbdaaGreatDoor
namespace Go.Proofs.YtinjocchommbdaaGreatDoor
open Go.RowKit
set_option maxHeartbeats 4000000 in
set_option maxRecDepth 100000 in
theorem text_k8 {k:Int} {s:Str} {n:Int} {l:List Str} {ks:List Ex} (ih:∀ e ∈ ks,OkT e→(textE e).length≤1099511627775→TextC e) (hok:okB k l ks) (hko:∀ e ∈ ks,OkT e) (hlen:(textE (.mk k s n l ks)).length≤1099511627775) (h8:k=8):TextC (.mk k s n l ks):=by
 intro v w hv
 obtain ⟨hv1,ht⟩:=hv
 obtain ⟨a1,c1,a2,c2,rfl,_,hn,hs,hls,hks,hl,hr⟩:=hv1.open
 unfold lenMax at hs hls hks
 have hb0:Below w.heap.size w (w.alloc (.cells #[.int .i64 k,.string s,.int .i64 n,.slice a1 l.length c1,.slice a2 ks.length c2] 27)):=(Below.refl _ _).alloc (Nat.le_refl _) _
 obtain ⟨k0,k1,k2,k3,k4⟩:=box5 (w:=w) (v0:=.int .i64 k) (v1:=.string s) (v2:=.int .i64 n) (v3:=.slice a1 l.length c1) (v4:=.slice a2 ks.length c2) (t:=27) (Below.refl _ _)
 have hr1:=hr.keeps (Keeps.of_below hb0)
 have hl1:=hl.keeps (Keeps.of_below hb0)
 have ht1:=ht.below hb0
 have hwz:w.heap.size < (w.alloc (.cells #[.int .i64 k,.string s,.int .i64 n,.slice a1 l.length c1,.slice a2 ks.length c2] 27)).heap.size:=by simp
 have hcap:=hv1.caps
 clear hv1 hr hl ht
 go_enter Tryz.func60,Tryz.ntmps60
 subst h8
 have hm:=hok.2.2.2.2.1 rfl
 obtain ⟨b,off,rfl,hkid⟩:=hr1.kid (by rintro rfl;simp at hm)
 obtain ⟨x0,y0,z0,u0,g00,g01,g02,g03,g04,ge0⟩:=hkid 0 (by omega)
 simp only [Nat.zero_mul,Nat.one_mul,Nat.add_zero,Nat.reduceMul,Nat.reduceAdd,Nat.add_assoc] at g00 g01 g02 g03 g04
 have b0:0 < ks.length:=by omega
 have d0:(0:Int) < (ks.length:Int):=by omega
 have e0:=textL_get ks 0 (by omega)
 have hj:joinSp (outs [.str s,.strs l,.str ⟨#[45,62]⟩,.ex ks[0]])=textE (.mk 8 s n l ks):=by
  simp [outs,Pt.out,joinSp,textE,textBody,mkS,bs_fun,atomE,e0]
 have L0:(textE ks[0]).length≤1099511627775:=(Nat.le_trans (mem_le (p:=mkS (textE ks[0])) (l:=outs [.str s,.strs l,.str ⟨#[45,62]⟩,.ex ks[0]]) (by simp [outs,Pt.out])) (by rw [hj];exact hlen))
 have C0:TextC ks[0]:=ih _ (List.getElem_mem _) (hko _ (List.getElem_mem _)) L0
 have hcan:∀ p ∈ ([.str s,.strs l,.str ⟨#[45,62]⟩,.ex ks[0]]:List Pt),p.can:=by
  intro p hp
  simp only [List.mem_cons,List.not_mem_nil,or_false] at hp
  rcases hp with rfl | rfl | rfl | rfl
  ·
   trivial
  ·
   trivial
  ·
   trivial
  ·
   exact C0
 have hcap1:=hcap.1
 have hj':=Lib.hid hj
 have hlen':=Lib.hid hlen
 have hcan':=Lib.hid hcan
 clear hj hlen hcan ih hko hkid
 go_wp2_with fail
 generalize w.alloc (.cells #[.int .i64 8,.string s,.int .i64 n,.slice a1 l.length c1,.slice (some ⟨b,off,none⟩) ks.length c2] 27)=W at *
 refine wp_region_still_tail 12 (by kernel_rfl) (by kernel_rfl) ?_
 simp only [List.take_succ_cons,List.take_zero,List.drop_succ_cons,List.drop_zero]
 change wpStill _ _ W.drew _ _ _
 iterate 12 still_step
 refine wpStill_nil ?_
 change wpList _ _ _ _ _ W.drew
 have hWD:Below W.heap.size W W.drew:=(Below.refl _ W).drew
 have hbD:Below w.heap.size w W.drew:=hb0.drew
 have hWDs:W.heap.size≤W.drew.heap.size:=hWD.size
 generalize W.drew=D at hWD hbD hWDs ⊢
 go_wp2_with fail
 refine (print_of_new (textE (.mk 8 s n l ks)) [.str s,.strs l,.str ⟨#[45,62]⟩,.ex ks[0]] [.iface 9 (.string s),.iface 24 (.slice a1 l.length c1),.iface 9 (.string ⟨#[45,62]⟩),.iface 27 (.agg #[.int .i64 ks[0].kind,.string ks[0].name,.int .i64 ks[0].num,.slice x0 ks[0].names.length y0,.slice z0 ks[0].kids.length u0])] 20 D 4 rfl (by exact ⟨rfl,⟨_,_,rfl,hcap1,hls,hl1.keeps (Keeps.of_below (hWD.alloc hWDs _))⟩,rfl,⟨_,rfl,IsExT.below ⟨ge0,ht1⟩ (hWD.alloc hWDs _)⟩,trivial⟩) hcan'.out (by simp [lenMax]) hlen'.out hj'.out).mono ?_
 rintro e w2 ⟨rfl,hB2⟩
 go_wp2_with fail
 go_ret
 exact ⟨rfl,hbD.trans (hB2.mono (by have:=hbD.size;omega))⟩
set_option maxHeartbeats 4000000 in
set_option maxRecDepth 100000 in
theorem text_k9 {k:Int} {s:Str} {n:Int} {l:List Str} {ks:List Ex} (ih:∀ e ∈ ks,OkT e→(textE e).length≤1099511627775→TextC e) (hok:okB k l ks) (hko:∀ e ∈ ks,OkT e) (hlen:(textE (.mk k s n l ks)).length≤1099511627775) (h9:k=9):TextC (.mk k s n l ks):=by
 intro v w hv
 obtain ⟨hv1,ht⟩:=hv
 obtain ⟨a1,c1,a2,c2,rfl,_,hn,hs,hls,hks,hl,hr⟩:=hv1.open
 unfold lenMax at hs hls hks
 have hb0:Below w.heap.size w (w.alloc (.cells #[.int .i64 k,.string s,.int .i64 n,.slice a1 l.length c1,.slice a2 ks.length c2] 27)):=(Below.refl _ _).alloc (Nat.le_refl _) _
 obtain ⟨k0,k1,k2,k3,k4⟩:=box5 (w:=w) (v0:=.int .i64 k) (v1:=.string s) (v2:=.int .i64 n) (v3:=.slice a1 l.length c1) (v4:=.slice a2 ks.length c2) (t:=27) (Below.refl _ _)
 have hr1:=hr.keeps (Keeps.of_below hb0)
 have hl1:=hl.keeps (Keeps.of_below hb0)
 have ht1:=ht.below hb0
 have hwz:w.heap.size < (w.alloc (.cells #[.int .i64 k,.string s,.int .i64 n,.slice a1 l.length c1,.slice a2 ks.length c2] 27)).heap.size:=by simp
 have hcap:=hv1.caps
 clear hv1 hr hl ht
 go_enter Tryz.func60,Tryz.ntmps60
 subst h9
 have hm:=hok.2.2.2.2.2.1 rfl
 obtain ⟨b,off,rfl,hkid⟩:=hr1.kid (by rintro rfl;simp at hm)
 obtain ⟨x0,y0,z0,u0,g00,g01,g02,g03,g04,ge0⟩:=hkid 0 (by omega)
 obtain ⟨x1,y1,z1,u1,g10,g11,g12,g13,g14,ge1⟩:=hkid 1 (by omega)
 simp only [Nat.zero_mul,Nat.one_mul,Nat.add_zero,Nat.reduceMul,Nat.reduceAdd,Nat.add_assoc] at g00 g01 g02 g03 g04 g10 g11 g12 g13 g14
 have b0:0 < ks.length:=by omega
 have d0:(0:Int) < (ks.length:Int):=by omega
 have e0:=textL_get ks 0 (by omega)
 have b1:1 < ks.length:=by omega
 have d1:(1:Int) < (ks.length:Int):=by omega
 have e1:=textL_get ks 1 (by omega)
 have hj:joinSp (outs [.br ks[0],.str s,.br ks[1]])=textE (.mk 9 s n l ks):=by
  simp [outs,Pt.out,joinSp,textE,textBody,mkS,bs,atomE,e0,e1]
 have L0:(textE ks[0]).length≤1099511627775:=Nat.le_trans (text_le_atom _) (Nat.le_trans (mem_le (p:=mkS (atomE ks[0])) (l:=outs [.br ks[0],.str s,.br ks[1]]) (by simp [outs,Pt.out])) (by rw [hj];exact hlen))
 have C0:TextC ks[0]:=ih _ (List.getElem_mem _) (hko _ (List.getElem_mem _)) L0
 have L1:(textE ks[1]).length≤1099511627775:=Nat.le_trans (text_le_atom _) (Nat.le_trans (mem_le (p:=mkS (atomE ks[1])) (l:=outs [.br ks[0],.str s,.br ks[1]]) (by simp [outs,Pt.out])) (by rw [hj];exact hlen))
 have C1:TextC ks[1]:=ih _ (List.getElem_mem _) (hko _ (List.getElem_mem _)) L1
 have hcan:∀ p ∈ ([.br ks[0],.str s,.br ks[1]]:List Pt),p.can:=by
  intro p hp
  simp only [List.mem_cons,List.not_mem_nil,or_false] at hp
  rcases hp with rfl | rfl | rfl
  ·
   exact ⟨C0,by omega⟩
  ·
   trivial
  ·
   exact ⟨C1,by omega⟩
 have hcap1:=hcap.1
 have hj':=Lib.hid hj
 have hlen':=Lib.hid hlen
 have hcan':=Lib.hid hcan
 clear hj hlen hcan ih hko hkid
 go_wp2_with fail
 generalize w.alloc (.cells #[.int .i64 9,.string s,.int .i64 n,.slice a1 l.length c1,.slice (some ⟨b,off,none⟩) ks.length c2] 27)=W at *
 refine wp_region_still_tail 15 (by kernel_rfl) (by kernel_rfl) ?_
 simp only [List.take_succ_cons,List.take_zero,List.drop_succ_cons,List.drop_zero]
 change wpStill _ _ W.drew _ _ _
 iterate 15 still_step
 refine wpStill_nil ?_
 change wpList _ _ _ _ _ W.drew
 have hWD:Below W.heap.size W W.drew:=(Below.refl _ W).drew
 have hbD:Below w.heap.size w W.drew:=hb0.drew
 have hWDs:W.heap.size≤W.drew.heap.size:=hWD.size
 generalize W.drew=D at hWD hbD hWDs ⊢
 go_wp2_with fail
 refine (print_of_new (textE (.mk 9 s n l ks)) [.br ks[0],.str s,.br ks[1]] [.iface 173 (.agg #[.int .i64 ks[0].kind,.string ks[0].name,.int .i64 ks[0].num,.slice x0 ks[0].names.length y0,.slice z0 ks[0].kids.length u0]),.iface 9 (.string s),.iface 173 (.agg #[.int .i64 ks[1].kind,.string ks[1].name,.int .i64 ks[1].num,.slice x1 ks[1].names.length y1,.slice z1 ks[1].kids.length u1])] 20 D 3 rfl (by exact ⟨⟨_,rfl,IsExT.below ⟨ge0,ht1⟩ (hWD.alloc hWDs _)⟩,rfl,⟨_,rfl,IsExT.below ⟨ge1,ht1⟩ (hWD.alloc hWDs _)⟩,trivial⟩) hcan'.out (by simp [lenMax]) hlen'.out hj'.out).mono ?_
 rintro e w2 ⟨rfl,hB2⟩
 go_wp2_with fail
 go_ret
 exact ⟨rfl,hbD.trans (hB2.mono (by have:=hbD.size;omega))⟩
end Go.Proofs.YtinjocchommbdaaGreatDoor
namespace Go.Proofs.YtinjocchommbdaaGreatDoor
open Go.RowKit
set_option maxHeartbeats 4000000 in
set_option maxRecDepth 100000 in
theorem text_k10 {k:Int} {s:Str} {n:Int} {l:List Str} {ks:List Ex} (ih:∀ e ∈ ks,OkT e→(textE e).length≤1099511627775→TextC e) (hok:okB k l ks) (hko:∀ e ∈ ks,OkT e) (hlen:(textE (.mk k s n l ks)).length≤1099511627775) (h10:k=10):TextC (.mk k s n l ks):=by
 intro v w hv
 obtain ⟨hv1,ht⟩:=hv
 obtain ⟨a1,c1,a2,c2,rfl,_,hn,hs,hls,hks,hl,hr⟩:=hv1.open
 unfold lenMax at hs hls hks
 have hb0:Below w.heap.size w (w.alloc (.cells #[.int .i64 k,.string s,.int .i64 n,.slice a1 l.length c1,.slice a2 ks.length c2] 27)):=(Below.refl _ _).alloc (Nat.le_refl _) _
 obtain ⟨k0,k1,k2,k3,k4⟩:=box5 (w:=w) (v0:=.int .i64 k) (v1:=.string s) (v2:=.int .i64 n) (v3:=.slice a1 l.length c1) (v4:=.slice a2 ks.length c2) (t:=27) (Below.refl _ _)
 have hr1:=hr.keeps (Keeps.of_below hb0)
 have hl1:=hl.keeps (Keeps.of_below hb0)
 have ht1:=ht.below hb0
 have hwz:w.heap.size < (w.alloc (.cells #[.int .i64 k,.string s,.int .i64 n,.slice a1 l.length c1,.slice a2 ks.length c2] 27)).heap.size:=by simp
 have hcap:=hv1.caps
 clear hv1 hr hl ht
 go_enter Tryz.func60,Tryz.ntmps60
 subst h10
 have hm:=hok.2.2.2.2.2.2.1 rfl
 obtain ⟨b,off,rfl,hkid⟩:=hr1.kid (by rintro rfl;simp at hm)
 obtain ⟨x0,y0,z0,u0,g00,g01,g02,g03,g04,ge0⟩:=hkid 0 (by omega)
 obtain ⟨x1,y1,z1,u1,g10,g11,g12,g13,g14,ge1⟩:=hkid 1 (by omega)
 obtain ⟨x2,y2,z2,u2,g20,g21,g22,g23,g24,ge2⟩:=hkid 2 (by omega)
 simp only [Nat.zero_mul,Nat.one_mul,Nat.add_zero,Nat.reduceMul,Nat.reduceAdd,Nat.add_assoc] at g00 g01 g02 g03 g04 g10 g11 g12 g13 g14 g20 g21 g22 g23 g24
 have b0:0 < ks.length:=by omega
 have d0:(0:Int) < (ks.length:Int):=by omega
 have e0:=textL_get ks 0 (by omega)
 have b1:1 < ks.length:=by omega
 have d1:(1:Int) < (ks.length:Int):=by omega
 have e1:=textL_get ks 1 (by omega)
 have b2:2 < ks.length:=by omega
 have d2:(2:Int) < (ks.length:Int):=by omega
 have e2:=textL_get ks 2 (by omega)
 have hj:joinSp (outs [.str ⟨#[105,102]⟩,.ex ks[0],.str ⟨#[116,104,101,110]⟩,.ex ks[1],.str ⟨#[101,108,115,101]⟩,.ex ks[2]])=textE (.mk 10 s n l ks):=by
  simp [outs,Pt.out,joinSp,textE,textBody,mkS,bs,atomE,e0,e1,e2]
 have L0:(textE ks[0]).length≤1099511627775:=(Nat.le_trans (mem_le (p:=mkS (textE ks[0])) (l:=outs [.str ⟨#[105,102]⟩,.ex ks[0],.str ⟨#[116,104,101,110]⟩,.ex ks[1],.str ⟨#[101,108,115,101]⟩,.ex ks[2]]) (by simp [outs,Pt.out])) (by rw [hj];exact hlen))
 have C0:TextC ks[0]:=ih _ (List.getElem_mem _) (hko _ (List.getElem_mem _)) L0
 have L1:(textE ks[1]).length≤1099511627775:=(Nat.le_trans (mem_le (p:=mkS (textE ks[1])) (l:=outs [.str ⟨#[105,102]⟩,.ex ks[0],.str ⟨#[116,104,101,110]⟩,.ex ks[1],.str ⟨#[101,108,115,101]⟩,.ex ks[2]]) (by simp [outs,Pt.out])) (by rw [hj];exact hlen))
 have C1:TextC ks[1]:=ih _ (List.getElem_mem _) (hko _ (List.getElem_mem _)) L1
 have L2:(textE ks[2]).length≤1099511627775:=(Nat.le_trans (mem_le (p:=mkS (textE ks[2])) (l:=outs [.str ⟨#[105,102]⟩,.ex ks[0],.str ⟨#[116,104,101,110]⟩,.ex ks[1],.str ⟨#[101,108,115,101]⟩,.ex ks[2]]) (by simp [outs,Pt.out])) (by rw [hj];exact hlen))
 have C2:TextC ks[2]:=ih _ (List.getElem_mem _) (hko _ (List.getElem_mem _)) L2
 have hcan:∀ p ∈ ([.str ⟨#[105,102]⟩,.ex ks[0],.str ⟨#[116,104,101,110]⟩,.ex ks[1],.str ⟨#[101,108,115,101]⟩,.ex ks[2]]:List Pt),p.can:=by
  intro p hp
  simp only [List.mem_cons,List.not_mem_nil,or_false] at hp
  rcases hp with rfl | rfl | rfl | rfl | rfl | rfl
  ·
   trivial
  ·
   exact C0
  ·
   trivial
  ·
   exact C1
  ·
   trivial
  ·
   exact C2
 have hcap1:=hcap.1
 have hj':=Lib.hid hj
 have hlen':=Lib.hid hlen
 have hcan':=Lib.hid hcan
 clear hj hlen hcan ih hko hkid
 go_wp2_with fail
 generalize w.alloc (.cells #[.int .i64 10,.string s,.int .i64 n,.slice a1 l.length c1,.slice (some ⟨b,off,none⟩) ks.length c2] 27)=W at *
 refine wp_region_still_tail 18 (by kernel_rfl) (by kernel_rfl) ?_
 simp only [List.take_succ_cons,List.take_zero,List.drop_succ_cons,List.drop_zero]
 change wpStill _ _ W.drew _ _ _
 iterate 18 still_step
 refine wpStill_nil ?_
 change wpList _ _ _ _ _ W.drew
 have hWD:Below W.heap.size W W.drew:=(Below.refl _ W).drew
 have hbD:Below w.heap.size w W.drew:=hb0.drew
 have hWDs:W.heap.size≤W.drew.heap.size:=hWD.size
 generalize W.drew=D at hWD hbD hWDs ⊢
 go_wp2_with fail
 refine (print_of_new (textE (.mk 10 s n l ks)) [.str ⟨#[105,102]⟩,.ex ks[0],.str ⟨#[116,104,101,110]⟩,.ex ks[1],.str ⟨#[101,108,115,101]⟩,.ex ks[2]] [.iface 9 (.string ⟨#[105,102]⟩),.iface 27 (.agg #[.int .i64 ks[0].kind,.string ks[0].name,.int .i64 ks[0].num,.slice x0 ks[0].names.length y0,.slice z0 ks[0].kids.length u0]),.iface 9 (.string ⟨#[116,104,101,110]⟩),.iface 27 (.agg #[.int .i64 ks[1].kind,.string ks[1].name,.int .i64 ks[1].num,.slice x1 ks[1].names.length y1,.slice z1 ks[1].kids.length u1]),.iface 9 (.string ⟨#[101,108,115,101]⟩),.iface 27 (.agg #[.int .i64 ks[2].kind,.string ks[2].name,.int .i64 ks[2].num,.slice x2 ks[2].names.length y2,.slice z2 ks[2].kids.length u2])] 20 D 6 rfl (by exact ⟨rfl,⟨_,rfl,IsExT.below ⟨ge0,ht1⟩ (hWD.alloc hWDs _)⟩,rfl,⟨_,rfl,IsExT.below ⟨ge1,ht1⟩ (hWD.alloc hWDs _)⟩,rfl,⟨_,rfl,IsExT.below ⟨ge2,ht1⟩ (hWD.alloc hWDs _)⟩,trivial⟩) hcan'.out (by simp [lenMax]) hlen'.out hj'.out).mono ?_
 rintro e w2 ⟨rfl,hB2⟩
 go_wp2_with fail
 go_ret
 exact ⟨rfl,hbD.trans (hB2.mono (by have:=hbD.size;omega))⟩
end Go.Proofs.YtinjocchommbdaaGreatDoor
namespace Go.Proofs.YtinjocchommbdaaGreatDoor
open Go.RowKit
set_option maxHeartbeats 4000000 in
set_option maxRecDepth 100000 in
theorem text_k13 {k:Int} {s:Str} {n:Int} {l:List Str} {ks:List Ex} (ih:∀ e ∈ ks,OkT e→(textE e).length≤1099511627775→TextC e) (hok:okB k l ks) (hko:∀ e ∈ ks,OkT e) (hlen:(textE (.mk k s n l ks)).length≤1099511627775) (h13:k=13):TextC (.mk k s n l ks):=by
 intro v w hv
 obtain ⟨hv1,ht⟩:=hv
 obtain ⟨a1,c1,a2,c2,rfl,_,hn,hs,hls,hks,hl,hr⟩:=hv1.open
 unfold lenMax at hs hls hks
 have hb0:Below w.heap.size w (w.alloc (.cells #[.int .i64 k,.string s,.int .i64 n,.slice a1 l.length c1,.slice a2 ks.length c2] 27)):=(Below.refl _ _).alloc (Nat.le_refl _) _
 obtain ⟨k0,k1,k2,k3,k4⟩:=box5 (w:=w) (v0:=.int .i64 k) (v1:=.string s) (v2:=.int .i64 n) (v3:=.slice a1 l.length c1) (v4:=.slice a2 ks.length c2) (t:=27) (Below.refl _ _)
 have hr1:=hr.keeps (Keeps.of_below hb0)
 have hl1:=hl.keeps (Keeps.of_below hb0)
 have ht1:=ht.below hb0
 have hwz:w.heap.size < (w.alloc (.cells #[.int .i64 k,.string s,.int .i64 n,.slice a1 l.length c1,.slice a2 ks.length c2] 27)).heap.size:=by simp
 have hcap:=hv1.caps
 clear hv1 hr hl ht
 go_enter Tryz.func60,Tryz.ntmps60
 subst h13
 have hm:=hok.2.2.2.2.2.2.2 rfl
 obtain ⟨b,off,rfl,hkid⟩:=hr1.kid (by rintro rfl;simp at hm)
 obtain ⟨x0,y0,z0,u0,g00,g01,g02,g03,g04,ge0⟩:=hkid 0 (by omega)
 simp only [Nat.zero_mul,Nat.one_mul,Nat.add_zero,Nat.reduceMul,Nat.reduceAdd,Nat.add_assoc] at g00 g01 g02 g03 g04
 have b0:0 < ks.length:=by omega
 have d0:(0:Int) < (ks.length:Int):=by omega
 have e0:=textL_get ks 0 (by omega)
 have hj:joinSp (outs [.strs l,.str ⟨#[60,45]⟩,.ex ks[0]])=textE (.mk 13 s n l ks):=by
  simp [outs,Pt.out,joinSp,textE,textBody,mkS,bs_fun,atomE,e0]
 have L0:(textE ks[0]).length≤1099511627775:=(Nat.le_trans (mem_le (p:=mkS (textE ks[0])) (l:=outs [.strs l,.str ⟨#[60,45]⟩,.ex ks[0]]) (by simp [outs,Pt.out])) (by rw [hj];exact hlen))
 have C0:TextC ks[0]:=ih _ (List.getElem_mem _) (hko _ (List.getElem_mem _)) L0
 have hcan:∀ p ∈ ([.strs l,.str ⟨#[60,45]⟩,.ex ks[0]]:List Pt),p.can:=by
  intro p hp
  simp only [List.mem_cons,List.not_mem_nil,or_false] at hp
  rcases hp with rfl | rfl | rfl
  ·
   trivial
  ·
   trivial
  ·
   exact C0
 have hcap1:=hcap.1
 have hj':=Lib.hid hj
 have hlen':=Lib.hid hlen
 have hcan':=Lib.hid hcan
 clear hj hlen hcan ih hko hkid
 go_wp2_with fail
 generalize w.alloc (.cells #[.int .i64 13,.string s,.int .i64 n,.slice a1 l.length c1,.slice (some ⟨b,off,none⟩) ks.length c2] 27)=W at *
 refine wp_region_still_tail 9 (by kernel_rfl) (by kernel_rfl) ?_
 simp only [List.take_succ_cons,List.take_zero,List.drop_succ_cons,List.drop_zero]
 change wpStill _ _ W.drew _ _ _
 iterate 9 still_step
 refine wpStill_nil ?_
 change wpList _ _ _ _ _ W.drew
 have hWD:Below W.heap.size W W.drew:=(Below.refl _ W).drew
 have hbD:Below w.heap.size w W.drew:=hb0.drew
 have hWDs:W.heap.size≤W.drew.heap.size:=hWD.size
 generalize W.drew=D at hWD hbD hWDs ⊢
 go_wp2_with fail
 refine (print_of_new (textE (.mk 13 s n l ks)) [.strs l,.str ⟨#[60,45]⟩,.ex ks[0]] [.iface 24 (.slice a1 l.length c1),.iface 9 (.string ⟨#[60,45]⟩),.iface 27 (.agg #[.int .i64 ks[0].kind,.string ks[0].name,.int .i64 ks[0].num,.slice x0 ks[0].names.length y0,.slice z0 ks[0].kids.length u0])] 20 D 3 rfl (by exact ⟨⟨_,_,rfl,hcap1,hls,hl1.keeps (Keeps.of_below (hWD.alloc hWDs _))⟩,rfl,⟨_,rfl,IsExT.below ⟨ge0,ht1⟩ (hWD.alloc hWDs _)⟩,trivial⟩) hcan'.out (by simp [lenMax]) hlen'.out hj'.out).mono ?_
 rintro e w2 ⟨rfl,hB2⟩
 go_wp2_with fail
 go_ret
 exact ⟨rfl,hbD.trans (hB2.mono (by have:=hbD.size;omega))⟩
set_option maxHeartbeats 4000000 in
set_option maxRecDepth 100000 in
theorem text_k11 {k:Int} {s:Str} {n:Int} {l:List Str} {ks:List Ex} (ih:∀ e ∈ ks,OkT e→(textE e).length≤1099511627775→TextC e) (hok:okB k l ks) (hko:∀ e ∈ ks,OkT e) (hlen:(textE (.mk k s n l ks)).length≤1099511627775) (h11:k=11):TextC (.mk k s n l ks):=by
 intro v w hv
 obtain ⟨hv1,ht⟩:=hv
 obtain ⟨a1,c1,a2,c2,rfl,_,hn,hs,hls,hks,hl,hr⟩:=hv1.open
 unfold lenMax at hs hls hks
 have hb0:Below w.heap.size w (w.alloc (.cells #[.int .i64 k,.string s,.int .i64 n,.slice a1 l.length c1,.slice a2 ks.length c2] 27)):=(Below.refl _ _).alloc (Nat.le_refl _) _
 obtain ⟨k0,k1,k2,k3,k4⟩:=box5 (w:=w) (v0:=.int .i64 k) (v1:=.string s) (v2:=.int .i64 n) (v3:=.slice a1 l.length c1) (v4:=.slice a2 ks.length c2) (t:=27) (Below.refl _ _)
 have hr1:=hr.keeps (Keeps.of_below hb0)
 have hl1:=hl.keeps (Keeps.of_below hb0)
 have ht1:=ht.below hb0
 have hwz:w.heap.size < (w.alloc (.cells #[.int .i64 k,.string s,.int .i64 n,.slice a1 l.length c1,.slice a2 ks.length c2] 27)).heap.size:=by simp
 have hcap:=hv1.caps
 clear hv1 hr hl ht
 go_enter Tryz.func60,Tryz.ntmps60
 subst h11
 obtain ⟨LT,hLT⟩:∃ LT,listT (ks.map fun e=>(e.kind,textE e))=LT:=⟨_,rfl⟩
 have hj:joinSp (outs [.str ⟨#[100,111]⟩,.str (mkS LT)])=textE (.mk 11 s n l ks):=by
  rw [←hLT]
  simp [outs,Pt.out,joinSp,textE,textBody,mkS,textL_map]
 have hL:LT.length≤1099511627775:=Nat.le_trans (mem_le (p:=mkS LT) (l:=outs [.str ⟨#[100,111]⟩,.str (mkS LT)]) (by simp [outs,Pt.out])) (by rw [hj];exact hlen)
 have hC:∀ e ∈ ks,TextC e:=fun e he=>ih e he (hko e he) (Nat.le_trans (join_mem_le (ks.map textE) [32,59,32] (List.mem_map.2 ⟨e,he,rfl⟩)) (text_le_list (by rw [hLT];exact hL)))
 have hcan:∀ p ∈ ([.str ⟨#[100,111]⟩,.str (mkS LT)]:List Pt),p.can:=by
  intro p hp
  simp only [List.mem_cons,List.not_mem_nil,or_false] at hp
  rcases hp with rfl | rfl <;> trivial
 have hcall:=Lib.hid (print_list ks a2 c2 _ hC hr1 ht1 (by rw [hLT];exact hL))
 rw [hLT] at hcall
 clear hLT
 have hj':=Lib.hid hj
 have hlen':=Lib.hid hlen
 have hcan':=Lib.hid hcan
 clear hj hlen hcan ih hko hC hL
 go_wp2_with fail
 refine hcall.out.mono ?_
 rintro e w1 ⟨rfl,hB1⟩
 have hbD:=hb0.trans (hB1.mono (Nat.le_of_lt hwz))
 clear hB1 hcall
 go_wp2_with fail
 refine (print_of_new (textE (.mk 11 s n l ks)) [.str ⟨#[100,111]⟩,.str (mkS LT)] [.iface 9 (.string ⟨#[100,111]⟩),.iface 9 (.string (mkS LT))] 20 w1 2 rfl (by exact ⟨rfl,rfl,trivial⟩) hcan'.out (by simp [lenMax]) hlen'.out hj'.out).mono ?_
 rintro e w2 ⟨rfl,hB2⟩
 go_wp2_with fail
 go_ret
 exact ⟨rfl,hbD.trans (hB2.mono (by have:=hbD.size;omega))⟩
set_option maxHeartbeats 4000000 in
set_option maxRecDepth 100000 in
theorem text_k12 {k:Int} {s:Str} {n:Int} {l:List Str} {ks:List Ex} (ih:∀ e ∈ ks,OkT e→(textE e).length≤1099511627775→TextC e) (hok:okB k l ks) (hko:∀ e ∈ ks,OkT e) (hlen:(textE (.mk k s n l ks)).length≤1099511627775) (h12:k=12):TextC (.mk k s n l ks):=by
 intro v w hv
 obtain ⟨hv1,ht⟩:=hv
 obtain ⟨a1,c1,a2,c2,rfl,_,hn,hs,hls,hks,hl,hr⟩:=hv1.open
 unfold lenMax at hs hls hks
 have hb0:Below w.heap.size w (w.alloc (.cells #[.int .i64 k,.string s,.int .i64 n,.slice a1 l.length c1,.slice a2 ks.length c2] 27)):=(Below.refl _ _).alloc (Nat.le_refl _) _
 obtain ⟨k0,k1,k2,k3,k4⟩:=box5 (w:=w) (v0:=.int .i64 k) (v1:=.string s) (v2:=.int .i64 n) (v3:=.slice a1 l.length c1) (v4:=.slice a2 ks.length c2) (t:=27) (Below.refl _ _)
 have hr1:=hr.keeps (Keeps.of_below hb0)
 have hl1:=hl.keeps (Keeps.of_below hb0)
 have ht1:=ht.below hb0
 have hwz:w.heap.size < (w.alloc (.cells #[.int .i64 k,.string s,.int .i64 n,.slice a1 l.length c1,.slice a2 ks.length c2] 27)).heap.size:=by simp
 have hcap:=hv1.caps
 clear hv1 hr hl ht
 go_enter Tryz.func60,Tryz.ntmps60
 subst h12
 obtain ⟨LT,hLT⟩:∃ LT,listT (ks.map fun e=>(e.kind,textE e))=LT:=⟨_,rfl⟩
 have hj:joinSp (outs [.str ⟨#[100,111,115]⟩,.str (mkS LT)])=textE (.mk 12 s n l ks):=by
  rw [←hLT]
  simp [outs,Pt.out,joinSp,textE,textBody,mkS,textL_map]
 have hL:LT.length≤1099511627775:=Nat.le_trans (mem_le (p:=mkS LT) (l:=outs [.str ⟨#[100,111,115]⟩,.str (mkS LT)]) (by simp [outs,Pt.out])) (by rw [hj];exact hlen)
 have hC:∀ e ∈ ks,TextC e:=fun e he=>ih e he (hko e he) (Nat.le_trans (join_mem_le (ks.map textE) [32,59,32] (List.mem_map.2 ⟨e,he,rfl⟩)) (text_le_list (by rw [hLT];exact hL)))
 have hcan:∀ p ∈ ([.str ⟨#[100,111,115]⟩,.str (mkS LT)]:List Pt),p.can:=by
  intro p hp
  simp only [List.mem_cons,List.not_mem_nil,or_false] at hp
  rcases hp with rfl | rfl <;> trivial
 have hcall:=Lib.hid (print_list ks a2 c2 _ hC hr1 ht1 (by rw [hLT];exact hL))
 rw [hLT] at hcall
 clear hLT
 have hj':=Lib.hid hj
 have hlen':=Lib.hid hlen
 have hcan':=Lib.hid hcan
 clear hj hlen hcan ih hko hC hL
 go_wp2_with fail
 refine hcall.out.mono ?_
 rintro e w1 ⟨rfl,hB1⟩
 have hbD:=hb0.trans (hB1.mono (Nat.le_of_lt hwz))
 clear hB1 hcall
 go_wp2_with fail
 refine (print_of_new (textE (.mk 12 s n l ks)) [.str ⟨#[100,111,115]⟩,.str (mkS LT)] [.iface 9 (.string ⟨#[100,111,115]⟩),.iface 9 (.string (mkS LT))] 20 w1 2 rfl (by exact ⟨rfl,rfl,trivial⟩) hcan'.out (by simp [lenMax]) hlen'.out hj'.out).mono ?_
 rintro e w2 ⟨rfl,hB2⟩
 go_wp2_with fail
 go_ret
 exact ⟨rfl,hbD.trans (hB2.mono (by have:=hbD.size;omega))⟩
set_option maxHeartbeats 4000000 in
set_option maxRecDepth 100000 in
theorem text_k1 {k:Int} {s:Str} {n:Int} {l:List Str} {ks:List Ex} (ih:∀ e ∈ ks,OkT e→(textE e).length≤1099511627775→TextC e) (hok:okB k l ks) (hko:∀ e ∈ ks,OkT e) (hlen:(textE (.mk k s n l ks)).length≤1099511627775) (h1:k=1):TextC (.mk k s n l ks):=by
 intro v w hv
 obtain ⟨hv1,ht⟩:=hv
 obtain ⟨a1,c1,a2,c2,rfl,_,hn,hs,hls,hks,hl,hr⟩:=hv1.open
 unfold lenMax at hs hls hks
 have hb0:Below w.heap.size w (w.alloc (.cells #[.int .i64 k,.string s,.int .i64 n,.slice a1 l.length c1,.slice a2 ks.length c2] 27)):=(Below.refl _ _).alloc (Nat.le_refl _) _
 obtain ⟨k0,k1,k2,k3,k4⟩:=box5 (w:=w) (v0:=.int .i64 k) (v1:=.string s) (v2:=.int .i64 n) (v3:=.slice a1 l.length c1) (v4:=.slice a2 ks.length c2) (t:=27) (Below.refl _ _)
 have hr1:=hr.keeps (Keeps.of_below hb0)
 have hl1:=hl.keeps (Keeps.of_below hb0)
 have ht1:=ht.below hb0
 have hwz:w.heap.size < (w.alloc (.cells #[.int .i64 k,.string s,.int .i64 n,.slice a1 l.length c1,.slice a2 ks.length c2] 27)).heap.size:=by simp
 have hcap:=hv1.caps
 clear hv1 hr hl ht
 go_enter Tryz.func60,Tryz.ntmps60
 subst h1
 go_wp2_with fail
 refine (Tryz.strconv_Itoa n hn.1 hn.2 _ ht1).mono ?_
 rintro e w1 ⟨rfl,d,os,rfl⟩
 go_wp2_with fail
 go_ret
 exact ⟨ret_str (by simp [textE,textBody,mkS]),hb0.trans (Lib.below_grow _ _ (by simp) _ _)⟩
end Go.Proofs.YtinjocchommbdaaGreatDoor
namespace Go.Proofs.YtinjocchommbdaaGreatDoor
open Go.RowKit
set_option maxHeartbeats 4000000 in
set_option maxRecDepth 100000 in
theorem text_k0 {k:Int} {s:Str} {n:Int} {l:List Str} {ks:List Ex} (ih:∀ e ∈ ks,OkT e→(textE e).length≤1099511627775→TextC e) (hok:okB k l ks) (hko:∀ e ∈ ks,OkT e) (hlen:(textE (.mk k s n l ks)).length≤1099511627775) (h1:¬ k=1) (h4:¬ k=4) (h5:¬ k=5) (h6:¬ k=6) (h7:¬ k=7) (h8:¬ k=8) (h9:¬ k=9) (h10:¬ k=10) (h11:¬ k=11) (h12:¬ k=12) (h13:¬ k=13):TextC (.mk k s n l ks):=by
 intro v w hv
 obtain ⟨hv1,ht⟩:=hv
 obtain ⟨a1,c1,a2,c2,rfl,_,hn,hs,hls,hks,hl,hr⟩:=hv1.open
 unfold lenMax at hs hls hks
 have hb0:Below w.heap.size w (w.alloc (.cells #[.int .i64 k,.string s,.int .i64 n,.slice a1 l.length c1,.slice a2 ks.length c2] 27)):=(Below.refl _ _).alloc (Nat.le_refl _) _
 obtain ⟨k0,k1,k2,k3,k4⟩:=box5 (w:=w) (v0:=.int .i64 k) (v1:=.string s) (v2:=.int .i64 n) (v3:=.slice a1 l.length c1) (v4:=.slice a2 ks.length c2) (t:=27) (Below.refl _ _)
 have hr1:=hr.keeps (Keeps.of_below hb0)
 have hl1:=hl.keeps (Keeps.of_below hb0)
 have ht1:=ht.below hb0
 have hwz:w.heap.size < (w.alloc (.cells #[.int .i64 k,.string s,.int .i64 n,.slice a1 l.length c1,.slice a2 ks.length c2] 27)).heap.size:=by simp
 have hcap:=hv1.caps
 clear hv1 hr hl ht
 go_enter Tryz.func60,Tryz.ntmps60
 have ht:textE (.mk k s n l ks)=bs s:=by simp [textE,textBody,h1,h4,h5,h6,h7,h8,h9,h10,h11,h12,h13]
 have ht':=Lib.hid ht
 have q1:(k == 1)=false:=by simp [h1]
 have q4:(k == 4)=false:=by simp [h4]
 have q5:(k == 5)=false:=by simp [h5]
 have q6:(k == 6)=false:=by simp [h6]
 have q7:(k == 7)=false:=by simp [h7]
 have q8:(k == 8)=false:=by simp [h8]
 have q9:(k == 9)=false:=by simp [h9]
 have q10:(k == 10)=false:=by simp [h10]
 have q11:(k == 11)=false:=by simp [h11]
 have q12:(k == 12)=false:=by simp [h12]
 have q13:(k == 13)=false:=by simp [h13]
 clear ht hlen ih hko hok
 go_wp2_with fail
 go_ret
 exact ⟨by rw [ht'.out];rfl,hb0⟩
theorem text_c:∀ e:Ex,OkT e→(textE e).length≤1099511627775→TextC e:=by
 refine Ex.ind fun k s n l ks ih hok hlen=>?_
 cases hok with
 | mk hok hko =>
 by_cases h1:k=1
 ·
  exact text_k1 ih hok hko hlen h1
 by_cases h4:k=4
 ·
  exact text_k4 ih hok hko hlen h4
 by_cases h5:k=5
 ·
  exact text_k5 ih hok hko hlen h5
 by_cases h6:k=6
 ·
  exact text_k6 ih hok hko hlen h6
 by_cases h7:k=7
 ·
  exact text_k7 ih hok hko hlen h7
 by_cases h8:k=8
 ·
  exact text_k8 ih hok hko hlen h8
 by_cases h9:k=9
 ·
  exact text_k9 ih hok hko hlen h9
 by_cases h10:k=10
 ·
  exact text_k10 ih hok hko hlen h10
 by_cases h11:k=11
 ·
  exact text_k11 ih hok hko hlen h11
 by_cases h12:k=12
 ·
  exact text_k12 ih hok hko hlen h12
 by_cases h13:k=13
 ·
  exact text_k13 ih hok hko hlen h13
 exact text_k0 ih hok hko hlen h1 h4 h5 h6 h7 h8 h9 h10 h11 h12 h13
end Go.Proofs.YtinjocchommbdaaGreatDoor
