/- A part of the proof that parser laws hold: texts of the walk and of its plain laws, made small. -/
import Derived.Test.YtinjocchommbdaaGreatDoorM24
import Derived.Test.YtinjocchommbdaaGreatDoorM06
set_option linter.unusedVariables false
set_option linter.unusedSimpArgs false
namespace Go.Proofs.YtinjocchommbdaaGreatDoor
open Go.RowKit
theorem pg_agg {w:World} {v:Value} {p:Pg} (h:IsPg w v p):∃ a1 m1 c1 a2 m2 c2,v=.agg #[.slice a1 m1 c1,.slice a2 m2 c2]:=by
 obtain ⟨ds,fs⟩:=p
 obtain ⟨a1,c1,a2,c2,rfl,_⟩:=h
 exact ⟨_,_,_,_,_,_,rfl⟩
structure AllS (rb:Nat) (a:Option Addr) (c:Nat) (l:List Tk) (f:Nat):Prop where
 sig:RuleS 205 rb a c l f .sig
 atom:RuleS 186 rb a c l f .atom
 atoms:RuleA 148 rb a c l f
theorem alls6 (rb:Nat) (a:Option Addr) (c:Nat) (l:List Tk):∀ f,AllS rb a c l f
 | 0=>⟨.zero,.zero,fun _ _ _ _ h=>(by cases h)⟩
 | f + 1=>by
  have h:=alls6 rb a c l f
  exact ⟨par_sig h.sig h.atom h.atoms,par_sigatom h.sig,par_atoms h.atom⟩
theorem results_pP {fn:Func} {t u s:Tmp} (h:fn.results=#[.cell t 38,.cell u 29,.tmp s]) (tmps:Array Value) (w:World) {b d:Nat} {x0 x1 y0 y1 z:Value} (ha:tmps.getD t undef=.pointer (some ⟨b,0,none⟩)) (hu:tmps.getD u undef=.pointer (some ⟨d,0,none⟩)) (hs:tmps.getD s undef=z)
  (hc:Blk w b (.cells #[x0,x1] 38 (0,0))) (hd:Blk w d (.cells #[y0,y1] 29 (0,0))):(results fn tmps).run Tryz.prog w=.ok (.tuple #[.agg #[x0,x1],.agg #[y0,y1],z]) w:=by
 have h0:=hc.cl 0
 have h1:=hc.cl 1
 have g0:=hd.cl 0
 have g1:=hd.cl 1
 have e2:=Tryz.isAgg38
 have e3:=Tryz.sizeOf38
 have e4:=Tryz.isAgg29
 have e5:=Tryz.sizeOf29
 have ha':tmps[t]?.getD undef=.pointer (some ⟨b,0,none⟩):=by simpa using ha
 have hu':tmps[u]?.getD undef=.pointer (some ⟨d,0,none⟩):=by simpa using hu
 have hs':tmps[s]?.getD undef=z:=by simpa using hs
 simp [results,h,ha',hu',hs',asAddr,loadVar,e2,e4,loadCells,loadCellsFrom,Result.andThen,h0,h1,g0,g1,Addr.add,load,Sem.run]
set_option maxHeartbeats 4000000 in
set_option maxRecDepth 100000 in
theorem par_cloP (l:List Tk) (x:Except Nat (Pg × Nat)) (V:World) (rb b5 b2:Nat) (a:Option Addr) (c:Nat)
  (hR:Rd V rb a c l 0) (h5:V.cell? ⟨b5,0,none⟩=some (.pointer (some ⟨rb,0,none⟩))) (h2:Blk V b2 (.cells #[.slice none 0 0,.slice none 0 0] 38 (0,0))) (hne:b2≠rb) (hlt:rb + 2 < V.heap.size) (hlt2:b2 + 2 < V.heap.size)
  (hE:∀ W:World,Rd W rb a c l 0→Calls Tryz.prog 36 #[.pointer (some ⟨rb,0,none⟩)] W fun e W'=>GnR PgL W rb a c l x e W') :
  Calls Tryz.prog 35 #[.pointer (some ⟨b5,0,none⟩),.pointer (some ⟨b2,0,none⟩)] V fun e W'=>WhQ rb a c l.length (fun p V W'=>x=.error p∧Bb V.heap.size rb V W') (fun j V W'=>∃ y a1 m1 c1 a2 m2 c2,x=.ok (y,j)∧j≤l.length∧Kb rb b2 V W'∧Blk W' b2 (.cells #[.slice a1 m1 c1,.slice a2 m2 c2] 38 (0,0))∧Lay V.heap.size W'.heap.size W' fun x=>IsPg x (.agg #[.slice a1 m1 c1,.slice a2 m2 c2]) y) V e W':=by
 have hcE:=Lib.hid (hE V hR)
 have hR':=Lib.hid hR
 have h2':=Lib.hid h2
 clear hE hR h2
 go_enter Tryz.func35,Tryz.ntmps35
 go_wp2_with fail
 refine hcE.out.mono ?_
 rintro e W' ⟨hB,hm⟩
 rcases x with p | ⟨y,j⟩
 case error =>
  obtain rfl:=hm
  refine ⟨rfl,hB.size,fun k hk=>hB.block k (by omega) (by omega),.inl ⟨p,rfl,rfl,hB⟩⟩
 obtain ⟨v,rfl,hL,hRd⟩:=hm
 obtain ⟨a1,m1,c1,a2,m2,c2,rfl⟩:=pg_agg hL.out
 have hb:Blk W' b2 (.cells #[.slice none 0 0,.slice none 0 0] 38 (0,0)):=h2'.out.bb hB hne
 have z0:W'.cell? ⟨b2,0,none⟩=some (.slice none 0 0):=(hb.cl 0).trans rfl
 have z1:W'.cell? ⟨b2,1,none⟩=some (.slice none 0 0):=(hb.cl 1).trans rfl
 have hf:=hb.fr
 have hl2:=hb.lt
 have hs:=(show Box2 W' 38 b2 (.slice none 0 0) (.slice none 0 0) from hb).set (.slice a1 m1 c1) (.slice a2 m2 c2)
 have hc2:=hRd.cells
 obtain ⟨Z,hZ⟩:∃ Z,(W'.setCell ⟨b2,0,none⟩ (.slice a1 m1 c1)).setCell ⟨b2,1,none⟩ (.slice a2 m2 c2)=Z:=⟨_,rfl⟩
 unfold World.set2 at hs
 rw [hZ] at hs
 have hfin:Hid (WhQ rb a c l.length (fun p V W'=>(Except.ok (y,j):Except Nat (Pg × Nat))=.error p∧Bb V.heap.size rb V W') (fun j2 V W'=>∃ y9 a1 m1 c1 a2 m2 c2,(Except.ok (y,j):Except Nat (Pg × Nat))=.ok (y9,j2)∧j2≤l.length∧Kb rb b2 V W'∧Blk W' b2 (.cells #[.slice a1 m1 c1,.slice a2 m2 c2] 38 (0,0))∧Lay V.heap.size W'.heap.size W' fun x=>IsPg x (.agg #[.slice a1 m1 c1,.slice a2 m2 c2]) y9) V (.returned (.tuple #[])) Z):=by
  have hk:∀ k,k < V.heap.size→k≠rb→k≠b2→Z.heap[k]?=V.heap[k]?:=fun k h0 h1 h2=>(hs.2.other k h2).trans (hB.block k h0 h1)
  have hz:V.heap.size≤Z.heap.size:=by rw [hs.2.size];exact hB.size
  have hr:Rd Z rb a c l j→Z.cell? ⟨rb,0,none⟩=some (.slice a l.length c)∧Z.cell? ⟨rb,1,none⟩=some (.int .i64 (j:Int)):=fun h=>⟨h.cells.1,h.cells.2.1⟩
  have hrb:Z.heap[rb]?=W'.heap[rb]?:=hs.2.other rb (fun e=>hne e.symm)
  refine ⟨hz,fun k hk2=>hk k (by omega) (by omega) (by omega),.inr ⟨j,rfl,⟨y,a1,m1,c1,a2,m2,c2,rfl,hRd.le,⟨hs.2.below.os.trans hB.os,hs.2.below.tape.trans hB.tape,hs.2.below.output.trans hB.output,hz,hk⟩,hs.1,?_⟩,(World.cell?_of_block hrb).trans hc2.1,(World.cell?_of_block hrb).trans hc2.2.1⟩⟩
  have:=Lay.own hL hs.2 (.inl (by omega))
  rw [hs.2.size]
  exact this
 clear hs hL hRd hB hb hc2
 go_wp2_with fail
 try rw [hZ]
 go_end0
 exact hfin.out
set_option maxHeartbeats 8000000 in
set_option maxRecDepth 100000 in
theorem par_doorP (chk:Pg→Bool) (hchk:∀ (y:Pg) (v:Value) (w:World),IsPg w v y→Calls Tryz.prog 37 #[v] w fun r w'=>r=.returned (.bool (chk y))∧Below w.heap.size w w') (W:World) (v:Value) (l:List Tk) (hv:TkSl W v l) (hl:l.length≤100000) (hfit:∀ t ∈ l,TkFit t):Calls Tryz.prog 14 #[v] W fun e W'=>ParR (progF l) chk pgZ (fun w v y=>Lay W.heap.size w.heap.size w fun x=>IsPg x v y) l e W'∧Below W.heap.size W W':=by
 have hmf:∀ (fn:Fn) (first cap:Array Value) (w:World),(Instr.makeFunc fn first cap).run Tryz.prog w=.ok (.func fn first cap) w:=fun _ _ _ _=>rfl
 obtain ⟨a,c,rfl⟩:=hv.open
 obtain ⟨W4,hW4⟩:∃ V,(((W.alloc (.cells #[.slice none 0 0,.slice none 0 0] 38)).alloc (.cells #[.int .i64 0,.int .i64 0] 29)).alloc (.cells #[.slice a l.length c,.int .i64 0] 60)).alloc (.cells #[.pointer (some ⟨W.heap.size + 2,0,none⟩)] 58)=V:=⟨_,rfl⟩
 have hz4:W4.heap.size=W.heap.size + 4:=by rw [←hW4];simp
 have hb4:Below W.heap.size W W4:=by rw [←hW4];exact (((((Below.refl _ _).alloc (Nat.le_refl _) _).alloc (by simp) _).alloc (by simp;omega) _).alloc (by simp;omega) _)
 obtain ⟨k0,k1,k2,k3⟩:Blk W4 W.heap.size (.cells #[.slice none 0 0,.slice none 0 0] 38 (0,0))∧Blk W4 (W.heap.size + 1) (.cells #[.int .i64 0,.int .i64 0] 29 (0,0))∧Box2 W4 60 (W.heap.size + 2) (.slice a l.length c) (.int .i64 ((0:Nat):Int))∧Blk W4 (W.heap.size + 3) (.cells #[.pointer (some ⟨W.heap.size + 2,0,none⟩)] 58 (0,0)):=by
  obtain ⟨W1,hW1⟩:∃ V,W.alloc (.cells #[.slice none 0 0,.slice none 0 0] 38)=V:=⟨_,rfl⟩
  obtain ⟨W2,hW2⟩:∃ V,W1.alloc (.cells #[.int .i64 0,.int .i64 0] 29)=V:=⟨_,rfl⟩
  obtain ⟨W3,hW3⟩:∃ V,W2.alloc (.cells #[.slice a l.length c,.int .i64 0] 60)=V:=⟨_,rfl⟩
  rw [hW1,hW2,hW3] at hW4
  have z1:W1.heap.size=W.heap.size + 1:=by rw [←hW1];simp
  have z2:W2.heap.size=W.heap.size + 2:=by rw [←hW2];simp;omega
  have z3:W3.heap.size=W.heap.size + 3:=by rw [←hW3];simp;omega
  have q0:Blk W1 W.heap.size (.cells #[.slice none 0 0,.slice none 0 0] 38 (0,0)):=by rw [←hW1];exact Blk.new
  have q1:Blk W2 (W.heap.size + 1) (.cells #[.int .i64 0,.int .i64 0] 29 (0,0)):=by rw [←hW2,←z1];exact Blk.new
  have q2:Blk W3 (W.heap.size + 2) (.cells #[.slice a l.length c,.int .i64 0] 60 (0,0)):=by rw [←hW3];have:=Blk.new (w:=W2) (vs:=#[.slice a l.length c,.int .i64 0]) (t:=60);rw [z2] at this;exact this
  have q3:Blk W4 (W.heap.size + 3) (.cells #[.pointer (some ⟨W.heap.size + 2,0,none⟩)] 58 (0,0)):=by rw [←hW4];have:=Blk.new (w:=W3) (vs:=#[.pointer (some ⟨W.heap.size + 2,0,none⟩)]) (t:=58);rw [z3] at this;exact this
  have b12:Below W1.heap.size W1 W2:=by rw [←hW2];exact (Below.refl _ _).alloc (Nat.le_refl _) _
  have b23:Below W2.heap.size W2 W3:=by rw [←hW3];exact (Below.refl _ _).alloc (Nat.le_refl _) _
  have b34:Below W3.heap.size W3 W4:=by rw [←hW4];exact (Below.refl _ _).alloc (Nat.le_refl _) _
  exact ⟨((q0.below b12).below b23).below b34,(q1.below b23).below b34,q2.below b34,q3⟩
 have hv4:TkSl (msk (W.heap.size + 2) W4) (.slice a l.length c) l:=by
  refine hv.keeps fun x u hu=>?_
  have hb:=cell_block hu
  rw [msk_cell (by omega)]
  exact Keeps.of_below hb4 _ _ hu
 have hR4:Rd W4 (W.heap.size + 2) a c l 0:=⟨k2,hv4,hl,hfit,Nat.zero_le _⟩
 obtain ⟨x,hx,hok⟩:=pProg_ok l (enough l) (Nat.le_refl _)
 have hx':=hx
 unfold pProg at hx'
 have gD:∀ (i:Nat) (d:Dt) (j:Nat),i≤l.length→pData l (enough l) i=some (.ok (d,j))→i + 1≤j:=fun i d j hi h=>by obtain ⟨y,hy,hs⟩:=pData_ok l (enough l) i hi (Nat.le_refl _);rw [hy] at h;cases h;exact hs.1
 have gF:∀ (i:Nat) (d:Df) (j:Nat),i≤l.length→pDef l (enough l) i=some (.ok (d,j))→i + 1≤j:=fun i d j hi h=>by obtain ⟨y,hy,hs⟩:=pDef_ok l (enough l) i hi (Nat.le_refl _);rw [hy] at h;cases h;exact hs.1
 have hD':=par_data (f:=enough l) (fun g _=>(alls6 (W.heap.size + 2) a c l g).atoms)
 have hF':=par_def (par_all (W.heap.size + 2) a c l (enough l)).expr
 have hrule:∀ V:World,Rd V (W.heap.size + 2) a c l 0→Calls Tryz.prog 36 #[.pointer (some ⟨W.heap.size + 2,0,none⟩)] V fun e W'=>GnR PgL V (W.heap.size + 2) a c l x e W':=fun V hV =>
  par_prog hD' hF' gD gF V 0 x hV hx'
 have hF:Hid (progF l=wholeF l (some x)):=by unfold Hid progF;rw [hx]
 have hxe:Hid (∀ p,x=.error p→p≤l.length):=fun p hp=>by rw [hp] at hok;exact hok.2
 have hwh:=Lib.hid (par_wholeP W4 (W.heap.size + 2) (W.heap.size + 3) W.heap.size a c l.length (fun p V W'=>x=.error p∧Bb V.heap.size (W.heap.size + 2) V W') (fun j V W'=>∃ y a1 m1 c1 a2 m2 c2,x=.ok (y,j)∧j≤l.length∧Kb (W.heap.size + 2) W.heap.size V W'∧Blk W' W.heap.size (.cells #[.slice a1 m1 c1,.slice a2 m2 c2] 38 (0,0))∧Lay V.heap.size W'.heap.size W' fun x=>IsPg x (.agg #[.slice a1 m1 c1,.slice a2 m2 c2]) y) (by omega) hl
  (fun V hV hVz=>par_cloP l x V (W.heap.size + 2) (W.heap.size + 3) W.heap.size a c (hR4.below (hV.mono (Nat.le_refl _))) ((Blk.cl (k3.below hV) 0).trans rfl) (k0.below hV) (by omega) (by omega) (by omega) hrule))
 have k3c:W4.cell? ⟨W.heap.size + 3,0,none⟩=some (.pointer (some ⟨W.heap.size + 2,0,none⟩)):=(k3.cl 0).trans rfl
 have hW4':=Lib.hid hW4
 have hz4':=Lib.hid hz4
 have hb4':=Lib.hid hb4
 have k0':=Lib.hid k0
 have k1':=Lib.hid k1
 have hv':=Lib.hid hv
 have hl':=Lib.hid hl
 clear hW4 hz4 hb4 k0 k1 k2 k3 hv4 hR4 hrule hv
 go_enter Tryz.func14,Tryz.ntmps14
 go_upto_region 2 with (fail)
 rw [hW4'.out]
 go_wp2_with fail
 refine hwh.out.mono ?_
 rintro e W5 ⟨V,W',⟨hV,hVz⟩,hK,hm⟩
 have hzz:=hz4'.out
 rcases hm with ⟨p,rfl,hxp,hB⟩ | ⟨j,rfl,y,a1,m1,c1,a2,m2,c2,hxj,hj,hKb,hBk,hLy⟩
 ·
  have hVs:=hV.size
  have chain:∀ k,k < W4.heap.size→k≠W.heap.size + 2→W5.heap[k]?=W4.heap[k]?:=fun k h0 h1=>(hK.block k (by have:=hB.size;omega) (by omega) (by omega)).trans ((hB.block k (by omega) h1).trans (hV.block k h0))
  have hB5:Hid (Below W.heap.size W W5):=⟨hK.os.trans (hB.os.trans (hV.os.trans hb4'.out.os)),hK.tape.trans (hB.tape.trans (hV.tape.trans hb4'.out.tape)),hK.output.trans (hB.output.trans (hV.output.trans hb4'.out.output)),by have:=hK.size;have:=hB.size;omega,fun k h0=>(chain k (by omega) (by omega)).trans (hb4'.out.block k h0)⟩
  have q0:Hid (Blk W5 W.heap.size (.cells #[.slice none 0 0,.slice none 0 0] 38 (0,0))):=(chain _ (by omega) (by omega)).trans k0'.out
  have q1:Hid (Blk W5 (W.heap.size + 1) (.cells #[.int .i64 0,.int .i64 0] 29 (0,0))):=(chain _ (by omega) (by omega)).trans k1'.out
  have hFp:Hid (progF l=.error p):=by have:=hF.out;rw [hxp] at this;exact this
  have hpl':p≤l.length:=hxe.out p hxp
  clear chain hK hB hV hVs hzz hxp
  have hplc:=Lib.hid (par_place W5 (.slice a l.length c) l p (hv'.out.keeps (Keeps.of_below hB5.out)) hl'.out (by have:=hl'.out;omega))
  obtain ⟨ln,cl,hq⟩:∃ ln cl,placeT l (p)=(ln,cl):=⟨_,_,rfl⟩
  have hq':=Lib.hid hq
  rw [hq] at hplc
  unfold plV6 at hplc
  clear hq
  go_wp2_with fail
  refine hplc.out.mono ?_
  rintro e W6 ⟨rfl,hB6⟩
  have hB6b:=Lib.hid (hB5.out.trans (hB6.mono (by have:=hB5.out.size;omega)))
  have r0:=q0.out.below (hB6.mono (by have:=q0.out.lt;omega))
  have r1:=q1.out.below (hB6.mono (by have:=q1.out.lt;omega))
  have c00:W6.cell? ⟨W.heap.size,0,none⟩=some (.slice none 0 0):=(r0.cl 0).trans rfl
  have c01:W6.cell? ⟨W.heap.size,1,none⟩=some (.slice none 0 0):=(r0.cl 1).trans rfl
  have r0f:=r0.fr
  have r0l:=r0.lt
  have c10:W6.cell? ⟨W.heap.size + 1,0,none⟩=some (.int .i64 0):=(r1.cl 0).trans rfl
  have c11:W6.cell? ⟨W.heap.size + 1,1,none⟩=some (.int .i64 0):=(r1.cl 1).trans rfl
  have r1f:=r1.fr
  have r1l:=r1.lt
  have s0:=(show Box2 W6 38 W.heap.size (.slice none 0 0) (.slice none 0 0) from r0).set (.slice none 0 0) (.slice none 0 0)
  have s1:=((Blk.own r1 s0.2 (by omega) |> fun q=>(show Box2 _ 29 _ _ _ from q))).set (.int .i64 ln) (.int .i64 cl)
  have s0b:=Blk.own (show Blk _ _ _ from s0.1) s1.2 (by omega)
  have hfin:=Lib.hid (And.intro s0b (And.intro (show Blk _ _ _ from s1.1) (hB6b.out.trans ((s0.2.below.mono (Nat.le_refl _)).trans (s1.2.below.mono (by omega))))))
  clear s0 s1 s0b r0 r1 hB6
  go_wp2_with fail
  refine bodyPost_ret (results_pP rfl _ _ rfl rfl rfl hfin.out.1 hfin.out.2.1) rfl ⟨?_,hfin.out.2.2⟩
  rw [hFp.out]
  show _=_
  rw [hq'.out]
  rfl
 ·
  have hVs:=hV.size
  have chain:∀ k,k < W4.heap.size→k≠W.heap.size + 2→k≠W.heap.size→W5.heap[k]?=W4.heap[k]?:=fun k h0 h1 h2=>(hK.block k (by have:=hKb.size;omega) (by omega) (by omega)).trans ((hKb.block k (by omega) h1 h2).trans (hV.block k h0))
  have hB5:Hid (Below W.heap.size W W5):=⟨hK.os.trans (hKb.os.trans (hV.os.trans hb4'.out.os)),hK.tape.trans (hKb.tape.trans (hV.tape.trans hb4'.out.tape)),hK.output.trans (hKb.output.trans (hV.output.trans hb4'.out.output)),by have:=hK.size;have:=hKb.size;omega,fun k h0=>(chain k (by omega) (by omega) (by omega)).trans (hb4'.out.block k h0)⟩
  have q0:Hid (Blk W5 W.heap.size (.cells #[.slice a1 m1 c1,.slice a2 m2 c2] 38 (0,0))):=(hK.block _ (by have:=hKb.size;omega) (by omega) (by omega)).trans hBk
  have q1:Hid (Blk W5 (W.heap.size + 1) (.cells #[.int .i64 0,.int .i64 0] 29 (0,0))):=(chain _ (by omega) (by omega) (by omega)).trans k1'.out
  have hL5:Hid (Lay V.heap.size W'.heap.size W5 fun x=>IsPg x (.agg #[.slice a1 m1 c1,.slice a2 m2 c2]) y):=hLy.of hK.size fun k h0 h1=>hK.block k h1 (by omega) (by omega)
  have hVw:Hid (W.heap.size + 2≤V.heap.size):=by unfold Hid;omega
  clear hBk hLy chain hKb hK hV hVs hzz hVz
  by_cases hjl:j=l.length
  case neg =>
   have hd:((j:Int) == (l.length:Int))=false:=by simp;omega
   have hFp:Hid (progF l=.error j):=by have:=hF.out;rw [hxj] at this;unfold Hid;rw [this];show (if j=l.length then _ else _)=_;rw [if_neg hjl]
   have hplc:=Lib.hid (par_place W5 (.slice a l.length c) l j (hv'.out.keeps (Keeps.of_below hB5.out)) hl'.out (by have:=hl'.out;omega))
   clear hjl hxj
   obtain ⟨ln,cl,hq⟩:∃ ln cl,placeT l (j)=(ln,cl):=⟨_,_,rfl⟩
   have hq':=Lib.hid hq
   rw [hq] at hplc
   unfold plV6 at hplc
   clear hq
   go_wp2_with fail
   refine hplc.out.mono ?_
   rintro e W6 ⟨rfl,hB6⟩
   have hB6b:=Lib.hid (hB5.out.trans (hB6.mono (by have:=hB5.out.size;omega)))
   have r0:=q0.out.below (hB6.mono (by have:=q0.out.lt;omega))
   have r1:=q1.out.below (hB6.mono (by have:=q1.out.lt;omega))
   have c00:W6.cell? ⟨W.heap.size,0,none⟩=some (.slice a1 m1 c1):=(r0.cl 0).trans rfl
   have c01:W6.cell? ⟨W.heap.size,1,none⟩=some (.slice a2 m2 c2):=(r0.cl 1).trans rfl
   have r0f:=r0.fr
   have r0l:=r0.lt
   have c10:W6.cell? ⟨W.heap.size + 1,0,none⟩=some (.int .i64 0):=(r1.cl 0).trans rfl
   have c11:W6.cell? ⟨W.heap.size + 1,1,none⟩=some (.int .i64 0):=(r1.cl 1).trans rfl
   have r1f:=r1.fr
   have r1l:=r1.lt
   have s0:=(show Box2 W6 38 W.heap.size (.slice a1 m1 c1) (.slice a2 m2 c2) from r0).set (.slice none 0 0) (.slice none 0 0)
   have s1:=((Blk.own r1 s0.2 (by omega) |> fun q=>(show Box2 _ 29 _ _ _ from q))).set (.int .i64 ln) (.int .i64 cl)
   have s0b:=Blk.own (show Blk _ _ _ from s0.1) s1.2 (by omega)
   have hfin:=Lib.hid (And.intro s0b (And.intro (show Blk _ _ _ from s1.1) (hB6b.out.trans ((s0.2.below.mono (Nat.le_refl _)).trans (s1.2.below.mono (by omega))))))
   clear s0 s1 s0b r0 r1 hB6
   go_wp2_with fail
   refine bodyPost_ret (results_pP rfl _ _ rfl rfl rfl hfin.out.1 hfin.out.2.1) rfl ⟨?_,hfin.out.2.2⟩
   rw [hFp.out]
   show _=_
   rw [hq'.out]
   rfl
  subst hjl
  have hFp:Hid (progF l=.ok y):=by have:=hF.out;rw [hxj] at this;unfold Hid;rw [this];show (if l.length=l.length then _ else _)=_;rw [if_pos rfl];all_goals rfl
  have hck:=Lib.hid (hchk y (.agg #[.slice a1 m1 c1,.slice a2 m2 c2]) W5 hL5.out.out)
  clear hxj
  cases hcy:chk y with
  | false =>
   rw [hcy] at hck
   have hplc:=Lib.hid (fun V8 (hV8:Below W5.heap.size W5 V8)=>par_place V8 (.slice a l.length c) l 0 (hv'.out.keeps (Keeps.of_below (hB5.out.trans (hV8.mono hB5.out.size)))) hl'.out (by omega))
   have w00:W5.cell? ⟨W.heap.size,0,none⟩=some (.slice a1 m1 c1):=(q0.out.cl 0).trans rfl
   have w01:W5.cell? ⟨W.heap.size,1,none⟩=some (.slice a2 m2 c2):=(q0.out.cl 1).trans rfl
   go_wp2_with fail
   refine hck.out.mono ?_
   rintro e W5b ⟨rfl,hB5b⟩
   have hB5c:=Lib.hid (hB5.out.trans (hB5b.mono hB5.out.size))
   have hplc2:=Lib.hid (hplc.out W5b hB5b)
   have q0b:=Lib.hid (q0.out.below hB5b)
   have q1b:=Lib.hid (q1.out.below hB5b)
   clear hplc hB5b
   clear w00 w01
   obtain ⟨ln,cl,hq⟩:∃ ln cl,placeT l (0)=(ln,cl):=⟨_,_,rfl⟩
   have hq':=Lib.hid hq
   rw [hq] at hplc2
   unfold plV6 at hplc2
   clear hq
   go_wp2_with fail
   refine hplc2.out.mono ?_
   rintro e W6 ⟨rfl,hB6⟩
   have hB6b:=Lib.hid (hB5c.out.trans (hB6.mono (by have:=hB5c.out.size;omega)))
   have r0:=q0b.out.below (hB6.mono (by have:=q0b.out.lt;omega))
   have r1:=q1b.out.below (hB6.mono (by have:=q1b.out.lt;omega))
   have c00:W6.cell? ⟨W.heap.size,0,none⟩=some (.slice a1 m1 c1):=(r0.cl 0).trans rfl
   have c01:W6.cell? ⟨W.heap.size,1,none⟩=some (.slice a2 m2 c2):=(r0.cl 1).trans rfl
   have r0f:=r0.fr
   have r0l:=r0.lt
   have c10:W6.cell? ⟨W.heap.size + 1,0,none⟩=some (.int .i64 0):=(r1.cl 0).trans rfl
   have c11:W6.cell? ⟨W.heap.size + 1,1,none⟩=some (.int .i64 0):=(r1.cl 1).trans rfl
   have r1f:=r1.fr
   have r1l:=r1.lt
   have s0:=(show Box2 W6 38 W.heap.size (.slice a1 m1 c1) (.slice a2 m2 c2) from r0).set (.slice none 0 0) (.slice none 0 0)
   have s1:=((Blk.own r1 s0.2 (by omega) |> fun q=>(show Box2 _ 29 _ _ _ from q))).set (.int .i64 ln) (.int .i64 cl)
   have s0b:=Blk.own (show Blk _ _ _ from s0.1) s1.2 (by omega)
   have hfin:=Lib.hid (And.intro s0b (And.intro (show Blk _ _ _ from s1.1) (hB6b.out.trans ((s0.2.below.mono (Nat.le_refl _)).trans (s1.2.below.mono (by omega))))))
   clear s0 s1 s0b r0 r1 hB6
   go_wp2_with fail
   refine bodyPost_ret (results_pP rfl _ _ rfl rfl rfl hfin.out.1 hfin.out.2.1) rfl ⟨?_,hfin.out.2.2⟩
   rw [hFp.out]
   show (if chk y=true then _ else _)
   rw [if_neg (by rw [hcy];simp),hq'.out]
   rfl
  | true =>
   rw [hcy] at hck
   have w00:W5.cell? ⟨W.heap.size,0,none⟩=some (.slice a1 m1 c1):=(q0.out.cl 0).trans rfl
   have w01:W5.cell? ⟨W.heap.size,1,none⟩=some (.slice a2 m2 c2):=(q0.out.cl 1).trans rfl
   go_wp2_with fail
   refine hck.out.mono ?_
   rintro e W6 ⟨rfl,hB6⟩
   clear w00 w01
   have r0:=q0.out.below hB6
   have r1:=q1.out.below hB6
   have hL6:=hL5.out.below hB6
   have c00:W6.cell? ⟨W.heap.size,0,none⟩=some (.slice a1 m1 c1):=(r0.cl 0).trans rfl
   have c01:W6.cell? ⟨W.heap.size,1,none⟩=some (.slice a2 m2 c2):=(r0.cl 1).trans rfl
   have r0f:=r0.fr
   have r0l:=r0.lt
   have c10:W6.cell? ⟨W.heap.size + 1,0,none⟩=some (.int .i64 0):=(r1.cl 0).trans rfl
   have c11:W6.cell? ⟨W.heap.size + 1,1,none⟩=some (.int .i64 0):=(r1.cl 1).trans rfl
   have r1f:=r1.fr
   have r1l:=r1.lt
   have s0:=(show Box2 W6 38 W.heap.size (.slice a1 m1 c1) (.slice a2 m2 c2) from r0).set (.slice a1 m1 c1) (.slice a2 m2 c2)
   have s1:=((Blk.own r1 s0.2 (by omega) |> fun q=>(show Box2 _ 29 _ _ _ from q))).set (.int .i64 0) (.int .i64 0)
   have s0b:=Blk.own (show Blk _ _ _ from s0.1) s1.2 (by omega)
   have hL7:=(hL6.own s0.2 (.inl (by have:=hVw.out;omega))).own s1.2 (.inl (by have:=hVw.out;omega))
   have hfin:=Lib.hid (And.intro s0b (And.intro (show Blk _ _ _ from s1.1) (And.intro ((hB5.out.trans (hB6.mono hB5.out.size)).trans ((s0.2.below.mono (Nat.le_refl _)).trans (s1.2.below.mono (by omega)))) (hL7.wide (B':=W.heap.size) (by have:=hVw.out;omega) hL7.1 (Nat.le_refl _)))))
   clear s0 s1 s0b r0 r1 hB6 hL6 hL7
   go_wp2_with fail
   refine bodyPost_ret (results_pP rfl _ _ rfl rfl rfl hfin.out.1 hfin.out.2.1) rfl ⟨?_,hfin.out.2.2.1⟩
   rw [hFp.out]
   show (if chk y=true then _ else _)
   rw [if_pos hcy]
   exact ⟨_,rfl,hfin.out.2.2.2⟩
end Go.Proofs.YtinjocchommbdaaGreatDoor
