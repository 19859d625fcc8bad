/- A part of the proof that parser laws hold: texts of the walk and of its plain laws, made small. -/
import Derived.Test.YtinjocchommbdaaGreatDoorM44
import Derived.Test.YtinjocchommbdaaGreatDoorM55
import Derived.Test.YtinjocchommbdaaGreatDoorM52
import Derived.Test.YtinjocchommbdaaGreatDoorM18
import Derived.Test.YtinjocchommbdaaGreatDoorM28
import Derived.Test.YtinjocchommbdaaGreatDoorM53
set_option linter.unusedVariables false
set_option linter.unusedSimpArgs false
namespace Go.Proofs.YtinjocchommbdaaGreatDoor
open Go.RowKit
set_option maxHeartbeats 2000000 in
set_option maxRecDepth 100000 in
theorem signed_c (s:Str) (W:World):Calls Tryz.prog 23 #[.string s] W fun e W'=>e=.returned (.agg #[.int .i64 4,.string s,.int .i64 0,.int .i64 0,.int .i64 0])∧Below W.heap.size W W':=by
 obtain ⟨W1,hW1⟩:∃ V,W.alloc (.cells #[.int .i64 0,.string ⟨#[]⟩,.int .i64 0,.int .i64 0,.int .i64 0] 51)=V:=⟨_,rfl⟩
 have hb1:Below W.heap.size W W1:=by rw [←hW1];exact (Below.refl _ _).alloc (Nat.le_refl _) _
 have hx1:Box5 W1 51 W.heap.size (.int .i64 0) (.string ⟨#[]⟩) (.int .i64 0) (.int .i64 0) (.int .i64 0):=by rw [←hW1];exact blk_new (Below.refl _ _)
 have hst:=hx1.set (.int .i64 4) (.string s) (.int .i64 0) (.int .i64 0) (.int .i64 0)
 have hfin:=Lib.hid (And.intro hst.1 (hb1.trans hst.2.below))
 obtain ⟨⟨c0,c1,c2,c3,c4⟩,cf⟩:=hx1.cells
 have hW1':=Lib.hid hW1
 clear hb1 hx1 hst hW1
 go_enter Tryz.func23,Tryz.ntmps23
 go_upto_region 1 with (fail)
 rw [hW1'.out]
 go_wp2_with fail
 refine set5_fold ?_
 exact bodyPost_ret (results_tk rfl _ _ rfl hfin.out.1.cells.1) rfl ⟨rfl,hfin.out.2⟩
set_option maxHeartbeats 2000000 in
set_option maxRecDepth 100000 in
theorem name_c (s:Str) (W:World):Calls Tryz.prog 24 #[.string s] W fun e W'=>e=.returned (.agg #[.int .i64 2,.string s,.int .i64 0,.int .i64 0,.int .i64 0])∧Below W.heap.size W W':=by
 obtain ⟨W1,hW1⟩:∃ V,W.alloc (.cells #[.int .i64 0,.string ⟨#[]⟩,.int .i64 0,.int .i64 0,.int .i64 0] 51)=V:=⟨_,rfl⟩
 have hb1:Below W.heap.size W W1:=by rw [←hW1];exact (Below.refl _ _).alloc (Nat.le_refl _) _
 have hx1:Box5 W1 51 W.heap.size (.int .i64 0) (.string ⟨#[]⟩) (.int .i64 0) (.int .i64 0) (.int .i64 0):=by rw [←hW1];exact blk_new (Below.refl _ _)
 have hst:=hx1.set (.int .i64 2) (.string s) (.int .i64 0) (.int .i64 0) (.int .i64 0)
 have hfin:=Lib.hid (And.intro hst.1 (hb1.trans hst.2.below))
 obtain ⟨⟨c0,c1,c2,c3,c4⟩,cf⟩:=hx1.cells
 have hW1':=Lib.hid hW1
 clear hb1 hx1 hst hW1
 go_enter Tryz.func24,Tryz.ntmps24
 go_upto_region 1 with (fail)
 rw [hW1'.out]
 go_wp2_with fail
 refine set5_fold ?_
 exact bodyPost_ret (results_tk rfl _ _ rfl hfin.out.1.cells.1) rfl ⟨rfl,hfin.out.2⟩
def PgO (l:List Tk):Pg × Int:=match progF l with
 | .error _=>(⟨[],[]⟩,60)
 | .ok y=>if progB y=true then (y,0) else (⟨[],[]⟩,61)
theorem pgz_is (W:World):IsPg W (.agg #[.slice none 0 0,.slice none 0 0]) ⟨[],[]⟩:=⟨_,_,_,_,rfl,by decide,by decide,.inl rfl,.inl rfl⟩
theorem call_pgo (W:World) (v:Value) (l:List Tk) (hv:TkSl W v l) (hl:l.length≤100000) (hf:∀ t ∈ l,TkFit t):Calls Tryz.prog 14 #[v] W fun e W'=>(∃ a1 m1 c1 a2 m2 c2 x y,e=.returned (.tuple #[.agg #[.slice a1 m1 c1,.slice a2 m2 c2],.agg #[.int .i64 x,.int .i64 y],.int .i64 (PgO l).2])∧IsPg W' (.agg #[.slice a1 m1 c1,.slice a2 m2 c2]) (PgO l).1)∧Below W.heap.size W W':=by
 refine (par_doorP progB tree_Prog W v l hv hl hf).mono ?_
 rintro e W' ⟨h,hB⟩
 refine ⟨?_,hB⟩
 unfold ParR at h
 unfold PgO
 cases hp:progF l with
 | error p=>rw [hp] at h;exact ⟨_,_,_,_,_,_,_,_,h,pgz_is W'⟩
 | ok y =>
  rw [hp] at h
  simp only at h ⊢
  split at h
  ·
   rename_i hc
   rw [if_pos hc]
   obtain ⟨u,rfl,hI⟩:=h
   obtain ⟨a1,m1,c1,a2,m2,c2,rfl⟩:=pg_agg hI.out
   exact ⟨_,_,_,_,_,_,_,_,rfl,hI.out⟩
  ·
   rename_i hc
   rw [if_neg hc]
   exact ⟨_,_,_,_,_,_,_,_,h,pgz_is W'⟩
def fiveN:List Bs:=[[120],[121],[122],[97,66],[99,49]]
def nmAt (b:UInt8):Bs:=fiveN.getD (b.toNat % 5) []
def rowA (ns:Bs):List Tk:=sgT bOpen :: nmT6 [102] :: (ns.map fun b=>nmT6 (nmAt b))
def rowB (ns:Bs):List Tk:=sgT bOpen :: nmT6 [102] :: sgT [61] :: lamT (ns.map nmAt)
theorem rows_same (ns:Bs) (l:List Tk):PgO (rowA ns ++ [sgT [61]] ++ l ++ [sgT bShut])=PgO (rowB ns ++ l ++ [sgT bShut]):=by
 have h:=progF_params [102] (ns.map nmAt) (l ++ [sgT bShut])
 have e1:rowA ns ++ [sgT [61]] ++ l ++ [sgT bShut]=(sgT bOpen :: nmT6 [102] :: ((ns.map nmAt).map nmT6 ++ [sgT [61]])) ++ (l ++ [sgT bShut]):=by simp [rowA,List.map_map,Function.comp_def]
 have e2:rowB ns ++ l ++ [sgT bShut]=(sgT bOpen :: nmT6 [102] :: sgT [61] :: lamT (ns.map nmAt)) ++ (l ++ [sgT bShut]):=by simp [rowB]
 rw [e1,e2]
 unfold PgO
 rcases h with ⟨p,h1,h2⟩ | ⟨i,j,h1,h2⟩ <;> rw [h1,h2]
theorem rowA_len (ns:Bs):(rowA ns).length=2 + ns.length:=by simp [rowA];omega
theorem rowB_len (ns:Bs):(rowB ns).length=3 + 3 * ns.length:=by simp [rowB,lamT_len];omega
theorem rowA_snoc (ns:Bs) (k:Nat) (h:k < ns.length):rowA (ns.take (k + 1))=rowA (ns.take k) ++ [nmT6 (nmAt ns[k])]:=by
 unfold rowA
 rw [List.take_succ_eq_append_getElem h,List.map_append]
 rfl
theorem rowB_snoc (ns:Bs) (k:Nat) (h:k < ns.length):rowB (ns.take (k + 1))=rowB (ns.take k) ++ [sgT [92],nmT6 (nmAt ns[k]),sgT [45,62]]:=by
 unfold rowB lamT
 rw [List.take_succ_eq_append_getElem h,List.map_append,List.flatMap_append]
 rfl
theorem nmAt_fit (b:UInt8):(nmAt b).length≤2:=by
 unfold nmAt
 have:b.toNat % 5 < 5:=Nat.mod_lt _ (by decide)
 generalize b.toNat % 5=j at this
 match j,this with
 | 0,_=>decide
 | 1,_=>decide
 | 2,_=>decide
 | 3,_=>decide
 | 4,_=>decide
theorem fit_small {k:Int} {s:Bs} (h:s.length≤100):TkFit ⟨k,s,0,0,0⟩:=⟨by show (tS s).size≤lenMax;rw [tS_size];unfold lenMax;omega,by show (-9223372036854775808:Int)≤0∧(0:Int)≤_;decide⟩
theorem rowA_fit (ns:Bs):∀ t ∈ rowA ns,TkFit t:=by
 intro t ht
 unfold rowA at ht
 simp only [List.mem_cons,List.mem_map] at ht
 rcases ht with rfl | rfl | ⟨b,_,rfl⟩
 ·
  exact fit_small (by decide)
 ·
  exact fit_small (by decide)
 ·
  exact fit_small (by have:=nmAt_fit b;omega)
theorem rowB_fit (ns:Bs):∀ t ∈ rowB ns,TkFit t:=by
 intro t ht
 unfold rowB lamT at ht
 simp only [List.mem_cons,List.mem_flatMap,List.mem_map,List.not_mem_nil,or_false] at ht
 rcases ht with rfl | rfl | rfl | ⟨_,⟨b,_,rfl⟩,rfl | rfl | rfl⟩
 ·
  exact fit_small (by decide)
 ·
  exact fit_small (by decide)
 ·
  exact fit_small (by decide)
 ·
  exact fit_small (by decide)
 ·
  exact fit_small (by have:=nmAt_fit b;omega)
 ·
  exact fit_small (by decide)
set_option maxHeartbeats 4000000 in
set_option maxRecDepth 100000 in
theorem parseParams_c (na:Option Addr) (ns:Bs) (nc:Nat) (sa:Option Addr) (l:List Tk) (sc:Nat) (w:World) (hnr:ByteRow w na ns) (hv:TkSl w (.slice sa l.length sc) l) (hin:∀ t ∈ l,TkIn t) (ht:Tab w) (hE:RngOk w) (hM:MaxOk w) :
  Calls Tryz.prog 9 #[.slice na ns.length nc,.slice sa l.length sc] w fun r w'=>r=.returned (.bool true)∧Below w.heap.size w w':=by
 have haw:=Lib.hid (awake6 w ht hE hM)
 have hv':=Lib.hid hv
 have hnr':=Lib.hid hnr
 have hfit:Hid (∀ t ∈ l,TkFit t):=fun t ht=>⟨(hin t ht).2.1,(hin t ht).2.2.1⟩
 clear hv ht hE hM hin hnr
 go_enter Tryz.func9,Tryz.ntmps9
 go_wp2_with fail
 refine haw.out.mono ?_
 rintro e W1 ⟨rfl,hB⟩
 have hb1:=Lib.hid hB
 clear hB haw
 by_cases h1:10 < ns.length
 ·
  have q1:decide ((10:Int) < (ns.length:Int))=true:=decide_eq_true (by omega)
  go_wp2_with fail
  go_ret
  exact ⟨rfl,hb1.out⟩
 have q1:decide ((10:Int) < (ns.length:Int))=false:=decide_eq_false (by omega)
 by_cases h2:200 < l.length
 ·
  have q2:decide ((200:Int) < (l.length:Int))=true:=decide_eq_true (by omega)
  go_wp2_with fail
  go_ret
  exact ⟨rfl,hb1.out⟩
 have q2:decide ((200:Int) < (l.length:Int))=false:=decide_eq_false (by omega)
 have hn10:ns.length≤10:=by omega
 have hl2:l.length≤200:=by omega
 have hsg:=Lib.hid signed_c
 have hnm:=Lib.hid name_c
 obtain ⟨W2,hW2⟩:∃ W,W1.alloc (.cells #[.string ⟨#[120]⟩,.string ⟨#[121]⟩,.string ⟨#[122]⟩,.string ⟨#[97,66]⟩,.string ⟨#[99,49]⟩] 9)=W:=⟨_,rfl⟩
 have hb12:Below W1.heap.size W1 W2:=by rw [←hW2];exact (Below.refl _ _).alloc (Nat.le_refl _) _
 have ptx:Blk W2 W1.heap.size (.cells #[.string ⟨#[120]⟩,.string ⟨#[121]⟩,.string ⟨#[122]⟩,.string ⟨#[97,66]⟩,.string ⟨#[99,49]⟩] 9 (0,0)):=by rw [←hW2];exact Blk.new
 have hW2':=Lib.hid hW2
 have hb12':=Lib.hid hb12
 have ptx':=Lib.hid ptx
 clear hW2 hb12 ptx
 go_upto_region 5 with (fail)
 rw [hW2'.out]
 go_wp2_with fail
 refine (hsg.out _ _).mono ?_
 rintro e X1 ⟨rfl,hX1⟩
 go_wp2_with fail
 refine (hnm.out _ _).mono ?_
 rintro e X2 ⟨rfl,hX2⟩
 obtain ⟨W3,hW3⟩:∃ W,X2.alloc (.cells #[.int .i64 4,.string ⟨#[123]⟩,.int .i64 0,.int .i64 0,.int .i64 0,.int .i64 2,.string ⟨#[102]⟩,.int .i64 0,.int .i64 0,.int .i64 0] 51)=W:=⟨_,rfl⟩
 have hb2X:=hX1.trans (hX2.mono hX1.size)
 have hbX2:=hb12'.out.trans (hb2X.mono hb12'.out.size)
 have hzX2:w.heap.size≤X2.heap.size:=Nat.le_trans hb1.out.size hbX2.size
 have ho3:W3.ownsRow w.heap.size 51 5 (.slice (some ⟨X2.heap.size,0,none⟩) 2 2) 2 (tkCs (rowA [])):=by rw [←hW3];exact tk_row hzX2 (rowA []) (by decide)
 have hb23:Below X2.heap.size X2 W3:=by rw [←hW3];exact (Below.refl _ _).alloc (Nat.le_refl _) _
 have hb3:=Lib.hid (hbX2.trans (hb23.mono hbX2.size))
 have ptx3:=Lib.hid (ptx'.out.below (hb2X.trans (hb23.mono hb2X.size)))
 have hz3:Hid (X2.heap.size < W3.heap.size):=by rw [←hW3];simp [Hid]
 have ho3':=Lib.hid ho3
 have hW3':=Lib.hid hW3
 have hzX2':=Lib.hid hzX2
 clear hW3 hbX2 hb2X hb23 ho3 hX1 hX2 hzX2
 go_upto_region 6 with (fail)
 rw [hW3'.out]
 go_wp2_with fail
 refine (hsg.out _ _).mono ?_
 rintro e X3 ⟨rfl,hX3⟩
 go_wp2_with fail
 refine (hnm.out _ _).mono ?_
 rintro e X4 ⟨rfl,hX4⟩
 go_wp2_with fail
 refine (hsg.out _ _).mono ?_
 rintro e X5 ⟨rfl,hX5⟩
 obtain ⟨W4,hW4⟩:∃ W,X5.alloc (.cells #[.int .i64 4,.string ⟨#[123]⟩,.int .i64 0,.int .i64 0,.int .i64 0,.int .i64 2,.string ⟨#[102]⟩,.int .i64 0,.int .i64 0,.int .i64 0,.int .i64 4,.string ⟨#[61]⟩,.int .i64 0,.int .i64 0,.int .i64 0] 51)=W:=⟨_,rfl⟩
 have hX35:=hX3.trans ((hX4.trans (hX5.mono hX4.size)).mono hX3.size)
 have hb45:Below X5.heap.size X5 W4:=by rw [←hW4];exact (Below.refl _ _).alloc (Nat.le_refl _) _
 have hb34:=hX35.trans (hb45.mono hX35.size)
 have hz5:w.heap.size≤X5.heap.size:=by have:=hX35.size;have:=hz3.out;have:=hzX2'.out;omega
 have ho4:W4.ownsRow w.heap.size 51 5 (.slice (some ⟨X5.heap.size,0,none⟩) 3 3) 3 (tkCs (rowB [])):=by rw [←hW4];exact tk_row hz5 (rowB []) (by decide)
 have htwo:Hid (TwoR w.heap.size (rowA []) (rowB []) (.slice (some ⟨X2.heap.size,0,none⟩) 2 2) (.slice (some ⟨X5.heap.size,0,none⟩) 3 3) W4):=⟨ownsRow_heap ho3'.out fun g hg=>hb34.block g (ownBlock_ge ho3'.out hg).2,ho4,fun g h1 h2=>by
  simp only [Value.ownBlock,Option.some.injEq] at h1 h2
  have:=hX35.size;have:=hz3.out;omega⟩
 have hbw4:=hb3.out.trans (hb34.mono hb3.out.size)
 have ptx4:=Lib.hid (ptx3.out.below hb34)
 have hb4:=Lib.hid (hb1.out.trans (hbw4.mono hb1.out.size))
 have hW4':=Lib.hid hW4
 clear hW4 hX35 hb45 hb34 hz5 ho4 hbw4 hX3 hX4 hX5 ho3' hz3 hzX2' hb3 hb12' ptx' ptx3 hb1
 go_upto_region 7 with (fail)
 rw [hW4'.out]
 clear q1 q2
 go_wp2_with fail
 go_loopw [7,8,9] (fun a b i W=>∃ k:Nat,k≤ns.length∧i=.int .i64 k∧Hid (TwoR w.heap.size (rowA (ns.take k)) (rowB (ns.take k)) a b W)∧Hid (Blk W W1.heap.size (.cells #[.string ⟨#[120]⟩,.string ⟨#[121]⟩,.string ⟨#[122]⟩,.string ⟨#[97,66]⟩,.string ⟨#[99,49]⟩] 9 (0,0)))∧Hid (Below w.heap.size w W)) (fun _ _ i _=>ns.length - (intOf i).toNat)
 case atStart=>exact ⟨0,by omega,rfl,htwo,ptx4,hb4⟩
 case round =>
  obtain ⟨k,hk,rfl,htw,ptx,hbw⟩:=hrel
  obtain ⟨Wr,rfl⟩:∃ W,W=wr:=⟨_,rfl⟩
  by_cases h1':k < ns.length
  ·
   have h1i:(k:Int) < (ns.length:Int):=by omega
   have hWz:=hbw.out.size
   obtain ⟨nb,noff,rfl,hnc⟩:∃ b off,na=some ⟨b,off,none⟩∧∀ i (h:i < ns.length),Wr.cell? ⟨b,off + i,none⟩=some (.int .u8 ns[i].toNat):=by
    rcases hnr'.out with h | ⟨b,off,h,hc⟩
    ·
     rw [h] at h1';simp at h1'
    ·
     exact ⟨b,off,h,fun i hi=>Keeps.of_below hbw.out _ _ (hc i hi)⟩
   have hnk:=hnc k h1'
   have hAs:=rowA_snoc ns k h1'
   have hBs:=rowB_snoc ns k h1'
   obtain ⟨bt,hbt⟩:∃ b,ns[k]=b:=⟨_,rfl⟩
   rw [hbt] at hnk hAs hBs
   obtain ⟨j,hj⟩:∃ j,bt.toNat % 5=j:=⟨_,rfl⟩
   have hj5:j < 5:=by rw [←hj];exact Nat.mod_lt _ (by decide)
   have hm:((bt.toNat:Int)).tmod 5=(j:Int):=by rw [←hj];exact (Int.ofNat_tmod bt.toNat 5).symm
   have hj5i:(j:Int) < 5:=by omega
   have hbl:bt.toNat < 256:=UInt8.toNat_lt bt
   have hw8:wrap64 (bt.toNat:Int)=(bt.toNat:Int):=by rw [(IntWalk.i64_left _).symm];exact IntWalk.i64_in _ (by omega)
   obtain ⟨s,hs⟩:∃ s,tS (nmAt bt)=s:=⟨_,rfl⟩
   have htc:Wr.cell? ⟨W1.heap.size,j,none⟩=some (.string s):=by
    have e:(#[.string ⟨#[120]⟩,.string ⟨#[121]⟩,.string ⟨#[122]⟩,.string ⟨#[97,66]⟩,.string ⟨#[99,49]⟩]:Array Value)[j]?=some (.string s):=by
     rw [←hs];unfold nmAt;rw [hj]
     match j,hj5 with
     | 0,_=>rfl
     | 1,_=>rfl
     | 2,_=>rfl
     | 3,_=>rfl
     | 4,_=>rfl
    exact (ptx.out.cl j).trans e
   have hAs':=Lib.hid hAs
   have hBs':=Lib.hid hBs
   have hs':=Lib.hid hs
   have hrl:=Lib.hid (rowA_len (ns.take k))
   have hrl2:=Lib.hid (rowB_len (ns.take k))
   have hkl:(ns.take k).length=k:=by rw [List.length_take];omega
   have hkl':=Lib.hid hkl
   clear hnc hAs hBs hbt hj hs hkl
   go_wp2_with fail
   refine (hnm.out _ _).mono ?_
   rintro e Y1 ⟨rfl,hY1⟩
   obtain ⟨W5,hW5⟩:∃ W,Y1.alloc (.cells #[.int .i64 2,.string s,.int .i64 0,.int .i64 0,.int .i64 0] 51)=W:=⟨_,rfl⟩
   have hb5:Below Y1.heap.size Y1 W5:=by rw [←hW5];exact (Below.refl _ _).alloc (Nat.le_refl _) _
   have pbx:Blk W5 Y1.heap.size (.cells #[.int .i64 2,.string s,.int .i64 0,.int .i64 0,.int .i64 0] 51 (0,0)):=by rw [←hW5];exact Blk.new
   have hbr5:=hY1.trans (hb5.mono hY1.size)
   obtain ⟨W6,hW6⟩:∃ W,W5.alloc (.cells #[.int .i64 2,.string s,.int .i64 0,.int .i64 0,.int .i64 0] 51)=W:=⟨_,rfl⟩
   have hb56:Below W5.heap.size W5 W6:=by rw [←hW6];exact (Below.refl _ _).alloc (Nat.le_refl _) _
   have hh6:W6.heap[W5.heap.size]?=some (.cells (tkC (nmT6 (nmAt bt))).toArray 51 (0,0)):=by
    have:W6.heap[W5.heap.size]?=some (.cells #[.int .i64 2,.string s,.int .i64 0,.int .i64 0,.int .i64 0] 51 (0,0)):=by rw [←hW6];exact Blk.new
    rw [this,←hs'.out];rfl
   have htw5:=htw.out.below hbr5
   have hb6:=hbw.out.trans ((hbr5.trans (hb56.mono hbr5.size)).mono hWz)
   have htw6:=htw5.below hb56
   obtain ⟨a7,W7,hrunA,htw7,hgA⟩:=htw6.app (ts:=[nmT6 (nmAt bt)]) (tk_src hh6) (by have:=hrl.out;have:=hkl'.out;omega) (by simp) hb6.size
   have hb7:=Lib.hid (htw6.low hgA hb6 hb6.size)
   have ptx7:Hid (Blk W7 W1.heap.size (.cells #[.string ⟨#[120]⟩,.string ⟨#[121]⟩,.string ⟨#[122]⟩,.string ⟨#[97,66]⟩,.string ⟨#[99,49]⟩] 9 (0,0))):=htw6.blk hgA (by decide) ((ptx.out.below (hbr5.trans (hb56.mono hbr5.size))))
   have pbx7:Hid (Blk W7 Y1.heap.size (.cells #[.int .i64 2,.string s,.int .i64 0,.int .i64 0,.int .i64 0] 51 (0,0))):=(hgA.block _ (by have:=pbx.lt;have:=hb56.size;omega) (fun e=>by have:=(ownBlock_ge htw.out.oa e.symm).2;have:=hY1.size;omega)).trans (pbx.below hb56)
   have htw7':=Lib.hid htw7
   have hrunA':=Lib.hid hrunA
   have hW5':=Lib.hid hW5
   have hW6':=Lib.hid hW6
   have e0:W5.cell? ⟨Y1.heap.size,0,none⟩=some (.int .i64 2):=(pbx.cl 0).trans rfl
   have e1:W5.cell? ⟨Y1.heap.size,1,none⟩=some (.string s):=(pbx.cl 1).trans rfl
   have e2:W5.cell? ⟨Y1.heap.size,2,none⟩=some (.int .i64 0):=(pbx.cl 2).trans rfl
   have e3:W5.cell? ⟨Y1.heap.size,3,none⟩=some (.int .i64 0):=(pbx.cl 3).trans rfl
   have e4:W5.cell? ⟨Y1.heap.size,4,none⟩=some (.int .i64 0):=(pbx.cl 4).trans rfl
   have htwo':=Lib.hid htw
   clear hY1 hW5 hb5 pbx hbr5 hW6 hb56 hh6 htw5 hb6 htw6 hrunA htw7 hgA htw ptx hbw hWz hnk htc hm hj5i hj5 hw8 hbl
   go_upto_region 11 with (fail)
   rw [hW5'.out]
   go_wp2_with (at_builtin;go_must (rw [hW6'.out];refine wpList_app_run (.tmp 53) (.tmp 55) 22 rfl _ _ _ _ _ rfl rfl rfl hrunA'.out ?_))
   clear e0 e1 e2 e3 e4
   have tk3:Hid (∀ Q:World,TkSl (Q.alloc (.cells #[.int .i64 4,.string ⟨#[92]⟩,.int .i64 0,.int .i64 0,.int .i64 0,.int .i64 2,.string s,.int .i64 0,.int .i64 0,.int .i64 0,.int .i64 4,.string ⟨#[45,62]⟩,.int .i64 0,.int .i64 0,.int .i64 0] 51)) (.slice (some ⟨Q.heap.size,0,none⟩) 3 3) [sgT [92],nmT6 (nmAt bt),sgT [45,62]]):=fun Q=>by
    have h:=TkSl.own (tk_row (V:=Q) (Nat.zero_le _) [sgT [92],nmT6 (nmAt bt),sgT [45,62]] (by simp))
    rw [←hs'.out]
    exact h
   have hl3:Hid ((rowB (ns.take k)).length≤1000000∧[sgT [92],nmT6 (nmAt bt),sgT [45,62]].length≤1000000):=⟨by have:=hrl2.out;have:=hkl'.out;omega,by simp⟩
   have hl3w:Hid (w.heap.size≤W7.heap.size):=hb7.out.size
   have hst:Hid (∀ Q,Below W7.heap.size W7 Q→Q.cell? ⟨Y1.heap.size,0,none⟩=some (.int .i64 2)∧Q.cell? ⟨Y1.heap.size,1,none⟩=some (.string s)∧Q.cell? ⟨Y1.heap.size,2,none⟩=some (.int .i64 0)∧Q.cell? ⟨Y1.heap.size,3,none⟩=some (.int .i64 0)∧Q.cell? ⟨Y1.heap.size,4,none⟩=some (.int .i64 0)):=fun Q hQ=>by
    have h:=pbx7.out.below hQ
    exact ⟨(h.cl 0).trans rfl,(h.cl 1).trans rfl,(h.cl 2).trans rfl,(h.cl 3).trans rfl,(h.cl 4).trans rfl⟩
   refine wp_region_inv (fun f a Vr=>∃ x:Nat→Value,a=⟨#[Value.slice (some { block:=nb,off:=noff }) (List.length ns) nc,Value.slice sa l.length sc,undef,undef,Value.bool false,Value.bool true,Value.slice (some { block:=W1.heap.size,off:=0 }) 5 5,a7,x 6,Value.int IntKind.i64 ↑k,Value.pointer (some { block:=Y1.heap.size,off:=0 }),undef,undef,undef,undef,undef,undef,Value.bool true,Value.slice (some { block:=nb,off:=noff }) (List.length ns) nc,Value.int IntKind.i64 ↑(List.length ns),Value.bool false,Value.bool false,Value.slice sa l.length sc,Value.int IntKind.i64 ↑l.length,Value.bool false,Value.bool false,undef,Value.slice (some { block:=W1.heap.size,off:=0 }) 5 5,Value.agg #[Value.int IntKind.i64 4,Value.string { data:=#[123] },Value.int IntKind.i64 0,Value.int IntKind.i64 0,Value.int IntKind.i64 0],Value.agg #[Value.int IntKind.i64 2,Value.string { data:=#[102] },Value.int IntKind.i64 0,Value.int IntKind.i64 0,Value.int IntKind.i64 0],Value.slice (some { block:=X2.heap.size,off:=0 }) 2 2,Value.agg #[Value.int IntKind.i64 4,Value.string { data:=#[123] },Value.int IntKind.i64 0,Value.int IntKind.i64 0,Value.int IntKind.i64 0],Value.agg #[Value.int IntKind.i64 2,Value.string { data:=#[102] },Value.int IntKind.i64 0,Value.int IntKind.i64 0,Value.int IntKind.i64 0],Value.agg #[Value.int IntKind.i64 4,Value.string { data:=#[61] },Value.int IntKind.i64 0,Value.int IntKind.i64 0,Value.int IntKind.i64 0],Value.slice (some { block:=X5.heap.size,off:=0 }) 3 3,Value.int IntKind.i64 ↑k,Value.slice (some { block:=nb,off:=noff }) (List.length ns) nc,Value.int IntKind.i64 ↑(List.length ns),Value.bool true,u39,u40,Value.slice (some { block:=W1.heap.size,off:=0 }) 5 5,Value.slice (some { block:=nb,off:=noff }) (List.length ns) nc,Value.int IntKind.i64 ↑k,Value.pointer (some { block:=nb,off:=noff + k }),Value.int IntKind.u8 ↑bt.toNat,Value.int IntKind.i64 ↑bt.toNat,Value.slice (some { block:=W1.heap.size,off:=0 }) 5 5,Value.int IntKind.i64 5,Value.int IntKind.i64 ↑j,Value.pointer (some { block:=W1.heap.size,off:=j }),Value.string s,Value.agg #[Value.int IntKind.i64 2,Value.string s,Value.int IntKind.i64 0,Value.int IntKind.i64 0,Value.int IntKind.i64 0],u7,Value.agg #[Value.int IntKind.i64 2,Value.string s,Value.int IntKind.i64 0,Value.int IntKind.i64 0,Value.int IntKind.i64 0],Value.slice (some { block:=W5.heap.size,off:=0 }) 1 1,a7,x 0,x 1,x 2,x 3,x 4,x 5,undef,undef,undef,undef,undef,undef,undef,undef,undef,undef,undef,undef,undef,undef,undef,undef,undef,undef,undef,undef,undef,undef,undef,undef,undef,undef,undef,undef,undef,undef,undef,undef,undef,undef,undef,undef,undef,undef],[]⟩∧(f 4=false→Below W7.heap.size W7 Vr)∧(f 4=true→f 5=false→Below W7.heap.size W7 Vr∧∃ g,x 4=.slice (some ⟨g,0,none⟩) 3 3∧TkSl Vr (.slice (some ⟨g,0,none⟩) 3 3) [sgT [92],nmT6 (nmAt bt),sgT [45,62]])∧(f 5=true→∃ V',Below W7.heap.size W7 V'∧V'.grownBy Vr u8.ownBlock∧TwoR w.heap.size (rowB (ns.take k) ++ [sgT [92],nmT6 (nmAt bt),sgT [45,62]]) (rowA (ns.take k) ++ [nmT6 (nmAt bt)]) (x 5) a7 Vr)∧(f 6=true→∃ V',Below W7.heap.size W7 V'∧V'.grownBy Vr u8.ownBlock∧TwoR w.heap.size (rowB (ns.take k) ++ [sgT [92],nmT6 (nmAt bt),sgT [45,62]]) (rowA (ns.take k) ++ [nmT6 (nmAt bt)]) (x 6) a7 Vr)∧(Hid (f 6=false→x 6=u8))∧VO [some (u8),some (.agg #[.int .i64 4,.string ⟨#[92]⟩,.int .i64 0,.int .i64 0,.int .i64 0]),some (.agg #[.int .i64 2,.string s,.int .i64 0,.int .i64 0,.int .i64 0]),some (.agg #[.int .i64 4,.string ⟨#[45,62]⟩,.int .i64 0,.int .i64 0,.int .i64 0]),none,none,none] f x) (by kernel_rfl) (by kernel_rfl) (rs:=[0,1,2,3,4,5,6]) (by kernel_rfl) ?start ?steps ?last
   case start=>exact ⟨fun i=>([u57,u58,u59,u60,u61,u62,u8]:List Value).getD i undef,rfl,fun _=>(Below.refl _ _).drew,by simp,by simp,by simp,fun _=>rfl,VO.nil _ _⟩
   case steps =>
    refine (KeepsI.cons (ds:=[]) rfl (by kernel_rfl) ?s0 (KeepsI.cons (ds:=[]) rfl (by kernel_rfl) ?s1 (KeepsI.cons (ds:=[]) rfl (by kernel_rfl) ?s2 (KeepsI.cons (ds:=[]) rfl (by kernel_rfl) ?s3 (KeepsI.cons (ds:=[1,2,3]) rfl (by kernel_rfl) ?s4 (KeepsI.cons (ds:=[0,4]) rfl (by kernel_rfl) ?s5 (KeepsI.cons (ds:=[5]) rfl (by kernel_rfl) ?s6 KeepsI.nil)))))))
    all_goals (intro f a Vr hf hd hcl hI K' hK;obtain ⟨x,rfl,c0,c1,c2,c3,c4,hx⟩:=hI)
    case s0 =>
     have n5:f 5=false:=by cases h:f 5;rfl;exact absurd (hcl 5 0 (by kernel_rfl) (h)) (by rw [hf];simp)
     have n6:f 6=false:=by cases h:f 6;rfl;exact absurd (hcl 5 0 (by kernel_rfl) (hcl 6 5 (by kernel_rfl) (h))) (by rw [hf];simp)
     have e6:=c4.out n6
     rw [e6]
     go_simp
     exact hK _ _ ⟨upd (upd x 6 u8) 0 u8,rfl,c0,c1,c2,fun h=>absurd (n6.symm.trans h) (by decide),fun _=>rfl,VO.set (VO.keep hx 6 rfl _) 0 rfl⟩
    case s1 =>
     have n4:f 4=false:=by cases h:f 4;rfl;exact absurd (hcl 4 1 (by kernel_rfl) (h)) (by rw [hf];simp)
     have n5:f 5=false:=by cases h:f 5;rfl;exact absurd (hcl 4 1 (by kernel_rfl) (hcl 5 4 (by kernel_rfl) (h))) (by rw [hf];simp)
     have n6:f 6=false:=by cases h:f 6;rfl;exact absurd (hcl 4 1 (by kernel_rfl) (hcl 5 4 (by kernel_rfl) (hcl 6 5 (by kernel_rfl) (h)))) (by rw [hf];simp)
     have hb:=c0 n4
     have hcl1:=Lib.hid (hsg.out ⟨#[92]⟩ Vr)
     go_simp
     refine hcl1.out.mono ?_
     rintro e V1 ⟨rfl,hal⟩
     exact hK _ _ ⟨upd x 1 (.agg #[.int .i64 4,.string ⟨#[92]⟩,.int .i64 0,.int .i64 0,.int .i64 0]),rfl,fun _=>hb.trans (hal.mono hb.size),fun h _=>absurd (n4.symm.trans h) (by decide),fun h=>absurd (n5.symm.trans h) (by decide),fun h=>absurd (n6.symm.trans h) (by decide),c4,VO.set hx 1 rfl⟩
    case s2 =>
     have n4:f 4=false:=by cases h:f 4;rfl;exact absurd (hcl 4 2 (by kernel_rfl) (h)) (by rw [hf];simp)
     have n5:f 5=false:=by cases h:f 5;rfl;exact absurd (hcl 4 2 (by kernel_rfl) (hcl 5 4 (by kernel_rfl) (h))) (by rw [hf];simp)
     have n6:f 6=false:=by cases h:f 6;rfl;exact absurd (hcl 4 2 (by kernel_rfl) (hcl 5 4 (by kernel_rfl) (hcl 6 5 (by kernel_rfl) (h)))) (by rw [hf];simp)
     obtain ⟨d0,d1,d2,d3,d4⟩:=hst.out Vr (c0 n4)
     clear n4 n5 n6
     go_simp
     exact hK _ _ ⟨(upd x 2 (.agg #[.int .i64 2,.string s,.int .i64 0,.int .i64 0,.int .i64 0])),rfl,c0,c1,c2,c3,c4,(hx.set 2 rfl)⟩
    case s3 =>
     have n4:f 4=false:=by cases h:f 4;rfl;exact absurd (hcl 4 3 (by kernel_rfl) (h)) (by rw [hf];simp)
     have n5:f 5=false:=by cases h:f 5;rfl;exact absurd (hcl 4 3 (by kernel_rfl) (hcl 5 4 (by kernel_rfl) (h))) (by rw [hf];simp)
     have n6:f 6=false:=by cases h:f 6;rfl;exact absurd (hcl 4 3 (by kernel_rfl) (hcl 5 4 (by kernel_rfl) (hcl 6 5 (by kernel_rfl) (h)))) (by rw [hf];simp)
     have hb:=c0 n4
     have hcl1:=Lib.hid (hsg.out ⟨#[45,62]⟩ Vr)
     go_simp
     refine hcl1.out.mono ?_
     rintro e V1 ⟨rfl,hal⟩
     exact hK _ _ ⟨upd x 3 (.agg #[.int .i64 4,.string ⟨#[45,62]⟩,.int .i64 0,.int .i64 0,.int .i64 0]),rfl,fun _=>hb.trans (hal.mono hb.size),fun h _=>absurd (n4.symm.trans h) (by decide),fun h=>absurd (n5.symm.trans h) (by decide),fun h=>absurd (n6.symm.trans h) (by decide),c4,VO.set hx 3 rfl⟩
    case s4 =>
     have e1:=hx.get 1 rfl (hd 1 (by simp))
     have e2:=hx.get 2 rfl (hd 2 (by simp))
     have e3:=hx.get 3 rfl (hd 3 (by simp))
     rw [e1,e2,e3]
     clear e1 e2 e3
     have n5:f 5=false:=by cases h:f 5;rfl;exact absurd (hcl 5 4 (by kernel_rfl) (h)) (by rw [hf];simp)
     have n6:f 6=false:=by cases h:f 6;rfl;exact absurd (hcl 5 4 (by kernel_rfl) (hcl 6 5 (by kernel_rfl) (h))) (by rw [hf];simp)
     have y1:f 1=true:=hd 1 (by simp)
     have y3:f 3=true:=hd 3 (by simp)
     have hb:=c0 hf
     have ht3:=Lib.hid (tk3.out Vr)
     have hal:Below Vr.heap.size Vr (Vr.alloc (.cells #[.int .i64 4,.string ⟨#[92]⟩,.int .i64 0,.int .i64 0,.int .i64 0,.int .i64 2,.string s,.int .i64 0,.int .i64 0,.int .i64 0,.int .i64 4,.string ⟨#[45,62]⟩,.int .i64 0,.int .i64 0,.int .i64 0] 51)):=(Below.refl _ _).alloc (Nat.le_refl _) _
     have hbn:=Lib.hid (hb.trans (hal.mono hb.size))
     clear hal
     go_simp
     exact hK _ _ ⟨upd (upd (upd (upd x 1 (.agg #[.int .i64 4,.string ⟨#[92]⟩,.int .i64 0,.int .i64 0,.int .i64 0])) 2 (.agg #[.int .i64 2,.string s,.int .i64 0,.int .i64 0,.int .i64 0])) 3 (.agg #[.int .i64 4,.string ⟨#[45,62]⟩,.int .i64 0,.int .i64 0,.int .i64 0])) 4 (.slice (some ⟨Vr.heap.size,0,none⟩) 3 3),rfl,fun h=>(by cases h),fun _ _=>⟨hbn.out,_,rfl,ht3.out⟩,fun h=>absurd (n5.symm.trans h) (by decide),fun h=>absurd (n6.symm.trans h) (by decide),c4,VO.free (((hx.put 1 rfl).put 2 rfl).put 3 rfl) 4 rfl _⟩
    case s5 =>
     have e0:=hx.get 0 rfl (hd 0 (by simp))
     rw [e0]
     clear e0
     have n6:f 6=false:=by cases h:f 6;rfl;exact absurd (hcl 6 5 (by kernel_rfl) (h)) (by rw [hf];simp)
     have y0:f 0=true:=hd 0 (by simp)
     have y1:f 1=true:=hcl 4 1 (by kernel_rfl) (hd 4 (by simp))
     have y3:f 3=true:=hcl 4 3 (by kernel_rfl) (hd 4 (by simp))
     have y4:f 4=true:=hd 4 (by simp)
     obtain ⟨hb,g,e4,hT⟩:=c1 y4 hf
     obtain ⟨b8,V1,hrun,htw8,hg8⟩:=(htw7'.out.below hb).swap.app hT hl3.out.1 hl3.out.2 (Nat.le_trans hl3w.out hb.size)
     rw [e4]
     refine wanted_run (by rfl) ?_
     refine wp_append_run (.tmp 57) (.tmp 61) 22 _ _ _ _ _ rfl rfl rfl hrun ?_
     exact hK _ _ ⟨upd (upd (upd x 0 (u8)) 4 (.slice (some ⟨g,0,none⟩) 3 3)) 5 b8,rfl,fun h=>absurd (y4.symm.trans h) (by decide),fun _ h=>(by cases h),fun _=>⟨Vr,hb,hg8,htw8⟩,fun h=>absurd (n6.symm.trans h) (by decide),c4,VO.free (VO.keep (hx.put 0 rfl) 4 rfl _) 5 rfl _⟩
    case s6 =>
     have y0:f 0=true:=hcl 5 0 (by kernel_rfl) (hd 5 (by simp))
     have y1:f 1=true:=hcl 4 1 (by kernel_rfl) (hcl 5 4 (by kernel_rfl) (hd 5 (by simp)))
     have y3:f 3=true:=hcl 4 3 (by kernel_rfl) (hcl 5 4 (by kernel_rfl) (hd 5 (by simp)))
     have y4:f 4=true:=hcl 5 4 (by kernel_rfl) (hd 5 (by simp))
     have y5:f 5=true:=hd 5 (by simp)
     go_simp
     exact hK _ _ ⟨upd x 6 (x 5),rfl,c0,c1,c2,fun _=>c2 y5,fun h=>(by cases h),VO.free hx 6 rfl _⟩
   case last =>
    rintro f a Vr hf ⟨x,rfl,c0,c1,c2,c3,c4,hx⟩
    obtain ⟨V8,hbV,hgV,htwN⟩:=c3 (hf 6 (by simp))
    obtain ⟨b8,hb8⟩:∃ b,x 6=b:=⟨_,rfl⟩
    rw [hb8] at htwN ⊢
    have htwV:=(htw7'.out.below hbV).swap
    have hbwV:=hb7.out.trans (hbV.mono hb7.out.size)
    have hbz:=Lib.hid (htwV.low hgV hbwV (Nat.le_trans hl3w.out hbV.size))
    have ptxz:Hid (Blk Vr W1.heap.size (.cells #[.string ⟨#[120]⟩,.string ⟨#[121]⟩,.string ⟨#[122]⟩,.string ⟨#[97,66]⟩,.string ⟨#[99,49]⟩] 9 (0,0))):=htwV.blk hgV (by decide) (ptx7.out.below hbV)
    have htwn:Hid (TwoR w.heap.size (rowA (ns.take (k + 1))) (rowB (ns.take (k + 1))) a7 b8 Vr):=by rw [hAs'.out,hBs'.out];exact htwN.swap
    obtain ⟨V9,rfl⟩:∃ V,V=Vr:=⟨_,rfl⟩
    clear c0 c1 c2 c3 c4 hx hf htwN htwV hbwV hbV hgV hb8
    go_wp2_with fail
    go_roundw
    case rel=>exact ⟨k + 1,by omega,by go_num,htwn,ptxz,hbz⟩
    case measure=>simp [intOf];omega
  ·
   obtain rfl:k=ns.length:=by omega
   have h1i:¬ (ns.length:Int) < (ns.length:Int):=by omega
   have htw0:=htw.out
   rw [List.take_length] at htw0
   have htw':=Lib.hid htw0
   have hrl:=rowA_len ns
   have hrl2:=rowB_len ns
   have hrl':=Lib.hid hrl
   have hrl2':=Lib.hid hrl2
   have hfl:Hid (∀ c,TkFit (sgT [c])):=fun c=>fit_small (show 1≤100 by decide)
   clear htw0 htw hrl hrl2
   go_wp2_with fail
   refine (hsg.out _ _).mono ?_
   rintro e Y1 ⟨rfl,hY1⟩
   obtain ⟨W5,hW5⟩:∃ W,Y1.alloc (.cells #[.int .i64 4,.string ⟨#[61]⟩,.int .i64 0,.int .i64 0,.int .i64 0] 51)=W:=⟨_,rfl⟩
   have hbW5:Below Y1.heap.size Y1 W5:=by rw [←hW5];exact (Below.refl _ _).alloc (Nat.le_refl _) _
   have hhW5:W5.heap[Y1.heap.size]?=some (.cells (tkC (sgT [61])).toArray 51 (0,0)):=by rw [←hW5];exact Blk.new
   have hW5':=Lib.hid hW5
   have t5:=(htw'.out.below hY1).below hbW5
   have b5:=hbw.out.trans ((hY1.trans (hbW5.mono hY1.size)).mono hbw.out.size)
   obtain ⟨x1,V5,hrun1,t6,hg6⟩:=t5.app (tk_src hhW5) (by have:=hrl'.out;omega) (by simp) b5.size
   have b6:=t5.low hg6 b5 b5.size
   obtain ⟨x2,V6,hrun2,t7,hg7⟩:=t6.app (hv'.out.keeps (Keeps.of_below b6)) (by have:=hrl'.out;simp;omega) (by omega) b6.size
   have b7:=Lib.hid (t6.low hg7 b6 b6.size)
   have t7':=Lib.hid t7
   have hrun1':=Lib.hid hrun1
   have hrun2':=Lib.hid hrun2
   clear hW5 hbW5 hhW5 t5 b5 hrun1 t6 hg6 b6 hrun2 t7 hg7 hY1 htw' hbw ptx
   go_wp2_with (at_builtin;go_must (first | (rw [hW5'.out];refine wpList_app_run (.tmp 63) (.tmp 65) 22 rfl _ _ _ _ _ rfl rfl rfl hrun1'.out ?_) | refine wpList_app_run (.tmp 66) (.tmp 67) 22 rfl _ _ _ _ _ rfl rfl rfl hrun2'.out ?_))
   refine (hsg.out _ _).mono ?_
   rintro e Y2 ⟨rfl,hY2⟩
   obtain ⟨W7,hW7⟩:∃ W,Y2.alloc (.cells #[.int .i64 4,.string ⟨#[125]⟩,.int .i64 0,.int .i64 0,.int .i64 0] 51)=W:=⟨_,rfl⟩
   have hbW7:Below Y2.heap.size Y2 W7:=by rw [←hW7];exact (Below.refl _ _).alloc (Nat.le_refl _) _
   have hhW7:W7.heap[Y2.heap.size]?=some (.cells (tkC (sgT [125])).toArray 51 (0,0)):=by rw [←hW7];exact Blk.new
   have hW7':=Lib.hid hW7
   have t8:=(t7'.out.below hY2).below hbW7
   have b8:=b7.out.trans ((hY2.trans (hbW7.mono hY2.size)).mono b7.out.size)
   obtain ⟨x3,V8,hrun3,t9,hg9⟩:=t8.app (tk_src hhW7) (by have:=hrl'.out;simp;omega) (by simp) b8.size
   have b9:=t8.low hg9 b8 b8.size
   obtain ⟨x4,V9,hrun4,t10,hg10⟩:=t9.swap.app (hv'.out.keeps (Keeps.of_below b9)) (by have:=hrl2'.out;omega) (by omega) b9.size
   have b10:=Lib.hid (t9.swap.low hg10 b9 b9.size)
   have t10':=Lib.hid t10
   have hrun3':=Lib.hid hrun3
   have hrun4':=Lib.hid hrun4
   clear hW7 hbW7 hhW7 t8 b8 hrun3 t9 hg9 b9 hrun4 t10 hg10 hY2 t7' b7
   go_wp2_with (at_builtin;go_must (first | (rw [hW7'.out];refine wpList_app_run (.tmp 68) (.tmp 70) 22 rfl _ _ _ _ _ rfl rfl rfl hrun3'.out ?_) | refine wpList_app_run (.tmp 72) (.tmp 73) 22 rfl _ _ _ _ _ rfl rfl rfl hrun4'.out ?_))
   refine (hsg.out _ _).mono ?_
   rintro e Y3 ⟨rfl,hY3⟩
   obtain ⟨W10,hW10⟩:∃ W,Y3.alloc (.cells #[.int .i64 4,.string ⟨#[125]⟩,.int .i64 0,.int .i64 0,.int .i64 0] 51)=W:=⟨_,rfl⟩
   have hbW10:Below Y3.heap.size Y3 W10:=by rw [←hW10];exact (Below.refl _ _).alloc (Nat.le_refl _) _
   have hhW10:W10.heap[Y3.heap.size]?=some (.cells (tkC (sgT [125])).toArray 51 (0,0)):=by rw [←hW10];exact Blk.new
   have hW10':=Lib.hid hW10
   have t11:=(t10'.out.below hY3).below hbW10
   have b11:=b10.out.trans ((hY3.trans (hbW10.mono hY3.size)).mono b10.out.size)
   obtain ⟨x5,V11,hrun5,t12,hg12⟩:=t11.app (tk_src hhW10) (by have:=hrl2'.out;simp;omega) (by simp) b11.size
   have b12:=Lib.hid (t11.low hg12 b11 b11.size)
   have hrun5':=Lib.hid hrun5
   have rows:=rows_same ns l
   have fa:∀ t ∈ rowA ns ++ [sgT [61]] ++ l ++ [sgT bShut],TkFit t:=fun t ht=>by
    rcases List.mem_append.1 ht with ht | ht
    ·
     rcases List.mem_append.1 ht with ht | ht
     ·
      rcases List.mem_append.1 ht with ht | ht
      ·
       exact rowA_fit ns t ht
      ·
       rw [List.mem_singleton] at ht;rw [ht];exact hfl.out 61
     ·
      exact hfit.out t ht
    ·
     rw [List.mem_singleton] at ht;rw [ht];exact hfl.out 125
   have fb:∀ t ∈ rowB ns ++ l ++ [sgT bShut],TkFit t:=fun t ht=>by
    rcases List.mem_append.1 ht with ht | ht
    ·
     rcases List.mem_append.1 ht with ht | ht
     ·
      exact rowB_fit ns t ht
     ·
      exact hfit.out t ht
    ·
     rw [List.mem_singleton] at ht;rw [ht];exact hfl.out 125
   have hd1:=Lib.hid (call_pgo V11 x3 (rowA ns ++ [sgT [61]] ++ l ++ [sgT bShut]) (TkSl.own t12.ob) (by have:=hrl'.out;simp;omega) fa)
   have hvb:=TkSl.own t12.oa
   have hd2:Hid (∀ W,Below V11.heap.size V11 W→_):=Lib.hid (fun W hW=>call_pgo W x5 (rowB ns ++ l ++ [sgT bShut]) (hvb.keeps (Keeps.of_below hW)) (by have:=hrl2'.out;simp;omega) fb)
   rw [rows] at hd1
   obtain ⟨R,hR⟩:∃ R,PgO (rowB ns ++ l ++ [sgT bShut])=R:=⟨_,rfl⟩
   rw [hR] at hd1 hd2
   obtain ⟨P,z⟩:=R
   simp only at hd1 hd2
   clear hW10 hbW10 hhW10 t11 b11 hrun5 t12 hg12 hY3 t10' b10 rows fa fb hvb hR
   go_wp2_with (at_builtin;go_must (rw [hW10'.out];refine wpList_app_run (.tmp 74) (.tmp 76) 22 rfl _ _ _ _ _ rfl rfl rfl hrun5'.out ?_))
   refine hd1.out.mono ?_
   rintro e V12 ⟨⟨a1,m1,u1,a2,m2,u2,px,py,rfl,hP⟩,hB⟩
   obtain ⟨W12,hW12⟩:∃ W,(V12.alloc (.cells #[.slice a1 m1 u1,.slice a2 m2 u2] 38)).alloc (.cells #[.int .i64 px,.int .i64 py] 29)=W:=⟨_,rfl⟩
   obtain ⟨p11,_,hb12⟩:=two_new V12 #[.slice a1 m1 u1,.slice a2 m2 u2] #[.int .i64 px,.int .i64 py] 38 29
   rw [hW12] at p11 hb12
   have hbb:=hB.trans (hb12.mono hB.size)
   have hd3:=Lib.hid (hd2.out W12 hbb)
   have hbq:=Lib.hid (b12.out.trans (hbb.mono b12.out.size))
   have hP1:=Lib.hid (IsPg.keeps (Keeps.of_below hb12) hP)
   have p11':=Lib.hid p11
   have hW12':=Lib.hid hW12
   clear hW12 hb12 hB hbb hP p11 hd2 hd1 b12
   go_upto_region 16 with (fail)
   rw [hW12'.out]
   go_wp2_with fail
   refine hd3.out.mono ?_
   rintro e V13 ⟨⟨a3,m3,u3,a4,m4,u4,qx,qy,rfl,hQ⟩,hB⟩
   obtain ⟨W13,hW13⟩:∃ W,(V13.alloc (.cells #[.slice a3 m3 u3,.slice a4 m4 u4] 38)).alloc (.cells #[.int .i64 qx,.int .i64 qy] 29)=W:=⟨_,rfl⟩
   obtain ⟨p14,_,hb13⟩:=two_new V13 #[.slice a3 m3 u3,.slice a4 m4 u4] #[.int .i64 qx,.int .i64 qy] 38 29
   rw [hW13] at p14 hb13
   have hbb:=hB.trans (hb13.mono hB.size)
   have p11z:=p11'.out.below hbb
   have hSame:=Lib.hid (r_SameP P P _ _ W13 (IsPg.keeps (Keeps.of_below hbb) hP1.out) (IsPg.keeps (Keeps.of_below hb13) hQ))
   rw [eqB_true rfl] at hSame
   have hbz:=Lib.hid (hbq.out.trans (hbb.mono hbq.out.size))
   have z0:W13.cell? ⟨V12.heap.size,0,none⟩=some (.slice a1 m1 u1):=(p11z.cl 0).trans rfl
   have z1:W13.cell? ⟨V12.heap.size,1,none⟩=some (.slice a2 m2 u2):=(p11z.cl 1).trans rfl
   have y0:W13.cell? ⟨V13.heap.size,0,none⟩=some (.slice a3 m3 u3):=(p14.cl 0).trans rfl
   have y1:W13.cell? ⟨V13.heap.size,1,none⟩=some (.slice a4 m4 u4):=(p14.cl 1).trans rfl
   have hzz:(z == z)=true:=beq_self_eq_true z
   have hW13':=Lib.hid hW13
   clear hW13 hb13 hB hbb hQ p14 p11z hd3 hP1
   go_upto_region 17 with (fail)
   rw [hW13'.out]
   go_wp2_with fail
   refine hSame.out.mono ?_
   rintro e V14 ⟨rfl,hB⟩
   have hbf:=Lib.hid (hbz.out.trans (hB.mono hbz.out.size))
   clear hB
   go_wp2_with fail
   go_ret
   exact ⟨rfl,hbf.out⟩
end Go.Proofs.YtinjocchommbdaaGreatDoor
