/- A part of the proof that parser laws hold: texts of the walk and of its plain laws, made small. -/
import Derived.Test.YtinjocchommbdaaGreatDoorM13
import Derived.Test.YtinjocchommbdaaGreatDoorM15
import Derived.Test.YtinjocchommbdaaGreatDoorM08
import Derived.Laws.OwnMore
import Derived.Test.YtinjocchommbdaaGreatDoorM16
set_option linter.unusedVariables false
set_option linter.unusedSimpArgs false
namespace Go.Proofs.YtinjocchommbdaaGreatDoor
open Go.RowKit
def numsB (l:Bs):List Int:=l.map fun b=>(b.toNat:Int)
theorem numsB_len (l:Bs):(numsB l).length=l.length:=by simp [numsB]
theorem numsB_bytes (l:Bs):Lib.bytesOf (numsB l)=l:=by
 unfold Lib.bytesOf numsB
 rw [List.map_map]
 conv=>rhs;rw [←List.map_id l]
 apply List.map_congr_left
 intro b _
 simp
theorem ByteRow.inn {w:World} {a:Option Addr} {l:Bs} (h:ByteRow w a l):Lib.BytesIn w a l.length (numsB l):=by
 rcases h with h | ⟨b,off,rfl,h⟩
 ·
  subst h;exact Lib.BytesIn.nil _ _ _
 ·
  refine Lib.BytesIn.of_cells fun i hi=>?_
  rw [addr_plus,h i hi]
  simp [numsB,List.getD,hi]
theorem ByteRow.keeps {w W:World} {a:Option Addr} {l:Bs} (h:ByteRow w a l) (hk:Keeps w W):ByteRow W a l:=by
 rcases h with h | ⟨b,off,rfl,h⟩
 ·
  exact .inl h
 ·
  exact .inr ⟨b,off,rfl,fun i hi=>hk _ _ (h i hi)⟩
theorem has_prefix (a p:Option Addr) (l m:Bs) (c d:Nat) (w:World) (hc:l.length≤c) (h:ByteRow w a l) (h2:ByteRow w p m):Calls Tryz.prog 46 #[.slice a l.length c,.slice p m.length d] w fun e w'=>e=.returned (.bool (m.isPrefixOf l))∧w'=w:=by
 have:=Tryz.bytes_HasPrefix_all a p l.length c m.length d (numsB l) (numsB m) w (numsB_len l) (numsB_len m) hc h.inn h2.inn
 rw [numsB_bytes,numsB_bytes] at this
 exact this
def dblL:List Bs:=[[45,62],[60,45],[61,61]]
def oneL:Bs:=[61,60,43,45,42,47,92,40,41,123,125,59,124]
def signN (l:Bs):Nat:=if dblL.any (fun m=>m.isPrefixOf l) then 2 else if (l.head?.map fun b=>oneL.contains b).getD false then 1 else 0
theorem index_has (l:Bs) (c:UInt8):decide ((0:Int)≤Lib.indexByte l c)=l.contains c:=by
 induction l with
 | nil=>rfl
 | cons b r ih =>
  unfold Lib.indexByte
  rw [List.contains_cons]
  by_cases h:b=c
  ·
   subst h;simp
  ·
   have h2:(b == c)=false:=by simpa using h
   have h3:(c == b)=false:=by simpa using fun e=>h e.symm
   rw [h2,h3,Bool.false_or,←ih]
   have:=Lib.indexByte_ge r c
   by_cases h4:Lib.indexByte r c=-1
   ·
    simp [h4]
   ·
    have h5:(Lib.indexByte r c == -1)=false:=by simpa using h4
    simp only [h5]
    rw [if_neg (by simp),if_neg (by simp),decide_eq_true (by omega),decide_eq_true (by omega)]
theorem signs_dbl:signsL=dblL ++ oneL.map (fun b=>[b]):=rfl
theorem dbl_two:∀ m ∈ dblL,m.length=2:=by decide
theorem sign_tok (l:Bs):(signsL.find? fun m=>m.isPrefixOf l)=if 0 < signN l then some (l.take (signN l)) else none:=by
 rw [signs_dbl,List.find?_append]
 unfold signN
 cases hd:dblL.any (fun m=>m.isPrefixOf l)
 ·
  have hn:(dblL.find? fun m=>m.isPrefixOf l)=none:=by
   rw [List.find?_eq_none]
   intro m hm h
   rw [List.any_eq_false] at hd
   exact hd m hm h
  rw [hn,Option.none_or]
  cases l with
  | nil =>
   have:((oneL.map (fun b=>[b])).find? fun m=>m.isPrefixOf ([]:Bs))=none:=by decide
   rw [this];rfl
  | cons c r =>
   have hp:∀ (q:Bs),((q.map (fun b=>[b])).find? fun m=>m.isPrefixOf (c :: r))=if q.contains c=true then some [c] else none:=by
    intro q
    induction q with
    | nil=>rfl
    | cons b q ih =>
     rw [List.map_cons,List.find?_cons,List.contains_cons]
     have hb:([b]:Bs).isPrefixOf (c :: r)=(b == c):=by simp [List.isPrefixOf]
     rw [hb]
     by_cases h:b=c
     ·
      subst h;simp
     ·
      have h2:(b == c)=false:=by simpa using h
      have h3:(c == b)=false:=by simpa using fun e=>h e.symm
      rw [h2,h3,Bool.false_or]
      exact ih
   rw [hp]
   simp only [List.head?_cons,Option.map_some,Option.getD_some]
   by_cases hx:c ∈ oneL
   ·
    simp [hx]
   ·
    simp [hx]
 ·
  rw [List.any_eq_true] at hd
  obtain ⟨m,hm,hp⟩:=hd
  cases hf:dblL.find? fun m=>m.isPrefixOf l with
  | none =>
   rw [List.find?_eq_none] at hf
   exact absurd hp (hf m hm)
  | some q =>
   have h1:=dbl_two q (List.mem_of_find?_eq_some hf)
   have h2:=List.find?_some hf
   rw [List.isPrefixOf_iff_prefix,List.prefix_iff_eq_take,h1] at h2
   rw [Option.some_or,if_pos rfl,if_pos (by decide),←h2]
theorem signN_cons {b:UInt8} {r:Bs} (h:dblL.any (fun m=>m.isPrefixOf (b :: r))=false):signN (b :: r)=if oneL.contains b=true then 1 else 0:=by unfold signN;rw [h];rfl
def dblS:List Str:=dblL.map tS
theorem ext_byte (b:UInt8):((b.toNat:Int).toNat).toUInt8=b:=by simp
set_option maxHeartbeats 2000000 in
theorem lex_sign (a:Option Addr) (l:Bs) (cap:Nat) (w:World) (hl:l.length≤1000000) (hc:l.length≤cap) (hr:ByteRow w a l) :
  Calls Tryz.prog 115 #[.slice a l.length cap] w fun r w'=>r=.returned (.int .i64 (signN l))∧Below w.heap.size w w':=by
 have hcv:=fun (w:World) (s:Str)=>Lib.run_convert_string_bytes (P:=Tryz.prog) w 9 42 5 s Tryz.underlying9 Tryz.underlying42 Tryz.underlying5
 obtain ⟨L,hL⟩:∃ L,dblS=L:=⟨_,rfl⟩
 obtain ⟨W1,hW1⟩:∃ W,w.alloc (.cells (dblS.map Value.string).toArray 9)=W:=⟨_,rfl⟩
 have hW1b:w.alloc (.cells #[.string ⟨#[45,62]⟩,.string ⟨#[60,45]⟩,.string ⟨#[61,61]⟩] 9)=W1:=hW1
 have hrow:StrRow W1 (some ⟨w.heap.size,0,none⟩) L:=by rw [←hW1,←hL];exact strRow_new w dblS 9 (by decide)
 have hB1:Below w.heap.size w W1:=by rw [←hW1];exact (Below.refl _ w).alloc (Nat.le_refl _) _
 have hr1:=hr.keeps (Keeps.of_below hB1)
 have hlen:L.length=3:=by rw [←hL];rfl
 have hLk:Hid (∀ k (h:k < L.length) (h2:k < dblL.length),L[k]=tS dblL[k]):=by
  subst hL
  exact fun k h h2=>List.getElem_map tS
 have hr1':=Lib.hid hr1
 have hB1':=Lib.hid hB1
 have hrow':=Lib.hid hrow
 have hW1':=Lib.hid hW1b
 clear hL hW1 hW1b hrow hB1 hr1 hr
 go_enter Tryz.func115,Tryz.ntmps115
 go_upto_region 2 with (fail)
 rw [hW1'.out]
 go_loopw [7] (fun n W=>∃ k:Nat,k≤3∧n=.int .i64 k∧Hid (∀ i (hi:i < k) (hs:i < dblL.length),dblL[i].isPrefixOf l=false)∧Hid (Below W1.heap.size W1 W)) (fun n _=>3 - (intOf n).toNat)
 case atStart=>exact ⟨0,by omega,rfl,fun i hi=>(by omega),Below.refl _ _⟩
 case round =>
  obtain ⟨k,hk,rfl,hall,hBW⟩:=hrel
  obtain ⟨Wr,rfl⟩:∃ W,W=wr:=⟨_,rfl⟩
  by_cases hlt:k < 3
  ·
   have hkL:k < L.length:=by omega
   have hki:(k:Int) < 3:=by omega
   rcases hrow'.out with hr | ⟨rb,ro,hra,hr⟩
   ·
    rw [hr] at hlen;simp at hlen
   injection hra with hra
   injection hra with hrb hro
   subst hrb hro
   have hcV:=Keeps.of_below hBW.out _ _ (hr k hkL).1
   rw [Nat.zero_add] at hcV
   have hLe:Hid (L[k]=tS (dblL[k]'(by have:dblL.length=3:=rfl;omega))):=hLk.out k hkL _
   generalize L[k]=m at hcV hLe
   have hbb:=below_bytesWorld Wr 5 m
   have hhp:=has_prefix a (some ⟨Wr.heap.size,0,none⟩) l m.toList cap (grownCap Wr m.size 0 5) (Lib.bytesWorld Wr 5 m) hc ((hr1'.out.keeps (Keeps.of_below hBW.out)).keeps (Keeps.of_below hbb)) (byteRow_bytesWorld _ _ _)
   have hsz:m.toList.length=m.size:=by rw [Lib.toList_data,Lib.size_eq]
   have hm2:m.size=2:=by rw [hLe.out];exact dbl_two _ (List.getElem_mem _)
   rw [hsz,hm2,toL] at hhp
   have hhp':=Lib.hid hhp
   have hB3:=Lib.hid (hBW.out.trans (hbb.mono hBW.out.size))
   have hpm:Hid (∀ q,bS m=dblL[k]'q):=fun q=>by rw [hLe.out,bS_tS]
   clear hr hhp hbb hsz
   cases hp:(bS m).isPrefixOf l
   ·
    have hp':=Lib.hid hp
    rw [hp] at hhp'
    clear hp
    go_wp2_with fail
    refine hhp'.out.mono ?_
    rintro e V ⟨rfl,rfl⟩
    go_wp2_with fail
    go_roundw
    case rel=>exact ⟨k + 1,by omega,by go_num,(fun i hi hs=>by
     rcases Nat.lt_or_ge i k with h | h
     ·
      exact hall.out i h hs
     ·
      obtain rfl:i=k:=by omega
      rw [←hpm.out hs];exact hp'.out),hB3.out⟩
    case measure=>simp [intOf];omega
   ·
    have hp':=Lib.hid hp
    rw [hp] at hhp'
    clear hp
    go_wp2_with fail
    refine hhp'.out.mono ?_
    rintro e V ⟨rfl,rfl⟩
    go_wp2_with fail
    go_ret
    refine ⟨ret_int ?_,hB1'.out.trans (hB3.out.mono hB1'.out.size)⟩
    have hany:dblL.any (fun m=>m.isPrefixOf l)=true:=by
     rw [List.any_eq_true]
     have hlt':k < dblL.length:=by have:dblL.length=3:=rfl;omega
     refine ⟨dblL[k],List.getElem_mem hlt',?_⟩
     rw [←hpm.out hlt']
     exact hp'.out
    unfold signN
    rw [hany];rfl
  ·
   have hki:¬ (k:Int) < 3:=by omega
   have hany:Hid (dblL.any (fun m=>m.isPrefixOf l)=false):=by
    unfold Hid
    rw [List.any_eq_false]
    intro m hm
    obtain ⟨i,hi,rfl⟩:=List.getElem_of_mem hm
    rw [hall.out i (by have:dblL.length=3:=rfl;omega) hi]
    simp
   have hBw:=Lib.hid (hB1'.out.trans (hBW.out.mono hB1'.out.size))
   cases l with
   | nil =>
    go_wp2_with fail
    go_ret
    exact ⟨ret_int (by unfold signN;rw [hany.out];rfl),hBw.out⟩
   | cons b r =>
    rcases hr1'.out.keeps (Keeps.of_below hBW.out) with hx | ⟨rb,ro,rfl,hx⟩
    ·
     cases hx
    have hg:=hx 0 (by simp)
    rw [List.getElem_cons_zero,Nat.add_zero] at hg
    have hix:=Tryz.strings_IndexByte (tS oneL) (b.toNat:Int) Wr
    rw [show (tS oneL).data.toList=oneL from rfl,ext_byte] at hix
    obtain ⟨x,hx'⟩:∃ x,Lib.indexByte oneL b=x:=⟨_,rfl⟩
    rw [hx'] at hix
    have hix':=Lib.hid hix
    have hxc:Hid (decide ((0:Int)≤x)=oneL.contains b):=by unfold Hid;rw [←hx',index_has]
    have hlp:(0:Int) < ((b :: r).length:Int):=by simp only [List.length_cons];omega
    clear hx hix hx'
    by_cases hx0:0≤x
    ·
     have hcn:Hid (oneL.contains b=true):=by unfold Hid;rw [←hxc.out,decide_eq_true hx0]
     go_wp2_with fail
     refine hix'.out.mono ?_
     rintro e V ⟨rfl,rfl⟩
     go_wp2_with fail
     go_ret
     exact ⟨ret_int (by rw [signN_cons hany.out,hcn.out];rfl),hBw.out⟩
    ·
     have hcn:Hid (oneL.contains b=false):=by unfold Hid;rw [←hxc.out,decide_eq_false hx0]
     go_wp2_with fail
     refine hix'.out.mono ?_
     rintro e V ⟨rfl,rfl⟩
     go_wp2_with fail
     go_ret
     exact ⟨ret_int (by rw [signN_cons hany.out,hcn.out];rfl),hBw.out⟩
end Go.Proofs.YtinjocchommbdaaGreatDoor
namespace Go.Proofs.YtinjocchommbdaaGreatDoor
open Go.RowKit
theorem ByteRow.take {w:World} {a:Option Addr} {l:Bs} (h:ByteRow w a l) (n:Nat):ByteRow w a (l.take n):=by
 rcases h with h | ⟨b,off,rfl,h⟩
 ·
  subst h;exact .inl (by simp)
 ·
  refine .inr ⟨b,off,rfl,fun i hi=>?_⟩
  rw [List.length_take] at hi
  rw [h i (by omega),List.getElem_take]
theorem Box5.put2 {w:World} {t:TypeId} {b:Nat} {x0 x1 x2 x3 x4:Value} (h:Box5 w t b x0 x1 x2 x3 x4) (y:Value):Box5 (w.setCell ⟨b,2,none⟩ y) t b x0 x1 y x3 x4∧OneSet b w (w.setCell ⟨b,2,none⟩ y):=by
 unfold Box5 at h
 exact ⟨by unfold Box5;simp [World.setCell,Array.getElem?_modify,h],OneSet.cell _ _ _ _⟩
def RngOk (w:World):Prop:=∃ te pe,w.cell? ⟨2,0,none⟩=some (.iface te pe)
theorem RngOk.keeps {w W:World} (h:RngOk w) (hk:Keeps w W):RngOk W:=by
 obtain ⟨te,pe,h⟩:=h
 exact ⟨te,pe,hk _ _ h⟩
theorem answers_digit (w:World):Answers Tryz.prog 111 #[] dgB w:=fun W x _=>by rw [←dig_fun];exact lex_digit x W
theorem enters_digit (args:Array Value) (w:World):(callFunc 111 args).run Tryz.prog w=.ok (.enter 111 args) w:=Tryz.call111 args w
theorem runN_pos {p:UInt8→Bool} {l:Bs}:0 < runN p l↔headB p l=true:=by
 cases l with
 | nil=>simp [runN,headB]
 | cons b r =>
  cases h:p b
  ·
   simp [runN,headB,List.takeWhile_cons,h]
  ·
   simp [runN,headB,List.takeWhile_cons,h]
theorem signN_le (l:Bs):signN l≤l.length:=by
 unfold signN
 split
 ·
  rename_i h
  rw [List.any_eq_true] at h
  obtain ⟨m,hm,hp⟩:=h
  rw [List.isPrefixOf_iff_prefix] at hp
  have:=hp.length_le
  rw [dbl_two m hm] at this
  exact this
 ·
  split
  ·
   cases l with
   | nil=>rename_i h;simp at h
   | cons b r=>simp
  ·
   exact Nat.zero_le _
theorem runN_le (p:UInt8→Bool) (l:Bs):runN p l≤l.length:=by unfold runN;exact (List.takeWhile_prefix p).length_le
theorem call_digits (l:Bs) (hd:l.all dgB=true) (hne:l≠[]) (hl:l.length≤1000000) (w:World) (hE:RngOk w):Calls Tryz.prog 112 #[.string (tS l),.int .i64 10,.int .i64 64] w fun e w'=>∃ ev:Value,∃ x:Int,e=.returned (.tuple #[.int .i64 x,ev])∧(numL l≤maxI→x=numL l∧ev=.nilIface)∧(¬ numL l≤maxI→∃ t p,ev=.iface t p)∧Below w.heap.size w w':=by
 obtain ⟨te,pe,hE⟩:=hE
 have ha:=atoi_digits hne hd
 have hsz:(tS l).size=l.length:=rfl
 have hdt:(tS l).data.toList=l:=rfl
 by_cases h:numL l≤maxI
 ·
  rw [if_pos h] at ha
  refine (Tryz.strconv_ParseInt_10_at64_ok (tS l) (by rw [hsz];omega) (numL l:Int) (by rw [hdt];exact ha) w).mono ?_
  rintro e w' ⟨rfl,hw⟩
  refine ⟨_,_,rfl,fun _=>⟨rfl,rfl⟩,fun h2=>absurd h h2,?_⟩
  rcases hw with rfl | ⟨t,rfl⟩
  ·
   exact Below.refl _ _
  ·
   exact below_bytesWorld _ _ _
 ·
  rw [if_neg h] at ha
  refine (Tryz.strconv_ParseInt_10_at64_range (tS l) (by rw [hsz];omega) (by rw [hdt];exact ha) (.iface te pe) w hE (.inr ⟨te,pe,rfl⟩)).mono ?_
  rintro e w' ⟨N,rfl,hN,hc,hB⟩
  exact ⟨_,_,rfl,fun h2=>absurd h2 h,fun _=>⟨_,_,rfl⟩,hB⟩
set_option maxHeartbeats 4000000 in
set_option maxRecDepth 100000 in
theorem lex_token (a:Option Addr) (l:Bs) (cap:Nat) (w:World) (hl:l.length≤1000000) (hc:l.length≤cap) (hr:ByteRow w a l) (hE:RngOk w) :
  Calls Tryz.prog 47 #[.slice a l.length cap] w fun r w'=>TokR (tokF l) r∧Below w.heap.size w w':=by
 obtain ⟨W1,hW1⟩:∃ W,w.alloc (.cells #[.int .i64 0,.string ⟨#[]⟩,.int .i64 0,.int .i64 0,.int .i64 0] 51)=W:=⟨_,rfl⟩
 have hb1:Below w.heap.size w W1:=by rw [←hW1];exact (Below.refl _ w).alloc (Nat.le_refl _) _
 have hx1:Box5 W1 51 w.heap.size (.int .i64 0) (.string ⟨#[]⟩) (.int .i64 0) (.int .i64 0) (.int .i64 0):=by rw [←hW1];exact blk_new (Below.refl _ _)
 have hr1:=Lib.hid (hr.keeps (Keeps.of_below hb1))
 have hE1:=Lib.hid (hE.keeps (Keeps.of_below hb1))
 have hW1':=Lib.hid hW1
 have hb1':=Lib.hid hb1
 have hx1':=Lib.hid hx1
 obtain ⟨o,ho⟩:∃ o,tokF l=o:=⟨_,rfl⟩
 rw [ho]
 have ho':=Lib.hid ho
 have hrun1:=lex_run a l cap 111 #[] dgB W1 (by unfold lenMax;omega) hr1.out (answers_digit _) enters_digit
 obtain ⟨n,hn⟩:∃ n,runN dgB l=n:=⟨_,rfl⟩
 rw [hn] at hrun1
 have hrun1':=Lib.hid hrun1
 have hn':=Lib.hid hn
 have hnl:n≤l.length:=by rw [←hn];exact runN_le _ _
 have hpos:=runN_pos (p:=dgB) (l:=l)
 rw [hn] at hpos
 have hpos':=Lib.hid hpos
 clear hW1 hb1 hx1 ho hr hE hrun1 hn hpos
 go_enter Tryz.func47,Tryz.ntmps47
 go_upto_region 1 with (fail)
 rw [hW1'.out]
 go_upto_region 2 with ((with_reducible refine hrun1'.out.mono ?_);rintro e V ⟨rfl,rfl⟩)
 by_cases hn0:0 < n
 ·
  have hn0i:(0:Int) < (n:Int):=by omega
  have hni:(n:Int)≤(cap:Int):=by omega
  have htl:(l.take n).length=n:=by rw [List.length_take];omega
  have hcv:=fun (W:World) (c:Nat) (h:ByteRow W a (l.take n))=>conv_row W a (l.take n) c h
  rw [htl] at hcv
  have hcv1:=fun c=>hcv W1 c (hr1.out.take n)
  have htw:Hid (l.takeWhile dgB=l.take n):=by unfold Hid;rw [←take_run,hn'.out]
  clear hcv htl
  obtain ⟨S,hS⟩:∃ S,tS (l.take n)=S:=⟨_,rfl⟩
  rw [hS] at hcv1
  obtain ⟨W2,hW2⟩:∃ W,World.set5 W1 w.heap.size (.int .i64 1) (.string S) (.int .i64 0) (.int .i64 0) (.int .i64 0)=W:=⟨_,rfl⟩
  have hU:=hx1'.out.set (.int .i64 1) (.string S) (.int .i64 0) (.int .i64 0) (.int .i64 0)
  rw [hW2] at hU
  unfold World.set5 at hW2
  have hW2':=Lib.hid hW2
  have hpar:=call_digits (l.take n) (by rw [←htw.out];exact all_take_run _ _) (by intro e;have:=congrArg List.length e;rw [List.length_take,List.length_nil] at this;omega) (by rw [List.length_take];omega) W2 (by
   obtain ⟨te,pe,h⟩:=hE1.out
   refine ⟨te,pe,?_⟩
   by_cases h2:(2:Nat)=w.heap.size
   ·
    have hc:=hx1'.out.cells.1.1
    rw [←h2,h] at hc;cases hc
   ·
    unfold World.cell? at h ⊢
    rw [hU.2.other 2 h2];exact h)
  rw [hS] at hpar
  have hpar':=Lib.hid hpar
  have hU':=Lib.hid hU
  have hbW2:=Lib.hid (hb1'.out.trans hU.2.below)
  obtain ⟨⟨q0,q1,q2,q3,q4⟩,qf⟩:=hx1'.out.cells
  obtain ⟨⟨p0,p1,p2,p3,p4⟩,pf⟩:=hU.1.cells
  have hto:Hid (o=if numL (l.take n)≤maxI then some (1,l.take n,numL (l.take n)) else none):=by
   unfold Hid
   rw [←ho'.out]
   unfold tokF
   rw [if_pos (hpos'.out.1 hn0),htw.out]
  have hS':=Lib.hid hS
  clear hW2 hU hpar hS
  go_upto_region 4 with (fail)
  rw [hW2'.out]
  go_wp2_with fail
  refine hpar'.out.mono ?_
  rintro e V ⟨ev,x,rfl,hok,hbad,hB⟩
  have hbV:=Lib.hid (hbW2.out.trans (hB.mono hbW2.out.size))
  have hxV:=Lib.hid (hU'.out.1.below hB)
  have hUx:=hxV.out.put2 (.int .i64 x)
  have hUx':=Lib.hid hUx
  clear q0 q1 q2 q3 q4 qf p0 p1 p2 p3 p4 pf hB
  obtain ⟨⟨q0,q1,q2,q3,q4⟩,qf⟩:=hxV.out.cells
  obtain ⟨V2,hV2⟩:∃ W,V.setCell ⟨w.heap.size,2,none⟩ (.int .i64 x)=W:=⟨_,rfl⟩
  rw [hV2] at hUx
  obtain ⟨⟨p0,p1,p2,p3,p4⟩,pf⟩:=hUx.1.cells
  have hUx':=Lib.hid hUx
  have hV2':=Lib.hid hV2
  clear hUx hV2
  have hfs:=hUx'.out.1.set (.int .i64 1) (.string S) (.int .i64 x) (.int .i64 0) (.int .i64 0)
  have hfin:=Lib.hid (hfs.1.below (Below.refl _ _).drew)
  have hfb:=Lib.hid (((hbV.out.trans (hUx'.out.2.below.mono (Nat.le_refl _))).trans hfs.2.below).drew)
  clear hfs
  by_cases hM:numL (l.take n)≤maxI
  ·
   obtain ⟨rfl,rfl⟩:=hok hM
   clear hok hbad
   go_upto_region 6 with (fail)
   rw [hV2'.out]
   go_region
   go_wp2_with fail
   refine bodyPost_ret (results_tok rfl _ _ rfl rfl hfin.out.cells.1) rfl ⟨?_,hfb.out⟩
   rw [hto.out,if_pos hM]
   exact TokR_some S hS'.out rfl
  ·
   obtain ⟨te,pe,rfl⟩:=hbad hM
   clear hok hbad
   go_upto_region 6 with (fail)
   rw [hV2'.out]
   go_region
   go_wp2_with fail
   refine bodyPost_ret (results_tok rfl _ _ rfl rfl hfin.out.cells.1) rfl ⟨?_,hfb.out⟩
   rw [hto.out,if_neg hM]
   exact ⟨_,_,_,rfl⟩
 ·
  have hn00:n=0:=by omega
  subst hn00
  have hd0:Hid (headB dgB l=false):=by
   unfold Hid
   rw [←Bool.not_eq_true]
   exact fun h=>hn0 (hpos'.out.2 h)
  have hrun2:=lex_run a l cap 113 #[] ptB W1 (by unfold lenMax;omega) hr1.out (by rw [←prt_fun];exact answers_part _) enters_part
  obtain ⟨n,hn⟩:∃ n,runN ptB l=n:=⟨_,rfl⟩
  rw [hn] at hrun2
  have hrun2':=Lib.hid hrun2
  have hnp:n≤l.length:=by rw [←hn];exact runN_le _ _
  have hpos:=runN_pos (p:=ptB) (l:=l)
  rw [hn] at hpos
  have hn2':=Lib.hid hn
  have hpos2':=Lib.hid hpos
  clear hrun2 hn hpos hn0 hnl hpos' hn' hrun1'
  go_upto_region 8 with ((with_reducible refine hrun2'.out.mono ?_);rintro e V ⟨rfl,rfl⟩)
  by_cases hn0:0 < n
  ·
   have hn0i:(0:Int) < (n:Int):=by omega
   have hni:(n:Int)≤(cap:Int):=by omega
   have htl:(l.take n).length=n:=by rw [List.length_take];omega
   have hcv:=fun (W:World) (c:Nat) (h:ByteRow W a (l.take n))=>conv_row W a (l.take n) c h
   rw [htl] at hcv
   have hcv1:=fun c=>hcv W1 c (hr1.out.take n)
   have htw:Hid (l.takeWhile ptB=l.take n):=by unfold Hid;rw [←take_run,hn2'.out]
   have hto:Hid (o=(wordK (l.take n)).map fun k=>(k,l.take n,0)):=by
    unfold Hid
    rw [←ho'.out]
    unfold tokF
    rw [if_neg (by rw [hd0.out];simp),if_pos (hpos2'.out.1 hn0),htw.out]
   clear hcv htl
   have hto2:Hid (o=(wordK (bS (tS (l.take n)))).map fun k=>(k,bS (tS (l.take n)),0)):=hto.out
   obtain ⟨S,hS⟩:∃ S,tS (l.take n)=S:=⟨_,rfl⟩
   rw [hS] at hcv1 hto2
   clear hS hto
   have hkw:Hid (wordB S=wdB (bS S)):=word_eq S
   have hkn:Hid (nameB S=nmB (bS S)):=name_eq S
   have hkc:Hid (conB S=cnB (bS S)):=con_eq S
   have hwd:=lex_word S W1
   have hnm:=lex_Name S W1
   rw [hkw.out] at hwd
   rw [hkn.out] at hnm
   have hwd':=Lib.hid hwd
   have hnm':=Lib.hid hnm
   obtain ⟨⟨q0,q1,q2,q3,q4⟩,qf⟩:=hx1'.out.cells
   clear hwd hnm
   go_upto_region 10 with (fail)
   cases hw:wdB (bS S)
   ·
    rw [hw] at hwd'
    have hw':=Lib.hid hw
    clear hw
    go_wp2_with fail
    refine hwd'.out.mono ?_
    rintro e V ⟨rfl,rfl⟩
    cases hm:nmB (bS S)
    ·
     rw [hm] at hnm'
     have hm':=Lib.hid hm
     clear hm
     go_wp2_with fail
     refine hnm'.out.mono ?_
     rintro e V ⟨rfl,hB⟩
     have hcn:=lex_Con S V
     rw [hkc.out] at hcn
     have hcn':=Lib.hid hcn
     have hwV:=Lib.hid (hb1'.out.trans (hB.mono hb1'.out.size))
     have hxV:=Lib.hid (hx1'.out.below hB)
     clear hB hcn q0 q1 q2 q3 q4 qf
     go_wp2_with fail
     refine hcn'.out.mono ?_
     rintro e V2 ⟨rfl,hB⟩
     have hwV2:=Lib.hid (hwV.out.trans (hB.mono hwV.out.size))
     have hxV2:=Lib.hid (hxV.out.below hB)
     clear hB
     obtain ⟨⟨q0,q1,q2,q3,q4⟩,qf⟩:=hxV2.out.cells
     have hU':=Lib.hid (hxV2.out.set (.int .i64 3) (.string S) (.int .i64 0) (.int .i64 0) (.int .i64 0))
     go_wp2_with fail
     refine set5_fold ?_
     refine bodyPost_ret (results_tok rfl _ _ rfl rfl hU'.out.1.cells.1) rfl ⟨?_,hwV2.out.trans (hU'.out.2.below.mono (by have:=hwV2.out.size;omega))⟩
     rw [hto2.out]
     unfold wordK
     rw [if_neg (by rw [hw'.out];simp),if_neg (by rw [hm'.out];simp)]
     cases cnB (bS S)
     ·
      exact ⟨_,_,_,rfl⟩
     ·
      rfl
    ·
     rw [hm] at hnm'
     have hm':=Lib.hid hm
     clear hm
     go_wp2_with fail
     refine hnm'.out.mono ?_
     rintro e V ⟨rfl,hB⟩
     have hwV:=Lib.hid (hb1'.out.trans (hB.mono hb1'.out.size))
     have hxV:=Lib.hid (hx1'.out.below hB)
     clear hB q0 q1 q2 q3 q4 qf
     obtain ⟨⟨q0,q1,q2,q3,q4⟩,qf⟩:=hxV.out.cells
     have hU':=Lib.hid (hxV.out.set (.int .i64 2) (.string S) (.int .i64 0) (.int .i64 0) (.int .i64 0))
     go_wp2_with fail
     refine set5_fold ?_
     refine bodyPost_ret (results_tok rfl _ _ rfl rfl hU'.out.1.cells.1) rfl ⟨?_,hwV.out.trans (hU'.out.2.below.mono (by have:=hwV.out.size;omega))⟩
     rw [hto2.out]
     unfold wordK
     rw [if_neg (by rw [hw'.out];simp),if_pos hm'.out]
     rfl
   ·
    rw [hw] at hwd'
    have hw':=Lib.hid hw
    clear hw
    have hU':=Lib.hid (hx1'.out.set (.int .i64 4) (.string S) (.int .i64 0) (.int .i64 0) (.int .i64 0))
    go_wp2_with fail
    refine hwd'.out.mono ?_
    rintro e V ⟨rfl,rfl⟩
    go_wp2_with fail
    refine set5_fold ?_
    refine bodyPost_ret (results_tok rfl _ _ rfl rfl hU'.out.1.cells.1) rfl ⟨?_,hb1'.out.trans (hU'.out.2.below.mono (by omega))⟩
    rw [hto2.out]
    unfold wordK
    rw [if_pos hw'.out]
    rfl
  ·
   have hn00:n=0:=by omega
   subst hn00
   have hp0:Hid (headB ptB l=false):=by
    unfold Hid
    rw [←Bool.not_eq_true]
    exact fun h=>hn0 (hpos2'.out.2 h)
   have hsg:=Lib.hid (lex_sign a l cap W1 hl hc hr1.out)
   have hto:Hid (o=(if 0 < signN l then some (l.take (signN l)) else none).map fun s=>(4,s,0)):=by
    unfold Hid
    rw [←ho'.out,←sign_tok]
    unfold tokF
    rw [if_neg (by rw [hd0.out];simp),if_neg (by rw [hp0.out];simp)]
   go_upto_region 16 with ((with_reducible refine hsg.out.mono ?_);rintro e V ⟨rfl,hB⟩)
   have hsl:=signN_le l
   have hni:(signN l:Int)≤(cap:Int):=by omega
   have hwV:=Lib.hid (hb1'.out.trans (hB.mono hb1'.out.size))
   have hxV:=Lib.hid (hx1'.out.below hB)
   have htl:(l.take (signN l)).length=signN l:=by rw [List.length_take];omega
   have hcv1:=conv_row V a (l.take (signN l)) cap ((hr1.out.keeps (Keeps.of_below hB)).take _)
   rw [htl] at hcv1
   obtain ⟨S,hS⟩:∃ S,tS (l.take (signN l))=S:=⟨_,rfl⟩
   rw [hS] at hcv1
   have hS':=Lib.hid hS
   obtain ⟨n,hn⟩:∃ n,signN l=n:=⟨_,rfl⟩
   rw [hn] at hto hsl hni hcv1 hS'
   rw [hn]
   clear hB htl hS hn hsg hn0
   obtain ⟨⟨q0,q1,q2,q3,q4⟩,qf⟩:=hxV.out.cells
   have hU':=Lib.hid (hxV.out.set (.int .i64 4) (.string S) (.int .i64 0) (.int .i64 0) (.int .i64 0))
   by_cases hn0:0 < n
   ·
    have hn0i:(0:Int) < (n:Int):=by omega
    go_wp2_with fail
    refine set5_fold ?_
    refine bodyPost_ret (results_tok rfl _ _ rfl rfl hU'.out.1.cells.1) rfl ⟨?_,hwV.out.trans (hU'.out.2.below.mono (by have:=hwV.out.size;omega))⟩
    rw [hto.out,if_pos hn0]
    exact TokR_some S hS'.out rfl
   ·
    have hn00:n=0:=by omega
    subst hn00
    go_wp2_with fail
    refine set5_fold ?_
    refine bodyPost_ret (results_tok rfl _ _ rfl rfl hU'.out.1.cells.1) rfl ⟨?_,hwV.out.trans (hU'.out.2.below.mono (by have:=hwV.out.size;omega))⟩
    rw [hto.out,if_neg hn0]
    exact ⟨_,_,_,rfl⟩
end Go.Proofs.YtinjocchommbdaaGreatDoor
namespace Go.Proofs.YtinjocchommbdaaGreatDoor
open Go.RowKit
end Go.Proofs.YtinjocchommbdaaGreatDoor
namespace Go.Proofs.YtinjocchommbdaaGreatDoor
open Go.RowKit
end Go.Proofs.YtinjocchommbdaaGreatDoor
namespace Go.Proofs.YtinjocchommbdaaGreatDoor
open Go.RowKit
def LineAt (w:World) (v:Value) (p:Bs):Prop:=∃ a cp,v=.slice a p.length cp∧p.length≤cp∧(a=none→cp=0)∧ByteRow w a p
def MaxOk (w:World):Prop:=∃ m,w.cell? ⟨0,0,none⟩=some (.int .i64 m)
theorem MaxOk.keeps {w W:World} (h:MaxOk w) (hk:Keeps w W):MaxOk W:=by
 obtain ⟨m,h⟩:=h
 exact ⟨m,hk _ _ h⟩
theorem numsB_in (l:Bs):∀ x ∈ numsB l,0≤x∧x < 256:=by
 intro x hx
 unfold numsB at hx
 obtain ⟨b,_,rfl⟩:=List.mem_map.1 hx
 have:=b.toNat_lt
 omega
theorem count_lines:∀ (m:Nat) (l:Bs),l.length≤m→Lib.count l [10] + 1=(linesL l).length:=by
 have one:∀ l:Bs,(10:UInt8) ∉ l→Lib.index l [10]=-1:=fun l hn=>Lib.index_none fun j _=>by
  cases h:Lib.occAt l [10] j with
  | false=>rfl
  | true=>exact absurd (List.mem_of_getElem? (occ_nl.1 h)) hn
 intro m
 induction m with
 | zero =>
  intro l h
  have:l=[]:=List.length_eq_zero_iff.1 (by omega)
  subst this
  rw [Lib.count_miss (one [] (by simp))];rfl
 | succ m ih =>
  intro l h
  rcases first_nl l with hn | ⟨p,r,rfl,hn⟩
  ·
   rw [Lib.count_miss (one l hn),linesL_one hn];rfl
  ·
   have hi:Lib.index (p ++ 10 :: r) [10]=(p.length:Nat):=Lib.index_first (by simp) (occ_nl.2 (by simp)) fun j hj=>by
    cases h:Lib.occAt (p ++ 10 :: r) [10] j with
    | false=>rfl
    | true =>
     have h2:=occ_nl.1 h
     rw [List.getElem?_append_left hj] at h2
     exact absurd (List.mem_of_getElem? h2) hn
   have hd:(p ++ 10 :: r).drop (p.length + 1)=r:=by
    rw [←List.drop_drop,List.drop_left];rfl
   rw [Lib.count_hit (by simp) hi,List.length_singleton,hd,linesL_cons r hn,List.length_cons,←ih r (by simp at h;omega),Nat.add_comm 1]
theorem call_split (a:Option Addr) (l:Bs) (cap b2 o2 c2:Nat) (w:World) (hl:l.length≤1000000) (hc:l.length≤cap) (hc63:cap≤9223372036854775807) (ha:a=none→cap=0) (hr:ByteRow w a l) (hm:MaxOk w) (h2:w.cell? ⟨b2,o2,none⟩=some (.int .u8 10)) :
  Calls Tryz.prog 109 #[.slice a l.length cap,.slice (some ⟨b2,o2,none⟩) 1 c2] w fun e w'=>∃ (vs:List Value) (q:Nat),e=.returned (.slice (some ⟨w.heap.size,0,none⟩) vs.length vs.length)∧vs.length=(linesL l).length∧(∀ U,ByteRow U a l→∀ (i:Nat) v p,vs[i]?=some v→(linesL l)[i]?=some p→LineAt U v p)∧w'=(w.alloc (.cells vs.toArray 42)).drewN q:=by
 cases a with
 | none =>
  have hl0:l=[]:=by
   rcases hr with h | ⟨b,off,h,_⟩
   ·
    exact h
   ·
    cases h
  subst hl0
  obtain rfl:=ha rfl
  refine (Tryz.bytes_Split_nil (some ⟨b2,o2,none⟩) 1 c2 w (by decide) (by decide) (fun _=>⟨b2,o2,10,rfl,h2⟩)).mono ?_
  rintro e w' ⟨rfl,rfl⟩
  refine ⟨[.slice none 0 0],0,rfl,rfl,?_,rfl⟩
  intro U _ i v p hv hp
  cases i with
  | zero =>
   simp [linesL_one (l:=[]) (by simp)] at hv hp
   subst hv hp
   exact ⟨none,0,rfl,Nat.le_refl _,fun _=>rfl,.inl rfl⟩
  | succ i=>simp at hv
 | some a =>
  obtain ⟨m,hm⟩:=hm
  have hc1:∀ i,i < l.length→w.cell? (a.add i)=some (.int .u8 ((numsB l).getD i 0)):=by
   intro i hi
   rcases hr with h | ⟨b,off,h,hr⟩
   ·
    subst h;simp at hi
   ·
    injection h with h
    subst h
    rw [addr_plus,hr i hi]
    simp [numsB,List.getD,hi]
  have hS:=Tryz.bytes_Split a ⟨b2,o2,none⟩ l.length cap 1 c2 (numsB l) (numsB [10]) m w (numsB_len l) rfl (numsB_in l) (numsB_in _) hc1 (fun i hi=>by
   obtain rfl:i=0:=by omega
   rw [addr_plus,Nat.add_zero,h2];rfl) hc (by omega) (by decide) hc63 (by decide) hm
  rw [numsB_bytes,numsB_bytes] at hS
  have hsp:=split_lines l.length l (Nat.le_refl _)
  have hlen:=Lib.splitV_length [10] 0 (Lib.count l [10]) a cap l
  have hspec:=Lib.splitV_spec [10] 0 (by simp) (by simp) (Lib.count l [10]) a cap l hc
  rw [hsp] at hlen hspec
  generalize Lib.splitV [10] 0 (Lib.count l [10]) a cap l=vs at hS hlen hspec
  refine hS.mono ?_
  rintro e w' ⟨rfl,q,rfl⟩
  refine ⟨vs,q,?_,hlen,?_,rfl⟩
  ·
   rw [hlen,←count_lines l.length l (Nat.le_refl _)]
  ·
   intro U hU i v p hv hp
   obtain ⟨a',off,len,cp,rfl,h1,h3,h4,h5⟩:=hspec i v hv
   rw [hp] at h4
   injection h4 with h4
   have hpl:p.length=len:=by rw [h4,List.length_take,List.length_drop];omega
   refine ⟨some a',cp,by rw [hpl],by omega,(fun e=>by cases e),?_⟩
   rcases Nat.eq_zero_or_pos len with h0 | h0
   ·
    exact .inl (List.length_eq_zero_iff.1 (by omega))
   ·
    rcases hU with h | ⟨b,o,h,hr2⟩
    ·
     subst h;simp at h3;omega
    ·
     injection h with h
     subst h
     have e0:=h5 0 h0
     rw [Addr.add_zero',addr_plus] at e0
     refine .inr ⟨b,o + (off + 0),by rw [e0],fun i hi=>?_⟩
     have hi2:i < len:=by omega
     have:=hr2 (off + i) (by omega)
     rw [show o + (off + 0) + i=o + (off + i) by omega,this]
     congr 3
     subst h4
     rw [List.getElem_take,List.getElem_drop]
end Go.Proofs.YtinjocchommbdaaGreatDoor
namespace Go.Proofs.YtinjocchommbdaaGreatDoor
open Go.RowKit
theorem lex_space (x:UInt8) (w:World):Calls Tryz.prog 43 #[.int .u8 x.toNat] w fun r w'=>r=.returned (.bool (x == 32))∧w=w':=by
 by_cases h:x=32
 ·
  have h':(x.toNat:Int)=32:=by rw [h];rfl
  go_enter Tryz.func43,Tryz.ntmps43
  go_wp2_with fail
  go_ret
  exact ⟨ret_bool (by rw [h];rfl),rfl⟩
 ·
  have h':((x.toNat:Int) == 32)=false:=beq_eq_false_iff_ne.2 fun e=>h (by apply UInt8.toNat.inj;show x.toNat=32;omega)
  go_enter Tryz.func43,Tryz.ntmps43
  go_wp2_with fail
  go_ret
  exact ⟨ret_bool (by symm;simpa using h),rfl⟩
theorem answers_space (w:World):Answers Tryz.prog 43 #[] (fun x=>x == 32) w:=fun W x _=>lex_space x W
theorem enters_space (args:Array Value) (w:World):(callFunc 43 args).run Tryz.prog w=.ok (.enter 43 args) w:=Tryz.call43 args w
theorem run_space (l:Bs):runN (fun x=>x == 32) l=spN l:=rfl
end Go.Proofs.YtinjocchommbdaaGreatDoor
namespace Go.Proofs.YtinjocchommbdaaGreatDoor
open Go.RowKit
theorem lex_lines (v:Value) (w:World) (a:Option Addr) (n c:Nat) (hv:v=.slice a n c):Calls Tryz.prog 44 #[v] w fun r w'=>r=.returned (.func (.func 108) #[] #[.pointer (some ⟨w.heap.size,0,none⟩)])∧w'=w.alloc (.cells #[v] 42):=by
 subst hv
 go_enter Tryz.func44,Tryz.ntmps44
 go_wp2_with fail
 go_ret
 exact ⟨rfl,rfl⟩
end Go.Proofs.YtinjocchommbdaaGreatDoor
