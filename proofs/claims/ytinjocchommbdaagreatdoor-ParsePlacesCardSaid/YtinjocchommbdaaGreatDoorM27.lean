/- A part of the proof that parser laws hold: texts of the walk and of its plain laws, made small. -/
import Derived.Test.YtinjocchommbdaaGreatDoorM17
import Derived.Test.YtinjocchommbdaaGreatDoorM26
set_option linter.unusedVariables false
set_option linter.unusedSimpArgs false
namespace Go.Proofs.YtinjocchommbdaaGreatDoor
open Go.RowKit Go.Shelf
attribute [local go_sem] Oper.semAt_some
def numbered:Int→List Bs→List (Int × Bs)
 | _,[]=>[]
 | n,p :: r=>(n,p) :: numbered (n + 1) r
theorem numbered_len:∀ (l:List Bs) (n:Int),(numbered n l).length=l.length
 | [],_=>rfl
 | _ :: r,n=>by simp [numbered,numbered_len r]
theorem numbered_at:∀ (l:List Bs) (n:Int) (i:Nat),(numbered n l)[i]?=(l[i]?).map fun p=>(n + (i:Int),p)
 | [],_,_=>by simp [numbered]
 | p :: r,n,0=>by simp [numbered]
 | p :: r,n,i + 1=>by
  simp only [numbered,List.getElem?_cons_succ,numbered_at r (n + 1) i]
  cases r[i]? <;> simp;omega
def lexQ:Nat→List (Int × Bs)→Res
 | _,[]=>.ok []
 | cnt,x :: r=>match lexF x.1 1 cnt x.2 with
  | .bad a b=>.bad a b
  | .ok ts=>Res.pre ts (lexQ (cnt + ts.length) r)
theorem lexQ_lines:∀ (l:List Bs) (n:Int) (cnt:Nat),lexQ cnt (numbered n l)=lexP n cnt l
 | [],_,_=>rfl
 | p :: r,n,cnt=>by
  rw [numbered,lexQ,lexP]
  cases lexF n 1 cnt p with
  | bad a b=>rfl
  | ok ts=>simp only [lexQ_lines r]
theorem lexQ_append:∀ (a b:List (Int × Bs)) (cnt:Nat),lexQ cnt (a ++ b)=match lexQ cnt a with
  | .bad x y=>.bad x y
  | .ok ts=>Res.pre ts (lexQ (cnt + ts.length) b)
 | [],b,cnt=>by simp only [List.nil_append,lexQ,List.length_nil,Nat.add_zero];cases lexQ cnt b <;> simp [Res.pre]
 | x :: r,b,cnt=>by
  rw [List.cons_append,lexQ,lexQ]
  cases lexF x.1 1 cnt x.2 with
  | bad a b=>rfl
  | ok ts =>
   simp only
   rw [lexQ_append r b]
   cases lexQ (cnt + ts.length) r with
   | bad a b=>rfl
   | ok us =>
    simp only [Res.pre,List.length_append]
    rw [Nat.add_assoc]
    cases lexQ (cnt + (ts.length + us.length)) b <;> simp [Res.pre]
def KpS (w W:World):Prop:=∀ (k:Nat) (vs:Array Value) (m:Nat × Nat),w.heap[k]?=some (Obj.cells vs 42 m)→W.heap[k]?=some (.cells vs 42 m)
theorem KpS.refl (w:World):KpS w w:=fun _ _ _ h=>h
theorem KpS.trans {a b c:World} (h:KpS a b) (k:KpS b c):KpS a c:=fun i vs m hi=>k i vs m (h i vs m hi)
abbrev LnX (w₀:World):={ x:Int × Value × Bs // (10:UInt8) ∉ x.2.2∧x.2.2.length≤1000000∧1≤x.1∧x.1≤1000001∧LineAt w₀ x.2.1 x.2.2 }
def lnK {w₀:World} (x:LnX w₀):Int × Bs:=(x.1.1,x.1.2.2)
set_option maxRecDepth 100000 in
set_option maxHeartbeats 1000000 in
theorem line_stops (w₀:World) (n:Nat) (a:Option Addr) (l:Bs) (cap:Nat) (w:World) (Bt:Nat) (hl:l.length≤1000000) (hc:l.length≤cap) (hc63:cap≤9223372036854775807) (ha:a=none→cap=0) (hr:ByteRow w₀ a l)
  (hk:∀ W,Below w.heap.size w W→Keeps w₀ W) (hm:∀ W,Below w.heap.size w W→MaxOk W) (hB:∀ W,Below w.heap.size w W→W.cell? ⟨Bt,0,none⟩=some (.slice a l.length cap)) :
  SeqStopsK Fence.wide n Tryz.prog 108 #[.pointer (some ⟨Bt,0,none⟩)] (fun x:LnX w₀=>#[.int .i64 x.1.1,x.1.2.1]) KpS (fun ys=>ys.map lnK=numbered 1 (linesL l)) (fun ys=>ys.map lnK <+: numbered 1 (linesL l)) (linesL l).length w:=by
 intro lr J Jx W hW hJ hJx hY h0
 have hdd:∀ k:Nat,(Fence.wide.depth.isSome=true→1≤k):=fun k h=>by cases h
 have c0:=hB W hW
 have hsp:=fun b o (W':World) (c:Nat) (hb:Below W.heap.size W W') h2=>call_split a l cap b o c W' hl hc hc63 ha (hr.keeps ((hk W hW).trans (Keeps.of_below hb))) (hm _ (hW.trans (hb.mono hW.size))) h2
 have hsp':=Lib.hid hsp
 have hLn:=Lib.hid (linesL_no l.length l (Nat.le_refl _))
 have hLl:=Lib.hid (linesL_len l.length l (Nat.le_refl _))
 have hY':=Lib.hid hY
 have hr':=Lib.hid hr
 clear hB hk hm hsp hr hY
 refine callsIn_of_wp Tryz.func108 rfl trivial ?_ rfl
 simp only [Tryz.ntmps108,List.size_toArray,List.length_cons,List.length_nil,Nat.reduceAdd,Nat.reduceSub,Array.replicate_succ,Array.replicate_zero,List.push_toArray,List.append_toArray,List.nil_append,List.cons_append]
 gi_wp2_with fail
 refine ⟨trivial,hdd _,callsIn_wide.2 ((hsp'.out _ _ _ _ ((Below.refl _ W).alloc (Nat.le_refl _) _) (by rw [World.cell?_alloc_at _ _ _ _ rfl];rfl)).mono ?_)⟩
 rintro e V ⟨vs,q,rfl,hvl,hvs,hV⟩
 have hbV:Below W.heap.size W V:=by rw [hV];exact below_drewN' (((Below.refl _ W).alloc (Nat.le_refl _) _).alloc (by simp) _) _
 have hvb:V.heap[W.heap.size + 1]?=some (.cells vs.toArray 42 (0,0)):=by
  have h:=blk_new (w:=W.alloc (.cells #[.int .u8 10] 5)) (U:=V) (vs:=vs.toArray) (t:=42) (by rw [hV];exact below_drewN' (Below.refl _ _) _)
  simpa using h
 have hJV:=abides_below hJ h0 hbV
 have hvl':=Lib.hid hvl
 have hvs':=Lib.hid (hvs w₀ hr'.out)
 have hvb':=Lib.hid hvb
 have hvz:vs.length≤1000001:=by have:=hLl.out;omega
 clear hV hvl hvs hvb c0
 gi_wp2_with fail
 gi_loopw [9] (fun i wr=>∃ (k:Nat) (ys:List (LnX w₀)),k≤vs.length∧i=.int .i64 k∧Hid (ys.map lnK=(numbered 1 (linesL l)).take k)∧J ys wr∧KpS V wr) (fun i _=>vs.length - (intOf i).toNat)
 case atStart=>exact ⟨0,[],by omega,rfl,rfl,hJV,KpS.refl _⟩
 case round =>
  obtain ⟨k,ys,hkl,rfl,hys,hJr,hKr⟩:=hrel
  by_cases h1:k < vs.length
  ·
   have hk1:k < (linesL l).length:=by rw [←hvl'.out];exact h1
   obtain ⟨v,hv⟩:∃ v,vs[k]=v:=⟨_,rfl⟩
   have hvk:vs[k]?=some v:=by rw [List.getElem?_eq_getElem h1,hv]
   have hpk:(linesL l)[k]?=some (linesL l)[k]:=List.getElem?_eq_getElem hk1
   have hln:=hvs'.out k v _ hvk hpk
   have hno:=hLn.out _ (List.getElem_mem hk1)
   have g0:wr.cell? ⟨W.heap.size + 1,k,none⟩=some v:=by
    have:=hKr _ _ _ hvb'.out
    simp [World.cell?,this,hvk]
   have hx:(10:UInt8) ∉ (linesL l)[k]∧(linesL l)[k].length≤1000000∧1≤((k:Int) + 1)∧((k:Int) + 1)≤1000001∧LineAt w₀ v (linesL l)[k]:=⟨hno.1,by omega,by omega,by omega,hln⟩
   have hys2:Hid ((ys ++ [(⟨((k:Int) + 1,v,(linesL l)[k]),hx⟩:LnX w₀)]).map lnK=(numbered 1 (linesL l)).take (k + 1)):=by
    unfold Hid
    have hkn:k < (numbered 1 (linesL l)).length:=by rw [numbered_len];exact hk1
    rw [List.map_append,hys.out,List.take_succ_eq_append_getElem hkn]
    congr 1
    have e:=numbered_at (linesL l) 1 k
    rw [List.getElem?_eq_getElem hkn,hpk,Option.map_some,Option.some.injEq] at e
    rw [e]
    simp [lnK];omega
   have hyl:ys.length < (linesL l).length:=by
    have e:=congrArg List.length hys.out
    rw [List.length_map,List.length_take,numbered_len] at e
    omega
   obtain ⟨fn,tmps,assign,body,hy,hR⟩:=YieldAt.any (n - 1) (hY'.out ys ⟨((k:Int) + 1,v,(linesL l)[k]),hx⟩ wr hJr hyl)
   have hR':=Lib.hid hR
   have hki:(k:Int) < (vs.length:Int):=by omega
   clear hv hvk hpk hln hno hR hyl
   gi_wp2_with fail
   refine ⟨hdd _,?_⟩
   refine hR'.out.mono ?_
   clear hR'
   rintro e W1 (⟨rfl,hJ1,hK1⟩ | ⟨rfl,hJx⟩)
   ·
    gi_wp2_with fail
    refine ⟨⟨k + 1,_,by omega,by go_num,hys2,hJ1,hKr.trans hK1⟩,by simp [intOf];omega⟩
   ·
    gi_wp2_with fail
    refine bodyPost_ret (results_none rfl _ _ _) rfl ?_
    refine ⟨⟨_,rfl⟩,.inr ⟨_,?_,hJx⟩⟩
    rw [hys2.out]
    exact List.take_prefix _ _
  ·
   have e:k=vs.length:=by omega
   have hye:Hid (ys.map lnK=numbered 1 (linesL l)):=by
    unfold Hid
    rw [hys.out,e,hvl'.out,←numbered_len (linesL l) 1,List.take_length]
   clear e
   gi_wp2_with fail
   go_end0
   exact ⟨⟨_,rfl⟩,.inl ⟨ys,hye.out,hJr⟩⟩
end Go.Proofs.YtinjocchommbdaaGreatDoor
