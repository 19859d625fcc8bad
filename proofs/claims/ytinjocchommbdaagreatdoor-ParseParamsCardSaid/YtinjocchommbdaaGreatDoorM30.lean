/- A part of the proof that parser laws hold: texts of the walk and of its plain laws, made small. -/
import Derived.Test.YtinjocchommbdaaGreatDoorM26
import Derived.Test.YtinjocchommbdaaGreatDoorM00
import Derived.Test.YtinjocchommbdaaGreatDoorProg
import Derived.RangeFuncNested
import Derived.RangeFuncBound
import Derived.RangeFuncCalls
import Derived.RangeFuncLeaves
import Derived.Shelf.Abstract
import Derived.Shelf.RegionOpen
import Derived.OwnWalkIn
import Derived.TacticsInMore
import Derived.LoopNIn
import Derived.LoopIn
set_option linter.unusedVariables false
set_option linter.unusedSimpArgs false
namespace Go.Proofs.YtinjocchommbdaaGreatDoor
open Go.RowKit Go.Shelf
attribute [local go_sem] Oper.semAt_some
def KeepsBut (X:Nat→Prop) (W W':World):Prop:=W.heap.size≤W'.heap.size∧∀ a v,¬ X a.block→W.cell? a=some v→W'.cell? a=some v
theorem KeepsBut.refl (X:Nat→Prop) (W:World):KeepsBut X W W:=⟨Nat.le_refl _,fun _ _ _ h=>h⟩
theorem KeepsBut.trans {X:Nat→Prop} {A B C:World} (h:KeepsBut X A B) (k:KeepsBut X B C):KeepsBut X A C:=⟨Nat.le_trans h.1 k.1,fun a v hx hv=>k.2 a v hx (h.2 a v hx hv)⟩
theorem KeepsBut.of_below {X:Nat→Prop} {W W':World} (h:Below W.heap.size W W'):KeepsBut X W W':=⟨h.size,fun a v _ hv=>Keeps.of_below h a v hv⟩
def partsL:Ex→List Ex
 | .mk k s n l ks=>.mk k s n l ks :: partsLL ks
where partsLL:List Ex→List Ex
 | []=>[]
 | e :: r=>partsL e ++ partsLL r
theorem partsLL_take_succ (ks:List Ex) (k:Nat) (h:k < ks.length):partsL.partsLL (ks.take (k + 1))=partsL.partsLL (ks.take k) ++ partsL ks[k]:=by
 induction ks generalizing k with
 | nil=>simp at h
 | cons e r ih =>
  cases k with
  | zero=>simp [partsL.partsLL]
  | succ k =>
   have:=ih k (by simpa using h)
   simp only [List.take_succ_cons,partsL.partsLL,List.getElem_cons_succ,this,List.append_assoc]
theorem partsLL_append (a b:List Ex):partsL.partsLL (a ++ b)=partsL.partsLL a ++ partsL.partsLL b:=by
 induction a with
 | nil=>rfl
 | cons e r ih=>simp only [List.cons_append,partsL.partsLL,ih,List.append_assoc]
theorem partsLL_prefix (ks:List Ex) (k:Nat):partsL.partsLL (ks.take k) <+: partsL.partsLL ks:=by
 have h:partsL.partsLL ks=partsL.partsLL (ks.take k) ++ partsL.partsLL (ks.drop k):=by rw [←partsLL_append,List.take_append_drop]
 exact ⟨_,h.symm⟩
theorem partsLL_length (ks:List Ex) (h:∀ e ∈ ks,(partsL e).length=cnt e):(partsL.partsLL ks).length=cnt.cntL ks:=by
 induction ks with
 | nil=>rfl
 | cons e r ih=>simp only [partsL.partsLL,List.length_append,cnt.cntL,ih (fun x hx=>h x (List.mem_cons_of_mem _ hx)),h e (List.mem_cons_self ..)]
theorem partsL_length:∀ e,(partsL e).length=cnt e:=by
 refine Ex.ind fun k s n l ks ih=>?_
 simp only [partsL,cnt,List.length_cons,partsLL_length ks ih];omega
theorem KeepsBut.keeps {X:Nat→Prop} {w W:World} (h:KeepsBut X w W) (hX:∀ b,X b→w.heap.size≤b):Keeps w W:=fun a v hv=>h.2 a v (fun hx=>by have:=hX _ hx;have:=cell_block hv;omega) hv
abbrev Part (w:World):={ x:Value × Ex // IsEx w x.1 x.2 }
def Part.ex {w:World} (x:Part w):Ex:=x.1.2
set_option maxRecDepth 100000 in
set_option maxHeartbeats 2000000 in
theorem tree_all (w₀:World) (l N:Nat) (X:Nat→Prop) (J Jx:List (Part w₀)→World→Prop) (B:Nat) (hJ:AbidesFrom B J)
  (hY:∀ m pre (x:Part w₀) W,J pre W→pre.length < N→YieldAt Fence.wide m Tryz.prog l #[x.1.1] W fun e W' =>
   (e=.returned (.bool true)∧J (pre ++ [x]) W'∧KeepsBut X W W')∨(e=.returned (.bool false)∧Jx (pre ++ [x]) W')) :
  ∀ (e:Ex) (v:Value) (n:Nat) (pre:List (Part w₀)) (W:World),IsEx w₀ v e→(∀ b,X b→w₀.heap.size≤b∧b < W.heap.size)→KeepsBut X w₀ W→J pre W→pre.length + cnt e≤N →
   CallsIn Fence.wide n Tryz.prog 131 #[v,.func (.yield l) #[] #[]] W fun r W' =>
    (r=.returned (.bool true)∧∃ ys:List (Part w₀),ys.map Part.ex=partsL e∧J (pre ++ ys) W'∧KeepsBut X W W') ∨
    (r=.returned (.bool false)∧∃ ys:List (Part w₀),ys.map Part.ex <+: partsL e∧Jx (pre ++ ys) W'):=by
 have hdd:∀ k:Nat,(Fence.wide.depth.isSome=true→1≤k):=fun k h=>by cases h
 refine Ex.ind fun kd s nm ls ks ih v n pre W hv hX hk hJ0 hN=>?_
 have hv0:=hv
 obtain ⟨a1,c1,a2,c2,rfl,_,_,hs,hls,hks,hl,hr⟩:=hv.open
 unfold lenMax at hks
 refine callsIn_of_wp Tryz.func131 rfl trivial ?_ rfl
 simp only [Tryz.ntmps131,List.size_toArray,List.length_cons,List.length_nil,Nat.reduceAdd,Nat.reduceSub,Array.replicate_succ,Array.replicate_zero,List.push_toArray,List.append_toArray,List.nil_append,List.cons_append]
 have hB0:Below W.heap.size W (W.alloc (.cells #[.int .i64 kd,.string s,.int .i64 nm,.slice a1 ls.length c1,.slice a2 ks.length c2] 27)):=(Below.refl _ _).alloc (Nat.le_refl _) _
 obtain ⟨fn,tmps,assign,body,hy,hR⟩:=hY (n - 1) pre ⟨(_,_),hv0⟩ (W.alloc (.cells #[.int .i64 kd,.string s,.int .i64 nm,.slice a1 ls.length c1,.slice a2 ks.length c2] 27)) (abides_below hJ hJ0 hB0) (by simp only [cnt] at hN;omega)
 dsimp only at hy
 gi_wp2_with fail
 refine ⟨hdd _,?_⟩
 refine hR.mono ?_
 clear hR
 have hXn:¬ X W.heap.size:=fun h=>by have:=(hX _ h).2;omega
 rintro e W1 (⟨rfl,hJ1,hK1⟩ | ⟨rfl,hJx⟩)
 ·
  have hcell:∀ W2,KeepsBut X W1 W2→W2.cell? ⟨W.heap.size,4,none⟩=some (.slice a2 ks.length c2):=fun W2 h =>
   h.2 _ _ hXn (hK1.2 _ _ hXn (by rw [World.cell?_alloc_at _ _ _ _ rfl];rfl))
  have c4:=hcell W1 (KeepsBut.refl _ _)
  have hk1:KeepsBut X w₀ W1:=(hk.trans (KeepsBut.of_below hB0)).trans hK1
  have hz1:W.heap.size + 1≤W1.heap.size:=by have:=hK1.1;simpa using this
  gi_wp2_with fail
  gi_loopw [14] (fun i wr=>∃ (k:Nat) (ys:List (Part w₀)),k≤ks.length∧i=.int .i64 k∧Hid (ys.map Part.ex=.mk kd s nm ls ks :: partsL.partsLL (ks.take k))∧J (pre ++ ys) wr∧KeepsBut X W1 wr) (fun i _=>ks.length - (intOf i).toNat)
  case atStart=>exact ⟨0,[⟨(_,_),hv0⟩],by omega,rfl,rfl,hJ1,KeepsBut.refl _ _⟩
  case round =>
   clear c4
   obtain ⟨k,ys,hkl,rfl,hys,hJr,hKr⟩:=hrel
   by_cases h1:k < ks.length
   ·
    have hK0:Keeps w₀ wr:=(hk1.trans hKr).keeps fun b hb=>(hX b hb).1
    obtain ⟨b,off,rfl,hkid⟩:=hr.kid (by rintro rfl;simp at h1)
    obtain ⟨a1,c1,a2,c2,g0,g1,g2,g3,g4,ge⟩:=hkid k h1
    clear hkid
    replace g0:=hK0 _ _ g0
    replace g1:=hK0 _ _ g1
    replace g2:=hK0 _ _ g2
    replace g3:=hK0 _ _ g3
    replace g4:=hK0 _ _ g4
    have hBr:Below wr.heap.size wr (wr.alloc (.cells #[.int .i64 ks[k].kind,.string ks[k].name,.int .i64 ks[k].num,.slice a1 ks[k].names.length c1,.slice a2 ks[k].kids.length c2] 27)):=(Below.refl _ _).alloc (Nat.le_refl _) _
    have hlen:ys.length=1 + (partsL.partsLL (ks.take k)).length:=by
     have:=congrArg List.length hys.out
     simpa [Nat.add_comm] using this
    have hlen2:(partsL.partsLL (ks.take k)).length + cnt ks[k]≤cnt.cntL ks:=by
     have h3:=(partsLL_prefix ks (k + 1)).length_le
     rw [partsLL_take_succ _ _ h1,List.length_append,partsL_length] at h3
     rw [partsLL_length ks fun e _=>partsL_length e] at h3
     exact h3
    have hlen3:ys.length + cnt ks[k]≤cnt (.mk kd s nm ls ks):=by simp only [cnt];omega
    have hlen':=Lib.hid hlen
    clear hlen
    have step:=ih _ (List.getElem_mem h1) _ (n - 1) (pre ++ ys) _ ge (fun b hb=>⟨(hX b hb).1,by have:=(hX b hb).2;have:=hBr.size;have:=hKr.1;omega⟩) ((hk1.trans hKr).trans (KeepsBut.of_below hBr)) (abides_below hJ hJr hBr) (by simp only [List.length_append];omega)
    have hys2:∀ zs:List (Part w₀),(ys ++ zs).map Part.ex=.mk kd s nm ls ks :: (partsL.partsLL (ks.take k) ++ zs.map Part.ex):=fun zs=>by rw [List.map_append,hys.out];rfl
    have hys2':=Lib.hid hys2
    have step':=Lib.hid step
    clear hys2 step
    have hc4:=hcell wr hKr
    gi_wp2_with fail
    refine ⟨trivial,hdd _,?_⟩
    refine step'.out.mono ?_
    clear step'
    rintro e W2 (⟨rfl,zs,hz,hJ2,hK2⟩ | ⟨rfl,zs,hz,hJx⟩)
    ·
     gi_wp2_with fail
     refine ⟨⟨k + 1,ys ++ zs,by omega,by go_num,?_,by rw [←List.append_assoc];exact hJ2,(hKr.trans (KeepsBut.of_below hBr)).trans hK2⟩,by simp [intOf];omega⟩
     unfold Hid
     rw [hys2'.out,hz,partsLL_take_succ _ _ h1]
    ·
     gi_wp2_with fail
     go_ret
     refine .inr ⟨rfl,ys ++ zs,?_,by rw [←List.append_assoc];exact hJx⟩
     rw [hys2'.out]
     simp only [partsL]
     obtain ⟨q,hq⟩:=hz
     obtain ⟨q2,hq2⟩:=partsLL_prefix ks (k + 1)
     rw [partsLL_take_succ _ _ h1] at hq2
     exact ⟨q ++ q2,by rw [←hq2,←hq];simp⟩
   ·
    have e:k=ks.length:=by omega
    have e':=Lib.hid e
    clear e
    gi_wp2_with fail
    go_ret
    refine .inl ⟨rfl,ys,?_,hJr,((KeepsBut.of_below hB0).trans hK1).trans hKr⟩
    rw [hys.out,e'.out,List.take_length];rfl
 ·
  gi_wp2_with fail
  go_ret
  exact .inr ⟨rfl,[⟨(_,_),hv0⟩],⟨partsL.partsLL ks,rfl⟩,hJx⟩
end Go.Proofs.YtinjocchommbdaaGreatDoor
