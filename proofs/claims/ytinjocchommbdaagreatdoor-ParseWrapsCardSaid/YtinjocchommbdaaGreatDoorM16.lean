/- A part of the proof that parser laws hold: texts of the walk and of its plain laws, made small. -/
import Derived.Test.YtinjocchommbdaaGreatDoorM05
import Derived.Lib.Split
import Derived.Lib.CountLaws
import Derived.Lib.IndexMore
set_option linter.unusedVariables false
set_option linter.unusedSimpArgs false
namespace Go.Proofs.YtinjocchommbdaaGreatDoor
def linesL:Bs→List Bs
 | []=>[[]]
 | b :: r=>if b=10 then [] :: linesL r else match linesL r with
  | []=>[[b]]
  | p :: q=>(b :: p) :: q
theorem linesL_one {l:Bs} (h:(10:UInt8) ∉ l):linesL l=[l]:=by
 induction l with
 | nil=>rfl
 | cons b r ih =>
  rw [linesL,if_neg (fun e=>h (by rw [e];simp)),ih fun hm=>h (by simp [hm])]
theorem linesL_cons {p:Bs} (r:Bs) (h:(10:UInt8) ∉ p):linesL (p ++ 10 :: r)=p :: linesL r:=by
 induction p with
 | nil=>rw [List.nil_append,linesL,if_pos rfl]
 | cons b q ih =>
  rw [List.cons_append,linesL,if_neg (fun e=>h (by rw [e];simp)),ih fun hm=>h (by simp [hm])]
theorem first_nl:∀ l:Bs,(10:UInt8) ∉ l∨∃ p r,l=p ++ 10 :: r∧(10:UInt8) ∉ p
 | []=>.inl (by simp)
 | b :: l=>by
  by_cases hb:b=10
  ·
   exact .inr ⟨[],l,by rw [hb];rfl,by simp⟩
  ·
   rcases first_nl l with h | ⟨p,r,rfl,h⟩
   ·
    exact .inl (by simp;exact ⟨fun e=>hb e.symm,h⟩)
   ·
    exact .inr ⟨b :: p,r,rfl,by simp;exact ⟨fun e=>hb e.symm,h⟩⟩
theorem linesL_no:∀ (m:Nat) (l:Bs),l.length≤m→∀ p ∈ linesL l,(10:UInt8) ∉ p∧p.length≤l.length:=by
 intro m
 induction m with
 | zero =>
  intro l h p hp
  have:l=[]:=List.length_eq_zero_iff.1 (by omega)
  subst this
  simp [linesL] at hp;subst hp;simp
 | succ m ih =>
  intro l h p hp
  rcases first_nl l with hn | ⟨q,r,rfl,hn⟩
  ·
   rw [linesL_one hn] at hp
   simp at hp;subst hp;exact ⟨hn,Nat.le_refl _⟩
  ·
   rw [linesL_cons r hn] at hp
   rcases List.mem_cons.1 hp with rfl | hp
   ·
    exact ⟨hn,by simp⟩
   ·
    have:=ih r (by simp at h;omega) p hp
    exact ⟨this.1,by simp;omega⟩
theorem linesL_len:∀ (m:Nat) (l:Bs),l.length≤m→(linesL l).length≤l.length + 1:=by
 intro m
 induction m with
 | zero =>
  intro l h
  have:l=[]:=List.length_eq_zero_iff.1 (by omega)
  subst this;simp [linesL]
 | succ m ih =>
  intro l h
  rcases first_nl l with hn | ⟨q,r,rfl,hn⟩
  ·
   rw [linesL_one hn];simp
  ·
   rw [linesL_cons r hn]
   have:=ih r (by simp at h;omega)
   simp;omega
theorem occ_nl {l:Bs} {i:Nat}:Lib.occAt l [10] i=true↔l[i]?=some 10:=by
 unfold Lib.occAt
 cases h:l.drop i with
 | nil =>
  have:l.length≤i:=List.drop_eq_nil_iff.1 h
  simp [List.isPrefixOf,List.getElem?_eq_none this]
 | cons b r =>
  have:l[i]?=some b:=by
   have:=congrArg (·[0]?) h
   simpa using this
  rw [this]
  rw [Option.some.injEq]
  have:([10]:Bs).isPrefixOf (b :: r)=((10:UInt8) == b):=by cases r <;> simp [List.isPrefixOf]
  rw [this,beq_iff_eq]
  exact eq_comm
theorem split_lines:∀ (m:Nat) (l:Bs),l.length≤m→Lib.splitK [10] 0 (Lib.count l [10]) l=linesL l:=by
 have one:∀ l:Bs,(10:UInt8) ∉ l→Lib.index l [10]=-1:=fun l hn=>Lib.index_none fun j _=>by
  cases h:Lib.occAt l [10] j with
  | false=>rfl
  | true=>exact absurd (List.mem_of_getElem? (occ_nl.1 h)) hn
 intro m
 induction m with
 | zero =>
  intro l h
  have:l=[]:=List.length_eq_zero_iff.1 (by omega)
  subst this
  rw [Lib.count_miss (one [] (by simp))];rfl
 | succ m ih =>
  intro l h
  rcases first_nl l with hn | ⟨p,r,rfl,hn⟩
  ·
   rw [Lib.count_miss (one l hn),linesL_one hn];rfl
  ·
   have hi:Lib.index (p ++ 10 :: r) [10]=(p.length:Nat):=Lib.index_first (by simp) (occ_nl.2 (by simp)) fun j hj=>by
    cases h:Lib.occAt (p ++ 10 :: r) [10] j with
    | false=>rfl
    | true =>
     have h2:=occ_nl.1 h
     rw [List.getElem?_append_left hj] at h2
     exact absurd (List.mem_of_getElem? h2) hn
   have hd:(p ++ 10 :: r).drop (p.length + 1)=r:=by
    rw [←List.drop_drop,List.drop_left];rfl
   rw [Lib.count_hit (by simp) hi,List.length_singleton,hd,Nat.add_comm 1]
   rw [Lib.splitK,if_neg (by rw [hi];simp),hi]
   simp only [Int.toNat_natCast,Nat.add_zero,List.length_singleton,hd]
   rw [ih r (by simp at h;omega),List.take_left,linesL_cons r hn]
def lexP (line:Int) (cnt:Nat):List Bs→Res
 | []=>.ok []
 | p :: r=>match lexF line 1 cnt p with
  | .bad x y=>.bad x y
  | .ok ts=>Res.pre ts (lexP (line + 1) (cnt + ts.length) r)
theorem lexF_lines:∀ (m:Nat) (l:Bs) (line:Int) (cnt:Nat),l.length≤m→lexF line 1 cnt l=lexP line cnt (linesL l):=by
 have one:∀ (l:Bs) (line:Int) (cnt:Nat),(10:UInt8) ∉ l→lexF line 1 cnt l=lexP line cnt (linesL l):=by
  intro l line cnt hn
  rw [linesL_one hn,lexP]
  cases lexF line 1 cnt l with
  | bad x y=>rfl
  | ok ts=>simp [lexP,Res.pre]
 intro m
 induction m with
 | zero =>
  intro l line cnt h
  have:l=[]:=List.length_eq_zero_iff.1 (by omega)
  subst this
  exact one [] line cnt (by simp)
 | succ m ih =>
  intro l line cnt h
  rcases first_nl l with hn | ⟨p,r,rfl,hn⟩
  ·
   exact one l line cnt hn
  ·
   rw [linesL_cons r hn,lexP,lexF_join r _ _ _ _ _ (Nat.le_refl _)]
   have:nls p=0:=List.count_eq_zero.2 hn
   rw [this,show line + ((0:Nat):Int) + 1=line + 1 by omega]
   cases lexF line 1 cnt p with
   | bad x y=>rfl
   | ok ts=>simp only;rw [ih r _ _ (by simp at h;omega)]
def spN (l:Bs):Nat:=(l.takeWhile (· == 32)).length
theorem lexF_sps (l:Bs) (line:Int) (cnt:Nat):∀ (col:Int),lexF line col cnt l=lexF line (col + spN l) cnt (l.drop (spN l)):=by
 induction l with
 | nil=>intro col;rw [lexF_nil];simp [spN,lexF_nil]
 | cons b r ih =>
  intro col
  by_cases hb:b=32
  ·
   subst hb
   have:spN (32 :: r)=spN r + 1:=by simp [spN]
   rw [lexF_sp,ih,this,List.drop_succ_cons,show col + 1 + (spN r:Int)=col + ((spN r + 1:Nat):Int) by omega]
  ·
   have:spN (b :: r)=0:=by simp [spN,hb]
   rw [this];simp
theorem spN_head (l:Bs):(l.drop (spN l)).head?≠some 32:=by
 induction l with
 | nil=>simp
 | cons b r ih =>
  by_cases hb:b=32
  ·
   subst hb
   have:spN (32 :: r)=spN r + 1:=by simp [spN]
   rw [this,List.drop_succ_cons];exact ih
  ·
   have:spN (b :: r)=0:=by simp [spN,hb]
   rw [this];simpa using hb
theorem line_at {l:Bs} (h10:(10:UInt8) ∉ l) (h32:l.head?≠some 32) (hne:l≠[]) (hc:comB l=false):tokAt l:=by
 refine ⟨hne,fun h=>?_,h32,hc⟩
 cases l with
 | nil=>cases h
 | cons b r=>simp at h;subst h;simp at h10
theorem line_com {l:Bs} (h10:(10:UInt8) ∉ l) (hc:comB l=true) (line col:Int) (cnt:Nat):lexF line col cnt l=.ok []:=by
 rw [lexF_com _ _ _ hc]
 have:l.dropWhile (· != 10)=[]:=by
  clear hc
  induction l with
  | nil=>rfl
  | cons b r ih =>
   rw [List.dropWhile_cons,if_pos (by simp at h10 ⊢;exact fun e=>h10.1 e.symm)]
   exact ih fun hm=>h10 (by simp [hm])
 rw [this,lexF_nil]
end Go.Proofs.YtinjocchommbdaaGreatDoor
