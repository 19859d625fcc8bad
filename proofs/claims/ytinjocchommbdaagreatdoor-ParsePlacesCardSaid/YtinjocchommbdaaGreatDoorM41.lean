/- A part of the proof that parser laws hold: texts of the walk and of its plain laws, made small. -/
import Derived.Test.YtinjocchommbdaaGreatDoorM40
import Derived.Lib.ItoaLen
import Derived.Test.YtinjocchommbdaaGreatDoorM39
set_option linter.unusedVariables false
set_option linter.unusedSimpArgs false
namespace Go.Proofs.YtinjocchommbdaaGreatDoor
def nmT (l:List Str):List UInt8:=l.flatMap fun x=>32 :: bs x
def seqT (l:List (List UInt8)):List UInt8:=Lib.join l [32,59,32]
theorem tx_int (s:Str) (n:Int) (l:List Str) (ks:List Ex):textE (.mk 1 s n l ks)=Lib.itoa n:=by simp [textE,textBody]
theorem tx_var (s:Str) (n:Int) (l:List Str) (ks:List Ex):textE (.mk 2 s n l ks)=bs s:=by simp [textE,textBody]
theorem tx_con (s:Str) (n:Int) (l:List Str) (ks:List Ex):textE (.mk 3 s n l ks)=bs s:=by simp [textE,textBody]
theorem tx_lam (s:Str) (n:Int) (x:Str) (a:Ex):textE (.mk 4 s n [x] [a])=92 :: (bs x ++ ([32,45,62,32] ++ textE a)):=by simp [textE,textBody,textE.textL,Lib.join_cons,Lib.joinTail]
theorem tx_app (s:Str) (n:Int) (l:List Str) (a b:Ex):textE (.mk 5 s n l [a,b])=atomE a ++ (32 :: atomE b):=by simp [textE,textBody,textE.textL,Lib.join_cons,Lib.joinTail,atomE]
theorem tx_let (s:Str) (n:Int) (x:Str) (a b:Ex):textE (.mk 6 s n [x] [a,b])=[108,101,116,32] ++ (bs x ++ ([32,61,32] ++ (textE a ++ ([32,105,110,32] ++ textE b)))):=by simp [textE,textBody,textE.textL,Lib.join_cons,Lib.joinTail]
theorem listT_eq (r:List Ex):listT (textE.textL r)=[123,32] ++ (seqT (r.map textE) ++ [32,125]):=by
 simp [listT,textL_map,Lib.join_cons,Lib.joinTail,seqT,Function.comp_def]
theorem tx_case (s:Str) (n:Int) (l:List Str) (a:Ex) (r:List Ex):textE (.mk 7 s n l (a :: r))=[99,97,115,101,32] ++ (textE a ++ ([32,111,102,32,123,32] ++ (seqT (r.map textE) ++ [32,125]))):=by
 simp [textE,textBody,textE.textL,Lib.join_cons,Lib.joinTail,listT_eq]
theorem tail_nm (l:List Str) (r:List (List UInt8)):Lib.joinTail [32] (l.map bs ++ r)=nmT l ++ Lib.joinTail [32] r:=by
 simp [Lib.joinTail,nmT,List.flatMap,List.map_map,Function.comp_def]
theorem tx_alt (s:Str) (n:Int) (l:List Str) (a:Ex):textE (.mk 8 s n l [a])=bs s ++ (nmT l ++ ([32,45,62,32] ++ textE a)):=by
 simp only [textE,textBody,textE.textL]
 simp [Lib.join_cons,tail_nm]
 simp [Lib.joinTail]
theorem tx_op (s:Str) (n:Int) (l:List Str) (a b:Ex):textE (.mk 9 s n l [a,b])=atomE a ++ (32 :: (bs s ++ (32 :: atomE b))):=by simp [textE,textBody,textE.textL,Lib.join_cons,Lib.joinTail,atomE]
theorem tx_if (s:Str) (n:Int) (l:List Str) (a b c:Ex):textE (.mk 10 s n l [a,b,c])=[105,102,32] ++ (textE a ++ ([32,116,104,101,110,32] ++ (textE b ++ ([32,101,108,115,101,32] ++ textE c)))):=by simp [textE,textBody,textE.textL,Lib.join_cons,Lib.joinTail]
theorem tx_do (s:Str) (n:Int) (l:List Str) (r:List Ex):textE (.mk 11 s n l r)=[100,111,32,123,32] ++ (seqT (r.map textE) ++ [32,125]):=by
 simp [textE,textBody,Lib.join_cons,Lib.joinTail,listT_eq]
theorem tx_dos (s:Str) (n:Int) (l:List Str) (r:List Ex):textE (.mk 12 s n l r)=[100,111,115,32,123,32] ++ (seqT (r.map textE) ++ [32,125]):=by
 simp [textE,textBody,Lib.join_cons,Lib.joinTail,listT_eq]
theorem tx_bind (s:Str) (n:Int) (x:Str) (a:Ex):textE (.mk 13 s n [x] [a])=bs x ++ ([32,60,45,32] ++ textE a):=by simp [textE,textBody,textE.textL,Lib.join_cons,Lib.joinTail]
theorem atom_cases (e:Ex):atomE e=textE e∨atomE e=[40] ++ (textE e ++ [41]):=by
 unfold atomE atomT paren;simp only;split
 ·
  exact .inl rfl
 ·
  exact .inr (by simp)
theorem seq_cons (x y:List UInt8) (r:List (List UInt8)):seqT (x :: y :: r)=x ++ ([32,59,32] ++ seqT (y :: r)):=by
 simp [seqT,Lib.join_cons,Lib.joinTail]
theorem seq_one (x:List UInt8):seqT [x]=x:=by simp [seqT,Lib.join_one]
inductive NumOk:Ex→Prop
 | mk {k:Int} {s:Str} {n:Int} {l:List Str} {ks:List Ex} (h:-9223372036854775808≤n∧n≤9223372036854775807) (hk:∀ e ∈ ks,NumOk e):NumOk (.mk k s n l ks)
theorem IsEx.numOk {w:World}:∀ (e:Ex) (v:Value),IsEx w v e→NumOk e:=by
 refine Ex.ind fun k s n l ks ih v h=>?_
 obtain ⟨a1,c1,a2,c2,rfl,_,hn,_,_,_,_,hr⟩:=h.open
 refine .mk hn fun e he=>?_
 obtain ⟨i,hi,rfl⟩:=List.getElem_of_mem he
 rcases hr with rfl | ⟨b,off,_,hr⟩
 ·
  simp at hi
 ·
  obtain ⟨v0,v1,v2,v3,v4,_,_,_,_,_,h⟩:=hr i hi
  exact ih _ he _ h
theorem OkT.of:∀ {e:Ex},Snd e→OkT e:=by
 intro e h
 induction h with
 | int _=>exact .mk (by simp [okB]) (by simp)
 | var _=>exact .mk (by simp [okB]) (by simp)
 | con _=>exact .mk (by simp [okB]) (by simp)
 | lam _ _ _ ih=>exact .mk (by simp [okB]) (by simpa using ih)
 | app _ _ _ _ i1 i2=>exact .mk (by simp [okB]) (by simp [i1,i2])
 | lt _ _ _ _ _ i1 i2=>exact .mk (by simp [okB]) (by simp [i1,i2])
 | cs _ _ _ _ _ i1 i2=>exact .mk (by simp [okB]) (by simp only [List.mem_cons];rintro e (rfl | h) <;> first | exact i1 | exact i2 e h)
 | alt _ _ _ _ ih=>exact .mk (by simp [okB]) (by simpa using ih)
 | op _ _ _ _ _ i1 i2=>exact .mk (by simp [okB]) (by simp [i1,i2])
 | iff _ _ _ _ _ _ i1 i2 i3=>exact .mk (by simp [okB]) (by simp [i1,i2,i3])
 | blk h _ _ _ _ i1 i2=>exact .mk (by rcases h with rfl | rfl <;> simp [okB]) (by simp only [List.mem_append,List.mem_singleton];rintro e (h | rfl) <;> first | exact i2 | exact i1 e h)
 | bind _ _ _ ih=>exact .mk (by simp [okB]) (by simpa using ih)
end Go.Proofs.YtinjocchommbdaaGreatDoor
