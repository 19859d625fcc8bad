/- A part of the proof that parser laws hold: texts of the walk and of its plain laws, made small. -/
import Derived.Test.YtinjocchommbdaaGreatDoorM00
import Derived.Lib.Join
import Derived.Lib.ItoaNum
set_option linter.unusedVariables false
set_option linter.unusedSimpArgs false
namespace Go.Proofs.YtinjocchommbdaaGreatDoor
def bs (s:Str):List UInt8:=s.data.toList
def mkS (l:List UInt8):Str:=⟨l.toArray⟩
theorem bs_mkS (l:List UInt8):bs (mkS l)=l:=rfl
def joinSp (l:List Str):List UInt8:=Lib.join (l.map fun s=>s.data.toList) [32]
def paren (l:List UInt8):List UInt8:=40 :: l ++ [41]
def atomT (x:Int × List UInt8):List UInt8:=if x.1≤3 then x.2 else paren x.2
def listT (ts:List (Int × List UInt8)):List UInt8:=Lib.join [[123],Lib.join (ts.map (·.2)) [32,59,32],[125]] [32]
def textBody (k:Int) (s:Str) (n:Int) (l:List Str) (ts:List (Int × List UInt8)):List UInt8 :=
 let t:=fun i=>(ts.getD i (0,[])).2
 let a:=fun i=>atomT (ts.getD i (0,[]))
 if k=1 then Lib.itoa n
 else if k=4 then Lib.join [92 :: bs (l.headD (mkS [])),[45,62],t 0] [32]
 else if k=5 then Lib.join [a 0,a 1] [32]
 else if k=6 then Lib.join ([[108,101,116]] ++ l.map bs ++ [[61],t 0,[105,110],t 1]) [32]
 else if k=7 then Lib.join [[99,97,115,101],t 0,[111,102],listT (ts.drop 1)] [32]
 else if k=8 then Lib.join ([bs s] ++ l.map bs ++ [[45,62],t 0]) [32]
 else if k=9 then Lib.join [a 0,bs s,a 1] [32]
 else if k=10 then Lib.join [[105,102],t 0,[116,104,101,110],t 1,[101,108,115,101],t 2] [32]
 else if k=11 then Lib.join [[100,111],listT ts] [32]
 else if k=12 then Lib.join [[100,111,115],listT ts] [32]
 else if k=13 then Lib.join (l.map bs ++ [[60,45],t 0]) [32]
 else bs s
def textE:Ex→List UInt8
 | .mk k s n l ks=>textBody k s n l (textL ks)
where textL:List Ex→List (Int × List UInt8)
 | []=>[]
 | e :: r=>(e.kind,textE e) :: textL r
theorem textL_map (ks:List Ex):textE.textL ks=ks.map fun e=>(e.kind,textE e):=by
 induction ks with
 | nil=>rfl
 | cons e r ih=>simp only [textE.textL,List.map_cons,ih]
theorem textL_getD (ks:List Ex) (i:Nat) (h:i < ks.length):(textE.textL ks).getD i (0,[])=(ks[i].kind,textE ks[i]):=by
 rw [textL_map,List.getD_eq_getElem?_getD,List.getElem?_map,List.getElem?_eq_getElem h];rfl
def atomE (e:Ex):List UInt8:=atomT (e.kind,textE e)
def sgBody (s:Str) (many:Nat) (as:List (List UInt8)):List UInt8 :=
 if bs s=[45,62]∧many=2 then Lib.join [as.getD 0 [],[45,62],as.getD 1 []] [32] else Lib.join (bs s :: as) [32]
def sgText:Sg→List UInt8
 | .mk s l=>sgBody s l.length (sgAtoms l)
where sgAtoms:List Sg→List (List UInt8)
 | []=>[]
 | e :: r=>(if e.args.length=0 then bs e.name else paren (sgText e)) :: sgAtoms r
def sgAtom (e:Sg):List UInt8:=if e.args.length=0 then bs e.name else paren (sgText e)
theorem sgAtoms_map (l:List Sg):sgText.sgAtoms l=l.map sgAtom:=by
 induction l with
 | nil=>rfl
 | cons e r ih=>simp only [sgText.sgAtoms,List.map_cons,ih,sgAtom]
theorem join_len (x:List UInt8) (r:List (List UInt8)) (sep:List UInt8):(Lib.join (x :: r) sep).length=x.length + (r.map fun y=>sep.length + y.length).sum:=by
 rw [Lib.join_cons]
 simp only [List.length_append,Lib.joinTail]
 congr 1
 induction r with
 | nil=>rfl
 | cons y r ih=>simp only [List.map_cons,List.flatten_cons,List.length_append,List.sum_cons,ih]
theorem sum_ge_mem {α:Type} (f:α→Nat) (l:List α) {x:α} (h:x ∈ l):f x≤(l.map f).sum:=by
 induction l with
 | nil=>simp at h
 | cons y r ih =>
  rcases List.mem_cons.1 h with rfl | h
  ·
   simp
  ·
   have:=ih h;simp;omega
theorem join_mem_le (l:List (List UInt8)) (sep:List UInt8) {x:List UInt8} (h:x ∈ l):x.length≤(Lib.join l sep).length:=by
 cases l with
 | nil=>simp at h
 | cons y r =>
  rw [join_len]
  rcases List.mem_cons.1 h with rfl | h
  ·
   omega
  ·
   have:=sum_ge_mem (fun y:List UInt8=>sep.length + y.length) r h;omega
theorem join_count_le (l:List (List UInt8)) (sep:List UInt8) (hs:1≤sep.length):l.length≤(Lib.join l sep).length + 1:=by
 cases l with
 | nil=>simp
 | cons y r =>
  rw [join_len]
  have:r.length≤(r.map fun y=>sep.length + y.length).sum:=by
   clear y
   induction r with
   | nil=>simp
   | cons z r ih=>simp only [List.length_cons,List.map_cons,List.sum_cons];omega
  simp only [List.length_cons];omega
end Go.Proofs.YtinjocchommbdaaGreatDoor
