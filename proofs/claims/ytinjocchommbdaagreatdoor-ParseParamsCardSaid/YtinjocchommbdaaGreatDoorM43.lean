/- A part of the proof that parser laws hold: texts of the walk and of its plain laws, made small. -/
import Derived.Test.YtinjocchommbdaaGreatDoorM07
import Derived.Test.YtinjocchommbdaaGreatDoorM05
import Derived.Test.YtinjocchommbdaaGreatDoorM42
import Derived.Test.YtinjocchommbdaaGreatDoorM32
import Derived.Test.YtinjocchommbdaaGreatDoorM24
import Derived.Test.YtinjocchommbdaaGreatDoorM13
set_option linter.unusedVariables false
set_option linter.unusedSimpArgs false
namespace Go.Proofs.YtinjocchommbdaaGreatDoor
open Go.RowKit
def text61:Bs:=[102,32,120,32,43,32,49]
def toks61:List Tk:=[⟨2,[102],0,1,1⟩,⟨2,[120],0,1,3⟩,⟨4,[43],0,1,5⟩,⟨1,[49],1,1,7⟩]
theorem lexA61:lexA text61=.ok toks61:=by
 show lexF 1 1 0 text61=_
 rw [←lexN_eq 7 _ _ _ _ (by decide)];rfl
def ex61f:Ex:=.mk 2 ⟨#[102]⟩ 0 [] []
def ex61x:Ex:=.mk 2 ⟨#[120]⟩ 0 [] []
def ex61n:Ex:=.mk 1 ⟨#[]⟩ 1 [] []
def ex61:Ex:=.mk 9 ⟨#[43]⟩ 0 [] [.mk 5 ⟨#[]⟩ 0 [] [ex61f,ex61x],ex61n]
theorem expr61:exprF toks61=.ok ex61:=by rfl
theorem expr62:exprF (toks61.take 3)=.error 3:=by rfl
theorem place62:placeT (toks61.take 3) 3=(1,5):=by rfl
theorem chk61:chkB ex61=true:=by
 simp [chkB,ex61,ex61f,ex61x,ex61n,cnt,cnt.cntL,dep,dep.depL,Ex.kind,sndR,allP,allP.allPL,sndQ,namedB,nameB,fitB,wordB,namesB,belowB,mayAt,namesK,kidsK,doesB,holdsB,Lib.toList_data,List.zipIdx]
 try decide
theorem itoa1:Lib.itoa 1=[49]:=by
 unfold Lib.itoa
 rw [if_neg (by decide)]
 rw [Lib.decDigits]
 simp
 try decide
theorem text61E:textE ex61=[40,102,32,120,41,32,43,32,49]:=by
 simp [ex61,ex61f,ex61x,ex61n,tx_op,tx_app,atomE,atomT,paren,tx_var,tx_int,Ex.kind,bs,itoa1]
def text62:Bs:=[102,32,120,32,61,32,120,10,103,32,61,32,100,111,10,32,32,102,32,49,10]
def toks62:List Tk:=match lexN 21 1 1 0 text62 with | .ok m=>m | .bad _ _=>[]
theorem lexA62:lexA text62=.ok toks62:=by
 show lexF 1 1 0 text62=_
 rw [←lexN_eq 21 _ _ _ _ (by decide)];rfl
def out62:List Tk:=match layF toks62 with | .ok m=>m | .bad _ _=>[]
theorem lay62:layF toks62=.ok out62:=by rfl
def pg62:Pg:=⟨[],[⟨⟨#[102]⟩,.mk 4 ⟨#[]⟩ 0 [⟨#[120]⟩] [.mk 2 ⟨#[120]⟩ 0 [] []]⟩,⟨⟨#[103]⟩,.mk 11 ⟨#[]⟩ 0 [] [.mk 5 ⟨#[]⟩ 0 [] [.mk 2 ⟨#[102]⟩ 0 [] [],.mk 1 ⟨#[]⟩ 1 [] []]]⟩]⟩
theorem prog62:progF out62=.ok pg62:=by rfl
theorem chk62:progB pg62=true:=by
 simp [progB,pg62,defB,chkB,cnt,cnt.cntL,dep,dep.depL,Ex.kind,sndR,allP,allP.allPL,sndQ,namedB,nameB,fitB,wordB,namesB,belowB,mayAt,namesK,kidsK,Lib.toList_data,List.zipIdx]
 decide
theorem text62P:progT pg62=[123,32,102,32,61,32,92,120,32,45,62,32,120,32,59,32,103,32,61,32,100,111,32,123,32,102,32,49,32,125,32,125]:=by
 simp [progT,progL,progW,pg62,defT,defW,tx_var,tx_lam,tx_do,tx_app,tx_int,seqT,atomE,atomT,paren,Ex.kind,joinSp,Lib.join_cons,Lib.joinTail,bs,mkS,itoa1]
def text63:Bs:=[102,32,61,32,61]
def toks63:List Tk:=match lexN 5 1 1 0 text63 with | .ok m=>m | .bad _ _=>[]
theorem lexA63:lexA text63=.ok toks63:=by
 show lexF 1 1 0 text63=_
 rw [←lexN_eq 5 _ _ _ _ (by decide)];rfl
def out63:List Tk:=match layF toks63 with | .ok m=>m | .bad _ _=>[]
theorem lay63:layF toks63=.ok out63:=by rfl
theorem prog63:progF out63=.error 3:=by rfl
theorem place63:placeT out63 3=(1,5):=by rfl
theorem xpr61:xprS ex61=⟨#[40,102,32,120,41,32,43,32,49]⟩∧xprN ex61=0:=by
 rw [xprS,xprN,if_pos chk61,if_pos chk61,text61E];exact ⟨rfl,rfl⟩
theorem prg62:prgS pg62=⟨#[123,32,102,32,61,32,92,120,32,45,62,32,120,32,59,32,103,32,61,32,100,111,32,123,32,102,32,49,32,125,32,125]⟩∧prgN pg62=0:=by
 rw [prgS,prgN,if_pos chk62,if_pos chk62,text62P];exact ⟨rfl,rfl⟩
end Go.Proofs.YtinjocchommbdaaGreatDoor
