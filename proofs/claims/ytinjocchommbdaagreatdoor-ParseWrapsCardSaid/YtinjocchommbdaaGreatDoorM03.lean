/- A part of the proof that parser laws hold: texts of the walk and of its plain laws, made small. -/
import Derived.Test.YtinjocchommbdaaGreatDoorM00
import Derived.Test.YtinjocchommbdaaGreatDoorProg
import Derived.Lib.ConvBytes
import Derived.Lib.Strings
set_option linter.unusedVariables false
set_option linter.unusedSimpArgs false
namespace Go.Proofs.YtinjocchommbdaaGreatDoor
open Go.RowKit
def digB (b:UInt8):Bool:=decide (48≤b.toNat∧b.toNat≤57)
def smlB (b:UInt8):Bool:=decide (97≤b.toNat∧b.toNat≤122)
def grtB (b:UInt8):Bool:=decide (65≤b.toNat∧b.toNat≤90)
def prtB (b:UInt8):Bool:=digB b || smlB b || grtB b
theorem lex_digit (b:UInt8) (w:World):Calls Tryz.prog 111 #[.int .u8 b.toNat] w fun r w'=>r=.returned (.bool (digB b))∧w=w':=by
 go_enter Tryz.func111,Tryz.ntmps111
 go_wp2
 all_goals go_ret
 all_goals exact ⟨ret_bool (by first | exact decide_eq_decide.2 (by omega) | exact (decide_eq_false (by omega)).symm),rfl⟩
theorem lex_small (b:UInt8) (w:World):Calls Tryz.prog 155 #[.int .u8 b.toNat] w fun r w'=>r=.returned (.bool (smlB b))∧w=w':=by
 go_enter Tryz.func155,Tryz.ntmps155
 go_wp2
 all_goals go_ret
 all_goals exact ⟨ret_bool (by first | exact decide_eq_decide.2 (by omega) | exact (decide_eq_false (by omega)).symm),rfl⟩
theorem lex_great (b:UInt8) (w:World):Calls Tryz.prog 153 #[.int .u8 b.toNat] w fun r w'=>r=.returned (.bool (grtB b))∧w=w':=by
 go_enter Tryz.func153,Tryz.ntmps153
 go_wp2
 all_goals go_ret
 all_goals exact ⟨ret_bool (by first | exact decide_eq_decide.2 (by omega) | exact (decide_eq_false (by omega)).symm),rfl⟩
theorem lex_part (b:UInt8) (w:World):Calls Tryz.prog 113 #[.int .u8 b.toNat] w fun r w'=>r=.returned (.bool (prtB b))∧w=w':=by
 cases h1:digB b <;> cases h2:smlB b
 all_goals go_enter Tryz.func113,Tryz.ntmps113
 all_goals go_wp2_with (first | (go_at_call 111;refine (lex_digit _ _).mono ?_;rintro e w' ⟨rfl,rfl⟩) | (go_at_call 155;refine (lex_small _ _).mono ?_;rintro e w' ⟨rfl,rfl⟩) | (go_at_call 153;refine (lex_great _ _).mono ?_;rintro e w' ⟨rfl,rfl⟩))
 all_goals go_ret
 all_goals exact ⟨ret_bool (by simp [prtB,h1,h2]),rfl⟩
def wordB (s:Str):Bool:=[[99,97,115,101],[111,102],[108,101,116],[105,110],[100,111],[100,111,115],[105,102],[116,104,101,110],[101,108,115,101],[100,97,116,97]].contains s.toList
set_option maxHeartbeats 400000 in
theorem lex_word (s:Str) (w:World):Calls Tryz.prog 114 #[.string s] w fun r w'=>r=.returned (.bool (wordB s))∧w=w':=by
 go_enter Tryz.func114,Tryz.ntmps114
 go_wp2
 all_goals go_ret
 all_goals first | exact ⟨ret_bool (by simp only [wordB,List.contains_cons,List.contains_nil, *];rfl),rfl⟩ | (exfalso;simp_all;done)
def fitB (s:Str):Bool:=decide (1≤s.toList.length∧s.toList.length≤20) && s.toList.all prtB
def nameB (s:Str):Bool:=fitB s && s.toList.head?.any smlB && !wordB s
def conB (s:Str):Bool:=fitB s && s.toList.head?.any grtB
def ByteRow (w:World) (a:Option Addr) (l:List UInt8):Prop :=
 l=[]∨∃ b off,a=some ⟨b,off,none⟩∧∀ i (h:i < l.length),w.cell? ⟨b,off + i,none⟩=some (.int .u8 l[i].toNat)
def Answers (P:Program) (g:Nat) (lb:Array Value) (p:UInt8→Bool) (w:World):Prop :=
 ∀ (W:World) (x:UInt8),Below w.heap.size w W→Calls P g (#[.int .u8 x.toNat] ++ lb) W fun r W'=>r=.returned (.bool (p x))∧W=W'
def runN (p:UInt8→Bool) (l:List UInt8):Nat:=(l.takeWhile p).length
theorem runN_take {p:UInt8→Bool} {l:List UInt8} {k:Nat} (hk:k < l.length) (h:∀ i (hi:i < k),p (l[i]'(by omega))=true) (hn:p l[k]=false):runN p l=k:=by
 induction l generalizing k with
 | nil=>simp at hk
 | cons x r ih =>
  cases k with
  | zero=>simp [runN,List.takeWhile_cons,show p x=false from hn]
  | succ k =>
   have h0:=h 0 (by omega)
   have:=ih (k:=k) (by simpa using hk) (fun i hi=>by have:=h (i + 1) (by omega);simpa using this) (by simpa using hn)
   simp only [runN,List.takeWhile_cons,show p x=true from h0,if_true,List.length_cons] at this ⊢
   omega
theorem runN_all {p:UInt8→Bool} {l:List UInt8} (h:∀ i (hi:i < l.length),p l[i]=true):runN p l=l.length:=by
 induction l with
 | nil=>rfl
 | cons x r ih =>
  have h0:=h 0 (by simp)
  have:=ih (fun i hi=>by have:=h (i + 1) (by simpa using hi);simpa using this)
  simp only [runN,List.takeWhile_cons,show p x=true from h0,if_true,List.length_cons] at this ⊢
  omega
set_option maxHeartbeats 400000 in
theorem lex_run (a:Option Addr) (l:List UInt8) (cap g:Nat) (lb:Array Value) (p:UInt8→Bool) (w:World) (hl:l.length≤lenMax) (hr:ByteRow w a l) (hp:Answers Tryz.prog g lb p w)
  (henter:∀ args w,(callFunc g args).run Tryz.prog w=.ok (.enter g args) w) :
  Calls Tryz.prog 45 #[.slice a l.length cap,.func (.func g) #[] lb] w fun r w'=>r=.returned (.int .i64 (runN p l))∧w=w':=by
 unfold lenMax at hl
 go_enter Tryz.func45,Tryz.ntmps45
 go_wp2_with fail
 go_loop [5] (fun n=>∃ k:Nat,k≤l.length∧n=.int .i64 k∧∀ i (hi:i < k) (hj:i < l.length),p l[i]=true) (fun n=>l.length - (intOf n).toNat)
 case atStart=>exact ⟨0,by omega,rfl,fun i hi=>by omega⟩
 case round =>
  obtain ⟨k,hk,rfl,hall⟩:=hrel
  by_cases hlt:k < l.length
  ·
   rcases hr with hr | ⟨b,off,rfl,hr⟩
   ·
    simp [hr] at hlt
   have hc:=hr k hlt
   have hall':=Lib.hid hall
   clear hall hr
   cases hpk:p l[k]
   ·
    go_wp2_with (refine (hp _ _ (Below.refl _ _)).mono ?_;rintro e w' ⟨rfl,rfl⟩)
    go_ret
    exact ⟨ret_int (by rw [runN_take hlt (fun i hi=>hall'.out i hi _) hpk]),rfl⟩
   ·
    go_wp2_with (refine (hp _ _ (Below.refl _ _)).mono ?_;rintro e w' ⟨rfl,rfl⟩)
    go_round
    case rel=>exact ⟨k + 1,by omega,by go_num,fun i hi hj=>by
                                     rcases Nat.lt_or_ge i k with h | h
                                     ·
                                      exact hall'.out i h hj
                                     ·
                                      obtain rfl:i=k:=by omega
                                      exact hpk⟩
    case measure=>simp [intOf];omega
  ·
   have e:k=l.length:=by omega
   have hall':=Lib.hid hall
   clear hall
   go_wp2_with fail
   go_ret
   exact ⟨ret_int (by rw [runN_all (fun i hi=>hall'.out i (by omega) hi)]),rfl⟩
theorem below_bytesWorld (w:World) (e:TypeId) (s:Str):Below w.heap.size w (Lib.bytesWorld w e s) :=
 ⟨rfl,rfl,rfl,by rw [Lib.bytesWorld_size];omega,fun k hk=>Lib.bytesWorld_at_old w e s k hk⟩
theorem byteRow_bytesWorld (w:World) (e:TypeId) (s:Str):ByteRow (Lib.bytesWorld w e s) (some ⟨w.heap.size,0,none⟩) s.toList :=
 .inr ⟨_,_,rfl,fun i hi=>by
  have hi':i < s.size:=by rw [Lib.size_eq,←Lib.toList_data];exact hi
  have:=Lib.bytesWorld_cell w e s i hi'
  simp only [Nat.zero_add]
  rw [this]
  simp [List.getD,hi',ByteArray.toList_eq]⟩
theorem answers_part (w:World):Answers Tryz.prog 113 #[] prtB w:=fun W x _=>lex_part x W
theorem enters_part (args:Array Value) (w:World):(callFunc 113 args).run Tryz.prog w=.ok (.enter 113 args) w:=Tryz.call113 args w
theorem all_iff_runN (p:UInt8→Bool) (l:List UInt8):(runN p l=l.length)↔l.all p=true:=by
 induction l with
 | nil=>simp [runN]
 | cons x r ih =>
  cases h:p x
  ·
   simp [runN,List.takeWhile_cons,h]
  ·
   simp [runN,List.takeWhile_cons,h] at ih ⊢;exact ih
set_option maxHeartbeats 400000 in
theorem lex_fits (s:Str) (w:World):Calls Tryz.prog 152 #[.string s] w fun r w'=>r=.returned (.bool (fitB s))∧Below w.heap.size w w':=by
 have hcv:=fun (w:World) (s:Str)=>Lib.run_convert_string_bytes (P:=Tryz.prog) w 9 42 5 s Tryz.underlying9 Tryz.underlying42 Tryz.underlying5
 have hsz:s.size=s.toList.length:=by rw [Lib.toList_data,Lib.size_eq]
 by_cases h1:s.toList=[]
 ·
  clear hsz
  go_enter Tryz.func152,Tryz.ntmps152
  go_wp2_with fail
  go_ret
  exact ⟨ret_bool (by simp [fitB,h1]),Below.refl _ _⟩
 ·
  have h0:1≤s.toList.length:=by cases h:s.toList with | nil=>exact (h1 h).elim | cons=>simp
  have hE:s.toList.isEmpty=false:=by simp [h1]
  have hsz':=Lib.hid hsz
  clear hsz
  by_cases h2:(s.size:Int)≤20
  ·
   have hrun:=Lib.hid (lex_run (some ⟨w.heap.size,0,none⟩) s.toList (grownCap w s.size 0 5) 113 #[] prtB (Lib.bytesWorld w 5 s) (by have:=hsz'.out;unfold lenMax;omega) (byteRow_bytesWorld _ _ _) (answers_part _) enters_part)
   rw [←hsz'.out] at hrun
   by_cases h3:runN prtB s.toList=s.size
   ·
    have h3':((runN prtB s.toList:Int) == (s.size:Int))=true:=by rw [h3];simp
    have h3'':=Lib.hid h3
    clear h3
    go_enter Tryz.func152,Tryz.ntmps152
    go_wp2_with fail
    refine hrun.out.mono ?_
    rintro e w' ⟨rfl,rfl⟩
    go_wp2_with fail
    go_ret
    refine ⟨ret_bool ?_,below_bytesWorld _ _ _⟩
    have:=(all_iff_runN prtB s.toList).1 (h3''.out.trans hsz'.out)
    rw [fitB,this,decide_eq_true ⟨h0,by have:=hsz'.out;omega⟩];rfl
   ·
    have h3':((runN prtB s.toList:Int) == (s.size:Int))=false:=by simp;omega
    have h3'':=Lib.hid h3
    clear h3
    go_enter Tryz.func152,Tryz.ntmps152
    go_wp2_with fail
    refine hrun.out.mono ?_
    rintro e w' ⟨rfl,rfl⟩
    go_wp2_with fail
    go_ret
    refine ⟨ret_bool ?_,below_bytesWorld _ _ _⟩
    have:s.toList.all prtB=false:=by
     cases h:s.toList.all prtB
     ·
      rfl
     ·
      exact (h3''.out (((all_iff_runN prtB s.toList).2 h).trans hsz'.out.symm)).elim
    rw [fitB,this,Bool.and_false]
  ·
   go_enter Tryz.func152,Tryz.ntmps152
   go_wp2_with fail
   go_ret
   exact ⟨ret_bool (by rw [fitB,decide_eq_false (by have:=hsz'.out;omega)];rfl),Below.refl _ _⟩
end Go.Proofs.YtinjocchommbdaaGreatDoor
