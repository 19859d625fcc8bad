/- A part of the proof that parser laws hold: texts of the walk and of its plain laws, made small. -/
import Derived.Test.YtinjocchommbdaaGreatDoorM00
import Derived.Test.YtinjocchommbdaaGreatDoorM05
import Derived.Test.YtinjocchommbdaaGreatDoorProg
set_option linter.unusedVariables false
set_option linter.unusedSimpArgs false
namespace Go.Proofs.YtinjocchommbdaaGreatDoor
open Go.RowKit
def tS (l:Bs):Str:=⟨l.toArray⟩
def bS (s:Str):Bs:=s.data.toList
theorem tS_bS (s:Str):tS (bS s)=s:=rfl
theorem bS_tS (l:Bs):bS (tS l)=l:=rfl
theorem tS_size (l:Bs):(tS l).size=l.length:=rfl
def tkC (t:Tk):List Value:=[.int .i64 t.kind,.string (tS t.text),.int .i64 t.num,.int .i64 t.line,.int .i64 t.col]
def tkV (t:Tk):Value:=.agg #[.int .i64 t.kind,.string (tS t.text),.int .i64 t.num,.int .i64 t.line,.int .i64 t.col]
def TkRow (w:World) (a:Option Addr) (l:List Tk):Prop :=
 l=[]∨∃ b off,a=some ⟨b,off,none⟩∧∀ i (h:i < l.length),w.cell? ⟨b,off + i * 5,none⟩=some (.int .i64 l[i].kind)∧w.cell? ⟨b,off + i * 5 + 1,none⟩=some (.string (tS l[i].text))∧w.cell? ⟨b,off + i * 5 + 2,none⟩=some (.int .i64 l[i].num)∧w.cell? ⟨b,off + i * 5 + 3,none⟩=some (.int .i64 l[i].line)∧w.cell? ⟨b,off + i * 5 + 4,none⟩=some (.int .i64 l[i].col)
theorem TkRow.keeps {w W:World} {a:Option Addr} {l:List Tk} (h:TkRow w a l) (hk:Keeps w W):TkRow W a l:=by
 rcases h with h | ⟨b,off,ha,h⟩
 ·
  exact .inl h
 ·
  refine .inr ⟨b,off,ha,fun i hi=>?_⟩
  obtain ⟨h0,h1,h2,h3,h4⟩:=h i hi
  exact ⟨hk _ _ h0,hk _ _ h1,hk _ _ h2,hk _ _ h3,hk _ _ h4⟩
theorem TkRow.at {w:World} {a:Option Addr} {l:List Tk} (h:TkRow w a l) (hne:l≠[]):∃ b off,a=some ⟨b,off,none⟩∧∀ i (h:i < l.length),w.cell? ⟨b,off + i * 5,none⟩=some (.int .i64 l[i].kind)∧w.cell? ⟨b,off + i * 5 + 1,none⟩=some (.string (tS l[i].text))∧w.cell? ⟨b,off + i * 5 + 2,none⟩=some (.int .i64 l[i].num)∧w.cell? ⟨b,off + i * 5 + 3,none⟩=some (.int .i64 l[i].line)∧w.cell? ⟨b,off + i * 5 + 4,none⟩=some (.int .i64 l[i].col):=by
 rcases h with h | h
 ·
  exact (hne h).elim
 ·
  exact h
def TkSl (w:World) (v:Value) (l:List Tk):Prop:=∃ a c,v=.slice a l.length c∧((a=none→c=0)∧l.length≤c)∧TkRow w a l
theorem TkSl.nil (w:World):TkSl w (.slice none 0 0) []:=⟨none,0,rfl,⟨fun _=>rfl,Nat.le_refl _⟩,.inl rfl⟩
theorem TkSl.keeps {w W:World} {v:Value} {l:List Tk} (h:TkSl w v l) (hk:Keeps w W):TkSl W v l:=by
 obtain ⟨a,c,h1,h2,h3⟩:=h
 exact ⟨a,c,h1,h2,h3.keeps hk⟩
theorem TkSl.open {w:World} {v:Value} {l:List Tk} (h:TkSl w v l):∃ a c,v=.slice a l.length c:=by
 obtain ⟨a,c,h1,_⟩:=h
 exact ⟨a,c,h1⟩
theorem TkSl.at {w:World} {a:Option Addr} {m c:Nat} {l:List Tk} (h:TkSl w (.slice a m c) l):m=l.length∧((a=none→c=0)∧l.length≤c)∧TkRow w a l:=by
 obtain ⟨a',c',h1,h2,h3⟩:=h
 simp only [Value.slice.injEq] at h1
 obtain ⟨rfl,rfl,rfl⟩:=h1
 exact ⟨rfl,h2,h3⟩
def tkCs (l:List Tk):List Value:=l.flatMap tkC
theorem tkCs_len (l:List Tk):(tkCs l).length=l.length * 5:=by
 induction l with
 | nil=>rfl
 | cons t r ih=>unfold tkCs at ih ⊢;rw [List.flatMap_cons,List.length_append,ih];simp [tkC];omega
theorem tkCs_append (a b:List Tk):tkCs (a ++ b)=tkCs a ++ tkCs b:=by unfold tkCs;rw [List.flatMap_append]
theorem tkCs_at:∀ (l:List Tk) (i:Nat) (h:i < l.length) (j:Nat),j < 5→(tkCs l)[i * 5 + j]?=(tkC l[i])[j]?
 | t :: r,0,_,j,hj=>by
  unfold tkCs
  rw [List.flatMap_cons,List.getElem?_append_left (by simp [tkC];omega)]
  simp
 | t :: r,i + 1,h,j,hj=>by
  have ih:=tkCs_at r i (by simpa using h) j hj
  unfold tkCs at ih ⊢
  rw [List.flatMap_cons,List.getElem?_append_right (by simp [tkC];omega)]
  have:(i + 1) * 5 + j - (tkC t).length=i * 5 + j:=by simp [tkC];omega
  rw [this,ih]
  rfl
theorem tkCs_one (l:List Tk):∀ u ∈ tkCs l,u.oneCell'=true:=by
 intro u hu
 unfold tkCs at hu
 obtain ⟨t,_,ht⟩:=List.mem_flatMap.1 hu
 simp only [tkC,List.mem_cons,List.not_mem_nil,or_false] at ht
 rcases ht with rfl | rfl | rfl | rfl | rfl <;> rfl
theorem addr_plus (b off j:Nat):(⟨b,off,none⟩:Addr).add j=⟨b,off + j,none⟩:=by unfold Addr.add;split <;> simp_all
theorem TkRow.cells {w:World} {a:Option Addr} {l:List Tk} (h:TkRow w a l):∀ ad,a=some ad→∀ j u,(tkCs l)[j]?=some u→w.cell? (ad.add j)=some u:=by
 intro ad had j u hu
 have hj:j < l.length * 5:=by
  have:=(List.getElem?_eq_some_iff.1 hu).1
  rw [tkCs_len] at this;exact this
 have hne:l≠[]:=by rintro rfl;simp at hj
 obtain ⟨b,off,rfl,hc⟩:=h.at hne
 simp only [Option.some.injEq] at had
 subst had
 obtain ⟨c0,c1,c2,c3,c4⟩:=hc (j / 5) (by omega)
 rw [addr_plus]
 have e:=tkCs_at l (j / 5) (by omega) (j % 5) (by omega)
 rw [show j / 5 * 5 + j % 5=j by omega,hu] at e
 have hr:j % 5=0∨j % 5=1∨j % 5=2∨j % 5=3∨j % 5=4:=by omega
 rcases hr with h0 | h0 | h0 | h0 | h0 <;> rw [h0] at e <;> simp only [tkC,List.getElem?_cons_zero,List.getElem?_cons_succ,Option.some.injEq] at e <;> subst e
 ·
  rw [show off + j=off + j / 5 * 5 by omega];exact c0
 ·
  rw [show off + j=off + j / 5 * 5 + 1 by omega];exact c1
 ·
  rw [show off + j=off + j / 5 * 5 + 2 by omega];exact c2
 ·
  rw [show off + j=off + j / 5 * 5 + 3 by omega];exact c3
 ·
  rw [show off + j=off + j / 5 * 5 + 4 by omega];exact c4
theorem tk_own_form {w:World} {base:Nat} {e:TypeId} {size n:Nat} {v:Value} {xs:List Value} (h:w.ownsRow base e size v n xs):∃ a c,v=.slice a n c∧((a=none→c=0)∧n≤c):=by
 obtain ⟨_,⟨rfl,rfl⟩ | ⟨g,cap,cur,rfl,_,_,hn,_⟩⟩:=h
 ·
  exact ⟨none,0,rfl,fun _=>rfl,Nat.le_refl _⟩
 ·
  exact ⟨_,cap,rfl,(fun h=>by cases h),hn⟩
theorem TkSl.own {w:World} {base:Nat} {v:Value} {l:List Tk} (h:w.ownsRow base 51 5 v l.length (tkCs l)):TkSl w v l:=by
 obtain ⟨a,c,rfl,ha⟩:=tk_own_form h
 refine ⟨a,c,rfl,ha,?_⟩
 obtain ⟨hlen,h2 | ⟨g,cap,cur,hv,hb,hh,hnc,_,hsz,htk⟩⟩:=h
 ·
  exact .inl (List.length_eq_zero_iff.1 h2.2)
 ·
  simp only [Value.slice.injEq,true_and] at hv
  obtain ⟨rfl,rfl⟩:=hv
  refine .inr ⟨g,0,rfl,fun i hi=>?_⟩
  have cell:∀ j x,j < 5→(tkC l[i])[j]?=some x→w.cell? ⟨g,0 + i * 5 + j,none⟩=some x:=by
   intro j x hj5 hj
   rw [←tkCs_at l i hi j hj5,←htk] at hj
   have hj':cur[i * 5 + j]?=some x:=by
    rw [List.getElem?_take] at hj
    split at hj
    ·
     simpa using hj
    ·
     cases hj
   simp [World.cell?,hh,hj']
  exact ⟨cell 0 _ (by omega) rfl,cell 1 _ (by omega) rfl,cell 2 _ (by omega) rfl,cell 3 _ (by omega) rfl,cell 4 _ (by omega) rfl⟩
theorem cell_five_new {w:World} {B:Nat} (hB:w.heap.size=B) (t:Tk) (ty:TypeId):∀ j v,(tkC t)[j]?=some v→(w.alloc (.cells (tkC t).toArray ty)).cell? ((⟨B,0,none⟩:Addr).add j)=some v:=by
 subst hB
 intro j v hj
 rw [addr_plus,Nat.zero_add,World.cell?_alloc_at _ _ _ _ rfl]
 simpa using hj
theorem Tryz.infoTk:(Tryz.prog.info? 51).map (fun i=>(i.zero,i.size,i.bytes))=some (some (.agg #[.int .i64 0,.string ⟨#[]⟩,.int .i64 0,.int .i64 0,.int .i64 0]),5,48):=by kernel_rfl
end Go.Proofs.YtinjocchommbdaaGreatDoor

namespace Go.Proofs.YtinjocchommbdaaGreatDoor
abbrev Ans6 (α:Type):=Option (Except Nat (α × Nat))
def Ans6.bnd {α β:Type} (r:Ans6 α) (k:α→Nat→Ans6 β):Ans6 β :=
 match r with
 | none=>none
 | some (.error e)=>some (.error e)
 | some (.ok (a,j))=>k a j
def ok6 {α:Type} (a:α) (j:Nat):Ans6 α:=some (.ok (a,j))
def err6 {α:Type} (j:Nat):Ans6 α:=some (.error j)
def tkAt (l:List Tk) (i:Nat):Tk:=l.getD i ⟨0,[],0,0,0⟩
def kindAt (l:List Tk) (i:Nat):Int:=(tkAt l i).kind
def isAt (l:List Tk) (i:Nat) (s:Bs):Bool:=keyT (tkAt l i) s
def textAt (l:List Tk) (i:Nat):Str:=tS (tkAt l i).text
def sgn6 {α:Type} (l:List Tk) (i:Nat) (s:Bs) (k:Nat→Ans6 α):Ans6 α:=if isAt l i s=true then k (i + 1) else err6 i
def nms (l:List Tk) (i:Nat):List Str:=((l.drop i).takeWhile fun t=>decide (t.kind=2)).map fun t=>tS t.text
def ex0:Str:=⟨#[]⟩
inductive Rl where
 | atom | apps (e:Ex) | lev (n:Nat) | ops (n:Nat) (e:Ex) | comp | alt | line | items (alts:Bool) | expr
def opAt (l:List Tk) (i:Nat):Nat→Bool
 | 1=>isAt l i [42] || isAt l i [47]
 | 2=>isAt l i [43] || isAt l i [45]
 | _=>isAt l i [61,61] || isAt l i [60]
def beginsAt (l:List Tk) (i:Nat):Bool:=decide (kindAt l i=1) || decide (kindAt l i=2) || decide (kindAt l i=3) || isAt l i pOpen
def headE:List Ex→Ex
 | []=>.mk 0 ex0 0 [] []
 | e :: _=>e
def stepR (l:List Tk) (rec:Rl→Nat→Ans6 (List Ex)):Rl→Nat→Ans6 (List Ex)
 | .atom,i =>
  if kindAt l i=1 then ok6 [.mk 1 ex0 (tkAt l i).num [] []] (i + 1)
  else if kindAt l i=2 then ok6 [.mk 2 (textAt l i) 0 [] []] (i + 1)
  else if kindAt l i=3 then ok6 [.mk 3 (textAt l i) 0 [] []] (i + 1)
  else sgn6 l i pOpen fun j=>(rec .expr j).bnd fun e k=>sgn6 l k pShut fun m=>ok6 e m
 | .apps e,i=>if beginsAt l i=true then (rec .atom i).bnd fun k j=>rec (.apps (.mk 5 ex0 0 [] [e,headE k])) j else ok6 [e] i
 | .lev 0,i=>(rec .atom i).bnd fun e j=>rec (.apps (headE e)) j
 | .lev (n + 1),i=>(rec (.lev n) i).bnd fun e j=>rec (.ops (n + 1) (headE e)) j
 | .ops n e,i=>if opAt l i n=true then (rec (.lev (n - 1)) (i + 1)).bnd fun k j=>rec (.ops n (.mk 9 (textAt l i) 0 [] [e,headE k])) j else ok6 [e] i
 | .comp,i=>(rec (.lev 2) i).bnd fun e j=>if opAt l j 3=true then (rec (.lev 2) (j + 1)).bnd fun k m=>ok6 [.mk 9 (textAt l j) 0 [] [headE e,headE k]] m else ok6 e j
 | .alt,i=>if kindAt l i=3 then sgn6 l (i + 1 + (nms l (i + 1)).length) [45,62] fun j=>(rec .expr j).bnd fun e k=>ok6 [.mk 8 (textAt l i) 0 (nms l (i + 1)) e] k else err6 i
 | .line,i=>if kindAt l i=2∧isAt l (i + 1) [60,45]=true then (rec .expr (i + 2)).bnd fun e k=>ok6 [.mk 13 ex0 0 [textAt l i] e] k else rec .expr i
 | .items alts,i=>(rec (if alts then .alt else .line) i).bnd fun e j=>if isAt l j semiT=true then (rec (.items alts) (j + 1)).bnd fun es k=>ok6 (e ++ es) k else sgn6 l j bShut fun k=>ok6 e k
 | .expr,i =>
  if isAt l i [92]=true then (if kindAt l (i + 1)=2 then sgn6 l (i + 2) [45,62] fun j=>(rec .expr j).bnd fun e k=>ok6 [.mk 4 ex0 0 [textAt l (i + 1)] e] k else err6 (i + 1))
  else if isAt l i [108,101,116]=true then (if kindAt l (i + 1)=2 then sgn6 l (i + 2) [61] fun j=>(rec .expr j).bnd fun a k=>sgn6 l k [105,110] fun m=>(rec .expr m).bnd fun b n=>ok6 [.mk 6 ex0 0 [textAt l (i + 1)] (a ++ b)] n else err6 (i + 1))
  else if isAt l i [99,97,115,101]=true then (rec .expr (i + 1)).bnd fun e j=>sgn6 l j [111,102] fun k=>sgn6 l k bOpen fun m=>(rec (.items true) m).bnd fun ks n=>ok6 [.mk 7 ex0 0 [] (e ++ ks)] n
  else if isAt l i [105,102]=true then (rec .expr (i + 1)).bnd fun a j=>sgn6 l j [116,104,101,110] fun k=>(rec .expr k).bnd fun b m=>sgn6 l m [101,108,115,101] fun n=>(rec .expr n).bnd fun c p=>ok6 [.mk 10 ex0 0 [] (a ++ (b ++ c))] p
  else if isAt l i [100,111]=true then sgn6 l (i + 1) bOpen fun m=>(rec (.items false) m).bnd fun ks n=>ok6 [.mk 11 ex0 0 [] ks] n
  else if isAt l i [100,111,115]=true then sgn6 l (i + 1) bOpen fun m=>(rec (.items false) m).bnd fun ks n=>ok6 [.mk 12 ex0 0 [] ks] n
  else rec .comp i
def pR (l:List Tk):Nat→Rl→Nat→Ans6 (List Ex)
 | 0,_,_=>none
 | f + 1,r,i=>stepR l (pR l f) r i
def Le6 {α:Type} (a b:Ans6 α):Prop:=∀ x,a=some x→b=some x
theorem Le6.refl {α:Type} (a:Ans6 α):Le6 a a:=fun _ h=>h
theorem Le6.bnd {α β:Type} {a b:Ans6 α} {f g:α→Nat→Ans6 β} (h:Le6 a b) (k:∀ x j,Le6 (f x j) (g x j)):Le6 (a.bnd f) (b.bnd g):=by
 intro x hx
 cases a with
 | none=>cases hx
 | some r =>
  rw [h r rfl]
  cases r with
  | error e=>exact hx
  | ok p=>exact k p.1 p.2 x hx
theorem Le6.sgn {α:Type} {l:List Tk} {i:Nat} {s:Bs} {f g:Nat→Ans6 α} (k:∀ j,Le6 (f j) (g j)):Le6 (sgn6 l i s f) (sgn6 l i s g):=by
 unfold sgn6
 split
 ·
  exact k _
 ·
  exact Le6.refl _
theorem Le6.ite {α:Type} {c:Prop} [Decidable c] {a b a' b':Ans6 α} (h:Le6 a a') (k:Le6 b b'):Le6 (if c then a else b) (if c then a' else b'):=by
 split
 ·
  exact h
 ·
  exact k
theorem stepR_mono {l:List Tk} {p q:Rl→Nat→Ans6 (List Ex)} (h:∀ r i,Le6 (p r i) (q r i)):∀ r i,Le6 (stepR l p r i) (stepR l q r i):=by
 intro r i
 cases r with
 | atom=>exact .ite (.refl _) (.ite (.refl _) (.ite (.refl _) (.sgn fun j=>.bnd (h _ _) fun e k=>.sgn fun m=>.refl _)))
 | apps e=>exact .ite (.bnd (h _ _) fun k j=>h _ _) (.refl _)
 | lev n =>
  cases n with
  | zero=>exact .bnd (h _ _) fun e j=>h _ _
  | succ n=>exact .bnd (h _ _) fun e j=>h _ _
 | ops n e=>exact .ite (.bnd (h _ _) fun k j=>h _ _) (.refl _)
 | comp=>exact .bnd (h _ _) fun e j=>.ite (.bnd (h _ _) fun k m=>.refl _) (.refl _)
 | alt=>exact .ite (.sgn fun j=>.bnd (h _ _) fun e k=>.refl _) (.refl _)
 | line=>exact .ite (.bnd (h _ _) fun e k=>.refl _) (h _ _)
 | items b=>exact .bnd (h _ _) fun e j=>.ite (.bnd (h _ _) fun es k=>.refl _) (.sgn fun k=>.refl _)
 | expr =>
  exact .ite (.ite (.sgn fun j=>.bnd (h _ _) fun e k=>.refl _) (.refl _))
   (.ite (.ite (.sgn fun j=>.bnd (h _ _) fun a k=>.sgn fun m=>.bnd (h _ _) fun b n=>.refl _) (.refl _))
   (.ite (.bnd (h _ _) fun e j=>.sgn fun k=>.sgn fun m=>.bnd (h _ _) fun ks n=>.refl _)
   (.ite (.bnd (h _ _) fun a j=>.sgn fun k=>.bnd (h _ _) fun b m=>.sgn fun n=>.bnd (h _ _) fun c p=>.refl _)
   (.ite (.sgn fun m=>.bnd (h _ _) fun ks n=>.refl _)
   (.ite (.sgn fun m=>.bnd (h _ _) fun ks n=>.refl _) (h _ _))))))
theorem pR_succ (l:List Tk):∀ (f:Nat) (r:Rl) (i:Nat),Le6 (pR l f r i) (pR l (f + 1) r i)
 | 0,_,_=>fun _ h=>(by cases h)
 | f + 1,r,i=>stepR_mono (fun r i=>pR_succ l f r i) r i
theorem pR_mono {l:List Tk} {f g:Nat} (h:f≤g) (r:Rl) (i:Nat):Le6 (pR l f r i) (pR l g r i):=by
 induction h with
 | refl=>exact .refl _
 | step _ ih=>exact fun x hx=>pR_succ l _ r i x (ih x hx)
theorem pR_one {l:List Tk} {f g:Nat} {r:Rl} {i:Nat} {x y:Except Nat (List Ex × Nat)} (h:pR l f r i=some x) (k:pR l g r i=some y):x=y:=by
 have h1:=pR_mono (Nat.le_max_left f g) r i x h
 have h2:=pR_mono (Nat.le_max_right f g) r i y k
 rw [h1] at h2
 exact Option.some.inj h2
def Says (l:List Tk) (r:Rl) (i:Nat) (x:Except Nat (List Ex × Nat)):Prop:=∃ f,pR l f r i=some x
theorem Says.step {l:List Tk} {r:Rl} {i:Nat} {x:Except Nat (List Ex × Nat)} (h:∃ f,stepR l (pR l f) r i=some x):Says l r i x:=by
 obtain ⟨f,h⟩:=h
 exact ⟨f + 1,h⟩
end Go.Proofs.YtinjocchommbdaaGreatDoor

namespace Go.Proofs.YtinjocchommbdaaGreatDoor
theorem tkAt_lt {l:List Tk} {i:Nat} (h:(tkAt l i).kind≠0):i < l.length:=by
 by_cases hi:i < l.length
 ·
  exact hi
 ·
  exact absurd (by unfold tkAt;simp [List.getD,List.getElem?_eq_none (Nat.le_of_not_lt hi)]) h
theorem isAt_lt {l:List Tk} {i:Nat} {s:Bs} (h:isAt l i s=true):i < l.length:=by
 refine tkAt_lt fun h0=>?_
 unfold isAt keyT at h
 rw [h0] at h
 simp at h
theorem kindAt_lt {l:List Tk} {i:Nat} {n:Int} (h:kindAt l i=n) (hn:n≠0):i < l.length:=tkAt_lt (by unfold kindAt at h;rw [h];exact hn)
theorem nms_le (l:List Tk) (i:Nat) (h:i≤l.length):i + (nms l i).length≤l.length:=by
 unfold nms
 rw [List.length_map]
 have h1:∀ (m:List Tk),(m.takeWhile fun t=>decide (t.kind=2)).length≤m.length:=by
  intro m
  induction m with
  | nil=>simp
  | cons a r ih=>rw [List.takeWhile_cons];split <;> simp <;> omega
 have:=h1 (l.drop i)
 rw [List.length_drop] at this
 omega
theorem begins_lt {l:List Tk} {i:Nat} (h:beginsAt l i=true):i < l.length:=by
 unfold beginsAt at h
 simp only [Bool.or_eq_true,decide_eq_true_eq] at h
 rcases h with ((h | h) | h) | h
 ·
  exact kindAt_lt h (by decide)
 ·
  exact kindAt_lt h (by decide)
 ·
  exact kindAt_lt h (by decide)
 ·
  exact isAt_lt h
theorem op_lt {l:List Tk} {i n:Nat} (h:opAt l i n=true):i < l.length:=by
 unfold opAt at h
 split at h <;> (simp only [Bool.or_eq_true] at h;rcases h with h | h <;> exact isAt_lt h)
def Ok6 (i n s:Nat) (a:Ans6 (List Ex)):Prop:=∃ x,a=some x∧match x with
 | .error e=>i≤e∧e≤n
 | .ok (es,j)=>i + s≤j∧j≤n∧es≠[]
theorem Ok6.ok {i n s j:Nat} {es:List Ex} (h1:i + s≤j) (h2:j≤n) (h3:es≠[]):Ok6 i n s (ok6 es j):=⟨_,rfl,h1,h2,h3⟩
theorem Ok6.err {i n s e:Nat} (h1:i≤e) (h2:e≤n):Ok6 i n s (err6 e):=⟨_,rfl,h1,h2⟩
theorem Ok6.bnd {i i' n s s':Nat} {a:Ans6 (List Ex)} {k:List Ex→Nat→Ans6 (List Ex)} (h:Ok6 i n s a) (hi:i'≤i) (hk:∀ es j,i + s≤j→j≤n→es≠[]→Ok6 i' n s' (k es j)):Ok6 i' n s' (a.bnd k):=by
 obtain ⟨x,rfl,hx⟩:=h
 cases x with
 | error e=>exact ⟨.error e,rfl,by simp only at hx ⊢;omega⟩
 | ok p=>exact hk p.1 p.2 hx.1 hx.2.1 hx.2.2
theorem Ok6.sgn {l:List Tk} {i i' s:Nat} {t:Bs} {k:Nat→Ans6 (List Ex)} (hi:i'≤i) (hn:i≤l.length) (hk:i < l.length→Ok6 i' l.length s (k (i + 1))):Ok6 i' l.length s (sgn6 l i t k):=by
 unfold sgn6
 split
 ·
  exact hk (isAt_lt ‹_›)
 ·
  exact Ok6.err hi hn
theorem Ok6.from {i i' n s s':Nat} {a:Ans6 (List Ex)} (h:Ok6 i n s a) (hi:i'≤i) (hs:i' + s'≤i + s):Ok6 i' n s' a:=by
 obtain ⟨x,rfl,hx⟩:=h
 cases x with
 | error e=>exact ⟨_,rfl,by simp only at hx ⊢;omega⟩
 | ok p=>exact ⟨_,rfl,by have h1:i + s≤p.2:=hx.1;show i' + s'≤p.2;omega,hx.2.1,hx.2.2⟩
def lvR:Rl→Nat
 | .atom=>0
 | .apps _=>1
 | .lev n=>n + 1
 | .ops _ _=>0
 | .comp=>4
 | .alt=>0
 | .line=>6
 | .items _=>7
 | .expr=>5
def okR:Rl→Prop
 | .lev n=>n≤2
 | .ops n _=>n≤2
 | _=>True
def minR:Rl→Nat
 | .apps _=>0
 | .ops _ _=>0
 | _=>1
theorem app_ne {a b:List Ex} (h:a≠[]):a ++ b≠[]:=by
 cases a with
 | nil=>exact absurd rfl h
 | cons x r=>simp
theorem pR_total (l:List Tk):∀ (f:Nat) (r:Rl) (i:Nat),okR r→i≤l.length→(l.length - i) * 16 + lvR r < f→Ok6 i l.length (minR r) (pR l f r i)
 | 0,_,_,_,_,h=>by omega
 | f + 1,r,i,hr,hi,hm=>by
  have ih:=fun r i=>pR_total l f r i
  have up:∀ (r':Rl) (j:Nat),okR r'→i < j→j≤l.length→lvR r'≤7→Ok6 j l.length (minR r') (pR l f r' j):=fun r' j h1 h2 h3 h4=>ih r' j h1 h3 (by omega)
  show Ok6 i l.length (minR r) (stepR l (pR l f) r i)
  cases r with
  | atom =>
   simp only [stepR,minR]
   split
   ·
    exact .ok (Nat.le_refl _) (kindAt_lt ‹_› (by decide)) (by simp)
   ·
    split
    ·
     exact .ok (Nat.le_refl _) (kindAt_lt ‹_› (by decide)) (by simp)
    ·
     split
     ·
      exact .ok (Nat.le_refl _) (kindAt_lt ‹_› (by decide)) (by simp)
     ·
      exact .sgn (Nat.le_refl _) hi fun h=>.bnd (up .expr (i + 1) trivial (by omega) (by omega) (by decide)) (by omega) fun es j h1 h2 h3=>.sgn (by simp only [minR] at h1;omega) h2 fun h4=>.ok (by simp only [minR] at h1;omega) (by omega) h3
  | apps e =>
   simp only [stepR,minR]
   split
   ·
    have hb:=begins_lt ‹_›
    exact .bnd (ih .atom i trivial hi (by simp only [lvR] at hm ⊢;omega)) (Nat.le_refl _) fun es j h1 h2 h3=>(up (.apps _) j trivial (by simp only [minR] at h1;omega) h2 (by simp [lvR])).from (by simp only [minR] at h1;omega) (by simp only [minR] at h1 ⊢;omega)
   ·
    exact .ok (Nat.le_refl _) hi (by simp)
  | lev n =>
   cases n with
   | zero =>
    simp only [stepR,minR]
    exact .bnd (ih .atom i trivial hi (by simp only [lvR] at hm ⊢;omega)) (Nat.le_refl _) fun es j h1 h2 h3=>(up (.apps _) j trivial (by simp only [minR] at h1;omega) h2 (by simp [lvR])).from (by simp only [minR] at h1;omega) (by simp only [minR] at h1 ⊢;omega)
   | succ n =>
    simp only [stepR,minR]
    simp only [okR] at hr
    exact .bnd (ih (.lev n) i (by simp only [okR];omega) hi (by simp only [lvR] at hm ⊢;omega)) (Nat.le_refl _) fun es j h1 h2 h3=>(up (.ops _ _) j hr (by simp only [minR] at h1;omega) h2 (by simp [lvR])).from (by simp only [minR] at h1;omega) (by simp only [minR] at h1 ⊢;omega)
  | ops n e =>
   simp only [stepR,minR]
   simp only [okR] at hr
   split
   ·
    have hb:=op_lt ‹_›
    exact .bnd (up (.lev (n - 1)) (i + 1) (by simp only [okR];omega) (by omega) (by omega) (by simp only [lvR];omega)) (by omega) fun es j h1 h2 h3=>(up (.ops _ _) j hr (by simp only [minR] at h1;omega) h2 (by simp [lvR])).from (by simp only [minR] at h1;omega) (by simp only [minR] at h1 ⊢;omega)
   ·
    exact .ok (Nat.le_refl _) hi (by simp)
  | comp =>
   simp only [stepR,minR]
   refine .bnd (ih (.lev 2) i (by simp [okR]) hi (by simp only [lvR] at hm ⊢;omega)) (Nat.le_refl _) fun es j h1 h2 h3=>?_
   simp only [minR] at h1
   split
   ·
    have hb:=op_lt ‹_›
    exact .bnd (up (.lev 2) (j + 1) (by simp [okR]) (by omega) (by omega) (by simp [lvR])) (by omega) fun es' m g1 g2 g3=>.ok (by simp only [minR] at g1;omega) g2 (by simp)
   ·
    exact .ok h1 h2 h3
  | alt =>
   simp only [stepR,minR]
   split
   ·
    have hb:=kindAt_lt ‹kindAt l i=3› (by decide)
    have hn:=nms_le l (i + 1) (by omega)
    exact .sgn (by omega) hn fun h=>.bnd (up .expr _ trivial (by omega) (by omega) (by decide)) (by omega) fun es j h1 h2 h3=>.ok (by simp only [minR] at h1;omega) h2 (by simp)
   ·
    exact .err (Nat.le_refl _) hi
  | line =>
   simp only [stepR,minR]
   split
   ·
    rename_i h
    have hb:=isAt_lt h.2
    exact .bnd (up .expr _ trivial (by omega) (by omega) (by decide)) (by omega) fun es j h1 h2 h3=>.ok (by simp only [minR] at h1;omega) h2 (by simp)
   ·
    exact ih .expr i trivial hi (by simp only [lvR] at hm ⊢;omega)
  | items b =>
   simp only [stepR,minR]
   have h0:Ok6 i l.length 1 (pR l f (if b then .alt else .line) i):=by
    cases b
    ·
     exact ih .line i trivial hi (by simp only [lvR] at hm ⊢;omega)
    ·
     exact ih .alt i trivial hi (by simp only [lvR] at hm ⊢;omega)
   refine .bnd h0 (Nat.le_refl _) fun es j h1 h2 h3=>?_
   split
   ·
    have hb:=isAt_lt ‹isAt l j semiT=true›
    exact .bnd (up (.items b) (j + 1) trivial (by omega) (by omega) (by simp [lvR])) (by omega) fun es' m g1 g2 g3=>.ok (by simp only [minR] at g1;omega) g2 (app_ne h3)
   ·
    exact .sgn (by omega) h2 fun h=>.ok (by omega) (by omega) h3
  | expr =>
   simp only [stepR,minR]
   have ex:∀ j,i < j→j≤l.length→Ok6 j l.length 1 (pR l f .expr j):=fun j h1 h2=>up .expr j trivial h1 h2 (by decide)
   have its:∀ b j,i < j→j≤l.length→Ok6 j l.length 1 (pR l f (.items b) j):=fun b j h1 h2=>up (.items b) j trivial h1 h2 (by simp [lvR])
   split
   ·
    have hb:=isAt_lt ‹_›
    split
    ·
     have hb2:=kindAt_lt ‹kindAt l (i + 1)=2› (by decide)
     exact .sgn (by omega) (by omega) fun h=>.bnd (ex _ (by omega) (by omega)) (by omega) fun es j h1 h2 h3=>.ok (by omega) h2 (by simp)
    ·
     exact .err (by omega) (by omega)
   ·
    split
    ·
     have hb:=isAt_lt ‹isAt l i [108,101,116]=true›
     split
     ·
      have hb2:=kindAt_lt ‹kindAt l (i + 1)=2› (by decide)
      exact .sgn (by omega) (by omega) fun h=>.bnd (ex _ (by omega) (by omega)) (by omega) fun es j h1 h2 h3=>.sgn (by omega) h2 fun h4=>.bnd (ex _ (by omega) (by omega)) (by omega) fun es' m g1 g2 g3=>.ok (by omega) g2 (by simp)
     ·
      exact .err (by omega) (by omega)
    ·
     split
     ·
      have hb:=isAt_lt ‹isAt l i [99,97,115,101]=true›
      exact .bnd (ex _ (by omega) (by omega)) (by omega) fun es j h1 h2 h3=>.sgn (by omega) h2 fun h4=>.sgn (by omega) (by omega) fun h5=>.bnd (its _ _ (by omega) (by omega)) (by omega) fun es' m g1 g2 g3=>.ok (by omega) g2 (by simp)
     ·
      split
      ·
       have hb:=isAt_lt ‹isAt l i [105,102]=true›
       exact .bnd (ex _ (by omega) (by omega)) (by omega) fun es j h1 h2 h3=>.sgn (by omega) h2 fun h4=>.bnd (ex _ (by omega) (by omega)) (by omega) fun es' m g1 g2 g3=>.sgn (by omega) g2 fun h5=>.bnd (ex _ (by omega) (by omega)) (by omega) fun es'' p q1 q2 q3=>.ok (by omega) q2 (by simp)
      ·
       split
       ·
        have hb:=isAt_lt ‹isAt l i [100,111]=true›
        exact .sgn (by omega) (by omega) fun h=>.bnd (its _ _ (by omega) (by omega)) (by omega) fun es' m g1 g2 g3=>.ok (by omega) g2 (by simp)
       ·
        split
        ·
         have hb:=isAt_lt ‹isAt l i [100,111,115]=true›
         exact .sgn (by omega) (by omega) fun h=>.bnd (its _ _ (by omega) (by omega)) (by omega) fun es' m g1 g2 g3=>.ok (by omega) g2 (by simp)
        ·
         exact ih .comp i trivial hi (by simp only [lvR] at hm ⊢;omega)
end Go.Proofs.YtinjocchommbdaaGreatDoor

namespace Go.Proofs.YtinjocchommbdaaGreatDoor
inductive Rs where
 | atom | atoms | sig | forms
def arrS:Str:=tS [45,62]
def sgBegins (l:List Tk) (i:Nat):Bool:=decide (kindAt l i=2) || decide (kindAt l i=3) || isAt l i pOpen
def stepS (l:List Tk) (rec:Rs→Nat→Ans6 (List Sg)):Rs→Nat→Ans6 (List Sg)
 | .atom,i=>if kindAt l i=2∨kindAt l i=3 then ok6 [.mk (textAt l i) []] (i + 1) else sgn6 l i pOpen fun j=>(rec .sig j).bnd fun s k=>sgn6 l k pShut fun m=>ok6 s m
 | .atoms,i=>if sgBegins l i=true then (rec .atom i).bnd fun s j=>(rec .atoms j).bnd fun r k=>ok6 (s ++ r) k else ok6 [] i
 | .sig,i=>(if kindAt l i=3 then (rec .atoms (i + 1)).bnd fun r j=>ok6 [.mk (textAt l i) r] j else rec .atom i).bnd fun s j=>if isAt l j [45,62]=true then (rec .sig (j + 1)).bnd fun t k=>ok6 [.mk arrS (s ++ t)] k else ok6 s j
 | .forms,i=>if kindAt l i=3 then (rec .atoms (i + 1)).bnd fun r j=>if isAt l j [124]=true then (rec .forms (j + 1)).bnd fun fs k=>ok6 (.mk (textAt l i) r :: fs) k else ok6 [.mk (textAt l i) r] j else err6 i
def pS (l:List Tk):Nat→Rs→Nat→Ans6 (List Sg)
 | 0,_,_=>none
 | f + 1,r,i=>stepS l (pS l f) r i
theorem stepS_mono {l:List Tk} {p q:Rs→Nat→Ans6 (List Sg)} (h:∀ r i,Le6 (p r i) (q r i)):∀ r i,Le6 (stepS l p r i) (stepS l q r i):=by
 intro r i
 cases r with
 | atom=>exact .ite (.refl _) (.sgn fun j=>.bnd (h _ _) fun s k=>.sgn fun m=>.refl _)
 | atoms=>exact .ite (.bnd (h _ _) fun s j=>.bnd (h _ _) fun r k=>.refl _) (.refl _)
 | sig=>exact .bnd (.ite (.bnd (h _ _) fun r j=>.refl _) (h _ _)) fun s j=>.ite (.bnd (h _ _) fun t k=>.refl _) (.refl _)
 | forms=>exact .ite (.bnd (h _ _) fun r j=>.ite (.bnd (h _ _) fun fs k=>.refl _) (.refl _)) (.refl _)
theorem pS_succ (l:List Tk):∀ (f:Nat) (r:Rs) (i:Nat),Le6 (pS l f r i) (pS l (f + 1) r i)
 | 0,_,_=>fun _ h=>(by cases h)
 | f + 1,r,i=>stepS_mono (fun r i=>pS_succ l f r i) r i
theorem pS_mono {l:List Tk} {f g:Nat} (h:f≤g) (r:Rs) (i:Nat):Le6 (pS l f r i) (pS l g r i):=by
 induction h with
 | refl=>exact .refl _
 | step _ ih=>exact fun x hx=>pS_succ l _ r i x (ih x hx)
def OkG {α:Type} (i n s:Nat) (a:Ans6 α):Prop:=∃ x,a=some x∧match x with
 | .error e=>i≤e∧e≤n
 | .ok (_,j)=>i + s≤j∧j≤n
theorem OkG.ok {α:Type} {i n s j:Nat} {es:α} (h1:i + s≤j) (h2:j≤n):OkG i n s (ok6 es j):=⟨_,rfl,h1,h2⟩
theorem OkG.err {α:Type} {i n s e:Nat} (h1:i≤e) (h2:e≤n):OkG i n s (err6 e:Ans6 α):=⟨_,rfl,h1,h2⟩
theorem OkG.bnd {α β:Type} {i i' n s s':Nat} {a:Ans6 α} {k:α→Nat→Ans6 β} (h:OkG i n s a) (hi:i'≤i) (hk:∀ es j,i + s≤j→j≤n→OkG i' n s' (k es j)):OkG i' n s' (a.bnd k):=by
 obtain ⟨x,rfl,hx⟩:=h
 cases x with
 | error e=>exact ⟨.error e,rfl,by simp only at hx ⊢;omega⟩
 | ok p=>exact hk p.1 p.2 hx.1 hx.2
theorem OkG.sgn {α:Type} {l:List Tk} {i i' s:Nat} {t:Bs} {k:Nat→Ans6 α} (hi:i'≤i) (hn:i≤l.length) (hk:i < l.length→OkG i' l.length s (k (i + 1))):OkG i' l.length s (sgn6 l i t k):=by
 unfold sgn6
 split
 ·
  exact hk (isAt_lt ‹_›)
 ·
  exact OkG.err hi hn
theorem OkG.of {i n s:Nat} {a:Ans6 (List Ex)} (h:Ok6 i n s a):OkG i n s a:=by
 obtain ⟨x,rfl,hx⟩:=h
 cases x with
 | error e=>exact ⟨_,rfl,hx⟩
 | ok p=>exact ⟨_,rfl,hx.1,hx.2.1⟩
theorem OkG.from {α:Type} {i i' n s s':Nat} {a:Ans6 α} (h:OkG i n s a) (hi:i'≤i) (hs:i' + s'≤i + s):OkG i' n s' a:=by
 obtain ⟨x,rfl,hx⟩:=h
 cases x with
 | error e=>exact ⟨_,rfl,by simp only at hx ⊢;omega⟩
 | ok p=>exact ⟨_,rfl,by have h1:i + s≤p.2:=hx.1;show i' + s'≤p.2;omega,hx.2⟩
def lvS:Rs→Nat
 | .atom=>0
 | .atoms=>1
 | .sig=>2
 | .forms=>0
def minS:Rs→Nat
 | .atoms=>0
 | _=>1
theorem sgBegins_lt {l:List Tk} {i:Nat} (h:sgBegins l i=true):i < l.length:=by
 unfold sgBegins at h
 simp only [Bool.or_eq_true,decide_eq_true_eq] at h
 rcases h with (h | h) | h
 ·
  exact kindAt_lt h (by decide)
 ·
  exact kindAt_lt h (by decide)
 ·
  exact isAt_lt h
theorem pS_total (l:List Tk):∀ (f:Nat) (r:Rs) (i:Nat),i≤l.length→(l.length - i) * 4 + lvS r < f→OkG i l.length (minS r) (pS l f r i)
 | 0,_,_,_,h=>by omega
 | f + 1,r,i,hi,hm=>by
  have ih:=fun r i=>pS_total l f r i
  have up:∀ (r':Rs) (j:Nat),i < j→j≤l.length→OkG j l.length (minS r') (pS l f r' j):=fun r' j h2 h3=>ih r' j h3 (by cases r' <;> simp only [lvS] <;> omega)
  show OkG i l.length (minS r) (stepS l (pS l f) r i)
  cases r with
  | atom =>
   simp only [stepS,minS]
   split
   ·
    rename_i h
    exact .ok (Nat.le_refl _) (by rcases h with h | h <;> exact kindAt_lt h (by decide))
   ·
    exact .sgn (Nat.le_refl _) hi fun h=>.bnd (up .sig (i + 1) (by omega) (by omega)) (by omega) fun es j h1 h2=>.sgn (by simp only [minS] at h1;omega) h2 fun h4=>.ok (by simp only [minS] at h1;omega) (by omega)
  | atoms =>
   simp only [stepS,minS]
   split
   ·
    have hb:=sgBegins_lt ‹_›
    exact .bnd (ih .atom i hi (by simp only [lvS] at hm ⊢;omega)) (Nat.le_refl _) fun es j h1 h2=>.bnd (up .atoms j (by simp only [minS] at h1;omega) h2) (by simp only [minS] at h1;omega) fun es' k g1 g2=>.ok (by simp only [minS] at h1 g1;omega) g2
   ·
    exact .ok (Nat.le_refl _) hi
  | sig =>
   simp only [stepS,minS]
   have h0:OkG i l.length 1 (if kindAt l i=3 then (pS l f .atoms (i + 1)).bnd fun r j=>ok6 [Sg.mk (textAt l i) r] j else pS l f .atom i):=by
    split
    ·
     have hb:=kindAt_lt ‹kindAt l i=3› (by decide)
     exact .bnd (up .atoms (i + 1) (by omega) (by omega)) (by omega) fun es j h1 h2=>.ok (by simp only [minS] at h1;omega) h2
    ·
     exact ih .atom i hi (by simp only [lvS] at hm ⊢;omega)
   refine .bnd h0 (Nat.le_refl _) fun es j h1 h2=>?_
   split
   ·
    have hb:=isAt_lt ‹isAt l j [45,62]=true›
    exact .bnd (up .sig (j + 1) (by omega) (by omega)) (by omega) fun es' k g1 g2=>.ok (by simp only [minS] at g1;omega) g2
   ·
    exact .ok h1 h2
  | forms =>
   simp only [stepS,minS]
   split
   ·
    have hb:=kindAt_lt ‹kindAt l i=3› (by decide)
    refine .bnd (up .atoms (i + 1) (by omega) (by omega)) (by omega) fun es j h1 h2=>?_
    simp only [minS] at h1
    split
    ·
     have hb:=isAt_lt ‹isAt l j [124]=true›
     exact .bnd (up .forms (j + 1) (by omega) (by omega)) (by omega) fun es' k g1 g2=>.ok (by simp only [minS] at g1;omega) g2
    ·
     exact .ok (by omega) h2
   ·
    exact .err (Nat.le_refl _) hi
def pData (l:List Tk) (f i:Nat):Ans6 Dt:=if kindAt l i=3 then sgn6 l (i + 1 + (nms l (i + 1)).length) [61] fun j=>(pS l f .forms j).bnd fun fs k=>ok6 ⟨textAt l i,nms l (i + 1),fs⟩ k else err6 i
def wrapL:List Str→Ex→Ex
 | [],e=>e
 | n :: r,e=>.mk 4 ex0 0 [n] [wrapL r e]
def pDef (l:List Tk) (f i:Nat):Ans6 Df:=if kindAt l i=2 then sgn6 l (i + 1 + (nms l (i + 1)).length) [61] fun j=>(pR l f .expr j).bnd fun e k=>ok6 ⟨textAt l i,wrapL (nms l (i + 1)) (headE e)⟩ k else err6 i
def pItem (l:List Tk) (f i:Nat):Ans6 Pg:=if isAt l i [100,97,116,97]=true then (pData l f (i + 1)).bnd fun d k=>ok6 ⟨[d],[]⟩ k else (pDef l f i).bnd fun d k=>ok6 ⟨[],[d]⟩ k
def Pg.add (a b:Pg):Pg:=⟨a.datas ++ b.datas,a.defs ++ b.defs⟩
def pItems (l:List Tk) (f:Nat):Nat→Nat→Ans6 Pg
 | 0,_=>none
 | g + 1,i=>(pItem l f i).bnd fun p j=>if isAt l j semiT=true then (pItems l f g (j + 1)).bnd fun q k=>ok6 (p.add q) k else sgn6 l j bShut fun k=>ok6 p k
def pProg (l:List Tk) (f:Nat):Ans6 Pg:=sgn6 l 0 bOpen fun i=>if isAt l i bShut=true then ok6 ⟨[],[]⟩ (i + 1) else pItems l f f i
theorem pExpr_ok (l:List Tk) (f i:Nat) (hi:i≤l.length) (hf:l.length * 16 + 8≤f):OkG i l.length 1 (pR l f .expr i):=.of (pR_total l f .expr i trivial hi (by simp only [lvR];omega))
theorem pDef_ok (l:List Tk) (f i:Nat) (hi:i≤l.length) (hf:l.length * 16 + 8≤f):OkG i l.length 1 (pDef l f i):=by
 unfold pDef
 split
 ·
  have hb:=kindAt_lt ‹kindAt l i=2› (by decide)
  have hn:=nms_le l (i + 1) (by omega)
  exact .sgn (by omega) hn fun h=>.bnd (pExpr_ok l f _ (by omega) hf) (by omega) fun e k h1 h2=>.ok (by omega) h2
 ·
  exact .err (Nat.le_refl _) hi
theorem pData_ok (l:List Tk) (f i:Nat) (hi:i≤l.length) (hf:l.length * 16 + 8≤f):OkG i l.length 1 (pData l f i):=by
 unfold pData
 split
 ·
  have hb:=kindAt_lt ‹kindAt l i=3› (by decide)
  have hn:=nms_le l (i + 1) (by omega)
  exact .sgn (by omega) hn fun h=>.bnd (pS_total l f .forms _ (by omega) (by simp only [lvS];omega)) (by omega) fun e k h1 h2=>.ok (by simp only [minS] at h1;omega) h2
 ·
  exact .err (Nat.le_refl _) hi
theorem pItem_ok (l:List Tk) (f i:Nat) (hi:i≤l.length) (hf:l.length * 16 + 8≤f):OkG i l.length 1 (pItem l f i):=by
 unfold pItem
 split
 ·
  have hb:=isAt_lt ‹isAt l i [100,97,116,97]=true›
  exact .bnd (pData_ok l f (i + 1) (by omega) hf) (by omega) fun d k h1 h2=>.ok (by omega) h2
 ·
  exact .bnd (pDef_ok l f i hi hf) (Nat.le_refl _) fun d k h1 h2=>.ok h1 h2
theorem pItems_ok (l:List Tk) (f:Nat) (hf:l.length * 16 + 8≤f):∀ (g i:Nat),i≤l.length→l.length - i < g→OkG i l.length 1 (pItems l f g i)
 | 0,_,_,h=>by omega
 | g + 1,i,hi,hg=>by
  rw [pItems]
  refine .bnd (pItem_ok l f i hi hf) (Nat.le_refl _) fun p j h1 h2=>?_
  split
  ·
   have hb:=isAt_lt ‹isAt l j semiT=true›
   exact .bnd (pItems_ok l f hf g (j + 1) (by omega) (by omega)) (by omega) fun q k g1 g2=>.ok (by omega) g2
  ·
   exact .sgn (by omega) h2 fun h=>.ok (by omega) (by omega)
theorem pProg_ok (l:List Tk) (f:Nat) (hf:l.length * 16 + 8≤f):OkG 0 l.length 2 (pProg l f):=by
 unfold pProg
 refine .sgn (Nat.le_refl _) (Nat.zero_le _) fun h=>?_
 split
 ·
  have hb:=isAt_lt ‹isAt l (0 + 1) bShut=true›
  exact .ok (by omega) (by omega)
 ·
  exact (pItems_ok l f hf f (0 + 1) (by omega) (by omega)).from (by omega) (by omega)
def wholeF {α:Type} (l:List Tk) (a:Ans6 α):Except Nat α :=
 match a with
 | none=>.error 0
 | some (.error e)=>.error e
 | some (.ok (x,j))=>if j=l.length then .ok x else .error j
def enough (l:List Tk):Nat:=l.length * 16 + 8
def exprF (l:List Tk):Except Nat Ex:=wholeF l ((pR l (enough l) .expr 0).bnd fun e j=>ok6 (headE e) j)
def progF (l:List Tk):Except Nat Pg:=wholeF l (pProg l (enough l))
end Go.Proofs.YtinjocchommbdaaGreatDoor

namespace Go.Proofs.YtinjocchommbdaaGreatDoor
def shA {α:Type} (n:Nat):Ans6 α→Ans6 α
 | none=>none
 | some (.error e)=>some (.error (n + e))
 | some (.ok (x,j))=>some (.ok (x,n + j))
theorem sh_bnd {α β:Type} {n:Nat} {a a':Ans6 α} {f g:α→Nat→Ans6 β} (h:a'=shA n a) (k:∀ x j,g x (n + j)=shA n (f x j)):a'.bnd g=shA n (a.bnd f):=by
 subst h
 cases a with
 | none=>rfl
 | some x =>
  cases x with
  | error e=>rfl
  | ok p=>exact k p.1 p.2
theorem sh_ite {α:Type} {n:Nat} {c c':Prop} [Decidable c] [Decidable c'] {a b a' b':Ans6 α} (hc:c'↔c) (h:a'=shA n a) (k:b'=shA n b):(if c' then a' else b')=shA n (if c then a else b):=by
 by_cases h1:c
 ·
  rw [if_pos h1,if_pos (hc.2 h1)];exact h
 ·
  rw [if_neg h1,if_neg (fun q=>h1 (hc.1 q))];exact k
section
variable (a l:List Tk)
theorem tkAt_sh (i:Nat):tkAt (a ++ l) (a.length + i)=tkAt l i:=by
 unfold tkAt
 simp [List.getD,List.getElem?_append_right]
theorem kindAt_sh (i:Nat):kindAt (a ++ l) (a.length + i)=kindAt l i:=by unfold kindAt;rw [tkAt_sh]
theorem isAt_sh (i:Nat) (s:Bs):isAt (a ++ l) (a.length + i) s=isAt l i s:=by unfold isAt;rw [tkAt_sh]
theorem textAt_sh (i:Nat):textAt (a ++ l) (a.length + i)=textAt l i:=by unfold textAt;rw [tkAt_sh]
theorem begins_sh (i:Nat):beginsAt (a ++ l) (a.length + i)=beginsAt l i:=by unfold beginsAt;rw [kindAt_sh,isAt_sh]
theorem op_sh (i n:Nat):opAt (a ++ l) (a.length + i) n=opAt l i n:=by unfold opAt;split <;> simp only [isAt_sh]
theorem sgBegins_sh (i:Nat):sgBegins (a ++ l) (a.length + i)=sgBegins l i:=by unfold sgBegins;rw [kindAt_sh,isAt_sh]
theorem nms_sh (i:Nat):nms (a ++ l) (a.length + i)=nms l i:=by
 unfold nms
 rw [List.drop_append,List.drop_eq_nil_of_le (by omega)]
 simp
theorem sh_sgn {α:Type} {i:Nat} {s:Bs} {f g:Nat→Ans6 α} (k:∀ j,g (a.length + j)=shA a.length (f j)):sgn6 (a ++ l) (a.length + i) s g=shA a.length (sgn6 l i s f):=by
 unfold sgn6
 exact sh_ite (by rw [isAt_sh]) (k (i + 1)) rfl
theorem stepR_sh {p q:Rl→Nat→Ans6 (List Ex)} (h:∀ r i,q r (a.length + i)=shA a.length (p r i)):∀ r i,stepR (a ++ l) q r (a.length + i)=shA a.length (stepR l p r i):=by
 intro r i
 have e1:∀ j,a.length + j + 1=a.length + (j + 1):=fun j=>rfl
 have e2:∀ j,a.length + j + 2=a.length + (j + 2):=fun j=>rfl
 cases r with
 | atom =>
  exact sh_ite (by rw [kindAt_sh]) (by rw [tkAt_sh];rfl) (sh_ite (by rw [kindAt_sh]) (by rw [textAt_sh];rfl) (sh_ite (by rw [kindAt_sh]) (by rw [textAt_sh];rfl) (sh_sgn a l fun j=>sh_bnd (h _ _) fun e k=>sh_sgn a l fun m=>rfl)))
 | apps e=>exact sh_ite (by rw [begins_sh]) (sh_bnd (h _ _) fun k j=>h _ _) rfl
 | lev n =>
  cases n with
  | zero=>exact sh_bnd (h _ _) fun e j=>h _ _
  | succ n=>exact sh_bnd (h _ _) fun e j=>h _ _
 | ops n e=>exact sh_ite (by rw [op_sh]) (sh_bnd (h _ (i + 1)) fun k j=>by rw [textAt_sh];exact h _ _) rfl
 | comp=>exact sh_bnd (h _ _) fun e j=>sh_ite (by rw [op_sh]) (sh_bnd (h _ (j + 1)) fun k m=>by rw [textAt_sh];rfl) rfl
 | alt =>
  refine sh_ite (by rw [kindAt_sh]) ?_ rfl
  rw [show nms (a ++ l) (a.length + i + 1)=nms l (i + 1) from nms_sh a l (i + 1),textAt_sh,show a.length + i + 1 + (nms l (i + 1)).length=a.length + (i + 1 + (nms l (i + 1)).length) by omega]
  exact sh_sgn a l fun j=>sh_bnd (h _ _) fun e k=>rfl
 | line =>
  refine sh_ite (by rw [kindAt_sh,show isAt (a ++ l) (a.length + i + 1) [60,45]=isAt l (i + 1) [60,45] from isAt_sh a l (i + 1) _]) ?_ (h _ _)
  rw [textAt_sh]
  exact sh_bnd (h _ (i + 2)) fun e k=>rfl
 | items b=>exact sh_bnd (h _ _) fun e j=>sh_ite (by rw [isAt_sh]) (sh_bnd (h _ (j + 1)) fun es k=>rfl) (sh_sgn a l fun k=>rfl)
 | expr =>
  have hk:kindAt (a ++ l) (a.length + i + 1)=kindAt l (i + 1):=kindAt_sh a l (i + 1)
  have ht:textAt (a ++ l) (a.length + i + 1)=textAt l (i + 1):=textAt_sh a l (i + 1)
  refine sh_ite (by rw [isAt_sh]) (sh_ite (by rw [hk]) (by rw [ht];exact sh_sgn a l (i:=i + 2) fun j=>sh_bnd (h _ _) fun e k=>rfl) rfl) ?_
  refine sh_ite (by rw [isAt_sh]) (sh_ite (by rw [hk]) (by rw [ht];exact sh_sgn a l (i:=i + 2) fun j=>sh_bnd (h _ _) fun x k=>sh_sgn a l fun m=>sh_bnd (h _ _) fun b n=>rfl) rfl) ?_
  refine sh_ite (by rw [isAt_sh]) (sh_bnd (h _ (i + 1)) fun e j=>sh_sgn a l fun k=>sh_sgn a l fun m=>sh_bnd (h _ _) fun ks n=>rfl) ?_
  refine sh_ite (by rw [isAt_sh]) (sh_bnd (h _ (i + 1)) fun x j=>sh_sgn a l fun k=>sh_bnd (h _ _) fun b m=>sh_sgn a l fun n=>sh_bnd (h _ _) fun c p=>rfl) ?_
  refine sh_ite (by rw [isAt_sh]) (sh_sgn a l (i:=i + 1) fun m=>sh_bnd (h _ _) fun ks n=>rfl) ?_
  exact sh_ite (by rw [isAt_sh]) (sh_sgn a l (i:=i + 1) fun m=>sh_bnd (h _ _) fun ks n=>rfl) (h _ _)
theorem pR_sh:∀ (f:Nat) (r:Rl) (i:Nat),pR (a ++ l) f r (a.length + i)=shA a.length (pR l f r i)
 | 0,_,_=>rfl
 | f + 1,r,i=>stepR_sh a l (fun r i=>pR_sh f r i) r i
end
end Go.Proofs.YtinjocchommbdaaGreatDoor

namespace Go.Proofs.YtinjocchommbdaaGreatDoor
def TT (i m n:Nat) {α:Type} (x y:Ans6 α):Prop:=∀ es j,x=some (.ok (es,j))→i≤j∧j≤n∧(j≤m→y=some (.ok (es,j)))
theorem TT.bnd {i m n:Nat} {α β:Type} {a a':Ans6 α} {f g:α→Nat→Ans6 β} (h:TT i m n a a') (k:∀ x j,i≤j→j≤n→TT j m n (f x j) (g x j)):TT i m n (a.bnd f) (a'.bnd g):=by
 intro es j hx
 cases a with
 | none=>cases hx
 | some r =>
  cases r with
  | error e=>cases hx
  | ok p =>
   obtain ⟨h1,h2,h3⟩:=h p.1 p.2 rfl
   obtain ⟨k1,k2,k3⟩:=k p.1 p.2 h1 h2 es j hx
   exact ⟨by omega,k2,fun hj=>by rw [h3 (by omega)];exact k3 hj⟩
theorem TT.from {i i' m n:Nat} {α:Type} {x y:Ans6 α} (h:TT i m n x y) (hi:i'≤i):TT i' m n x y:=fun es j hx=>by
 obtain ⟨h1,h2,h3⟩:=h es j hx
 exact ⟨by omega,h2,h3⟩
theorem TT.ok {i m n j:Nat} {α:Type} {e e':α} (h1:i≤j) (h2:j≤n) (h3:j≤m→e'=e):TT i m n (ok6 e j) (ok6 e' j):=by
 intro es k hx
 simp only [ok6,Option.some.injEq,Except.ok.injEq,Prod.mk.injEq] at hx
 obtain ⟨rfl,rfl⟩:=hx
 exact ⟨h1,h2,fun hj=>by rw [h3 hj];rfl⟩
theorem TT.err {i m n e:Nat} {α:Type} {y:Ans6 α}:TT i m n (err6 e:Ans6 α) y:=fun es j hx=>by simp [err6] at hx
theorem TT.ite {i m n:Nat} {α:Type} {c c':Prop} [Decidable c] [Decidable c'] {a b a' b':Ans6 α} (hc:i < m→(c'↔c)) (h:c→TT (i + 1) m n a a') (k:¬ c→TT (i + 1) m n b b'):TT (i + 1) m n (if c then a else b) (if c' then a' else b'):=by
 intro es j hx
 by_cases h1:c
 ·
  rw [if_pos h1] at hx
  obtain ⟨g1,g2,g3⟩:=h h1 es j hx
  exact ⟨g1,g2,fun hj=>by rw [if_pos ((hc (by omega)).2 h1)];exact g3 hj⟩
 ·
  rw [if_neg h1] at hx
  obtain ⟨g1,g2,g3⟩:=k h1 es j hx
  exact ⟨g1,g2,fun hj=>by rw [if_neg fun q=>h1 ((hc (by omega)).1 q)];exact g3 hj⟩
theorem TT.stop {i m n:Nat} {α:Type} {c c':Prop} [Decidable c] [Decidable c'] {a b a' b':Ans6 α} (hc:i < m→(c'↔c)) (hm:i=m→¬ c') (h:c→TT (i + 1) m n a a') (k:¬ c→TT i m n b b'):TT i m n (if c then a else b) (if c' then a' else b'):=by
 intro es j hx
 by_cases h1:c
 ·
  rw [if_pos h1] at hx
  obtain ⟨g1,g2,g3⟩:=h h1 es j hx
  exact ⟨by omega,g2,fun hj=>by rw [if_pos ((hc (by omega)).2 h1)];exact g3 hj⟩
 ·
  rw [if_neg h1] at hx
  obtain ⟨g1,g2,g3⟩:=k h1 es j hx
  refine ⟨g1,g2,fun hj=>?_⟩
  by_cases him:i < m
  ·
   rw [if_neg fun q=>h1 ((hc him).1 q)];exact g3 hj
  ·
   rw [if_neg (hm (by omega))];exact g3 hj
structure Ag (l l':List Tk) (m:Nat):Prop where
 same:∀ p,p < m→tkAt l' p=tkAt l p
 beg:beginsAt l' m=false
 op:∀ n,opAt l' m n=false
 bind:isAt l' m [60,45]=false
 nam:kindAt l' m≠2
section
variable {l l':List Tk} {m:Nat} (A:Ag l l' m)
include A
theorem Ag.kind {p:Nat} (h:p < m):kindAt l' p=kindAt l p:=by unfold kindAt;rw [A.same p h]
theorem Ag.is {p:Nat} (h:p < m) (s:Bs):isAt l' p s=isAt l p s:=by unfold isAt;rw [A.same p h]
theorem Ag.text {p:Nat} (h:p < m):textAt l' p=textAt l p:=by unfold textAt;rw [A.same p h]
theorem Ag.begins {p:Nat} (h:p < m):beginsAt l' p=beginsAt l p:=by unfold beginsAt;rw [A.kind h,A.is h]
theorem Ag.ops {p:Nat} (h:p < m) (n:Nat):opAt l' p n=opAt l p n:=by unfold opAt;split <;> simp only [A.is h]
theorem Ag.sgn {α:Type} {i:Nat} {s:Bs} {f g:Nat→Ans6 α} (k:i < l.length→TT (i + 1) m l.length (f (i + 1)) (g (i + 1))):TT (i + 1) m l.length (sgn6 l i s f) (sgn6 l' i s g):=by
 unfold sgn6
 exact .ite (fun h=>by rw [A.is h]) (fun h=>k (isAt_lt h)) (fun _=>.err)
end
theorem nms_zero {l:List Tk} {i:Nat} (h:kindAt l i≠2):nms l i=[]:=by
 unfold nms
 cases hd:l.drop i with
 | nil=>rfl
 | cons t r =>
  have hk:t.kind≠2:=by
   unfold kindAt tkAt at h
   have:l[i]?=some t:=by
    have:=congrArg List.head? hd
    rw [List.head?_drop] at this
    simpa using this
   simpa [List.getD,this] using h
  rw [List.takeWhile_cons,if_neg (by simpa using hk)]
  rfl
theorem nms_step {l:List Tk} {i:Nat} (h:kindAt l i=2):nms l i=textAt l i :: nms l (i + 1):=by
 have hi:=kindAt_lt h (by decide)
 unfold nms
 rw [List.drop_eq_getElem_cons hi,List.takeWhile_cons]
 have e:tkAt l i=l[i]:=by unfold tkAt;simp [List.getD,hi]
 unfold kindAt at h
 rw [e] at h
 rw [if_pos (by simpa using h),List.map_cons]
 unfold textAt
 rw [e]
theorem Ag.nms {l l':List Tk} {m:Nat} (A:Ag l l' m):∀ (d i:Nat),m - i≤d→i≤m→i + (nms l i).length < m→nms l' i=nms l i
 | d,i,hd,hi,h=>by
  by_cases hk:kindAt l i=2
  ·
   rw [nms_step hk] at h ⊢
   simp only [List.length_cons] at h
   have hlt:i < m:=by omega
   rw [nms_step (by rw [A.kind hlt];exact hk),A.text hlt]
   cases d with
   | zero=>omega
   | succ d=>rw [Ag.nms A d (i + 1) (by omega) (by omega) (by omega)]
  ·
   have h0:=nms_zero hk
   rw [h0] at h ⊢
   simp only [List.length_nil,Nat.add_zero] at h
   exact nms_zero (by rw [A.kind h];exact hk)
theorem pR_shape {l:List Tk} {f:Nat} {r:Rl} {i j:Nat} {es:List Ex} (hr:okR r) (hi:i≤l.length) (h:pR l f r i=some (.ok (es,j))):i + minR r≤j∧j≤l.length:=by
 obtain ⟨x,hx,hs⟩:=pR_total l ((l.length - i) * 16 + lvR r + 1) r i hr hi (by omega)
 have:=pR_one h hx
 subst this
 exact ⟨hs.1,hs.2.1⟩
theorem pR_ag {l l':List Tk} {m:Nat} (A:Ag l l' m):∀ (f:Nat) (r:Rl) (i:Nat),okR r→i≤l.length→TT (i + minR r) m l.length (pR l f r i) (pR l' f r i)
 | 0,_,_,_,_=>fun _ _ h=>(by cases h)
 | f + 1,r,i,hr,hi=>by
  have ih:=fun r i=>pR_ag A f r i
  show TT (i + minR r) m l.length (stepR l (pR l f) r i) (stepR l' (pR l' f) r i)
  have ex:∀ j,j≤l.length→TT (j + 1) m l.length (pR l f .expr j) (pR l' f .expr j):=fun j h=>ih .expr j trivial h
  have its:∀ b j,j≤l.length→TT (j + 1) m l.length (pR l f (.items b) j) (pR l' f (.items b) j):=fun b j h=>ih (.items b) j trivial h
  cases r with
  | atom =>
   simp only [stepR,minR]
   refine .ite (fun h=>by rw [A.kind h]) (fun h=>.ok (Nat.le_refl _) (kindAt_lt h (by decide)) fun hj=>by rw [A.same i (by omega)]) fun _=>?_
   refine .ite (fun h=>by rw [A.kind h]) (fun h=>.ok (Nat.le_refl _) (kindAt_lt h (by decide)) fun hj=>by rw [A.text (by omega)]) fun _=>?_
   refine .ite (fun h=>by rw [A.kind h]) (fun h=>.ok (Nat.le_refl _) (kindAt_lt h (by decide)) fun hj=>by rw [A.text (by omega)]) fun _=>?_
   exact A.sgn fun h=>((ex (i + 1) (by omega)).bnd fun e k h1 h2=>((A.sgn fun h3=>.ok (Nat.le_refl _) (by omega) fun _=>rfl).from (by omega))).from (by omega)
  | apps e =>
   simp only [stepR,minR,Nat.add_zero]
   refine .stop (fun h=>by rw [A.begins h]) (fun h=>by rw [h,A.beg];simp) (fun h=>?_) fun _=>.ok (Nat.le_refl _) hi fun _=>rfl
   exact (ih .atom i trivial hi).bnd fun k j h1 h2=>ih (.apps _) j trivial h2
  | lev n =>
   cases n with
   | zero =>
    simp only [stepR,minR]
    exact (ih .atom i trivial hi).bnd fun k j h1 h2=>ih (.apps _) j trivial h2
   | succ n =>
    simp only [stepR,minR]
    simp only [okR] at hr
    exact (ih (.lev n) i (by simp only [okR];omega) hi).bnd fun k j h1 h2=>ih (.ops _ _) j hr h2
  | ops n e =>
   simp only [stepR,minR,Nat.add_zero]
   simp only [okR] at hr
   refine .stop (fun h=>by rw [A.ops h]) (fun h=>by rw [h,A.op];simp) (fun h=>?_) fun _=>.ok (Nat.le_refl _) hi fun _=>rfl
   have hb:=op_lt h
   intro es j hx
   have hlev:=(ih (.lev (n - 1)) (i + 1) (by simp only [okR];omega) (by omega))
   have:=(hlev.bnd (f:=fun k j=>pR l f (.ops n (.mk 9 (textAt l i) 0 [] [e,headE k])) j) (g:=fun k j=>pR l' f (.ops n (.mk 9 (textAt l i) 0 [] [e,headE k])) j) fun k j h1 h2=>ih (.ops _ _) j hr h2) es j hx
   obtain ⟨g1,g2,g3⟩:=this
   simp only [minR] at g1
   exact ⟨by omega,g2,fun hj=>by rw [A.text (by omega)];exact g3 hj⟩
  | comp =>
   simp only [stepR,minR]
   refine (ih (.lev 2) i (by simp [okR]) hi).bnd fun e j h1 h2=>?_
   refine .stop (fun h=>by rw [A.ops h]) (fun h=>by rw [h,A.op];simp) (fun h=>?_) fun _=>.ok (Nat.le_refl _) h2 fun _=>rfl
   have hb:=op_lt h
   exact ((ih (.lev 2) (j + 1) (by simp [okR]) (by omega)).bnd fun k p g1 g2=>.ok (Nat.le_refl _) g2 fun hj=>by simp only [minR] at g1;rw [A.text (by omega)]).from (by simp only [minR];omega)
  | alt =>
   simp only [stepR,minR]
   refine .ite (fun h=>by rw [A.kind h]) (fun h=>?_) fun _=>.err
   have hb:=kindAt_lt h (by decide)
   have hn:=nms_le l (i + 1) (by omega)
   intro es j hx
   have key:TT (i + 1 + (nms l (i + 1)).length + 1) m l.length (sgn6 l (i + 1 + (nms l (i + 1)).length) [45,62] fun j=>(pR l f .expr j).bnd fun e k=>ok6 [Ex.mk 8 (textAt l i) 0 (nms l (i + 1)) e] k) (sgn6 l' (i + 1 + (nms l (i + 1)).length) [45,62] fun j=>(pR l' f .expr j).bnd fun e k=>ok6 [Ex.mk 8 (textAt l i) 0 (nms l (i + 1)) e] k) :=
    A.sgn fun h=>((ex _ (by omega)).bnd fun e k h1 h2=>.ok (Nat.le_refl _) h2 fun _=>rfl).from (by omega)
   obtain ⟨g1,g2,g3⟩:=key es j hx
   exact ⟨by omega,g2,fun hj=>by rw [A.nms m (i + 1) (by omega) (by omega) (by omega),A.text (by omega)];exact g3 hj⟩
  | line =>
   simp only [stepR,minR]
   intro es j hx
   by_cases hc:kindAt l i=2∧isAt l (i + 1) [60,45]=true
   ·
    rw [if_pos hc] at hx
    have hb:=isAt_lt hc.2
    obtain ⟨g1,g2,g3⟩:=((ex (i + 2) (by omega)).bnd (f:=fun e k=>ok6 [Ex.mk 13 ex0 0 [textAt l i] e] k) (g:=fun e k=>ok6 [Ex.mk 13 ex0 0 [textAt l i] e] k) fun e k h1 h2=>.ok (Nat.le_refl _) h2 fun _=>rfl) es j hx
    exact ⟨by omega,g2,fun hj=>by rw [if_pos (by rw [A.kind (by omega),A.is (by omega)];exact hc),A.text (by omega)];exact g3 hj⟩
   ·
    rw [if_neg hc] at hx
    obtain ⟨g1,g2,g3⟩:=ex i hi es j hx
    refine ⟨g1,g2,fun hj=>?_⟩
    rw [if_neg]
    ·
     exact g3 hj
    ·
     rintro ⟨q1,q2⟩
     rw [A.kind (by omega)] at q1
     by_cases h2:i + 1 < m
     ·
      rw [A.is h2] at q2;exact hc ⟨q1,q2⟩
     ·
      have:i + 1=m:=by omega
      rw [this,A.bind] at q2
      cases q2
  | items b =>
   simp only [stepR,minR]
   have h0:TT (i + 1) m l.length (pR l f (if b then .alt else .line) i) (pR l' f (if b then .alt else .line) i):=by
    cases b
    ·
     exact ih .line i trivial hi
    ·
     exact ih .alt i trivial hi
   refine h0.bnd fun es j h1 h2=>?_
   refine (TT.ite (fun h=>by rw [A.is h]) (fun h=>?_) fun _=>?_).from (i:=j + 1) (by omega)
   ·
    have hb:=isAt_lt h
    exact ((its b (j + 1) (by omega)).bnd fun es' k g1 g2=>.ok (Nat.le_refl _) g2 fun _=>rfl).from (by omega)
   ·
    exact A.sgn fun h=>.ok (Nat.le_refl _) (by omega) fun _=>rfl
  | expr =>
   simp only [stepR,minR]
   refine .ite (fun h=>by rw [A.is h]) (fun h=>?_) fun _=>?_
   ·
    have hb:=isAt_lt h
    refine (TT.ite (i:=i + 1) (fun h=>by rw [A.kind h]) (fun h=>?_) fun _=>.err).from (by omega)
    have hb2:=kindAt_lt h (by decide)
    intro es j hx
    obtain ⟨g1,g2,g3⟩:=((A.sgn (f:=fun j=>(pR l f .expr j).bnd fun e k=>ok6 [Ex.mk 4 ex0 0 [textAt l (i + 1)] e] k) (g:=fun j=>(pR l' f .expr j).bnd fun e k=>ok6 [Ex.mk 4 ex0 0 [textAt l (i + 1)] e] k) (i:=i + 2) fun h=>((ex _ (by omega)).bnd fun e k h1 h2=>.ok (Nat.le_refl _) h2 fun _=>rfl).from (by omega))) es j hx
    exact ⟨by omega,g2,fun hj=>by rw [A.text (by omega)];exact g3 hj⟩
   refine .ite (fun h=>by rw [A.is h]) (fun h=>?_) fun _=>?_
   ·
    have hb:=isAt_lt h
    refine (TT.ite (i:=i + 1) (fun h=>by rw [A.kind h]) (fun h=>?_) fun _=>.err).from (by omega)
    have hb2:=kindAt_lt h (by decide)
    intro es j hx
    obtain ⟨g1,g2,g3⟩:=((A.sgn (f:=fun j=>(pR l f .expr j).bnd fun x k=>sgn6 l k [105,110] fun p=>(pR l f .expr p).bnd fun b n=>ok6 [Ex.mk 6 ex0 0 [textAt l (i + 1)] (x ++ b)] n) (g:=fun j=>(pR l' f .expr j).bnd fun x k=>sgn6 l' k [105,110] fun p=>(pR l' f .expr p).bnd fun b n=>ok6 [Ex.mk 6 ex0 0 [textAt l (i + 1)] (x ++ b)] n) (i:=i + 2) fun h=>((ex _ (by omega)).bnd fun x k h1 h2=>(A.sgn fun h3=>((ex _ (by omega)).bnd fun b n q1 q2=>.ok (Nat.le_refl _) q2 fun _=>rfl).from (by omega)).from (by omega)).from (by omega))) es j hx
    exact ⟨by omega,g2,fun hj=>by rw [A.text (by omega)];exact g3 hj⟩
   refine .ite (fun h=>by rw [A.is h]) (fun h=>?_) fun _=>?_
   ·
    have hb:=isAt_lt h
    exact ((ex _ (by omega)).bnd fun e j h1 h2=>(A.sgn fun h3=>(A.sgn fun h4=>((its _ _ (by omega)).bnd fun ks n q1 q2=>.ok (Nat.le_refl _) q2 fun _=>rfl).from (by omega)).from (by omega)).from (by omega)).from (by omega)
   refine .ite (fun h=>by rw [A.is h]) (fun h=>?_) fun _=>?_
   ·
    have hb:=isAt_lt h
    exact ((ex _ (by omega)).bnd fun x j h1 h2=>(A.sgn fun h3=>((ex _ (by omega)).bnd fun b p q1 q2=>(A.sgn fun h4=>((ex _ (by omega)).bnd fun c p q1 q2=>.ok (Nat.le_refl _) q2 fun _=>rfl).from (by omega)).from (by omega)).from (by omega)).from (by omega)).from (by omega)
   refine .ite (fun h=>by rw [A.is h]) (fun h=>?_) fun _=>?_
   ·
    have hb:=isAt_lt h
    exact (A.sgn fun h3=>((its _ _ (by omega)).bnd fun ks n q1 q2=>.ok (Nat.le_refl _) q2 fun _=>rfl).from (by omega)).from (by omega)
   refine .ite (fun h=>by rw [A.is h]) (fun h=>?_) fun _=>?_
   ·
    have hb:=isAt_lt h
    exact (A.sgn fun h3=>((its _ _ (by omega)).bnd fun ks n q1 q2=>.ok (Nat.le_refl _) q2 fun _=>rfl).from (by omega)).from (by omega)
   exact ih .comp i trivial hi
end Go.Proofs.YtinjocchommbdaaGreatDoor

namespace Go.Proofs.YtinjocchommbdaaGreatDoor
def oneR:Rl→Bool
 | .items _=>false
 | _=>true
def One6 (a:Ans6 (List Ex)):Prop:=∀ es j,a=some (.ok (es,j))→∃ e,es=[e]
theorem One6.ok {e:Ex} {j:Nat}:One6 (ok6 [e] j):=fun es k h=>by
 simp only [ok6,Option.some.injEq,Except.ok.injEq,Prod.mk.injEq] at h
 exact ⟨e,h.1.symm⟩
theorem One6.err {j:Nat}:One6 (err6 j):=fun es k h=>by simp [err6] at h
theorem One6.bnd {α:Type} {a:Ans6 α} {f:α→Nat→Ans6 (List Ex)} (k:∀ x j,a=some (.ok (x,j))→One6 (f x j)):One6 (a.bnd f):=by
 intro es j h
 cases a with
 | none=>cases h
 | some r =>
  cases r with
  | error e=>cases h
  | ok p=>exact k p.1 p.2 rfl es j h
theorem One6.sgn {l:List Tk} {i:Nat} {s:Bs} {f:Nat→Ans6 (List Ex)} (k:One6 (f (i + 1))):One6 (sgn6 l i s f):=by
 unfold sgn6
 split
 ·
  exact k
 ·
  exact .err
theorem One6.ite {c:Prop} [Decidable c] {a b:Ans6 (List Ex)} (h:One6 a) (k:One6 b):One6 (if c then a else b):=by
 split
 ·
  exact h
 ·
  exact k
theorem pR_one6 (l:List Tk):∀ (f:Nat) (r:Rl) (i:Nat),oneR r=true→One6 (pR l f r i)
 | 0,_,_,_=>fun _ _ h=>(by cases h)
 | f + 1,r,i,hr=>by
  have ih:=fun r i=>pR_one6 l f r i
  show One6 (stepR l (pR l f) r i)
  cases r with
  | atom =>
   refine .ite .ok (.ite .ok (.ite .ok (.sgn (.bnd fun e k hx=>.sgn ?_))))
   obtain ⟨e,rfl⟩:=ih .expr _ rfl _ _ hx
   exact .ok
  | apps e=>exact .ite (.bnd fun k j _=>ih _ _ rfl) .ok
  | lev n =>
   cases n with
   | zero=>exact .bnd fun e j _=>ih _ _ rfl
   | succ n=>exact .bnd fun e j _=>ih _ _ rfl
  | ops n e=>exact .ite (.bnd fun k j _=>ih _ _ rfl) .ok
  | comp =>
   refine .bnd fun e j hx=>.ite (.bnd fun k m _=>.ok) ?_
   obtain ⟨e,rfl⟩:=ih (.lev 2) _ rfl _ _ hx
   exact .ok
  | alt=>exact .ite (.sgn (.bnd fun e k _=>.ok)) .err
  | line=>exact .ite (.bnd fun e k _=>.ok) (ih _ _ rfl)
  | items b=>cases hr
  | expr =>
   exact .ite (.ite (.sgn (.bnd fun e k _=>.ok)) .err) (.ite (.ite (.sgn (.bnd fun e k _=>.sgn (.bnd fun b n _=>.ok))) .err) (.ite (.bnd fun e j _=>.sgn (.sgn (.bnd fun ks n _=>.ok))) (.ite (.bnd fun e j _=>.sgn (.bnd fun b m _=>.sgn (.bnd fun c p _=>.ok))) (.ite (.sgn (.bnd fun ks n _=>.ok)) (.ite (.sgn (.bnd fun ks n _=>.ok)) (ih _ _ rfl))))))
structure Stop (l:List Tk) (i:Nat):Prop where
 beg:beginsAt l i=false
 op:∀ n,opAt l i n=false
theorem Says.bnd {l:List Tk} {r:Rl} {i:Nat} {x:List Ex} {j:Nat} {y:Except Nat (List Ex × Nat)} {k:(Rl→Nat→Ans6 (List Ex))→List Ex→Nat→Ans6 (List Ex)}
  (h:Says l r i (.ok (x,j))) (hk:∃ f,k (pR l f) x j=some y) (hm:∀ f g,f≤g→Le6 (k (pR l f) x j) (k (pR l g) x j)):∃ f,((pR l f r i).bnd (k (pR l f)))=some y:=by
 obtain ⟨f,h⟩:=h
 obtain ⟨g,hk⟩:=hk
 refine ⟨max f g,?_⟩
 rw [pR_mono (Nat.le_max_left f g) r i _ h]
 exact hm g _ (Nat.le_max_right f g) y hk
theorem Says.apps_stop {l:List Tk} {e:Ex} {i:Nat} (h:beginsAt l i=false):Says l (.apps e) i (.ok ([e],i)):=.step ⟨0,by simp only [stepR];rw [if_neg (by rw [h];simp)];rfl⟩
theorem Says.ops_stop {l:List Tk} {n:Nat} {e:Ex} {i:Nat} (h:opAt l i n=false):Says l (.ops n e) i (.ok ([e],i)):=.step ⟨0,by simp only [stepR];rw [if_neg (by rw [h];simp)];rfl⟩
theorem Says.apps_go {l:List Tk} {e:Ex} {i j:Nat} {x:List Ex} {y:Except Nat (List Ex × Nat)} (hb:beginsAt l i=true) (h:Says l .atom i (.ok (x,j))) (k:Says l (.apps (.mk 5 ex0 0 [] [e,headE x])) j y):Says l (.apps e) i y:=by
 obtain ⟨g,hg⟩:=k
 obtain ⟨f,hf⟩:=Says.bnd (k:=fun rec k j=>rec (.apps (.mk 5 ex0 0 [] [e,headE k])) j) h ⟨g,hg⟩ fun f g hfg=>pR_mono hfg _ _
 exact .step ⟨f,by simp only [stepR];rw [if_pos hb];exact hf⟩
theorem Says.lev0 {l:List Tk} {i j:Nat} {x:List Ex} {y:Except Nat (List Ex × Nat)} (h:Says l .atom i (.ok (x,j))) (k:Says l (.apps (headE x)) j y):Says l (.lev 0) i y:=by
 obtain ⟨g,hg⟩:=k
 obtain ⟨f,hf⟩:=Says.bnd (k:=fun rec k j=>rec (.apps (headE k)) j) h ⟨g,hg⟩ fun f g hfg=>pR_mono hfg _ _
 exact .step ⟨f,hf⟩
theorem Says.levS {l:List Tk} {i j n:Nat} {x:List Ex} {y:Except Nat (List Ex × Nat)} (h:Says l (.lev n) i (.ok (x,j))) (k:Says l (.ops (n + 1) (headE x)) j y):Says l (.lev (n + 1)) i y:=by
 obtain ⟨g,hg⟩:=k
 obtain ⟨f,hf⟩:=Says.bnd (k:=fun rec k j=>rec (.ops (n + 1) (headE k)) j) h ⟨g,hg⟩ fun f g hfg=>pR_mono hfg _ _
 exact .step ⟨f,hf⟩
theorem says_up {l:List Tk} {i j:Nat} {e:Ex} (hi:isAt l i pOpen=true) (h:Says l (.lev 0) i (.ok ([e],j))) (hs:Stop l j):Says l .expr i (.ok ([e],j)):=by
 have h1:Says l (.lev 1) i (.ok ([e],j)):=.levS h (.ops_stop (hs.op _))
 have h2:Says l (.lev 2) i (.ok ([e],j)):=.levS h1 (.ops_stop (hs.op _))
 have h3:Says l .comp i (.ok ([e],j)):=by
  obtain ⟨f,hf⟩:=h2
  refine .step ⟨f,?_⟩
  simp only [stepR]
  rw [hf]
  show (if opAt l j 3=true then _ else ok6 [e] j)=_
  rw [if_neg (by rw [hs.op];simp)]
  rfl
 obtain ⟨f,hf⟩:=h3
 have no:∀ s:Bs,pOpen≠s→¬ isAt l i s=true:=fun s hne=>by unfold isAt at hi ⊢;rw [keyT_ne hi hne];simp
 refine .step ⟨f,?_⟩
 simp only [stepR]
 rw [if_neg (no _ (by decide)),if_neg (no _ (by decide)),if_neg (no _ (by decide)),if_neg (no _ (by decide)),if_neg (no _ (by decide)),if_neg (no _ (by decide))]
 exact hf
theorem says_paren {l:List Tk} {i j:Nat} {e:Ex} (hi:isAt l i pOpen=true) (h:Says l .expr (i + 1) (.ok ([e],j))) (hj:isAt l j pShut=true):Says l .atom i (.ok ([e],j + 1)):=by
 obtain ⟨f,hf⟩:=h
 have hk:(tkAt l i).kind=4:=by unfold isAt keyT at hi;simp at hi;exact hi.1
 refine .step ⟨f,?_⟩
 simp only [stepR]
 unfold kindAt
 rw [hk,if_neg (by decide),if_neg (by decide),if_neg (by decide)]
 unfold sgn6
 rw [if_pos hi]
 show (pR l f .expr (i + 1)).bnd _=_
 rw [hf]
 show (if isAt l j pShut=true then ok6 [e] (j + 1) else err6 j)=_
 rw [if_pos hj]
 rfl
theorem says_in {l:List Tk} {e:Ex} (a b:List Tk) (h:Says l .expr 0 (.ok ([e],l.length))) (A:Ag l (l ++ b) l.length):Says (a ++ (l ++ b)) .expr a.length (.ok ([e],a.length + l.length)):=by
 obtain ⟨f,hf⟩:=h
 obtain ⟨_,_,h3⟩:=pR_ag A f .expr 0 trivial (Nat.zero_le _) [e] l.length hf
 have h4:=h3 (Nat.le_refl _)
 refine ⟨f,?_⟩
 have h5:=pR_sh a (l ++ b) f .expr 0
 rw [Nat.add_zero] at h5
 rw [h5,h4]
 rfl
theorem ag_of (l b:List Tk) (t:Tk) (hb:b.head?=some t) (ht:keyT t pShut=true):Ag l (l ++ b) l.length:=by
 have hat:tkAt (l ++ b) l.length=t:=by
  unfold tkAt
  cases b with
  | nil=>cases hb
  | cons x r=>simp at hb;subst hb;simp [List.getD]
 have hk:t.kind=4:=by unfold keyT at ht;simp at ht;exact ht.1
 have no:∀ s:Bs,pShut≠s→isAt (l ++ b) l.length s=false:=fun s hne=>by unfold isAt;rw [hat];exact keyT_ne ht hne
 refine ⟨fun p hp=>?_,?_,fun n=>?_,no _ (by decide),?_⟩
 ·
  unfold tkAt;simp [List.getD,List.getElem?_append_left hp]
 ·
  unfold beginsAt kindAt;rw [hat,hk,no _ (by decide)];decide
 ·
  unfold opAt;split <;> rw [no _ (by decide),no _ (by decide)] <;> rfl
 ·
  unfold kindAt;rw [hat,hk];decide
end Go.Proofs.YtinjocchommbdaaGreatDoor

namespace Go.Proofs.YtinjocchommbdaaGreatDoor
theorem stop_end (l:List Tk):Stop l l.length:=⟨by
  cases h:beginsAt l l.length
  ·
   rfl
  ·
   exact absurd (begins_lt h) (Nat.lt_irrefl _),fun n=>by
  cases h:opAt l l.length n
  ·
   rfl
  ·
   exact absurd (op_lt h) (Nat.lt_irrefl _)⟩
theorem isAt_out (l:List Tk) (s:Bs):isAt l l.length s=false:=by
 cases h:isAt l l.length s
 ·
  rfl
 ·
  exact absurd (isAt_lt h) (Nat.lt_irrefl _)
theorem Says.sh (a:List Tk) {l:List Tk} {r:Rl} {i j:Nat} {x:List Ex} (h:Says l r i (.ok (x,j))):Says (a ++ l) r (a.length + i) (.ok (x,a.length + j)):=by
 obtain ⟨f,hf⟩:=h
 exact ⟨f,by rw [pR_sh,hf];rfl⟩
def lpT:Tk:=⟨4,pOpen,0,0,0⟩
def rpT:Tk:=⟨4,pShut,0,0,0⟩
def wrapT (l:List Tk):List Tk:=lpT :: (l ++ [rpT])
def wrapN (l:List Tk):Nat→List Tk
 | 0=>l
 | n + 1=>wrapT (wrapN l n)
theorem wrapT_len (l:List Tk):(wrapT l).length=l.length + 2:=by simp [wrapT]
theorem wrapN_len (l:List Tk):∀ n,(wrapN l n).length=l.length + 2 * n
 | 0=>rfl
 | n + 1=>by rw [wrapN,wrapT_len,wrapN_len l n];omega
theorem wrapT_open (l b:List Tk):isAt (wrapT l ++ b) 0 pOpen=true:=by
 unfold isAt tkAt wrapT
 simp [List.getD,lpT,keyT]
theorem says_wrap {l:List Tk} {e:Ex} (b:List Tk) (h:Says l .expr 0 (.ok ([e],l.length))):Says (wrapT l ++ b) .atom 0 (.ok ([e],(wrapT l).length)):=by
 have e1:wrapT l ++ b=[lpT] ++ (l ++ (rpT :: b)):=by simp [wrapT]
 have h1:Says ([lpT] ++ (l ++ (rpT :: b))) .expr 1 (.ok ([e],1 + l.length)):=says_in [lpT] (rpT :: b) h (ag_of l _ rpT rfl (by decide))
 have ho:=wrapT_open l b
 rw [e1] at ho ⊢
 have hs:isAt ([lpT] ++ (l ++ (rpT :: b))) (1 + l.length) pShut=true:=by
  have:=isAt_sh [lpT] (l ++ (rpT :: b)) l.length pShut
  rw [show [lpT].length=1 from rfl] at this
  rw [this]
  unfold isAt tkAt
  simp [List.getD,rpT,keyT]
 rw [show (wrapT l).length=1 + l.length + 1 by rw [wrapT_len];omega]
 exact says_paren ho h1 hs
theorem says_alone {l:List Tk} {e:Ex} (h:Says l .atom 0 (.ok ([e],l.length))) (hi:isAt l 0 pOpen=true):Says l .expr 0 (.ok ([e],l.length)) :=
 says_up hi (.lev0 h (.apps_stop (stop_end l).beg)) (stop_end l)
theorem says_wrapN {l:List Tk} {e:Ex} (h:Says l .expr 0 (.ok ([e],l.length))):∀ n,Says (wrapN l n) .expr 0 (.ok ([e],(wrapN l n).length))
 | 0=>h
 | n + 1=>by
  have h1:=says_wrap [] (says_wrapN h n)
  have h2:=wrapT_open (wrapN l n) []
  rw [List.append_nil] at h1 h2
  exact says_alone h1 h2
theorem says_twice {l:List Tk} {e:Ex} (h:Says l .expr 0 (.ok ([e],l.length))):Says (wrapT l ++ wrapT l) .expr 0 (.ok ([.mk 5 ex0 0 [] [e,e]],(wrapT l ++ wrapT l).length)):=by
 have h1:=says_wrap (wrapT l) h
 have h2:=says_wrap [] h
 have ho:=wrapT_open l []
 rw [List.append_nil] at h2 ho
 have h3:=h2.sh (wrapT l)
 rw [Nat.add_zero,←List.length_append] at h3
 refine says_up (wrapT_open l (wrapT l)) (.lev0 h1 (.apps_go ?_ h3 (.apps_stop (stop_end _).beg))) (stop_end _)
 have:=begins_sh (wrapT l) (wrapT l) 0
 rw [Nat.add_zero] at this
 rw [this]
 unfold beginsAt
 rw [ho]
 simp
theorem exprF_says {l:List Tk} {e:Ex} {j:Nat} (h:Says l .expr 0 (.ok ([e],j))):exprF l=if j=l.length then .ok e else .error j:=by
 obtain ⟨x,hx,hs⟩:=pR_total l (enough l) .expr 0 trivial (Nat.zero_le _) (by simp only [lvR,enough];omega)
 obtain ⟨f,hf⟩:=h
 have:=pR_one hf hx
 subst this
 unfold exprF
 rw [hx]
 rfl
theorem exprF_ok {l:List Tk} {e:Ex} (h:exprF l=.ok e):Says l .expr 0 (.ok ([e],l.length)):=by
 unfold exprF at h
 obtain ⟨x,hx,hs⟩:=pR_total l (enough l) .expr 0 trivial (Nat.zero_le _) (by simp only [lvR,enough];omega)
 rw [hx] at h
 cases x with
 | error p=>cases h
 | ok p =>
  obtain ⟨es,j⟩:=p
  obtain ⟨e',rfl⟩:=pR_one6 l _ .expr 0 rfl es j hx
  have h':(if j=l.length then Except.ok e' else Except.error j:Except Nat Ex)=.ok e:=h
  by_cases hj:j=l.length
  ·
   rw [if_pos hj] at h'
   cases h'
   exact ⟨_,by rw [hx,hj]⟩
  ·
   rw [if_neg hj] at h';cases h'
theorem exprF_wrapN {l:List Tk} {e:Ex} (h:exprF l=.ok e) (n:Nat):exprF (wrapN l n)=.ok e:=by
 rw [exprF_says (says_wrapN (exprF_ok h) n),if_pos rfl]
theorem exprF_twice {l:List Tk} {e:Ex} (h:exprF l=.ok e) (n:Nat):exprF (wrapN l (n + 1) ++ wrapN l (n + 1))=.ok (.mk 5 ex0 0 [] [e,e]):=by
 have:=says_twice (says_wrapN (exprF_ok h) n)
 rw [show wrapN l (n + 1)=wrapT (wrapN l n) from rfl,exprF_says this,if_pos rfl]
end Go.Proofs.YtinjocchommbdaaGreatDoor

namespace Go.Proofs.YtinjocchommbdaaGreatDoor
def End6 (k:Nat) {α:Type} (y:Ans6 α):Prop:=y=some (.error k)∨∃ e,y=some (.ok (e,k))
theorem End6.err {k:Nat} {α:Type}:End6 k (err6 k:Ans6 α):=.inl rfl
theorem End6.ok {k:Nat} {α:Type} {a:α}:End6 k (ok6 a k):=.inr ⟨a,rfl⟩
theorem End6.bnd {k:Nat} {α β:Type} {a:Ans6 α} {g:α→Nat→Ans6 β} (h:End6 k a) (hg:∀ x,End6 k (g x k)):End6 k (a.bnd g):=by
 rcases h with rfl | ⟨e,rfl⟩
 ·
  exact .inl rfl
 ·
  exact hg e
def Cut (i k n:Nat) (fl:Prop) {α:Type} (x y:Ans6 α):Prop:=∀ es j,x=some (.ok (es,j))→i≤j∧j≤n∧(j < k→y=some (.ok (es,j)))∧(k≤j→fl→End6 k y)
theorem Cut.bnd {i k n:Nat} {fl:Prop} {α β:Type} {a a':Ans6 α} {f g:α→Nat→Ans6 β} (h:Cut i k n fl a a') (k1:∀ x j,i≤j→j≤n→Cut j k n (fl∧j < k) (f x j) (g x j)) (k2:∀ x,fl→End6 k (g x k)):Cut i k n fl (a.bnd f) (a'.bnd g):=by
 intro es m hx
 cases a with
 | none=>cases hx
 | some r =>
  cases r with
  | error e=>cases hx
  | ok p =>
   obtain ⟨x,j⟩:=p
   obtain ⟨h1,h2,hA,hB⟩:=h x j rfl
   obtain ⟨g1,g2,hC,hD⟩:=k1 x j h1 h2 es m hx
   refine ⟨by omega,g2,fun hm=>?_,fun hm hf=>?_⟩
   ·
    rw [hA (by omega)];exact hC hm
   ·
    by_cases hj:j < k
    ·
     rw [hA hj];exact hD hm ⟨hf,hj⟩
    ·
     exact (hB (by omega) hf).bnd fun x=>k2 x hf
theorem Cut.from {i i' k n:Nat} {fl fl':Prop} {α:Type} {x y:Ans6 α} (h:Cut i k n fl x y) (hi:i'≤i) (hf:fl'→fl):Cut i' k n fl' x y:=fun es j hx=>by
 obtain ⟨h1,h2,h3,h4⟩:=h es j hx
 exact ⟨by omega,h2,h3,fun a b=>h4 a (hf b)⟩
theorem Cut.ok {i k n j:Nat} {fl:Prop} {α:Type} {e e':α} (h1:i≤j) (h2:j≤n) (h3:j < k→e'=e) (h4:k≤j→fl→j=k):Cut i k n fl (ok6 e j) (ok6 e' j):=by
 intro es m hx
 simp only [ok6,Option.some.injEq,Except.ok.injEq,Prod.mk.injEq] at hx
 obtain ⟨rfl,rfl⟩:=hx
 refine ⟨h1,h2,fun hj=>by rw [h3 hj];rfl,fun hj hf=>?_⟩
 have:=h4 hj hf
 subst this
 exact .ok
theorem Cut.err {i k n e:Nat} {fl:Prop} {α:Type} {y:Ans6 α}:Cut i k n fl (err6 e:Ans6 α) y:=fun es j hx=>by simp [err6] at hx
theorem Cut.ite {i p k n:Nat} {fl:Prop} {α:Type} {c c':Prop} [Decidable c] [Decidable c'] {a b a' b':Ans6 α} (hp:p≤i) (hc:p < k→(c'↔c)) (h:c→Cut i k n (fl∧p < k) a a') (q:¬ c→Cut i k n (fl∧p < k) b b') (hl:fl→p≤k) (e:fl→p=k→End6 k (if c' then a' else b')):Cut i k n fl (if c then a else b) (if c' then a' else b'):=by
 intro es j hx
 have main:i≤j∧j≤n∧(p < k→(j < k→(if c' then a' else b')=some (.ok (es,j)))∧(k≤j→fl→End6 k (if c' then a' else b'))):=by
  by_cases h1:c
  ·
   rw [if_pos h1] at hx
   obtain ⟨g1,g2,g3,g4⟩:=h h1 es j hx
   refine ⟨g1,g2,fun hk=>?_⟩
   rw [if_pos ((hc hk).2 h1)]
   exact ⟨g3,fun a b=>g4 a ⟨b,hk⟩⟩
  ·
   rw [if_neg h1] at hx
   obtain ⟨g1,g2,g3,g4⟩:=q h1 es j hx
   refine ⟨g1,g2,fun hk=>?_⟩
   rw [if_neg fun z=>h1 ((hc hk).1 z)]
   exact ⟨g3,fun a b=>g4 a ⟨b,hk⟩⟩
 obtain ⟨m1,m2,m3⟩:=main
 refine ⟨m1,m2,fun hj=>(m3 (by omega)).1 hj,fun hj hf=>?_⟩
 by_cases hk:p < k
 ·
  exact (m3 hk).2 hj hf
 ·
  exact e hf (by have:=hl hf;omega)
structure Pre6 (l l':List Tk) (k:Nat) (fl:Prop):Prop where
 same:∀ p,p < k→tkAt l' p=tkAt l p
 fin:fl→l'.length=k
section
variable {l l':List Tk} {k:Nat} {fl:Prop} (P:Pre6 l l' k fl)
include P
theorem Pre6.kind {p:Nat} (h:p < k):kindAt l' p=kindAt l p:=by unfold kindAt;rw [P.same p h]
theorem Pre6.is {p:Nat} (h:p < k) (s:Bs):isAt l' p s=isAt l p s:=by unfold isAt;rw [P.same p h]
theorem Pre6.text {p:Nat} (h:p < k):textAt l' p=textAt l p:=by unfold textAt;rw [P.same p h]
theorem Pre6.begins {p:Nat} (h:p < k):beginsAt l' p=beginsAt l p:=by unfold beginsAt;rw [P.kind h,P.is h]
theorem Pre6.sgBegins {p:Nat} (h:p < k):sgBegins l' p=sgBegins l p:=by unfold Go.Proofs.YtinjocchommbdaaGreatDoor.sgBegins;rw [P.kind h,P.is h]
theorem Pre6.ops {p:Nat} (h:p < k) (n:Nat):opAt l' p n=opAt l p n:=by unfold opAt;split <;> simp only [P.is h]
theorem Pre6.out (hf:fl) (s:Bs):isAt l' k s=false:=by have:=P.fin hf;subst this;exact isAt_out l' s
theorem Pre6.out_op (hf:fl) (n:Nat):opAt l' k n=false:=by have:=P.fin hf;subst this;exact (stop_end l').op n
theorem Pre6.out_kind (hf:fl) {n:Int} (hn:n≠0):¬ kindAt l' k=n:=fun h=>by have:=kindAt_lt h hn;have:=P.fin hf;omega
theorem Pre6.sgn_end (hf:fl) {α:Type} {s:Bs} {g:Nat→Ans6 α}:End6 k (sgn6 l' k s g):=by unfold sgn6;rw [if_neg (by rw [P.out hf];simp)];exact .err
theorem Pre6.sgn {α:Type} {i:Nat} {fl':Prop} {s:Bs} {f g:Nat→Ans6 α} (hf:fl'→fl) (hk:fl'→i≤k) (q:i < l.length→Cut (i + 1) k l.length (fl'∧i < k) (f (i + 1)) (g (i + 1))):Cut (i + 1) k l.length fl' (sgn6 l i s f) (sgn6 l' i s g):=by
 unfold sgn6
 exact .ite (p:=i) (by omega) (fun h=>by rw [P.is h]) (fun h=>q (isAt_lt h)) (fun _=>.err) hk (fun h e=>by subst e;rw [if_neg (by rw [P.out (hf h)];simp)];exact .err)
theorem Pre6.sgnF {α:Type} {i i':Nat} {fl':Prop} {s:Bs} {f g:Nat→Ans6 α} (hi:i'≤i + 1) (hf:fl'→fl) (hk:fl'→i≤k) (q:i < l.length→Cut (i + 1) k l.length (fl'∧i < k) (f (i + 1)) (g (i + 1))):Cut i' k l.length fl' (sgn6 l i s f) (sgn6 l' i s g):=(P.sgn hf hk q).from hi id
theorem Pre6.rule_end (hf:fl) {g:Nat} {r:Rl} (hr:okR r) (hg:8≤g):End6 k (pR l' g r k):=by
 have hl:=P.fin hf
 have hlv:lvR r≤7:=by
  cases r <;> simp only [lvR,okR] at hr ⊢ <;> omega
 obtain ⟨x,hx,hs⟩:=pR_total l' g r k hr (by omega) (by rw [hl];omega)
 cases x with
 | error e=>exact .inl (by rw [hx];have h1:k≤e:=hs.1;have h2:e≤l'.length:=hs.2;rw [show e=k by omega])
 | ok p =>
  obtain ⟨a,b⟩:=p
  exact .inr ⟨a,by rw [hx];have h1:k + minR r≤b:=hs.1;have h2:b≤l'.length:=hs.2.1;rw [show b=k by omega]⟩
end
theorem Pre6.nms {l l':List Tk} {k:Nat} {fl:Prop} (P:Pre6 l l' k fl):∀ (d i:Nat),k - i≤d→i≤k→(i + (nms l i).length < k→nms l' i=nms l i)∧(k≤i + (nms l i).length→fl→i + (nms l' i).length=k)
 | d,i,hd,hi=>by
  by_cases hlt:i < k
  ·
   by_cases hk:kindAt l i=2
   ·
    rw [nms_step hk,nms_step (l:=l') (i:=i) (by rw [P.kind hlt];exact hk),P.text hlt]
    simp only [List.length_cons]
    cases d with
    | zero=>omega
    | succ d =>
     have ih:=Pre6.nms P d (i + 1) (by omega) (by omega)
     exact ⟨fun h=>by rw [ih.1 (by omega)],fun h hf=>by have:=ih.2 (by omega) hf;omega⟩
   ·
    rw [nms_zero hk,nms_zero (by rw [P.kind hlt];exact hk)]
    simp only [List.length_nil,Nat.add_zero]
    exact ⟨fun _=>trivial,fun h=>by omega⟩
  ·
   have e:i=k:=by omega
   subst e
   refine ⟨fun h=>by omega,fun _ hf=>?_⟩
   rw [nms_zero (P.out_kind hf (by decide))]
   rfl
theorem kind_is {l:List Tk} {i:Nat} {n:Int} (h:kindAt l i=n) (hn:n≠4) (s:Bs):isAt l i s=false:=by
 unfold isAt keyT
 unfold kindAt at h
 rw [h]
 simp [hn]
theorem name_end {l:List Tk} {i g:Nat} (hi:l.length=i + 1) (hk:kindAt l i=2) (hg:22≤g):pR l g .expr i=some (.ok ([.mk 2 (textAt l i) 0 [] []],i + 1)):=by
 have hs:=stop_end l
 rw [hi] at hs
 have ha:Says l .atom i (.ok ([.mk 2 (textAt l i) 0 [] []],i + 1)):=.step ⟨0,by simp only [stepR];rw [if_neg (by rw [hk];decide),if_pos hk];rfl⟩
 have h0:Says l (.lev 0) i (.ok ([.mk 2 (textAt l i) 0 [] []],i + 1)):=.lev0 ha (.apps_stop hs.beg)
 have h1:Says l (.lev 1) i (.ok ([.mk 2 (textAt l i) 0 [] []],i + 1)):=.levS h0 (.ops_stop (hs.op _))
 have h2:Says l (.lev 2) i (.ok ([.mk 2 (textAt l i) 0 [] []],i + 1)):=.levS h1 (.ops_stop (hs.op _))
 have h3:Says l .comp i (.ok ([.mk 2 (textAt l i) 0 [] []],i + 1)):=by
  obtain ⟨f,hf⟩:=h2
  refine .step ⟨f,?_⟩
  simp only [stepR]
  rw [hf]
  show (if opAt l (i + 1) 3=true then _ else ok6 _ (i + 1))=_
  rw [if_neg (by rw [hs.op];simp)]
  rfl
 have h4:Says l .expr i (.ok ([.mk 2 (textAt l i) 0 [] []],i + 1)):=by
  obtain ⟨f,hf⟩:=h3
  have no:∀ s:Bs,¬ isAt l i s=true:=fun s=>by rw [kind_is hk (by decide)];simp
  refine .step ⟨f,?_⟩
  simp only [stepR]
  rw [if_neg (no _),if_neg (no _),if_neg (no _),if_neg (no _),if_neg (no _),if_neg (no _)]
  exact hf
 obtain ⟨x,hx,_⟩:=pR_total l g .expr i trivial (by omega) (by rw [hi];simp only [lvR];omega)
 obtain ⟨f,hf⟩:=h4
 rw [hx,pR_one hx hf]
theorem pR_cut {l l':List Tk} {k:Nat} {fl:Prop} (P:Pre6 l l' k fl):∀ (f:Nat) (r:Rl) (i g:Nat),okR r→i≤l.length→f + 24≤g→Cut (i + minR r) k l.length (fl∧i≤k) (pR l f r i) (pR l' g r i)
 | 0,_,_,_,_,_,_=>fun _ _ h=>(by cases h)
 | f + 1,r,i,0,_,_,hg=>by omega
 | f + 1,r,i,g + 1,hr,hi,hg=>by
  have ih:=fun r i h1 h2=>pR_cut P f r i g h1 h2 (by omega)
  suffices hmain:Cut (i + minR r) k l.length (fl∧i < k) (stepR l (pR l f) r i) (stepR l' (pR l' g) r i) by
   intro es j hx
   obtain ⟨h1,h2,h3,h4⟩:=hmain es j hx
   refine ⟨h1,h2,h3,fun a b=>?_⟩
   by_cases hik:i < k
   ·
    exact h4 a ⟨b.1,hik⟩
   ·
    have e:i=k:=by have:=b.2;omega
    subst e
    exact P.rule_end b.1 hr (by omega)
  have ex:∀ j,j≤l.length→Cut (j + 1) k l.length (fl∧j≤k) (pR l f .expr j) (pR l' g .expr j):=fun j h=>ih .expr j trivial h
  have its:∀ b j,j≤l.length→Cut (j + 1) k l.length (fl∧j≤k) (pR l f (.items b) j) (pR l' g (.items b) j):=fun b j h=>ih (.items b) j trivial h
  have re:∀ {r:Rl},fl→okR r→End6 k (pR l' g r k):=fun hf hr=>P.rule_end hf hr (by omega)
  have te:∀ {α:Type} {i':Nat} {c c':Prop} [Decidable c] [Decidable c'] {a b a' b':Ans6 α},i≤i'→(i < k→(c'↔c))→(c→Cut i' k l.length (fl∧i < k) a a')→(¬ c→Cut i' k l.length (fl∧i < k) b b')→Cut i' k l.length (fl∧i < k) (if c then a else b) (if c' then a' else b'):=fun hp hc h q =>
   .ite hp hc (fun x=>(h x).from (Nat.le_refl _) fun z=>z.1) (fun x=>(q x).from (Nat.le_refl _) fun z=>z.1) (fun z=>by have:=z.2;omega) fun z e=>by have:=z.2;omega
  cases r with
  | atom =>
   simp only [stepR,minR]
   refine te (by omega) (fun h=>by rw [P.kind h]) (fun h=>.ok (Nat.le_refl _) (kindAt_lt h (by decide)) (fun hj=>by rw [P.same i (by omega)]) fun h1 h2=>by omega) fun _=>?_
   refine te (by omega) (fun h=>by rw [P.kind h]) (fun h=>.ok (Nat.le_refl _) (kindAt_lt h (by decide)) (fun hj=>by rw [P.text (by omega)]) fun h1 h2=>by omega) fun _=>?_
   refine te (by omega) (fun h=>by rw [P.kind h]) (fun h=>.ok (Nat.le_refl _) (kindAt_lt h (by decide)) (fun hj=>by rw [P.text (by omega)]) fun h1 h2=>by omega) fun _=>?_
   exact P.sgn (fun z=>z.1) (fun z=>by have:=z.2;omega) fun h=>(((ex (i + 1) (by omega)).from (by omega) fun z=>⟨z.1.1,by omega⟩).bnd (fun e m h1 h2=>P.sgnF (by omega) (fun z=>z.1.1.1) (fun z=>by have:=z.2;omega) fun h3=>.ok (Nat.le_refl _) (by omega) (fun _=>rfl) fun a b=>by have:=b.2;omega) fun x hf=>P.sgn_end hf.1.1)
  | apps e =>
   simp only [stepR,minR,Nat.add_zero]
   refine te (Nat.le_refl _) (fun h=>by rw [P.begins h]) (fun h=>?_) fun _=>.ok (Nat.le_refl _) hi (fun _=>rfl) fun a b=>by have:=b.2;omega
   exact ((ih .atom i trivial hi).from (by omega) fun z=>⟨z.1,by omega⟩).bnd (fun x j h1 h2=>(ih (.apps _) j trivial h2).from (by omega) fun z=>⟨z.1.1,by omega⟩) fun x hf=>re hf.1 trivial
  | lev n =>
   cases n with
   | zero =>
    simp only [stepR,minR]
    exact ((ih .atom i trivial hi).from (Nat.le_refl _) fun z=>⟨z.1,by omega⟩).bnd (fun x j h1 h2=>(ih (.apps _) j trivial h2).from (by omega) fun z=>⟨z.1.1,by omega⟩) fun x hf=>re hf.1 trivial
   | succ n =>
    simp only [stepR,minR]
    simp only [okR] at hr
    exact ((ih (.lev n) i (by simp only [okR];omega) hi).from (Nat.le_refl _) fun z=>⟨z.1,by omega⟩).bnd (fun x j h1 h2=>(ih (.ops _ _) j hr h2).from (by omega) fun z=>⟨z.1.1,by omega⟩) fun x hf=>re hf.1 hr
  | ops n e =>
   simp only [stepR,minR,Nat.add_zero]
   simp only [okR] at hr
   refine te (Nat.le_refl _) (fun h=>by rw [P.ops h]) (fun h=>?_) fun _=>.ok (Nat.le_refl _) hi (fun _=>rfl) fun a b=>by have:=b.2;omega
   have hb:=op_lt h
   by_cases hik:i < k
   ·
    rw [P.text hik]
    exact ((ih (.lev (n - 1)) (i + 1) (by simp only [okR];omega) (by omega)).from (by omega) fun z=>⟨z.1,by omega⟩).bnd (fun x j h1 h2=>(ih (.ops _ _) j hr h2).from (by omega) fun z=>⟨z.1.1,by omega⟩) fun x hf=>re hf.1 hr
   ·
    intro es j hx
    have key:=(((ih (.lev (n - 1)) (i + 1) (by simp only [okR];omega) (by omega)).from (i':=i + 1) (fl':=fl∧i < k) (by simp only [minR];omega) fun z=>⟨z.1,by omega⟩).bnd (f:=fun x j=>pR l f (.ops n (.mk 9 (textAt l i) 0 [] [e,headE x])) j) (g:=fun x j=>pR l' g (.ops n (.mk 9 (textAt l i) 0 [] [e,headE x])) j) (fun x j h1 h2=>(ih (.ops _ _) j hr h2).from (by omega) fun z=>⟨z.1.1,by omega⟩) fun x hf=>re hf.1 hr) es j hx
    exact ⟨by omega,key.2.1,fun hj=>by omega,fun _ hf=>by omega⟩
  | comp =>
   simp only [stepR,minR]
   refine ((ih (.lev 2) i (by simp [okR]) hi).from (Nat.le_refl _) fun z=>⟨z.1,by omega⟩).bnd (fun e j h1 h2=>?_) fun x hf=>by
    rw [if_neg (by rw [P.out_op hf.1];simp)];exact .ok
   refine .ite (p:=j) (Nat.le_refl _) (fun h=>by rw [P.ops h]) (fun h=>?_) (fun _=>.ok (Nat.le_refl _) h2 (fun _=>rfl) fun a b=>by have:=b.2;omega) (fun z=>by have:=z.2;omega) fun z e=>by have:=z.2;omega
   have hb:=op_lt h
   exact ((ih (.lev 2) (j + 1) (by simp [okR]) (by omega)).from (by omega) fun z=>⟨z.1.1.1,by omega⟩).bnd (fun x p g1 g2=>.ok (Nat.le_refl _) g2 (fun hj=>by rw [P.text (by omega)]) fun a b=>by have:=b.2;omega) fun x hf=>.ok
  | alt =>
   simp only [stepR,minR]
   refine te (by omega) (fun h=>by rw [P.kind h]) (fun h=>?_) fun _=>.err
   have hb:=kindAt_lt h (by decide)
   have hn:=nms_le l (i + 1) (by omega)
   by_cases hik:i < k
   ·
    obtain ⟨n1,n2⟩:=P.nms k (i + 1) (by omega) (by omega)
    by_cases hlt:i + 1 + (nms l (i + 1)).length < k
    ·
     rw [n1 hlt,P.text hik]
     exact P.sgnF (by omega) (fun z=>z.1) (fun z=>by omega) fun h3=>((ex _ (by omega)).from (by omega) fun z=>⟨z.1.1,by omega⟩).bnd (fun x m g1 g2=>.ok (Nat.le_refl _) g2 (fun _=>rfl) fun a b=>by have:=b.2;omega) fun x hf=>.ok
    ·
     intro es j hx
     have key:i + 1 + (nms l (i + 1)).length + 1≤j∧j≤l.length:=by
      unfold sgn6 at hx
      split at hx
      ·
       have hb2:=isAt_lt ‹_›
       cases he:pR l f .expr (i + 1 + (nms l (i + 1)).length + 1) with
       | none=>simp only [he] at hx;cases hx
       | some y =>
        simp only [he] at hx
        cases y with
        | error e=>cases hx
        | ok q =>
         obtain ⟨a,b⟩:=q
         obtain ⟨s1,s2⟩:=pR_shape (r:=.expr) trivial (by omega) he
         simp only [minR] at s1
         simp only [Ans6.bnd,ok6,Option.some.injEq,Except.ok.injEq,Prod.mk.injEq] at hx
         obtain ⟨_,rfl⟩:=hx
         exact ⟨by omega,s2⟩
      ·
       simp [err6] at hx
     refine ⟨by omega,key.2,fun hj=>by omega,fun _ hf=>?_⟩
     rw [n2 (by omega) hf.1]
     exact P.sgn_end hf.1
   ·
    intro es j hx
    have key:i + 1≤j∧j≤l.length:=by
     unfold sgn6 at hx
     split at hx
     ·
      have hb2:=isAt_lt ‹_›
      cases he:pR l f .expr (i + 1 + (nms l (i + 1)).length + 1) with
      | none=>simp only [he] at hx;cases hx
      | some y =>
       simp only [he] at hx
       cases y with
       | error e=>cases hx
       | ok q =>
        obtain ⟨a,b⟩:=q
        obtain ⟨s1,s2⟩:=pR_shape (r:=.expr) trivial (by omega) he
        simp only [minR] at s1
        simp only [Ans6.bnd,ok6,Option.some.injEq,Except.ok.injEq,Prod.mk.injEq] at hx
        obtain ⟨_,rfl⟩:=hx
        exact ⟨by omega,s2⟩
     ·
      simp [err6] at hx
    exact ⟨key.1,key.2,fun hj=>by omega,fun _ hf=>by omega⟩
  | line =>
   simp only [stepR,minR]
   by_cases hc:kindAt l i=2∧isAt l (i + 1) [60,45]=true
   ·
    have hb:=isAt_lt hc.2
    intro es j hx
    rw [if_pos hc] at hx
    have key:=(((ex (i + 2) (by omega)).from (i':=i + 2) (fl':=fl∧i + 1 < k) (by omega) fun z=>⟨z.1,by omega⟩).bnd (f:=fun e m=>ok6 [Ex.mk 13 ex0 0 [textAt l i] e] m) (g:=fun e m=>ok6 [Ex.mk 13 ex0 0 [textAt l i] e] m) (fun x m g1 g2=>.ok (Nat.le_refl _) g2 (fun _=>rfl) fun a b=>by have:=b.2;omega) fun x hf=>.ok) es j hx
    refine ⟨by omega,key.2.1,fun hj=>?_,fun hj hf=>?_⟩
    ·
     rw [if_pos (by rw [P.kind (by omega),P.is (by omega)];exact hc),P.text (by omega)]
     exact key.2.2.1 hj
    ·
     by_cases hk1:i + 1 < k
     ·
      rw [if_pos (by rw [P.kind (by omega),P.is (by omega)];exact hc),P.text (by omega)]
      exact key.2.2.2 hj ⟨hf.1,hk1⟩
     ·
      have e:i + 1=k:=by omega
      subst e
      rw [if_neg (fun z=>by rw [P.out hf.1] at z;exact absurd z.2 (by simp))]
      exact .inr ⟨_,name_end (P.fin hf.1) (by rw [P.kind (by omega)];exact hc.1) (by omega)⟩
   ·
    rw [if_neg hc]
    have h0:=ex i hi
    intro es j hx
    obtain ⟨g1,g2,g3,g4⟩:=h0 es j hx
    have hno:i + 1≤k→(i + 1=k→fl)→¬ (kindAt l' i=2∧isAt l' (i + 1) [60,45]=true):=fun hk hfl z=>by
     rcases Nat.lt_or_ge (i + 1) k with h1 | h1
     ·
      exact hc ⟨by rw [←P.kind (by omega)];exact z.1,by rw [←P.is h1];exact z.2⟩
     ·
      have e:i + 1=k:=by omega
      subst e
      rw [P.out (hfl rfl)] at z
      exact absurd z.2 (by simp)
    refine ⟨g1,g2,fun hj=>?_,fun hj hf=>?_⟩
    ·
     rw [if_neg (hno (by omega) fun e=>by omega)];exact g3 hj
    ·
     rw [if_neg (hno (by omega) fun _=>hf.1)];exact g4 hj ⟨hf.1,by omega⟩
  | items b =>
   simp only [stepR,minR]
   have h0:Cut (i + 1) k l.length (fl∧i < k) (pR l f (if b then .alt else .line) i) (pR l' g (if b then .alt else .line) i):=by
    cases b
    ·
     exact (ih .line i trivial hi).from (Nat.le_refl _) fun z=>⟨z.1,by omega⟩
    ·
     exact (ih .alt i trivial hi).from (Nat.le_refl _) fun z=>⟨z.1,by omega⟩
   refine h0.bnd (fun e j h1 h2=>?_) fun x hf=>by
    rw [if_neg (by rw [P.out hf.1];simp)];exact P.sgn_end hf.1
   refine .ite (p:=j) (Nat.le_refl _) (fun h=>by rw [P.is h]) (fun h=>?_) (fun _=>?_) (fun z=>by have:=z.2;omega) fun z e=>by have:=z.2;omega
   ·
    have hb:=isAt_lt h
    exact ((its b (j + 1) (by omega)).from (by omega) fun z=>⟨z.1.1.1,by omega⟩).bnd (fun x m g1 g2=>.ok (Nat.le_refl _) g2 (fun _=>rfl) fun a b=>by have:=b.2;omega) fun x hf=>.ok
   ·
    exact P.sgnF (by omega) (fun z=>z.1.1.1) (fun z=>by have:=z.2;omega) fun h3=>.ok (Nat.le_refl _) (by omega) (fun _=>rfl) fun a b=>by have:=b.2;omega
  | expr =>
   simp only [stepR,minR]
   refine te (by omega) (fun h=>by rw [P.is h]) (fun h=>?_) fun _=>?_
   ·
    have hb:=isAt_lt h
    refine .ite (p:=i + 1) (Nat.le_refl _) (fun h=>by rw [P.kind h]) (fun h2=>?_) (fun _=>.err) (fun z=>by have:=z.2;omega) fun z e=>by
     subst e;rw [if_neg (P.out_kind z.1 (by decide))];exact .err
    have hb2:=kindAt_lt h2 (by decide)
    by_cases hik:i + 1 < k
    ·
     rw [P.text hik]
     exact P.sgnF (by omega) (fun z=>z.1.1) (fun z=>by omega) fun h3=>((ex _ (by omega)).from (by omega) fun z=>⟨z.1.1.1,by omega⟩).bnd (fun x m g1 g2=>.ok (Nat.le_refl _) g2 (fun _=>rfl) fun a b=>by have:=b.2;omega) fun x hf=>.ok
    ·
     intro es j hx
     have key:=((P.sgn (g:=fun j=>(pR l' g .expr j).bnd fun e k=>ok6 [Ex.mk 4 ex0 0 [textAt l (i + 1)] e] k) (fl':=fl∧i + 2≤k) (fun z=>z.1) (fun z=>by omega) fun h3=>((ex _ (by omega)).from (by omega) fun z=>⟨z.1.1,by omega⟩).bnd (fun x m g1 g2=>.ok (Nat.le_refl _) g2 (fun _=>rfl) fun a b=>by have:=b.2;omega) fun x hf=>.ok)) es j hx
     exact ⟨by omega,key.2.1,fun hj=>by omega,fun _ hf=>by omega⟩
   refine te (by omega) (fun h=>by rw [P.is h]) (fun h=>?_) fun _=>?_
   ·
    have hb:=isAt_lt h
    refine .ite (p:=i + 1) (Nat.le_refl _) (fun h=>by rw [P.kind h]) (fun h2=>?_) (fun _=>.err) (fun z=>by have:=z.2;omega) fun z e=>by
     subst e;rw [if_neg (P.out_kind z.1 (by decide))];exact .err
    have hb2:=kindAt_lt h2 (by decide)
    have body:∀ u:Str,Cut (i + 1) k l.length (fl∧i + 1 < k) (sgn6 l (i + 2) [61] fun j=>(pR l f .expr j).bnd fun a k=>sgn6 l k [105,110] fun m=>(pR l f .expr m).bnd fun b n=>ok6 [Ex.mk 6 ex0 0 [u] (a ++ b)] n) (sgn6 l' (i + 2) [61] fun j=>(pR l' g .expr j).bnd fun a k=>sgn6 l' k [105,110] fun m=>(pR l' g .expr m).bnd fun b n=>ok6 [Ex.mk 6 ex0 0 [u] (a ++ b)] n):=fun u =>
     P.sgnF (by omega) (fun z=>z.1) (fun z=>by omega) fun h3=>((ex _ (by omega)).from (by omega) fun z=>⟨z.1.1,by omega⟩).bnd (fun x m g1 g2=>P.sgnF (by omega) (fun z=>z.1.1.1) (fun z=>by omega) fun h4=>((ex _ (by omega)).from (by omega) fun z=>⟨z.1.1.1.1,by omega⟩).bnd (fun y q q1 q2=>.ok (Nat.le_refl _) q2 (fun _=>rfl) fun a b=>by have:=b.2;omega) fun x hf=>.ok) fun x hf=>P.sgn_end hf.1.1
    by_cases hik:i + 1 < k
    ·
     rw [P.text hik]
     exact (body _).from (Nat.le_refl _) fun z=>⟨z.1.1,by omega⟩
    ·
     intro es j hx
     have key:=body _ es j hx
     exact ⟨key.1,key.2.1,fun hj=>by omega,fun _ hf=>by omega⟩
   refine te (by omega) (fun h=>by rw [P.is h]) (fun h=>?_) fun _=>?_
   ·
    have hb:=isAt_lt h
    exact (((ex (i + 1) (by omega)).from (by omega) fun z=>⟨z.1,by omega⟩).bnd (fun e j h1 h2=>P.sgnF (by omega) (fun z=>z.1.1) (fun z=>by omega) fun h3=>P.sgnF (by omega) (fun z=>z.1.1.1) (fun z=>by omega) fun h4=>((its true _ (by omega)).from (by omega) fun z=>⟨z.1.1.1.1,by omega⟩).bnd (fun x m g1 g2=>.ok (Nat.le_refl _) g2 (fun _=>rfl) fun a b=>by have:=b.2;omega) fun x hf=>.ok) fun x hf=>P.sgn_end hf.1)
   refine te (by omega) (fun h=>by rw [P.is h]) (fun h=>?_) fun _=>?_
   ·
    have hb:=isAt_lt h
    exact (((ex (i + 1) (by omega)).from (by omega) fun z=>⟨z.1,by omega⟩).bnd (fun e j h1 h2=>P.sgnF (by omega) (fun z=>z.1.1) (fun z=>by omega) fun h3=>((ex _ (by omega)).from (by omega) fun z=>⟨z.1.1.1,by omega⟩).bnd (fun b m g1 g2=>P.sgnF (by omega) (fun z=>z.1.1.1.1) (fun z=>by omega) fun h4=>((ex _ (by omega)).from (by omega) fun z=>⟨z.1.1.1.1.1,by omega⟩).bnd (fun c p q1 q2=>.ok (Nat.le_refl _) q2 (fun _=>rfl) fun a b=>by have:=b.2;omega) fun x hf=>.ok) fun x hf=>P.sgn_end hf.1.1.1) fun x hf=>P.sgn_end hf.1)
   refine te (by omega) (fun h=>by rw [P.is h]) (fun h=>?_) fun _=>?_
   ·
    have hb:=isAt_lt h
    exact P.sgnF (by omega) (i:=i + 1) (fun z=>z.1) (fun z=>by omega) fun h4=>((its false _ (by omega)).from (by omega) fun z=>⟨z.1.1,by omega⟩).bnd (fun x m g1 g2=>.ok (Nat.le_refl _) g2 (fun _=>rfl) fun a b=>by have:=b.2;omega) fun x hf=>.ok
   refine te (by omega) (fun h=>by rw [P.is h]) (fun h=>?_) fun _=>?_
   ·
    have hb:=isAt_lt h
    exact P.sgnF (by omega) (i:=i + 1) (fun z=>z.1) (fun z=>by omega) fun h4=>((its false _ (by omega)).from (by omega) fun z=>⟨z.1.1,by omega⟩).bnd (fun x m g1 g2=>.ok (Nat.le_refl _) g2 (fun _=>rfl) fun a b=>by have:=b.2;omega) fun x hf=>.ok
   exact (ih .comp i trivial hi).from (Nat.le_refl _) fun z=>⟨z.1,by omega⟩
end Go.Proofs.YtinjocchommbdaaGreatDoor
