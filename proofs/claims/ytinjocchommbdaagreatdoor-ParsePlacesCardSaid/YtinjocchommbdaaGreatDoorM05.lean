/- A part of the proof that parser laws hold: texts of the walk and of its plain laws, made small. -/

set_option linter.unusedVariables false
set_option linter.unusedSimpArgs false
namespace Go.Proofs.YtinjocchommbdaaGreatDoor
abbrev Bs:=List UInt8
def dgB (b:UInt8):Bool:=decide (48≤b.toNat) && decide (b.toNat≤57)
def smB (b:UInt8):Bool:=decide (97≤b.toNat) && decide (b.toNat≤122)
def grB (b:UInt8):Bool:=decide (65≤b.toNat) && decide (b.toNat≤90)
def ptB (b:UInt8):Bool:=dgB b || smB b || grB b
def wordsL:List Bs:=[[99,97,115,101],[111,102],[108,101,116],[105,110],[100,111],[100,111,115],[105,102],[116,104,101,110],[101,108,115,101],[100,97,116,97]]
def signsL:List Bs:=[[45,62],[60,45],[61,61],[61],[60],[43],[45],[42],[47],[92],[40],[41],[123],[125],[59],[124]]
def wdB (s:Bs):Bool:=wordsL.contains s
def ptsB (s:Bs):Bool:=decide (1≤s.length) && decide (s.length≤20) && s.all ptB
def headB (p:UInt8→Bool) (s:Bs):Bool:=(s.head?.map p).getD false
def nmB (s:Bs):Bool:=ptsB s && headB smB s && !wdB s
def cnB (s:Bs):Bool:=ptsB s && headB grB s
def numL (s:Bs):Nat:=s.foldl (fun n b=>10 * n + (b.toNat - 48)) 0
def maxI:Nat:=9223372036854775807
def wordK (s:Bs):Option Int:=if wdB s=true then some 4 else if nmB s=true then some 2 else if cnB s=true then some 3 else none
def tokF (l:Bs):Option (Int × Bs × Nat) :=
 if headB dgB l=true then (if numL (l.takeWhile dgB)≤maxI then some (1,l.takeWhile dgB,numL (l.takeWhile dgB)) else none)
 else if headB ptB l=true then (wordK (l.takeWhile ptB)).map fun k=>(k,l.takeWhile ptB,0)
 else (signsL.find? fun s=>s.isPrefixOf l).map fun s=>(4,s,0)
structure Tk where
 kind:Int
 text:Bs
 num:Int
 line:Int
 col:Int
inductive Res where
 | ok (l:List Tk)
 | bad (line col:Int)
def Res.pre (ts:List Tk):Res→Res
 | .ok l=>.ok (ts ++ l)
 | .bad a b=>.bad a b
theorem headB_take {p:UInt8→Bool} {l:Bs} (h:headB p l=true):l.takeWhile p≠[]:=by
 cases l with
 | nil=>simp [headB] at h
 | cons b r=>simp [headB] at h;simp [List.takeWhile,h]
theorem signs_ne:∀ s ∈ signsL,s≠[]:=by decide
theorem tokF_ne {l:Bs} {k:Int} {t:Bs} {n:Nat} (h:tokF l=some (k,t,n)):t≠[]:=by
 unfold tokF at h
 split at h
 ·
  split at h
  ·
   simp only [Option.some.injEq,Prod.mk.injEq] at h
   rw [←h.2.1];exact headB_take ‹_›
  ·
   cases h
 ·
  split at h
  ·
   cases hk:wordK (l.takeWhile ptB) with
   | none=>rw [hk] at h;cases h
   | some q =>
    rw [hk] at h
    simp only [Option.map_some,Option.some.injEq,Prod.mk.injEq] at h
    rw [←h.2.1];exact headB_take ‹_›
  ·
   cases hf:signsL.find? fun s=>s.isPrefixOf l with
   | none=>rw [hf] at h;cases h
   | some s =>
    rw [hf] at h
    simp only [Option.map_some,Option.some.injEq,Prod.mk.injEq] at h
    rw [←h.2.1]
    exact signs_ne s (List.mem_of_find?_eq_some hf)
theorem drop_lt {l t:Bs} (hl:l≠[]) (ht:t≠[]):(l.drop t.length).length < l.length:=by
 have h1:=List.length_pos_iff.2 hl
 have h2:=List.length_pos_iff.2 ht
 rw [List.length_drop];omega
theorem dropWhile_le (p:UInt8→Bool) (l:Bs):(l.dropWhile p).length≤l.length:=by
 induction l with
 | nil=>exact Nat.le_refl _
 | cons b r ih =>
  simp only [List.dropWhile_cons]
  split
  ·
   simp only [List.length_cons];omega
  ·
   exact Nat.le_refl _
def lexF (line col:Int) (cnt:Nat) (l:Bs):Res :=
 match l with
 | []=>.ok []
 | b :: r =>
  if b=10 then lexF (line + 1) 1 cnt r
  else if b=32 then lexF line (col + 1) cnt r
  else if b=45∧r.head?=some 45 then lexF line col cnt (r.dropWhile (· != 10))
  else match h:tokF (b :: r) with
   | none=>.bad line col
   | some (k,t,n)=>if 2000≤cnt then .bad line col else Res.pre [⟨k,t,n,line,col⟩] (lexF line (col + t.length) (cnt + 1) ((b :: r).drop t.length))
termination_by l.length
decreasing_by
 ·
  simp
 ·
  simp
 ·
  have:=dropWhile_le (· != 10) r
  simp only [List.length_cons];omega
 ·
  exact drop_lt (by simp) (tokF_ne h)
theorem lexF_nil (line col:Int) (cnt:Nat):lexF line col cnt []=.ok []:=by rw [lexF]
theorem lexF_nl (line col:Int) (cnt:Nat) (r:Bs):lexF line col cnt (10 :: r)=lexF (line + 1) 1 cnt r:=by rw [lexF];simp
theorem lexF_sp (line col:Int) (cnt:Nat) (r:Bs):lexF line col cnt (32 :: r)=lexF line (col + 1) cnt r:=by rw [lexF];simp
def comB (l:Bs):Bool:=decide (l.take 2=[45,45])
theorem comB_cons (b:UInt8) (r:Bs):comB (b :: r)=true↔b=45∧r.head?=some 45:=by
 unfold comB
 cases r with
 | nil=>simp
 | cons c q=>simp
theorem lexF_com {l:Bs} (line col:Int) (cnt:Nat) (h:comB l=true):lexF line col cnt l=lexF line col cnt (l.dropWhile (· != 10)):=by
 cases l with
 | nil=>simp [comB] at h
 | cons b r =>
  have h2:=(comB_cons b r).1 h
  rw [lexF]
  rw [if_neg (by rw [h2.1];decide),if_neg (by rw [h2.1];decide),if_pos h2]
  have:(b :: r).dropWhile (· != 10)=r.dropWhile (· != 10):=by rw [List.dropWhile_cons,if_pos (by rw [h2.1];decide)]
  rw [this]
def tokAt (l:Bs):Prop:=l≠[]∧l.head?≠some 10∧l.head?≠some 32∧comB l=false
theorem lexF_tok {l:Bs} (line col:Int) (cnt:Nat) (h:tokAt l):lexF line col cnt l=match tokF l with
  | none=>.bad line col
  | some (k,t,n)=>if 2000≤cnt then .bad line col else Res.pre [⟨k,t,n,line,col⟩] (lexF line (col + t.length) (cnt + 1) (l.drop t.length)):=by
 obtain ⟨h0,h1,h2,h3⟩:=h
 cases l with
 | nil=>exact absurd rfl h0
 | cons b r =>
  simp at h1 h2
  have h4:¬ (b=45∧r.head?=some 45):=fun h=>by rw [(comB_cons b r).2 h] at h3;cases h3
  rw [lexF,if_neg h1,if_neg h2,if_neg h4]
  cases tokF (b :: r) <;> rfl
end Go.Proofs.YtinjocchommbdaaGreatDoor

namespace Go.Proofs.YtinjocchommbdaaGreatDoor
theorem head_append {p:UInt8→Bool} {x b:Bs} (hx:x≠[]):headB p (x ++ b)=headB p x:=by
 cases x with
 | nil=>exact absurd rfl hx
 | cons a r=>rfl
def stopB (b:Bs):Prop:=b=[]∨b.head?=some 10∨b.head?=some 32
theorem stop_head {b:Bs} (h:stopB b):∀ c,b.head?=some c→dgB c=false∧ptB c=false:=by
 intro c hc
 rcases h with rfl | h | h
 ·
  cases hc
 ·
  rw [h] at hc;cases hc;exact ⟨by decide,by decide⟩
 ·
  rw [h] at hc;cases hc;exact ⟨by decide,by decide⟩
theorem takeWhile_stop {p:UInt8→Bool} {x b:Bs} (h:∀ c,b.head?=some c→p c=false):(x ++ b).takeWhile p=x.takeWhile p:=by
 induction x with
 | nil =>
  cases b with
  | nil=>rfl
  | cons c r=>simp [h c rfl]
 | cons a r ih =>
  simp only [List.cons_append,List.takeWhile_cons,ih]
theorem prefix_stop {s x b:Bs} (hs:s ∈ signsL) (hx:x≠[]) (hb:stopB b):s.isPrefixOf (x ++ b)=s.isPrefixOf x:=by
 have h2:∀ c,b.head?=some c→c≠45∧c≠61∧c≠62:=by
  intro c hc
  rcases hb with rfl | h | h
  ·
   cases hc
  ·
   rw [h] at hc;cases hc;exact ⟨by decide,by decide,by decide⟩
  ·
   rw [h] at hc;cases hc;exact ⟨by decide,by decide,by decide⟩
 cases x with
 | nil=>exact absurd rfl hx
 | cons a r =>
  cases r with
  | cons c q =>
   simp only [signsL,List.mem_cons,List.not_mem_nil,or_false] at hs
   rcases hs with rfl | rfl | rfl | rfl | rfl | rfl | rfl | rfl | rfl | rfl | rfl | rfl | rfl | rfl | rfl | rfl <;> simp [List.isPrefixOf]
  | nil =>
   cases b with
   | nil=>rfl
   | cons c q =>
    have h3:=h2 c rfl
    simp only [signsL,List.mem_cons,List.not_mem_nil,or_false] at hs
    rcases hs with rfl | rfl | rfl | rfl | rfl | rfl | rfl | rfl | rfl | rfl | rfl | rfl | rfl | rfl | rfl | rfl <;> simp [List.isPrefixOf] <;> (first | (intro _ e;exact absurd e.symm h3.1) | (intro _ e;exact absurd e.symm h3.2.1) | (intro _ e;exact absurd e.symm h3.2.2) | skip)
theorem find_congr {α:Type} {p q:α→Bool}:∀ {l:List α},(∀ x ∈ l,p x=q x)→l.find? p=l.find? q
 | [],_=>rfl
 | a :: r,h=>by
  rw [List.find?_cons,List.find?_cons,h a (by simp),find_congr fun x hx=>h x (by simp [hx])]
theorem tokF_stop {x b:Bs} (hx:x≠[]) (hb:stopB b):tokF (x ++ b)=tokF x:=by
 unfold tokF
 rw [head_append hx,head_append hx,takeWhile_stop fun c hc=>(stop_head hb c hc).1,takeWhile_stop fun c hc=>(stop_head hb c hc).2,find_congr fun s hs=>prefix_stop hs hx hb]
theorem tokF_prefix {l:Bs} {k:Int} {t:Bs} {n:Nat} (h:tokF l=some (k,t,n)):t <+: l:=by
 unfold tokF at h
 split at h
 ·
  split at h
  ·
   simp only [Option.some.injEq,Prod.mk.injEq] at h
   rw [←h.2.1];exact List.takeWhile_prefix _
  ·
   cases h
 ·
  split at h
  ·
   cases hk:wordK (l.takeWhile ptB) with
   | none=>rw [hk] at h;cases h
   | some q =>
    rw [hk] at h
    simp only [Option.map_some,Option.some.injEq,Prod.mk.injEq] at h
    rw [←h.2.1];exact List.takeWhile_prefix _
  ·
   cases hf:signsL.find? fun s=>s.isPrefixOf l with
   | none=>rw [hf] at h;cases h
   | some s =>
    rw [hf] at h
    simp only [Option.map_some,Option.some.injEq,Prod.mk.injEq] at h
    rw [←h.2.1]
    have:=List.find?_some hf
    exact List.isPrefixOf_iff_prefix.1 this
theorem headB_prefix {p:UInt8→Bool} {t l:Bs} (ht:t≠[]) (h:t <+: l):headB p t=headB p l:=by
 obtain ⟨r,rfl⟩:=h
 rw [head_append ht]
theorem takeWhile_self (p:UInt8→Bool) (l:Bs):(l.takeWhile p).takeWhile p=l.takeWhile p:=by
 induction l with
 | nil=>rfl
 | cons a r ih =>
  simp only [List.takeWhile_cons]
  split
  ·
   simp only [List.takeWhile_cons]
   rw [if_pos ‹_›,ih]
  ·
   rfl
theorem sign_self {l s:Bs} (h:signsL.find? (fun s=>s.isPrefixOf l)=some s):signsL.find? (fun u=>u.isPrefixOf s)=some s:=by
 have hs:=List.mem_of_find?_eq_some h
 simp only [signsL,List.mem_cons,List.not_mem_nil,or_false] at hs
 rcases hs with rfl | rfl | rfl | rfl | rfl | rfl | rfl | rfl | rfl | rfl | rfl | rfl | rfl | rfl | rfl | rfl <;> rfl
theorem tokF_self {l:Bs} {k:Int} {t:Bs} {n:Nat} (h:tokF l=some (k,t,n)):tokF t=some (k,t,n):=by
 have hp:=tokF_prefix h
 have hn:=tokF_ne h
 unfold tokF at h ⊢
 rw [headB_prefix hn hp,headB_prefix hn hp]
 split at h
 ·
  rw [if_pos ‹_›]
  split at h
  ·
   simp only [Option.some.injEq,Prod.mk.injEq] at h
   obtain ⟨rfl,rfl,rfl⟩:=h
   rw [takeWhile_self,if_pos ‹_›]
  ·
   cases h
 ·
  rw [if_neg ‹_›]
  split at h
  ·
   rw [if_pos ‹_›]
   cases hk:wordK (l.takeWhile ptB) with
   | none=>rw [hk] at h;cases h
   | some q =>
    rw [hk] at h
    simp only [Option.map_some,Option.some.injEq,Prod.mk.injEq] at h
    obtain ⟨rfl,rfl,rfl⟩:=h
    rw [takeWhile_self,hk];rfl
  ·
   rw [if_neg ‹_›]
   cases hf:signsL.find? fun s=>s.isPrefixOf l with
   | none=>rw [hf] at h;cases h
   | some s =>
    rw [hf] at h
    simp only [Option.map_some,Option.some.injEq,Prod.mk.injEq] at h
    obtain ⟨rfl,rfl,rfl⟩:=h
    rw [sign_self hf];rfl
theorem tokAt_tok {l:Bs} {k:Int} {t:Bs} {n:Nat} (hl:tokAt l) (h:tokF l=some (k,t,n)) {b:Bs} (hb:stopB b):tokAt (t ++ b):=by
 have hp:=tokF_prefix h
 have hn:=tokF_ne h
 obtain ⟨h0,h1,h2,h3⟩:=hl
 obtain ⟨r,rfl⟩:=hp
 cases t with
 | nil=>exact absurd rfl hn
 | cons a q =>
  refine ⟨by simp,by simpa using h1,by simpa using h2,?_⟩
  cases q with
  | cons c u=>unfold comB at h3 ⊢;simpa using h3
  | nil =>
   cases b with
   | nil=>unfold comB;simp
   | cons c u =>
    have:c≠45:=by
     rcases hb with h | h | h
     ·
      cases h
     ·
      simp at h;subst h;decide
     ·
      simp at h;subst h;decide
    unfold comB
    simp [this]
theorem at_cases (l:Bs):l=[]∨(∃ r,l=10 :: r)∨(∃ r,l=32 :: r)∨comB l=true∨tokAt l:=by
 cases l with
 | nil=>exact .inl rfl
 | cons b r =>
  by_cases h1:b=10
  ·
   exact .inr (.inl ⟨r,by rw [h1]⟩)
  ·
   by_cases h2:b=32
   ·
    exact .inr (.inr (.inl ⟨r,by rw [h2]⟩))
   ·
    cases h3:comB (b :: r) with
    | true=>exact .inr (.inr (.inr (.inl rfl)))
    | false=>exact .inr (.inr (.inr (.inr ⟨by simp,by simpa using h1,by simpa using h2,h3⟩)))
theorem com_lt {l:Bs} (h:comB l=true):(l.dropWhile (· != 10)).length < l.length:=by
 cases l with
 | nil=>simp [comB] at h
 | cons b r =>
  have h2:=(comB_cons b r).1 h
  rw [List.dropWhile_cons,if_pos (by rw [h2.1];decide)]
  have:=dropWhile_le (· != 10) r
  simp only [List.length_cons];omega
theorem tok_lt {l:Bs} {k:Int} {t:Bs} {n:Nat} (hl:tokAt l) (h:tokF l=some (k,t,n)):(l.drop t.length).length < l.length:=drop_lt hl.1 (tokF_ne h)
theorem pre_pre (a b:List Tk) (r:Res):Res.pre a (Res.pre b r)=Res.pre (a ++ b) r:=by
 cases r <;> simp [Res.pre]
def nls (l:Bs):Nat:=l.count 10
theorem takeWhile_no {l:Bs} {p:UInt8→Bool} (h:p 10=false):(10:UInt8) ∉ l.takeWhile p:=by
 induction l with
 | nil=>simp
 | cons b r ih =>
  rw [List.takeWhile_cons]
  split
  ·
   intro hm
   rcases List.mem_cons.1 hm with e | hm
   ·
    subst e;rename_i h2;rw [h] at h2;cases h2
   ·
    exact ih hm
  ·
   simp
theorem tokF_no {l:Bs} {k:Int} {t:Bs} {n:Nat} (h:tokF l=some (k,t,n)):(10:UInt8) ∉ t:=by
 unfold tokF at h
 split at h
 ·
  split at h
  ·
   simp only [Option.some.injEq,Prod.mk.injEq] at h
   rw [←h.2.1];exact takeWhile_no (by decide)
  ·
   cases h
 ·
  split at h
  ·
   cases hk:wordK (l.takeWhile ptB) with
   | none=>rw [hk] at h;cases h
   | some q =>
    rw [hk] at h
    simp only [Option.map_some,Option.some.injEq,Prod.mk.injEq] at h
    rw [←h.2.1];exact takeWhile_no (by decide)
  ·
   cases hf:signsL.find? fun s=>s.isPrefixOf l with
   | none=>rw [hf] at h;cases h
   | some s =>
    rw [hf] at h
    simp only [Option.map_some,Option.some.injEq,Prod.mk.injEq] at h
    rw [←h.2.1]
    exact (by decide:∀ s ∈ signsL,(10:UInt8) ∉ s) s (List.mem_of_find?_eq_some hf)
theorem nls_drop {l t:Bs} (h:t <+: l) (hn:(10:UInt8) ∉ t):nls (l.drop t.length)=nls l:=by
 obtain ⟨r,rfl⟩:=h
 unfold nls
 rw [List.drop_left,List.count_append,List.count_eq_zero.2 hn,Nat.zero_add]
theorem nls_com (l:Bs):nls (l.dropWhile (· != 10))=nls l:=by
 induction l with
 | nil=>rfl
 | cons b r ih =>
  rw [List.dropWhile_cons]
  split
  ·
   rw [ih]
   unfold nls
   rw [List.count_cons_of_ne (by rename_i h;simpa using h)]
  ·
   rfl
theorem com_append {a b:Bs} (h:comB a=true):comB (a ++ b)=true:=by
 cases a with
 | nil=>simp [comB] at h
 | cons x r =>
  cases r with
  | nil=>simp [comB] at h
  | cons y q=>unfold comB at h ⊢;simpa using h
theorem dropWhile_nl (a b:Bs):(a ++ 10 :: b).dropWhile (· != 10)=a.dropWhile (· != 10) ++ 10 :: b:=by
 induction a with
 | nil=>simp
 | cons x r ih =>
  rw [List.cons_append,List.dropWhile_cons,List.dropWhile_cons]
  split
  ·
   exact ih
  ·
   rfl
theorem tokAt_append {a:Bs} (b:Bs) (h:tokAt a):tokAt (a ++ 10 :: b):=by
 obtain ⟨h0,h1,h2,h3⟩:=h
 cases a with
 | nil=>exact absurd rfl h0
 | cons x r =>
  refine ⟨by simp,by simpa using h1,by simpa using h2,?_⟩
  cases r with
  | nil=>unfold comB;simp
  | cons y q=>unfold comB at h3 ⊢;simpa using h3
theorem lexF_join (b:Bs):∀ (m:Nat) (a:Bs) (line col:Int) (cnt:Nat),a.length≤m→lexF line col cnt (a ++ 10 :: b)=match lexF line col cnt a with
  | .bad x y=>.bad x y
  | .ok ts=>Res.pre ts (lexF (line + nls a + 1) 1 (cnt + ts.length) b):=by
 have empty:∀ (line col:Int) (cnt:Nat),lexF line col cnt ([] ++ 10 :: b)=match lexF line col cnt [] with
  | .bad x y=>.bad x y
  | .ok ts=>Res.pre ts (lexF (line + nls [] + 1) 1 (cnt + ts.length) b):=by
  intro line col cnt
  rw [lexF_nil,List.nil_append,lexF_nl]
  simp only [nls,List.count_nil,List.length_nil,Nat.add_zero]
  rw [show line + ((0:Nat):Int) + 1=line + 1 by omega]
  cases lexF (line + 1) 1 cnt b <;> rfl
 intro m
 induction m with
 | zero =>
  intro a line col cnt h
  have:a=[]:=List.length_eq_zero_iff.1 (by omega)
  subst this
  exact empty line col cnt
 | succ m ih =>
  intro a line col cnt h
  rcases at_cases a with rfl | ⟨r,rfl⟩ | ⟨r,rfl⟩ | hc | ht
  ·
   exact empty line col cnt
  ·
   rw [List.cons_append,lexF_nl,lexF_nl,ih r _ _ _ (by simp at h;omega)]
   have:nls (10 :: r)=nls r + 1:=by unfold nls;simp
   rw [this,show line + 1 + (nls r:Int) + 1=line + ((nls r + 1:Nat):Int) + 1 by omega]
  ·
   rw [List.cons_append,lexF_sp,lexF_sp,ih r _ _ _ (by simp at h;omega)]
   have:nls (32 :: r)=nls r:=by unfold nls;simp
   rw [this]
  ·
   rw [lexF_com _ _ _ (com_append hc),lexF_com _ _ _ hc,dropWhile_nl,ih _ _ _ _ (by have:=com_lt hc;omega),nls_com]
  ·
   rw [lexF_tok _ _ _ (tokAt_append b ht),lexF_tok _ _ _ ht,tokF_stop ht.1 (.inr (.inl rfl))]
   cases hf:tokF a with
   | none=>rfl
   | some p =>
    obtain ⟨k,t,n⟩:=p
    simp only
    split
    ·
     rfl
    ·
     have hp:=tokF_prefix hf
     have hl:t.length≤a.length:=hp.length_le
     rw [List.drop_append_of_le_length hl,ih _ _ _ _ (by have:=tok_lt ht hf;omega),nls_drop hp (tokF_no hf)]
     cases lexF line (col + t.length) (cnt + 1) (a.drop t.length) with
     | bad x y=>rfl
     | ok ts =>
      simp only [Res.pre,List.singleton_append]
      rw [show cnt + 1 + ts.length=cnt + (⟨k,t,(n:Int),line,col⟩ :: ts:List Tk).length by simp;omega]
      cases lexF (line + nls a + 1) 1 (cnt + (⟨k,t,(n:Int),line,col⟩ :: ts:List Tk).length) b <;> simp
end Go.Proofs.YtinjocchommbdaaGreatDoor

namespace Go.Proofs.YtinjocchommbdaaGreatDoor
theorem lexF_len:∀ (m:Nat) (l:Bs) (line col:Int) (cnt:Nat) (ms:List Tk),l.length≤m→cnt≤2000→lexF line col cnt l=.ok ms→cnt + ms.length≤2000:=by
 intro m
 induction m with
 | zero =>
  intro l line col cnt ms h hc he
  have:l=[]:=List.length_eq_zero_iff.1 (by omega)
  subst this
  rw [lexF_nil] at he;cases he;simpa using hc
 | succ m ih =>
  intro l line col cnt ms h hc he
  rcases at_cases l with rfl | ⟨r,rfl⟩ | ⟨r,rfl⟩ | hcm | ht
  ·
   rw [lexF_nil] at he;cases he;simpa using hc
  ·
   rw [lexF_nl] at he;exact ih r _ _ _ _ (by simp at h;omega) hc he
  ·
   rw [lexF_sp] at he;exact ih r _ _ _ _ (by simp at h;omega) hc he
  ·
   rw [lexF_com _ _ _ hcm] at he;exact ih _ _ _ _ _ (by have:=com_lt hcm;omega) hc he
  ·
   rw [lexF_tok _ _ _ ht] at he
   cases hf:tokF l with
   | none=>rw [hf] at he;cases he
   | some p =>
    obtain ⟨k,t,n⟩:=p
    rw [hf] at he
    simp only at he
    split at he
    ·
     cases he
    ·
     cases hr:lexF line (col + t.length) (cnt + 1) (l.drop t.length) with
     | bad x y=>rw [hr] at he;cases he
     | ok ts =>
      rw [hr] at he
      simp only [Res.pre,Res.ok.injEq] at he
      have:=ih _ _ _ _ _ (by have:=tok_lt ht hf;omega) (by omega) hr
      rw [←he];simp;omega
def Gd (k:Int) (t:Bs) (n:Int):Prop:=∃ m:Nat,tokF t=some (k,t,m)∧n=m∧tokAt t
theorem lexF_gd:∀ (m:Nat) (l:Bs) (line col:Int) (cnt:Nat) (ms:List Tk),l.length≤m→lexF line col cnt l=.ok ms→∀ t ∈ ms,Gd t.kind t.text t.num:=by
 intro m
 induction m with
 | zero =>
  intro l line col cnt ms h he
  have:l=[]:=List.length_eq_zero_iff.1 (by omega)
  subst this
  rw [lexF_nil] at he;cases he;intro t ht;cases ht
 | succ m ih =>
  intro l line col cnt ms h he
  rcases at_cases l with rfl | ⟨r,rfl⟩ | ⟨r,rfl⟩ | hcm | ht
  ·
   rw [lexF_nil] at he;cases he;intro t ht;cases ht
  ·
   rw [lexF_nl] at he;exact ih r _ _ _ _ (by simp at h;omega) he
  ·
   rw [lexF_sp] at he;exact ih r _ _ _ _ (by simp at h;omega) he
  ·
   rw [lexF_com _ _ _ hcm] at he;exact ih _ _ _ _ _ (by have:=com_lt hcm;omega) he
  ·
   rw [lexF_tok _ _ _ ht] at he
   cases hf:tokF l with
   | none=>rw [hf] at he;cases he
   | some p =>
    obtain ⟨k,t,n⟩:=p
    rw [hf] at he
    simp only at he
    split at he
    ·
     cases he
    ·
     cases hr:lexF line (col + t.length) (cnt + 1) (l.drop t.length) with
     | bad x y=>rw [hr] at he;cases he
     | ok ts =>
      rw [hr] at he
      simp only [Res.pre,Res.ok.injEq] at he
      rw [←he]
      intro u hu
      rcases List.mem_cons.1 hu with rfl | hu
      ·
       refine ⟨n,tokF_self hf,rfl,?_⟩
       have:=tokAt_tok ht hf (b:=[]) (.inl rfl)
       rwa [List.append_nil] at this
      ·
       exact ih _ _ _ _ _ (by have:=tok_lt ht hf;omega) hr u hu
def joinL:List Bs→Bs
 | []=>[]
 | [a]=>a
 | a :: b :: r=>a ++ 32 :: joinL (b :: r)
end Go.Proofs.YtinjocchommbdaaGreatDoor

namespace Go.Proofs.YtinjocchommbdaaGreatDoor
def lexN:Nat→Int→Int→Nat→Bs→Res
 | 0,_,_,_,_=>.ok []
 | _ + 1,_,_,_,[]=>.ok []
 | f + 1,line,col,cnt,b :: r =>
  if b=10 then lexN f (line + 1) 1 cnt r
  else if b=32 then lexN f line (col + 1) cnt r
  else if comB (b :: r)=true then lexN f line col cnt ((b :: r).dropWhile (· != 10))
  else match tokF (b :: r) with
   | none=>.bad line col
   | some (k,t,n)=>if 2000≤cnt then .bad line col else Res.pre [⟨k,t,n,line,col⟩] (lexN f line (col + t.length) (cnt + 1) ((b :: r).drop t.length))
theorem lexN_eq:∀ (f:Nat) (l:Bs) (line col:Int) (cnt:Nat),l.length≤f→lexN f line col cnt l=lexF line col cnt l
 | 0,l,line,col,cnt,h=>by
  have:l=[]:=List.length_eq_zero_iff.1 (by omega)
  subst this
  rw [lexF_nil];rfl
 | f + 1,[],line,col,cnt,h=>by rw [lexF_nil];rfl
 | f + 1,b :: r,line,col,cnt,h=>by
  rw [lexN]
  by_cases h1:b=10
  ·
   rw [if_pos h1,h1,lexF_nl];exact lexN_eq f r _ _ _ (by simp at h;omega)
  ·
   rw [if_neg h1]
   by_cases h2:b=32
   ·
    rw [if_pos h2,h2,lexF_sp];exact lexN_eq f r _ _ _ (by simp at h;omega)
   ·
    rw [if_neg h2]
    cases h3:comB (b :: r) with
    | true =>
     rw [if_pos rfl,lexF_com _ _ _ h3]
     exact lexN_eq f _ _ _ _ (by have:=com_lt h3;omega)
    | false =>
     have ht:tokAt (b :: r):=⟨by simp,by simpa using h1,by simpa using h2,h3⟩
     rw [if_neg (by simp),lexF_tok _ _ _ ht]
     cases hf:tokF (b :: r) with
     | none=>rfl
     | some p =>
      obtain ⟨k,t,n⟩:=p
      simp only
      split
      ·
       rfl
      ·
       rw [lexN_eq f _ _ _ _ (by have:=tok_lt ht hf;omega)]
end Go.Proofs.YtinjocchommbdaaGreatDoor

namespace Go.Proofs.YtinjocchommbdaaGreatDoor
def pOpen:Bs:=[40]
def pShut:Bs:=[41]
def bOpen:Bs:=[123]
def bShut:Bs:=[125]
def semiT:Bs:=[59]
def blockW:List Bs:=[[111,102],[100,111],[100,111,115]]
def keyT (t:Tk) (s:Bs):Bool:=decide (t.kind=4) && decide (t.text=s)
def blockT (t:Tk):Bool:=decide (t.kind=4) && blockW.contains t.text
def mkT (s:Bs) (t:Tk):Tk:=⟨4,s,0,t.line,t.col⟩
def shutW (p:Int→Bool):List Int→Nat × List Int
 | []=>(0,[])
 | c :: r=>if 0 < c∧p c=true then ((shutW p r).1 + 1,(shutW p r).2) else (0,c :: r)
def colS:List Int→Int
 | []=>0
 | c :: r=>if 0 < c then c else colS r
def lineS (t:Tk) (st:List Int):List Tk × List Int :=
 (List.replicate (shutW (fun c=>decide (t.col < c)) st).1 (mkT bShut t) ++ (if (shutW (fun c=>decide (t.col < c)) st).2.head?=some t.col∧0 < t.col then [mkT semiT t] else []),(shutW (fun c=>decide (t.col < c)) st).2)
def fitS (t:Tk) (st:List Int):Option (List Tk × List Int) :=
 if keyT t pShut=true then match (shutW (fun _=>true) st).2 with
  | []=>none
  | c :: r=>if c=-1 then some (List.replicate (shutW (fun _=>true) st).1 (mkT bShut t),r) else none
 else if keyT t bShut=true then match st with
  | []=>none
  | c :: r=>if c=0 then some ([],r) else none
 else some ([],st)
def behS (t:Tk) (next:Option Tk) (st:List Int):List Tk × List Int × Bool :=
 if keyT t pOpen=true then ([],-1 :: st,false)
 else if keyT t bOpen=true then ([],0 :: st,false)
 else if blockT t=true then match next with
  | some u=>if keyT u bOpen=true then ([],st,false) else if colS st < u.col then ([mkT bOpen u],u.col :: st,true) else ([mkT bOpen t,mkT bShut t],st,false)
  | none=>([mkT bOpen t,mkT bShut t],st,false)
 else ([],st,false)
def aheadS (prev:Option Tk) (fresh:Bool) (t:Tk) (st:List Int):List Tk × List Int :=
 match prev with
 | none=>if keyT t bOpen=true then ([],st) else ([mkT bOpen t],max t.col 1 :: st)
 | some p=>if fresh=false∧p.line < t.line then lineS t st else ([],st)
def endS (prev:Option Tk) (st:List Int):Res :=
 match prev with
 | none=>.ok []
 | some e=>if (shutW (fun _=>true) st).2=[] then .ok (List.replicate (shutW (fun _=>true) st).1 (mkT bShut e)) else .bad e.line e.col
def layS:Option Tk→Bool→List Int→List Tk→Res
 | prev,_,st,[]=>endS prev st
 | prev,fresh,st,t :: r =>
  match fitS t (aheadS prev fresh t st).2 with
  | none=>.bad t.line t.col
  | some (o2,s2)=>Res.pre ((aheadS prev fresh t st).1 ++ (o2 ++ (t :: (behS t r.head? s2).1))) (layS (some t) (behS t r.head? s2).2.2 (behS t r.head? s2).2.1 r)
def layF (l:List Tk):Res:=layS none true [] l
theorem pre_ok {a:List Tk} {r:Res} {m:List Tk} (h:Res.pre a r=.ok m):∃ q,r=.ok q∧m=a ++ q:=by
 cases r with
 | bad x y=>cases h
 | ok q=>simp only [Res.pre,Res.ok.injEq] at h;exact ⟨q,rfl,h.symm⟩
theorem layS_cons {prev:Option Tk} {fresh:Bool} {st:List Int} {t:Tk} {r m:List Tk} (h:layS prev fresh st (t :: r)=.ok m) :
  ∃ o2 s2 q,fitS t (aheadS prev fresh t st).2=some (o2,s2)∧layS (some t) (behS t r.head? s2).2.2 (behS t r.head? s2).2.1 r=.ok q∧m=(aheadS prev fresh t st).1 ++ (o2 ++ (t :: (behS t r.head? s2).1)) ++ q:=by
 rw [layS] at h
 cases hf:fitS t (aheadS prev fresh t st).2 with
 | none=>rw [hf] at h;cases h
 | some p =>
  obtain ⟨o2,s2⟩:=p
  rw [hf] at h
  obtain ⟨q,h1,h2⟩:=pre_ok h
  exact ⟨o2,s2,q,rfl,h1,h2⟩
theorem keyT_ne {t:Tk} {s u:Bs} (h:keyT t s=true) (hne:s≠u):keyT t u=false:=by
 unfold keyT at h ⊢
 simp at h ⊢
 intro _ e
 rw [h.2] at e
 exact hne e
end Go.Proofs.YtinjocchommbdaaGreatDoor

namespace Go.Proofs.YtinjocchommbdaaGreatDoor
def sumL (ms:List Tk):Nat:=(ms.map fun t=>t.text.length).sum
theorem lexF_bd:∀ (m:Nat) (l:Bs) (line col:Int) (cnt:Nat) (ms:List Tk),l.length≤m→1≤col→lexF line col cnt l=.ok ms →
  sumL ms≤l.length∧∀ t ∈ ms,line≤t.line∧t.line≤line + l.length∧1≤t.col∧t.col + t.text.length≤col + l.length∧1≤t.text.length:=by
 intro m
 induction m with
 | zero =>
  intro l line col cnt ms h hcol he
  have:l=[]:=List.length_eq_zero_iff.1 (by omega)
  subst this
  rw [lexF_nil] at he;cases he
  exact ⟨by simp [sumL],fun t ht=>by cases ht⟩
 | succ m ih =>
  intro l line col cnt ms h hcol he
  rcases at_cases l with rfl | ⟨r,rfl⟩ | ⟨r,rfl⟩ | hcm | ht
  ·
   rw [lexF_nil] at he;cases he
   exact ⟨by simp [sumL],fun t ht=>by cases ht⟩
  ·
   rw [lexF_nl] at he
   obtain ⟨h1,h2⟩:=ih r _ _ _ _ (by simp at h;omega) (by omega) he
   refine ⟨by simp only [List.length_cons];omega,fun t ht=>?_⟩
   have:=h2 t ht
   simp only [List.length_cons]
   omega
  ·
   rw [lexF_sp] at he
   obtain ⟨h1,h2⟩:=ih r _ _ _ _ (by simp at h;omega) (by omega) he
   refine ⟨by simp only [List.length_cons];omega,fun t ht=>?_⟩
   have:=h2 t ht
   simp only [List.length_cons]
   omega
  ·
   rw [lexF_com _ _ _ hcm] at he
   have hl:=com_lt hcm
   obtain ⟨h1,h2⟩:=ih _ _ _ _ _ (by omega) hcol he
   refine ⟨by omega,fun t ht=>?_⟩
   have:=h2 t ht
   omega
  ·
   rw [lexF_tok _ _ _ ht] at he
   cases hf:tokF l with
   | none=>rw [hf] at he;cases he
   | some p =>
    obtain ⟨k,t,n⟩:=p
    rw [hf] at he
    simp only at he
    have hp:=(tokF_prefix hf).length_le
    have hn:=List.length_pos_iff.2 (tokF_ne hf)
    split at he
    ·
     cases he
    ·
     cases hr:lexF line (col + t.length) (cnt + 1) (l.drop t.length) with
     | bad x y=>rw [hr] at he;cases he
     | ok ts =>
      rw [hr] at he
      simp only [Res.pre,Res.ok.injEq] at he
      have hd:(l.drop t.length).length=l.length - t.length:=List.length_drop
      obtain ⟨h1,h2⟩:=ih _ _ _ _ _ (by omega) (by omega) hr
      rw [←he]
      refine ⟨?_,fun u hu=>?_⟩
      ·
       simp only [sumL,List.singleton_append,List.map_cons,List.sum_cons] at h1 ⊢
       omega
      ·
       rcases List.mem_cons.1 hu with rfl | hu
       ·
        simp only;omega
       ·
        have:=h2 u hu
        omega
end Go.Proofs.YtinjocchommbdaaGreatDoor
