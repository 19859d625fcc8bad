/- A part of the proof that parser laws hold: texts of the walk and of its plain laws, made small. -/
import Derived.Test.YtinjocchommbdaaGreatDoorM06
import Derived.Test.YtinjocchommbdaaGreatDoorM05
import Derived.Test.YtinjocchommbdaaGreatDoorM00
import Derived.Test.YtinjocchommbdaaGreatDoorProg
set_option linter.unusedVariables false
set_option linter.unusedSimpArgs false
namespace Go.Proofs.YtinjocchommbdaaGreatDoor
section
variable {l l':List Tk} {k:Nat} {fl:Prop} (P:Pre6 l l' k fl)
include P
theorem Pre6.sig_end (hf:fl) {g:Nat} {r:Rs} (hg:8≤g):End6 k (pS l' g r k):=by
 have hl:=P.fin hf
 obtain ⟨x,hx,hs⟩:=pS_total l' g r k (by omega) (by rw [hl];cases r <;> simp only [lvS] <;> omega)
 cases x with
 | error e=>exact .inl (by rw [hx];have h1:k≤e:=hs.1;have h2:e≤l'.length:=hs.2;rw [show e=k by omega])
 | ok p =>
  obtain ⟨a,b⟩:=p
  exact .inr ⟨a,by rw [hx];have h1:k + minS r≤b:=hs.1;have h2:b≤l'.length:=hs.2;rw [show b=k by omega]⟩
theorem cut_nms {α:Type} {i:Nat} {fl':Prop} {s:Bs} {f g:List Str→Nat→Ans6 α} (hi:i + 1≤l.length) (hf:fl'→fl) (hk:i < k) (q:∀ ns j,i + 1 < j→j≤l.length→Cut j k l.length (fl'∧j≤k) (f ns j) (g ns j)) :
  Cut (i + 2) k l.length fl' (sgn6 l (i + 1 + (nms l (i + 1)).length) s (f (nms l (i + 1)))) (sgn6 l' (i + 1 + (nms l' (i + 1)).length) s (g (nms l' (i + 1)))):=by
 obtain ⟨n1,n2⟩:=P.nms k (i + 1) (by omega) (by omega)
 by_cases hlt:i + 1 + (nms l (i + 1)).length < k
 ·
  rw [n1 hlt]
  exact P.sgnF (by omega) hf (fun _=>by omega) fun h=>(q _ _ (by omega) (by omega)).from (Nat.le_refl _) fun z=>⟨z.1,by omega⟩
 ·
  intro es j hx
  have key:i + 1 + (nms l (i + 1)).length + 1≤j∧j≤l.length:=by
   unfold sgn6 at hx
   split at hx
   ·
    have hb:=isAt_lt ‹_›
    obtain ⟨g1,g2,_⟩:=q _ _ (by omega) (by omega) es j hx
    exact ⟨g1,g2⟩
   ·
    simp [err6] at hx
  refine ⟨by omega,key.2,fun hj=>by omega,fun _ hfl=>?_⟩
  rw [n2 (by omega) (hf hfl)]
  exact P.sgn_end (hf hfl)
end
theorem pS_cut {l l':List Tk} {k:Nat} {fl:Prop} (P:Pre6 l l' k fl):∀ (f:Nat) (r:Rs) (i g:Nat),i≤l.length→f + 24≤g→Cut (i + minS r) k l.length (fl∧i≤k) (pS l f r i) (pS l' g r i)
 | 0,_,_,_,_,_=>fun _ _ h=>(by cases h)
 | f + 1,r,i,0,_,hg=>by omega
 | f + 1,r,i,g + 1,hi,hg=>by
  have ih:=fun r i h2=>pS_cut P f r i g h2 (by omega)
  suffices hmain:Cut (i + minS r) k l.length (fl∧i < k) (stepS l (pS l f) r i) (stepS l' (pS l' g) r i) by
   intro es j hx
   obtain ⟨h1,h2,h3,h4⟩:=hmain es j hx
   refine ⟨h1,h2,h3,fun a b=>?_⟩
   by_cases hik:i < k
   ·
    exact h4 a ⟨b.1,hik⟩
   ·
    have e:i=k:=by have:=b.2;omega
    subst e
    exact P.sig_end b.1 (by omega)
  have re:∀ {r:Rs},fl→End6 k (pS l' g r k):=fun hf=>P.sig_end hf (by omega)
  have te:∀ {α:Type} {i':Nat} {c c':Prop} [Decidable c] [Decidable c'] {a b a' b':Ans6 α},i≤i'→(i < k→(c'↔c))→(c→Cut i' k l.length (fl∧i < k) a a')→(¬ c→Cut i' k l.length (fl∧i < k) b b')→Cut i' k l.length (fl∧i < k) (if c then a else b) (if c' then a' else b'):=fun hp hc h q =>
   .ite hp hc (fun x=>(h x).from (Nat.le_refl _) fun z=>z.1) (fun x=>(q x).from (Nat.le_refl _) fun z=>z.1) (fun z=>by have:=z.2;omega) fun z e=>by have:=z.2;omega
  cases r with
  | atom =>
   simp only [stepS,minS]
   refine te (by omega) (fun h=>by rw [P.kind h]) (fun h=>.ok (Nat.le_refl _) (by rcases h with h | h <;> exact kindAt_lt h (by decide)) (fun hj=>by rw [P.text (by omega)]) fun h1 h2=>by omega) fun _=>?_
   exact P.sgn (fun z=>z.1) (fun z=>by have:=z.2;omega) fun h=>((ih .sig (i + 1) (by omega)).from (by simp only [minS];omega) fun z=>⟨z.1.1,by omega⟩).bnd (fun e m h1 h2=>P.sgnF (by omega) (fun z=>z.1.1.1) (fun z=>by have:=z.2;omega) fun h3=>.ok (Nat.le_refl _) (by omega) (fun _=>rfl) fun a b=>by have:=b.2;omega) fun x hf=>P.sgn_end hf.1.1
  | atoms =>
   simp only [stepS,minS,Nat.add_zero]
   refine te (Nat.le_refl _) (fun h=>by rw [P.sgBegins h]) (fun h=>?_) fun _=>.ok (Nat.le_refl _) hi (fun _=>rfl) fun a b=>by have:=b.2;omega
   exact ((ih .atom i hi).from (by omega) fun z=>⟨z.1,by omega⟩).bnd (fun x j h1 h2=>((ih .atoms j h2).from (by omega) fun z=>⟨z.1.1,by omega⟩).bnd (fun y m g1 g2=>.ok (Nat.le_refl _) g2 (fun _=>rfl) fun a b=>by have:=b.2;omega) fun x hf=>.ok) fun x hf=>(re hf.1).bnd fun _=>.ok
  | sig =>
   simp only [stepS,minS]
   have h0:Cut (i + 1) k l.length (fl∧i < k) (if kindAt l i=3 then (pS l f .atoms (i + 1)).bnd fun r j=>ok6 [Sg.mk (textAt l i) r] j else pS l f .atom i) (if kindAt l' i=3 then (pS l' g .atoms (i + 1)).bnd fun r j=>ok6 [Sg.mk (textAt l' i) r] j else pS l' g .atom i):=by
    refine te (by omega) (fun h=>by rw [P.kind h]) (fun h=>?_) fun _=>(ih .atom i hi).from (Nat.le_refl _) fun z=>⟨z.1,by omega⟩
    have hb:=kindAt_lt h (by decide)
    exact ((ih .atoms (i + 1) (by omega)).from (by omega) fun z=>⟨z.1,by omega⟩).bnd (fun x j h1 h2=>.ok (Nat.le_refl _) h2 (fun hj=>by rw [P.text (by omega)]) fun a b=>by have:=b.2;omega) fun x hf=>.ok
   refine h0.bnd (fun s j h1 h2=>?_) fun x hf=>by rw [if_neg (by rw [P.out hf.1];simp)];exact .ok
   refine .ite (p:=j) (Nat.le_refl _) (fun h=>by rw [P.is h]) (fun h=>?_) (fun _=>.ok (Nat.le_refl _) h2 (fun _=>rfl) fun a b=>by have:=b.2;omega) (fun z=>by have:=z.2;omega) fun z e=>by have:=z.2;omega
   have hb:=isAt_lt h
   exact ((ih .sig (j + 1) (by omega)).from (by omega) fun z=>⟨z.1.1.1,by omega⟩).bnd (fun x m g1 g2=>.ok (Nat.le_refl _) g2 (fun _=>rfl) fun a b=>by have:=b.2;omega) fun x hf=>.ok
  | forms =>
   simp only [stepS,minS]
   refine te (by omega) (fun h=>by rw [P.kind h]) (fun h=>?_) fun _=>.err
   have hb:=kindAt_lt h (by decide)
   by_cases hik:i < k
   ·
    rw [P.text hik]
    refine ((ih .atoms (i + 1) (by omega)).from (by omega) fun z=>⟨z.1,by omega⟩).bnd (fun r j h1 h2=>?_) fun x hf=>by rw [if_neg (by rw [P.out hf.1];simp)];exact .ok
    refine .ite (p:=j) (Nat.le_refl _) (fun h=>by rw [P.is h]) (fun h=>?_) (fun _=>.ok (Nat.le_refl _) h2 (fun _=>rfl) fun a b=>by have:=b.2;omega) (fun z=>by have:=z.2;omega) fun z e=>by have:=z.2;omega
    have hb:=isAt_lt h
    exact ((ih .forms (j + 1) (by omega)).from (by omega) fun z=>⟨z.1.1.1,by omega⟩).bnd (fun x m g1 g2=>.ok (Nat.le_refl _) g2 (fun _=>rfl) fun a b=>by have:=b.2;omega) fun x hf=>.ok
   ·
    intro es j hx
    have key:=(((ih .atoms (i + 1) (by omega)).from (i':=i + 1) (fl':=fl∧i + 1≤k) (by omega) fun z=>z).bnd (f:=fun r j=>if isAt l j [124]=true then (pS l f .forms (j + 1)).bnd fun fs k=>ok6 (.mk (textAt l i) r :: fs) k else ok6 [.mk (textAt l i) r] j) (g:=fun r j=>if isAt l' j [124]=true then (pS l' g .forms (j + 1)).bnd fun fs k=>ok6 (.mk (textAt l i) r :: fs) k else ok6 [.mk (textAt l i) r] j) (fun r j h1 h2=>by
     refine .ite (p:=j) (Nat.le_refl _) (fun h=>by rw [P.is h]) (fun h=>?_) (fun _=>.ok (Nat.le_refl _) h2 (fun _=>rfl) fun a b=>by have:=b.2;omega) (fun z=>by have:=z.2;omega) fun z e=>by have:=z.2;omega
     have hb:=isAt_lt h
     exact ((ih .forms (j + 1) (by omega)).from (by omega) fun z=>⟨z.1.1.1,by omega⟩).bnd (fun x m g1 g2=>.ok (Nat.le_refl _) g2 (fun _=>rfl) fun a b=>by have:=b.2;omega) fun x hf=>.ok) fun x hf=>by rw [if_neg (by rw [P.out hf.1];simp)];exact .ok) es j hx
    exact ⟨key.1,key.2.1,fun hj=>by omega,fun _ hf=>by omega⟩
theorem Pre6.self (l:List Tk):Pre6 l l (l.length + 1) False:=⟨fun _ _=>rfl,fun h=>h.elim⟩
theorem pDef_cut0 {l l':List Tk} {k:Nat} {fl:Prop} (P:Pre6 l l' k fl) {f g i:Nat} (hi:i≤l.length) (hg:f + 24≤g) (hik:i < k):Cut (i + 1) k l.length fl (pDef l f i) (pDef l' g i):=by
 unfold pDef
 rw [P.kind hik,P.text hik]
 split
 ·
  have hb:=kindAt_lt ‹kindAt l i=2› (by decide)
  refine Cut.from (i:=i + 2) (fl:=fl) (cut_nms P (f:=fun ns j=>(pR l f .expr j).bnd fun e k=>ok6 (⟨textAt l i,wrapL ns (headE e)⟩:Df) k) (g:=fun ns j=>(pR l' g .expr j).bnd fun e k=>ok6 (⟨textAt l i,wrapL ns (headE e)⟩:Df) k) (by omega) id hik fun ns j h1 h2=>?_) (by omega) id
  exact ((pR_cut P f .expr j g trivial h2 hg).from (by omega) id).bnd (fun x m g1 g2=>.ok (Nat.le_refl _) g2 (fun _=>rfl) fun a b=>by have:=b.2;omega) fun x hf=>.ok
 ·
  exact .err
theorem pData_cut0 {l l':List Tk} {k:Nat} {fl:Prop} (P:Pre6 l l' k fl) {f g i:Nat} (hi:i≤l.length) (hg:f + 24≤g) (hik:i < k):Cut (i + 1) k l.length fl (pData l f i) (pData l' g i):=by
 unfold pData
 rw [P.kind hik,P.text hik]
 split
 ·
  have hb:=kindAt_lt ‹kindAt l i=3› (by decide)
  refine Cut.from (i:=i + 2) (fl:=fl) (cut_nms P (f:=fun ns j=>(pS l f .forms j).bnd fun fs k=>ok6 (⟨textAt l i,ns,fs⟩:Dt) k) (g:=fun ns j=>(pS l' g .forms j).bnd fun fs k=>ok6 (⟨textAt l i,ns,fs⟩:Dt) k) (by omega) id hik fun ns j h1 h2=>?_) (by omega) id
  exact ((pS_cut P f .forms j g h2 hg).from (by omega) id).bnd (fun x m g1 g2=>.ok (Nat.le_refl _) g2 (fun _=>rfl) fun a b=>by have:=b.2;omega) fun x hf=>.ok
 ·
  exact .err
theorem cut_of {l l':List Tk} {k i n:Nat} {fl:Prop} {α:Type} {x y:Ans6 α} {z:Ans6 α} (hb:Cut (i + 1) (n + 1) n False x z) (h0:i < k→Cut (i + 1) k n fl x y) (he:fl→i=k→End6 k y):Cut (i + 1) k n (fl∧i≤k) x y:=by
 intro es j hx
 obtain ⟨b1,b2,_⟩:=hb es j hx
 by_cases hik:i < k
 ·
  obtain ⟨_,_,h3,h4⟩:=h0 hik es j hx
  exact ⟨b1,b2,h3,fun a b=>h4 a b.1⟩
 ·
  exact ⟨b1,b2,fun hj=>by omega,fun a b=>he b.1 (by have:=b.2;omega)⟩
theorem pDef_end {l l':List Tk} {k:Nat} {fl:Prop} (P:Pre6 l l' k fl) {g:Nat} (hf:fl):End6 k (pDef l' g k):=by
 unfold pDef
 rw [if_neg (P.out_kind hf (by decide))]
 exact .err
theorem pData_end {l l':List Tk} {k:Nat} {fl:Prop} (P:Pre6 l l' k fl) {g:Nat} (hf:fl):End6 k (pData l' g k):=by
 unfold pData
 rw [if_neg (P.out_kind hf (by decide))]
 exact .err
theorem pDef_cut {l l':List Tk} {k:Nat} {fl:Prop} (P:Pre6 l l' k fl) {f g i:Nat} (hi:i≤l.length) (hg:f + 24≤g):Cut (i + 1) k l.length (fl∧i≤k) (pDef l f i) (pDef l' g i) :=
 cut_of (l:=l) (l':=l') (pDef_cut0 (Pre6.self l) hi (Nat.le_refl (f + 24)) (by omega)) (fun h=>pDef_cut0 P hi hg h) fun hf e=>by subst e;exact pDef_end P hf
theorem pData_cut {l l':List Tk} {k:Nat} {fl:Prop} (P:Pre6 l l' k fl) {f g i:Nat} (hi:i≤l.length) (hg:f + 24≤g):Cut (i + 1) k l.length (fl∧i≤k) (pData l f i) (pData l' g i) :=
 cut_of (l:=l) (l':=l') (pData_cut0 (Pre6.self l) hi (Nat.le_refl (f + 24)) (by omega)) (fun h=>pData_cut0 P hi hg h) fun hf e=>by subst e;exact pData_end P hf
theorem pItem_cut {l l':List Tk} {k:Nat} {fl:Prop} (P:Pre6 l l' k fl) {f g i:Nat} (hi:i≤l.length) (hg:f + 24≤g):Cut (i + 1) k l.length (fl∧i≤k) (pItem l f i) (pItem l' g i):=by
 unfold pItem
 refine .ite (p:=i) (by omega) (fun h=>by rw [P.is h]) (fun h=>?_) (fun _=>?_) (fun z=>z.2) fun z e=>?_
 ·
  have hb:=isAt_lt h
  exact ((pData_cut P (i:=i + 1) (by omega) hg).from (by omega) fun z=>⟨z.1.1,by omega⟩).bnd (fun x m g1 g2=>.ok (Nat.le_refl _) g2 (fun _=>rfl) fun a b=>by have:=b.2;omega) fun x hf=>.ok
 ·
  exact ((pDef_cut P hi hg).from (by omega) fun z=>⟨z.1.1,by omega⟩).bnd (fun x m g1 g2=>.ok (Nat.le_refl _) g2 (fun _=>rfl) fun a b=>by have:=b.2;omega) fun x hf=>.ok
 ·
  subst e
  rw [if_neg (by rw [P.out z.1];simp)]
  exact (pDef_end P z.1).bnd fun _=>.ok
theorem pItem_end {l l':List Tk} {k:Nat} {fl:Prop} (P:Pre6 l l' k fl) {g:Nat} (hf:fl):pItem l' g k=some (.error k):=by
 unfold pItem
 rw [if_neg (by rw [P.out hf];simp)]
 unfold pDef
 rw [if_neg (P.out_kind hf (by decide))]
 rfl
theorem bnd_ok {α β:Type} {a:Ans6 α} {f:α→Nat→Ans6 β} {p:β} {j:Nat} (h:a.bnd f=some (.ok (p,j))):∃ x m,a=some (.ok (x,m))∧f x m=some (.ok (p,j)):=by
 cases a with
 | none=>cases h
 | some r =>
  cases r with
  | error e=>cases h
  | ok q=>exact ⟨q.1,q.2,rfl,h⟩
theorem sgn_ok {α:Type} {l:List Tk} {i:Nat} {s:Bs} {f:Nat→Ans6 α} {p:α} {j:Nat} (h:sgn6 l i s f=some (.ok (p,j))):isAt l i s=true∧f (i + 1)=some (.ok (p,j)):=by
 unfold sgn6 at h
 split at h
 ·
  exact ⟨‹_›,h⟩
 ·
  cases h
theorem pItems_shape {l:List Tk} {f:Nat}:∀ (m i:Nat) {p:Pg} {j:Nat},i≤l.length→pItems l f m i=some (.ok (p,j))→i + 2≤j∧j≤l.length
 | 0,_,_,_,_,h=>(by cases h)
 | m + 1,i,p,j,hi,h=>by
  rw [pItems] at h
  obtain ⟨x,b,hx,h⟩:=bnd_ok h
  obtain ⟨b1,b2,_⟩:=pItem_cut (Pre6.self l) hi (Nat.le_refl (f + 24)) x b hx
  split at h
  ·
   have hb:=isAt_lt ‹_›
   obtain ⟨q,c,hq,h⟩:=bnd_ok h
   have:=pItems_shape m (b + 1) (by omega) hq
   simp only [ok6,Option.some.injEq,Except.ok.injEq,Prod.mk.injEq] at h
   omega
  ·
   obtain ⟨hs,h⟩:=sgn_ok h
   have hb:=isAt_lt hs
   simp only [ok6,Option.some.injEq,Except.ok.injEq,Prod.mk.injEq] at h
   omega
theorem pItems_cut {l l':List Tk} {k:Nat} {fl:Prop} (P:Pre6 l l' k fl) {f g:Nat} (hg:f + 24≤g):∀ (m i m':Nat) {p:Pg} {j:Nat},i≤l.length→i≤k→m≤m'→pItems l f m i=some (.ok (p,j)) →
  (j≤k→pItems l' g m' i=some (.ok (p,j)))∧(k < j→fl→pItems l' g m' i=some (.error k))
 | 0,_,_,_,_,_,_,_,h=>(by cases h)
 | m + 1,i,0,_,_,_,_,hm,_=>by omega
 | m + 1,i,m' + 1,p,j,hi,hik,hm,h=>by
  rw [pItems] at h ⊢
  obtain ⟨x,b,hx,h⟩:=bnd_ok h
  obtain ⟨b1,b2,hA,hB⟩:=pItem_cut P hi hg x b hx
  have stuck:k≤b→fl→((pItem l' g i).bnd fun p j=>if isAt l' j semiT=true then (pItems l' g m' (j + 1)).bnd fun q k=>ok6 (p.add q) k else sgn6 l' j bShut fun k=>ok6 p k)=some (.error k):=fun hkb hf=>by
   rcases hB hkb ⟨hf,hik⟩ with e | ⟨y,e⟩
   ·
    rw [e];rfl
   ·
    rw [e]
    show (if isAt l' k semiT=true then _ else sgn6 l' k bShut fun k=>ok6 y k)=_
    rw [if_neg (by rw [P.out hf];simp)]
    unfold sgn6
    rw [if_neg (by rw [P.out hf];simp)]
    rfl
  by_cases hs:isAt l b semiT=true
  ·
   rw [if_pos hs] at h
   have hb:=isAt_lt hs
   obtain ⟨q,c,hq,h⟩:=bnd_ok h
   simp only [ok6,Option.some.injEq,Except.ok.injEq,Prod.mk.injEq] at h
   obtain ⟨rfl,rfl⟩:=h
   have hsh:=pItems_shape m (b + 1) (by omega) hq
   by_cases hbk:b < k
   ·
    obtain ⟨i1,i2⟩:=pItems_cut P hg m (b + 1) m' (by omega) (by omega) (by omega) hq
    have e1:((pItem l' g i).bnd fun p j=>if isAt l' j semiT=true then (pItems l' g m' (j + 1)).bnd fun q k=>ok6 (p.add q) k else sgn6 l' j bShut fun k=>ok6 p k)=(pItems l' g m' (b + 1)).bnd fun q k=>ok6 (x.add q) k:=by
     rw [hA hbk]
     show (if isAt l' b semiT=true then _ else _)=_
     rw [if_pos (by rw [P.is hbk];exact hs)]
    rw [e1]
    exact ⟨fun hj=>by rw [i1 hj];rfl,fun hj hf=>by rw [i2 hj hf];rfl⟩
   ·
    exact ⟨fun hj=>by omega,fun _ hf=>stuck (by omega) hf⟩
  ·
   rw [if_neg hs] at h
   obtain ⟨hsh,h⟩:=sgn_ok h
   simp only [ok6,Option.some.injEq,Except.ok.injEq,Prod.mk.injEq] at h
   obtain ⟨rfl,rfl⟩:=h
   refine ⟨fun hj=>?_,fun hj hf=>stuck (by omega) hf⟩
   rw [hA (by omega)]
   show (if isAt l' b semiT=true then _ else sgn6 l' b bShut fun k=>ok6 x k)=_
   rw [if_neg (by rw [P.is (by omega)];exact hs)]
   unfold sgn6
   rw [if_pos (by rw [P.is (by omega)];exact hsh)]
   rfl
theorem pProg_cut {l l':List Tk} {k:Nat} {fl:Prop} (P:Pre6 l l' k fl) {f g:Nat} (hg:f + 24≤g) {p:Pg} {j:Nat} (h:pProg l f=some (.ok (p,j))):(j≤k→pProg l' g=some (.ok (p,j)))∧(k < j→fl→pProg l' g=some (.error k)):=by
 unfold pProg at h ⊢
 obtain ⟨h0,h⟩:=sgn_ok h
 have hb:=isAt_lt h0
 by_cases hk0:0 < k
 ·
  have e0:∀ z:Nat→Ans6 Pg,sgn6 l' 0 bOpen z=z (0 + 1):=fun z=>by unfold sgn6;rw [if_pos (by rw [P.is hk0];exact h0)]
  rw [e0]
  by_cases h1:isAt l (0 + 1) bShut=true
  ·
   rw [if_pos h1] at h
   simp only [ok6,Option.some.injEq,Except.ok.injEq,Prod.mk.injEq] at h
   obtain ⟨rfl,rfl⟩:=h
   refine ⟨fun hj=>?_,fun hj hf=>?_⟩
   ·
    rw [if_pos (by rw [P.is (by omega)];exact h1)];rfl
   ·
    have e:(0 + 1)=k:=by omega
    rw [e,if_neg (by rw [P.out hf];simp)]
    obtain ⟨g',rfl⟩:∃ g',g=g' + 1:=⟨g - 1,by omega⟩
    rw [pItems,pItem_end P hf]
    rfl
  ·
   rw [if_neg h1] at h
   have hsh:=pItems_shape f (0 + 1) (by omega) h
   obtain ⟨i1,i2⟩:=pItems_cut P hg f (0 + 1) g (by omega) (by omega) (by omega) h
   refine ⟨fun hj=>?_,fun hj hf=>?_⟩
   ·
    rw [if_neg (by rw [P.is (by omega)];exact h1)];exact i1 hj
   ·
    have:¬ isAt l' (0 + 1) bShut=true:=by
     by_cases hk1:0 + 1 < k
     ·
      rw [P.is hk1];exact h1
     ·
      have e:(0 + 1)=k:=by omega
      rw [e,P.out hf];simp
    rw [if_neg this]
    exact i2 hj hf
 ·
  have e:k=0:=by omega
  subst e
  have h2:0 < j:=by
   by_cases h1:isAt l (0 + 1) bShut=true
   ·
    rw [if_pos h1] at h
    simp only [ok6,Option.some.injEq,Except.ok.injEq,Prod.mk.injEq] at h
    omega
   ·
    rw [if_neg h1] at h
    have hsh:=pItems_shape f (0 + 1) (by omega) h
    omega
  refine ⟨fun hj=>by omega,fun _ hf=>?_⟩
  unfold sgn6
  rw [if_neg (by rw [P.out hf];simp)]
  rfl
theorem pDef_mono {l:List Tk} {f g:Nat} (h:f≤g) (i:Nat):Le6 (pDef l f i) (pDef l g i):=.ite (.sgn fun j=>.bnd (pR_mono h _ _) fun e k=>.refl _) (.refl _)
theorem pData_mono {l:List Tk} {f g:Nat} (h:f≤g) (i:Nat):Le6 (pData l f i) (pData l g i):=.ite (.sgn fun j=>.bnd (pS_mono h _ _) fun e k=>.refl _) (.refl _)
theorem pItem_mono {l:List Tk} {f g:Nat} (h:f≤g) (i:Nat):Le6 (pItem l f i) (pItem l g i):=.ite (.bnd (pData_mono h _) fun d k=>.refl _) (.bnd (pDef_mono h _) fun d k=>.refl _)
theorem pItems_mono {l:List Tk} {f g:Nat} (h:f≤g):∀ (m n i:Nat),m≤n→Le6 (pItems l f m i) (pItems l g n i)
 | 0,_,_,_=>fun _ h=>(by cases h)
 | m + 1,0,_,hm=>by omega
 | m + 1,n + 1,i,hm=>by
  rw [pItems,pItems]
  exact .bnd (pItem_mono h i) fun p j=>.ite (.bnd (pItems_mono h m n _ (by omega)) fun q k=>.refl _) (.refl _)
theorem pProg_mono {l:List Tk} {f g:Nat} (h:f≤g):Le6 (pProg l f) (pProg l g):=.sgn fun i=>.ite (.refl _) (pItems_mono h _ _ _ h)
theorem progF_ok {l:List Tk} {p:Pg} (h:progF l=.ok p):pProg l (enough l)=some (.ok (p,l.length)):=by
 unfold progF at h
 obtain ⟨x,hx,hs⟩:=pProg_ok l (enough l) (Nat.le_refl _)
 rw [hx] at h
 cases x with
 | error q=>cases h
 | ok q =>
  obtain ⟨a,b⟩:=q
  have h':(if b=l.length then Except.ok a else Except.error b:Except Nat Pg)=.ok p:=h
  split at h'
  ·
   rename_i e
   cases h'
   rw [hx,e]
  ·
   cases h'
theorem progF_of {l:List Tk} {g:Nat} {x:Except Nat (Pg × Nat)} (h:pProg l g=some x) (hg:enough l≤g):progF l=wholeF l (some x):=by
 obtain ⟨y,hy,_⟩:=pProg_ok l (enough l) (Nat.le_refl _)
 have:=pProg_mono hg _ hy
 rw [h] at this
 cases this
 unfold progF
 rw [hy]
theorem progF_pre {l:List Tk} {p:Pg} (h:progF l=.ok p) {k:Nat} (hk:k < l.length):progF (l.take k)=.error k:=by
 have P:Pre6 l (l.take k) k True:=⟨fun q hq=>by unfold tkAt;simp [List.getD,List.getElem?_take,hq],fun _=>by rw [List.length_take];omega⟩
 obtain ⟨_,h2⟩:=pProg_cut P (Nat.le_refl (enough l + 24)) (progF_ok h)
 rw [progF_of (h2 hk trivial) (by unfold enough;rw [List.length_take];omega)]
 rfl
theorem progF_more {l:List Tk} {p:Pg} (h:progF l=.ok p) (t:Tk):progF (l ++ [t])=.error l.length:=by
 have P:Pre6 l (l ++ [t]) l.length False:=⟨fun q hq=>by unfold tkAt;simp [List.getD,List.getElem?_append_left hq],fun h=>h.elim⟩
 obtain ⟨h1,_⟩:=pProg_cut P (Nat.le_refl (enough l + 24)) (progF_ok h)
 rw [progF_of (h1 (Nat.le_refl _)) (by unfold enough;rw [List.length_append,List.length_singleton];omega)]
 unfold wholeF
 simp
end Go.Proofs.YtinjocchommbdaaGreatDoor

namespace Go.Proofs.YtinjocchommbdaaGreatDoor
def FromT (l:List Tk) (t:Tk):Prop:=t ∈ l∨∃ s u,(s=bOpen∨s=bShut∨s=semiT)∧u ∈ l∧t=mkT s u
theorem FromT.mono {l k:List Tk} {t:Tk} (h:FromT l t) (hk:∀ x ∈ l,x ∈ k):FromT k t:=by
 rcases h with h | ⟨s,u,hs,hu,rfl⟩
 ·
  exact .inl (hk _ h)
 ·
  exact .inr ⟨s,u,hs,hk _ hu,rfl⟩
theorem ahead_from {p:Option Tk} {f:Bool} {t:Tk} {st:List Int} {x:Tk} (h:x ∈ (aheadS p f t st).1):∃ s,(s=bOpen∨s=bShut∨s=semiT)∧x=mkT s t:=by
 unfold aheadS at h
 cases p with
 | none =>
  simp only at h
  split at h
  ·
   simp at h
  ·
   simp at h;exact ⟨_,.inl rfl,h⟩
 | some q =>
  simp only at h
  split at h
  ·
   unfold lineS at h
   simp only [List.mem_append] at h
   rcases h with h | h
   ·
    exact ⟨_,.inr (.inl rfl),(List.mem_replicate.1 h).2⟩
   ·
    split at h
    ·
     simp at h;exact ⟨_,.inr (.inr rfl),h⟩
    ·
     simp at h
  ·
   simp at h
theorem fit_from {t:Tk} {st:List Int} {o2:List Tk} {s2:List Int} (h:fitS t st=some (o2,s2)) {x:Tk} (hx:x ∈ o2):x=mkT bShut t:=by
 unfold fitS at h
 split at h
 ·
  split at h
  ·
   cases h
  ·
   split at h
   ·
    simp only [Option.some.injEq,Prod.mk.injEq] at h
    rw [←h.1] at hx
    exact (List.mem_replicate.1 hx).2
   ·
    cases h
 ·
  split at h
  ·
   split at h
   ·
    cases h
   ·
    split at h
    ·
     simp only [Option.some.injEq,Prod.mk.injEq] at h
     rw [←h.1] at hx
     simp at hx
    ·
     cases h
  ·
   simp only [Option.some.injEq,Prod.mk.injEq] at h
   rw [←h.1] at hx
   simp at hx
theorem beh_from {t:Tk} {n:Option Tk} {st:List Int} {x:Tk} (h:x ∈ (behS t n st).1):∃ s u,(s=bOpen∨s=bShut∨s=semiT)∧(u=t∨n=some u)∧x=mkT s u:=by
 unfold behS at h
 split at h
 ·
  simp at h
 split at h
 ·
  simp at h
 split at h
 ·
  cases n with
  | none =>
   simp at h
   rcases h with rfl | rfl
   ·
    exact ⟨_,_,.inl rfl,.inl rfl,rfl⟩
   ·
    exact ⟨_,_,.inr (.inl rfl),.inl rfl,rfl⟩
  | some u =>
   simp only at h
   split at h
   ·
    simp at h
   split at h
   ·
    simp at h;exact ⟨_,_,.inl rfl,.inr rfl,h⟩
   ·
    simp at h
    rcases h with rfl | rfl
    ·
     exact ⟨_,_,.inl rfl,.inl rfl,rfl⟩
    ·
     exact ⟨_,_,.inr (.inl rfl),.inl rfl,rfl⟩
 ·
  simp at h
theorem layS_from:∀ (l:List Tk) (prev:Option Tk) (fresh:Bool) (st:List Int) (m:List Tk),layS prev fresh st l=.ok m→∀ x ∈ m,FromT (prev.toList ++ l) x
 | [],prev,fresh,st,m,h,x,hx=>by
  rw [layS] at h
  cases prev with
  | none=>simp only [endS,Res.ok.injEq] at h;rw [←h] at hx;simp at hx
  | some e =>
   simp only [endS] at h
   split at h
   ·
    simp only [Res.ok.injEq] at h
    rw [←h] at hx
    exact .inr ⟨_,e,.inr (.inl rfl),by simp,(List.mem_replicate.1 hx).2⟩
   ·
    cases h
 | t :: r,prev,fresh,st,m,h,x,hx=>by
  obtain ⟨o2,s2,q,h1,h2,rfl⟩:=layS_cons h
  have ht:t ∈ prev.toList ++ t :: r:=by simp
  rcases List.mem_append.1 hx with hx | hx
  ·
   rcases List.mem_append.1 hx with hx | hx
   ·
    obtain ⟨s,hs,rfl⟩:=ahead_from hx
    exact .inr ⟨s,t,hs,ht,rfl⟩
   rcases List.mem_append.1 hx with hx | hx
   ·
    exact .inr ⟨_,t,.inr (.inl rfl),ht,fit_from h1 hx⟩
   rcases List.mem_cons.1 hx with rfl | hx
   ·
    exact .inl ht
   obtain ⟨s,u,hs,hu,rfl⟩:=beh_from hx
   refine .inr ⟨s,u,hs,?_,rfl⟩
   rcases hu with rfl | hu
   ·
    exact ht
   ·
    have:u ∈ r:=List.mem_of_mem_head? hu
    simp [this]
  ·
   exact (layS_from r _ _ _ q h2 x hx).mono fun y hy=>by
    simp only [Option.toList_some,List.singleton_append] at hy
    exact List.mem_append.2 (.inr hy)
theorem layF_from {l m:List Tk} (h:layF l=.ok m):∀ x ∈ m,FromT l x:=fun x hx=>by
 have:=layS_from l none true [] m h x hx
 simpa using this
def FitT (n:Nat) (t:Tk):Prop:=t.text.length≤n∧(-9223372036854775808≤t.num∧t.num≤9223372036854775807)
theorem tokF_fit {l:Bs} {k:Int} {t:Bs} {n:Nat} (h:tokF l=some (k,t,n)):n≤maxI:=by
 unfold tokF at h
 split at h
 ·
  split at h
  ·
   simp only [Option.some.injEq,Prod.mk.injEq] at h
   rw [←h.2.2];assumption
  ·
   cases h
 ·
  split at h
  ·
   cases hk:wordK (l.takeWhile ptB) with
   | none=>rw [hk] at h;cases h
   | some q =>
    rw [hk] at h
    simp only [Option.map_some,Option.some.injEq,Prod.mk.injEq] at h
    rw [←h.2.2];exact Nat.zero_le _
  ·
   cases hf:signsL.find? fun s=>s.isPrefixOf l with
   | none=>rw [hf] at h;cases h
   | some s =>
    rw [hf] at h
    simp only [Option.map_some,Option.some.injEq,Prod.mk.injEq] at h
    rw [←h.2.2];exact Nat.zero_le _
theorem FitT.from {l:List Tk} {n:Nat} (h:∀ t ∈ l,FitT n t) (hn:1≤n) {x:Tk} (hx:FromT l x):FitT n x:=by
 rcases hx with hx | ⟨s,u,hs,hu,rfl⟩
 ·
  exact h _ hx
 ·
  refine ⟨?_,(by omega:(-9223372036854775808:Int)≤0),(by omega:(0:Int)≤9223372036854775807)⟩
  show s.length≤n
  rcases hs with rfl | rfl | rfl <;> exact hn
theorem lex_fit {l:Bs} {ts:List Tk} (h:lexF 1 1 0 l=.ok ts):ts.length≤2000∧∀ t ∈ ts,FitT l.length t:=by
 refine ⟨by have:=lexF_len l.length l 1 1 0 ts (Nat.le_refl _) (by omega) h;omega,fun t ht=>?_⟩
 have h1:=(lexF_bd l.length l 1 1 0 ts (Nat.le_refl _) (by omega) h).2 t ht
 obtain ⟨m,h2,h3,_⟩:=lexF_gd l.length l 1 1 0 ts (Nat.le_refl _) h t ht
 have h4:=tokF_fit h2
 unfold maxI at h4
 exact ⟨by omega,by omega,by omega⟩
end Go.Proofs.YtinjocchommbdaaGreatDoor
namespace Go.Proofs.YtinjocchommbdaaGreatDoor
open Go.RowKit
def idxI {α:Type} (p:α→Bool):List α→Int
 | []=>-1
 | e :: r=>if p e then 0 else if idxI p r < 0 then -1 else idxI p r + 1
theorem idxI_ge {α:Type} (p:α→Bool):∀ l,-1≤idxI p l
 | []=>by simp [idxI]
 | e :: r=>by have:=idxI_ge p r;unfold idxI;split <;> (try split) <;> omega
theorem idxI_any {α:Type} (p:α→Bool):∀ l,decide (0≤idxI p l)=l.any p
 | []=>by simp [idxI]
 | e :: r=>by
  have ih:=idxI_any p r
  have hg:=idxI_ge p r
  rw [List.any_cons,←ih,idxI]
  cases h:p e
  ·
   simp only [Bool.false_eq_true,if_false,Bool.false_or]
   split
   ·
    rw [decide_eq_false (by omega),decide_eq_false (by omega)]
   ·
    rw [decide_eq_true (by omega),decide_eq_true (by omega)]
  ·
   simp
theorem idxI_at {α:Type} {p:α→Bool}:∀ {l:List α} {k:Nat} (hk:k < l.length) (_:∀ j (hj:j < k),p (l[j]'(by omega))=false) (_:p l[k]=true),idxI p l=k
 | e :: r,0,_,_,h=>by simp at h;simp [idxI,h]
 | e :: r,k + 1,hk,hn,h=>by
  have h0:=hn 0 (by omega)
  simp at h0
  have:=idxI_at (l:=r) (k:=k) (by simpa using hk) (fun j hj=>by simpa using hn (j + 1) (by omega)) (by simpa using h)
  rw [idxI,h0,this];simp;omega
theorem idxI_none {α:Type} {p:α→Bool}:∀ {l:List α} (_:∀ j (hj:j < l.length),p l[j]=false),idxI p l=-1
 | [],_=>rfl
 | e :: r,h=>by
  have h0:=h 0 (by simp)
  simp at h0
  have:=idxI_none (l:=r) (fun j hj=>by have:=h (j + 1) (by simpa using hj);simpa using this)
  rw [idxI,h0,this];simp
set_option maxHeartbeats 800000 in
theorem index_Sig (a:Option Addr) (l:List Sg) (cap g:Nat) (lb:Array Value) (p:Sg→Bool) (w:World) (hl:l.length≤lenMax) (hr:SgRow w a l)
  (hp:∀ e ∈ l,∀ v W,Below w.heap.size w W→IsSg W v e→Calls Tryz.prog g (#[v] ++ lb) W fun r W'=>r=.returned (.bool (p e))∧Below W.heap.size W W')
  (henter:∀ args w,(callFunc g args).run Tryz.prog w=.ok (.enter g args) w) :
  Calls Tryz.prog 188 #[.slice a l.length cap,.func (.func g) #[] lb] w fun r w'=>r=.returned (.int .i64 (idxI p l))∧Below w.heap.size w w':=by
 unfold lenMax at hl
 have hp':=Lib.hid hp
 clear hp
 go_enter Tryz.func188,Tryz.ntmps188
 go_wp2_with fail
 go_loopw [8] (fun i wr=>∃ k:Nat,k≤l.length∧i=.int .i64 k∧Hid (∀ j (hj:j < k) (hl:j < l.length),p l[j]=false)∧Below w.heap.size w wr) (fun i _=>l.length - (intOf i).toNat)
 case atStart=>exact ⟨0,by omega,rfl,fun j hj=>by omega,Below.refl _ _⟩
 case round =>
  obtain ⟨k,hk,rfl,hall,hB⟩:=hrel
  by_cases h1:k < l.length
  ·
   obtain ⟨b,off,rfl,harg⟩:=(hr.keeps (Keeps.of_below hB)).arg (by rintro rfl;simp at h1)
   obtain ⟨a2,c2,g0,g1,ge⟩:=harg k h1
   have hcall:=Lib.hid (hp'.out _ (List.getElem_mem h1) _ _ hB ge)
   clear harg ge
   cases h3:p l[k]
   ·
    rw [h3] at hcall
    have h3':=Lib.hid h3
    clear h3
    go_wp2_with fail
    refine hcall.out.mono ?_
    rintro e w1 ⟨rfl,hB1⟩
    have hB1':=hB.trans (hB1.mono hB.size)
    clear hB1
    go_wp2_with fail
    go_roundw
    case rel=>exact ⟨k + 1,by omega,by go_num,fun j hj hl=>by
     rcases Nat.lt_or_ge j k with h | h
     ·
      exact hall.out j h hl
     ·
      obtain rfl:j=k:=by omega
      exact h3'.out,hB1'⟩
    case measure=>simp [intOf];omega
   ·
    rw [h3] at hcall
    have h3':=Lib.hid h3
    clear h3
    go_wp2_with fail
    refine hcall.out.mono ?_
    rintro e w1 ⟨rfl,hB1⟩
    have hB1':=hB.trans (hB1.mono hB.size)
    clear hB1
    go_wp2_with fail
    go_ret
    exact ⟨ret_int (idxI_at h1 (fun j hj=>hall.out j hj (by omega)) h3'.out).symm,hB1'⟩
  ·
   go_wp2_with fail
   go_ret
   exact ⟨ret_int (idxI_none fun j hj=>hall.out j (by omega) hj).symm,hB⟩
theorem contains_Sig (a:Option Addr) (l:List Sg) (cap g:Nat) (lb:Array Value) (p:Sg→Bool) (w:World) (hl:l.length≤lenMax) (hr:SgRow w a l)
  (hp:∀ e ∈ l,∀ v W,Below w.heap.size w W→IsSg W v e→Calls Tryz.prog g (#[v] ++ lb) W fun r W'=>r=.returned (.bool (p e))∧Below W.heap.size W W')
  (henter:∀ args w,(callFunc g args).run Tryz.prog w=.ok (.enter g args) w) :
  Calls Tryz.prog 151 #[.slice a l.length cap,.func (.func g) #[] lb] w fun r w'=>r=.returned (.bool (l.any p))∧Below w.heap.size w w':=by
 have h:=Lib.hid (index_Sig a l cap g lb p w hl hr hp henter)
 clear hp hr
 go_enter Tryz.func151,Tryz.ntmps151
 go_wp2_with fail
 refine h.out.mono ?_
 rintro e w1 ⟨rfl,hB⟩
 go_wp2_with fail
 go_ret
 exact ⟨ret_bool (idxI_any p l),hB⟩
set_option maxHeartbeats 800000 in
theorem index_Form (a:Option Addr) (l:List Sg) (cap g:Nat) (lb:Array Value) (p:Sg→Bool) (w:World) (hl:l.length≤lenMax) (hr:SgRow w a l)
  (hp:∀ e ∈ l,∀ v W,Below w.heap.size w W→IsSg W v e→Calls Tryz.prog g (#[v] ++ lb) W fun r W'=>r=.returned (.bool (p e))∧Below W.heap.size W W')
  (henter:∀ args w,(callFunc g args).run Tryz.prog w=.ok (.enter g args) w) :
  Calls Tryz.prog 154 #[.slice a l.length cap,.func (.func g) #[] lb] w fun r w'=>r=.returned (.int .i64 (idxI p l))∧Below w.heap.size w w':=by
 unfold lenMax at hl
 have hp':=Lib.hid hp
 clear hp
 go_enter Tryz.func154,Tryz.ntmps154
 go_wp2_with fail
 go_loopw [8] (fun i wr=>∃ k:Nat,k≤l.length∧i=.int .i64 k∧Hid (∀ j (hj:j < k) (hl:j < l.length),p l[j]=false)∧Below w.heap.size w wr) (fun i _=>l.length - (intOf i).toNat)
 case atStart=>exact ⟨0,by omega,rfl,fun j hj=>by omega,Below.refl _ _⟩
 case round =>
  obtain ⟨k,hk,rfl,hall,hB⟩:=hrel
  by_cases h1:k < l.length
  ·
   obtain ⟨b,off,rfl,harg⟩:=(hr.keeps (Keeps.of_below hB)).arg (by rintro rfl;simp at h1)
   obtain ⟨a2,c2,g0,g1,ge⟩:=harg k h1
   have hcall:=Lib.hid (hp'.out _ (List.getElem_mem h1) _ _ hB ge)
   clear harg ge
   cases h3:p l[k]
   ·
    rw [h3] at hcall
    have h3':=Lib.hid h3
    clear h3
    go_wp2_with fail
    refine hcall.out.mono ?_
    rintro e w1 ⟨rfl,hB1⟩
    have hB1':=hB.trans (hB1.mono hB.size)
    clear hB1
    go_wp2_with fail
    go_roundw
    case rel=>exact ⟨k + 1,by omega,by go_num,fun j hj hl=>by
     rcases Nat.lt_or_ge j k with h | h
     ·
      exact hall.out j h hl
     ·
      obtain rfl:j=k:=by omega
      exact h3'.out,hB1'⟩
    case measure=>simp [intOf];omega
   ·
    rw [h3] at hcall
    have h3':=Lib.hid h3
    clear h3
    go_wp2_with fail
    refine hcall.out.mono ?_
    rintro e w1 ⟨rfl,hB1⟩
    have hB1':=hB.trans (hB1.mono hB.size)
    clear hB1
    go_wp2_with fail
    go_ret
    exact ⟨ret_int (idxI_at h1 (fun j hj=>hall.out j hj (by omega)) h3'.out).symm,hB1'⟩
  ·
   go_wp2_with fail
   go_ret
   exact ⟨ret_int (idxI_none fun j hj=>hall.out j (by omega) hj).symm,hB⟩
theorem contains_Form (a:Option Addr) (l:List Sg) (cap g:Nat) (lb:Array Value) (p:Sg→Bool) (w:World) (hl:l.length≤lenMax) (hr:SgRow w a l)
  (hp:∀ e ∈ l,∀ v W,Below w.heap.size w W→IsSg W v e→Calls Tryz.prog g (#[v] ++ lb) W fun r W'=>r=.returned (.bool (p e))∧Below W.heap.size W W')
  (henter:∀ args w,(callFunc g args).run Tryz.prog w=.ok (.enter g args) w) :
  Calls Tryz.prog 89 #[.slice a l.length cap,.func (.func g) #[] lb] w fun r w'=>r=.returned (.bool (l.any p))∧Below w.heap.size w w':=by
 have h:=Lib.hid (index_Form a l cap g lb p w hl hr hp henter)
 clear hp hr
 go_enter Tryz.func89,Tryz.ntmps89
 go_wp2_with fail
 refine h.out.mono ?_
 rintro e w1 ⟨rfl,hB⟩
 go_wp2_with fail
 go_ret
 exact ⟨ret_bool (idxI_any p l),hB⟩
set_option maxHeartbeats 800000 in
theorem index_Data (a:Option Addr) (l:List Dt) (cap g:Nat) (lb:Array Value) (p:Dt→Bool) (w:World) (hl:l.length≤lenMax) (hr:DtRow w a l)
  (hp:∀ e ∈ l,∀ v W,Below w.heap.size w W→IsDt W v e→Calls Tryz.prog g (#[v] ++ lb) W fun r W'=>r=.returned (.bool (p e))∧Below W.heap.size W W')
  (henter:∀ args w,(callFunc g args).run Tryz.prog w=.ok (.enter g args) w) :
  Calls Tryz.prog 156 #[.slice a l.length cap,.func (.func g) #[] lb] w fun r w'=>r=.returned (.int .i64 (idxI p l))∧Below w.heap.size w w':=by
 unfold lenMax at hl
 have hp':=Lib.hid hp
 clear hp
 go_enter Tryz.func156,Tryz.ntmps156
 go_wp2_with fail
 go_loopw [8] (fun i wr=>∃ k:Nat,k≤l.length∧i=.int .i64 k∧Hid (∀ j (hj:j < k) (hl:j < l.length),p l[j]=false)∧Below w.heap.size w wr) (fun i _=>l.length - (intOf i).toNat)
 case atStart=>exact ⟨0,by omega,rfl,fun j hj=>by omega,Below.refl _ _⟩
 case round =>
  obtain ⟨k,hk,rfl,hall,hB⟩:=hrel
  by_cases h1:k < l.length
  ·
   obtain ⟨b,off,rfl,harg⟩:=(hr.keeps (Keeps.of_below hB)).at (by rintro rfl;simp at h1)
   obtain ⟨a1,c1,a2,c2,g0,g1,g2,ge⟩:=harg k h1
   have hcall:=Lib.hid (hp'.out _ (List.getElem_mem h1) _ _ hB ge)
   clear harg ge
   cases h3:p l[k]
   ·
    rw [h3] at hcall
    have h3':=Lib.hid h3
    clear h3
    go_wp2_with fail
    refine hcall.out.mono ?_
    rintro e w1 ⟨rfl,hB1⟩
    have hB1':=hB.trans (hB1.mono hB.size)
    clear hB1
    go_wp2_with fail
    go_roundw
    case rel=>exact ⟨k + 1,by omega,by go_num,fun j hj hl=>by
     rcases Nat.lt_or_ge j k with h | h
     ·
      exact hall.out j h hl
     ·
      obtain rfl:j=k:=by omega
      exact h3'.out,hB1'⟩
    case measure=>simp [intOf];omega
   ·
    rw [h3] at hcall
    have h3':=Lib.hid h3
    clear h3
    go_wp2_with fail
    refine hcall.out.mono ?_
    rintro e w1 ⟨rfl,hB1⟩
    have hB1':=hB.trans (hB1.mono hB.size)
    clear hB1
    go_wp2_with fail
    go_ret
    exact ⟨ret_int (idxI_at h1 (fun j hj=>hall.out j hj (by omega)) h3'.out).symm,hB1'⟩
  ·
   go_wp2_with fail
   go_ret
   exact ⟨ret_int (idxI_none fun j hj=>hall.out j (by omega) hj).symm,hB⟩
theorem contains_Data (a:Option Addr) (l:List Dt) (cap g:Nat) (lb:Array Value) (p:Dt→Bool) (w:World) (hl:l.length≤lenMax) (hr:DtRow w a l)
  (hp:∀ e ∈ l,∀ v W,Below w.heap.size w W→IsDt W v e→Calls Tryz.prog g (#[v] ++ lb) W fun r W'=>r=.returned (.bool (p e))∧Below W.heap.size W W')
  (henter:∀ args w,(callFunc g args).run Tryz.prog w=.ok (.enter g args) w) :
  Calls Tryz.prog 92 #[.slice a l.length cap,.func (.func g) #[] lb] w fun r w'=>r=.returned (.bool (l.any p))∧Below w.heap.size w w':=by
 have h:=Lib.hid (index_Data a l cap g lb p w hl hr hp henter)
 clear hp hr
 go_enter Tryz.func92,Tryz.ntmps92
 go_wp2_with fail
 refine h.out.mono ?_
 rintro e w1 ⟨rfl,hB⟩
 go_wp2_with fail
 go_ret
 exact ⟨ret_bool (idxI_any p l),hB⟩
set_option maxHeartbeats 800000 in
theorem index_Def (a:Option Addr) (l:List Df) (cap g:Nat) (lb:Array Value) (p:Df→Bool) (w:World) (hl:l.length≤lenMax) (hr:DfRow w a l)
  (hp:∀ e ∈ l,∀ v W,Below w.heap.size w W→IsDf W v e→Calls Tryz.prog g (#[v] ++ lb) W fun r W'=>r=.returned (.bool (p e))∧Below W.heap.size W W')
  (henter:∀ args w,(callFunc g args).run Tryz.prog w=.ok (.enter g args) w) :
  Calls Tryz.prog 157 #[.slice a l.length cap,.func (.func g) #[] lb] w fun r w'=>r=.returned (.int .i64 (idxI p l))∧Below w.heap.size w w':=by
 unfold lenMax at hl
 have hp':=Lib.hid hp
 clear hp
 go_enter Tryz.func157,Tryz.ntmps157
 go_wp2_with fail
 go_loopw [8] (fun i wr=>∃ k:Nat,k≤l.length∧i=.int .i64 k∧Hid (∀ j (hj:j < k) (hl:j < l.length),p l[j]=false)∧Below w.heap.size w wr) (fun i _=>l.length - (intOf i).toNat)
 case atStart=>exact ⟨0,by omega,rfl,fun j hj=>by omega,Below.refl _ _⟩
 case round =>
  obtain ⟨k,hk,rfl,hall,hB⟩:=hrel
  by_cases h1:k < l.length
  ·
   obtain ⟨b,off,rfl,harg⟩:=(hr.keeps (Keeps.of_below hB)).at (by rintro rfl;simp at h1)
   obtain ⟨a1,c1,a2,c2,g0,g1,g2,g3,g4,g5,ge⟩:=harg k h1
   have hcall:=Lib.hid (hp'.out _ (List.getElem_mem h1) _ _ hB ge)
   clear harg ge
   cases h3:p l[k]
   ·
    rw [h3] at hcall
    have h3':=Lib.hid h3
    clear h3
    go_wp2_with fail
    refine hcall.out.mono ?_
    rintro e w1 ⟨rfl,hB1⟩
    have hB1':=hB.trans (hB1.mono hB.size)
    clear hB1
    go_wp2_with fail
    go_roundw
    case rel=>exact ⟨k + 1,by omega,by go_num,fun j hj hl=>by
     rcases Nat.lt_or_ge j k with h | h
     ·
      exact hall.out j h hl
     ·
      obtain rfl:j=k:=by omega
      exact h3'.out,hB1'⟩
    case measure=>simp [intOf];omega
   ·
    rw [h3] at hcall
    have h3':=Lib.hid h3
    clear h3
    go_wp2_with fail
    refine hcall.out.mono ?_
    rintro e w1 ⟨rfl,hB1⟩
    have hB1':=hB.trans (hB1.mono hB.size)
    clear hB1
    go_wp2_with fail
    go_ret
    exact ⟨ret_int (idxI_at h1 (fun j hj=>hall.out j hj (by omega)) h3'.out).symm,hB1'⟩
  ·
   go_wp2_with fail
   go_ret
   exact ⟨ret_int (idxI_none fun j hj=>hall.out j (by omega) hj).symm,hB⟩
theorem contains_Def (a:Option Addr) (l:List Df) (cap g:Nat) (lb:Array Value) (p:Df→Bool) (w:World) (hl:l.length≤lenMax) (hr:DfRow w a l)
  (hp:∀ e ∈ l,∀ v W,Below w.heap.size w W→IsDf W v e→Calls Tryz.prog g (#[v] ++ lb) W fun r W'=>r=.returned (.bool (p e))∧Below W.heap.size W W')
  (henter:∀ args w,(callFunc g args).run Tryz.prog w=.ok (.enter g args) w) :
  Calls Tryz.prog 93 #[.slice a l.length cap,.func (.func g) #[] lb] w fun r w'=>r=.returned (.bool (l.any p))∧Below w.heap.size w w':=by
 have h:=Lib.hid (index_Def a l cap g lb p w hl hr hp henter)
 clear hp hr
 go_enter Tryz.func93,Tryz.ntmps93
 go_wp2_with fail
 refine h.out.mono ?_
 rintro e w1 ⟨rfl,hB⟩
 go_wp2_with fail
 go_ret
 exact ⟨ret_bool (idxI_any p l),hB⟩
end Go.Proofs.YtinjocchommbdaaGreatDoor
namespace Go.Proofs.YtinjocchommbdaaGreatDoor
open Go.RowKit
set_option maxHeartbeats 400000 in
theorem tree_size:∀ (e:Ex) (v:Value) (most:Int) (w:World),IsEx w v e→0≤most→most≤1000000 →
  Calls Tryz.prog 71 #[v,.int .i64 most] w fun r w'=>r=.returned (.int .i64 (min (cnt e:Int) (most + 1)))∧Below w.heap.size w w':=by
 refine Ex.ind fun kd s nm ls ks ih v most w hv h0 hmm=>?_
 obtain ⟨a1,c1,a2,c2,rfl,_,_,hs,hls,hks,hl,hr⟩:=hv.open
 unfold lenMax at hks
 go_enter Tryz.func71,Tryz.ntmps71
 go_wp2_with fail
 go_loopw [5,11] (fun n i wr=>∃ (k:Nat) (m:Int),k≤ks.length∧i=.int .i64 k∧n=.int .i64 m∧1≤m∧m≤most + 1∧Hid (m=min (1 + cnt.cntL (ks.take k):Int) (most + 1))∧Below (w.heap.size+1) (w.alloc (.cells #[.int .i64 kd,.string s,.int .i64 nm,.slice a1 ls.length c1,.slice a2 ks.length c2] 27)) wr) (fun _ i _=>ks.length - (intOf i).toNat)
 case atStart=>exact ⟨0,1,by omega,rfl,rfl,by omega,by omega,by unfold Hid;simp [cnt.cntL];omega,Below.refl _ _⟩
 case round =>
  obtain ⟨k,m,hk,rfl,rfl,hm1,hm2,hm,hB⟩:=hrel
  have hz:=size_box hB
  by_cases h1:k < ks.length
  ·
   obtain ⟨b,off,rfl,hkid⟩:=(hr.keeps (keeps_box hB)).kid (by rintro rfl;simp at h1)
   obtain ⟨a1,c1,a2,c2,g0,g1,g2,g3,g4,ge⟩:=hkid k h1
   by_cases h2:m≤most
   ·
    go_wp2_with fail
    refine (ih _ (List.getElem_mem h1) _ _ _ (ge.keeps (Keeps.of_below ((Below.refl _ _).alloc (Nat.le_refl _) _))) (by omega) (by omega)).mono ?_
    rintro e w1 ⟨rfl,hB1⟩
    go_wp2_with fail
    go_roundw
    case rel=>exact ⟨k + 1,_,by omega,by go_num,rfl,by omega,by omega,by have:=hm.out;unfold Hid;rw [cntL_take_succ _ _ h1];omega,(hB.alloc hz _).trans (hB1.mono (by simp;omega))⟩
    case measure=>simp [intOf];omega
   ·
    have e:m=most + 1:=by omega
    have e':=Lib.hid e
    clear e
    go_wp2_with fail
    go_ret
    have:=hm.out
    refine ⟨ret_int ?_,below_box (hB.alloc hz _)⟩
    have h3:=cntL_take_le ks k
    have:=e'.out
    simp only [cnt];omega
  ·
   have e:k=ks.length:=by omega
   have e':=Lib.hid e
   clear e
   go_wp2_with fail
   go_ret
   have:=hm.out
   rw [e'.out,List.take_length] at this
   refine ⟨ret_int ?_,below_box hB⟩
   simp only [cnt];omega
set_option maxHeartbeats 400000 in
theorem tree_depth:∀ (e:Ex) (v:Value) (most:Int) (w:World),IsEx w v e→0≤most→most≤1000000 →
  Calls Tryz.prog 70 #[v,.int .i64 most] w fun r w'=>r=.returned (.int .i64 (min (dep e:Int) (most + 1)))∧Below w.heap.size w w':=by
 refine Ex.ind fun kd s nm ls ks ih v most w hv h0 hmm=>?_
 obtain ⟨a1,c1,a2,c2,rfl,_,_,hs,hls,hks,hl,hr⟩:=hv.open
 unfold lenMax at hks
 have hd:=dep_pos (.mk kd s nm ls ks)
 by_cases hm0:most≤0
 ·
  go_enter Tryz.func70,Tryz.ntmps70
  go_wp2_with fail
  go_ret
  exact ⟨ret_int (by omega),(Below.refl _ _).alloc (Nat.le_refl _) _⟩
 go_enter Tryz.func70,Tryz.ntmps70
 go_wp2_with fail
 go_loopw [5,13] (fun n i wr=>∃ (k:Nat) (m:Int),k≤ks.length∧i=.int .i64 k∧n=.int .i64 m∧0≤m∧m≤most∧Hid (m=min (dep.depL (ks.take k):Int) most)∧Below (w.heap.size+1) (w.alloc (.cells #[.int .i64 kd,.string s,.int .i64 nm,.slice a1 ls.length c1,.slice a2 ks.length c2] 27)) wr) (fun _ i _=>ks.length - (intOf i).toNat)
 case atStart=>exact ⟨0,0,by omega,rfl,rfl,by omega,by omega,by unfold Hid;simp [dep.depL];omega,Below.refl _ _⟩
 case round =>
  obtain ⟨k,m,hk,rfl,rfl,hm1,hm2,hm,hB⟩:=hrel
  have hz:=size_box hB
  by_cases h1:k < ks.length
  ·
   obtain ⟨b,off,rfl,hkid⟩:=(hr.keeps (keeps_box hB)).kid (by rintro rfl;simp at h1)
   obtain ⟨a1,c1,a2,c2,g0,g1,g2,g3,g4,ge⟩:=hkid k h1
   go_wp2_with fail
   refine (ih _ (List.getElem_mem h1) _ _ _ (ge.keeps (Keeps.of_below ((Below.refl _ _).alloc (Nat.le_refl _) _))) (by omega) (by omega)).mono ?_
   rintro e w1 ⟨rfl,hB1⟩
   go_wp2_with fail
   go_roundw
   case rel=>exact ⟨k + 1,_,by omega,by go_num,rfl,by omega,by omega,by have:=hm.out;unfold Hid;rw [depL_take_succ _ _ h1];omega,(hB.alloc hz _).trans (hB1.mono (by simp;omega))⟩
   case measure=>simp [intOf];omega
  ·
   have e:k=ks.length:=by omega
   have e':=Lib.hid e
   clear e
   go_wp2_with fail
   go_ret
   have:=hm.out
   rw [e'.out,List.take_length] at this
   refine ⟨ret_int ?_,below_box hB⟩
   simp only [dep];omega
end Go.Proofs.YtinjocchommbdaaGreatDoor
namespace Go.Proofs.YtinjocchommbdaaGreatDoor
open Go.RowKit
end Go.Proofs.YtinjocchommbdaaGreatDoor
namespace Go.Proofs.YtinjocchommbdaaGreatDoor
open Go.RowKit
theorem box2 {w wr:World} {v0 v1:Value} {t:TypeId} (h:Below (w.heap.size + 1) (w.alloc (.cells #[v0,v1] t)) wr) :
  wr.cell? ⟨w.heap.size,0,none⟩=some v0∧wr.cell? ⟨w.heap.size,1,none⟩=some v1:=by
 refine ⟨?_,?_⟩ <;> (rw [h.cell (by simp),World.cell?_alloc_at _ _ _ _ rfl];rfl)
end Go.Proofs.YtinjocchommbdaaGreatDoor
