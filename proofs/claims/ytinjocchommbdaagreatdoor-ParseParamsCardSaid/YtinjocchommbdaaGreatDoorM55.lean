/- A part of the proof that parser laws hold: texts of the walk and of its plain laws, made small. -/
import Derived.Test.YtinjocchommbdaaGreatDoorM07
set_option linter.unusedVariables false
set_option linter.unusedSimpArgs false
namespace Go.Proofs.YtinjocchommbdaaGreatDoor
section
variable (a l:List Tk)
theorem stepS_sh {p q:Rs→Nat→Ans6 (List Sg)} (h:∀ r i,q r (a.length + i)=shA a.length (p r i)):∀ r i,stepS (a ++ l) q r (a.length + i)=shA a.length (stepS l p r i):=by
 intro r i
 cases r with
 | atom=>exact sh_ite (by rw [kindAt_sh]) (by rw [textAt_sh];rfl) (sh_sgn a l fun j=>sh_bnd (h _ _) fun e k=>sh_sgn a l fun m=>rfl)
 | atoms=>exact sh_ite (by rw [sgBegins_sh]) (sh_bnd (h _ _) fun k j=>sh_bnd (h _ _) fun r m=>rfl) rfl
 | sig =>
  refine sh_bnd (sh_ite (by rw [kindAt_sh]) (sh_bnd (h _ (i + 1)) fun k j=>by rw [textAt_sh];rfl) (h _ _)) fun s j=>sh_ite (by rw [isAt_sh]) (sh_bnd (h _ (j + 1)) fun t k=>rfl) rfl
 | forms =>
  refine sh_ite (by rw [kindAt_sh]) ?_ rfl
  rw [textAt_sh]
  exact sh_bnd (h _ (i + 1)) fun r j=>sh_ite (by rw [isAt_sh]) (sh_bnd (h _ (j + 1)) fun t k=>rfl) rfl
theorem pS_sh:∀ (f:Nat) (r:Rs) (i:Nat),pS (a ++ l) f r (a.length + i)=shA a.length (pS l f r i)
 | 0,_,_=>rfl
 | f + 1,r,i=>stepS_sh a l (fun r i=>pS_sh f r i) r i
theorem pData_sh (f i:Nat):pData (a ++ l) f (a.length + i)=shA a.length (pData l f i):=by
 unfold pData
 refine sh_ite (by rw [kindAt_sh]) ?_ rfl
 rw [show nms (a ++ l) (a.length + i + 1)=nms l (i + 1) from nms_sh a l (i + 1),textAt_sh,show a.length + i + 1 + (nms l (i + 1)).length=a.length + (i + 1 + (nms l (i + 1)).length) by omega]
 exact sh_sgn a l fun j=>sh_bnd (pS_sh a l _ _ _) fun e k=>rfl
theorem pDef_sh (f i:Nat):pDef (a ++ l) f (a.length + i)=shA a.length (pDef l f i):=by
 unfold pDef
 refine sh_ite (by rw [kindAt_sh]) ?_ rfl
 rw [show nms (a ++ l) (a.length + i + 1)=nms l (i + 1) from nms_sh a l (i + 1),textAt_sh,show a.length + i + 1 + (nms l (i + 1)).length=a.length + (i + 1 + (nms l (i + 1)).length) by omega]
 exact sh_sgn a l fun j=>sh_bnd (pR_sh a l _ _ _) fun e k=>rfl
theorem pItem_sh (f i:Nat):pItem (a ++ l) f (a.length + i)=shA a.length (pItem l f i):=by
 unfold pItem
 exact sh_ite (by rw [isAt_sh]) (sh_bnd (pData_sh a l f (i + 1)) fun d k=>rfl) (sh_bnd (pDef_sh a l f i) fun d k=>rfl)
theorem pItems_sh (f:Nat):∀ (m i:Nat),pItems (a ++ l) f m (a.length + i)=shA a.length (pItems l f m i)
 | 0,_=>rfl
 | m + 1,i=>by
  rw [pItems,pItems]
  exact sh_bnd (pItem_sh a l f i) fun p j=>sh_ite (by rw [isAt_sh]) (sh_bnd (pItems_sh f m (j + 1)) fun q k=>rfl) (sh_sgn a l fun k=>rfl)
end
def sgT (s:Bs):Tk:=⟨4,s,0,0,0⟩
def nmT6 (s:Bs):Tk:=⟨2,s,0,0,0⟩
theorem nms_row (ns:List Bs) (t:Tk) (ht:t.kind≠2) (r:List Tk):nms (ns.map nmT6 ++ (t :: r)) 0=ns.map tS:=by
 unfold nms
 rw [List.drop_zero]
 induction ns with
 | nil=>simp [List.takeWhile_cons,ht]
 | cons n q ih =>
  rw [List.map_cons,List.cons_append,List.takeWhile_cons,if_pos (by simp [nmT6]),List.map_cons,ih]
  rfl
def lamT (ns:List Bs):List Tk:=ns.flatMap fun n=>[sgT [92],nmT6 n,sgT [45,62]]
theorem lamT_len (ns:List Bs):(lamT ns).length=3 * ns.length:=by
 induction ns with
 | nil=>rfl
 | cons n r ih=>unfold lamT at ih ⊢;rw [List.flatMap_cons,List.length_append,ih];simp;omega
theorem tkAt_app (X r:List Tk) (i:Nat):tkAt (X ++ r) (X.length + i)=tkAt r i:=tkAt_sh X r i
theorem pR_lam (t:List Tk) (f:Nat):∀ (ns:List Bs) (X:List Tk),pR (X ++ (lamT ns ++ t)) (f + ns.length) .expr X.length=(shA (X.length + (lamT ns).length) (pR t f .expr 0)).bnd fun e j=>ok6 [wrapL (ns.map tS) (headE e)] j
 | [],X=>by
  have h:=pR_sh X t f .expr 0
  rw [Nat.add_zero] at h
  show pR (X ++ t) f .expr X.length=(shA (X.length + 0) (pR t f .expr 0)).bnd _
  rw [h,Nat.add_zero]
  have h1:=pR_one6 t f .expr 0 rfl
  cases hp:pR t f .expr 0 with
  | none=>rfl
  | some x =>
   cases x with
   | error e=>rfl
   | ok q =>
    obtain ⟨es,j⟩:=q
    obtain ⟨e,rfl⟩:=h1 es j hp
    rfl
 | n :: r,X=>by
  have e1:X ++ (lamT (n :: r) ++ t)=(X ++ [sgT [92],nmT6 n,sgT [45,62]]) ++ (lamT r ++ t):=by simp [lamT]
  have ih:=pR_lam t f r (X ++ [sgT [92],nmT6 n,sgT [45,62]])
  have t0:tkAt (X ++ (lamT (n :: r) ++ t)) X.length=sgT [92]:=by have:=tkAt_app X (lamT (n :: r) ++ t) 0;rw [Nat.add_zero] at this;rw [this];rfl
  have t1:tkAt (X ++ (lamT (n :: r) ++ t)) (X.length + 1)=nmT6 n:=by rw [tkAt_app];rfl
  have t2:tkAt (X ++ (lamT (n :: r) ++ t)) (X.length + 2)=sgT [45,62]:=by rw [tkAt_app];rfl
  show stepR (X ++ (lamT (n :: r) ++ t)) (pR (X ++ (lamT (n :: r) ++ t)) (f + r.length)) .expr X.length=_
  simp only [stepR]
  rw [if_pos (by unfold isAt;rw [t0];rfl),if_pos (by unfold kindAt;rw [t1];rfl)]
  unfold sgn6
  rw [if_pos (by unfold isAt;rw [t2];rfl)]
  have hx:textAt (X ++ (lamT (n :: r) ++ t)) (X.length + 1)=tS n:=by unfold textAt;rw [t1];rfl
  rw [hx,e1]
  have hl:(X ++ [sgT [92],nmT6 n,sgT [45,62]]).length=X.length + 2 + 1:=by simp
  rw [hl] at ih
  show (pR (X ++ [sgT [92],nmT6 n,sgT [45,62]] ++ (lamT r ++ t)) (f + r.length) .expr (X.length + 2 + 1)).bnd (fun e k=>ok6 [Ex.mk 4 ex0 0 [tS n] e] k)=_
  rw [ih]
  have hlen:X.length + 2 + 1 + (lamT r).length=X.length + (lamT (n :: r)).length:=by rw [lamT_len,lamT_len,List.length_cons];omega
  rw [hlen]
  cases shA (X.length + (lamT (n :: r)).length) (pR t f .expr 0) with
  | none=>rfl
  | some x =>
   cases x with
   | error e=>rfl
   | ok q=>rfl
def tailK (t:List Tk) (F m:Nat) (d:Ans6 Df):Ans6 Pg:=(d.bnd fun d k=>ok6 (⟨[],[d]⟩:Pg) k).bnd fun p j=>if isAt t j semiT=true then (pItems t F m (j + 1)).bnd fun q k=>ok6 (p.add q) k else sgn6 t j bShut fun k=>ok6 p k
theorem tail_sh (X t:List Tk) (F m:Nat) {d d':Ans6 Df} (h:d'=shA X.length d):((d'.bnd fun d k=>ok6 (⟨[],[d]⟩:Pg) k).bnd fun p j=>if isAt (X ++ t) j semiT=true then (pItems (X ++ t) F m (j + 1)).bnd fun q k=>ok6 (p.add q) k else sgn6 (X ++ t) j bShut fun k=>ok6 p k)=shA X.length (tailK t F m d):=by
 unfold tailK
 exact sh_bnd (sh_bnd h fun x j=>rfl) fun p j=>sh_ite (by rw [isAt_sh]) (sh_bnd (pItems_sh X t F m (j + 1)) fun q k=>rfl) (sh_sgn X t fun k=>rfl)
theorem prog_name {l:List Tk} {nm:Bs} (h0:tkAt l 0=sgT bOpen) (h1:tkAt l 1=nmT6 nm) (m:Nat):pProg l (m + 1)=((pDef l (m + 1) 1).bnd fun d k=>ok6 (⟨[],[d]⟩:Pg) k).bnd fun p j=>if isAt l j semiT=true then (pItems l (m + 1) m (j + 1)).bnd fun q k=>ok6 (p.add q) k else sgn6 l j bShut fun k=>ok6 p k:=by
 have no:∀ s,¬ isAt l (0 + 1) s=true:=fun s=>by unfold isAt;rw [show (0 + 1)=1 from rfl,h1];simp [keyT,nmT6]
 unfold pProg sgn6
 rw [if_pos (by unfold isAt;rw [h0];rfl)]
 show (if isAt l (0 + 1) bShut=true then ok6 _ _ else pItems l (m + 1) (m + 1) (0 + 1))=_
 rw [if_neg (no _),pItems]
 unfold pItem
 rw [if_neg (no _)]
 rfl
theorem progF_params (nm:Bs) (ns:List Bs) (t:List Tk) :
  (∃ p,progF ((sgT bOpen :: nmT6 nm :: (ns.map nmT6 ++ [sgT [61]])) ++ t)=.ok p∧progF ((sgT bOpen :: nmT6 nm :: sgT [61] :: lamT ns) ++ t)=.ok p) ∨
  (∃ i j,progF ((sgT bOpen :: nmT6 nm :: (ns.map nmT6 ++ [sgT [61]])) ++ t)=.error i∧progF ((sgT bOpen :: nmT6 nm :: sgT [61] :: lamT ns) ++ t)=.error j):=by
 obtain ⟨A,hA⟩:∃ A,sgT bOpen :: nmT6 nm :: (ns.map nmT6 ++ [sgT [61]])=A:=⟨_,rfl⟩
 obtain ⟨B,hB⟩:∃ B,sgT bOpen :: nmT6 nm :: sgT [61] :: lamT ns=B:=⟨_,rfl⟩
 have hlA:A.length=ns.length + 3:=by rw [←hA];simp
 have hlB:B.length=3 * ns.length + 3:=by rw [←hB];simp [lamT_len]
 obtain ⟨f,hf⟩:∃ f,enough t + enough (A ++ t) + enough (B ++ t) + 1=f:=⟨_,rfl⟩
 obtain ⟨m,hm⟩:∃ m,f + ns.length=m + 1:=⟨f + ns.length - 1,by omega⟩
 have hDA:pDef (A ++ t) (m + 1) 1=shA A.length ((pR t (m + 1) .expr 0).bnd fun e k=>ok6 (⟨tS nm,wrapL (ns.map tS) (headE e)⟩:Df) k):=by
  have h1:tkAt (A ++ t) 1=nmT6 nm:=by rw [←hA];rfl
  have hn:nms (A ++ t) (1 + 1)=ns.map tS:=by
   have e:A ++ t=[sgT bOpen,nmT6 nm] ++ (ns.map nmT6 ++ (sgT [61] :: t)):=by rw [←hA];simp
   have:=nms_sh [sgT bOpen,nmT6 nm] (ns.map nmT6 ++ (sgT [61] :: t)) 0
   rw [e,show (1 + 1)=[sgT bOpen,nmT6 nm].length + 0 from rfl,this]
   exact nms_row ns _ (by decide) _
  have hq:tkAt (A ++ t) (1 + 1 + ns.length)=sgT [61]:=by
   have e:A ++ t=([sgT bOpen,nmT6 nm] ++ ns.map nmT6) ++ (sgT [61] :: t):=by rw [←hA];simp
   have:=tkAt_app ([sgT bOpen,nmT6 nm] ++ ns.map nmT6) (sgT [61] :: t) 0
   rw [e,show 1 + 1 + ns.length=([sgT bOpen,nmT6 nm] ++ ns.map nmT6).length + 0 by simp;omega,this]
   rfl
  unfold pDef
  rw [if_pos (by unfold kindAt;rw [h1];rfl),hn,List.length_map]
  unfold sgn6
  rw [if_pos (by unfold isAt;rw [hq];rfl),show textAt (A ++ t) 1=tS nm by unfold textAt;rw [h1];rfl]
  have hsh:=pR_sh A t (m + 1) .expr 0
  rw [Nat.add_zero] at hsh
  rw [show 1 + 1 + ns.length + 1=A.length by omega]
  exact sh_bnd hsh fun e k=>rfl
 have hDB:pDef (B ++ t) (m + 1) 1=shA B.length ((pR t f .expr 0).bnd fun e k=>ok6 (⟨tS nm,wrapL (ns.map tS) (headE e)⟩:Df) k):=by
  have h1:tkAt (B ++ t) 1=nmT6 nm:=by rw [←hB];rfl
  have h2:tkAt (B ++ t) (1 + 1)=sgT [61]:=by rw [←hB];rfl
  have hn:nms (B ++ t) (1 + 1)=[]:=nms_zero (by unfold kindAt;rw [h2];decide)
  have e:B ++ t=[sgT bOpen,nmT6 nm,sgT [61]] ++ (lamT ns ++ t):=by rw [←hB];simp
  have hl:=pR_lam t f ns [sgT bOpen,nmT6 nm,sgT [61]]
  rw [←e,hm,show [sgT bOpen,nmT6 nm,sgT [61]].length + (lamT ns).length=B.length by rw [hlB,lamT_len];simp;omega] at hl
  unfold pDef
  rw [if_pos (by unfold kindAt;rw [h1];rfl),hn]
  unfold sgn6
  rw [if_pos (by unfold isAt;rw [show 1 + 1 + ([]:List Str).length=1 + 1 from rfl,h2];rfl),show textAt (B ++ t) 1=tS nm by unfold textAt;rw [h1];rfl]
  show (pR (B ++ t) (m + 1) .expr [sgT bOpen,nmT6 nm,sgT [61]].length).bnd (fun e k=>ok6 (⟨tS nm,wrapL [] (headE e)⟩:Df) k)=_
  rw [hl]
  cases pR t f .expr 0 with
  | none=>rfl
  | some x =>
   cases x with
   | error e=>rfl
   | ok q=>rfl
 have hfu:pR t (m + 1) .expr 0=pR t f .expr 0:=by
  obtain ⟨x,hx,_⟩:=pR_total t f .expr 0 trivial (Nat.zero_le _) (by simp only [lvR];unfold enough at hf;omega)
  rw [hx,pR_mono (show f≤m + 1 by omega) .expr 0 x hx]
 have hPA:=prog_name (l:=A ++ t) (nm:=nm) (by rw [←hA];rfl) (by rw [←hA];rfl) m
 have hPB:=prog_name (l:=B ++ t) (nm:=nm) (by rw [←hB];rfl) (by rw [←hB];rfl) m
 rw [tail_sh A t (m + 1) m hDA,hfu] at hPA
 rw [tail_sh B t (m + 1) m hDB] at hPB
 obtain ⟨x,hx,_⟩:=pProg_ok (A ++ t) (m + 1) (by unfold enough at hf;omega)
 obtain ⟨y,hy,_⟩:=pProg_ok (B ++ t) (m + 1) (by unfold enough at hf;omega)
 have gA:=progF_of hx (by unfold enough at hf ⊢;omega)
 have gB:=progF_of hy (by unfold enough at hf ⊢;omega)
 rw [hA,hB,gA,gB]
 rw [hPA] at hx
 rw [hPB] at hy
 cases hk:tailK t (m + 1) m ((pR t f .expr 0).bnd fun e k=>ok6 (⟨tS nm,wrapL (ns.map tS) (headE e)⟩:Df) k) with
 | none=>rw [hk] at hx;cases hx
 | some z =>
  rw [hk] at hx hy
  cases z with
  | error e =>
   cases hx
   cases hy
   exact .inr ⟨_,_,rfl,rfl⟩
  | ok q =>
   obtain ⟨p,j⟩:=q
   cases hx
   cases hy
   simp only [wholeF,List.length_append]
   by_cases hj:j=t.length
   ·
    rw [if_pos (by rw [hj]),if_pos (by rw [hj])]
    exact .inl ⟨p,rfl,rfl⟩
   ·
    rw [if_neg (by omega),if_neg (by omega)]
    exact .inr ⟨_,_,rfl,rfl⟩
end Go.Proofs.YtinjocchommbdaaGreatDoor
