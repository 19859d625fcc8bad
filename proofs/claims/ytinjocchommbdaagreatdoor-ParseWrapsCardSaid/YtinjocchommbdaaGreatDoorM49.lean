/- A part of the proof that parser laws hold: texts of the walk and of its plain laws, made small. -/
import Derived.Test.YtinjocchommbdaaGreatDoorM07
import Derived.Test.YtinjocchommbdaaGreatDoorM06
import Derived.Test.YtinjocchommbdaaGreatDoorM48
import Derived.Test.YtinjocchommbdaaGreatDoorM42
set_option linter.unusedVariables false
set_option linter.unusedSimpArgs false
namespace Go.Proofs.YtinjocchommbdaaGreatDoor
open Go.RowKit
def szS:Sg→Nat
 | .mk _ l=>1 + szL l
where szL:List Sg→Nat
 | []=>0
 | e :: r=>szS e + szL r
theorem szL_app (a b:List Sg):szS.szL (a ++ b)=szS.szL a + szS.szL b:=by
 induction a with
 | nil=>simp [szS.szL]
 | cons e r ih=>simp only [List.cons_append,szS.szL,ih];omega
theorem ok6_eq {α:Type} {a b:α} {i j:Nat} (h:ok6 a i=some (.ok (b,j))):a=b∧i=j:=by
 unfold ok6 at h
 simp only [Option.some.injEq,Except.ok.injEq,Prod.mk.injEq] at h
 exact h
theorem pS_size (l:List Tk):∀ (f:Nat) (r:Rs) (i:Nat) (es:List Sg) (j:Nat),pS l f r i=some (.ok (es,j))→i + szS.szL es≤j
 | 0,_,_,_,_,h=>by cases h
 | f + 1,r,i,es,j,h=>by
  have ih:=fun r i es j=>pS_size l f r i es j
  rw [pS] at h
  cases r with
  | atom =>
   simp only [stepS] at h
   split at h
   ·
    obtain ⟨rfl,rfl⟩:=ok6_eq h
    simp [szS.szL,szS]
   ·
    obtain ⟨_,h⟩:=sgn_ok h
    obtain ⟨x,m,h1,h⟩:=bnd_ok h
    obtain ⟨_,h⟩:=sgn_ok h
    obtain ⟨rfl,rfl⟩:=ok6_eq h
    have:=ih _ _ _ _ h1
    omega
  | atoms =>
   simp only [stepS] at h
   split at h
   ·
    obtain ⟨x,m,h1,h⟩:=bnd_ok h
    obtain ⟨y,n,h2,h⟩:=bnd_ok h
    obtain ⟨rfl,rfl⟩:=ok6_eq h
    have:=ih _ _ _ _ h1
    have:=ih _ _ _ _ h2
    rw [szL_app]
    omega
   ·
    obtain ⟨rfl,rfl⟩:=ok6_eq h
    simp [szS.szL]
  | sig =>
   simp only [stepS] at h
   obtain ⟨x,m,h1,h⟩:=bnd_ok h
   have hx:i + szS.szL x≤m:=by
    split at h1
    ·
     obtain ⟨y,n,h2,h1⟩:=bnd_ok h1
     obtain ⟨rfl,rfl⟩:=ok6_eq h1
     have:=ih _ _ _ _ h2
     simp only [szS.szL,szS]
     omega
    ·
     exact ih _ _ _ _ h1
   split at h
   ·
    obtain ⟨y,n,h2,h⟩:=bnd_ok h
    obtain ⟨rfl,rfl⟩:=ok6_eq h
    have:=ih _ _ _ _ h2
    simp only [szS.szL,szS,szL_app]
    omega
   ·
    obtain ⟨rfl,rfl⟩:=ok6_eq h
    exact hx
  | forms =>
   simp only [stepS] at h
   split at h
   ·
    obtain ⟨x,m,h1,h⟩:=bnd_ok h
    have:=ih _ _ _ _ h1
    split at h
    ·
     obtain ⟨y,n,h2,h⟩:=bnd_ok h
     obtain ⟨rfl,rfl⟩:=ok6_eq h
     have:=ih _ _ _ _ h2
     simp only [szS.szL,szS]
     omega
    ·
     obtain ⟨rfl,rfl⟩:=ok6_eq h
     simp only [szS.szL,szS]
     omega
   ·
    cases h
def wE:Ex→Nat
 | .mk _ _ _ l ks=>1 + l.length + wL ks
where wL:List Ex→Nat
 | []=>0
 | e :: r=>wE e + wL r
theorem wL_app (a b:List Ex):wE.wL (a ++ b)=wE.wL a + wE.wL b:=by
 induction a with
 | nil=>simp [wE.wL]
 | cons e r ih=>simp only [List.cons_append,wE.wL,ih];omega
theorem wE_head {k:List Ex} {c i j:Nat} (h:wE.wL k + 1 + 2 * i≤2 * j + c * 2):wE (headE k) + 1 + 2 * i≤2 * j + c * 2:=by
 cases k with
 | nil=>simp only [headE,wE,wE.wL,List.length_nil] at h ⊢;omega
 | cons e r=>simp only [headE,wE.wL] at h ⊢;omega
theorem wE_head0 {k:List Ex} {i j:Nat} (h:wE.wL k + 1 + 2 * i≤2 * j):wE (headE k) + 1 + 2 * i≤2 * j:=wE_head (c:=0) (by omega)
def oneW:Rl→Nat
 | .apps _=>0
 | .ops _ _=>0
 | _=>1
def carW:Rl→Nat
 | .apps e=>wE e
 | .ops _ e=>wE e
 | _=>0
theorem pR_weight (l:List Tk):∀ (f:Nat) (r:Rl) (i:Nat) (es:List Ex) (j:Nat),pR l f r i=some (.ok (es,j))→wE.wL es + oneW r + 2 * i≤2 * j + carW r
 | 0,_,_,_,_,h=>by cases h
 | f + 1,r,i,es,j,h=>by
  have ih:=fun r i es j=>pR_weight l f r i es j
  rw [pR] at h
  cases r with
  | atom =>
   simp only [stepR] at h
   simp only [oneW,carW]
   split at h
   ·
    obtain ⟨rfl,rfl⟩:=ok6_eq h;simp [wE,wE.wL];omega
   ·
    split at h
    ·
     obtain ⟨rfl,rfl⟩:=ok6_eq h;simp [wE,wE.wL];omega
    ·
     split at h
     ·
      obtain ⟨rfl,rfl⟩:=ok6_eq h;simp [wE,wE.wL];omega
     ·
      obtain ⟨_,h⟩:=sgn_ok h
      obtain ⟨x,m,h1,h⟩:=bnd_ok h
      obtain ⟨_,h⟩:=sgn_ok h
      obtain ⟨rfl,rfl⟩:=ok6_eq h
      have:=ih _ _ _ _ h1
      simp only [oneW,carW] at this
      omega
  | apps e =>
   simp only [stepR] at h
   simp only [oneW,carW]
   split at h
   ·
    obtain ⟨x,m,h1,h⟩:=bnd_ok h
    have a1:=ih _ _ _ _ h1
    have a2:=ih _ _ _ _ h
    simp only [oneW,carW] at a1 a2
    have a3:=wE_head0 a1
    simp only [wE,wE.wL,List.length_nil] at a2
    omega
   ·
    obtain ⟨rfl,rfl⟩:=ok6_eq h
    simp only [wE.wL];omega
  | lev n =>
   cases n with
   | zero =>
    simp only [stepR] at h
    obtain ⟨x,m,h1,h⟩:=bnd_ok h
    have a1:=ih _ _ _ _ h1
    have a2:=ih _ _ _ _ h
    simp only [oneW,carW] at a1 a2 ⊢
    have a3:=wE_head0 a1
    omega
   | succ n =>
    simp only [stepR] at h
    obtain ⟨x,m,h1,h⟩:=bnd_ok h
    have a1:=ih _ _ _ _ h1
    have a2:=ih _ _ _ _ h
    simp only [oneW,carW] at a1 a2 ⊢
    have a3:=wE_head0 a1
    omega
  | ops n e =>
   simp only [stepR] at h
   simp only [oneW,carW]
   split at h
   ·
    obtain ⟨x,m,h1,h⟩:=bnd_ok h
    have a1:=ih _ _ _ _ h1
    have a2:=ih _ _ _ _ h
    simp only [oneW,carW] at a1 a2
    have a3:=wE_head0 a1
    simp only [wE,wE.wL,List.length_nil] at a2
    omega
   ·
    obtain ⟨rfl,rfl⟩:=ok6_eq h
    simp only [wE.wL];omega
  | comp =>
   simp only [stepR] at h
   simp only [oneW,carW]
   obtain ⟨x,m,h1,h⟩:=bnd_ok h
   have a1:=ih _ _ _ _ h1
   simp only [oneW,carW] at a1
   split at h
   ·
    obtain ⟨y,n,h2,h⟩:=bnd_ok h
    obtain ⟨rfl,rfl⟩:=ok6_eq h
    have a2:=ih _ _ _ _ h2
    simp only [oneW,carW] at a2
    have a3:=wE_head0 a1
    have a4:=wE_head0 a2
    simp only [wE,wE.wL,List.length_nil]
    omega
   ·
    obtain ⟨rfl,rfl⟩:=ok6_eq h
    omega
  | alt =>
   simp only [stepR] at h
   simp only [oneW,carW]
   split at h
   ·
    obtain ⟨_,h⟩:=sgn_ok h
    obtain ⟨x,m,h1,h⟩:=bnd_ok h
    obtain ⟨rfl,rfl⟩:=ok6_eq h
    have a1:=ih _ _ _ _ h1
    simp only [oneW,carW] at a1
    simp only [wE,wE.wL]
    omega
   ·
    cases h
  | line =>
   simp only [stepR] at h
   simp only [oneW,carW]
   split at h
   ·
    obtain ⟨x,m,h1,h⟩:=bnd_ok h
    obtain ⟨rfl,rfl⟩:=ok6_eq h
    have a1:=ih _ _ _ _ h1
    simp only [oneW,carW] at a1
    simp only [wE,wE.wL,List.length_cons,List.length_nil]
    omega
   ·
    exact ih _ _ _ _ h
  | items b =>
   simp only [stepR] at h
   simp only [oneW,carW]
   obtain ⟨x,m,h1,h⟩:=bnd_ok h
   have a1:=ih _ _ _ _ h1
   have a1:wE.wL x + 1 + 2 * i≤2 * m:=by cases b <;> simpa [oneW,carW] using a1
   split at h
   ·
    obtain ⟨y,n,h2,h⟩:=bnd_ok h
    obtain ⟨rfl,rfl⟩:=ok6_eq h
    have a2:=ih _ _ _ _ h2
    simp only [oneW,carW] at a2
    rw [wL_app]
    omega
   ·
    obtain ⟨_,h⟩:=sgn_ok h
    obtain ⟨rfl,rfl⟩:=ok6_eq h
    omega
  | expr =>
   simp only [stepR] at h
   simp only [oneW,carW]
   split at h
   ·
    split at h
    ·
     obtain ⟨_,h⟩:=sgn_ok h
     obtain ⟨x,m,h1,h⟩:=bnd_ok h
     obtain ⟨rfl,rfl⟩:=ok6_eq h
     have a1:=ih _ _ _ _ h1
     simp only [oneW,carW] at a1
     simp only [wE,wE.wL,List.length_cons,List.length_nil]
     omega
    ·
     cases h
   ·
    split at h
    ·
     split at h
     ·
      obtain ⟨_,h⟩:=sgn_ok h
      obtain ⟨x,m,h1,h⟩:=bnd_ok h
      obtain ⟨_,h⟩:=sgn_ok h
      obtain ⟨y,n,h2,h⟩:=bnd_ok h
      obtain ⟨rfl,rfl⟩:=ok6_eq h
      have a1:=ih _ _ _ _ h1
      have a2:=ih _ _ _ _ h2
      simp only [oneW,carW] at a1 a2
      simp only [wE,wE.wL,wL_app,List.length_cons,List.length_nil]
      omega
     ·
      cases h
    ·
     split at h
     ·
      obtain ⟨x,m,h1,h⟩:=bnd_ok h
      obtain ⟨_,h⟩:=sgn_ok h
      obtain ⟨_,h⟩:=sgn_ok h
      obtain ⟨y,n,h2,h⟩:=bnd_ok h
      obtain ⟨rfl,rfl⟩:=ok6_eq h
      have a1:=ih _ _ _ _ h1
      have a2:=ih _ _ _ _ h2
      simp only [oneW,carW] at a1 a2
      simp only [wE,wE.wL,wL_app,List.length_nil]
      omega
     ·
      split at h
      ·
       obtain ⟨x,m,h1,h⟩:=bnd_ok h
       obtain ⟨_,h⟩:=sgn_ok h
       obtain ⟨y,n,h2,h⟩:=bnd_ok h
       obtain ⟨_,h⟩:=sgn_ok h
       obtain ⟨z,q,h3,h⟩:=bnd_ok h
       obtain ⟨rfl,rfl⟩:=ok6_eq h
       have a1:=ih _ _ _ _ h1
       have a2:=ih _ _ _ _ h2
       have a3:=ih _ _ _ _ h3
       simp only [oneW,carW] at a1 a2 a3
       simp only [wE,wE.wL,wL_app,List.length_nil]
       omega
      ·
       split at h
       ·
        obtain ⟨_,h⟩:=sgn_ok h
        obtain ⟨x,m,h1,h⟩:=bnd_ok h
        obtain ⟨rfl,rfl⟩:=ok6_eq h
        have a1:=ih _ _ _ _ h1
        simp only [oneW,carW] at a1
        simp only [wE,wE.wL,List.length_nil]
        omega
       ·
        split at h
        ·
         obtain ⟨_,h⟩:=sgn_ok h
         obtain ⟨x,m,h1,h⟩:=bnd_ok h
         obtain ⟨rfl,rfl⟩:=ok6_eq h
         have a1:=ih _ _ _ _ h1
         simp only [oneW,carW] at a1
         simp only [wE,wE.wL,List.length_nil]
         omega
        ·
         exact ih _ _ _ _ h
theorem exprF_weight {l:List Tk} {e:Ex} (h:exprF l=.ok e):wE e≤2 * l.length:=by
 obtain ⟨f,hf⟩:=exprF_ok h
 have:=pR_weight l _ _ _ _ _ hf
 simp only [oneW,carW,wE.wL] at this
 omega
theorem wE_wrap (e:Ex):∀ (ns:List Str),wE (wrapL ns e)=2 * ns.length + wE e
 | []=>by simp [wrapL]
 | n :: r=>by simp only [wrapL,wE,wE.wL,wE_wrap e r,List.length_cons,List.length_nil];omega
theorem pItems_size {l:List Tk} {f:Nat}:∀ (m i:Nat) {p:Pg} {j:Nat},i≤l.length→pItems l f m i=some (.ok (p,j))→(∀ d ∈ p.datas,szS.szL d.forms≤l.length∧d.params.length≤l.length)∧∀ d ∈ p.defs,wE d.body≤2 * l.length
 | 0,_,_,_,_,h=>by cases h
 | m + 1,i,p,j,hi,h=>by
  rw [pItems] at h
  obtain ⟨x,n,h1,h⟩:=bnd_ok h
  have hn:=(pItem_cut (Pre6.self l) (f:=f) (g:=f + 24) hi (Nat.le_refl _)) _ _ h1
  have hx:(∀ d ∈ x.datas,szS.szL d.forms≤l.length∧d.params.length≤l.length)∧∀ d ∈ x.defs,wE d.body≤2 * l.length:=by
   unfold pItem at h1
   split at h1
   ·
    obtain ⟨d,k,h2,h1⟩:=bnd_ok h1
    obtain ⟨rfl,rfl⟩:=ok6_eq h1
    refine ⟨fun d' hd=>?_,fun d' hd=>by simp at hd⟩
    rw [List.mem_singleton] at hd
    subst hd
    unfold pData at h2
    split at h2
    ·
     obtain ⟨_,h2⟩:=sgn_ok h2
     obtain ⟨fs,k',h3,h2⟩:=bnd_ok h2
     obtain ⟨rfl,rfl⟩:=ok6_eq h2
     have:=pS_size _ _ _ _ _ _ h3
     have:=hn.2.1
     show szS.szL fs≤_∧(nms l _).length≤_
     omega
    ·
     cases h2
   ·
    obtain ⟨d,k,h2,h1⟩:=bnd_ok h1
    obtain ⟨rfl,rfl⟩:=ok6_eq h1
    refine ⟨fun d' hd=>by simp at hd,fun d' hd=>?_⟩
    rw [List.mem_singleton] at hd
    subst hd
    unfold pDef at h2
    split at h2
    ·
     obtain ⟨_,h2⟩:=sgn_ok h2
     obtain ⟨e,k',h3,h2⟩:=bnd_ok h2
     obtain ⟨rfl,rfl⟩:=ok6_eq h2
     have a1:=pR_weight _ _ _ _ _ _ h3
     simp only [oneW,carW] at a1
     have a2:=wE_head0 a1
     have:=hn.2.1
     show wE (wrapL _ _)≤_
     rw [wE_wrap]
     omega
    ·
     cases h2
  split at h
  ·
   have hb:=isAt_lt ‹isAt l n semiT=true›
   obtain ⟨q,k,h2,h⟩:=bnd_ok h
   obtain ⟨rfl,rfl⟩:=ok6_eq h
   have hq:=pItems_size m (n + 1) (by omega) h2
   refine ⟨fun d hd=>?_,fun d hd=>?_⟩
   ·
    rcases List.mem_append.1 hd with hd | hd
    ·
     exact hx.1 d hd
    ·
     exact hq.1 d hd
   ·
    rcases List.mem_append.1 hd with hd | hd
    ·
     exact hx.2 d hd
    ·
     exact hq.2 d hd
  ·
   obtain ⟨_,h⟩:=sgn_ok h
   obtain ⟨rfl,rfl⟩:=ok6_eq h
   exact hx
theorem progF_size {l:List Tk} {p:Pg} (h:progF l=.ok p):(∀ d ∈ p.datas,szS.szL d.forms≤l.length∧d.params.length≤l.length)∧∀ d ∈ p.defs,wE d.body≤2 * l.length:=by
 have h:=progF_ok h
 unfold pProg at h
 obtain ⟨_,h⟩:=sgn_ok h
 split at h
 ·
  obtain ⟨rfl,_⟩:=ok6_eq h
  exact ⟨fun d hd=>by simp at hd,fun d hd=>by simp at hd⟩
 ·
  exact pItems_size _ _ (by have:=isAt_lt ‹isAt l 0 bOpen=true›;omega) h
theorem join_sumP (l:List (List UInt8)) (sep:List UInt8):(Lib.join l sep).length≤(l.map fun y=>sep.length + y.length).sum:=by
 cases l with
 | nil=>simp [Lib.join_nil]
 | cons x r=>rw [join_len];simp only [List.map_cons,List.sum_cons];omega
theorem fit20 {s:Str} (h:fitB s=true):(bs s).length≤20:=by
 simp only [fitB,Bool.and_eq_true,decide_eq_true_eq,Lib.toList_data] at h
 exact h.1.2
theorem head20 {s:Str} {n:Nat} (h:headS5 s n=true):(bs s).length≤20:=by
 simp only [headS5,Bool.or_eq_true,Bool.and_eq_true] at h
 rcases h with (h | h) | h
 ·
  exact fit20 (conB_fit h)
 ·
  exact fit20 (nameB_fit h.1)
 ·
  have e:bs s=[45,62]:=by
   have:=eq_of_beq h.1
   rwa [Lib.toList_data] at this
  rw [e];decide
theorem sum_all {α:Type} (f g:α→Nat):∀ (l:List α),(∀ x ∈ l,f x≤g x)→(l.map f).sum≤(l.map g).sum
 | [],_=>Nat.le_refl _
 | x :: r,h=>by
  have:=h x (by simp)
  have:=sum_all f g r fun y hy=>h y (by simp [hy])
  simp only [List.map_cons,List.sum_cons]
  omega
theorem szL_sum (l:List Sg):(l.map fun e=>30 * szS e).sum=30 * szS.szL l:=by
 induction l with
 | nil=>rfl
 | cons e r ih=>simp only [List.map_cons,List.sum_cons,szS.szL,ih];omega
theorem sum_const {α:Type} (c:Nat) (l:List α):(l.map fun _=>c).sum=l.length * c:=by
 induction l with
 | nil=>simp
 | cons e r ih=>simp only [List.map_cons,List.sum_cons,ih,List.length_cons,Nat.succ_mul];omega
theorem atom_size:∀ (e:Sg) (most:Int),sigB e most=true→(sgAtom e).length + 5≤30 * szS e:=by
 refine Sg.ind fun s l ih most h=>?_
 simp only [sigB,sigL_all,Bool.and_eq_true,List.all_eq_true] at h
 have hn:=head20 h.1.2
 have hk:=fun e he=>ih e he _ (h.2 e he)
 unfold sgAtom
 split
 ·
  show (bs s).length + 5≤_
  simp only [szS];omega
 ·
  have ha:(sgText.sgAtoms l).map (fun y=>4 + y.length)=l.map fun e=>4 + (sgAtom e).length:=by rw [sgAtoms_map,List.map_map];rfl
  have hs:(l.map fun e=>4 + (sgAtom e).length).sum≤30 * szS.szL l:=by
   rw [←szL_sum]
   exact sum_all _ _ l fun e he=>by have:=hk e he;omega
  have ht:(sgText (.mk s l)).length≤20 + (l.map fun e=>4 + (sgAtom e).length).sum:=by
   rw [←ha]
   simp only [sgText,sgBody]
   generalize hL:sgText.sgAtoms l=L
   have hLl:L.length=l.length:=by rw [←hL,sgAtoms_map,List.length_map]
   split
   ·
    rename_i h2
    rw [←hLl] at h2
    match L,h2.2 with
    | [a,b],_ =>
     refine Nat.le_trans (join_sumP _ _) ?_
     simp
     omega
   ·
    rw [join_len]
    have:=sum_all (fun y:List UInt8=>[(32:UInt8)].length + y.length) (fun y=>4 + y.length) L fun y _=>by simp
    omega
  unfold paren
  simp only [List.length_append,List.length_cons,List.length_nil,szS]
  omega
def wsum (l:List Str):Nat:=(l.map fun s=>1 + (bs s).length).sum
theorem wsum_app (a b:List Str):wsum (a ++ b)=wsum a + wsum b:=by simp [wsum]
theorem joinSp_wsum (l:List Str):(joinSp l).length≤wsum l:=by
 refine Nat.le_trans (join_sumP _ _) ?_
 rw [List.map_map]
 exact Nat.le_refl _
theorem form_size {f:Sg} (h:formB f=true):wsum (formW f) + 2≤30 * szS f:=by
 simp only [formB,Bool.and_eq_true,List.all_eq_true] at h
 have h1:=fit20 (conB_fit h.1.1)
 obtain ⟨s,l⟩:=f
 have h2:(l.map fun e=>1 + (sgAtom e).length).sum≤30 * szS.szL l:=by
  rw [←szL_sum]
  exact sum_all _ _ l fun e he=>by have:=atom_size e 30 (h.2 e he);omega
 have e:wsum (formW (.mk s l))=(1 + (bs s).length) + (l.map fun e=>1 + (sgAtom e).length).sum:=by
  unfold wsum formW
  rw [List.map_cons,List.sum_cons,List.map_map]
  rfl
 have h1':(bs s).length≤20:=h1
 rw [e]
 simp only [szS]
 omega
theorem bars_size:∀ (r:List Sg),(∀ f ∈ r,formB f=true)→wsum (r.flatMap fun f=>(⟨#[124]⟩:Str) :: formW f)≤30 * szS.szL r
 | [],_=>Nat.le_refl _
 | x :: r,h=>by
  have h1:=form_size (h x (by simp))
  have h2:=bars_size r fun y hy=>h y (List.mem_cons_of_mem x hy)
  rw [List.flatMap_cons,wsum_app,show ((⟨#[124]⟩:Str) :: formW x)=[⟨#[124]⟩] ++ formW x from rfl,wsum_app]
  have:wsum [(⟨#[124]⟩:Str)]=2:=rfl
  simp only [szS.szL]
  omega
theorem forms_size:∀ (l:List Sg),(∀ f ∈ l,formB f=true)→wsum (formsW l)≤30 * szS.szL l
 | [],_=>Nat.zero_le _
 | f :: r,h=>by
  have h1:=form_size (h f (by simp))
  have h2:=bars_size r fun x hx=>h x (List.mem_cons_of_mem f hx)
  rw [formsW,wsum_app]
  simp only [szS.szL]
  omega
theorem names_size (l:List Str) (h:∀ x ∈ l,fitB x=true):wsum l≤l.length * 21:=by
 rw [←sum_const]
 exact sum_all _ _ l fun x hx=>by have:=fit20 (h x hx);omega
theorem data_size {d:Dt} (h:datB d=true) {n:Nat} (hn:szS.szL d.forms≤n∧d.params.length≤n):(dataT d).length≤100 + 60 * n:=by
 simp only [datB,namesB,Bool.and_eq_true,List.all_eq_true,decide_eq_true_eq] at h
 refine Nat.le_trans (joinSp_wsum _) ?_
 have h1:=fit20 (conB_fit h.1.1.1.1)
 have h2:=names_size d.params fun x hx=>nameB_fit (h.1.1.1.2.1 x hx)
 have h3:=forms_size d.forms h.2
 unfold dataW
 rw [wsum_app,wsum_app,wsum_app]
 have e1:wsum [(⟨#[100,97,116,97]⟩:Str),d.name]=5 + (1 + (bs d.name).length):=rfl
 have e2:wsum [(⟨#[61]⟩:Str)]=2:=rfl
 omega
theorem nmT_wsum (l:List Str):(nmT l).length=wsum l:=by
 induction l with
 | nil=>rfl
 | cons x r ih =>
  unfold nmT at ih
  unfold wsum nmT
  rw [List.flatMap_cons,List.map_cons,List.sum_cons,List.length_append,List.length_cons,ih]
  unfold wsum
  omega
theorem seq_w (r:List Ex) (h:∀ e ∈ r,(textE e).length + 3≤100 * wE e):(seqT (r.map textE)).length≤100 * wE.wL r:=by
 induction r with
 | nil=>simp [seqT,Lib.join_nil]
 | cons x r ih =>
  have h1:=h x (by simp)
  have h2:=ih fun y hy=>h y (by simp [hy])
  cases r with
  | nil=>simp only [List.map_cons,List.map_nil,seq_one,wE.wL];omega
  | cons y r =>
   simp only [List.map_cons,seq_cons,List.length_append,List.length_cons,List.length_nil,wE.wL] at h2 ⊢
   omega
theorem text_w:∀ {e:Ex},Snd e→NumOk e→(textE e).length + 3≤100 * wE e:=by
 intro e h
 induction h with
 | @int n h0 =>
  intro hn
  have:=Lib.itoa_length_le n (num_open hn).1.1 (num_open hn).1.2
  rw [tx_int];simp only [wE,wE.wL,List.length_nil];omega
 | @var s h =>
  intro _;have:=fit20 (nameB_fit h)
  rw [tx_var];simp only [wE,wE.wL,List.length_nil];omega
 | @con s h =>
  intro _;have:=fit20 (conB_fit h)
  rw [tx_con];simp only [wE,wE.wL,List.length_nil];omega
 | @lam x a h _ _ ih =>
  intro hn
  have:=ih ((num_open hn).2 _ (by simp))
  have:=fit20 (nameB_fit h)
  rw [tx_lam];simp only [List.length_cons,List.length_append,List.length_nil,wE,wE.wL];omega
 | @app a b _ _ _ _ i1 i2 =>
  intro hn
  have:=i1 ((num_open hn).2 _ (by simp))
  have:=i2 ((num_open hn).2 _ (by simp))
  have:=atom_le a;have:=atom_le b
  rw [tx_app];simp only [List.length_cons,List.length_append,List.length_nil,wE,wE.wL];omega
 | @lt x a b h _ _ _ _ i1 i2 =>
  intro hn
  have:=i1 ((num_open hn).2 _ (by simp))
  have:=i2 ((num_open hn).2 _ (by simp))
  have:=fit20 (nameB_fit h)
  rw [tx_let];simp only [List.length_cons,List.length_append,List.length_nil,wE,wE.wL];omega
 | @cs a r _ _ _ _ _ i1 i2 =>
  intro hn
  have:=i1 ((num_open hn).2 _ (by simp))
  have:=seq_w r fun e he=>i2 e he ((num_open hn).2 _ (by simp [he]))
  rw [tx_case];simp only [List.length_cons,List.length_append,List.length_nil,wE,wE.wL];omega
 | @alt c l a h hl _ _ ih =>
  intro hn
  simp only [namesB,Bool.and_eq_true,List.all_eq_true] at hl
  have:=ih ((num_open hn).2 _ (by simp))
  have:=fit20 (conB_fit h)
  have:=names_size l fun x hx=>nameB_fit (hl.1 x hx)
  have:=nmT_wsum l
  rw [tx_alt];simp only [List.length_cons,List.length_append,List.length_nil,wE,wE.wL];omega
 | @op o a b h _ _ _ _ i1 i2 =>
  intro hn
  have:=i1 ((num_open hn).2 _ (by simp))
  have:=i2 ((num_open hn).2 _ (by simp))
  have:=atom_le a;have:=atom_le b
  have ho:(bs o).length≤2:=by
   have:=op_some h
   simp only [List.mem_cons,List.not_mem_nil,or_false] at this
   rcases this with h | h | h | h | h | h <;> rw [h] <;> decide
  rw [tx_op];simp only [List.length_cons,List.length_append,List.length_nil,wE,wE.wL];omega
 | @iff a b c _ _ _ _ _ _ i1 i2 i3 =>
  intro hn
  have:=i1 ((num_open hn).2 _ (by simp))
  have:=i2 ((num_open hn).2 _ (by simp))
  have:=i3 ((num_open hn).2 _ (by simp))
  rw [tx_if];simp only [List.length_cons,List.length_append,List.length_nil,wE,wE.wL];omega
 | @blk k r z h _ _ _ _ i1 i2 =>
  intro hn
  have:=seq_w (r ++ [z]) fun e he=>by
   rcases List.mem_append.1 he with h | h
   ·
    exact i1 e h ((num_open hn).2 _ he)
   ·
    rw [List.mem_singleton] at h;subst h;exact i2 ((num_open hn).2 _ he)
  rcases h with rfl | rfl
  ·
   rw [tx_do];simp only [List.length_cons,List.length_append,List.length_nil,wE] at this ⊢;omega
  ·
   rw [tx_dos];simp only [List.length_cons,List.length_append,List.length_nil,wE] at this ⊢;omega
 | @bind x a h _ _ ih =>
  intro hn
  have:=ih ((num_open hn).2 _ (by simp))
  have:=fit20 (nameB_fit h)
  rw [tx_bind];simp only [List.length_cons,List.length_append,List.length_nil,wE,wE.wL];omega
theorem chk_len {e:Ex} (h:chkB e=true) (hn:NumOk e):(textE e).length≤100 * wE e:=by
 have:=text_w (chk_snd h) hn
 omega
theorem pg_num {w:World} {v:Value} {p:Pg} (h:IsPg w v p):∀ d ∈ p.defs,NumOk d.body:=by
 obtain ⟨_,_,_,_,_,_,_,_,h⟩:=h
 intro d hd
 rcases h with h | ⟨b,off,_,h⟩
 ·
  rw [h] at hd;simp at hd
 ·
  obtain ⟨i,hi,rfl⟩:=List.getElem_of_mem hd
  obtain ⟨_,_,_,_,_,_,_,_,_,_,_,_,_,_,_,_,_,_,ge⟩:=h i hi
  exact IsEx.numOk _ _ ge.2
theorem prog_len6 {l:List Tk} {p:Pg} (h:progF l=.ok p) (hl:l.length≤100000) (hp:progB p=true) (hn:∀ d ∈ p.defs,NumOk d.body):(progT p).length≤1099511627775:=by
 simp only [progB,Bool.and_eq_true,decide_eq_true_eq,List.all_eq_true] at hp
 obtain ⟨⟨⟨h1,h2⟩,h3⟩,h4⟩:=hp
 have s1:∀ x ∈ progL p,3 + x.length≤100000000:=by
  intro x hx
  rcases List.mem_append.1 hx with hx | hx
  ·
   obtain ⟨d,hd,rfl⟩:=List.mem_map.1 hx
   have:=data_size (h3 d hd) ((progF_size h).1 d hd)
   omega
  ·
   obtain ⟨d,hd,rfl⟩:=List.mem_map.1 hx
   have hb:=h4 d hd
   simp only [defB,Bool.and_eq_true] at hb
   have e1:=fit20 (nameB_fit hb.1)
   have e2:=chk_len hb.2 (hn d hd)
   have e5:=(progF_size h).2 d hd
   have e3:=joinSp_wsum (defW d)
   have e4:wsum (defW d)=(1 + (bs d.name).length) + (2 + (1 + (textE d.body).length)):=rfl
   show 3 + (joinSp (defW d)).length≤_
   omega
 have s2:=join_sumP (progL p) [32,59,32]
 have s3:=sum_all (fun y:List UInt8=>[(32:UInt8),59,32].length + y.length) (fun _=>100000000) (progL p) s1
 have s4:(progL p).length≤80:=by simp only [progL,List.length_append,List.length_map];omega
 rw [sum_const] at s3
 unfold progT
 split
 ·
  simp
 ·
  have s5:=joinSp_wsum (progW p)
  have s6:wsum (progW p)=2 + ((1 + (Lib.join (progL p) [32,59,32]).length) + 2):=rfl
  omega
end Go.Proofs.YtinjocchommbdaaGreatDoor
