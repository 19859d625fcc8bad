/- A part of the proof that parser laws hold: texts of the walk and of its plain laws, made small. -/
import Derived.Test.YtinjocchommbdaaGreatDoorM10
import Derived.Stop.RegionWithIn
set_option linter.unusedVariables false
set_option linter.unusedSimpArgs false
namespace Go.Proofs.YtinjocchommbdaaGreatDoor
section
variable {F:Fence} {n:Nat} {P:Program} {ops:Array Oper} {Q:Exit→Act→World→Prop} {md:Region.Mode}
def KeepIn (F:Fence) (n:Nat) (P:Program) (md:Region.Mode) (ops:Array Oper) (Q:Exit→Act→World→Prop) (I:(Nat→Bool)→Act→World→Prop) (i:Nat):Prop :=
 ∀ (f:Nat→Bool) (a:Act) (w:World),f i=false→(∀ d ∈ depsOf md ops i,f d=true)→(∀ j,f j=true→∀ d ∈ depsOf md ops j,f d=true)→I f a w→wpOpIn F n P ops Q i (fun a' w'=>I (fun j=>(i == j) || f j) a' w') a w
def KeepsIn (F:Fence) (n:Nat) (P:Program) (md:Region.Mode) (ops:Array Oper) (Q:Exit→Act→World→Prop) (I:(Nat→Bool)→Act→World→Prop) (rs:List Nat):Prop:=∀ i ∈ rs,KeepIn F n P md ops Q I i
theorem KeepsIn.nil {I:(Nat→Bool)→Act→World→Prop}:KeepsIn F n P md ops Q I []:=fun _ h=>by cases h
theorem KeepsIn.cons {I:(Nat→Bool)→Act→World→Prop} {i:Nat} {rs:List Nat} {o:Oper} {ds:List Nat} (ho:ops[i]?=some o) (hd:(ds.all fun d=>(depsOf md ops i).contains d)=true)
  (h:∀ (f:Nat→Bool) (a:Act) (w:World),f i=false→(∀ d ∈ ds,f d=true)→(∀ j d,(depsOf md ops j).contains d=true→f j=true→f d=true)→I f a w→∀ K':Act→World→Prop,(∀ a w,I (fun j=>(i == j) || f j) a w→K' a w)→if Region.wanted o (yielded ops a.tmps)=true then Oper.wpIn F n P o a w K' Q else (∀ f,o.about P w a.eval=some f→F.fn f)∧K' (a.put o.dst undef) w)
  (hs:KeepsIn F n P md ops Q I rs):KeepsIn F n P md ops Q I (i :: rs):=fun j hj=>by
 rcases List.mem_cons.1 hj with rfl | hj
 ·
  intro f a w h0 h1 hc h2
  exact wpOpIn_step ho (h f a w h0 (fun d hd'=>h1 d (by simpa using (List.all_eq_true.1 hd) d hd')) (fun j d hj hf=>hc j hf d (by simpa using hj)) h2)
 ·
  exact hs j hj
theorem wpAnyIn_inv (I:(Nat→Bool)→Act→World→Prop) (hlow:depsLow md ops=true)
  (step:∀ i,i < ops.size→KeepIn F n P md ops Q I i)
  (done:∀ (f:Nat→Bool) (a:Act) (w:World),(∀ i,i < ops.size→f i=true)→I f a w→Q .normal a w) :
  ∀ (fuel:Nat) (listed:Array Bool) (a:Act) (w:World),listed.size=ops.size→unl listed≤fuel→(∀ j,listed.getD j false=true→∀ d ∈ depsOf md ops j,listed.getD d false=true)→I (fun i=>listed.getD i false) a w→wpAnyIn F n P md ops Q fuel listed a w:=by
 have hall:∀ (listed:Array Bool),listed.size=ops.size→Region.ready md ops listed=[]→∀ i,i < ops.size→listed.getD i false=true:=by
  intro listed hs hr i
  induction i using Nat.strongRecOn with
  | _ i ih =>
  intro hi
  cases hb:listed.getD i false with
  | true=>rfl
  | false =>
   exfalso
   have:i ∈ Region.ready md ops listed:=by
    rw [mem_ready]
    refine ⟨?_,ops[i],by simp [hi],?_⟩
    ·
     have hi':i < listed.size:=by omega
     simp [hi'] at hb ⊢
     exact hb
    ·
     intro e he hbd
     have hl:e.on < i:=by
      unfold depsLow at hlow
      rw [List.all_eq_true] at hlow
      have h1:=hlow i (by simp [hi])
      rw [List.all_eq_true] at h1
      have h2:=h1 e.on (by
       unfold depsOf
       simp only [Array.getElem?_eq_getElem hi]
       exact List.mem_map.2 ⟨e,List.mem_filter.2 ⟨by simpa using he,hbd⟩,rfl⟩)
      simpa using h2
     exact ih e.on hl (by omega)
   rw [hr] at this
   cases this
 have heq:∀ (listed:Array Bool) (i:Nat),i < listed.size→(fun j=>(i == j) || listed.getD j false)=(fun j=>(listed.setIfInBounds i true).getD j false):=by
  intro listed i hi
  funext j
  by_cases hij:i=j
  ·
   subst hij;simp [hi]
  ·
   rw [getD_set_ne false hij]
   have:(i == j)=false:=by simpa using hij
   rw [this]
   rfl
 intro fuel
 induction fuel with
 | zero =>
  intro listed a w hs hu hcl hI
  have ha:=unl_zero listed (by omega)
  refine ⟨?_,done _ a w (fun i hi=>ha i (by omega)) hI⟩
  apply List.eq_nil_iff_forall_not_mem.2
  intro i hi
  have h1:=(mem_ready.1 hi).1
  obtain ⟨o,ho,_⟩:=(mem_ready.1 hi).2
  have hlt:i < listed.size:=by rw [hs];exact (Array.getElem?_eq_some_iff.1 ho).1
  have h2:=ha i hlt
  simp [hlt] at h1 h2
  rw [h1] at h2
  cases h2
 | succ fuel ih =>
  intro listed a w hs hu hcl hI
  refine ⟨fun hr=>done _ a w (hall listed hs hr) hI,fun i hi=>?_⟩
  obtain ⟨h1,o,ho,hdep⟩:=mem_ready.1 hi
  have hlt:i < ops.size:=(Array.getElem?_eq_some_iff.1 ho).1
  have hlt':i < listed.size:=by omega
  have hf:listed.getD i false=false:=by simp [hlt'] at h1 ⊢;exact h1
  have hmy:∀ d ∈ depsOf md ops i,listed.getD d false=true:=by
   intro d hd
   unfold depsOf at hd
   rw [ho] at hd
   obtain ⟨e,he,rfl⟩:=List.mem_map.1 hd
   obtain ⟨he1,he2⟩:=List.mem_filter.1 he
   exact hdep e (by simpa using he1) he2
  refine wpOpIn_mono (fun a' w' h'=>ih _ a' w' (by simp [hs]) ?_ ?_ ?_) (step i hlt (fun j=>listed.getD j false) a w hf ?_ hcl hI)
  ·
   have hg:listed.toList[i]?=some false:=by
    simp [hlt'] at hf
    simp [hlt',hf]
   have:=unl_list listed.toList i hg
   unfold unl at hu ⊢
   rw [Array.toList_setIfInBounds]
   omega
  ·
   intro j hj d hd
   by_cases hij:i=j
   ·
    subst hij
    exact getD_set_true (hmy d hd)
   ·
    rw [getD_set_ne false hij] at hj
    exact getD_set_true (hcl j hj d hd)
  ·
   rw [←heq listed i hlt'];exact h'
  ·
   exact hmy
theorem wpIn_region_inv (I:(Nat→Bool)→Act→World→Prop) {id:Nat} {a:Act} {w:World} {rs:List Nat} (hm:P.follows .mixedOrders=true) (hlow:depsLow .any ops=true) (hrs:List.range ops.size=rs)
  (start:I (fun _=>false) a w.drew)
  (steps:KeepsIn F n P .any ops Q I rs)
  (done:∀ (f:Nat→Bool) (a:Act) (w:World),(∀ i ∈ rs,f i=true)→I f a w→Q .normal a w):(Code.region id ops true).wpIn F n P Q a w:=by
 have hz:∀ j,(Array.replicate ops.size false).getD j false=false:=fun j=>by by_cases h:j < ops.size <;> simp [h]
 refine wpIn_region_any hm ?_
 refine wpAnyIn_inv I hlow (fun i hi=>steps i (by rw [←hrs];exact List.mem_range.2 hi)) (fun f a w hf hI=>done f a w (fun i hi=>hf i (by rw [←hrs] at hi;exact List.mem_range.1 hi)) hI) _ _ _ _ (by simp) (by rw [unl_rep];exact Nat.le_refl _) (fun j hj=>by rw [hz] at hj;cases hj) ?_
 have:(fun i=>(Array.replicate ops.size false).getD i false)=(fun _=>false):=by
  funext i
  by_cases h:i < ops.size <;> simp [h]
 rw [this]
 exact start
end
end Go.Proofs.YtinjocchommbdaaGreatDoor
