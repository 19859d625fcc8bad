/- A part of the proof that parser laws hold: texts of the walk and of its plain laws, made small. -/
import Derived.Test.YtinjocchommbdaaGreatDoorM07
import Derived.Test.YtinjocchommbdaaGreatDoorM24
set_option linter.unusedVariables false
set_option linter.unusedSimpArgs false
namespace Go.Proofs.YtinjocchommbdaaGreatDoor
theorem place_hit {l m:List Tk} (h:layF l=.ok m) (p:Nat):(l=[]∧placeT m p=(0,0))∨∃ t ∈ l,t.line=(placeT m p).1∧t.col=(placeT m p).2:=by
 cases l with
 | nil =>
  refine .inl ⟨rfl,?_⟩
  have:m=[]:=by
   unfold layF at h
   rw [layS] at h
   simp only [endS,Res.ok.injEq] at h
   exact h.symm
  rw [this]
  rfl
 | cons t r =>
  refine .inr ?_
  obtain ⟨o2,s2,q,_,_,hm⟩:=layS_cons (show layS none true [] (t :: r)=.ok m from h)
  have hne:m≠[]:=by rw [hm];simp
  have hpos:0 < m.length:=List.length_pos_iff.2 hne
  unfold placeT
  rw [if_neg hne]
  obtain ⟨k,hk⟩:∃ k,min p (m.length - 1)=k:=⟨_,rfl⟩
  have hkl:k < m.length:=by omega
  rw [hk]
  have hin:tkAt m k ∈ m:=by
   have:tkAt m k=m[k]:=by unfold tkAt;simp [List.getD,hkl]
   rw [this]
   exact List.getElem_mem hkl
  rcases layF_from h _ hin with hx | ⟨s,u,_,hu,hx⟩
  ·
   exact ⟨_,hx,rfl,rfl⟩
  ·
   exact ⟨u,hu,by rw [hx];exact ⟨rfl,rfl⟩⟩
end Go.Proofs.YtinjocchommbdaaGreatDoor
