/- A part of the proof that parser laws hold: texts of the walk and of its plain laws, made small. -/
import Derived.Test.YtinjocchommbdaaGreatDoorM29
import Derived.Test.YtinjocchommbdaaGreatDoorM34
import Derived.Test.YtinjocchommbdaaGreatDoorM00
set_option linter.unusedVariables false
set_option linter.unusedSimpArgs false
namespace Go.Proofs.YtinjocchommbdaaGreatDoor
def inner (e:Ex):Prop:=e.kind≠8∧e.kind≠13
inductive Snd:Ex→Prop
 | int {n:Int} (h:0≤n):Snd (.mk 1 ⟨#[]⟩ n [] [])
 | var {s:Str} (h:nameB s=true):Snd (.mk 2 s 0 [] [])
 | con {s:Str} (h:conB s=true):Snd (.mk 3 s 0 [] [])
 | lam {x:Str} {a:Ex} (h:nameB x=true) (ha:Snd a) (ia:inner a):Snd (.mk 4 ⟨#[]⟩ 0 [x] [a])
 | app {a b:Ex} (ha:Snd a) (ia:inner a) (hb:Snd b) (ib:inner b):Snd (.mk 5 ⟨#[]⟩ 0 [] [a,b])
 | lt {x:Str} {a b:Ex} (h:nameB x=true) (ha:Snd a) (ia:inner a) (hb:Snd b) (ib:inner b):Snd (.mk 6 ⟨#[]⟩ 0 [x] [a,b])
 | cs {a:Ex} {r:List Ex} (ha:Snd a) (ia:inner a) (hr:r≠[]) (hk:∀ e ∈ r,e.kind=8) (hs:∀ e ∈ r,Snd e):Snd (.mk 7 ⟨#[]⟩ 0 [] (a :: r))
 | alt {c:Str} {l:List Str} {a:Ex} (h:conB c=true) (hl:namesB l=true) (ha:Snd a) (ia:inner a):Snd (.mk 8 c 0 l [a])
 | op {o:Str} {a b:Ex} (h:(doesB o || holdsB o)=true) (ha:Snd a) (ia:inner a) (hb:Snd b) (ib:inner b):Snd (.mk 9 o 0 [] [a,b])
 | iff {a b c:Ex} (ha:Snd a) (ia:inner a) (hb:Snd b) (ib:inner b) (hc:Snd c) (ic:inner c):Snd (.mk 10 ⟨#[]⟩ 0 [] [a,b,c])
 | blk {k:Int} {r:List Ex} {z:Ex} (h:k=11∨k=12) (hk:∀ e ∈ r,e.kind≠8) (hs:∀ e ∈ r,Snd e) (hz:Snd z) (iz:inner z):Snd (.mk k ⟨#[]⟩ 0 [] (r ++ [z]))
 | bind {x:Str} {a:Ex} (h:nameB x=true) (ha:Snd a) (ia:inner a):Snd (.mk 13 ⟨#[]⟩ 0 [x] [a])
theorem str_nil {s:Str} (h:s.toList.isEmpty=true):s=⟨#[]⟩:=by
 rw [Lib.toList_data] at h
 obtain ⟨⟨l⟩⟩:=s
 simp at h;rw [h]
theorem mayK0 {j:Int} (h:mayK j 0=true):j≠8∧j≠13:=by
 simp only [mayK,Bool.not_eq_true',Bool.and_eq_false_iff,Bool.or_eq_false_iff,beq_eq_false_iff_ne,bne_eq_false_iff_eq] at h
 rcases h with h | h
 ·
  exact h
 ·
  subst h;decide
theorem names1 {l:List Str} (hl:(l.length:Int)=1) (hn:namesB l=true):∃ x,l=[x]∧nameB x=true:=by
 obtain ⟨x,rfl⟩:=len1 (by omega:l.length=1)
 refine ⟨x,rfl,?_⟩
 simp only [namesB,List.all_cons,List.all_nil,Bool.and_true,Bool.and_eq_true] at hn
 exact hn.1
theorem snd_of:∀ e,sndR e=true→Snd e:=by
 refine Ex.ind fun k s n l ks ih h=>?_
 rw [sndR,allP,allPL_all,Bool.and_eq_true] at h
 obtain ⟨hq,hk⟩:=h
 have hkids:∀ e ∈ ks,Snd e:=fun e he=>ih e he (List.all_eq_true.1 hk e he)
 clear ih hk
 simp only [sndQ,Bool.and_eq_true,decide_eq_true_eq] at hq
 obtain ⟨⟨⟨⟨⟨⟨⟨hk1,hk2⟩,hnm⟩,hl⟩,hb⟩,hn⟩,hln⟩,hkn⟩:=hq
 have hin:k≠7→k≠11→k≠12→∀ e ∈ ks,inner e:=fun a b c e he=>by
  rw [below_plain ks a b c,List.all_eq_true] at hb
  exact mayK0 (hb e he)
 rcases show k=1∨k=2∨k=3∨k=4∨k=5∨k=6∨k=7∨k=8∨k=9∨k=10∨k=11∨k=12∨k=13 by omega with rfl | rfl | rfl | rfl | rfl | rfl | rfl | rfl | rfl | rfl | rfl | rfl | rfl
 ·
  simp [namedB] at hnm;simp [namesK] at hln;simp [kidsK] at hkn;simp at hn
  have e1:=str_nil (s:=s) (by simpa using hnm)
  obtain rfl:ks=[]:=by cases ks with | nil=>rfl | cons=>simp at hkn <;> omega
  obtain rfl:l=[]:=by cases l with | nil=>rfl | cons=>simp at hln <;> omega
  rw [e1];exact .int hn
 ·
  simp [namedB] at hnm;simp [namesK] at hln;simp [kidsK] at hkn;simp at hn
  obtain rfl:ks=[]:=by cases ks with | nil=>rfl | cons=>simp at hkn <;> omega
  obtain rfl:l=[]:=by cases l with | nil=>rfl | cons=>simp at hln <;> omega
  rw [hn];exact .var hnm
 ·
  simp [namedB] at hnm;simp [namesK] at hln;simp [kidsK] at hkn;simp at hn
  obtain rfl:ks=[]:=by cases ks with | nil=>rfl | cons=>simp at hkn <;> omega
  obtain rfl:l=[]:=by cases l with | nil=>rfl | cons=>simp at hln <;> omega
  rw [hn];exact .con hnm
 ·
  simp [namedB] at hnm;simp [namesK] at hln;simp [kidsK] at hkn;simp at hn
  have e1:=str_nil (s:=s) (by simpa using hnm)
  obtain ⟨a,rfl⟩:=len1 (show ks.length=1 by omega)
  obtain ⟨x,rfl,hx⟩:=names1 (by omega) hl
  rw [e1,hn];exact .lam hx (hkids a (by simp)) (hin (by decide) (by decide) (by decide) a (by simp))
 ·
  simp [namedB] at hnm;simp [namesK] at hln;simp [kidsK] at hkn;simp at hn
  have e1:=str_nil (s:=s) (by simpa using hnm)
  obtain ⟨a,b,rfl⟩:=len2 (show ks.length=2 by omega)
  obtain rfl:l=[]:=by cases l with | nil=>rfl | cons=>simp at hln <;> omega
  rw [e1,hn];exact .app (hkids a (by simp)) (hin (by decide) (by decide) (by decide) a (by simp)) (hkids b (by simp)) (hin (by decide) (by decide) (by decide) b (by simp))
 ·
  simp [namedB] at hnm;simp [namesK] at hln;simp [kidsK] at hkn;simp at hn
  have e1:=str_nil (s:=s) (by simpa using hnm)
  obtain ⟨a,b,rfl⟩:=len2 (show ks.length=2 by omega)
  obtain ⟨x,rfl,hx⟩:=names1 (by omega) hl
  rw [e1,hn];exact .lt hx (hkids a (by simp)) (hin (by decide) (by decide) (by decide) a (by simp)) (hkids b (by simp)) (hin (by decide) (by decide) (by decide) b (by simp))
 ·
  simp [namedB] at hnm;simp [namesK] at hln;simp at hn
  have e1:=str_nil (s:=s) (by simpa using hnm)
  obtain rfl:l=[]:=by cases l with | nil=>rfl | cons=>simp at hln <;> omega
  rw [below_case] at hb
  simp only [Bool.and_eq_true,decide_eq_true_eq] at hb
  obtain ⟨⟨h2,hh⟩,hw⟩:=hb
  cases ks with
  | nil=>simp at h2
  | cons a r =>
   simp only [List.drop_succ_cons,List.drop_zero,List.all_eq_true,beq_iff_eq] at hw
   simp at hh
   rw [e1,hn]
   exact .cs (hkids a (by simp)) hh (by rintro rfl;simp at h2) hw (fun e he=>hkids e (by simp [he]))
 ·
  simp [namedB] at hnm;simp [namesK] at hln;simp [kidsK] at hkn;simp at hn
  obtain ⟨a,rfl⟩:=len1 (show ks.length=1 by omega)
  rw [hn];exact .alt hnm hl (hkids a (by simp)) (hin (by decide) (by decide) (by decide) a (by simp))
 ·
  simp [namedB] at hnm;simp [namesK] at hln;simp [kidsK] at hkn;simp at hn
  obtain ⟨a,b,rfl⟩:=len2 (show ks.length=2 by omega)
  obtain rfl:l=[]:=by cases l with | nil=>rfl | cons=>simp at hln <;> omega
  rw [hn];exact .op (by simpa using hnm) (hkids a (by simp)) (hin (by decide) (by decide) (by decide) a (by simp)) (hkids b (by simp)) (hin (by decide) (by decide) (by decide) b (by simp))
 ·
  simp [namedB] at hnm;simp [namesK] at hln;simp [kidsK] at hkn;simp at hn
  have e1:=str_nil (s:=s) (by simpa using hnm)
  obtain ⟨a,b,c,rfl⟩:=len3 (show ks.length=3 by omega)
  obtain rfl:l=[]:=by cases l with | nil=>rfl | cons=>simp at hln <;> omega
  rw [e1,hn];exact .iff (hkids a (by simp)) (hin (by decide) (by decide) (by decide) a (by simp)) (hkids b (by simp)) (hin (by decide) (by decide) (by decide) b (by simp)) (hkids c (by simp)) (hin (by decide) (by decide) (by decide) c (by simp))
 ·
  simp [namedB] at hnm;simp [namesK] at hln;simp [kidsK] at hkn;simp at hn
  have e1:=str_nil (s:=s) (by simpa using hnm)
  obtain rfl:l=[]:=by cases l with | nil=>rfl | cons=>simp at hln <;> omega
  have hne:ks≠[]:=by rintro rfl;simp at hkn
  rw [below_do_iff ks (by exact .inl rfl) hne] at hb
  obtain ⟨hz,hm⟩:=hb
  have hm':∀ e ∈ ks,e.kind≠8:=fun e he h8=>by have:=hm e he;rw [h8] at this;simp [mayK] at this
  rw [List.getLast?_eq_some_getLast hne] at hz
  have hsp:=List.dropLast_concat_getLast hne
  rw [e1,hn,←hsp]
  refine .blk (by exact .inl rfl) (fun e he=>hm' e (List.dropLast_subset _ he)) (fun e he=>hkids e (List.dropLast_subset _ he)) (hkids _ (List.getLast_mem _)) ⟨hm' _ (List.getLast_mem _),by simpa using hz⟩
 ·
  simp [namedB] at hnm;simp [namesK] at hln;simp [kidsK] at hkn;simp at hn
  have e1:=str_nil (s:=s) (by simpa using hnm)
  obtain rfl:l=[]:=by cases l with | nil=>rfl | cons=>simp at hln <;> omega
  have hne:ks≠[]:=by rintro rfl;simp at hkn
  rw [below_do_iff ks (by exact .inr rfl) hne] at hb
  obtain ⟨hz,hm⟩:=hb
  have hm':∀ e ∈ ks,e.kind≠8:=fun e he h8=>by have:=hm e he;rw [h8] at this;simp [mayK] at this
  rw [List.getLast?_eq_some_getLast hne] at hz
  have hsp:=List.dropLast_concat_getLast hne
  rw [e1,hn,←hsp]
  refine .blk (by exact .inr rfl) (fun e he=>hm' e (List.dropLast_subset _ he)) (fun e he=>hkids e (List.dropLast_subset _ he)) (hkids _ (List.getLast_mem _)) ⟨hm' _ (List.getLast_mem _),by simpa using hz⟩
 ·
  simp [namedB] at hnm;simp [namesK] at hln;simp [kidsK] at hkn;simp at hn
  have e1:=str_nil (s:=s) (by simpa using hnm)
  obtain ⟨a,rfl⟩:=len1 (show ks.length=1 by omega)
  obtain ⟨x,rfl,hx⟩:=names1 (by omega) hl
  rw [e1,hn];exact .bind hx (hkids a (by simp)) (hin (by decide) (by decide) (by decide) a (by simp))
end Go.Proofs.YtinjocchommbdaaGreatDoor
