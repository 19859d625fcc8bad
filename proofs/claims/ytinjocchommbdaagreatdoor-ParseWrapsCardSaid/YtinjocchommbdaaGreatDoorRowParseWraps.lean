/- The card of ParseWraps. -/
import Derived.Test.YtinjocchommbdaaGreatDoorM45
import Derived.Lay
import Derived.Deep.DeepWitnessRowRef
import Derived.Test.YtinjocchommbdaaGreatDoorM54
set_option linter.unusedVariables false
set_option linter.unusedSimpArgs false
namespace Go.Proofs.YtinjocchommbdaaGreatDoor.parseWraps
open Go.ChangeShapes Go.WideShapes Go.ChangeAt Go.RowKit
set_option maxRecDepth 100000 in
theorem contract (H:Type) (enc:TypeId × Value→H) (W:World) (base:Nat) (args:Array Value) (ds gs:List (DataW H)) (before:List MemPlace)
  (hval:∀ (j:Nat) t v,Tryz.f7.params[j]?=some t→args[j]?=some v→Value.okWide Tryz.prog W .any base t v)
  (hW:DataW.Whole enc Tryz.prog Tryz.f7.params.toList Rows.parseWrapsSpec.vars false W args.toList ds gs before)
  (hwt:(DataW.weightsEach Tryz.prog (Tryz.f7.params.toList ++ Rows.parseWrapsSpec.plain.varTypes Tryz.prog) (ds ++ gs)).all (·≤reachBytes)=true) (hL:laidMetH Tryz.prog Rows.parseWrapsRow.laid W) (hsh:W.ShapedOpen Tryz.prog) :
  Calls Tryz.prog 7 args W fun e W'=>∃ v,e=.returned v∧Rows.parseWrapsSpec.post enc Tryz.prog Tryz.f7 false true false false W args v W':=by
 have hW':=hW
 have hlt:=hW.lt
 obtain ⟨p,q,hA0,hV,rfl,hfz,hnd⟩:=hW
 have hA:DataW.TrodAll enc Tryz.prog W 0 (fun _=>true) true Tryz.f7.params.toList args.toList ds p:=hA0
 obtain ⟨rfl,rfl⟩:=trodVars_none hV
 rw [List.append_nil] at hW' hlt
 have hA2:=hA
 rw [Tryz.params7] at hA hwt hval
 obtain ⟨v0,vs0,d0,ds0,p0,q0,hargs,rfl,rfl,h0,r0⟩:=trodAll_cons hA
 obtain ⟨v1,vs1,d1,ds1,p1,q1,rfl,rfl,rfl,h1,r1⟩:=trodAll_cons r0
 obtain ⟨rfl,rfl,rfl⟩:=trodAll_nil r1
 obtain rfl:args=#[v0,v1]:=by cases args;simp_all
 have hE:=rng_of hL
 have hM:=max_of hsh
 have ht:=tab7_of hL
 obtain ⟨l0,a0,c0,rfl,hl0,ht0,hb0⟩:=arg_tks (hval 0 22 v0 rfl rfl) h0 (fits_arg hwt (j:=0) rfl rfl)
 obtain ⟨x1,rfl,hx1⟩:=arg_u8 (hval 1 5 v1 rfl rfl) h1
 refine (parseWraps_c a0 l0 c0 x1 W ht0 hx1 hb0 ht hE hM).mono fun e W' ⟨he,hb⟩=>?_
 subst he
 exact ⟨_,rfl,post_below (pa:=_) (pv:=[]) hW' (fun _ _ _=>trodAll_cons_mk (shut_bool Tryz.underlying4 _) trodAll_mk0) (fun sp hsp=>trodAll_later laidOut hb sp (by rw [Tryz.params7];kernel_rfl) hA2 hlt hsp) (fun _ _=>rfl) (by simp) hb
  (ok_one (by kernel_rfl) rfl (okWide_bool_mk Tryz.underlying4 _))⟩
theorem door_met (os:Os) (args:Array Value):laidMet Tryz.prog Rows.parseWrapsRow.laid ((World.laidAll Tryz.prog os Rows.parseWrapsRow.laid).forCall (fun _ _=>0) ⟨#[],args,[]⟩).memory :=
 laidMet_laidAll _ (by kernel_rfl) (by kernel_rfl)
theorem reads (os:Os) {H:Type} (enc:TypeId × Value→H):∃ places,DataW.whole enc Tryz.prog ((World.laidAll Tryz.prog os Rows.parseWrapsRow.laid).forCall (fun _ _=>0) ⟨#[],#[.slice none 0 0,.int .u8 0],[]⟩).memory Tryz.f7.params.toList Rows.parseWrapsSpec.vars false (#[.slice none 0 0,.int .u8 0]:Array Value).toList 8=some ([.nil,.lit (.int .u8 0)],[],places) :=
 ⟨[],by kernel_rfl⟩
set_option maxRecDepth 100000 in
theorem lifted (os:Os) (started:os.Started) (H:Type) (enc:TypeId × Value→H) (F:Stop.Interp) :
  ReturnsInHanded {} Tryz.checked os 7 .any ((OpenSpec.ofChange Rows.parseWrapsSpec).preRow enc Tryz.prog Tryz.f7 Rows.parseWrapsRow.domain false Rows.parseWrapsRow.laid) (((OpenSpec.ofChange Rows.parseWrapsSpec).at F).post enc Tryz.prog Tryz.f7 false true false false):=by
 obtain ⟨places,hx⟩:=reads os enc
 refine returnsInHanded_of_row (C:=Tryz.checked) (s:=OpenSpec.ofChange Rows.parseWrapsSpec) own started (by kernel_rfl) Tryz.func7
  (witness_row_atRef (enc:=enc) (C:=Tryz.checked) false (World.laidAll Tryz.prog os Rows.parseWrapsRow.laid) #[.slice none 0 0,.int .u8 0] (World.laidAll_os _ _ _) (by kernel_rfl) (by kernel_rfl) (by kernel_rfl)
   (OpenSpec.preRow_of_cond 8 hx (by kernel_rfl) (fun k hk=>by cases hk) (by kernel_rfl) (door_met os _))) ?_
 intro W base args ds gs before hval hW _ _ hwt hL hsh _
 exact contract H enc W base args ds gs before hval hW hwt hL hsh
theorem said:Rows.ParseWrapsSaid :=
 OpenClaim.holds_of_cond 7 Tryz.f7 rfl rfl rfl rfl rfl rfl rfl ⟨rfl,rfl,rfl,rfl,rfl⟩ rfl rfl rfl rfl rfl (by kernel_rfl) Tryz.func7 (by kernel_rfl)
  (of_decide_eq_true (by kernel_rfl)) (by unfold Func.isWrapper;first | (rw [if_pos (by decide +kernel)];kernel_rfl) | (rw [if_neg (by decide +kernel)];exact ⟨rfl,rfl⟩))
  (fun os started H enc _ F=>by rw [OpenClaim.pre_eq_preRow];exact lifted os started H enc F)
theorem plain (f:FuncId) (fn:Func) (hf:Tryz.pinned.checked.prog.funcNamed "dawdler/dawdlerlaw06.ParseWraps"=some f) (hfn:Tryz.pinned.checked.prog.funcs[f]?=some fn) :
  true=Tryz.pinned.checked.prog.looks []∧∀ (j:Nat) t,fn.params[j]?=some t→Tryz.pinned.checked.prog.wantsStandIn t=false:=by
 obtain rfl:f=7:=Option.some.inj ((show Tryz.prog.funcNamed "dawdler/dawdlerlaw06.ParseWraps"=some 7 by kernel_rfl).symm.trans hf) |>.symm
 obtain rfl:fn=Tryz.f7:=(Option.some.inj (Tryz.func7.symm.trans hfn)).symm
 refine ⟨by kernel_rfl,fun j t ht=>?_⟩
 rw [Tryz.params7] at ht
 have hm:t ∈ [22,5]:=by simpa using Array.mem_of_getElem? ht
 have hall:([22,5].all fun u=>!Tryz.prog.wantsStandIn u)=true:=by kernel_rfl
 exact (show Tryz.prog.wantsStandIn t=false by simpa using List.all_eq_true.1 hall t hm)
end Go.Proofs.YtinjocchommbdaaGreatDoor.parseWraps
namespace Go.Proofs.YtinjocchommbdaaGreatDoor
theorem parseWraps_card:Rows.ParseWrapsCardSaid :=
 Claim7.holds_tied_plain_at .later [] _ _ _ _ parseWraps.said (fun _ h=>by cases h) (by kernel_rfl) (fun _ h=>by cases h) parseWraps_row_tie rfl ⟨rfl,rfl⟩ (by kernel_rfl) rfl parseWraps.plain (by kernel_rfl)
end Go.Proofs.YtinjocchommbdaaGreatDoor
