/- A part of the proof that parser laws hold: texts of the walk and of its plain laws, made small. -/
import Derived.Test.YtinjocchommbdaaGreatDoorM04
import Derived.Test.YtinjocchommbdaaGreatDoorM06
import Derived.Test.YtinjocchommbdaaGreatDoorM08
set_option linter.unusedVariables false
set_option linter.unusedSimpArgs false
namespace Go.Proofs.YtinjocchommbdaaGreatDoor
open Go.RowKit
theorem toL (s:Str):s.toList=bS s:=Lib.toList_data s
theorem dig_eq (b:UInt8):digB b=dgB b:=by unfold digB dgB;rw [Bool.decide_and]
theorem sml_eq (b:UInt8):smlB b=smB b:=by unfold smlB smB;rw [Bool.decide_and]
theorem grt_eq (b:UInt8):grtB b=grB b:=by unfold grtB grB;rw [Bool.decide_and]
theorem prt_eq (b:UInt8):prtB b=ptB b:=by unfold prtB ptB;rw [dig_eq,sml_eq,grt_eq]
theorem prt_fun:prtB=ptB:=funext prt_eq
theorem dig_fun:digB=dgB:=funext dig_eq
theorem word_eq (s:Str):wordB s=wdB (bS s):=by unfold wordB wdB;rw [toL];rfl
theorem head_eq (p q:UInt8→Bool) (hpq:∀ b,p b=q b) (l:Bs):l.head?.any p=headB q l:=by
 cases l with
 | nil=>rfl
 | cons b r=>simp [headB,hpq]
theorem fit_eq (s:Str):fitB s=ptsB (bS s):=by unfold fitB ptsB;rw [toL,prt_fun,Bool.decide_and]
theorem name_eq (s:Str):nameB s=nmB (bS s):=by unfold nameB nmB;rw [fit_eq,word_eq,toL,head_eq _ _ sml_eq]
theorem con_eq (s:Str):conB s=cnB (bS s):=by unfold conB cnB;rw [fit_eq,toL,head_eq _ _ grt_eq]
end Go.Proofs.YtinjocchommbdaaGreatDoor
