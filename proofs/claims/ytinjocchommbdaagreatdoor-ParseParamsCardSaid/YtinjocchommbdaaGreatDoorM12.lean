/- A part of the proof that parser laws hold: texts of the walk and of its plain laws, made small. -/
import Derived.Test.YtinjocchommbdaaGreatDoorM09
import Derived.Test.YtinjocchommbdaaGreatDoorM11
import Derived.Test.YtinjocchommbdaaGreatDoorM05
set_option linter.unusedVariables false
set_option linter.unusedSimpArgs false
namespace Go.Proofs.YtinjocchommbdaaGreatDoor
open Go.RowKit
def TokR (o:Option (Int × Bs × Nat)) (r:Ending):Prop :=
 match o with
 | some (k,t,n)=>r=.returned (.tuple #[.agg #[.int .i64 k,.string (tS t),.int .i64 n,.int .i64 0,.int .i64 0],.bool true])
 | none=>∃ (k n:Int) (s:Str),r=.returned (.tuple #[.agg #[.int .i64 k,.string s,.int .i64 n,.int .i64 0,.int .i64 0],.bool false])
theorem TokR_form {o:Option (Int × Bs × Nat)} {r:Ending} (h:TokR o r):∃ (k:Int) (s:Str) (n:Int) (b:Bool),r=.returned (.tuple #[.agg #[.int .i64 k,.string s,.int .i64 n,.int .i64 0,.int .i64 0],.bool b])∧TokR o (.returned (.tuple #[.agg #[.int .i64 k,.string s,.int .i64 n,.int .i64 0,.int .i64 0],.bool b])):=by
 rcases o with _ | ⟨k,t,n⟩
 ·
  obtain ⟨k,n,s,rfl⟩:=h
  exact ⟨_,_,_,_,rfl,⟨k,n,s,rfl⟩⟩
 ·
  exact ⟨k,tS t,n,true,h,rfl⟩
theorem TokR_some {k:Int} {t:Bs} {n:Nat} {r:Ending} (q:Str) (hq:tS t=q) (h:r=.returned (.tuple #[.agg #[.int .i64 k,.string q,.int .i64 n,.int .i64 0,.int .i64 0],.bool true])):TokR (some (k,t,n)) r:=by subst hq;exact h
theorem take_run (p:UInt8→Bool) (l:Bs):l.take (runN p l)=l.takeWhile p:=by
 unfold runN
 exact (List.prefix_iff_eq_take.1 (List.takeWhile_prefix p)).symm
theorem all_take_run (p:UInt8→Bool) (l:Bs):(l.takeWhile p).all p=true:=List.all_takeWhile
end Go.Proofs.YtinjocchommbdaaGreatDoor
