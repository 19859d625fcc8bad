/- A part of the proof that parser laws hold: texts of the walk and of its plain laws, made small. -/
import Derived.Test.YtinjocchommbdaaGreatDoorM41
import Derived.Test.YtinjocchommbdaaGreatDoorM07
set_option linter.unusedVariables false
set_option linter.unusedSimpArgs false
namespace Go.Proofs.YtinjocchommbdaaGreatDoor
theorem num_open {k:Int} {s:Str} {n:Int} {l:List Str} {ks:List Ex} (h:NumOk (.mk k s n l ks)):(-9223372036854775808≤n∧n≤9223372036854775807)∧∀ e ∈ ks,NumOk e:=by
 cases h with | mk h hk=>exact ⟨h,hk⟩
theorem atom_le (e:Ex):(atomE e).length≤(textE e).length + 2:=by
 rcases atom_cases e with h | h <;> rw [h] <;> simp
theorem nameB_fit {s:Str} (h:nameB s=true):fitB s=true:=by simp only [nameB,Bool.and_eq_true] at h;exact h.1.1
theorem conB_fit {s:Str} (h:conB s=true):fitB s=true:=by simp only [conB,Bool.and_eq_true] at h;exact h.1
theorem op_some {s:Str} (h:(doesB s || holdsB s)=true):bs s ∈ ([[43],[45],[42],[47],[61,61],[60]]:List (List UInt8)):=by
 simp only [doesB,holdsB,Lib.toList_data,Bool.or_eq_true,List.contains_iff_mem] at h
 show s.data.toList ∈ _
 simp only [List.mem_cons,List.not_mem_nil,or_false] at h ⊢
 simpa only [or_assoc] using h
end Go.Proofs.YtinjocchommbdaaGreatDoor
