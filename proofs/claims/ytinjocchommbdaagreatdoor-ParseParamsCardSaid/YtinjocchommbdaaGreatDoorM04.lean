/- A part of the proof that parser laws hold: texts of the walk and of its plain laws, made small. -/
import Derived.Test.YtinjocchommbdaaGreatDoorM03
import Derived.PlainAid
set_option linter.unusedVariables false
set_option linter.unusedSimpArgs false
namespace Go.Proofs.YtinjocchommbdaaGreatDoor
open Go.RowKit
theorem str_head {s:Str} (h:0 < s.size):s.toList.head?=some s[0]:=by
 obtain ⟨⟨l⟩⟩:=s
 cases l with
 | nil=>exact absurd h (by decide)
 | cons x r=>rw [ByteArray.toList_eq];rfl
theorem fitB_pos {s:Str} (h:fitB s=true):0 < s.size:=by
 simp only [fitB,Bool.and_eq_true,decide_eq_true_eq,Lib.toList_data] at h
 rw [Lib.size_eq];omega
set_option maxHeartbeats 400000 in
theorem lex_Name (s:Str) (w:World):Calls Tryz.prog 91 #[.string s] w fun r w'=>r=.returned (.bool (nameB s))∧Below w.heap.size w w':=by
 cases h1:fitB s
 ·
  go_enter Tryz.func91,Tryz.ntmps91
  go_wp2_with (go_at_call 152;refine (lex_fits _ _).mono ?_;rintro e w1 ⟨rfl,hB⟩)
  go_ret
  exact ⟨ret_bool (by simp [nameB,h1]),by assumption⟩
 ·
  have hp:=fitB_pos h1
  have hh:=Lib.hid (str_head hp)
  cases h2:smlB s[0] <;> cases h3:wordB s
  all_goals go_enter Tryz.func91,Tryz.ntmps91
  all_goals go_wp2_with (first | (go_at_call 152;refine (lex_fits _ _).mono ?_;rintro e w1 ⟨rfl,hB⟩) | (go_at_call 155;refine (lex_small _ _).mono ?_;rintro e w' ⟨rfl,rfl⟩) | (go_at_call 114;refine (lex_word _ _).mono ?_;rintro e w' ⟨rfl,rfl⟩))
  all_goals go_ret
  all_goals exact ⟨ret_bool (by simp [nameB,h1,hh.out,h2,h3]),by assumption⟩
set_option maxHeartbeats 400000 in
theorem lex_Con (s:Str) (w:World):Calls Tryz.prog 87 #[.string s] w fun r w'=>r=.returned (.bool (conB s))∧Below w.heap.size w w':=by
 cases h1:fitB s
 ·
  go_enter Tryz.func87,Tryz.ntmps87
  go_wp2_with (go_at_call 152;refine (lex_fits _ _).mono ?_;rintro e w1 ⟨rfl,hB⟩)
  go_ret
  exact ⟨ret_bool (by simp [conB,h1]),by assumption⟩
 ·
  have hp:=fitB_pos h1
  have hh:=Lib.hid (str_head hp)
  cases h2:grtB s[0]
  all_goals go_enter Tryz.func87,Tryz.ntmps87
  all_goals go_wp2_with (first | (go_at_call 152;refine (lex_fits _ _).mono ?_;rintro e w1 ⟨rfl,hB⟩) | (go_at_call 153;refine (lex_great _ _).mono ?_;rintro e w' ⟨rfl,rfl⟩))
  all_goals go_ret
  all_goals exact ⟨ret_bool (by simp [conB,h1,hh.out,h2]),by assumption⟩
end Go.Proofs.YtinjocchommbdaaGreatDoor
namespace Go.Proofs.YtinjocchommbdaaGreatDoor
open Go.RowKit
theorem strRow_new (w:World) (l:List Str) (t:TypeId) (h:∀ s ∈ l,s.size≤lenMax):StrRow (w.alloc (.cells (l.map Value.string).toArray t)) (some ⟨w.heap.size,0,none⟩) l:=by
 refine .inr ⟨_,_,rfl,fun i hi=>⟨?_,h _ (List.getElem_mem hi)⟩⟩
 rw [World.cell?_alloc_at _ _ _ _ rfl]
 simp [hi]
end Go.Proofs.YtinjocchommbdaaGreatDoor
namespace Go.Proofs.YtinjocchommbdaaGreatDoor
open Go.RowKit
def doesB (s:Str):Bool:=[[43],[45],[42],[47]].contains s.toList
def holdsB (s:Str):Bool:=[[61,61],[60]].contains s.toList
theorem ret_bb {a b c d:Bool} (h:a=c) (h':b=d):Ending.returned (.tuple #[.bool a,.bool b])=.returned (.tuple #[.bool c,.bool d]):=by rw [h,h']
theorem is_cases (s:Str):s.toList=[43]∨s.toList=[45]∨s.toList=[42]∨s.toList=[47]∨s.toList=[61,61]∨s.toList=[60] ∨
  ((s.toList == [43])=false∧(s.toList == [45])=false∧(s.toList == [42])=false∧(s.toList == [47])=false∧(s.toList == [61,61])=false∧(s.toList == [60])=false):=by
 simp only [beq_eq_false_iff_ne]
 by_cases h1:s.toList=[43];· exact .inl h1
 by_cases h2:s.toList=[45];· exact .inr (.inl h2)
 by_cases h3:s.toList=[42];· exact .inr (.inr (.inl h3))
 by_cases h4:s.toList=[47];· exact .inr (.inr (.inr (.inl h4)))
 by_cases h5:s.toList=[61,61];· exact .inr (.inr (.inr (.inr (.inl h5))))
 by_cases h6:s.toList=[60];· exact .inr (.inr (.inr (.inr (.inr (.inl h6)))))
 exact .inr (.inr (.inr (.inr (.inr (.inr ⟨h1,h2,h3,h4,h5,h6⟩)))))
set_option maxHeartbeats 400000 in
theorem num_Is (s:Str) (w:World):Calls Tryz.prog 183 #[.string s] w fun r w'=>r=.returned (.tuple #[.bool (doesB s),.bool (holdsB s)])∧w=w':=by
 rcases is_cases s with h | h | h | h | h | h | ⟨h1,h2,h3,h4,h5,h6⟩
 all_goals go_enter Tryz.func183,Tryz.ntmps183
 all_goals go_wp2
 all_goals go_ret2
 all_goals exact ⟨ret_bb (by simp_all [doesB]) (by simp_all [holdsB]),rfl⟩
end Go.Proofs.YtinjocchommbdaaGreatDoor
