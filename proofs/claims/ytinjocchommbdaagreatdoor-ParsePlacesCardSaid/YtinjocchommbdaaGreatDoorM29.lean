/- A part of the proof that parser laws hold: texts of the walk and of its plain laws, made small. -/
import Derived.Test.YtinjocchommbdaaGreatDoorM07
import Derived.Test.YtinjocchommbdaaGreatDoorM04
import Derived.Deep.QuietTactic
import Derived.BigQuiet
import Derived.Test.YtinjocchommbdaaGreatDoorM00
set_option linter.unusedVariables false
set_option linter.unusedSimpArgs false
namespace Go.Proofs.YtinjocchommbdaaGreatDoor
open Go.RowKit
def namesB (l:List Str):Bool:=l.all nameB && decide (l.map ByteArray.toList).Nodup
theorem nodup_map_iff (l:List Str):(l.map ByteArray.toList).Nodup↔∀ i k (hi:i < l.length) (hk:k < i),l[k].toList≠l[i].toList:=by
 rw [List.Nodup,List.pairwise_iff_getElem]
 constructor
 ·
  intro h i k hi hk
  have:=h k i (by simp;omega) (by simpa using hi) hk
  simpa using this
 ·
  intro h k i hk hi hki
  have:=h i k (by simpa using hi) hki
  simpa using this
theorem kind_cases (k:Int):k=1∨k=2∨k=3∨k=4∨k=5∨k=6∨k=7∨k=8∨k=9∨k=10∨k=11∨k=12∨k=13∨(k < 1∨13 < k):=by omega
theorem kind_other {k:Int} (h:k < 1∨13 < k):(k == 1)=false∧(k == 2)=false∧(k == 3)=false∧(k == 4)=false∧(k == 5)=false∧(k == 6)=false∧(k == 7)=false∧(k == 8)=false∧(k == 9)=false∧(k == 10)=false∧(k == 11)=false∧(k == 12)=false∧(k == 13)=false:=by
 simp only [beq_eq_false_iff_ne];omega
def namedK (k:Int):Bool:=k == 2 || k == 3 || k == 8 || k == 9
end Go.Proofs.YtinjocchommbdaaGreatDoor
namespace Go.Proofs.YtinjocchommbdaaGreatDoor
open Go.RowKit
def mayK (k may:Int):Bool:=!((k == 8 || k == 13) && k != may)
end Go.Proofs.YtinjocchommbdaaGreatDoor
namespace Go.Proofs.YtinjocchommbdaaGreatDoor
open Go.RowKit
end Go.Proofs.YtinjocchommbdaaGreatDoor
namespace Go.Proofs.YtinjocchommbdaaGreatDoor
open Go.RowKit
def allP (p:Ex→Bool):Ex→Bool
 | .mk k s n l ks=>p (.mk k s n l ks) && allPL p ks
where allPL (p:Ex→Bool):List Ex→Bool
 | []=>true
 | e :: r=>allP p e && allPL p r
theorem allPL_all (p:Ex→Bool) (l:List Ex):allP.allPL p l=l.all (allP p):=by
 induction l with
 | nil=>rfl
 | cons e r ih=>simp only [allP.allPL,List.all_cons,ih]
def namedB (k:Int) (s:Str):Bool:=if k=2 then nameB s else if k=3∨k=8 then conB s else if k=9 then doesB s || holdsB s else s.toList.isEmpty
def namesK (k:Int):Int:=if k=8 then -1 else if k=4∨k=6∨k=13 then 1 else 0
def kidsK (k:Int):Int:=if k=7∨k=11∨k=12 then -1 else if k=10 then 3 else if k=5∨k=6∨k=9 then 2 else if k=4∨k=8∨k=13 then 1 else 0
def mayAt (k:Int) (i len:Nat) (j:Int):Bool:=((j == 8) == (k == 7 && decide (0 < i))) && !(j == 13 && !((k == 11 || k == 12) && decide (i + 1 < len)))
def belowB (k:Int) (ks:List Ex):Bool:=ks.zipIdx.all (fun x=>mayAt k x.2 ks.length x.1.kind) && (!(k == 7) || decide (1 < ks.length))
def sndQ:Ex→Bool
 | .mk k s n l ks=>decide (1≤k∧k≤13) && namedB k s && namesB l && belowB k ks && (if k=1 then decide (0≤n) else n == 0) && decide (namesK k < 0∨(l.length:Int)=namesK k) && decide (kidsK k=ks.length∨(kidsK k < 0∧0 < ks.length))
def sndR (e:Ex):Bool:=allP sndQ e
theorem below_plain (ks:List Ex) {k:Int} (h7:k≠7) (h11:k≠11) (h12:k≠12):belowB k ks=ks.all fun e=>mayK e.kind 0:=by
 have h:∀ i len j,mayAt k i len j=mayK j 0:=by
  intro i len j
  rw [mayAt,mayK,beq_eq_false_iff_ne.2 h7,beq_eq_false_iff_ne.2 h11,beq_eq_false_iff_ne.2 h12]
  by_cases h8:j=8
  ·
   subst h8;rfl
  ·
   by_cases h13:j=13
   ·
    subst h13;rfl
   ·
    rw [beq_eq_false_iff_ne.2 h8,beq_eq_false_iff_ne.2 h13];rfl
 rw [belowB,beq_eq_false_iff_ne.2 h7]
 simp only [h,Bool.not_false,Bool.true_or,Bool.and_true]
 rw [Bool.eq_iff_iff,List.all_eq_true,List.all_eq_true]
 constructor
 ·
  intro g e he
  obtain ⟨i,hi,rfl⟩:=List.getElem_of_mem he
  exact g (ks[i],i) (by rw [List.mem_zipIdx_iff_getElem?];simp [hi])
 ·
  intro g x hx
  exact g _ (List.fst_mem_of_mem_zipIdx hx)
theorem zipIdx_all {ks:List Ex} {p:Nat→Ex→Bool}:(ks.zipIdx.all fun x=>p x.2 x.1)=true↔∀ i (h:i < ks.length),p i ks[i]=true:=by
 rw [List.all_eq_true]
 constructor
 ·
  intro g i hi
  exact g (ks[i],i) (by rw [List.mem_zipIdx_iff_getElem?];simp [hi])
 ·
  intro g x hx
  rw [List.mem_zipIdx_iff_getElem?] at hx
  obtain ⟨h,e⟩:=List.getElem?_eq_some_iff.1 hx
  rw [←e];exact g _ h
theorem below_case (ks:List Ex):belowB 7 ks=(decide (2≤ks.length) && (ks.head?.all fun e=>!(e.kind == 8 || e.kind == 13)) && ((ks.drop 1).all fun e=>e.kind == 8)):=by
 rw [belowB,Bool.eq_iff_iff]
 simp only [Bool.and_eq_true,decide_eq_true_eq,zipIdx_all (p:=fun i e=>mayAt 7 i ks.length e.kind)]
 cases ks with
 | nil=>simp
 | cons e r =>
  simp only [List.head?_cons,Option.all_some,List.drop_one,List.tail_cons,List.length_cons]
  constructor
  ·
   rintro ⟨h1,h2⟩
   have h2:1 < r.length + 1:=by simpa using h2
   refine ⟨⟨by omega,?_⟩,?_⟩
   ·
    have:=h1 0 (by simp)
    simp only [mayAt,List.getElem_cons_zero] at this
    revert this
    by_cases h8:e.kind=8
    ·
     rw [h8];simp
    ·
     by_cases h13:e.kind=13
     ·
      rw [h13];simp
     ·
      simp [h8,h13]
   ·
    rw [List.all_eq_true]
    intro x hx
    obtain ⟨i,hi,rfl⟩:=List.getElem_of_mem hx
    have:=h1 (i + 1) (by simpa using hi)
    simp only [mayAt,List.getElem_cons_succ] at this
    revert this
    by_cases h8:r[i].kind=8
    ·
     rw [h8];simp
    ·
     simp [h8]
  ·
   rintro ⟨⟨h1,h2⟩,h3⟩
   refine ⟨?_,by simp;omega⟩
   intro i hi
   rw [List.all_eq_true] at h3
   cases i with
   | zero =>
    simp only [mayAt,List.getElem_cons_zero]
    revert h2
    by_cases h8:e.kind=8
    ·
     rw [h8];simp
    ·
     by_cases h13:e.kind=13
     ·
      rw [h13];simp
     ·
      simp [h8,h13]
   | succ i =>
    have:=h3 r[i] (List.getElem_mem _)
    simp only [mayAt,List.getElem_cons_succ]
    have h8:r[i].kind=8:=by simpa using this
    rw [h8];simp
theorem below_do (ks:List Ex) {k:Int} (hk:k=11∨k=12) (hne:ks≠[]):belowB k ks=((ks.getLast?.all fun e=>!(e.kind == 13)) && ks.all fun e=>mayK e.kind 13):=by
 have h7:(k == 7)=false:=by rcases hk with rfl | rfl <;> rfl
 have h11:(k == 11 || k == 12)=true:=by rcases hk with rfl | rfl <;> rfl
 have hpos:0 < ks.length:=by cases ks with | nil=>exact (hne rfl).elim | cons=>simp
 have hla:ks.getLast?=some (ks[ks.length - 1]'(by omega)):=by rw [List.getLast?_eq_getElem?,List.getElem?_eq_getElem]
 rw [belowB,Bool.eq_iff_iff]
 simp only [Bool.and_eq_true,decide_eq_true_eq,zipIdx_all (p:=fun i e=>mayAt k i ks.length e.kind),hla,Option.all_some]
 simp only [mayAt,h7,h11,Bool.false_and,Bool.not_false,Bool.true_or,and_true,Bool.true_and,List.all_eq_true,mayK]
 constructor
 ·
  intro h
  refine ⟨?_,?_⟩
  ·
   have:=h (ks.length - 1) (by omega)
   rw [decide_eq_false (by omega)] at this
   revert this
   by_cases h13:(ks[ks.length - 1]'(by omega)).kind=13
   ·
    rw [h13];simp
   ·
    simp [h13]
  ·
   intro x hx
   obtain ⟨i,hi,rfl⟩:=List.getElem_of_mem hx
   have:=h i hi
   revert this
   by_cases h8:ks[i].kind=8
   ·
    rw [h8];simp
   ·
    by_cases h13:ks[i].kind=13
    ·
     rw [h13];simp
    ·
     simp [h8,h13]
 ·
  rintro ⟨h1,h2⟩ i hi
  have:=h2 _ (List.getElem_mem hi)
  by_cases h13:ks[i].kind=13
  ·
   have hlt:i + 1 < ks.length:=by
    rcases Nat.lt_or_ge (i + 1) ks.length with h | h
    ·
     exact h
    ·
     have e:i=ks.length - 1:=by omega
     subst e
     rw [h13] at h1;simp at h1
   rw [h13,decide_eq_true hlt];rfl
  ·
   have h8:ks[i].kind≠8:=by
    intro h8;rw [h8] at this;simp at this
   simp [h8,h13]
theorem below_do_iff (ks:List Ex) {k:Int} (hk:k=11∨k=12) (hne:ks≠[]):belowB k ks=true↔(Option.all (fun e=>!e.kind == 13) ks.getLast?=true∧∀ x,x ∈ ks→mayK x.kind 13=true):=by
 rw [below_do ks hk hne,Bool.and_eq_true,List.all_eq_true]
def chkB (e:Ex):Bool:=decide (cnt e≤1000) && decide (dep e≤30) && !(e.kind == 8 || e.kind == 13) && sndR e
end Go.Proofs.YtinjocchommbdaaGreatDoor
namespace Go.Proofs.YtinjocchommbdaaGreatDoor
open Go.RowKit
def okK (k:Int):Bool:=decide (1≤k∧k≤13)
set_option maxHeartbeats 1600000 in
theorem tree_of (k:Int) (w:World):Calls Tryz.prog 132 #[.int .i64 k] w fun r w'=>r=.returned (.tuple #[.agg #[.bool (namedK k),.bool (k == 1),.int .i64 (namesK k),.int .i64 (kidsK k)],.bool (okK k)])∧Below w.heap.size w w':=by
 rcases kind_cases k with rfl | rfl | rfl | rfl | rfl | rfl | rfl | rfl | rfl | rfl | rfl | rfl | rfl | h
 case' inr.inr.inr.inr.inr.inr.inr.inr.inr.inr.inr.inr.inr =>
  have e1:namedK k=false:=by simp only [namedK,Bool.or_eq_false_iff,beq_eq_false_iff_ne];omega
  have e2:(k == 1)=false:=by rw [beq_eq_false_iff_ne];omega
  have e3:namesK k=0:=by rw [namesK,if_neg (by omega),if_neg (by omega)]
  have e4:kidsK k=0:=by rw [kidsK,if_neg (by omega),if_neg (by omega),if_neg (by omega),if_neg (by omega)]
  have e5:okK k=false:=by rw [okK,decide_eq_false (by omega)]
  rw [e1,e2,e3,e4,e5]
  clear e1 e2 e3 e4 e5
  obtain ⟨h1,h2,h3,h4,h5,h6,h7,h8,h9,h10,h11,h12,h13⟩:=kind_other h
  clear h
 all_goals go_enter Tryz.func132,Tryz.ntmps132
 all_goals go_wp2
 all_goals refine bodyPost_ret (by simp [results,Tryz.results132,go_sem];rfl) rfl ⟨?_,?_⟩
 all_goals first | rfl | exact (Below.refl _ _).alloc (Nat.le_refl _) _
end Go.Proofs.YtinjocchommbdaaGreatDoor
namespace Go.Proofs.YtinjocchommbdaaGreatDoor
open Go.RowKit
def keyS (s:Str):Lit:=.string s.data.toList
theorem keyS_inj {s t:Str} (h:keyS s=keyS t):s.toList=t.toList:=by
 simp only [keyS,Lit.string.injEq] at h
 rw [Lib.toList_data,Lib.toList_data,h]
set_option maxHeartbeats 1600000 in
theorem tree_names (a:Option Addr) (l:List Str) (cap:Nat) (w:World) (hl:l.length≤lenMax) (hr:StrRow w a l) :
  Calls Tryz.prog 88 #[.slice a l.length cap] w fun r w'=>r=.returned (.bool (namesB l))∧Below w.heap.size w w':=by
 unfold lenMax at hl
 have hmm:=@run_makeMap Tryz.prog
 go_enter Tryz.func88,Tryz.ntmps88
 go_wp2_with fail
 go_loopw [5,9] (fun _ i wr=>∃ (k:Nat) (f:Lit→Option Value),k≤l.length∧i=.int .i64 k∧Hid (∀ j (hj:j < k) (hl:j < l.length),nameB l[j]=true∧∀ m (hm:m < j),l[m].toList≠l[j].toList) ∧
   Hid (MapOf Tryz.prog wr 9 w.heap.size k f)∧Hid (∀ s,(f (keyS s)=some (.bool true)∧∃ j,∃ (hl:j < l.length),j < k∧l[j].toList=s.toList)∨(f (keyS s)=none∧∀ j (hl:j < l.length),j < k→l[j].toList≠s.toList))∧Below w.heap.size w wr∧w.heap.size < wr.heap.size) (fun _ i _=>l.length - (intOf i).toNat)
 case atStart=>exact ⟨0,_,by omega,rfl,fun j hj=>by omega,MapOf.made _ _ _,fun s=>.inr ⟨rfl,fun j hl hj=>by omega⟩,(Below.refl _ _).alloc (Nat.le_refl _) _,by simp⟩
 case round =>
  obtain ⟨k,f,hk,rfl,hall,hM,hF,hB,hz⟩:=hrel
  by_cases hlt:k < l.length
  ·
   rcases hr.keeps (Keeps.of_below hB) with hr' | ⟨b,off,rfl,hr'⟩
   ·
    simp [hr'] at hlt
   obtain ⟨hc,hsz⟩:=hr' k hlt
   clear hr'
   have hkey:keyOf Tryz.prog 9 (.string l[k])=some (keyS l[k]):=Go.WideMaps.keyOf_string_mk Tryz.underlying9 (by unfold lenMax at hsz;unfold maxLen;omega)
   have hkey':=Lib.hid hkey
   clear hkey
   cases h1:nameB l[k]
   ·
    have hx:Hid (namesB l=false):=by
     unfold Hid
     have hx:l.all nameB=false:=by
      rw [List.all_eq_false]
      exact ⟨_,List.getElem_mem hlt,by rw [h1];simp⟩
     rw [namesB,hx];rfl
    have h1':=Lib.hid h1
    clear h1
    go_wp2_with fail
    refine (lex_Name _ _).mono ?_
    rintro e w1 ⟨rfl,hB1⟩
    rw [h1'.out]
    go_wp2_with fail
    go_ret
    exact ⟨ret_bool hx.out.symm,hB.trans (hB1.mono hB.size)⟩
   ·
    have h1':=Lib.hid h1
    clear h1
    go_wp2_with fail
    refine (lex_Name _ _).mono ?_
    rintro e w1 ⟨rfl,hB1⟩
    rw [h1'.out]
    have hM1:=hM.out.below hB1 hz
    have hlook:=hM1.look (Maps.string_keyed Tryz.underlying9) Tryz.underlying192 (z:=.bool false) (by kernel_rfl) hkey'.out
    rcases hF.out l[k] with ⟨hf,j,hj,hjk,hje⟩ | ⟨hf,hno⟩
    ·
     rw [hf] at hlook
     simp only [Option.getD_some] at hlook
     have hx:Hid (namesB l=false):=by
      unfold Hid
      have hy:¬ (l.map ByteArray.toList).Nodup:=fun h=>(nodup_map_iff l).1 h k j hlt hjk hje
      rw [namesB,decide_eq_false hy,Bool.and_false]
     clear hje hf
     go_wp2_with fail
     go_ret
     exact ⟨ret_bool hx.out.symm,hB.trans (hB1.mono hB.size)⟩
    ·
     rw [hf] at hlook
     simp only [Option.getD_none] at hlook
     have hno':=Lib.hid hno
     have hM1':=Lib.hid hM1
     clear hno hf hM1
     go_wp2_with (at_mapUpdate;refine wpList_put _ rfl _ _ _ 192 rfl 9 4 (Maps.string_keyed Tryz.underlying9) Tryz.underlying192 w.heap.size k f rfl hM1'.out (by unfold maxLen;omega) (.string l[k]) (.bool true) (keyS l[k]) rfl rfl hkey'.out ?_;intro w2 hM2 hg2)
     go_roundw
     case rel =>
      refine ⟨k + 1,_,by omega,by go_num,?_,hM2,?_,?_,?_⟩
      ·
       intro j hj hl
       rcases Nat.lt_or_ge j k with h | h
       ·
        exact hall.out j h hl
       ·
        obtain rfl:j=k:=by omega
        exact ⟨h1'.out,fun m hm=>hno'.out m (by omega) hm⟩
      ·
       intro s
       by_cases hs:keyS s=keyS l[k]
       ·
        exact .inl ⟨by rw [hs,updF_same],k,hlt,by omega,(keyS_inj hs).symm⟩
       ·
        rw [updF_other hs]
        have hne:l[k].toList≠s.toList:=by
         intro e
         apply hs
         simp only [keyS,Lit.string.injEq]
         rw [←Lib.toList_data,←Lib.toList_data,e]
        rcases hF.out s with ⟨h,j,hj,hjk,e⟩ | ⟨h,hno⟩
        ·
         exact .inl ⟨h,j,hj,by omega,e⟩
        ·
         refine .inr ⟨h,fun j hj hjk=>?_⟩
         rcases Nat.lt_or_ge j k with h' | h'
         ·
          exact hno j hj h'
         ·
          obtain rfl:j=k:=by omega
          exact hne
      ·
       exact (hB.trans (hB1.mono hB.size)).grown hg2 (by have:=hB1.size;omega) (fun r e=>by cases e;exact Nat.le_refl _)
      ·
       have:=hg2.size;have:=hB1.size;omega
     case measure=>simp [intOf];omega
  ·
   go_wp2_with fail
   go_ret
   refine ⟨ret_bool (Eq.symm ?_),hB⟩
   have hx:l.all nameB=true:=by
    rw [List.all_eq_true]
    intro x hx
    obtain ⟨j,hj,rfl⟩:=List.getElem_of_mem hx
    exact (hall.out j (by omega) hj).1
   have hy:(l.map ByteArray.toList).Nodup:=(nodup_map_iff l).2 fun i k hi hk=>(hall.out i (by omega) hi).2 k hk
   rw [namesB,hx,decide_eq_true hy];rfl
end Go.Proofs.YtinjocchommbdaaGreatDoor
namespace Go.Proofs.YtinjocchommbdaaGreatDoor
open Go.RowKit
set_option maxHeartbeats 1600000 in
theorem tree_named (k:Int) (s:Str) (n:Int) (a1 a2:Option Addr) (c1 c2 m1 m2:Nat) (w:World) :
  Calls Tryz.prog 133 #[.agg #[.int .i64 k,.string s,.int .i64 n,.slice a1 m1 c1,.slice a2 m2 c2]] w fun r w'=>r=.returned (.bool (namedB k s))∧Below w.heap.size w w':=by
 have hB0:Below (w.heap.size + 1) (w.alloc (.cells #[.int .i64 k,.string s,.int .i64 n,.slice a1 m1 c1,.slice a2 m2 c2] 27)) (w.alloc (.cells #[.int .i64 k,.string s,.int .i64 n,.slice a1 m1 c1,.slice a2 m2 c2] 27)):=Below.refl _ _
 by_cases h2:k=2
 ·
  subst h2
  go_enter Tryz.func133,Tryz.ntmps133
  go_wp2_with fail
  refine (lex_Name _ _).mono ?_
  rintro e w1 ⟨rfl,hB⟩
  go_wp2_with fail
  go_ret
  exact ⟨ret_bool rfl,below_box (hB0.trans (hB.mono (by simp)))⟩
 by_cases h38:k=3∨k=8
 ·
  have hx:Hid (namedB k s=conB s):=by unfold Hid;rw [namedB,if_neg h2,if_pos h38]
  rcases h38 with rfl | rfl
  all_goals go_enter Tryz.func133,Tryz.ntmps133
  all_goals go_wp2_with fail
  all_goals refine (lex_Con _ _).mono ?_
  all_goals rintro e w1 ⟨rfl,hB⟩
  all_goals go_wp2_with fail
  all_goals go_ret
  all_goals exact ⟨ret_bool hx.out.symm,below_box (hB0.trans (hB.mono (by simp)))⟩
 by_cases h9:k=9
 ·
  subst h9
  cases hd:doesB s
  all_goals have hd':=Lib.hid hd
  all_goals clear hd
  all_goals go_enter Tryz.func133,Tryz.ntmps133
  all_goals go_wp2_with fail
  all_goals refine (num_Is _ _).mono ?_
  all_goals rintro e w1 ⟨rfl,rfl⟩
  all_goals rw [hd'.out]
  all_goals go_wp2_with fail
  all_goals go_ret
  all_goals exact ⟨ret_bool (by simp [namedB,hd'.out]),below_box hB0⟩
 have hx:Hid (namedB k s=s.toList.isEmpty):=by unfold Hid;rw [namedB,if_neg h2,if_neg h38,if_neg h9]
 have e2:(k == 2)=false:=by rw [beq_eq_false_iff_ne];exact h2
 have e3:(k == 3)=false:=by rw [beq_eq_false_iff_ne];omega
 have e8:(k == 8)=false:=by rw [beq_eq_false_iff_ne];omega
 have e9:(k == 9)=false:=by rw [beq_eq_false_iff_ne];exact h9
 clear h2 h38 h9
 go_enter Tryz.func133,Tryz.ntmps133
 go_wp2_with fail
 go_ret
 exact ⟨ret_bool hx.out.symm,below_box hB0⟩
set_option maxHeartbeats 3200000 in
theorem tree_below_other (k:Int) (s:Str) (n:Int) (a1 a2:Option Addr) (c1 c2 m1:Nat) (ks:List Ex) (w:World) (h7:(k == 7)=false) (h11:(k == 11)=false) (h12:(k == 12)=false) (h7':(k != 7)=true) (hl:ks.length≤lenMax) (hr:ExRow w a2 ks) :
  Calls Tryz.prog 134 #[.agg #[.int .i64 k,.string s,.int .i64 n,.slice a1 m1 c1,.slice a2 ks.length c2]] w fun r w'=>r=.returned (.bool (belowB k ks))∧Below w.heap.size w w':=by
 unfold lenMax at hl
 have hBad:Hid (∀ j (h:j < ks.length),mayAt k j ks.length ks[j].kind=false→belowB k ks=false):=fun j h hx=>by
  rw [belowB,Bool.and_eq_false_iff];left
  rw [←Bool.not_eq_true,zipIdx_all (p:=fun i e=>mayAt k i ks.length e.kind)]
  intro hh;rw [hh j h] at hx;cases hx
 have hGood:Hid ((∀ j (h:j < ks.length),mayAt k j ks.length ks[j].kind=true)→belowB k ks=(!(k == 7) || decide (1 < ks.length))):=fun hh=>by
  rw [belowB,(zipIdx_all (p:=fun i e=>mayAt k i ks.length e.kind)).2 hh];rfl
 go_enter Tryz.func134,Tryz.ntmps134
 go_wp2_with fail
 go_loopw [3,4,5,6,10] (fun _ _ _ _ i wr=>∃ j:Nat,j≤ks.length∧i=.int .i64 j∧Hid (∀ x (hx:x < j) (hl:x < ks.length),mayAt k x ks.length ks[x].kind=true)∧Below (w.heap.size+1) (w.alloc (.cells #[.int .i64 k,.string s,.int .i64 n,.slice a1 m1 c1,.slice a2 ks.length c2] 27)) wr) (fun _ _ _ _ i _=>ks.length - (intOf i).toNat)
 case atStart=>exact ⟨0,by omega,rfl,fun x hx=>by omega,Below.refl _ _⟩
 case round =>
  obtain ⟨j,hj,rfl,hall,hB⟩:=hrel
  obtain ⟨b0,b1,b2,b3,b4⟩:=box5 hB
  have hz:=size_box hB
  have hzz:w.heap.size < wr.heap.size:=by omega
  by_cases h1:j < ks.length
  ·
   obtain ⟨b,off,rfl,hkid⟩:=(hr.keeps (keeps_box hB)).kid (by rintro rfl;simp at h1)
   obtain ⟨a1,c1,a2,c2,g0,g1,g2,g3,g4,ge⟩:=hkid j h1
   clear hkid ge
   have bad:Hid (mayAt k j ks.length ks[j].kind=false→belowB k ks=false):=hBad.out j h1
   have good:Hid (mayAt k j ks.length ks[j].kind=true→Hid (∀ x (hx:x < j + 1) (hl:x < ks.length),mayAt k x ks.length ks[x].kind=true)):=fun hx x hxj hl=>by
    rcases Nat.lt_or_ge x j with h | h
    ·
     exact hall.out x h hl
    ·
     obtain rfl:x=j:=by omega
     exact hx
   generalize ks[j].kind=kk at g0 bad good
   rcases show kk=8∨kk=13∨((kk == 8)=false∧(kk == 13)=false) by simp only [beq_eq_false_iff_ne];omega with rfl | rfl | ⟨hk8,hk13⟩
   ·
    go_wp2_with fail
    go_ret
    exact ⟨ret_bool (Eq.symm (bad.out (by simp [mayAt,h7]))),below_box (hB.alloc hz _)⟩
   ·
    go_wp2_with fail
    go_ret
    exact ⟨ret_bool (Eq.symm (bad.out (by simp [mayAt,h7,h11,h12]))),below_box (hB.alloc hz _)⟩
   ·
    go_wp2_with fail
    go_roundw
    case rel=>exact ⟨j + 1,by omega,by go_num,good.out (by simp [mayAt,h7,hk8,hk13]),hB.alloc hz _⟩
    case measure=>simp [intOf];omega
  ·
   have e:j=ks.length:=by omega
   have hx:=Lib.hid (hGood.out fun x hx=>hall.out x (by omega) hx)
   clear e
   go_wp2_with fail
   go_ret
   exact ⟨ret_bool (by rw [hx.out];rw [h7];rfl),below_box hB⟩
set_option maxHeartbeats 3200000 in
theorem tree_below_case (s:Str) (n:Int) (a1 a2:Option Addr) (c1 c2 m1:Nat) (ks:List Ex) (w:World) (hl:ks.length≤lenMax) (hr:ExRow w a2 ks) :
  Calls Tryz.prog 134 #[.agg #[.int .i64 7,.string s,.int .i64 n,.slice a1 m1 c1,.slice a2 ks.length c2]] w fun r w'=>r=.returned (.bool (belowB 7 ks))∧Below w.heap.size w w':=by
 unfold lenMax at hl
 have hBad:Hid (∀ j (h:j < ks.length),mayAt 7 j ks.length ks[j].kind=false→belowB 7 ks=false):=fun j h hx=>by
  rw [belowB,Bool.and_eq_false_iff];left
  rw [←Bool.not_eq_true,zipIdx_all (p:=fun i e=>mayAt 7 i ks.length e.kind)]
  intro hh;rw [hh j h] at hx;cases hx
 have hGood:Hid ((∀ j (h:j < ks.length),mayAt 7 j ks.length ks[j].kind=true)→belowB 7 ks=(!(7 == 7) || decide (1 < ks.length))):=fun hh=>by
  rw [belowB,(zipIdx_all (p:=fun i e=>mayAt 7 i ks.length e.kind)).2 hh];rfl
 go_enter Tryz.func134,Tryz.ntmps134
 go_wp2_with fail
 go_loopw [3,4,5,6,10] (fun _ _ _ _ i wr=>∃ j:Nat,j≤ks.length∧i=.int .i64 j∧Hid (∀ x (hx:x < j) (hl:x < ks.length),mayAt 7 x ks.length ks[x].kind=true)∧Below (w.heap.size+1) (w.alloc (.cells #[.int .i64 7,.string s,.int .i64 n,.slice a1 m1 c1,.slice a2 ks.length c2] 27)) wr) (fun _ _ _ _ i _=>ks.length - (intOf i).toNat)
 case atStart=>exact ⟨0,by omega,rfl,fun x hx=>by omega,Below.refl _ _⟩
 case round =>
  obtain ⟨j,hj,rfl,hall,hB⟩:=hrel
  obtain ⟨b0,b1,b2,b3,b4⟩:=box5 hB
  have hz:=size_box hB
  have hzz:w.heap.size < wr.heap.size:=by omega
  by_cases h1:j < ks.length
  ·
   obtain ⟨b,off,rfl,hkid⟩:=(hr.keeps (keeps_box hB)).kid (by rintro rfl;simp at h1)
   obtain ⟨a1,c1,a2,c2,g0,g1,g2,g3,g4,ge⟩:=hkid j h1
   clear hkid ge
   have bad:Hid (mayAt 7 j ks.length ks[j].kind=false→belowB 7 ks=false):=hBad.out j h1
   have good:Hid (mayAt 7 j ks.length ks[j].kind=true→Hid (∀ x (hx:x < j + 1) (hl:x < ks.length),mayAt 7 x ks.length ks[x].kind=true)):=fun hx x hxj hl=>by
    rcases Nat.lt_or_ge x j with h | h
    ·
     exact hall.out x h hl
    ·
     obtain rfl:x=j:=by omega
     exact hx
   generalize ks[j].kind=kk at g0 bad good
   rcases show kk=8∨kk=13∨((kk == 8)=false∧(kk == 13)=false) by simp only [beq_eq_false_iff_ne];omega with rfl | rfl | ⟨hk8,hk13⟩
   ·
    by_cases h0:0 < j
    ·
     go_wp2_with fail
     go_roundw
     case rel=>exact ⟨j + 1,by omega,by go_num,good.out (by simp [mayAt,h0]),hB.alloc hz _⟩
     case measure=>simp [intOf];omega
    ·
     go_wp2_with fail
     go_ret
     exact ⟨ret_bool (Eq.symm (bad.out (by simp [mayAt,h0]))),below_box (hB.alloc hz _)⟩
   ·
    by_cases h0:0 < j
    ·
     go_wp2_with fail
     go_ret
     exact ⟨ret_bool (Eq.symm (bad.out (by simp [mayAt,h0]))),below_box (hB.alloc hz _)⟩
    ·
     go_wp2_with fail
     go_ret
     exact ⟨ret_bool (Eq.symm (bad.out (by simp [mayAt,h0]))),below_box (hB.alloc hz _)⟩
   ·
    by_cases h0:0 < j
    ·
     go_wp2_with fail
     go_ret
     exact ⟨ret_bool (Eq.symm (bad.out (by simp [mayAt,h0,hk8,hk13]))),below_box (hB.alloc hz _)⟩
    ·
     go_wp2_with fail
     go_roundw
     case rel=>exact ⟨j + 1,by omega,by go_num,good.out (by simp [mayAt,h0,hk8,hk13]),hB.alloc hz _⟩
     case measure=>simp [intOf];omega
  ·
   have e:j=ks.length:=by omega
   have hx:=Lib.hid (hGood.out fun x hx=>hall.out x (by omega) hx)
   clear e
   by_cases h2:(1:Int) < ks.length
   ·
    go_wp2_with fail
    go_ret
    exact ⟨ret_bool (by rw [hx.out,decide_eq_true (by omega)];rfl),below_box hB⟩
   ·
    go_wp2_with fail
    go_ret
    exact ⟨ret_bool (by rw [hx.out,decide_eq_false (by omega)];rfl),below_box hB⟩
set_option maxHeartbeats 3200000 in
theorem tree_below_do (s:Str) (n:Int) (a1 a2:Option Addr) (c1 c2 m1:Nat) (ks:List Ex) (w:World) (hl:ks.length≤lenMax) (hr:ExRow w a2 ks) :
  Calls Tryz.prog 134 #[.agg #[.int .i64 11,.string s,.int .i64 n,.slice a1 m1 c1,.slice a2 ks.length c2]] w fun r w'=>r=.returned (.bool (belowB 11 ks))∧Below w.heap.size w w':=by
 unfold lenMax at hl
 have hBad:Hid (∀ j (h:j < ks.length),mayAt 11 j ks.length ks[j].kind=false→belowB 11 ks=false):=fun j h hx=>by
  rw [belowB,Bool.and_eq_false_iff];left
  rw [←Bool.not_eq_true,zipIdx_all (p:=fun i e=>mayAt 11 i ks.length e.kind)]
  intro hh;rw [hh j h] at hx;cases hx
 have hGood:Hid ((∀ j (h:j < ks.length),mayAt 11 j ks.length ks[j].kind=true)→belowB 11 ks=(!(11 == 7) || decide (1 < ks.length))):=fun hh=>by
  rw [belowB,(zipIdx_all (p:=fun i e=>mayAt 11 i ks.length e.kind)).2 hh];rfl
 go_enter Tryz.func134,Tryz.ntmps134
 go_wp2_with fail
 go_loopw [3,4,5,6,10] (fun _ _ _ _ i wr=>∃ j:Nat,j≤ks.length∧i=.int .i64 j∧Hid (∀ x (hx:x < j) (hl:x < ks.length),mayAt 11 x ks.length ks[x].kind=true)∧Below (w.heap.size+1) (w.alloc (.cells #[.int .i64 11,.string s,.int .i64 n,.slice a1 m1 c1,.slice a2 ks.length c2] 27)) wr) (fun _ _ _ _ i _=>ks.length - (intOf i).toNat)
 case atStart=>exact ⟨0,by omega,rfl,fun x hx=>by omega,Below.refl _ _⟩
 case round =>
  obtain ⟨j,hj,rfl,hall,hB⟩:=hrel
  obtain ⟨b0,b1,b2,b3,b4⟩:=box5 hB
  have hz:=size_box hB
  have hzz:w.heap.size < wr.heap.size:=by omega
  by_cases h1:j < ks.length
  ·
   obtain ⟨b,off,rfl,hkid⟩:=(hr.keeps (keeps_box hB)).kid (by rintro rfl;simp at h1)
   obtain ⟨a1,c1,a2,c2,g0,g1,g2,g3,g4,ge⟩:=hkid j h1
   clear hkid ge
   have bad:Hid (mayAt 11 j ks.length ks[j].kind=false→belowB 11 ks=false):=hBad.out j h1
   have good:Hid (mayAt 11 j ks.length ks[j].kind=true→Hid (∀ x (hx:x < j + 1) (hl:x < ks.length),mayAt 11 x ks.length ks[x].kind=true)):=fun hx x hxj hl=>by
    rcases Nat.lt_or_ge x j with h | h
    ·
     exact hall.out x h hl
    ·
     obtain rfl:x=j:=by omega
     exact hx
   generalize ks[j].kind=kk at g0 bad good
   rcases show kk=8∨kk=13∨((kk == 8)=false∧(kk == 13)=false) by simp only [beq_eq_false_iff_ne];omega with rfl | rfl | ⟨hk8,hk13⟩
   ·
    go_wp2_with fail
    go_ret
    exact ⟨ret_bool (Eq.symm (bad.out (by simp [mayAt]))),below_box (hB.alloc hz _)⟩
   ·
    by_cases h0:(j:Int) < (ks.length:Int) - 1
    ·
     have h0':j + 1 < ks.length:=by omega
     go_wp2_with fail
     go_roundw
     case rel=>exact ⟨j + 1,by omega,by go_num,good.out (by simp [mayAt,h0']),hB.alloc hz _⟩
     case measure=>simp [intOf];omega
    ·
     have h0':¬ j + 1 < ks.length:=by omega
     go_wp2_with fail
     go_ret
     exact ⟨ret_bool (Eq.symm (bad.out (by simp [mayAt,h0']))),below_box (hB.alloc hz _)⟩
   ·
    by_cases h0:(j:Int) < (ks.length:Int) - 1
    ·
     go_wp2_with fail
     go_roundw
     case rel=>exact ⟨j + 1,by omega,by go_num,good.out (by simp [mayAt,hk8,hk13]),hB.alloc hz _⟩
     case measure=>simp [intOf];omega
    ·
     go_wp2_with fail
     go_roundw
     case rel=>exact ⟨j + 1,by omega,by go_num,good.out (by simp [mayAt,hk8,hk13]),hB.alloc hz _⟩
     case measure=>simp [intOf];omega
  ·
   have e:j=ks.length:=by omega
   have hx:=Lib.hid (hGood.out fun x hx=>hall.out x (by omega) hx)
   clear e
   go_wp2_with fail
   go_ret
   exact ⟨ret_bool (by rw [hx.out];rfl),below_box hB⟩
set_option maxHeartbeats 3200000 in
theorem tree_below_dos (s:Str) (n:Int) (a1 a2:Option Addr) (c1 c2 m1:Nat) (ks:List Ex) (w:World) (hl:ks.length≤lenMax) (hr:ExRow w a2 ks) :
  Calls Tryz.prog 134 #[.agg #[.int .i64 12,.string s,.int .i64 n,.slice a1 m1 c1,.slice a2 ks.length c2]] w fun r w'=>r=.returned (.bool (belowB 12 ks))∧Below w.heap.size w w':=by
 unfold lenMax at hl
 have hBad:Hid (∀ j (h:j < ks.length),mayAt 12 j ks.length ks[j].kind=false→belowB 12 ks=false):=fun j h hx=>by
  rw [belowB,Bool.and_eq_false_iff];left
  rw [←Bool.not_eq_true,zipIdx_all (p:=fun i e=>mayAt 12 i ks.length e.kind)]
  intro hh;rw [hh j h] at hx;cases hx
 have hGood:Hid ((∀ j (h:j < ks.length),mayAt 12 j ks.length ks[j].kind=true)→belowB 12 ks=(!(12 == 7) || decide (1 < ks.length))):=fun hh=>by
  rw [belowB,(zipIdx_all (p:=fun i e=>mayAt 12 i ks.length e.kind)).2 hh];rfl
 go_enter Tryz.func134,Tryz.ntmps134
 go_wp2_with fail
 go_loopw [3,4,5,6,10] (fun _ _ _ _ i wr=>∃ j:Nat,j≤ks.length∧i=.int .i64 j∧Hid (∀ x (hx:x < j) (hl:x < ks.length),mayAt 12 x ks.length ks[x].kind=true)∧Below (w.heap.size+1) (w.alloc (.cells #[.int .i64 12,.string s,.int .i64 n,.slice a1 m1 c1,.slice a2 ks.length c2] 27)) wr) (fun _ _ _ _ i _=>ks.length - (intOf i).toNat)
 case atStart=>exact ⟨0,by omega,rfl,fun x hx=>by omega,Below.refl _ _⟩
 case round =>
  obtain ⟨j,hj,rfl,hall,hB⟩:=hrel
  obtain ⟨b0,b1,b2,b3,b4⟩:=box5 hB
  have hz:=size_box hB
  have hzz:w.heap.size < wr.heap.size:=by omega
  by_cases h1:j < ks.length
  ·
   obtain ⟨b,off,rfl,hkid⟩:=(hr.keeps (keeps_box hB)).kid (by rintro rfl;simp at h1)
   obtain ⟨a1,c1,a2,c2,g0,g1,g2,g3,g4,ge⟩:=hkid j h1
   clear hkid ge
   have bad:Hid (mayAt 12 j ks.length ks[j].kind=false→belowB 12 ks=false):=hBad.out j h1
   have good:Hid (mayAt 12 j ks.length ks[j].kind=true→Hid (∀ x (hx:x < j + 1) (hl:x < ks.length),mayAt 12 x ks.length ks[x].kind=true)):=fun hx x hxj hl=>by
    rcases Nat.lt_or_ge x j with h | h
    ·
     exact hall.out x h hl
    ·
     obtain rfl:x=j:=by omega
     exact hx
   generalize ks[j].kind=kk at g0 bad good
   rcases show kk=8∨kk=13∨((kk == 8)=false∧(kk == 13)=false) by simp only [beq_eq_false_iff_ne];omega with rfl | rfl | ⟨hk8,hk13⟩
   ·
    go_wp2_with fail
    go_ret
    exact ⟨ret_bool (Eq.symm (bad.out (by simp [mayAt]))),below_box (hB.alloc hz _)⟩
   ·
    by_cases h0:(j:Int) < (ks.length:Int) - 1
    ·
     have h0':j + 1 < ks.length:=by omega
     go_wp2_with fail
     go_roundw
     case rel=>exact ⟨j + 1,by omega,by go_num,good.out (by simp [mayAt,h0']),hB.alloc hz _⟩
     case measure=>simp [intOf];omega
    ·
     have h0':¬ j + 1 < ks.length:=by omega
     go_wp2_with fail
     go_ret
     exact ⟨ret_bool (Eq.symm (bad.out (by simp [mayAt,h0']))),below_box (hB.alloc hz _)⟩
   ·
    by_cases h0:(j:Int) < (ks.length:Int) - 1
    ·
     go_wp2_with fail
     go_roundw
     case rel=>exact ⟨j + 1,by omega,by go_num,good.out (by simp [mayAt,hk8,hk13]),hB.alloc hz _⟩
     case measure=>simp [intOf];omega
    ·
     go_wp2_with fail
     go_roundw
     case rel=>exact ⟨j + 1,by omega,by go_num,good.out (by simp [mayAt,hk8,hk13]),hB.alloc hz _⟩
     case measure=>simp [intOf];omega
  ·
   have e:j=ks.length:=by omega
   have hx:=Lib.hid (hGood.out fun x hx=>hall.out x (by omega) hx)
   clear e
   go_wp2_with fail
   go_ret
   exact ⟨ret_bool (by rw [hx.out];rfl),below_box hB⟩
theorem tree_below (k:Int) (s:Str) (n:Int) (a1 a2:Option Addr) (c1 c2 m1:Nat) (ks:List Ex) (w:World) (hl:ks.length≤lenMax) (hr:ExRow w a2 ks) :
  Calls Tryz.prog 134 #[.agg #[.int .i64 k,.string s,.int .i64 n,.slice a1 m1 c1,.slice a2 ks.length c2]] w fun r w'=>r=.returned (.bool (belowB k ks))∧Below w.heap.size w w':=by
 rcases show k=7∨k=11∨k=12∨((k == 7)=false∧(k == 11)=false∧(k == 12)=false∧(k != 7)=true) by simp only [beq_eq_false_iff_ne,bne_iff_ne];omega with rfl | rfl | rfl | ⟨h7,h11,h12,h7'⟩
 ·
  exact tree_below_case s n a1 a2 c1 c2 m1 ks w hl hr
 ·
  exact tree_below_do s n a1 a2 c1 c2 m1 ks w hl hr
 ·
  exact tree_below_dos s n a1 a2 c1 c2 m1 ks w hl hr
 ·
  exact tree_below_other k s n a1 a2 c1 c2 m1 ks w h7 h11 h12 h7' hl hr
end Go.Proofs.YtinjocchommbdaaGreatDoor
namespace Go.Proofs.YtinjocchommbdaaGreatDoor
open Go.RowKit
theorem sndQ_eq (k:Int) (s:Str) (n:Int) (l:List Str) (ks:List Ex):sndQ (.mk k s n l ks)=(okK k && namedB k s && namesB l && belowB k ks && (if k=1 then decide (0≤n) else n == 0) && decide (namesK k < 0∨(l.length:Int)=namesK k) && decide (kidsK k=ks.length∨(kidsK k < 0∧0 < ks.length))):=rfl
theorem box4 {w wr:World} {v0 v1 v2 v3:Value} {t:TypeId} (h:Below (w.heap.size + 1) (w.alloc (.cells #[v0,v1,v2,v3] t)) wr) :
  wr.cell? ⟨w.heap.size,0,none⟩=some v0∧wr.cell? ⟨w.heap.size,1,none⟩=some v1∧wr.cell? ⟨w.heap.size,2,none⟩=some v2∧wr.cell? ⟨w.heap.size,3,none⟩=some v3:=by
 refine ⟨?_,?_,?_,?_⟩ <;> (rw [h.cell (by simp),World.cell?_alloc_at _ _ _ _ rfl];rfl)
set_option maxHeartbeats 3200000 in
theorem tree_sound (e:Ex) (v:Value) (w:World) (hv:IsEx w v e):Calls Tryz.prog 73 #[v] w fun r w'=>r=.returned (.bool (sndQ e))∧Below w.heap.size w w':=by
 have hv0:=hv
 cases e with
 | mk k s n l ks =>
 obtain ⟨a1,c1,a2,c2,rfl,_,_,hs,hls,hks,hl,hr⟩:=hv.open
 have hB0:Below (w.heap.size + 1) (w.alloc (.cells #[.int .i64 k,.string s,.int .i64 n,.slice a1 l.length c1,.slice a2 ks.length c2] 27)) (w.alloc (.cells #[.int .i64 k,.string s,.int .i64 n,.slice a1 l.length c1,.slice a2 ks.length c2] 27)):=Below.refl _ _
 have hQ:=Lib.hid (sndQ_eq k s n l ks)
 cases hok:okK k
 ·
  have hx:=Lib.hid (show sndQ (.mk k s n l ks)=false by rw [hQ.out,hok];rfl)
  have hok':=Lib.hid hok
  clear hok hQ
  go_enter Tryz.func73,Tryz.ntmps73
  go_wp2_with fail
  refine (tree_of k _).mono ?_
  rintro e w1 ⟨rfl,hB1⟩
  rw [hok'.out]
  have hB1:=hB0.trans (hB1.mono (by simp))
  go_wp2_with fail
  go_ret
  exact ⟨ret_bool hx.out.symm,below_box (hB1.alloc (size_box hB1) _)⟩
 have hok':=Lib.hid hok
 clear hok
 generalize hnk:namesK k=nk at hQ
 generalize hkk:kidsK k=kk at hQ
 have hnk':=Lib.hid hnk
 have hkk':=Lib.hid hkk
 clear hnk hkk
 cases hnm:namedB k s
 ·
  have hx:=Lib.hid (show sndQ (.mk k s n l ks)=false by rw [hQ.out,hnm,Bool.and_false];rfl)
  have hnm':=Lib.hid hnm
  clear hnm hQ
  go_enter Tryz.func73,Tryz.ntmps73
  go_wp2_with fail
  refine (tree_of k _).mono ?_
  rintro e w1 ⟨rfl,hB1⟩
  rw [hok'.out,hnk'.out,hkk'.out]
  have hB1:=hB0.trans (hB1.mono (by simp))
  have hz1:=size_box hB1
  obtain ⟨b0,b1,b2,b3,b4⟩:=box5 hB1
  have hzz1:w.heap.size < w1.heap.size:=by omega
  go_wp2_with fail
  refine (tree_named k s n _ _ _ _ _ _ _).mono ?_
  rintro e w2 ⟨rfl,hB2⟩
  rw [hnm'.out]
  go_wp2_with fail
  go_ret
  exact ⟨ret_bool hx.out.symm,below_box ((hB1.alloc hz1 _).trans (hB2.mono (by simp;omega)))⟩
 have hnm':=Lib.hid hnm
 clear hnm
 cases hns:namesB l
 ·
  have hx:=Lib.hid (show sndQ (.mk k s n l ks)=false by rw [hQ.out,hns,Bool.and_false];rfl)
  have hns':=Lib.hid hns
  clear hns hQ
  go_enter Tryz.func73,Tryz.ntmps73
  go_wp2_with fail
  refine (tree_of k _).mono ?_
  rintro e w1 ⟨rfl,hB1⟩
  rw [hok'.out,hnk'.out,hkk'.out]
  have hB1:=hB0.trans (hB1.mono (by simp))
  have hz1:=size_box hB1
  obtain ⟨b0,b1,b2,b3,b4⟩:=box5 hB1
  have hzz1:w.heap.size < w1.heap.size:=by omega
  go_wp2_with fail
  refine (tree_named k s n _ _ _ _ _ _ _).mono ?_
  rintro e w2 ⟨rfl,hB2⟩
  rw [hnm'.out]
  have hB2:=(hB1.alloc hz1 _).trans (hB2.mono (by simp;omega))
  clear b0 b1 b2 b3 b4
  obtain ⟨b0,b1,b2,b3,b4⟩:=box5 hB2
  go_wp2_with fail
  refine (tree_names a1 l c1 _ hls (hl.keeps (keeps_box hB2))).mono ?_
  rintro e w3 ⟨rfl,hB3⟩
  rw [hns'.out]
  go_wp2_with fail
  go_ret
  exact ⟨ret_bool hx.out.symm,below_box (hB2.trans (hB3.mono (size_box hB2)))⟩
 have hns':=Lib.hid hns
 clear hns
 cases hbl:belowB k ks
 ·
  have hx:=Lib.hid (show sndQ (.mk k s n l ks)=false by rw [hQ.out,hbl,Bool.and_false];rfl)
  have hbl':=Lib.hid hbl
  clear hbl hQ
  go_enter Tryz.func73,Tryz.ntmps73
  go_wp2_with fail
  refine (tree_of k _).mono ?_
  rintro e w1 ⟨rfl,hB1⟩
  rw [hok'.out,hnk'.out,hkk'.out]
  have hB1:=hB0.trans (hB1.mono (by simp))
  have hz1:=size_box hB1
  obtain ⟨b0,b1,b2,b3,b4⟩:=box5 hB1
  have hzz1:w.heap.size < w1.heap.size:=by omega
  go_wp2_with fail
  refine (tree_named k s n _ _ _ _ _ _ _).mono ?_
  rintro e w2 ⟨rfl,hB2⟩
  rw [hnm'.out]
  have hB2:=(hB1.alloc hz1 _).trans (hB2.mono (by simp;omega))
  clear b0 b1 b2 b3 b4
  obtain ⟨b0,b1,b2,b3,b4⟩:=box5 hB2
  go_wp2_with fail
  refine (tree_names a1 l c1 _ hls (hl.keeps (keeps_box hB2))).mono ?_
  rintro e w3 ⟨rfl,hB3⟩
  rw [hns'.out]
  have hB3:=hB2.trans (hB3.mono (size_box hB2))
  clear b0 b1 b2 b3 b4
  obtain ⟨b0,b1,b2,b3,b4⟩:=box5 hB3
  go_wp2_with fail
  refine (tree_below k s n a1 a2 c1 c2 _ ks _ hks (hr.keeps (keeps_box hB3))).mono ?_
  rintro e w4 ⟨rfl,hB4⟩
  rw [hbl'.out]
  go_wp2_with fail
  go_ret
  exact ⟨ret_bool hx.out.symm,below_box (hB3.trans (hB4.mono (size_box hB3)))⟩
 have hbl':=Lib.hid hbl
 clear hbl
 unfold lenMax at hls hks
 have hrest:sndQ (.mk k s n l ks)=((if k=1 then decide (0≤n) else n == 0) && decide (nk < 0∨(l.length:Int)=nk) && decide (kk=ks.length∨(kk < 0∧0 < ks.length))):=by
  rw [hQ.out,hok'.out,hnm'.out,hns'.out,hbl'.out];rfl
 have hrest':=Lib.hid hrest
 clear hrest hQ
 go_enter Tryz.func73,Tryz.ntmps73
 go_wp2_with fail
 refine (tree_of k _).mono ?_
 rintro e w1 ⟨rfl,hB1⟩
 rw [hok'.out,hnk'.out,hkk'.out]
 have hB1:=hB0.trans (hB1.mono (by simp))
 have hz1:=size_box hB1
 obtain ⟨b0,b1,b2,b3,b4⟩:=box5 hB1
 have hzz1:w.heap.size < w1.heap.size:=by omega
 go_wp2_with fail
 refine (tree_named k s n _ _ _ _ _ _ _).mono ?_
 rintro e w2 ⟨rfl,hB2⟩
 rw [hnm'.out]
 have hS2:Below (w1.heap.size + 1) (w1.alloc (.cells #[.bool (namedK k),.bool (k == 1),.int .i64 nk,.int .i64 kk] 179)) w2:=by simpa using hB2
 have hB2:=(hB1.alloc hz1 _).trans (hB2.mono (by simp;omega))
 clear b0 b1 b2 b3 b4
 obtain ⟨b0,b1,b2,b3,b4⟩:=box5 hB2
 go_wp2_with fail
 refine (tree_names a1 l c1 _ hls (hl.keeps (keeps_box hB2))).mono ?_
 rintro e w3 ⟨rfl,hB3⟩
 rw [hns'.out]
 have hS3:=hS2.trans (hB3.mono (size_box hS2))
 have hB3:=hB2.trans (hB3.mono (size_box hB2))
 clear b0 b1 b2 b3 b4
 obtain ⟨b0,b1,b2,b3,b4⟩:=box5 hB3
 go_wp2_with fail
 refine (tree_below k s n a1 a2 c1 c2 _ ks _ hks (hr.keeps (keeps_box hB3))).mono ?_
 rintro e w4 ⟨rfl,hB4⟩
 rw [hbl'.out]
 have hS4:=hS3.trans (hB4.mono (size_box hS3))
 have hB4:=hB3.trans (hB4.mono (size_box hB3))
 clear b0 b1 b2 b3 b4
 obtain ⟨b0,b1,b2,b3,b4⟩:=box5 hB4
 obtain ⟨s0,s1,s2,s3⟩:=box4 hS4
 have hend:=Lib.hid (below_box hB4)
 clear hB0 hB1 hB2 hB3 hB4 hS2 hS3 hS4 hv hv0 hr hl
 cases h1:(k == 1)
 ·
  have hk1:Hid (k≠1):=beq_eq_false_iff_ne.1 h1
  cases hn:(n != 0)
  ·
   have hnum:=Lib.hid (show (if k=1 then decide (0≤n) else n == 0)=true by rw [if_neg hk1.out];simpa using hn)
   by_cases h2:0≤nk
   ·
    cases h3:((l.length:Int) != nk)
    ·
     have hn2:=Lib.hid (show decide (nk < 0∨(l.length:Int)=nk)=true by rw [decide_eq_true_eq];right;simpa using h3)
     cases h4:(kk == (ks.length:Int))
     ·
      have h4':Hid (kk≠(ks.length:Int)):=beq_eq_false_iff_ne.1 h4
      by_cases h5:kk < 0
      ·
       go_wp2_with fail
       go_ret
       refine ⟨ret_bool ?_,hend.out⟩
       rw [hrest'.out,hnum.out,hn2.out]
       exact decide_eq_decide.2 (by have:=h4'.out;omega)
      ·
       go_wp2_with fail
       go_ret
       refine ⟨ret_bool ?_,hend.out⟩
       rw [hrest'.out,hnum.out,hn2.out,decide_eq_false (by have:=h4'.out;omega)];rfl
     ·
      have h4':Hid (kk=(ks.length:Int)):=by unfold Hid;simpa using h4
      go_wp2_with fail
      go_ret
      refine ⟨ret_bool ?_,hend.out⟩
      rw [hrest'.out,hnum.out,hn2.out,decide_eq_true (.inl h4'.out)];rfl
    ·
     have hn2:=Lib.hid (show decide (nk < 0∨(l.length:Int)=nk)=false by
      have h3':=bne_iff_ne.1 h3
      rw [decide_eq_false_iff_not];omega)
     go_wp2_with fail
     go_ret
     refine ⟨ret_bool ?_,hend.out⟩
     rw [hrest'.out,hn2.out,Bool.and_false];rfl
   ·
    have hn2:=Lib.hid (show decide (nk < 0∨(l.length:Int)=nk)=true by rw [decide_eq_true_eq];left;omega)
    cases h4:(kk == (ks.length:Int))
    ·
     have h4':Hid (kk≠(ks.length:Int)):=beq_eq_false_iff_ne.1 h4
     by_cases h5:kk < 0
     ·
      go_wp2_with fail
      go_ret
      refine ⟨ret_bool ?_,hend.out⟩
      rw [hrest'.out,hnum.out,hn2.out]
      exact decide_eq_decide.2 (by have:=h4'.out;omega)
     ·
      go_wp2_with fail
      go_ret
      refine ⟨ret_bool ?_,hend.out⟩
      rw [hrest'.out,hnum.out,hn2.out,decide_eq_false (by have:=h4'.out;omega)];rfl
    ·
     have h4':Hid (kk=(ks.length:Int)):=by unfold Hid;simpa using h4
     go_wp2_with fail
     go_ret
     refine ⟨ret_bool ?_,hend.out⟩
     rw [hrest'.out,hnum.out,hn2.out,decide_eq_true (.inl h4'.out)];rfl
  ·
   have hnum:=Lib.hid (show (if k=1 then decide (0≤n) else n == 0)=false by rw [if_neg hk1.out];simpa using hn)
   go_wp2_with fail
   go_ret
   refine ⟨ret_bool ?_,hend.out⟩
   rw [hrest'.out,hnum.out];rfl
 ·
  have hk1:Hid (k=1):=by unfold Hid;simpa using h1
  have hnk1:nk=0:=by rw [←hnk'.out,hk1.out];rfl
  have hkk1:kk=0:=by rw [←hkk'.out,hk1.out];rfl
  subst hnk1 hkk1
  by_cases hn:n < 0
  ·
   have hnum:=Lib.hid (show (if k=1 then decide (0≤n) else n == 0)=false by rw [if_pos hk1.out,decide_eq_false (by omega)])
   go_wp2_with fail
   go_ret
   refine ⟨ret_bool ?_,hend.out⟩
   rw [hrest'.out,hnum.out];rfl
  ·
   have hnum:=Lib.hid (show (if k=1 then decide (0≤n) else n == 0)=true by rw [if_pos hk1.out,decide_eq_true (by omega)])
   cases h3:((l.length:Int) != 0)
   ·
    have hn2:=Lib.hid (show decide ((0:Int) < 0∨(l.length:Int)=0)=true by rw [decide_eq_true_eq];right;simpa using h3)
    cases h4:((0:Int) == (ks.length:Int))
    ·
     have h4':Hid ((0:Int)≠(ks.length:Int)):=beq_eq_false_iff_ne.1 h4
     go_wp2_with fail
     go_ret
     refine ⟨ret_bool ?_,hend.out⟩
     rw [hrest'.out,hnum.out,hn2.out,decide_eq_false (by have:=h4'.out;omega)];rfl
    ·
     have h4':Hid ((0:Int)=(ks.length:Int)):=by unfold Hid;simpa using h4
     go_wp2_with fail
     go_ret
     refine ⟨ret_bool ?_,hend.out⟩
     rw [hrest'.out,hnum.out,hn2.out,decide_eq_true (.inl h4'.out)];rfl
   ·
    have hn2:=Lib.hid (show decide ((0:Int) < 0∨(l.length:Int)=0)=false by
     have h3':=bne_iff_ne.1 h3
     rw [decide_eq_false_iff_not];omega)
    go_wp2_with fail
    go_ret
    refine ⟨ret_bool ?_,hend.out⟩
    rw [hrest'.out,hn2.out,Bool.and_false];rfl
end Go.Proofs.YtinjocchommbdaaGreatDoor
