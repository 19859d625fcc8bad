/- A part of the proof that parser laws hold: texts of the walk and of its plain laws, made small. -/
import Derived.Test.YtinjocchommbdaaGreatDoorM05
import Derived.Lib.ParseIntBTie
set_option linter.unusedVariables false
set_option linter.unusedSimpArgs false
namespace Go.Proofs.YtinjocchommbdaaGreatDoor
def numFrom (acc:Nat) (l:Bs):Nat:=l.foldl (fun n b=>10 * n + (b.toNat - 48)) acc
theorem numFrom_ge:∀ (l:Bs) (acc:Nat),acc≤numFrom acc l
 | [],acc=>Nat.le_refl _
 | b :: r,acc=>by
  have:=numFrom_ge r (10 * acc + (b.toNat - 48))
  show acc≤numFrom (10 * acc + (b.toNat - 48)) r
  omega
theorem parse_digits:∀ (l:Bs) (acc:Nat),l.all dgB=true→Lib.parseUint10 acc l=if acc < 18446744073709551616∧numFrom acc l < 18446744073709551616 then .ok (numFrom acc l) else if acc < 18446744073709551616 then .range else Lib.parseUint10 acc l
 | [],acc,_=>by
  rw [Lib.parseUint10]
  by_cases h:acc < 18446744073709551616
  ·
   rw [if_pos ⟨h,h⟩];rfl
  ·
   rw [if_neg (fun q=>h q.1),if_neg h]
 | b :: r,acc,hl=>by
  simp only [List.all_cons,Bool.and_eq_true] at hl
  have hb:48≤b.toNat∧b.toNat≤57:=by have:=hl.1;unfold dgB at this;simpa using this
  by_cases h:acc < 18446744073709551616
  ·
   rw [Lib.parseUint10,if_pos hb]
   have e:numFrom acc (b :: r)=numFrom (10 * acc + (b.toNat - 48)) r:=rfl
   have hg:=numFrom_ge r (10 * acc + (b.toNat - 48))
   by_cases h1:1844674407370955162≤acc
   ·
    rw [if_pos h1,if_neg (fun q=>by rw [e] at q;omega),if_pos h]
   ·
    rw [if_neg h1]
    by_cases h2:18446744073709551616≤acc * 10 + (b.toNat - 48)
    ·
     rw [if_pos h2,if_neg (fun q=>by rw [e] at q;omega),if_pos h]
    ·
     rw [if_neg h2,parse_digits r _ hl.2,e,Nat.mul_comm acc 10]
     by_cases h3:numFrom (10 * acc + (b.toNat - 48)) r < 18446744073709551616
     ·
      rw [if_pos ⟨by omega,h3⟩,if_pos ⟨h,h3⟩]
     ·
      rw [if_neg (fun q=>h3 q.2),if_pos (by omega),if_neg (fun q=>h3 q.2),if_pos h]
  ·
   rw [if_neg (fun q=>h q.1),if_neg h]
theorem atoi_digits {l:Bs} (hne:l≠[]) (h:l.all dgB=true):Lib.parseIntB 64 l=if numL l≤maxI then .ok (numL l:Int) else .range:=by
 rw [Lib.parseIntB_64]
 cases l with
 | nil=>exact absurd rfl hne
 | cons c r =>
  have hc:48≤c.toNat∧c.toNat≤57:=by
   simp only [List.all_cons,Bool.and_eq_true] at h
   have:=h.1;unfold dgB at this;simpa using this
  unfold Lib.atoiAll
  simp only
  rw [if_neg (by omega)]
  unfold Lib.parseMag
  rw [if_neg (by simp),parse_digits _ _ h]
  have e:numFrom 0 (c :: r)=numL (c :: r):=rfl
  rw [e]
  unfold maxI
  by_cases h1:numL (c :: r) < 18446744073709551616
  ·
   rw [if_pos ⟨by omega,h1⟩]
   simp only
   by_cases h2:numL (c :: r)≤9223372036854775807
   ·
    rw [if_neg (by omega),if_neg (by omega),if_neg (by omega),if_pos h2]
   ·
    rw [if_pos ⟨by omega,by omega⟩,if_neg h2]
  ·
   rw [if_neg (fun q=>h1 q.2),if_pos (by omega),if_neg (by omega)]
end Go.Proofs.YtinjocchommbdaaGreatDoor
