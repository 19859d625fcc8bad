/- A part of the proof that parser laws hold: texts of the walk and of its plain laws, made small. -/
import Derived.WalkKit
import Derived.WalkSpells
import Derived.WalkLawsBesides
import Derived.Lib.Hide
import Derived.Maps.Own
import Derived.Maps.OwnOps
import Derived.Maps.Views
import Derived.Maps.Keyed
set_option linter.unusedVariables false
set_option linter.unusedSimpArgs false
namespace Go.Proofs.YtinjocchommbdaaGreatDoor
open Go.RowKit
abbrev Str:=ByteArray
inductive Ex where
 | mk (kind:Int) (name:Str) (num:Int) (names:List Str) (kids:List Ex)
def Ex.kind:Ex→Int | .mk k _ _ _ _=>k
def Ex.name:Ex→Str | .mk _ s _ _ _=>s
def Ex.num:Ex→Int | .mk _ _ n _ _=>n
def Ex.names:Ex→List Str | .mk _ _ _ l _=>l
def Ex.kids:Ex→List Ex | .mk _ _ _ _ l=>l
theorem Ex.size_kid {k:Int} {s:Str} {n:Int} {l:List Str} {ks:List Ex} {e:Ex} (h:e ∈ ks):SizeOf.sizeOf e < SizeOf.sizeOf (Ex.mk k s n l ks):=by
 have:=List.sizeOf_lt_of_mem h
 simp only [Ex.mk.sizeOf_spec]
 omega
theorem Ex.ind {motive:Ex→Prop} (step:∀ k s n l ks,(∀ e ∈ ks,motive e)→motive (.mk k s n l ks)):∀ e,motive e:=by
 have h:∀ m,∀ e:Ex,SizeOf.sizeOf e≤m→motive e:=by
  intro m
  induction m with
  | zero=>intro e he;cases e;simp only [Ex.mk.sizeOf_spec] at he;omega
  | succ m ih =>
   intro e he
   cases e with
   | mk k s n l ks=>exact step k s n l ks fun x hx=>ih x (by have:=Ex.size_kid (k:=k) (s:=s) (n:=n) (l:=l) hx;omega)
 exact fun e=>h _ e (Nat.le_refl _)
theorem ret_int {k:IntKind} {a b:Int} (h:a=b):Ending.returned (.int k a)=.returned (.int k b):=by rw [h]
theorem ret_bool {a b:Bool} (h:a=b):Ending.returned (.bool a)=.returned (.bool b):=by rw [h]
theorem ret_str {a b:Str} (h:a=b):Ending.returned (.string a)=.returned (.string b):=by rw [h]
def lenMax:Nat:=140737488355328
def StrRow (w:World) (a:Option Addr) (l:List Str):Prop :=
 l=[]∨∃ b off,a=some ⟨b,off,none⟩∧∀ i (h:i < l.length),w.cell? ⟨b,off + i,none⟩=some (.string l[i])∧l[i].size≤lenMax
mutual
def IsEx (w:World) (v:Value):Ex→Prop
 | .mk k s n l ks=>∃ a1 c1 a2 c2,v=.agg #[.int .i64 k,.string s,.int .i64 n,.slice a1 l.length c1,.slice a2 ks.length c2] ∧
   (-9223372036854775808≤k∧k≤9223372036854775807)∧(-9223372036854775808≤n∧n≤9223372036854775807)∧s.size≤lenMax∧l.length≤lenMax∧ks.length≤lenMax∧StrRow w a1 l∧ExFrom w a2 ks∧(a1=none→c1=0)∧ks.length≤c2
def ExFrom (w:World) (a:Option Addr):List Ex→Prop
 | []=>True
 | e
   :: r=>∃ b off v0 v1 v2 v3 v4,a=some ⟨b,off,none⟩∧w.cell? ⟨b,off,none⟩=some v0∧w.cell? ⟨b,off + 1,none⟩=some v1∧w.cell? ⟨b,off + 2,none⟩=some v2∧w.cell? ⟨b,off + 3,none⟩=some v3∧w.cell? ⟨b,off + 4,none⟩=some v4 ∧
   IsEx w (.agg #[v0,v1,v2,v3,v4]) e∧ExFrom w (some ⟨b,off + 5,none⟩) r
end
def ExRow (w:World) (a:Option Addr) (l:List Ex):Prop :=
 l=[]∨∃ b off,a=some ⟨b,off,none⟩∧∀ i (h:i < l.length),∃ v0 v1 v2 v3 v4,w.cell? ⟨b,off + i * 5,none⟩=some v0∧w.cell? ⟨b,off + i * 5 + 1,none⟩=some v1∧w.cell? ⟨b,off + i * 5 + 2,none⟩=some v2 ∧
  w.cell? ⟨b,off + i * 5 + 3,none⟩=some v3∧w.cell? ⟨b,off + i * 5 + 4,none⟩=some v4∧IsEx w (.agg #[v0,v1,v2,v3,v4]) l[i]
theorem exFrom_at {w:World}:∀ (l:List Ex) (b off:Nat),ExFrom w (some ⟨b,off,none⟩) l↔∀ i (h:i < l.length),∃ v0 v1 v2 v3 v4,w.cell? ⟨b,off + i * 5,none⟩=some v0∧w.cell? ⟨b,off + i * 5 + 1,none⟩=some v1∧w.cell? ⟨b,off + i * 5 + 2,none⟩=some v2 ∧
  w.cell? ⟨b,off + i * 5 + 3,none⟩=some v3∧w.cell? ⟨b,off + i * 5 + 4,none⟩=some v4∧IsEx w (.agg #[v0,v1,v2,v3,v4]) l[i]
 | [],_,_=>by simp [ExFrom]
 | e :: r,b,off=>by
  simp only [ExFrom]
  constructor
  ·
   rintro ⟨b',off',v0,v1,v2,v3,v4,ha,h0,h1,h2,h3,h4,he,hr⟩ i hi
   simp only [Option.some.injEq,Addr.mk.injEq] at ha
   obtain ⟨rfl,rfl,-⟩:=ha
   cases i with
   | zero=>exact ⟨v0,v1,v2,v3,v4,by simpa using h0,by simpa using h1,by simpa using h2,by simpa using h3,by simpa using h4,he⟩
   | succ i =>
    have:=(exFrom_at r b (off + 5)).1 hr i (by simpa using hi)
    rw [show off + (i + 1) * 5=off + 5 + i * 5 from by omega]
    simpa using this
  ·
   intro h
   obtain ⟨v0,v1,v2,v3,v4,h0,h1,h2,h3,h4,he⟩:=h 0 (by simp)
   refine ⟨b,off,v0,v1,v2,v3,v4,rfl,by simpa using h0,by simpa using h1,by simpa using h2,by simpa using h3,by simpa using h4,he,(exFrom_at r b (off + 5)).2 fun i hi=>?_⟩
   have:=h (i + 1) (by simpa using hi)
   rw [show off + (i + 1) * 5=off + 5 + i * 5 from by omega] at this
   simpa using this
theorem exRow_of_from {w:World} {a:Option Addr} {l:List Ex} (h:ExFrom w a l):ExRow w a l:=by
 cases l with
 | nil=>exact .inl rfl
 | cons e r =>
  have h':=h
  simp only [ExFrom] at h'
  obtain ⟨b,off,_,_,_,_,_,rfl,_⟩:=h'
  exact .inr ⟨b,off,rfl,(exFrom_at _ _ _).1 h⟩
theorem exFrom_of_row {w:World} {a:Option Addr} {l:List Ex} (h:ExRow w a l):ExFrom w a l:=by
 rcases h with rfl | ⟨b,off,rfl,h⟩
 ·
  simp [ExFrom]
 ·
  exact (exFrom_at _ _ _).2 h
theorem IsEx.open {w:World} {v:Value} {k:Int} {s:Str} {n:Int} {l:List Str} {ks:List Ex} (h:IsEx w v (.mk k s n l ks)) :
  ∃ a1 c1 a2 c2,v=.agg #[.int .i64 k,.string s,.int .i64 n,.slice a1 l.length c1,.slice a2 ks.length c2] ∧
   (-9223372036854775808≤k∧k≤9223372036854775807)∧(-9223372036854775808≤n∧n≤9223372036854775807)∧s.size≤lenMax∧l.length≤lenMax∧ks.length≤lenMax∧StrRow w a1 l∧ExRow w a2 ks:=by
 simp only [IsEx] at h
 obtain ⟨a1,c1,a2,c2,h0,h1,h2,h3,h4,h5,h6,h7,_⟩:=h
 exact ⟨a1,c1,a2,c2,h0,h1,h2,h3,h4,h5,h6,exRow_of_from h7⟩
theorem IsEx.caps {w:World} {k k':Int} {s s':Str} {n n':Int} {l:List Str} {ks:List Ex} {a1 a2:Option Addr} {m1 c1 m2 c2:Nat} (h:IsEx w (.agg #[.int .i64 k',.string s',.int .i64 n',.slice a1 m1 c1,.slice a2 m2 c2]) (.mk k s n l ks)):(a1=none→c1=0)∧ks.length≤c2:=by
 simp only [IsEx] at h
 obtain ⟨b1,d1,b2,d2,h0,h1,h2,h3,h4,h5,h6,h7,h8⟩:=h
 simp only [Value.agg.injEq,Array.mk.injEq,List.cons.injEq,Value.slice.injEq,and_true] at h0
 obtain ⟨_,_,_,⟨rfl,_,rfl⟩,_,_,rfl⟩:=h0
 exact h8
theorem IsEx.shut {w:World} {k:Int} {s:Str} {n:Int} {l:List Str} {ks:List Ex} {a1 a2:Option Addr} {c1 c2:Nat} (h1:-9223372036854775808≤k∧k≤9223372036854775807) (h2:-9223372036854775808≤n∧n≤9223372036854775807) (h3:s.size≤lenMax) (h4:l.length≤lenMax) (h5:ks.length≤lenMax) (h6:StrRow w a1 l) (h7:ExRow w a2 ks) (h8:(a1=none→c1=0)∧ks.length≤c2) :
  IsEx w (.agg #[.int .i64 k,.string s,.int .i64 n,.slice a1 l.length c1,.slice a2 ks.length c2]) (.mk k s n l ks):=by
 simp only [IsEx];exact ⟨a1,c1,a2,c2,rfl,h1,h2,h3,h4,h5,h6,exFrom_of_row h7,h8⟩
def Keeps (w w':World):Prop:=∀ a v,w.cell? a=some v→w'.cell? a=some v
theorem cell_block {w:World} {a:Addr} {v:Value} (h:w.cell? a=some v):a.block < w.heap.size:=by
 rcases Nat.lt_or_ge a.block w.heap.size with h' | h'
 ·
  exact h'
 ·
  simp [World.cell?,Array.getElem?_eq_none h'] at h
theorem Keeps.of_below {w w':World} (h:Below w.heap.size w w'):Keeps w w':=fun a v hv=>by
 have:=h.cell (p:=a) (cell_block hv)
 rw [this];exact hv
theorem Keeps.refl (w:World):Keeps w w:=fun _ _ h=>h
theorem Keeps.trans {a b c:World} (h:Keeps a b) (k:Keeps b c):Keeps a c:=fun x v hv=>k x v (h x v hv)
theorem StrRow.keeps {w w':World} {a:Option Addr} {l:List Str} (hk:Keeps w w') (h:StrRow w a l):StrRow w' a l:=by
 rcases h with h | ⟨b,off,ha,h⟩
 ·
  exact .inl h
 ·
  exact .inr ⟨b,off,ha,fun i hi=>⟨hk _ _ (h i hi).1,(h i hi).2⟩⟩
theorem IsEx.keeps {w w':World} (hk:Keeps w w'):∀ (e:Ex) (v:Value),IsEx w v e→IsEx w' v e:=by
 refine Ex.ind fun k s n l ks ih v h=>?_
 obtain ⟨a1,c1,a2,c2,rfl,h1,h2,h3,h4,h5,h6,h7⟩:=h.open
 refine IsEx.shut h1 h2 h3 h4 h5 (h6.keeps hk) ?_ h.caps
 rcases h7 with h7 | ⟨b,off,ha,h7⟩
 ·
  exact .inl h7
 ·
  refine .inr ⟨b,off,ha,fun i hi=>?_⟩
  obtain ⟨v0,v1,v2,v3,v4,g0,g1,g2,g3,g4,ge⟩:=h7 i hi
  exact ⟨v0,v1,v2,v3,v4,hk _ _ g0,hk _ _ g1,hk _ _ g2,hk _ _ g3,hk _ _ g4,ih _ (List.getElem_mem hi) _ ge⟩
theorem ExRow.keeps {w w':World} {a:Option Addr} {l:List Ex} (hk:Keeps w w') (h:ExRow w a l):ExRow w' a l:=by
 rcases h with h7 | ⟨b,off,ha,h7⟩
 ·
  exact .inl h7
 ·
  refine .inr ⟨b,off,ha,fun i hi=>?_⟩
  obtain ⟨v0,v1,v2,v3,v4,g0,g1,g2,g3,g4,ge⟩:=h7 i hi
  exact ⟨v0,v1,v2,v3,v4,hk _ _ g0,hk _ _ g1,hk _ _ g2,hk _ _ g3,hk _ _ g4,ge.keeps hk⟩
theorem ExRow.kid {w:World} {a:Option Addr} {l:List Ex} (h:ExRow w a l) (hne:l≠[]):∃ b off,a=some ⟨b,off,none⟩∧∀ i (h:i < l.length),∃ a1 c1 a2 c2,
  w.cell? ⟨b,off + i * 5,none⟩=some (.int .i64 l[i].kind)∧w.cell? ⟨b,off + i * 5 + 1,none⟩=some (.string l[i].name)∧w.cell? ⟨b,off + i * 5 + 2,none⟩=some (.int .i64 l[i].num) ∧
  w.cell? ⟨b,off + i * 5 + 3,none⟩=some (.slice a1 l[i].names.length c1)∧w.cell? ⟨b,off + i * 5 + 4,none⟩=some (.slice a2 l[i].kids.length c2) ∧
  IsEx w (.agg #[.int .i64 l[i].kind,.string l[i].name,.int .i64 l[i].num,.slice a1 l[i].names.length c1,.slice a2 l[i].kids.length c2]) l[i]:=by
 rcases h with h | ⟨b,off,ha,h⟩
 ·
  exact (hne h).elim
 ·
  refine ⟨b,off,ha,fun i hi=>?_⟩
  obtain ⟨v0,v1,v2,v3,v4,g0,g1,g2,g3,g4,ge⟩:=h i hi
  generalize l[i]=x at ge ⊢
  cases x with
  | mk k s n ls ks =>
   have ge':=ge
   obtain ⟨a1,c1,a2,c2,hv,_⟩:=ge.open
   simp only [Value.agg.injEq,Array.mk.injEq,List.cons.injEq,and_true] at hv
   obtain ⟨rfl,rfl,rfl,rfl,rfl⟩:=hv
   exact ⟨a1,c1,a2,c2,g0,g1,g2,g3,g4,ge'⟩
def cnt:Ex→Nat
 | .mk _ _ _ _ ks=>1 + cntL ks
where cntL:List Ex→Nat
 | []=>0
 | e :: r=>cnt e + cntL r
theorem cntL_take_succ (ks:List Ex) (k:Nat) (h:k < ks.length):cnt.cntL (ks.take (k + 1))=cnt.cntL (ks.take k) + cnt ks[k]:=by
 induction ks generalizing k with
 | nil=>simp at h
 | cons e r ih =>
  cases k with
  | zero=>simp [cnt.cntL]
  | succ k =>
   have:=ih k (by simpa using h)
   simp only [List.take_succ_cons,cnt.cntL,List.getElem_cons_succ]
   omega
theorem cntL_append (a b:List Ex):cnt.cntL (a ++ b)=cnt.cntL a + cnt.cntL b:=by
 induction a with
 | nil=>simp [cnt.cntL]
 | cons e r ih=>simp only [List.cons_append,cnt.cntL,ih];omega
theorem cntL_take_le (ks:List Ex) (k:Nat):cnt.cntL (ks.take k)≤cnt.cntL ks:=by
 have h:cnt.cntL ks=cnt.cntL (ks.take k ++ ks.drop k):=by rw [List.take_append_drop]
 rw [h,cntL_append];omega
theorem box5 {w wr:World} {v0 v1 v2 v3 v4:Value} {t:TypeId} (h:Below (w.heap.size + 1) (w.alloc (.cells #[v0,v1,v2,v3,v4] t)) wr) :
  wr.cell? ⟨w.heap.size,0,none⟩=some v0∧wr.cell? ⟨w.heap.size,1,none⟩=some v1∧wr.cell? ⟨w.heap.size,2,none⟩=some v2∧wr.cell? ⟨w.heap.size,3,none⟩=some v3∧wr.cell? ⟨w.heap.size,4,none⟩=some v4:=by
 refine ⟨?_,?_,?_,?_,?_⟩ <;> (rw [h.cell (by simp),World.cell?_alloc_at _ _ _ _ rfl];rfl)
theorem below_box {w wr:World} {o:Obj} (h:Below (w.heap.size + 1) (w.alloc o) wr):Below w.heap.size w wr :=
 ((Below.refl _ w).alloc (Nat.le_refl _) _).trans (h.mono (by omega))
theorem keeps_box {w wr:World} {o:Obj} (h:Below (w.heap.size + 1) (w.alloc o) wr):Keeps w wr:=Keeps.of_below (below_box h)
theorem size_box {w wr:World} {o:Obj} (h:Below (w.heap.size + 1) (w.alloc o) wr):w.heap.size + 1≤wr.heap.size:=by simpa using h.size
def dep:Ex→Nat
 | .mk _ _ _ _ ks=>1 + depL ks
where depL:List Ex→Nat
 | []=>0
 | e :: r=>max (dep e) (depL r)
theorem depL_take_succ (ks:List Ex) (k:Nat) (h:k < ks.length):dep.depL (ks.take (k + 1))=max (dep.depL (ks.take k)) (dep ks[k]):=by
 induction ks generalizing k with
 | nil=>simp at h
 | cons e r ih =>
  cases k with
  | zero=>simp [dep.depL]
  | succ k =>
   have:=ih k (by simpa using h)
   simp only [List.take_succ_cons,dep.depL,List.getElem_cons_succ]
   omega
theorem dep_pos (e:Ex):1≤dep e:=by cases e;simp only [dep];omega
end Go.Proofs.YtinjocchommbdaaGreatDoor
namespace Go.Proofs.YtinjocchommbdaaGreatDoor
open Go.RowKit
inductive Sg where
 | mk (name:Str) (args:List Sg)
def Sg.name:Sg→Str | .mk s _=>s
def Sg.args:Sg→List Sg | .mk _ l=>l
theorem Sg.size_arg {s:Str} {l:List Sg} {e:Sg} (h:e ∈ l):SizeOf.sizeOf e < SizeOf.sizeOf (Sg.mk s l):=by
 have:=List.sizeOf_lt_of_mem h
 simp only [Sg.mk.sizeOf_spec]
 omega
theorem Sg.ind {motive:Sg→Prop} (step:∀ s l,(∀ e ∈ l,motive e)→motive (.mk s l)):∀ e,motive e:=by
 have h:∀ m,∀ e:Sg,SizeOf.sizeOf e≤m→motive e:=by
  intro m
  induction m with
  | zero=>intro e he;cases e;simp only [Sg.mk.sizeOf_spec] at he;omega
  | succ m ih =>
   intro e he
   cases e with
   | mk s l=>exact step s l fun x hx=>ih x (by have:=Sg.size_arg (s:=s) hx;omega)
 exact fun e=>h _ e (Nat.le_refl _)
mutual
def IsSg (w:World) (v:Value):Sg→Prop
 | .mk s l=>∃ a c,v=.agg #[.string s,.slice a l.length c]∧s.size≤lenMax∧l.length≤lenMax∧SgFrom w a l
def SgFrom (w:World) (a:Option Addr):List Sg→Prop
 | []=>True
 | e :: r=>∃ b off v0 v1,a=some ⟨b,off,none⟩∧w.cell? ⟨b,off,none⟩=some v0∧w.cell? ⟨b,off + 1,none⟩=some v1∧IsSg w (.agg #[v0,v1]) e∧SgFrom w (some ⟨b,off + 2,none⟩) r
end
def SgRow (w:World) (a:Option Addr) (l:List Sg):Prop :=
 l=[]∨∃ b off,a=some ⟨b,off,none⟩∧∀ i (h:i < l.length),∃ v0 v1,w.cell? ⟨b,off + i * 2,none⟩=some v0∧w.cell? ⟨b,off + i * 2 + 1,none⟩=some v1∧IsSg w (.agg #[v0,v1]) l[i]
theorem sgFrom_at {w:World}:∀ (l:List Sg) (b off:Nat),SgFrom w (some ⟨b,off,none⟩) l↔∀ i (h:i < l.length),∃ v0 v1,w.cell? ⟨b,off + i * 2,none⟩=some v0∧w.cell? ⟨b,off + i * 2 + 1,none⟩=some v1∧IsSg w (.agg #[v0,v1]) l[i]
 | [],_,_=>by simp [SgFrom]
 | e :: r,b,off=>by
  simp only [SgFrom]
  constructor
  ·
   rintro ⟨b',off',v0,v1,ha,h0,h1,he,hr⟩ i hi
   simp only [Option.some.injEq,Addr.mk.injEq] at ha
   obtain ⟨rfl,rfl,-⟩:=ha
   cases i with
   | zero=>exact ⟨v0,v1,by simpa using h0,by simpa using h1,he⟩
   | succ i =>
    have:=(sgFrom_at r b (off + 2)).1 hr i (by simpa using hi)
    rw [show off + (i + 1) * 2=off + 2 + i * 2 from by omega]
    simpa using this
  ·
   intro h
   obtain ⟨v0,v1,h0,h1,he⟩:=h 0 (by simp)
   refine ⟨b,off,v0,v1,rfl,by simpa using h0,by simpa using h1,he,(sgFrom_at r b (off + 2)).2 fun i hi=>?_⟩
   have:=h (i + 1) (by simpa using hi)
   rw [show off + (i + 1) * 2=off + 2 + i * 2 from by omega] at this
   simpa using this
theorem sgRow_of_from {w:World} {a:Option Addr} {l:List Sg} (h:SgFrom w a l):SgRow w a l:=by
 cases l with
 | nil=>exact .inl rfl
 | cons e r =>
  have h':=h
  simp only [SgFrom] at h'
  obtain ⟨b,off,_,_,rfl,_⟩:=h'
  exact .inr ⟨b,off,rfl,(sgFrom_at _ _ _).1 h⟩
theorem sgFrom_of_row {w:World} {a:Option Addr} {l:List Sg} (h:SgRow w a l):SgFrom w a l:=by
 rcases h with rfl | ⟨b,off,rfl,h⟩
 ·
  simp [SgFrom]
 ·
  exact (sgFrom_at _ _ _).2 h
theorem IsSg.open {w:World} {v:Value} {s:Str} {l:List Sg} (h:IsSg w v (.mk s l)):∃ a c,v=.agg #[.string s,.slice a l.length c]∧s.size≤lenMax∧l.length≤lenMax∧SgRow w a l:=by
 simp only [IsSg] at h
 obtain ⟨a,c,h0,h1,h2,h3⟩:=h
 exact ⟨a,c,h0,h1,h2,sgRow_of_from h3⟩
theorem IsSg.shut {w:World} {a:Option Addr} {c:Nat} {s:Str} {l:List Sg} (h1:s.size≤lenMax) (h2:l.length≤lenMax) (h:SgRow w a l):IsSg w (.agg #[.string s,.slice a l.length c]) (.mk s l):=by
 simp only [IsSg];exact ⟨a,c,rfl,h1,h2,sgFrom_of_row h⟩
theorem IsSg.keeps {w w':World} (hk:Keeps w w'):∀ (e:Sg) (v:Value),IsSg w v e→IsSg w' v e:=by
 refine Sg.ind fun s l ih v h=>?_
 obtain ⟨a,c,h0,h1,h2,h3⟩:=h.open
 subst h0
 refine IsSg.shut h1 h2 ?_
 rcases h3 with h3 | ⟨b,off,ha,h3⟩
 ·
  exact .inl h3
 ·
  refine .inr ⟨b,off,ha,fun i hi=>?_⟩
  obtain ⟨v0,v1,g0,g1,ge⟩:=h3 i hi
  exact ⟨v0,v1,hk _ _ g0,hk _ _ g1,ih _ (List.getElem_mem hi) _ ge⟩
theorem SgRow.keeps {w w':World} {a:Option Addr} {l:List Sg} (hk:Keeps w w') (h:SgRow w a l):SgRow w' a l:=by
 rcases h with h3 | ⟨b,off,ha,h3⟩
 ·
  exact .inl h3
 ·
  refine .inr ⟨b,off,ha,fun i hi=>?_⟩
  obtain ⟨v0,v1,g0,g1,ge⟩:=h3 i hi
  exact ⟨v0,v1,hk _ _ g0,hk _ _ g1,ge.keeps hk⟩
theorem SgRow.arg {w:World} {a:Option Addr} {l:List Sg} (h:SgRow w a l) (hne:l≠[]):∃ b off,a=some ⟨b,off,none⟩∧∀ i (h:i < l.length),∃ a1 c1,
  w.cell? ⟨b,off + i * 2,none⟩=some (.string l[i].name)∧w.cell? ⟨b,off + i * 2 + 1,none⟩=some (.slice a1 l[i].args.length c1)∧IsSg w (.agg #[.string l[i].name,.slice a1 l[i].args.length c1]) l[i]:=by
 rcases h with h | ⟨b,off,ha,h⟩
 ·
  exact (hne h).elim
 ·
  refine ⟨b,off,ha,fun i hi=>?_⟩
  obtain ⟨v0,v1,g0,g1,ge⟩:=h i hi
  generalize l[i]=x at ge ⊢
  cases x with
  | mk s l =>
   have ge':=ge
   obtain ⟨a1,c1,hv,_⟩:=ge.open
   simp only [Value.agg.injEq,Array.mk.injEq,List.cons.injEq,and_true] at hv
   obtain ⟨rfl,rfl⟩:=hv
   exact ⟨a1,c1,g0,g1,ge'⟩
structure Dt where
 name:Str
 params:List Str
 forms:List Sg
structure Df where
 name:Str
 body:Ex
structure Pg where
 datas:List Dt
 defs:List Df
def IsDt (w:World) (v:Value) (d:Dt):Prop:=∃ a1 c1 a2 c2,v=.agg #[.string d.name,.slice a1 d.params.length c1,.slice a2 d.forms.length c2]∧(a1=none→c1=0)∧d.name.size≤lenMax∧d.params.length≤lenMax∧d.forms.length≤lenMax∧StrRow w a1 d.params∧SgRow w a2 d.forms
def DtRow (w:World) (a:Option Addr) (l:List Dt):Prop :=
 l=[]∨∃ b off,a=some ⟨b,off,none⟩∧∀ i (h:i < l.length),∃ v0 v1 v2,w.cell? ⟨b,off + i * 3,none⟩=some v0∧w.cell? ⟨b,off + i * 3 + 1,none⟩=some v1∧w.cell? ⟨b,off + i * 3 + 2,none⟩=some v2∧IsDt w (.agg #[v0,v1,v2]) l[i]
def IsDf (w:World) (v:Value) (d:Df):Prop:=∃ v1 v2 v3 v4 v5,v=.agg #[.string d.name,v1,v2,v3,v4,v5]∧d.name.size≤lenMax∧IsEx w (.agg #[v1,v2,v3,v4,v5]) d.body
def DfRow (w:World) (a:Option Addr) (l:List Df):Prop :=
 l=[]∨∃ b off,a=some ⟨b,off,none⟩∧∀ i (h:i < l.length),∃ v0 v1 v2 v3 v4 v5,w.cell? ⟨b,off + i * 6,none⟩=some v0∧w.cell? ⟨b,off + i * 6 + 1,none⟩=some v1∧w.cell? ⟨b,off + i * 6 + 2,none⟩=some v2∧w.cell? ⟨b,off + i * 6 + 3,none⟩=some v3 ∧
  w.cell? ⟨b,off + i * 6 + 4,none⟩=some v4∧w.cell? ⟨b,off + i * 6 + 5,none⟩=some v5∧IsDf w (.agg #[v0,v1,v2,v3,v4,v5]) l[i]
def IsPg (w:World) (v:Value) (p:Pg):Prop:=∃ a1 c1 a2 c2,v=.agg #[.slice a1 p.datas.length c1,.slice a2 p.defs.length c2]∧p.datas.length≤lenMax∧p.defs.length≤lenMax∧DtRow w a1 p.datas∧DfRow w a2 p.defs
theorem IsDt.keeps {w w':World} (hk:Keeps w w') {v:Value} {d:Dt} (h:IsDt w v d):IsDt w' v d:=by
 obtain ⟨a1,c1,a2,c2,h0,hc,h1,h2,h3,h4,h5⟩:=h
 exact ⟨a1,c1,a2,c2,h0,hc,h1,h2,h3,h4.keeps hk,h5.keeps hk⟩
theorem DtRow.keeps {w w':World} (hk:Keeps w w') {a:Option Addr} {l:List Dt} (h:DtRow w a l):DtRow w' a l:=by
 rcases h with h3 | ⟨b,off,ha,h3⟩
 ·
  exact .inl h3
 ·
  refine .inr ⟨b,off,ha,fun i hi=>?_⟩
  obtain ⟨v0,v1,v2,g0,g1,g2,ge⟩:=h3 i hi
  exact ⟨v0,v1,v2,hk _ _ g0,hk _ _ g1,hk _ _ g2,ge.keeps hk⟩
theorem IsDf.keeps {w w':World} (hk:Keeps w w') {v:Value} {d:Df} (h:IsDf w v d):IsDf w' v d:=by
 obtain ⟨v1,v2,v3,v4,v5,h0,h1,h2⟩:=h
 exact ⟨v1,v2,v3,v4,v5,h0,h1,h2.keeps hk⟩
theorem DfRow.keeps {w w':World} (hk:Keeps w w') {a:Option Addr} {l:List Df} (h:DfRow w a l):DfRow w' a l:=by
 rcases h with h3 | ⟨b,off,ha,h3⟩
 ·
  exact .inl h3
 ·
  refine .inr ⟨b,off,ha,fun i hi=>?_⟩
  obtain ⟨v0,v1,v2,v3,v4,v5,g0,g1,g2,g3,g4,g5,ge⟩:=h3 i hi
  exact ⟨v0,v1,v2,v3,v4,v5,hk _ _ g0,hk _ _ g1,hk _ _ g2,hk _ _ g3,hk _ _ g4,hk _ _ g5,ge.keeps hk⟩
theorem IsPg.keeps {w w':World} (hk:Keeps w w') {v:Value} {p:Pg} (h:IsPg w v p):IsPg w' v p:=by
 obtain ⟨a1,c1,a2,c2,h0,h1,h2,h3,h4⟩:=h
 exact ⟨a1,c1,a2,c2,h0,h1,h2,h3.keeps hk,h4.keeps hk⟩
theorem DtRow.at {w:World} {a:Option Addr} {l:List Dt} (h:DtRow w a l) (hne:l≠[]):∃ b off,a=some ⟨b,off,none⟩∧∀ i (h:i < l.length),∃ a1 c1 a2 c2,
  w.cell? ⟨b,off + i * 3,none⟩=some (.string l[i].name)∧w.cell? ⟨b,off + i * 3 + 1,none⟩=some (.slice a1 l[i].params.length c1)∧w.cell? ⟨b,off + i * 3 + 2,none⟩=some (.slice a2 l[i].forms.length c2) ∧
  IsDt w (.agg #[.string l[i].name,.slice a1 l[i].params.length c1,.slice a2 l[i].forms.length c2]) l[i]:=by
 rcases h with h | ⟨b,off,ha,h⟩
 ·
  exact (hne h).elim
 ·
  refine ⟨b,off,ha,fun i hi=>?_⟩
  obtain ⟨v0,v1,v2,g0,g1,g2,ge⟩:=h i hi
  have ge':=ge
  obtain ⟨a1,c1,a2,c2,hv,_⟩:=ge
  simp only [Value.agg.injEq,Array.mk.injEq,List.cons.injEq,and_true] at hv
  obtain ⟨rfl,rfl,rfl⟩:=hv
  exact ⟨a1,c1,a2,c2,g0,g1,g2,ge'⟩
theorem DfRow.at {w:World} {a:Option Addr} {l:List Df} (h:DfRow w a l) (hne:l≠[]):∃ b off,a=some ⟨b,off,none⟩∧∀ i (h:i < l.length),∃ a1 c1 a2 c2,
  w.cell? ⟨b,off + i * 6,none⟩=some (.string l[i].name)∧w.cell? ⟨b,off + i * 6 + 1,none⟩=some (.int .i64 l[i].body.kind)∧w.cell? ⟨b,off + i * 6 + 2,none⟩=some (.string l[i].body.name)∧w.cell? ⟨b,off + i * 6 + 3,none⟩=some (.int .i64 l[i].body.num) ∧
  w.cell? ⟨b,off + i * 6 + 4,none⟩=some (.slice a1 l[i].body.names.length c1)∧w.cell? ⟨b,off + i * 6 + 5,none⟩=some (.slice a2 l[i].body.kids.length c2) ∧
  IsDf w (.agg #[.string l[i].name,.int .i64 l[i].body.kind,.string l[i].body.name,.int .i64 l[i].body.num,.slice a1 l[i].body.names.length c1,.slice a2 l[i].body.kids.length c2]) l[i]:=by
 rcases h with h | ⟨b,off,ha,h⟩
 ·
  exact (hne h).elim
 ·
  refine ⟨b,off,ha,fun i hi=>?_⟩
  obtain ⟨v0,v1,v2,v3,v4,v5,g0,g1,g2,g3,g4,g5,ge⟩:=h i hi
  have ge':=ge
  obtain ⟨_,_,_,_,_,hv,_,he⟩:=ge
  simp only [Value.agg.injEq,Array.mk.injEq,List.cons.injEq,and_true] at hv
  obtain ⟨rfl,rfl,rfl,rfl,rfl,rfl⟩:=hv
  generalize hx:l[i]=x at he ge' g0 ⊢
  obtain ⟨nm,⟨k,s,n,ls,ks⟩⟩:=x
  obtain ⟨a1,c1,a2,c2,hv,_⟩:=IsEx.open he
  simp only [Value.agg.injEq,Array.mk.injEq,List.cons.injEq,and_true] at hv
  obtain ⟨rfl,rfl,rfl,rfl,rfl⟩:=hv
  exact ⟨a1,c1,a2,c2,g0,g1,g2,g3,g4,g5,ge'⟩
end Go.Proofs.YtinjocchommbdaaGreatDoor
namespace Go.Proofs.YtinjocchommbdaaGreatDoor
open Go.RowKit
open Go.Maps (Keyed)
def heldR:Value→Option (DataW Value × List MemPlace):=fun v=>some (.held v,[])
def MapOf (P:Program) (w:World) (k:TypeId) (b n:Nat) (f:Lit→Option Value):Prop :=
 ∃ D:DataW Value,w.ownsMap P k heldR b n D∧∀ kl z,D.atKey kl (.held z)=.held ((f kl).getD z)
noncomputable def updF (f:Lit→Option Value) (kl:Lit) (v:Value):Lit→Option Value:=fun x=>open Classical in if x=kl then some v else f x
theorem updF_same (f:Lit→Option Value) (kl:Lit) (v:Value):updF f kl v kl=some v:=by simp [updF]
theorem updF_other {f:Lit→Option Value} {kl x:Lit} {v:Value} (h:x≠kl):updF f kl v x=f x:=by simp [updF,h]
theorem MapOf.made (P:Program) (w:World) (k:TypeId):MapOf P (w.alloc (.map #[] 0)) k w.heap.size 0 (fun _=>none) :=
 ⟨.map [],World.ownsMap_made w P k heldR,fun _ _=>rfl⟩
theorem MapOf.below {P:Program} {w w':World} {k:TypeId} {b n B:Nat} {f:Lit→Option Value} (h:MapOf P w k b n f) (hB:Below B w w') (hb:b < B):MapOf P w' k b n f:=by
 obtain ⟨D,⟨es,clock,h1,h2,h3,h4⟩,h5⟩:=h
 exact ⟨D,⟨es,clock,(hB.block b hb).trans h1,h2,h3,h4⟩,h5⟩
theorem MapOf.look {P:Program} {w:World} {k t e:TypeId} {b n:Nat} {f:Lit→Option Value} (h:MapOf P w k b n f) (K:Keyed P k) (ht:P.underlying t=some (.map k e)) {z:Value} (hz:(zeroValue e).run P w=.ok z w)
  {key:Value} {kl:Lit} (hkey:keyOf P k key=some kl):(Instr.lookup t (.map (some b)) key false).run P w=.ok ((f kl).getD z) w:=by
 obtain ⟨D,h1,h2⟩:=h
 obtain ⟨v,ps,hrun,hv⟩:=h1.lookup K ht hz (zd:=.held z) (zp:=[]) rfl hkey
 rw [h2] at hv
 simp only [heldR,Option.some.injEq,Prod.mk.injEq,DataW.held.injEq] at hv
 rw [hrun,hv.1]
theorem MapOf.update {P:Program} {w:World} {k t e:TypeId} {b n:Nat} {f:Lit→Option Value} (h:MapOf P w k b n f) (K:Keyed P k) (ht:P.underlying t=some (.map k e)) (hn:n < maxLen)
  {key val:Value} {kl:Lit} (hkey:keyOf P k key=some kl):∃ w',(Instr.mapUpdate t (.map (some b)) key val).run P w=.ok () w'∧MapOf P w' k b (n + 1) (updF f kl val)∧w.grownBy w' (some b):=by
 obtain ⟨D,h1,h2⟩:=h
 obtain ⟨w',hrun,h3,h4⟩:=h1.update K ht hn hkey (d:=.held val) (ps:=[]) (R:=heldR) (val:=val) rfl
 refine ⟨w',hrun,⟨_,h3,fun x z=>?_⟩,h4⟩
 have hm:Maps.IsMap D:=by obtain ⟨es,clock,_,_,_,rfl⟩:=h1;exact ⟨_,rfl⟩
 by_cases hx:x=kl
 ·
  subst hx
  rw [Maps.atKey_put_same hm (K.key hkey),updF_same];rfl
 ·
  rw [Maps.atKey_put_other hx,updF_other hx,h2]
theorem wpList_put {P:Program} (w:World) {ops:Array Oper} {rest:List Oper} {o:Oper} {a:Act} {Q:Exit→Act→World→Prop}
  (hg:o.guard=none) (m x v:Operand) (t:TypeId) (hop:o.op=Op.mapUpdate t m x v)
  (k e:TypeId) (K:Keyed P k) (ht:P.underlying t=some (.map k e)) (b n:Nat) (f:Lit→Option Value)
  (hm:a.eval m=.map (some b)) (hown:MapOf P w k b n f) (hn:n < maxLen) (key val:Value) (kl:Lit) (hx:a.eval x=key) (hv:a.eval v=val) (hkey:keyOf P k key=some kl)
  (hK:∀ w',MapOf P w' k b (n + 1) (updF f kl val)→w.grownBy w' (some b)→wpList P ops Q rest (a.put o.dst undef) w') :
  wpList P ops Q (o :: rest) a w:=by
 refine wpList_plain hg fun K' hK'=>?_
 obtain ⟨w',hrun,r1,r2⟩:=hown.update K ht hn hkey (val:=val)
 unfold Oper.wp
 simp [execOp,hop,hm,hx,hv,hrun,Result.andThen]
 exact hK' _ _ (hK w' r1 r2)
end Go.Proofs.YtinjocchommbdaaGreatDoor

namespace Go.Proofs.YtinjocchommbdaaGreatDoor
theorem len1 {α:Type} {l:List α} (h:l.length=1):∃ a,l=[a]:=by
 cases l with
 | nil=>simp at h
 | cons a r=>cases r with
  | nil=>exact ⟨a,rfl⟩
  | cons=>simp at h
theorem len2 {α:Type} {l:List α} (h:l.length=2):∃ a b,l=[a,b]:=by
 cases l with
 | nil=>simp at h
 | cons a r=>obtain ⟨b,rfl⟩:=len1 (l:=r) (by simpa using h);exact ⟨a,b,rfl⟩
theorem len3 {α:Type} {l:List α} (h:l.length=3):∃ a b c,l=[a,b,c]:=by
 cases l with
 | nil=>simp at h
 | cons a r=>obtain ⟨b,c,rfl⟩:=len2 (l:=r) (by simpa using h);exact ⟨a,b,c,rfl⟩
end Go.Proofs.YtinjocchommbdaaGreatDoor
