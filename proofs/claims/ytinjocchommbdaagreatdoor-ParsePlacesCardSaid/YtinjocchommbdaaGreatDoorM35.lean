/- A part of the proof that parser laws hold: texts of the walk and of its plain laws, made small. -/
import Derived.Test.YtinjocchommbdaaGreatDoorM02
import Derived.Test.YtinjocchommbdaaGreatDoorM34
import Derived.Test.YtinjocchommbdaaGreatDoorProg
import Derived.Test.YtinjocchommbdaaGreatDoorM30
import Derived.Deep.RegionHeld3
import Derived.Deep.AppendLies
import Derived.Maps.AppendAt
import Derived.RangeFuncBox
import Derived.OneCell
import Derived.Lib.Strings
import Derived.Deep.RegionLaw
import Derived.Deep.RegionWith
import Derived.Laws.AppendOwnNone
import Derived.Deep.DeepMust
import Derived.Lib.SmallJoins
set_option linter.unusedVariables false
set_option linter.unusedSimpArgs false
namespace Go.Proofs.YtinjocchommbdaaGreatDoor
open Go.RowKit
def Tab (w:World):Prop:=Lib.TabIs Tryz.prog w "internal/strconv.uint64pow10" .u64 Lib.pow10Tab
theorem Tab.below {w w':World} (h:Tab w) (hb:Below w.heap.size w w'):Tab w':=by
 have h1:(Tryz.prog.globalNamed "internal/strconv.uint64pow10").isSome=true:=by kernel_rfl
 obtain ⟨g,hg⟩:=Option.isSome_iff_exists.1 h1
 exact Joins.tab_stays hg h hb (Nat.le_refl _)
def IsExT (w:World) (v:Value) (e:Ex):Prop:=IsEx w v e∧Tab w
theorem IsExT.below {w w':World} {v:Value} {e:Ex} (h:IsExT w v e) (hb:Below w.heap.size w w'):IsExT w' v e:=⟨h.1.keeps (Keeps.of_below hb),h.2.below hb⟩
theorem IsSg.below {w w':World} {v:Value} {e:Sg} (h:IsSg w v e) (hb:Below w.heap.size w w'):IsSg w' v e:=IsSg.keeps (Keeps.of_below hb) _ _ h
inductive Pt where
 | str (s:Str)
 | strs (l:List Str)
 | ex (e:Ex)
 | br (e:Ex)
 | sg (s:Sg)
def Pt.out:Pt→List Str
 | .str s=>[s]
 | .strs l=>l
 | .ex e=>[mkS (textE e)]
 | .br e=>[mkS (atomE e)]
 | .sg s=>[mkS (sgAtom s)]
def IsPt (w:World) (v:Value):Pt→Prop
 | .str s=>v=.iface 9 (.string s)
 | .strs l=>∃ a c,v=.iface 24 (.slice a l.length c)∧(a=none→c=0)∧l.length≤lenMax∧StrRow w a l
 | .ex e=>∃ x,v=.iface 27 x∧IsExT w x e
 | .br e=>∃ x,v=.iface 173 x∧IsExT w x e
 | .sg s=>∃ x,v=.iface 163 x∧IsSg w x s
theorem IsPt.below {w w':World} (hb:Below w.heap.size w w') {v:Value} {p:Pt} (h:IsPt w v p):IsPt w' v p:=by
 cases p with
 | str s=>exact h
 | strs l=>obtain ⟨a,c,h1,h0,h2,h3⟩:=h;exact ⟨a,c,h1,h0,h2,h3.keeps (Keeps.of_below hb)⟩
 | ex e=>obtain ⟨x,h1,h2⟩:=h;exact ⟨x,h1,h2.below hb⟩
 | br e=>obtain ⟨x,h1,h2⟩:=h;exact ⟨x,h1,h2.below hb⟩
 | sg s=>obtain ⟨x,h1,h2⟩:=h;exact ⟨x,h1,h2.below hb⟩
def PtRow (w:World) (a:Option Addr) (l:List Pt):Prop :=
 l=[]∨∃ b off,a=some ⟨b,off,none⟩∧∀ i (h:i < l.length),∃ v,w.cell? ⟨b,off + i,none⟩=some v∧IsPt w v l[i]
theorem PtRow.below {w w':World} {a:Option Addr} {l:List Pt} (hb:Below w.heap.size w w') (h:PtRow w a l):PtRow w' a l:=by
 rcases h with h3 | ⟨b,off,ha,h3⟩
 ·
  exact .inl h3
 ·
  refine .inr ⟨b,off,ha,fun i hi=>?_⟩
  obtain ⟨v,g,ge⟩:=h3 i hi
  exact ⟨v,Keeps.of_below hb _ _ g,ge.below hb⟩
def WrIs (w:World) (bp:Nat) (v:Value) (l:List Str):Prop :=
 w.heap[bp]?=some (.cells #[v] 161 (0,0))∧w.ownsRow (bp + 1) 9 1 v l.length (l.map Value.string)
theorem Tryz.infoStr:(Tryz.prog.info? 9).map (fun i=>(i.zero,i.size,i.bytes))=some (some (.string ⟨#[]⟩),1,16):=by kernel_rfl
def TextC (e:Ex):Prop:=∀ (v:Value) (w:World),IsExT w v e→Calls Tryz.prog 60 #[v] w fun r w'=>r=.returned (.string (mkS (textE e)))∧Below w.heap.size w w'
def SgAtomC (s:Sg):Prop:=∀ (v:Value) (w:World),IsSg w v s→Calls Tryz.prog 177 #[v] w fun r w'=>r=.returned (.string (mkS (sgAtom s)))∧Below w.heap.size w w'
def Pt.can:Pt→Prop
 | .ex e=>TextC e
 | .br e=>TextC e∧(textE e).length≤1099511627776
 | .sg s=>SgAtomC s
 | _=>True
structure WrTo (w:World) (bp:Nat) (v:Value) (W:World) (vv:Value):Prop where
 below:Below bp w W
 keeps:KeepsBut (fun b=>b=bp∨v.ownBlock=some b) w W
 own:vv.ownBlock=v.ownBlock∨∀ g,vv.ownBlock=some g→w.heap.size≤g
theorem WrTo.refl (w:World) (bp:Nat) (v:Value):WrTo w bp v w v:=⟨Below.refl _ _,KeepsBut.refl _ _,.inl rfl⟩
theorem WrTo.trans {w W W2:World} {bp:Nat} {v vv v2:Value} (h:WrTo w bp v W vv) (k:WrTo W bp vv W2 v2):WrTo w bp v W2 v2:=by
 refine ⟨h.below.trans k.below,⟨Nat.le_trans h.keeps.1 k.keeps.1,fun a x hx hv=>?_⟩,?_⟩
 ·
  refine k.keeps.2 a x (fun hh=>?_) (h.keeps.2 a x hx hv)
  rcases hh with hh | hh
  ·
   exact hx (.inl hh)
  ·
   rcases h.own with e | e
   ·
    exact hx (.inr (e ▸ hh))
   ·
    have:=e _ hh;have:=cell_block hv;omega
 ·
  rcases k.own with e | e
  ·
   rw [e];exact h.own
  ·
   exact .inr fun g hg=>by have:=e g hg;have:=h.keeps.1;omega
theorem WrIs.below {w W:World} {bp:Nat} {v:Value} {l:List Str} (h:WrIs w bp v l) (hb:Below w.heap.size w W):WrIs W bp v l:=by
 have h1:bp < w.heap.size:=(Array.getElem?_eq_some_iff.1 h.1).1
 exact ⟨(hb.block bp h1).trans h.1,ownsRow_heap h.2 fun g hg=>hb.block g (ownBlock_ge h.2 hg).2⟩
theorem WrIs.cell {w:World} {bp:Nat} {v:Value} {l:List Str} (h:WrIs w bp v l):w.cell? ⟨bp,0,none⟩=some v∧w.frozen? ⟨bp,0,none⟩=false:=by
 constructor <;> simp [World.cell?,World.frozen?,h.1]
theorem WrIs.form {w:World} {bp:Nat} {v:Value} {l:List Str} (h:WrIs w bp v l):∃ a c,v=.slice a l.length c:=by
 obtain ⟨_,h | ⟨g,cap,cur,hv,_⟩⟩:=h.2
 ·
  exact ⟨none,0,by rw [h.1,h.2]⟩
 ·
  exact ⟨_,_,hv⟩
theorem WrIs.step {w W1 W2:World} {bp:Nat} {v v2:Value} {l new:List Str} (h:WrIs w bp v l) (hb:Below w.heap.size w W1) (hg:W1.grownBy W2 v.ownBlock)
  (hown:W2.ownsRow (bp + 1) 9 1 v2 (l.length + new.length) (l.map Value.string ++ new.map Value.string)) (hv2:v2.ownBlock=v.ownBlock∨∀ g,v2.ownBlock=some g→w.heap.size≤g) :
  WrIs (W2.setCell ⟨bp,0,none⟩ v2) bp v2 (l ++ new)∧WrTo w bp v (W2.setCell ⟨bp,0,none⟩ v2) v2:=by
 have h1:bp < w.heap.size:=(Array.getElem?_eq_some_iff.1 h.1).1
 have hne:v.ownBlock≠some bp:=fun e=>by have:=(ownBlock_ge h.2 e).1;omega
 have hh2:W2.heap[bp]?=some (.cells #[v] 161 (0,0)):=by
  rw [hg.block bp (by have:=hb.size;omega) (Ne.symm hne),hb.block bp h1];exact h.1
 have hbp:(W2.setCell ⟨bp,0,none⟩ v2).heap[bp]?=some (.cells #[v2] 161 (0,0)):=by
  simp [World.setCell,Array.getElem?_modify,hh2]
 refine ⟨⟨hbp,?_⟩,⟨?_,?_,hv2⟩⟩
 ·
  rw [List.length_append,List.map_append]
  refine ownsRow_heap hown fun g hg'=>?_
  have:=(ownBlock_ge hown hg').1
  exact Below.heap_setCell _ _ _ _ (by simp;omega)
 ·
  exact (((hb.mono (Nat.le_of_lt h1)).grown hg (by have:=hb.size;omega) (fun k e=>by have:=(ownBlock_ge h.2 e).1;omega)).setCell (by simp) _)
 ·
  refine ⟨?_,fun a x hx hv=>?_⟩
  ·
   have:=hb.size;have:=hg.size;simp [World.setCell];omega
  ·
   have hab:=cell_block hv
   have h0:W1.cell? a=some x:=Keeps.of_below hb a x hv
   have h2:W2.cell? a=some x:=(World.cell?_of_block (hg.block a.block (by have:=hb.size;omega) (fun e=>hx (.inr e.symm)))).trans h0
   rw [World.cell?_of_block (Below.heap_setCell W2 ⟨bp,0,none⟩ v2 a.block (fun e=>hx (.inl e)))]
   exact h2
theorem WrIs.mid {w W1 W2:World} {bp:Nat} {v:Value} {l:List Str} (h:WrIs w bp v l) (hb:Below w.heap.size w W1) (hg:W1.grownBy W2 v.ownBlock):W2.cell? ⟨bp,0,none⟩=some v∧W2.frozen? ⟨bp,0,none⟩=false:=by
 have h1:bp < w.heap.size:=(Array.getElem?_eq_some_iff.1 h.1).1
 have hne:v.ownBlock≠some bp:=fun e=>by have:=(ownBlock_ge h.2 e).1;omega
 have hh2:W2.heap[bp]?=some (.cells #[v] 161 (0,0)):=by
  rw [hg.block bp (by have:=hb.size;omega) (Ne.symm hne),hb.block bp h1];exact h.1
 constructor <;> simp [World.cell?,World.frozen?,hh2]
theorem ownsRow_form {w:World} {base:Nat} {e:TypeId} {size:Nat} {v:Value} {n:Nat} {xs:List Value} (h:w.ownsRow base e size v n xs):∃ a c,v=.slice a n c:=by
 obtain ⟨_,h | ⟨g,cap,cur,hv,_⟩⟩:=h
 ·
  exact ⟨none,0,by rw [h.1,h.2]⟩
 ·
  exact ⟨_,_,hv⟩
theorem WrIs.lt {w:World} {bp:Nat} {v:Value} {l:List Str} (h:WrIs w bp v l):bp < w.heap.size:=(Array.getElem?_eq_some_iff.1 h.1).1
theorem Tryz.taSS (v:Value) (w:World):(Instr.typeAssert (.iface 9 v) 20 9 true).run Tryz.prog w=.ok (.tuple #[v,.bool true]) w:=by kernel_rfl
theorem Tryz.taLL (v:Value) (w:World):(Instr.typeAssert (.iface 24 v) 20 24 true).run Tryz.prog w=.ok (.tuple #[v,.bool true]) w:=by kernel_rfl
theorem Tryz.taLS (v:Value) (w:World):(Instr.typeAssert (.iface 24 v) 20 9 true).run Tryz.prog w=.ok (.tuple #[.string ⟨#[]⟩,.bool false]) w:=by kernel_rfl
theorem Tryz.taEE (v:Value) (w:World):(Instr.typeAssert (.iface 27 v) 20 27 true).run Tryz.prog w=.ok (.tuple #[v,.bool true]) w:=by kernel_rfl
theorem Tryz.taES (v:Value) (w:World):(Instr.typeAssert (.iface 27 v) 20 9 true).run Tryz.prog w=.ok (.tuple #[.string ⟨#[]⟩,.bool false]) w:=by kernel_rfl
theorem Tryz.taEL (v:Value) (w:World):(Instr.typeAssert (.iface 27 v) 20 24 true).run Tryz.prog w=.ok (.tuple #[.slice none 0 0,.bool false]) w:=by kernel_rfl
theorem Tryz.taBB (v:Value) (w:World):(Instr.typeAssert (.iface 173 v) 20 173 true).run Tryz.prog w=.ok (.tuple #[v,.bool true]) w:=by kernel_rfl
theorem Tryz.taBS (v:Value) (w:World):(Instr.typeAssert (.iface 173 v) 20 9 true).run Tryz.prog w=.ok (.tuple #[.string ⟨#[]⟩,.bool false]) w:=by kernel_rfl
theorem Tryz.taBL (v:Value) (w:World):(Instr.typeAssert (.iface 173 v) 20 24 true).run Tryz.prog w=.ok (.tuple #[.slice none 0 0,.bool false]) w:=by kernel_rfl
theorem Tryz.taBE (v:Value) (w:World):(Instr.typeAssert (.iface 173 v) 20 27 true).run Tryz.prog w=.ok (.tuple #[.agg #[.int .i64 0,.string ⟨#[]⟩,.int .i64 0,.slice none 0 0,.slice none 0 0],.bool false]) w:=by kernel_rfl
theorem Tryz.taGG (v:Value) (w:World):(Instr.typeAssert (.iface 163 v) 20 163 true).run Tryz.prog w=.ok (.tuple #[v,.bool true]) w:=by kernel_rfl
theorem Tryz.taGS (v:Value) (w:World):(Instr.typeAssert (.iface 163 v) 20 9 true).run Tryz.prog w=.ok (.tuple #[.string ⟨#[]⟩,.bool false]) w:=by kernel_rfl
theorem Tryz.taGL (v:Value) (w:World):(Instr.typeAssert (.iface 163 v) 20 24 true).run Tryz.prog w=.ok (.tuple #[.slice none 0 0,.bool false]) w:=by kernel_rfl
theorem Tryz.taGE (v:Value) (w:World):(Instr.typeAssert (.iface 163 v) 20 27 true).run Tryz.prog w=.ok (.tuple #[.agg #[.int .i64 0,.string ⟨#[]⟩,.int .i64 0,.slice none 0 0,.slice none 0 0],.bool false]) w:=by kernel_rfl
theorem Tryz.taGB (v:Value) (w:World):(Instr.typeAssert (.iface 163 v) 20 173 true).run Tryz.prog w=.ok (.tuple #[.agg #[.int .i64 0,.string ⟨#[]⟩,.int .i64 0,.slice none 0 0,.slice none 0 0],.bool false]) w:=by kernel_rfl
theorem data_app (a b:Str):(a ++ b).data=a.data ++ b.data:=ByteArray.data_append
theorem bs_app (a b:Str):bs (a ++ b)=bs a ++ bs b:=by unfold bs;rw [data_app];simp
theorem str_ext {a b:Str} (h:bs a=bs b):a=b:=by
 obtain ⟨⟨a⟩⟩:=a;obtain ⟨⟨b⟩⟩:=b
 simp [bs] at h;rw [h]
theorem print_atom (s:Str) (w:World) (hs:s.size≤1099511627776):Calls Tryz.prog 176 #[.string s] w fun r w'=>r=.returned (.string (mkS (paren (bs s))))∧w=w':=by
 go_enter Tryz.func176,Tryz.ntmps176
 go_wp2
 go_ret
 exact ⟨ret_str (str_ext (by rw [bs_app,bs_app,bs_mkS];rfl)),rfl⟩
theorem wp_scope_jumps_enter {P:Program} {Q:Exit→Act→World→Prop} {a:Act} {w:World} {c rest:Code} (l:Nat) (J:Act→World→Prop) (μ:Act→World→Nat) (hf:findLabel c l=some (.seq .skip rest))
  (first:(∀ a w,J a w→rest.wp P (Exit.jump l J Q) a w)→c.wp P (Exit.jump l J Q) a w)
  (pass:∀ a w,J a w→rest.wp P (Exit.jump l (fun a' w'=>J a' w'∧μ a' w' < μ a w) Q) a w):(Code.scope c).wp P Q a w:=by
 refine wp_scope_jumps l J μ hf (first fun a w h=>?_) (fun a w h=>wp_seq (wp_skip (pass a w h)))
 refine wp_mono (pass a w h) ?_
 intro e a' w' hq
 cases e with
 | goto l'=>exact ⟨hq.1,hq.2.1⟩
 | _=>exact hq
def PutJ (bp:Nat) (v:Value) (l:List Str) (ps:List Pt) (a:Option Addr) (c:Nat) (w:World) (a':Act) (w':World):Prop:=∃ (k:Nat) (vv:Value) (u:Nat→Value),a'={ tmps:=#[.pointer (some ⟨bp,0,none⟩),.slice a ps.length c,u 2,u 3,.pointer none,.int .i64 k,u 6,u 7,u 8,u 9,u 10,u 11,u 12,u 13,u 14,u 15,u 16,u 17,u 18,u 19,u 20,u 21,u 22,u 23,u 24,u 25,u 26,u 27,u 28,u 29,u 30,u 31,u 32,u 33,u 34,u 35,u 36,u 37,u 38,u 39,u 40,u 41,u 42,u 43,u 44,u 45,u 46,u 47,u 48,u 49,u 50,u 51,u 52,u 53,u 54,u 55,u 56,u 57,u 58,u 59,u 60,u 61,u 62,u 63,u 64,u 65,u 66,u 67,u 68,u 69,u 70,u 71,u 72,u 73,u 74,u 75,u 76,u 77,u 78,u 79,u 80,u 81,u 82,u 83,u 84,u 85,u 86,u 87,u 88,u 89,u 90,u 91,u 92,u 93,u 94,u 95,u 96,u 97],defers:=[] }∧k≤ps.length∧Hid (WrIs w' bp vv (l ++ (ps.take k).flatMap Pt.out))∧WrTo w bp v w' vv
theorem PutJ.mk {bp:Nat} {v:Value} {l:List Str} {ps:List Pt} {a:Option Addr} {c:Nat} {w:World} {w':World} {T:Array Value} (k:Nat) (vv:Value) (h0:T=(fun u:Nat→Value=>#[.pointer (some ⟨bp,0,none⟩),.slice a ps.length c,u 2,u 3,.pointer none,.int .i64 k,u 6,u 7,u 8,u 9,u 10,u 11,u 12,u 13,u 14,u 15,u 16,u 17,u 18,u 19,u 20,u 21,u 22,u 23,u 24,u 25,u 26,u 27,u 28,u 29,u 30,u 31,u 32,u 33,u 34,u 35,u 36,u 37,u 38,u 39,u 40,u 41,u 42,u 43,u 44,u 45,u 46,u 47,u 48,u 49,u 50,u 51,u 52,u 53,u 54,u 55,u 56,u 57,u 58,u 59,u 60,u 61,u 62,u 63,u 64,u 65,u 66,u 67,u 68,u 69,u 70,u 71,u 72,u 73,u 74,u 75,u 76,u 77,u 78,u 79,u 80,u 81,u 82,u 83,u 84,u 85,u 86,u 87,u 88,u 89,u 90,u 91,u 92,u 93,u 94,u 95,u 96,u 97]) (fun n=>T.getD n undef)) (hk:k≤ps.length) (hw:WrIs w' bp vv (l ++ (ps.take k).flatMap Pt.out)) (hT:WrTo w bp v w' vv):PutJ bp v l ps a c w { tmps:=T,defers:=[] } w' :=
 ⟨k,vv,fun n=>T.getD n undef,by exact congrArg (fun t=>(Act.mk t []:Act)) h0,hk,hw,hT⟩
set_option maxRecDepth 100000 in
set_option maxHeartbeats 1600000 in
theorem put_any (bp:Nat) (v:Value) (l:List Str) (ps:List Pt) (a:Option Addr) (c:Nat) (w:World) (hcan:∀ p ∈ ps,p.can) (hW:WrIs w bp v l) (hr:∀ W,KeepsBut (fun b=>b=bp∨v.ownBlock=some b) w W→Below bp w W→PtRow W a ps) (hn:(l ++ ps.flatMap Pt.out).length≤1099511627776) (hlen:ps.length≤lenMax) :
  Calls Tryz.prog 118 #[.pointer (some ⟨bp,0,none⟩),.slice a ps.length c] w fun r w'=>r=.returned (.pointer (some ⟨bp,0,none⟩)) ∧
   ∃ v',WrIs w' bp v' (l ++ ps.flatMap Pt.out)∧WrTo w bp v w' v':=by
 unfold lenMax at hlen
 obtain ⟨i0,hi,hz0,hz1,hz2⟩:=info_parts Tryz.infoStr
 go_enter Tryz.func118,Tryz.ntmps118
 go_wp2_with fail
 refine wp_scope_jumps_enter 0 (PutJ bp v l ps a c w) (fun a' _=>ps.length - (intOf (a'.tmps.getD 5 undef)).toNat) rfl ?_ ?_
 ·
  intro hpass
  have hT:=WrTo.refl w bp v
  go_wp2_with fail
  refine wp_label ?_
  simp only [Exit.then]
  rename_i hK
  refine hK _ _ (hpass _ _ ?_)
  refine PutJ.mk 0 v ?_ (by omega) (by simpa using hW) hT
  simp
 ·
  rintro a' wr ⟨k,vv,u,rfl,hk,hWr,hT⟩
  by_cases hlt:k < ps.length
  ·
   have hrow:=hr _ hT.keeps hT.below
   rcases hrow with hrow | ⟨b,off,rfl,hrow⟩
   ·
    simp [hrow] at hlt
   obtain ⟨x,gx,hx⟩:=hrow k hlt
   have hcanp:=hcan _ (List.getElem_mem hlt)
   have htake:Hid ((ps.take (k + 1)).flatMap Pt.out=(ps.take k).flatMap Pt.out ++ (ps[k]).out):=by
    unfold Hid
    rw [List.take_succ_eq_append_getElem hlt,List.flatMap_append];simp
   have hN:Hid ((l ++ (ps.take k).flatMap Pt.out ++ (ps[k]).out).length≤1099511627776):=by
    unfold Hid
    rw [List.append_assoc,←htake.out]
    refine Nat.le_trans ?_ hn
    have hsplit:ps.flatMap Pt.out=(ps.take (k + 1)).flatMap Pt.out ++ (ps.drop (k + 1)).flatMap Pt.out:=by rw [←List.flatMap_append,List.take_append_drop]
    rw [hsplit]
    simp only [List.length_append];omega
   generalize hp:ps[k]=p at hx hcanp htake hN
   generalize hdone:(ps.take k).flatMap Pt.out=done at hWr htake hN
   clear hp hrow hdone hr hcan hn
   obtain ⟨hwc,hwf⟩:=hWr.out.cell
   cases p with
   | str st =>
    obtain rfl:x=.iface 9 (.string st):=hx
    have ta:=Tryz.taSS
    have hN':(l ++ done).length + 1≤1099511627776:=by have:=hN.out;simp [Pt.out] at this ⊢;omega
    have hbp:=hWr.out.lt
    have hb1:Hid (Below wr.heap.size wr (wr.alloc (.cells #[.string st] 9))):=(Below.refl _ _).alloc (Nat.le_refl _) _
    go_wp2_with (at_builtin;go_must (refine wpList_append_own_at _ rfl _ _ 24 rfl (bp + 1) 9 i0 (.string ⟨#[]⟩) 1 16 Tryz.underlying24 hi hz0 hz1 hz2 rfl (by decide) vv _ _ rfl (hWr.out.2.alloc _) ⟨wr.heap.size,0,none⟩ 1 1 [.string st] rfl rfl (cell_one_new _ _ _) (by simp [Value.oneCell']) (by unfold maxLen;omega) (by omega) (by simp;omega) ?_);intro v2 w2 hown2 hg2 _ hat2;obtain ⟨va,vc,rfl⟩:=ownsRow_form hown2;obtain ⟨hc2,hf2⟩:=hWr.out.mid hb1.out hg2;have hst:=Lib.hid (hWr.out.step (new:=[st]) hb1.out hg2 hown2 (hat2.imp id (fun e g hg=>by rw [e] at hg;simp at hg;omega)));clear hown2 hg2 hat2)
    go_step3
    refine ⟨rfl,PutJ.mk (k + 1) (.slice va ((l ++ done).length + 1) vc) (by simp) (by omega) ?_ ?_,?_⟩
    ·
     rw [htake.out,←List.append_assoc];simpa [Pt.out] using hst.out.1
    ·
     exact hT.trans (by simpa using hst.out.2)
    ·
     simp [intOf];omega
   | strs sl =>
    obtain ⟨sa,sc,rfl,hnil,hsl,hsr⟩:=hx
    have ta:=Tryz.taLL
    have tb:=Tryz.taLS
    have hN':(l ++ done).length + sl.length≤1099511627776:=by have:=hN.out;simp [Pt.out] at this ⊢;omega
    have hbp:=hWr.out.lt
    rcases hsr with rfl | ⟨sb,so,rfl,hsr⟩
    ·
     rcases sa with _ | sad
     ·
      obtain rfl:=hnil rfl
      obtain ⟨va,vc,hvv⟩:=hWr.out.form
      obtain ⟨nn,hnn⟩:∃ nn,(l ++ done).length=nn:=⟨_,rfl⟩
      rw [hnn] at hvv
      subst hvv
      go_wp2_with (at_builtin;go_must (refine wpList_append_own_none rfl _ _ 24 rfl (bp + 1) 9 i0 1 Tryz.underlying24 hi _ _ _ rfl hWr.out.2 rfl ?_))
      have hst:=Lib.hid (hWr.out.step (new:=[]) (Below.refl _ _) (grown_of_below (Below.refl _ _) |> fun h=>(⟨h.os,h.tape,h.output,h.size,fun k hk _=>rfl⟩:wr.grownBy wr _)) (by simpa using hWr.out.2) (.inl rfl))
      go_step3
      refine ⟨rfl,PutJ.mk (k + 1) (.slice va nn vc) (by simp) (by omega) ?_ ?_,?_⟩
      ·
       rw [htake.out,←List.append_assoc];simpa [Pt.out] using hst.out.1
      ·
       exact hT.trans (by simpa using hst.out.2)
      ·
       simp [intOf];omega
     ·
      go_wp2_with (at_builtin;go_must (refine wpList_append_own_at _ rfl _ _ 24 rfl (bp + 1) 9 i0 (.string ⟨#[]⟩) 1 16 Tryz.underlying24 hi hz0 hz1 hz2 rfl (by decide) _ _ _ rfl hWr.out.2 sad 0 sc [] rfl rfl (by intro j u h;simp at h) (by intro u h;simp at h) (by unfold maxLen;omega) (by omega) (by omega) ?_);intro v2 w2 hown2 hg2 _ hat2;obtain ⟨va2,vc2,rfl⟩:=ownsRow_form hown2;obtain ⟨hc2,hf2⟩:=hWr.out.mid (Below.refl _ _) hg2;have hst:=Lib.hid (hWr.out.step (new:=[]) (Below.refl _ _) hg2 (by simpa using hown2) (hat2.imp id (fun e g hg=>by rw [e] at hg;simp at hg;omega)));clear hown2 hg2 hat2)
      go_step3
      refine ⟨rfl,PutJ.mk (k + 1) (.slice va2 (l ++ done).length vc2) (by simp) (by omega) ?_ ?_,?_⟩
      ·
       rw [htake.out,←List.append_assoc];simpa [Pt.out] using hst.out.1
      ·
       exact hT.trans (by simpa using hst.out.2)
      ·
       simp [intOf];omega
    ·
     have hnews:∀ (j:Nat) x,(sl.map Value.string)[j]?=some x→wr.cell? ((⟨sb,so,none⟩:Addr).add j)=some x:=by
      intro j x hj
      rw [List.getElem?_map] at hj
      obtain ⟨y,hy,rfl⟩:=Option.map_eq_some_iff.1 hj
      obtain ⟨hj',rfl⟩:=List.getElem?_eq_some_iff.1 hy
      rw [show (⟨sb,so,none⟩:Addr).add j=⟨sb,so + j,none⟩ from by unfold Addr.add;split <;> simp_all]
      exact (hsr j hj').1
     have hnews':=Lib.hid hnews
     clear hnews hsr
     go_wp2_with (at_builtin;go_must (refine wpList_append_own_at _ rfl _ _ 24 rfl (bp + 1) 9 i0 (.string ⟨#[]⟩) 1 16 Tryz.underlying24 hi hz0 hz1 hz2 rfl (by decide) vv _ _ rfl hWr.out.2 ⟨sb,so,none⟩ sl.length sc (sl.map Value.string) rfl (by simp) hnews'.out (by simp [Value.oneCell']) (by unfold maxLen;omega) (by omega) (by omega) ?_);intro v2 w2 hown2 hg2 _ hat2;obtain ⟨va,vc,rfl⟩:=ownsRow_form hown2;obtain ⟨hc2,hf2⟩:=hWr.out.mid (Below.refl _ _) hg2;have hst:=Lib.hid (hWr.out.step (new:=sl) (Below.refl _ _) hg2 hown2 (hat2.imp id (fun e g hg=>by rw [e] at hg;simp at hg;omega)));clear hown2 hg2 hat2)
     go_step3
     refine ⟨rfl,PutJ.mk (k + 1) (.slice va ((l ++ done).length + sl.length) vc) (by simp) (by omega) ?_ ?_,?_⟩
     ·
      rw [htake.out,←List.append_assoc];simpa [Pt.out] using hst.out.1
     ·
      exact hT.trans (by simpa using hst.out.2)
     ·
      simp [intOf];omega
   | ex e =>
    obtain ⟨y,rfl,hy⟩:=hx
    have ta:=Tryz.taEE
    have tb:=Tryz.taES
    have tc:=Tryz.taEL
    have hN':(l ++ done).length + 1≤1099511627776:=by have:=hN.out;simp [Pt.out] at this ⊢;omega
    have hbp:=hWr.out.lt
    have hy0:=hy
    obtain ⟨ek,es,en,el,eks⟩:=e
    obtain ⟨x1,y1,x2,y2,rfl,_⟩:=hy.1.open
    have hb1:Hid (Below wr.heap.size wr (wr.alloc (.cells #[.int .i64 ek,.string es,.int .i64 en,.slice x1 el.length y1,.slice x2 eks.length y2] 27))):=(Below.refl _ _).alloc (Nat.le_refl _) _
    have hcall:=Lib.hid (fun (W:World) (hb:Below wr.heap.size wr W)=>hcanp _ W (hy.below hb))
    clear hcanp
    have hk0:Hid ((wr.alloc (.cells #[.int .i64 ek,.string es,.int .i64 en,.slice x1 el.length y1,.slice x2 eks.length y2] 27)).cell? ⟨bp,0,none⟩=some vv):=Keeps.of_below hb1.out _ _ hwc
    have hk5:=Lib.hid (box5 (w:=wr) (v0:=.int .i64 ek) (v1:=.string es) (v2:=.int .i64 en) (v3:=.slice x1 el.length y1) (v4:=.slice x2 eks.length y2) (t:=27) (Below.refl _ _))
    go_wp2_with fail
    go_region_law (first | (refine step_append_lies _ (by rfl) _ _ _ (by rfl) (bp + 1) 9 i0 (.string ⟨#[]⟩) 1 16 Tryz.underlying24 hi hz0 hz1 hz2 rfl (by omega) vv _ _ (by rfl) ((hWr.out.below hbw1).2.alloc _) ⟨w1.heap.size,0,none⟩ 1 1 [.string (mkS (textE (.mk ek es en el eks)))] (by rfl) (by rfl) (cell_one_new _ _ _) (by simp [Value.oneCell']) (by omega) (by unfold maxLen;omega) (by omega) (by simp;have:=hbw1.size;omega) (w1.heap.size + 1) (by simp) ?_;intro gg cap w2 hown2 hg2 hat hlt2;have hba:=hbw1.alloc hbw1.size (.cells #[.string (mkS (textE (.mk ek es en el eks)))] 9);obtain ⟨hc2,hf2⟩:=hWr.out.mid hba hg2;have hst:=Lib.hid (hWr.out.step (new:=[mkS (textE (.mk ek es en el eks))]) hba hg2 hown2 (hat.imp (fun e=>e.symm) (fun e g hg=>by simp [Value.ownBlock] at hg;have:=hbw1.size;omega)));clear hown2 hg2 hat hlt2) | (go_simp;go_at_call 60;refine (hcall.out _ hb1.out.drew).mono ?_;rintro e w1 ⟨rfl,hB1⟩;have hbw1:=hb1.out.drew.trans (hB1.mono (by simp [World.drew]));have j0:=Keeps.of_below hB1 _ _ hk0.out;have hzw1:bp < w1.heap.size:=cell_block j0;clear hB1))
    all_goals
     go_wp2_with fail
     go_step3
     refine ⟨rfl,PutJ.mk (k + 1) (.slice (some ⟨gg,0,none⟩) ((l ++ done).length + 1) cap) (by simp) (by omega) ?_ ?_,?_⟩
     ·
      rw [htake.out,←List.append_assoc];simpa [Pt.out] using hst.out.1
     ·
      exact hT.trans (by simpa using hst.out.2)
     ·
      simp [intOf];omega
   | br e =>
    obtain ⟨y,rfl,hy⟩:=hx
    have ta:=Tryz.taBB
    have tb:=Tryz.taBS
    have tc:=Tryz.taBL
    have td:=Tryz.taBE
    have hN':(l ++ done).length + 1≤1099511627776:=by have:=hN.out;simp [Pt.out] at this ⊢;omega
    have hbp:=hWr.out.lt
    obtain ⟨ek,es,en,el,eks⟩:=e
    obtain ⟨x1,y1,x2,y2,rfl,_⟩:=hy.1.open
    have hb1:Hid (Below wr.heap.size wr (wr.alloc (.cells #[.int .i64 ek,.string es,.int .i64 en,.slice x1 el.length y1,.slice x2 eks.length y2] 173))):=(Below.refl _ _).alloc (Nat.le_refl _) _
    have hcall:=Lib.hid (hcanp.1 _ _ (hy.below hb1.out))
    have hcanl:=hcanp.2
    have hk5:=Lib.hid (box5 (w:=wr) (v0:=.int .i64 ek) (v1:=.string es) (v2:=.int .i64 en) (v3:=.slice x1 el.length y1) (v4:=.slice x2 eks.length y2) (t:=173) (Below.refl _ _))
    clear hcanp
    go_wp2_with fail
    refine hcall.out.mono ?_
    rintro e w1 ⟨rfl,hB1⟩
    have j0:=Keeps.of_below hB1 _ _ (Keeps.of_below hb1.out _ _ hwc)
    obtain ⟨k1,_⟩:=hk5.out
    have j1:=Keeps.of_below hB1 _ _ k1
    have hbw1:=hb1.out.trans (hB1.mono (by simp))
    have hba:=hbw1.alloc hbw1.size (.cells #[.string (mkS (atomE (.mk ek es en el eks)))] 9)
    have hz3:=hbw1.size
    clear k1 hB1
    have hzw1:bp < w1.heap.size:=cell_block j0
    by_cases h3:(3:Int) < ek
    ·
     have hat0:Hid (paren (textE (.mk ek es en el eks))=atomE (.mk ek es en el eks)):=by unfold Hid;rw [atomE,atomT,if_neg (by simp [Ex.kind];omega)]
     go_wp2_with fail
     refine (print_atom _ _ (by rw [Lib.size_eq];exact hcanl)).mono ?_
     rintro e w9 ⟨rfl,rfl⟩
     rw [bs_mkS,hat0.out]
     go_wp2_with (at_builtin;go_must (refine wpList_append_own_at _ rfl _ _ 24 rfl (bp + 1) 9 i0 (.string ⟨#[]⟩) 1 16 Tryz.underlying24 hi hz0 hz1 hz2 rfl (by decide) vv _ _ rfl ((hWr.out.below hbw1).2.alloc _) ⟨w1.heap.size,0,none⟩ 1 1 [.string (mkS (atomE (.mk ek es en el eks)))] rfl rfl (cell_one_new _ _ _) (by simp [Value.oneCell']) (by unfold maxLen;omega) (by omega) (by simp;omega) ?_);intro v2 w2 hown2 hg2 _ hat2;obtain ⟨va,vc,rfl⟩:=ownsRow_form hown2;obtain ⟨hc2,hf2⟩:=hWr.out.mid hba hg2;have hst:=Lib.hid (hWr.out.step (new:=[mkS (atomE (.mk ek es en el eks))]) hba hg2 hown2 (hat2.imp id (fun e g hg=>by rw [e] at hg;simp at hg;omega)));clear hown2 hg2 hat2)
     go_step3
     refine ⟨rfl,PutJ.mk (k + 1) (.slice va ((l ++ done).length + 1) vc) (by simp) (by omega) ?_ ?_,?_⟩
     ·
      rw [htake.out,←List.append_assoc];simpa [Pt.out] using hst.out.1
     ·
      exact hT.trans (by simpa using hst.out.2)
     ·
      simp [intOf];omega
    ·
     have hat0:Hid (textE (.mk ek es en el eks)=atomE (.mk ek es en el eks)):=by unfold Hid;rw [atomE,atomT,if_pos (by simp [Ex.kind];omega)]
     rw [hat0.out]
     go_wp2_with (at_builtin;go_must (refine wpList_append_own_at _ rfl _ _ 24 rfl (bp + 1) 9 i0 (.string ⟨#[]⟩) 1 16 Tryz.underlying24 hi hz0 hz1 hz2 rfl (by decide) vv _ _ rfl ((hWr.out.below hbw1).2.alloc _) ⟨w1.heap.size,0,none⟩ 1 1 [.string (mkS (atomE (.mk ek es en el eks)))] rfl rfl (cell_one_new _ _ _) (by simp [Value.oneCell']) (by unfold maxLen;omega) (by omega) (by simp;omega) ?_);intro v2 w2 hown2 hg2 _ hat2;obtain ⟨va,vc,rfl⟩:=ownsRow_form hown2;obtain ⟨hc2,hf2⟩:=hWr.out.mid hba hg2;have hst:=Lib.hid (hWr.out.step (new:=[mkS (atomE (.mk ek es en el eks))]) hba hg2 hown2 (hat2.imp id (fun e g hg=>by rw [e] at hg;simp at hg;omega)));clear hown2 hg2 hat2)
     go_step3
     refine ⟨rfl,PutJ.mk (k + 1) (.slice va ((l ++ done).length + 1) vc) (by simp) (by omega) ?_ ?_,?_⟩
     ·
      rw [htake.out,←List.append_assoc];simpa [Pt.out] using hst.out.1
     ·
      exact hT.trans (by simpa using hst.out.2)
     ·
      simp [intOf];omega
   | sg e =>
    obtain ⟨y,rfl,hy⟩:=hx
    have ta:=Tryz.taGG
    have tb:=Tryz.taGS
    have tc:=Tryz.taGL
    have td:=Tryz.taGE
    have te:=Tryz.taGB
    have hN':(l ++ done).length + 1≤1099511627776:=by have:=hN.out;simp [Pt.out] at this ⊢;omega
    have hbp:=hWr.out.lt
    have hy0:=hy
    obtain ⟨es,el⟩:=e
    obtain ⟨x1,y1,rfl,_⟩:=hy.open
    have hb1:Hid (Below wr.heap.size wr (wr.alloc (.cells #[.string es,.slice x1 el.length y1] 163))):=(Below.refl _ _).alloc (Nat.le_refl _) _
    have hcall:=Lib.hid (fun (W:World) (hb:Below wr.heap.size wr W)=>hcanp _ W (hy.below hb))
    clear hcanp
    have hk0:Hid ((wr.alloc (.cells #[.string es,.slice x1 el.length y1] 163)).cell? ⟨bp,0,none⟩=some vv):=Keeps.of_below hb1.out _ _ hwc
    go_wp2_with fail
    go_region_law (first | (refine step_append_lies _ (by rfl) _ _ _ (by rfl) (bp + 1) 9 i0 (.string ⟨#[]⟩) 1 16 Tryz.underlying24 hi hz0 hz1 hz2 rfl (by omega) vv _ _ (by rfl) ((hWr.out.below hbw1).2.alloc _) ⟨w1.heap.size,0,none⟩ 1 1 [.string (mkS (sgAtom (.mk es el)))] (by rfl) (by rfl) (cell_one_new _ _ _) (by simp [Value.oneCell']) (by omega) (by unfold maxLen;omega) (by omega) (by simp;have:=hbw1.size;omega) (w1.heap.size + 1) (by simp) ?_;intro gg cap w2 hown2 hg2 hat hlt2;have hba:=hbw1.alloc hbw1.size (.cells #[.string (mkS (sgAtom (.mk es el)))] 9);obtain ⟨hc2,hf2⟩:=hWr.out.mid hba hg2;have hst:=Lib.hid (hWr.out.step (new:=[mkS (sgAtom (.mk es el))]) hba hg2 hown2 (hat.imp (fun e=>e.symm) (fun e g hg=>by simp [Value.ownBlock] at hg;have:=hbw1.size;omega)));clear hown2 hg2 hat hlt2) | (go_simp;go_at_call 177;refine (hcall.out _ hb1.out.drew).mono ?_;rintro e w1 ⟨rfl,hB1⟩;have hbw1:=hb1.out.drew.trans (hB1.mono (by simp [World.drew]));have j0:=Keeps.of_below hB1 _ _ hk0.out;have hzw1:bp < w1.heap.size:=cell_block j0;clear hB1))
    all_goals
     go_wp2_with fail
     go_step3
     refine ⟨rfl,PutJ.mk (k + 1) (.slice (some ⟨gg,0,none⟩) ((l ++ done).length + 1) cap) (by simp) (by omega) ?_ ?_,?_⟩
     ·
      rw [htake.out,←List.append_assoc];simpa [Pt.out] using hst.out.1
     ·
      exact hT.trans (by simpa using hst.out.2)
     ·
      simp [intOf];omega
  ·
   have hke:k=ps.length:=by omega
   have hend:Hid (∃ v',WrIs wr bp v' (l ++ ps.flatMap Pt.out)∧WrTo w bp v wr v'):=⟨vv,by have:=hWr.out;rwa [hke,List.take_length] at this,hT⟩
   clear hWr
   have hkk:((k:Int) == (ps.length:Int))=true:=by rw [hke];simp
   have hke':=Lib.hid hke
   clear hke
   go_wp2_with fail
   simp only [Exit.jump]
   go_ret
   exact ⟨rfl,hend.out⟩
end Go.Proofs.YtinjocchommbdaaGreatDoor
