/- A part of the proof that parser laws hold: texts of the walk and of its plain laws, made small. -/
import Derived.Test.YtinjocchommbdaaGreatDoorCards
import Derived.Test.YtinjocchommbdaaGreatDoorTie
import Derived.Test.YtinjocchommbdaaGreatDoorM01
import Derived.Test.YtinjocchommbdaaGreatDoorM17
import Derived.Test.YtinjocchommbdaaGreatDoorM06
import Derived.Stop.LaidErr
import Derived.HandedShaped
set_option linter.unusedVariables false
set_option linter.unusedSimpArgs false
namespace Go.Proofs.YtinjocchommbdaaGreatDoor
open Go.RowKit Go.ChangeShapes Go.WideShapes Go.ChangeAt Go.ChangeMaps
def TkIn (t:Tk):Prop:=(-9223372036854775808≤t.kind∧t.kind≤9223372036854775807)∧(tS t.text).size≤lenMax∧(-9223372036854775808≤t.num∧t.num≤9223372036854775807)∧(-9223372036854775808≤t.line∧t.line≤9223372036854775807)∧(-9223372036854775808≤t.col∧t.col≤9223372036854775807)
section
variable {H:Type} {enc:TypeId × Value→H} {w:World} {sp:Nat→Bool} {held:Bool}
theorem read_bytes {fuel:Nat} {cs:List Value} {x:DataW H × List MemPlace} (h:DataW.trod enc Tryz.prog w 0 sp held fuel 42 cs=some x) (hf:Fits Tryz.prog 42 x.1) :
  ∃ a c l,cs=[.slice a l.length c]∧(l.length≤c∧c≤maxLen)∧l.length≤lenMax∧(a=none→c=0)∧ByteRow w a l:=by
 obtain ⟨a1,len1,cap1,e2,ra1,rb1,rc1,rd1⟩:=read_slice (Q:=fun c=>∃ b:UInt8,c=[.int .u8 b.toNat]) Tryz.underlying42 (show Tryz.prog.cellsOf 5=1 by kernel_rfl) (by decide) (of_decide_eq_true (by kernel_rfl)) h hf
  (fun n' hn' cs y hy hfy=>read_u8 Tryz.underlying5 hy)
 rcases rd1 with h0 | ⟨b,off,ha,h4⟩
 ·
  subst h0
  exact ⟨a1,cap1,[],e2,ra1,Nat.zero_le _,rc1,.inl rfl⟩
 ·
  obtain ⟨l,hl,hr⟩:=choose_list (n:=len1) (R:=fun i (e:UInt8)=>w.cell? ⟨b,off + i,none⟩=some (.int .u8 e.toNat)) fun i hi=>by
   obtain ⟨c,_,⟨e,rfl⟩,hc⟩:=h4 i hi
   have:=hc 0 (by omega)
   rw [Nat.mul_one,Nat.add_zero] at this
   exact ⟨e,this⟩
  subst hl
  exact ⟨a1,cap1,l,e2,ra1,rb1,rc1,.inr ⟨b,off,ha,hr⟩⟩
theorem read_tok (fuel:Nat) (cs:List Value) (x:DataW H × List MemPlace) (h:DataW.trod enc Tryz.prog w 0 sp held fuel 51 cs=some x) (hf:Fits Tryz.prog 51 x.1) :
  ∃ t:Tk,cs=[.int .i64 t.kind,.string (tS t.text),.int .i64 t.num,.int .i64 t.line,.int .i64 t.col]∧TkIn t:=by
 obtain ⟨xs,n,hn,rfl,hlen,hxs,hfld⟩:=DataW.trod_struct Tryz.underlying51 h
 have hc:Tryz.prog.cellsOf 51=5:=by kernel_rfl
 have c0:Tryz.prog.cellsOf 3=1:=by kernel_rfl
 have c1:Tryz.prog.cellsOf 9=1:=by kernel_rfl
 rw [hc] at hlen
 obtain ⟨v0,v1,v2,v3,v4,rfl⟩:=list5 hlen
 have p0:DataW.trod enc Tryz.prog w 0 sp held n 3 [v0]=xs[0]?:=by have:=hfld 0 { name:= "Kind",type:=3,offset:=0,embedded:=false,tag:= "",pkgPath:= "",byteOffset:=0 } rfl;dsimp only at this;rw [c0] at this;exact this
 have p1:DataW.trod enc Tryz.prog w 0 sp held n 9 [v1]=xs[1]?:=by have:=hfld 1 { name:= "Text",type:=9,offset:=1,embedded:=false,tag:= "",pkgPath:= "",byteOffset:=8 } rfl;dsimp only at this;rw [c1] at this;exact this
 have p2:DataW.trod enc Tryz.prog w 0 sp held n 3 [v2]=xs[2]?:=by have:=hfld 2 { name:= "Num",type:=3,offset:=2,embedded:=false,tag:= "",pkgPath:= "",byteOffset:=24 } rfl;dsimp only at this;rw [c0] at this;exact this
 have p3:DataW.trod enc Tryz.prog w 0 sp held n 3 [v3]=xs[3]?:=by have:=hfld 3 { name:= "Line",type:=3,offset:=3,embedded:=false,tag:= "",pkgPath:= "",byteOffset:=32 } rfl;dsimp only at this;rw [c0] at this;exact this
 have p4:DataW.trod enc Tryz.prog w 0 sp held n 3 [v4]=xs[4]?:=by have:=hfld 4 { name:= "Col",type:=3,offset:=4,embedded:=false,tag:= "",pkgPath:= "",byteOffset:=40 } rfl;dsimp only at this;rw [c0] at this;exact this
 have hx5:xs.length=5:=by simpa using hxs
 obtain ⟨y0,hy0⟩:∃ y,xs[0]?=some y:=⟨_,List.getElem?_eq_getElem (by omega)⟩
 obtain ⟨y1,hy1⟩:∃ y,xs[1]?=some y:=⟨_,List.getElem?_eq_getElem (by omega)⟩
 obtain ⟨y2,hy2⟩:∃ y,xs[2]?=some y:=⟨_,List.getElem?_eq_getElem (by omega)⟩
 obtain ⟨y3,hy3⟩:∃ y,xs[3]?=some y:=⟨_,List.getElem?_eq_getElem (by omega)⟩
 obtain ⟨y4,hy4⟩:∃ y,xs[4]?=some y:=⟨_,List.getElem?_eq_getElem (by omega)⟩
 rw [hy0] at p0
 rw [hy1] at p1
 rw [hy2] at p2
 rw [hy3] at p3
 rw [hy4] at p4
 obtain ⟨m0,e0,hm0⟩:=read_i64 Tryz.underlying3 p0
 obtain ⟨s1,e1,hs1⟩:=read_string Tryz.underlying9 p1 (fits_part Tryz.underlying51 hf rfl hy1)
 obtain ⟨m2,e2,hm2⟩:=read_i64 Tryz.underlying3 p2
 obtain ⟨m3,e3,hm3⟩:=read_i64 Tryz.underlying3 p3
 obtain ⟨m4,e4,hm4⟩:=read_i64 Tryz.underlying3 p4
 simp only [List.cons.injEq,and_true] at e0 e1 e2 e3 e4
 subst e0 e1 e2 e3 e4
 exact ⟨⟨m0,bS s1,m2,m3,m4⟩,rfl,hm0,hs1,hm2,hm3,hm4⟩
theorem read_tks {fuel:Nat} {cs:List Value} {x:DataW H × List MemPlace} (h:DataW.trod enc Tryz.prog w 0 sp held fuel 22 cs=some x) (hf:Fits Tryz.prog 22 x.1) :
  ∃ a c l,cs=[.slice a l.length c]∧l.length≤c∧l.length≤lenMax∧(a=none→c=0)∧TkRow w a l∧∀ t ∈ l,TkIn t:=by
 obtain ⟨a1,len1,cap1,e2,ra1,rb1,rc1,rd1⟩:=read_slice (Q:=fun c=>∃ t:Tk,c=[.int .i64 t.kind,.string (tS t.text),.int .i64 t.num,.int .i64 t.line,.int .i64 t.col]∧TkIn t) Tryz.underlying22 (show Tryz.prog.cellsOf 51=5 by kernel_rfl) (by decide) (of_decide_eq_true (by kernel_rfl)) h hf
  (fun n' hn' cs y hy hfy=>read_tok n' cs y hy hfy)
 rcases rd1 with h0 | ⟨b,off,ha,h4⟩
 ·
  subst h0
  exact ⟨a1,cap1,[],e2,Nat.zero_le _,Nat.zero_le _,rc1,.inl rfl,fun t ht=>by cases ht⟩
 ·
  obtain ⟨l,hl,hr⟩:=choose_list (n:=len1) (R:=fun i (e:Tk)=>(w.cell? ⟨b,off + i * 5,none⟩=some (.int .i64 e.kind)∧w.cell? ⟨b,off + i * 5 + 1,none⟩=some (.string (tS e.text))∧w.cell? ⟨b,off + i * 5 + 2,none⟩=some (.int .i64 e.num)∧w.cell? ⟨b,off + i * 5 + 3,none⟩=some (.int .i64 e.line)∧w.cell? ⟨b,off + i * 5 + 4,none⟩=some (.int .i64 e.col))∧TkIn e) fun i hi=>by
   obtain ⟨c,_,⟨e,rfl,he⟩,hc⟩:=h4 i hi
   exact ⟨e,⟨hc 0 (by omega),hc 1 (by omega),hc 2 (by omega),hc 3 (by omega),hc 4 (by omega)⟩,he⟩
  subst hl
  refine ⟨a1,cap1,l,e2,ra1.1,rb1,rc1,.inr ⟨b,off,ha,fun i hi=>(hr i hi).1⟩,fun t ht=>?_⟩
  obtain ⟨i,hi,rfl⟩:=List.mem_iff_getElem.1 ht
  exact (hr i hi).2
end
set_option maxRecDepth 100000 in
theorem arg_bytes {H:Type} {enc:TypeId × Value→H} {W:World} {base:Nat} {v:Value} {d:DataW H} {p:List MemPlace} (hok:Value.okWide Tryz.prog W .any base 42 v) (h:DataW.Trod enc Tryz.prog W 0 (fun _=>true) true 42 v d p) (hf:Fits Tryz.prog 42 d) :
  ∃ a l c,v=.slice a l.length c∧l.length≤c∧c≤9223372036854775807∧l.length≤lenMax∧(a=none→c=0)∧ByteRow W a l:=by
 obtain ⟨a0,n0,c0,rfl⟩:=okWide_slice Tryz.underlying42 hok
 obtain ⟨fuel,h⟩:=h
 obtain ⟨a,c,l,hc,⟨h1,h2⟩,hl,ha,hr⟩:=read_bytes h hf
 simp [Value.cells] at hc
 obtain ⟨rfl,rfl,rfl⟩:=hc
 exact ⟨_,l,_,rfl,h1,by unfold maxLen at h2;exact h2,hl,ha,hr⟩
set_option maxRecDepth 100000 in
theorem arg_u8 {H:Type} {enc:TypeId × Value→H} {W:World} {base:Nat} {v:Value} {d:DataW H} {p:List MemPlace} (hok:Value.okWide Tryz.prog W .any base 5 v) (h:DataW.Trod enc Tryz.prog W 0 (fun _=>true) true 5 v d p):∃ x:Nat,v=.int .u8 (x:Int)∧x≤255:=by
 obtain ⟨x,rfl,rfl,rfl,hw⟩:=open_int Tryz.underlying5 hok h
 have h2:0≤x∧x≤255:=by simpa [Lit.wf,IntKind.min,IntKind.max,IntKind.signed,IntKind.bits] using hw
 exact ⟨x.toNat,by rw [Int.toNat_of_nonneg h2.1],by omega⟩
set_option maxRecDepth 100000 in
theorem arg_tks {H:Type} {enc:TypeId × Value→H} {W:World} {base:Nat} {v:Value} {d:DataW H} {p:List MemPlace} (hok:Value.okWide Tryz.prog W .any base 22 v) (h:DataW.Trod enc Tryz.prog W 0 (fun _=>true) true 22 v d p) (hf:Fits Tryz.prog 22 d) :
  ∃ l,∃ (a:Option Addr) (c:Nat),v=.slice a l.length c∧l.length≤lenMax∧TkSl W (.slice a l.length c) l∧∀ t ∈ l,TkIn t:=by
 obtain ⟨a0,n0,c0,rfl⟩:=okWide_slice Tryz.underlying22 hok
 obtain ⟨fuel,h⟩:=h
 obtain ⟨a,c,l,hc,h1,hl,ha,hr,hb⟩:=read_tks h hf
 simp [Value.cells] at hc
 obtain ⟨rfl,rfl,rfl⟩:=hc
 exact ⟨l,_,_,rfl,hl,⟨_,_,rfl,⟨ha,h1⟩,hr⟩,hb⟩
theorem max_of {W:World} (h:W.ShapedOpen Tryz.prog):MaxOk W:=Go.Proofs.cell_of_shapedOpen_int (g:=0) (zero:=#[.int .i64 0]) (t:=3) h (of_decide_eq_true (by kernel_rfl)) (by kernel_rfl) rfl (by kernel_rfl) (by kernel_rfl) Tryz.underlying3
theorem row_err (u:TypeId) (h:Tryz.prog.typeName? 3 u=some "*errors.errorString"):u=243:=by
 have star: "*" ++ "errors.errorString"= "*errors.errorString":=by decide
 exact typeName_ptr_named (nm:= "errors.errorString") (by rw [star];kernel_rfl) (by kernel_rfl) (by decide) u (by rw [star];exact h)
theorem rng_of {W:World} (h:laidMet Tryz.prog [("math/bits.deBruijn32tab",Rows.laid_math_bits_deBruijn32tab),("math/bits.deBruijn64tab",Rows.laid_math_bits_deBruijn64tab),("internal/strconv.uint64pow10",Rows.laid_internal_strconv_uint64pow10),("unicode/utf8.acceptRanges",Rows.laid_unicode_utf8_acceptRanges),("strconv.ErrRange",Rows.laid_strconv_ErrRange),("strconv.ErrSyntax",Rows.laid_strconv_ErrSyntax),("unicode/utf8.first",Rows.laid_unicode_utf8_first)] W):RngOk W:=by
 have hg:Tryz.prog.globalNamed "strconv.ErrRange"=some 2:=by kernel_rfl
 obtain ⟨a,s,hv,_⟩:=laid_sentinel h.tail.tail.tail.tail hg (by kernel_rfl) Tryz.underlying155 row_err Tryz.underlying243 Tryz.underlying245 rfl rfl Tryz.underlying9 (by kernel_rfl) (by kernel_rfl)
 have:=World.var?_cell hg hv 0
 exact ⟨_,_,by simpa using this⟩
end Go.Proofs.YtinjocchommbdaaGreatDoor
