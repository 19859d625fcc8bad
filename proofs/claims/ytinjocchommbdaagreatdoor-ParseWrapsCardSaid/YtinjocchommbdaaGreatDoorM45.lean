/- A part of the proof that parser laws hold: texts of the walk and of its plain laws, made small. -/
import Derived.Test.YtinjocchommbdaaGreatDoorM18
import Derived.Test.YtinjocchommbdaaGreatDoorM44
set_option linter.unusedVariables false
set_option linter.unusedSimpArgs false
namespace Go.Proofs.YtinjocchommbdaaGreatDoor
open Go.RowKit Go.ChangeShapes Go.WideShapes Go.ChangeAt Go.ChangeMaps
set_option maxRecDepth 100000 in
theorem arg_u16 {H:Type} {enc:TypeId × Value→H} {W:World} {base:Nat} {v:Value} {d:DataW H} {p:List MemPlace} (hok:Value.okWide Tryz.prog W .any base 54 v) (h:DataW.Trod enc Tryz.prog W 0 (fun _=>true) true 54 v d p):∃ x:Nat,v=.int .u16 (x:Int)∧x≤65535:=by
 obtain ⟨x,rfl,rfl,rfl,hw⟩:=open_int Tryz.underlying54 hok h
 have h2:0≤x∧x≤65535:=by simpa [Lit.wf,IntKind.min,IntKind.max,IntKind.signed,IntKind.bits] using hw
 exact ⟨x.toNat,by rw [Int.toNat_of_nonneg h2.1],by omega⟩
set_option maxRecDepth 100000 in
theorem arg_tok {H:Type} {enc:TypeId × Value→H} {W:World} {v:Value} {d:DataW H} {p:List MemPlace} (h:DataW.Trod enc Tryz.prog W 0 (fun _=>true) true 51 v d p) (hf:Fits Tryz.prog 51 d) :
  ∃ t:Tk,v=.agg #[.int .i64 t.kind,.string (tS t.text),.int .i64 t.num,.int .i64 t.line,.int .i64 t.col]∧TkIn t:=by
 obtain ⟨fuel,h⟩:=h
 obtain ⟨t,h1,h2⟩:=read_tok _ _ _ h hf
 exact ⟨t,by rw [agg_of_cells h1],h2⟩
theorem tab7_of {W:World} (h:laidMet Tryz.prog [("math/bits.deBruijn32tab",Rows.laid_math_bits_deBruijn32tab),("math/bits.deBruijn64tab",Rows.laid_math_bits_deBruijn64tab),("internal/strconv.uint64pow10",Rows.laid_internal_strconv_uint64pow10),("unicode/utf8.acceptRanges",Rows.laid_unicode_utf8_acceptRanges),("strconv.ErrRange",Rows.laid_strconv_ErrRange),("strconv.ErrSyntax",Rows.laid_strconv_ErrSyntax),("unicode/utf8.first",Rows.laid_unicode_utf8_first)] W):Tab W:=by
 obtain ⟨ps,⟨_,_,_,_,_,_,_,_,_,_,⟨_,_,_,_,_,_,_,_,_,_,⟨g,t,cs,fuel,p,q,hg,ht,hvar,hd,_,_⟩,_⟩,_⟩,_⟩:=h
 obtain ⟨g0,hg0⟩:∃ g0,Tryz.prog.globalNamed "internal/strconv.uint64pow10"=some g0:=Option.isSome_iff_exists.1 (by kernel_rfl)
 have e:(Rows.laid_internal_strconv_uint64pow10:DataW Unit)=Lib.tabData .u64 Lib.pow10Tab:=by rfl
 rw [e] at hd
 have hty:(do let g ←Tryz.prog.globalNamed "internal/strconv.uint64pow10";(Tryz.prog.globals[g]?).map (·.type))=some 247:=by kernel_rfl
 rw [hg] at hty
 obtain rfl:=Option.some.inj (hty.symm.trans ht)
 show Lib.TabIs _ _ _ _ _
 unfold Lib.TabIs
 rw [hvar,←Lib.cells_of_tab Tryz.underlying247 Tryz.underlying215 (by kernel_rfl) (by kernel_rfl) hd]
end Go.Proofs.YtinjocchommbdaaGreatDoor
