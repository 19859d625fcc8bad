/-
  DERIVED: THE SHELF's CONTRACTS AT THIS DUMP, IN PLAIN WORDS (tools/lay-plain.mjs out of 'TryzShelf.lean', which tools/lay-shelf.mjs wrote): THE SAME DECLARATIONS UNDER THE SAME NAMES: 'import', 'namespace', 'open', 'def', 'theorem' AND NOTHING ELSE: no command of the shelf's: FOR A HAND-IN. Each laying: the table of numbers ('.._ren') and one theorem, a field a fact of the dump's own or the kernel's comparison; each contract: ONE APPLICATION.
-/
import Derived.Shelf.Strings.Builder1
import Derived.Shelf.Strings.Builder2
import Derived.Shelf.Strings.OnBuilder
import Derived.Shelf.Small.Strs
import Derived.Shelf.Utf8.RuneCount
import Derived.Shelf.Strings.Builder2Cap
import Derived.Shelf.Strconv.Itoa0
import Derived.Shelf.Strconv.Itoa1
import Derived.Shelf.LaysM
import Derived.Shelf.Strconv.Itoa2
import Derived.Shelf.Strconv.Itoa3
import Derived.Shelf.Strconv.ParseIntEmpty
import Derived.Shelf.Strconv.Clone
import Derived.Shelf.Strconv.SyntaxError
import Derived.Shelf.LaysC
import Derived.Shelf.Strconv.ToError
import Derived.Shelf.Strconv.Lower
import Derived.Shelf.Strconv.ParseUint10
import Derived.Shelf.Strconv.ParseUint10Empty
import Derived.Shelf.Strconv.ParseUint10Any
import Derived.Shelf.Strconv.ParseInt10
import Derived.Shelf.Strconv.RangeError
import Derived.Shelf.Strconv.ToErrorRange
import Derived.Shelf.Strconv.ParseUintEmpty
import Derived.Shelf.Strconv.ParseUint10b64
import Derived.Shelf.Strconv.ParseUint10b32
import Derived.Shelf.Strconv.ParseUint10b16
import Derived.Shelf.Strconv.ParseUint10b8
import Derived.Shelf.Strconv.ParseUint10At
import Derived.Shelf.Strconv.ParseInt10At64
import Derived.Shelf.Strconv.ParseInt10At32
import Derived.Shelf.Strconv.ParseInt10At16
import Derived.Shelf.Strconv.ParseInt10At8
import Derived.Shelf.Strconv.ParseInt10All
import Derived.Shelf.Strconv.ParseIntPublic10
import Derived.Shelf.Strconv.ErrVarParseInt
import Derived.Shelf.Strings.Search1
import Derived.Shelf.Strings.RuneCount
import Derived.Shelf.Bytes.SlIndexSmall
import Derived.Ground.SlbNamesProg
import Derived.Shelf.Bytes.SlCountOne
import Derived.Shelf.Bytes.SlIndexAt
import Derived.Shelf.Bytes.SlSearch0
import Derived.Shelf.Bytes.SlSearch1
import Derived.Shelf.Bytes.SlSearch2
import Derived.Shelf.Bytes.SlIndexWhole
import Derived.Shelf.Bytes.SlCountWhole
import Derived.Ground.SlbSplitProg
import Derived.Shelf.Bytes.SlSplit
import Derived.Shelf.Bytes.SlSplitNil
import Derived.Shelf.Bytes.SlSmallAll
import Derived.Shelf.Bytes.Small
import Derived.Shelf.Bytes.IndexByte
import Derived.Test.YtchdfjihflmloaaGreatDoorProg
namespace Go.Proofs
open Go.Shelf
def Tryz.lays156_ren : Go.Shelf.Ren := ⟨fun | 156 => 32 | 165 => 46 | 166 => 47 | 169 => 48 | 240 => 56 | 241 => 57 | 276 => 67 | 277 => 68 | n => n, fun | 31 => 67 | 9 => 9 | 3 => 3 | 4 => 4 | 0 => 0 | 20 => 20 | 72 => 80 | 76 => 82 | 70 => 78 | 37 => 32 | 75 => 73 | 127 => 88 | 164 => 99 | 5 => 5 | 80 => 84 | n => n, fun | n => n⟩
theorem Tryz.lays156 : Go.Proofs.Lays.n156 Tryz.prog Tryz.lays156_ren := {
  mixed := by kernel_rfl
  f156 := Tryz.func32.trans (congrArg some (by kernel_rfl))
  f165 := Tryz.func46.trans (congrArg some (by kernel_rfl))
  f166 := Tryz.func47.trans (congrArg some (by kernel_rfl))
  f169 := Tryz.func48.trans (congrArg some (by kernel_rfl))
  f240 := Tryz.func56.trans (congrArg some (by kernel_rfl))
  f241 := Tryz.func57.trans (congrArg some (by kernel_rfl))
  f276 := Tryz.func67.trans (congrArg some (by kernel_rfl))
  f277 := Tryz.func68.trans (congrArg some (by kernel_rfl))
  t0 := Tryz.underlying0
  a0 := Tryz.isAgg0
  z0 := Tryz.sizeOf0
  v0 := Tryz.zeroValue0
  t3 := Tryz.underlying3
  a3 := Tryz.isAgg3
  z3 := Tryz.sizeOf3
  v3 := Tryz.zeroValue3
  t4 := Tryz.underlying4
  a4 := Tryz.isAgg4
  z4 := Tryz.sizeOf4
  v4 := Tryz.zeroValue4
  t9 := Tryz.underlying9
  a9 := Tryz.isAgg9
  z9 := Tryz.sizeOf9
  v9 := Tryz.zeroValue9
  t20 := Tryz.underlying20
  a20 := Tryz.isAgg20
  z20 := Tryz.sizeOf20
  v20 := Tryz.zeroValue20
  t31 := Tryz.underlying67
  a31 := Tryz.isAgg67
  z31 := Tryz.sizeOf67
  v31 := Tryz.zeroValue67
  t37 := Tryz.underlying32
  a37 := Tryz.isAgg32
  z37 := Tryz.sizeOf32
  v37 := Tryz.zeroValue32
  t70 := Tryz.underlying78
  a70 := Tryz.isAgg78
  z70 := Tryz.sizeOf78
  v70 := Tryz.zeroValue78
  t72 := Tryz.underlying80
  a72 := Tryz.isAgg80
  z72 := Tryz.sizeOf80
  v72 := Tryz.zeroValue80
  t75 := Tryz.underlying73
  a75 := Tryz.isAgg73
  z75 := Tryz.sizeOf73
  v75 := Tryz.zeroValue73
  t76 := Tryz.underlying82
  a76 := Tryz.isAgg82
  z76 := Tryz.sizeOf82
  v76 := Tryz.zeroValue82
  t127 := Tryz.underlying88
  a127 := Tryz.isAgg88
  z127 := Tryz.sizeOf88
  v127 := Tryz.zeroValue88
  t164 := Tryz.underlying99
  a164 := Tryz.isAgg99
  z164 := Tryz.sizeOf99
  v164 := Tryz.zeroValue99 }
theorem Tryz.Builder_Extra_156 : Builder.Extra Tryz.prog Tryz.lays156_ren := {
  sizeBuilder := by kernel_rfl
  liesBuilder := by kernel_rfl
  t5 := Tryz.underlying5
  a5 := Tryz.isAgg5
  z5 := Tryz.sizeOf5
  v5 := Tryz.zeroValue5
  infoByte := by kernel_rfl
  cellsByte := by kernel_rfl
  sizeByte := by kernel_rfl
  neB5 := by decide }
open Go.RowKit in
/-- No element: the empty string; the world is as it was. (Whatever the slice's address and capacity: a nil slice too.) (LAID: no walk: one application.) -/
theorem Tryz.strings_Join_none (a : Option Addr) (c : Nat) (sep : ByteArray) (w : World) :
    Calls Tryz.prog 32 #[.slice a 0 c, .string sep] w fun e w' => e = .returned (.string ⟨#[]⟩) ∧ w' = w := Any.strings_Join_none Tryz.lays156 Tryz.Builder_Extra_156 a c sep w
open Go.RowKit in
/-- strings.Join: "Join concatenates the elements of its first argument to create a single string. The separator string sep is placed between elements in the resulting string.": HOWEVER MANY ELEMENTS. Below the heap's end the world is as it was. (LAID: no walk: one application.) -/
theorem Tryz.strings_Join (bk o c : Nat) (xs : List ByteArray) (sep : ByteArray) (w : World) (hcells : ∀ (j : Nat) x, xs[j]? = some x → w.cell? ⟨bk, o + j, none⟩ = some (.string x)) (hbk : bk < w.heap.size) (hN : xs.length ≤ 140737488355328) (hcap : xs.length ≤ c) (hlen : (Lib.join (xs.map (·.data.toList)) sep.data.toList).length ≤ 140737488355328) :
    Calls Tryz.prog 32 #[.slice (some ⟨bk, o, none⟩) xs.length c, .string sep] w fun e w' => e = .returned (.string ⟨(Lib.join (xs.map (·.data.toList)) sep.data.toList).toArray⟩) ∧ Below w.heap.size w w' := Any.strings_Join Tryz.lays156 Tryz.Builder_Extra_156 bk o c xs sep w hcells hbk hN hcap hlen
def Tryz.lays137_ren : Go.Shelf.Ren := ⟨fun | 137 => 55 | 217 => 66 | 266 => 81 | n => n, fun | 9 => 9 | 5 => 5 | 3 => 3 | n => n, fun | n => n⟩
theorem Tryz.lays137 : Go.Proofs.Lays.n137 Tryz.prog Tryz.lays137_ren := {
  mixed := by kernel_rfl
  f137 := Tryz.func55.trans (congrArg some (by kernel_rfl))
  f217 := Tryz.func66.trans (congrArg some (by kernel_rfl))
  f266 := Tryz.func81.trans (congrArg some (by kernel_rfl))
  t3 := Tryz.underlying3
  a3 := Tryz.isAgg3
  z3 := Tryz.sizeOf3
  v3 := Tryz.zeroValue3
  t5 := Tryz.underlying5
  a5 := Tryz.isAgg5
  z5 := Tryz.sizeOf5
  v5 := Tryz.zeroValue5
  t9 := Tryz.underlying9
  a9 := Tryz.isAgg9
  z9 := Tryz.sizeOf9
  v9 := Tryz.zeroValue9 }
open Go.RowKit in
/-- strings.IndexByte: "IndexByte returns the index of the first instance of c in s, or -1 if c is not present in s.": IT RETURNS 'Lib.indexByte s c'; the world is as it was. (LAID: no walk: one application.) -/
theorem Tryz.strings_IndexByte (s : ByteArray) (c : Int) (w : World) :
    Calls Tryz.prog 55 #[.string s, .int .u8 c] w fun e w' => e = .returned (.int .i64 (Lib.indexByte s.data.toList c.toNat.toUInt8)) ∧ w' = w := Any.strings_IndexByte Tryz.lays137 s c w
def Tryz.laysC174_ren : Go.Shelf.Ren := ⟨fun | 174 => 40 | 247 => 50 | 245 => 51 | 287 => 61 | 279 => 62 | 280 => 63 | 281 => 64 | 282 => 65 | 321 => 76 | 322 => 77 | 316 => 78 | 171 => 80 | 205 => 79 | 243 => 86 | 246 => 87 | 283 => 88 | 284 => 89 | 285 => 90 | 286 => 91 | 129 => 93 | 317 => 92 | 318 => 94 | 319 => 95 | 320 => 96 | 337 => 97 | 338 => 98 | n => n, fun | 9 => 9 | 3 => 3 | 2 => 2 | 75 => 73 | 85 => 74 | 4 => 4 | 167 => 91 | 5 => 5 | 53 => 92 | 175 => 93 | 46 => 95 | 168 => 96 | 37 => 32 | 0 => 0 | 210 => 109 | 21 => 21 | 127 => 88 | 145 => 118 | 143 => 116 | 171 => 124 | 173 => 127 | 212 => 130 | 51 => 113 | 20 => 20 | 213 => 131 | 232 => 134 | 233 => 135 | 80 => 84 | n => n, fun | 15 => 1 | 16 => 2 | 17 => 5 | 18 => 6 | 19 => 7 | n => n⟩
theorem Tryz.laysC174 : Go.Proofs.LaysC.n174 Tryz.prog Tryz.laysC174_ren := {
  mixed := by kernel_rfl
  f129 := Tryz.func93.trans (congrArg some (by kernel_rfl))
  f171 := Tryz.func80.trans (congrArg some (by kernel_rfl))
  f174 := Tryz.func40.trans (congrArg some (by kernel_rfl))
  f205 := Tryz.func79.trans (congrArg some (by kernel_rfl))
  f243 := Tryz.func86.trans (congrArg some (by kernel_rfl))
  f245 := Tryz.func51.trans (congrArg some (by kernel_rfl))
  f246 := Tryz.func87.trans (congrArg some (by kernel_rfl))
  f247 := Tryz.func50.trans (congrArg some (by kernel_rfl))
  f279 := Tryz.func62.trans (congrArg some (by kernel_rfl))
  f280 := Tryz.func63.trans (congrArg some (by kernel_rfl))
  f281 := Tryz.func64.trans (congrArg some (by kernel_rfl))
  f282 := Tryz.func65.trans (congrArg some (by kernel_rfl))
  f283 := Tryz.func88.trans (congrArg some (by kernel_rfl))
  f284 := Tryz.func89.trans (congrArg some (by kernel_rfl))
  f285 := Tryz.func90.trans (congrArg some (by kernel_rfl))
  f286 := Tryz.func91.trans (congrArg some (by kernel_rfl))
  f287 := Tryz.func61.trans (congrArg some (by kernel_rfl))
  f316 := Tryz.func78.trans (congrArg some (by kernel_rfl))
  f317 := Tryz.func92.trans (congrArg some (by kernel_rfl))
  f318 := Tryz.func94.trans (congrArg some (by kernel_rfl))
  f319 := Tryz.func95.trans (congrArg some (by kernel_rfl))
  f320 := Tryz.func96.trans (congrArg some (by kernel_rfl))
  f321 := Tryz.func76.trans (congrArg some (by kernel_rfl))
  f322 := Tryz.func77.trans (congrArg some (by kernel_rfl))
  f337 := Tryz.func97.trans (congrArg some (by kernel_rfl))
  f338 := Tryz.func98.trans (congrArg some (by kernel_rfl))
  t0 := Tryz.underlying0
  a0 := Tryz.isAgg0
  z0 := Tryz.sizeOf0
  v0 := Tryz.zeroValue0
  t2 := Tryz.underlying2
  a2 := Tryz.isAgg2
  z2 := Tryz.sizeOf2
  v2 := Tryz.zeroValue2
  t3 := Tryz.underlying3
  a3 := Tryz.isAgg3
  z3 := Tryz.sizeOf3
  v3 := Tryz.zeroValue3
  t4 := Tryz.underlying4
  a4 := Tryz.isAgg4
  z4 := Tryz.sizeOf4
  v4 := Tryz.zeroValue4
  t5 := Tryz.underlying5
  a5 := Tryz.isAgg5
  z5 := Tryz.sizeOf5
  v5 := Tryz.zeroValue5
  t9 := Tryz.underlying9
  a9 := Tryz.isAgg9
  z9 := Tryz.sizeOf9
  v9 := Tryz.zeroValue9
  t20 := Tryz.underlying20
  a20 := Tryz.isAgg20
  z20 := Tryz.sizeOf20
  v20 := Tryz.zeroValue20
  t21 := Tryz.underlying21
  a21 := Tryz.isAgg21
  z21 := Tryz.sizeOf21
  v21 := Tryz.zeroValue21
  t37 := Tryz.underlying32
  a37 := Tryz.isAgg32
  z37 := Tryz.sizeOf32
  v37 := Tryz.zeroValue32
  t46 := Tryz.underlying95
  a46 := Tryz.isAgg95
  z46 := Tryz.sizeOf95
  v46 := Tryz.zeroValue95
  t51 := Tryz.underlying113
  a51 := Tryz.isAgg113
  z51 := Tryz.sizeOf113
  v51 := Tryz.zeroValue113
  t53 := Tryz.underlying92
  a53 := Tryz.isAgg92
  z53 := Tryz.sizeOf92
  v53 := Tryz.zeroValue92
  t75 := Tryz.underlying73
  a75 := Tryz.isAgg73
  z75 := Tryz.sizeOf73
  v75 := Tryz.zeroValue73
  t85 := Tryz.underlying74
  a85 := Tryz.isAgg74
  z85 := Tryz.sizeOf74
  v85 := Tryz.zeroValue74
  t127 := Tryz.underlying88
  a127 := Tryz.isAgg88
  z127 := Tryz.sizeOf88
  v127 := Tryz.zeroValue88
  t143 := Tryz.underlying116
  a143 := Tryz.isAgg116
  z143 := Tryz.sizeOf116
  v143 := Tryz.zeroValue116
  t145 := Tryz.underlying118
  a145 := Tryz.isAgg118
  z145 := Tryz.sizeOf118
  v145 := Tryz.zeroValue118
  t167 := Tryz.underlying91
  a167 := Tryz.isAgg91
  z167 := Tryz.sizeOf91
  v167 := Tryz.zeroValue91
  t168 := Tryz.underlying96
  a168 := Tryz.isAgg96
  z168 := Tryz.sizeOf96
  v168 := Tryz.zeroValue96
  t171 := Tryz.underlying124
  a171 := Tryz.isAgg124
  z171 := Tryz.sizeOf124
  v171 := Tryz.zeroValue124
  t173 := Tryz.underlying127
  a173 := Tryz.isAgg127
  z173 := Tryz.sizeOf127
  v173 := Tryz.zeroValue127
  t175 := Tryz.underlying93
  a175 := Tryz.isAgg93
  z175 := Tryz.sizeOf93
  v175 := Tryz.zeroValue93
  t210 := Tryz.underlying109
  a210 := Tryz.isAgg109
  z210 := Tryz.sizeOf109
  v210 := Tryz.zeroValue109
  t212 := Tryz.underlying130
  a212 := Tryz.isAgg130
  z212 := Tryz.sizeOf130
  v212 := Tryz.zeroValue130
  t213 := Tryz.underlying131
  a213 := Tryz.isAgg131
  z213 := Tryz.sizeOf131
  t232 := Tryz.underlying134
  a232 := Tryz.isAgg134
  z232 := Tryz.sizeOf134
  v232 := Tryz.zeroValue134
  t233 := Tryz.underlying135
  a233 := Tryz.isAgg135
  z233 := Tryz.sizeOf135
  v233 := Tryz.zeroValue135
  g15 := by kernel_rfl
  g16 := by kernel_rfl
  g17 := by kernel_rfl
  g18 := by kernel_rfl
  g19 := by kernel_rfl
  t80 := Tryz.underlying84
  a80 := Tryz.isAgg84
  z80 := Tryz.sizeOf84
  v80 := Tryz.zeroValue84
  i0 := by kernel_rfl
  i2 := by kernel_rfl
  i3 := by kernel_rfl
  i4 := by kernel_rfl
  i5 := by kernel_rfl
  i9 := by kernel_rfl
  i20 := by kernel_rfl
  i21 := by kernel_rfl
  i37 := by kernel_rfl
  i46 := by kernel_rfl
  i51 := by kernel_rfl
  i53 := by kernel_rfl
  i75 := by kernel_rfl
  i80 := by kernel_rfl
  i85 := by kernel_rfl
  i127 := by kernel_rfl
  i143 := by kernel_rfl
  i145 := by kernel_rfl
  i167 := by kernel_rfl
  i168 := by kernel_rfl
  i171 := by kernel_rfl
  i173 := by kernel_rfl
  i175 := by kernel_rfl
  i210 := by kernel_rfl
  i212 := by kernel_rfl
  i232 := by kernel_rfl
  i233 := by kernel_rfl
  m15 := by kernel_rfl
  m16 := by kernel_rfl
  m17 := by kernel_rfl
  m18 := by kernel_rfl
  m19 := by kernel_rfl
  c0 := by kernel_rfl
  c2 := by kernel_rfl
  c3 := by kernel_rfl
  c4 := by kernel_rfl
  c5 := by kernel_rfl
  c9 := by kernel_rfl
  c20 := by kernel_rfl
  c21 := by kernel_rfl
  c37 := by kernel_rfl
  c46 := by kernel_rfl
  c51 := by kernel_rfl
  c53 := by kernel_rfl
  c75 := by kernel_rfl
  c80 := by kernel_rfl
  c85 := by kernel_rfl
  c127 := by kernel_rfl
  c143 := by kernel_rfl
  c145 := by kernel_rfl
  c167 := by kernel_rfl
  c168 := by kernel_rfl
  c171 := by kernel_rfl
  c173 := by kernel_rfl
  c175 := by kernel_rfl
  c210 := by kernel_rfl
  c212 := by kernel_rfl
  c213 := by kernel_rfl
  c232 := by kernel_rfl
  c233 := by kernel_rfl }
open Go.RowKit in
/-- strconv.ParseInt(s, 10, 64), AT EVERY STRING THAT SPELLS AN int64 ('Lib.parseIntB 64 s.data.toList = .ok v'): v, AND NO ERROR. (LAID: no walk: one application.) -/
theorem Tryz.strconv_ParseInt_10_at64_ok (s : ByteArray) (hmax : s.size ≤ 9223372036854775806) (v : Int) (h : Lib.parseIntB 64 s.data.toList = .ok v) (w : World) :
    Calls Tryz.prog 40 #[.string s, .int .i64 10, .int .i64 64] w fun e w' => e = .returned (.tuple #[.int .i64 v, .nilIface]) ∧ (w' = w ∨ ∃ t, w' = Lib.bytesWorld w 5 t) := Any.strconv_ParseInt_10_at64_ok Tryz.laysC174 s hmax v h w
open Go.RowKit in
/-- strconv.ParseInt(s, 10, 64), AT EVERY NUMERAL THAT NO int64 HOLDS: THE GREATEST OR THE LEAST int64, BY THE SIGN ('Lib.intSat 64'), AND AN ERROR THAT IS NOT nil: a *NumError in a new block N: {Func: "ParseInt", Num: s's bytes, Err: what the variable ErrRange holds}. Of what was there nothing has turned. (LAID: no walk: one application.) -/
theorem Tryz.strconv_ParseInt_10_at64_range (s : ByteArray) (hlim : s.size ≤ 281474976710656) (h : Lib.parseIntB 64 s.data.toList = .range) (ev : Value) (w : World) (hv : w.cell? ⟨2, 0, none⟩ = some ev) (hev : ev = .nilIface ∨ ∃ te pe, ev = .iface te pe) :
    Calls Tryz.prog 40 #[.string s, .int .i64 10, .int .i64 64] w fun e w' => ∃ N, e = .returned (.tuple #[.int .i64 (Lib.intSat 64 s.data.toList), .iface 96 (.pointer (some ⟨N, 0, none⟩))]) ∧ w.heap.size ≤ N ∧ w'.heap[N]? = some (.cells #[.string ⟨#[80, 97, 114, 115, 101, 73, 110, 116]⟩, .string s, ev] 109 (0, 0)) ∧ Below w.heap.size w w' := Any.strconv_ParseInt_10_at64_range Tryz.laysC174 s hlim h ev w hv hev
def Tryz.laysSlP7_ren : Go.Shelf.Ren := ⟨fun | 7 => 37 | 11 => 49 | 14 => 58 | 15 => 59 | 16 => 60 | 17 => 69 | 19 => 70 | 20 => 71 | 21 => 72 | 22 => 38 | 23 => 73 | 24 => 74 | 25 => 75 | 26 => 82 | 29 => 83 | 30 => 84 | 31 => 85 | n => n, fun | 22 => 32 | 23 => 70 | 3 => 3 | 4 => 4 | 0 => 0 | 34 => 102 | 21 => 21 | 5 => 5 | 45 => 95 | 9 => 9 | 58 => 114 | 38 => 113 | 28 => 119 | 62 => 122 | 61 => 121 | n => n, fun | 2 => 0 | 3 => 3 | 4 => 4 | n => n⟩
theorem Tryz.laysSlP7 : Go.Proofs.SlLaysP.n7 Tryz.prog Tryz.laysSlP7_ren := {
  mixed := by kernel_rfl
  f7 := Tryz.func37.trans (congrArg some (by kernel_rfl))
  f11 := Tryz.func49.trans (congrArg some (by kernel_rfl))
  f15 := Tryz.func59.trans (congrArg some (by kernel_rfl))
  f16 := Tryz.func60.trans (congrArg some (by kernel_rfl))
  f20 := Tryz.func71.trans (congrArg some (by kernel_rfl))
  f21 := Tryz.func72.trans (congrArg some (by kernel_rfl))
  f22 := Tryz.func38.trans (congrArg some (by kernel_rfl))
  f23 := Tryz.func73.trans (congrArg some (by kernel_rfl))
  f24 := Tryz.func74.trans (congrArg some (by kernel_rfl))
  f25 := Tryz.func75.trans (congrArg some (by kernel_rfl))
  f30 := Tryz.func84.trans (congrArg some (by kernel_rfl))
  f31 := Tryz.func85.trans (congrArg some (by kernel_rfl))
  t0 := Tryz.underlying0
  a0 := Tryz.isAgg0
  z0 := Tryz.sizeOf0
  v0 := Tryz.zeroValue0
  t3 := Tryz.underlying3
  a3 := Tryz.isAgg3
  z3 := Tryz.sizeOf3
  v3 := Tryz.zeroValue3
  t4 := Tryz.underlying4
  a4 := Tryz.isAgg4
  z4 := Tryz.sizeOf4
  v4 := Tryz.zeroValue4
  t5 := Tryz.underlying5
  a5 := Tryz.isAgg5
  z5 := Tryz.sizeOf5
  v5 := Tryz.zeroValue5
  t9 := Tryz.underlying9
  a9 := Tryz.isAgg9
  z9 := Tryz.sizeOf9
  v9 := Tryz.zeroValue9
  t22 := Tryz.underlying32
  a22 := Tryz.isAgg32
  z22 := Tryz.sizeOf32
  v22 := Tryz.zeroValue32
  t23 := Tryz.underlying70
  a23 := Tryz.isAgg70
  z23 := Tryz.sizeOf70
  v23 := Tryz.zeroValue70
  t38 := Tryz.underlying113
  a38 := Tryz.isAgg113
  z38 := Tryz.sizeOf113
  v38 := Tryz.zeroValue113
  t45 := Tryz.underlying95
  a45 := Tryz.isAgg95
  z45 := Tryz.sizeOf95
  v45 := Tryz.zeroValue95
  t58 := Tryz.underlying114
  a58 := Tryz.isAgg114
  z58 := Tryz.sizeOf114
  v58 := Tryz.zeroValue114
  g2 := by kernel_rfl
  i22 := by kernel_rfl }
open Go.RowKit Go.Lib in
/-- bytes.Split: "Split slices s into all subslices separated by sep and returns a slice of the subslices between those separators.": 'count + 1' PIECES, each a slice into s's own memory: 'Lib.splitV sep 0 count ..'; length and capacity are that number; the new block holds them and nothing else. (LAID: no walk: one application.) -/
theorem Tryz.bytes_Split (a1 a2 : Addr) (n c1 k c2 : Nat) (xs ys : List Int) (m : Int) (w : World) (hx : xs.length = n) (hy : ys.length = k) (hr1 : ∀ x ∈ xs, 0 ≤ x ∧ x < 256) (hr2 : ∀ y ∈ ys, 0 ≤ y ∧ y < 256) (hc1 : ∀ i, i < n → w.cell? (a1.add i) = some (.int .u8 (xs.getD i 0))) (hc2 : ∀ i, i < k → w.cell? (a2.add i) = some (.int .u8 (ys.getD i 0))) (hcap : n ≤ c1) (hs : n < 4294967281) (hk : k ≤ 9223372036854775807) (hc63 : c1 ≤ 9223372036854775807) (h1 : 1 ≤ k) (hm : w.cell? ⟨0, 0, none⟩ = some (.int .i64 m)) :
    Calls Tryz.prog 37 #[.slice (some a1) n c1, .slice (some a2) k c2] w fun e w' =>
      e = .returned (.slice (some ⟨w.heap.size, 0, none⟩) (Lib.count (Lib.bytesOf xs) (Lib.bytesOf ys) + 1) (Lib.count (Lib.bytesOf xs) (Lib.bytesOf ys) + 1)) ∧ ∃ q, w' = (w.alloc (.cells (Lib.splitV (Lib.bytesOf ys) 0 (Lib.count (Lib.bytesOf xs) (Lib.bytesOf ys)) a1 c1 (Lib.bytesOf xs)).toArray 32)).drewN q := Any.bytes_Split Tryz.laysSlP7 a1 a2 n c1 k c2 xs ys m w hx hy hr1 hr2 hc1 hc2 hcap hs hk hc63 h1 hm
open Go.RowKit Go.Lib in
/-- bytes.Split where s is nil: one piece: nil. (LAID: no walk: one application.) -/
theorem Tryz.bytes_Split_nil (p2 : Option Addr) (k c2 : Nat) (w : World) (h1 : 1 ≤ k) (hk : k ≤ 9223372036854775807) (h1c : k = 1 → ∃ b2 o2 cv, p2 = some ⟨b2, o2, none⟩ ∧ w.cell? ⟨b2, o2, none⟩ = some (.int .u8 cv)) :
    Calls Tryz.prog 37 #[.slice none 0 0, .slice p2 k c2] w fun e w' => e = .returned (.slice (some ⟨w.heap.size, 0, none⟩) 1 1) ∧ w' = w.alloc (.cells #[.slice none 0 0] 32) := Any.bytes_Split_nil Tryz.laysSlP7 p2 k c2 w h1 hk h1c
def Tryz.laysnb116_ren : Go.Shelf.Ren := ⟨fun | 116 => 30 | 115 => 38 | n => n, fun | 37 => 32 | 4 => 4 | 3 => 3 | 9 => 9 | 5 => 5 | n => n, fun | n => n⟩
theorem Tryz.laysnb116 : Go.Proofs.Lays.nb116 Tryz.prog Tryz.laysnb116_ren := {
  mixed := by kernel_rfl
  f115 := Tryz.func38.trans (congrArg some (by kernel_rfl))
  f116 := Tryz.func30.trans (congrArg some (by kernel_rfl))
  t3 := Tryz.underlying3
  a3 := Tryz.isAgg3
  z3 := Tryz.sizeOf3
  v3 := Tryz.zeroValue3
  t4 := Tryz.underlying4
  a4 := Tryz.isAgg4
  z4 := Tryz.sizeOf4
  v4 := Tryz.zeroValue4
  t9 := Tryz.underlying9
  a9 := Tryz.isAgg9
  z9 := Tryz.sizeOf9
  v9 := Tryz.zeroValue9
  t37 := Tryz.underlying32
  a37 := Tryz.isAgg32
  z37 := Tryz.sizeOf32
  v37 := Tryz.zeroValue32
  t5 := Tryz.underlying5
  a5 := Tryz.isAgg5
  z5 := Tryz.sizeOf5
  v5 := Tryz.zeroValue5 }
/-- bytes.HasPrefix: WHOLE: each argument nil, or of no byte at whatever address, or at an address with its cells. (LAID: no walk: one application.) -/
theorem Tryz.bytes_HasPrefix_all (p1 p2 : Option Addr) (n c m d : Nat) (xs ys : List Int) (w : World) (hx : xs.length = n) (hy : ys.length = m) (hnc : n ≤ c) (h1 : Lib.BytesIn w p1 n xs) (h2 : Lib.BytesIn w p2 m ys) :
    Calls Tryz.prog 30 #[.slice p1 n c, .slice p2 m d] w fun e w' => e = .returned (.bool (Lib.hasPrefix (Lib.bytesOf xs) (Lib.bytesOf ys))) ∧ w' = w := Any.bytes_HasPrefix_all Tryz.laysnb116 p1 p2 n c m d xs ys w hx hy hnc h1 h2
end Go.Proofs
