/-
  NARROWER THAN 'FOR EVERY INPUT', by the rows' own cells (each row's printed sentence says how): TyTells: loops, laid · TyApplies: loops, laid · TyUnifies: loops, laid · TyOne: loops, laid · TyLeast: loops, laid · TyNames: loops, laid · TyTurns: loops, laid · TyIdle: loops, laid.
  DERIVED. THE GIVEN ROWS OF THIS SEAT. 8 by the template 'for every input the law returns true; each argument reads behind the call as it read before'; 0 by the template 'total and deterministic' (their statements: YticjpeefhppjoaaDoorTotals.lean).
  GIVEN WITH THE SEED: the statements are not yours to turn. If you find one false, say at which input.
  Laid BY PROGRAM, IN A SANDBOX (cutbox-rows.mjs): the forced cells as the released guide's own fill.sh prints them over the translation a80f28f3dad66a9e… (all of the seat's roots in one cut). By AI agents, Wed Nov 11 2026. No macro, syntax, notation, axiom, sorry.
-/
import Derived.Test.YticjpeefhppjoaaDoorChecked
import GoSem.Claim
import GoSem.ClaimJoined
import GoSem.ClaimMapViews
import Derived.JoinedTies
import Derived.KernelRfl
namespace Go.Proofs.YticjpeefhppjoaaDoor
/- THE CELL 'sum', in the pinned program and in every row, IS THE sha256 OF THE DUMP (.gsa) THAT YticjpeefhppjoaaDoorProg.lean LOADS. Nothing in Lean hashes anything: it is a label: what it is worth is what the hold of that sum in a sandbox is worth. -/
noncomputable def Tryd.pinned : Pinned := { name := "yticjpeefhppjoaadoor", sum := "a80f28f3dad66a9ee292f73b4f90b14da471b2a77b02f236d709690caa2a1c9f", checked := Tryd.checked }
namespace Rows
def none {H : Type} : Left H := { results := [], args := [] }

/- WHAT THE LISTED PACKAGE-LEVEL VARIABLES READ AS WHEN THE CALL BEGINS. Each datum BY PROGRAM (the guide's laid-datum.mjs) off the statement by which the dump's own 'gosem.cut.vars' lays the variable. In a bare row this is a premise. The card (YticjpeefhppjoaaDoorCards.lean) ties it to the program's text. -/
def laid_math_bits_deBruijn32tab {H : Type} : DataW H := .agg [.lit (.int .u8 0), .lit (.int .u8 1), .lit (.int .u8 28), .lit (.int .u8 2), .lit (.int .u8 29), .lit (.int .u8 14), .lit (.int .u8 24), .lit (.int .u8 3), .lit (.int .u8 30), .lit (.int .u8 22), .lit (.int .u8 20), .lit (.int .u8 15), .lit (.int .u8 25), .lit (.int .u8 17), .lit (.int .u8 4), .lit (.int .u8 8), .lit (.int .u8 31), .lit (.int .u8 27), .lit (.int .u8 13), .lit (.int .u8 23), .lit (.int .u8 21), .lit (.int .u8 19), .lit (.int .u8 16), .lit (.int .u8 7), .lit (.int .u8 26), .lit (.int .u8 12), .lit (.int .u8 18), .lit (.int .u8 6), .lit (.int .u8 11), .lit (.int .u8 5), .lit (.int .u8 10), .lit (.int .u8 9)]
def laid_math_bits_deBruijn64tab {H : Type} : DataW H := .agg [.lit (.int .u8 0), .lit (.int .u8 1), .lit (.int .u8 56), .lit (.int .u8 2), .lit (.int .u8 57), .lit (.int .u8 49), .lit (.int .u8 28), .lit (.int .u8 3), .lit (.int .u8 61), .lit (.int .u8 58), .lit (.int .u8 42), .lit (.int .u8 50), .lit (.int .u8 38), .lit (.int .u8 29), .lit (.int .u8 17), .lit (.int .u8 4), .lit (.int .u8 62), .lit (.int .u8 47), .lit (.int .u8 59), .lit (.int .u8 36), .lit (.int .u8 45), .lit (.int .u8 43), .lit (.int .u8 51), .lit (.int .u8 22), .lit (.int .u8 53), .lit (.int .u8 39), .lit (.int .u8 33), .lit (.int .u8 30), .lit (.int .u8 24), .lit (.int .u8 18), .lit (.int .u8 12), .lit (.int .u8 5), .lit (.int .u8 63), .lit (.int .u8 55), .lit (.int .u8 48), .lit (.int .u8 27), .lit (.int .u8 60), .lit (.int .u8 41), .lit (.int .u8 37), .lit (.int .u8 16), .lit (.int .u8 46), .lit (.int .u8 35), .lit (.int .u8 44), .lit (.int .u8 21), .lit (.int .u8 52), .lit (.int .u8 32), .lit (.int .u8 23), .lit (.int .u8 11), .lit (.int .u8 54), .lit (.int .u8 26), .lit (.int .u8 40), .lit (.int .u8 15), .lit (.int .u8 34), .lit (.int .u8 20), .lit (.int .u8 31), .lit (.int .u8 10), .lit (.int .u8 25), .lit (.int .u8 14), .lit (.int .u8 19), .lit (.int .u8 9), .lit (.int .u8 13), .lit (.int .u8 8), .lit (.int .u8 7), .lit (.int .u8 6)]
def laid_internal_strconv_uint64pow10 {H : Type} : DataW H := .agg [.lit (.int .u64 1), .lit (.int .u64 10), .lit (.int .u64 100), .lit (.int .u64 1000), .lit (.int .u64 10000), .lit (.int .u64 100000), .lit (.int .u64 1000000), .lit (.int .u64 10000000), .lit (.int .u64 100000000), .lit (.int .u64 1000000000), .lit (.int .u64 10000000000), .lit (.int .u64 100000000000), .lit (.int .u64 1000000000000), .lit (.int .u64 10000000000000), .lit (.int .u64 100000000000000), .lit (.int .u64 1000000000000000), .lit (.int .u64 10000000000000000), .lit (.int .u64 100000000000000000), .lit (.int .u64 1000000000000000000), .lit (.int .u64 10000000000000000000)]

/-- 'dawdlerlaw08.TyTells': WHATEVER THE INPUT: true; the input reads as it did. -/
def tyTellsSpec : ChangeSpec := { name := "tyTells", fn := fun _ => fun
  | [d] => { results := [.lit (.bool true)], args := [d] }
  | _ => none }
def tyTellsRow : OpenClaim := { program := "yticjpeefhppjoaadoor", sum := "a80f28f3dad66a9ee292f73b4f90b14da471b2a77b02f236d709690caa2a1c9f", func := "dawdler/dawdlerlaw08.TyTells", spec := "tyTells", unfollowed := true, recurses := true, named := ["internal/strconv.uint64pow10", "math/bits.deBruijn32tab", "math/bits.deBruijn64tab"], loops := true, apart := false, laid := [("math/bits.deBruijn32tab", laid_math_bits_deBruijn32tab), ("math/bits.deBruijn64tab", laid_math_bits_deBruijn64tab), ("internal/strconv.uint64pow10", laid_internal_strconv_uint64pow10)] }
def TyTellsSaid : Prop := tyTellsRow.holds Tryd.pinned (OpenSpec.ofChange tyTellsSpec)

/-- ITS FALSE NEIGHBOUR: 'it returns false'. Refute it at one input. -/
def tyTellsWrong : ChangeSpec := { name := "tyTells", fn := fun _ => fun
  | [d] => { results := [.lit (.bool false)], args := [d] }
  | _ => none }
def TyTellsWrongFalsely : Prop := tyTellsRow.holds Tryd.pinned (OpenSpec.ofChange tyTellsWrong)

/-- 'dawdlerlaw08.TyApplies': WHATEVER THE INPUT: true; the input reads as it did. -/
def tyAppliesSpec : ChangeSpec := { name := "tyApplies", fn := fun _ => fun
  | [d1, d2] => { results := [.lit (.bool true)], args := [d1, d2] }
  | _ => none }
def tyAppliesRow : OpenClaim := { program := "yticjpeefhppjoaadoor", sum := "a80f28f3dad66a9ee292f73b4f90b14da471b2a77b02f236d709690caa2a1c9f", func := "dawdler/dawdlerlaw08.TyApplies", spec := "tyApplies", unfollowed := true, recurses := true, named := ["internal/strconv.uint64pow10", "math/bits.deBruijn32tab", "math/bits.deBruijn64tab"], loops := true, apart := false, laid := [("math/bits.deBruijn32tab", laid_math_bits_deBruijn32tab), ("math/bits.deBruijn64tab", laid_math_bits_deBruijn64tab), ("internal/strconv.uint64pow10", laid_internal_strconv_uint64pow10)] }
def TyAppliesSaid : Prop := tyAppliesRow.holds Tryd.pinned (OpenSpec.ofChange tyAppliesSpec)

/-- ITS FALSE NEIGHBOUR: 'it returns false'. Refute it at one input. -/
def tyAppliesWrong : ChangeSpec := { name := "tyApplies", fn := fun _ => fun
  | [d1, d2] => { results := [.lit (.bool false)], args := [d1, d2] }
  | _ => none }
def TyAppliesWrongFalsely : Prop := tyAppliesRow.holds Tryd.pinned (OpenSpec.ofChange tyAppliesWrong)

/-- 'dawdlerlaw08.TyUnifies': WHATEVER THE INPUT: true; the input reads as it did. -/
def tyUnifiesSpec : ChangeSpec := { name := "tyUnifies", fn := fun _ => fun
  | [d1, d2] => { results := [.lit (.bool true)], args := [d1, d2] }
  | _ => none }
def tyUnifiesRow : OpenClaim := { program := "yticjpeefhppjoaadoor", sum := "a80f28f3dad66a9ee292f73b4f90b14da471b2a77b02f236d709690caa2a1c9f", func := "dawdler/dawdlerlaw08.TyUnifies", spec := "tyUnifies", unfollowed := true, recurses := true, named := ["internal/strconv.uint64pow10", "math/bits.deBruijn32tab", "math/bits.deBruijn64tab"], loops := true, apart := false, laid := [("math/bits.deBruijn32tab", laid_math_bits_deBruijn32tab), ("math/bits.deBruijn64tab", laid_math_bits_deBruijn64tab), ("internal/strconv.uint64pow10", laid_internal_strconv_uint64pow10)] }
def TyUnifiesSaid : Prop := tyUnifiesRow.holds Tryd.pinned (OpenSpec.ofChange tyUnifiesSpec)

/-- ITS FALSE NEIGHBOUR: 'it returns false'. Refute it at one input. -/
def tyUnifiesWrong : ChangeSpec := { name := "tyUnifies", fn := fun _ => fun
  | [d1, d2] => { results := [.lit (.bool false)], args := [d1, d2] }
  | _ => none }
def TyUnifiesWrongFalsely : Prop := tyUnifiesRow.holds Tryd.pinned (OpenSpec.ofChange tyUnifiesWrong)

/-- 'dawdlerlaw08.TyOne': WHATEVER THE INPUT: true; the input reads as it did. -/
def tyOneSpec : ChangeSpec := { name := "tyOne", fn := fun _ => fun
  | [d1, d2] => { results := [.lit (.bool true)], args := [d1, d2] }
  | _ => none }
def tyOneRow : OpenClaim := { program := "yticjpeefhppjoaadoor", sum := "a80f28f3dad66a9ee292f73b4f90b14da471b2a77b02f236d709690caa2a1c9f", func := "dawdler/dawdlerlaw08.TyOne", spec := "tyOne", unfollowed := true, recurses := true, named := ["internal/strconv.uint64pow10", "math/bits.deBruijn32tab", "math/bits.deBruijn64tab"], loops := true, apart := false, laid := [("math/bits.deBruijn32tab", laid_math_bits_deBruijn32tab), ("math/bits.deBruijn64tab", laid_math_bits_deBruijn64tab), ("internal/strconv.uint64pow10", laid_internal_strconv_uint64pow10)] }
def TyOneSaid : Prop := tyOneRow.holds Tryd.pinned (OpenSpec.ofChange tyOneSpec)

/-- ITS FALSE NEIGHBOUR: 'it returns false'. Refute it at one input. -/
def tyOneWrong : ChangeSpec := { name := "tyOne", fn := fun _ => fun
  | [d1, d2] => { results := [.lit (.bool false)], args := [d1, d2] }
  | _ => none }
def TyOneWrongFalsely : Prop := tyOneRow.holds Tryd.pinned (OpenSpec.ofChange tyOneWrong)

/-- 'dawdlerlaw08.TyLeast': WHATEVER THE INPUT: true; the input reads as it did. -/
def tyLeastSpec : ChangeSpec := { name := "tyLeast", fn := fun _ => fun
  | [d1, d2, d3] => { results := [.lit (.bool true)], args := [d1, d2, d3] }
  | _ => none }
def tyLeastRow : OpenClaim := { program := "yticjpeefhppjoaadoor", sum := "a80f28f3dad66a9ee292f73b4f90b14da471b2a77b02f236d709690caa2a1c9f", func := "dawdler/dawdlerlaw08.TyLeast", spec := "tyLeast", unfollowed := true, recurses := true, named := ["internal/strconv.uint64pow10", "math/bits.deBruijn32tab", "math/bits.deBruijn64tab"], loops := true, apart := false, laid := [("math/bits.deBruijn32tab", laid_math_bits_deBruijn32tab), ("math/bits.deBruijn64tab", laid_math_bits_deBruijn64tab), ("internal/strconv.uint64pow10", laid_internal_strconv_uint64pow10)] }
def TyLeastSaid : Prop := tyLeastRow.holds Tryd.pinned (OpenSpec.ofChange tyLeastSpec)

/-- ITS FALSE NEIGHBOUR: 'it returns false'. Refute it at one input. -/
def tyLeastWrong : ChangeSpec := { name := "tyLeast", fn := fun _ => fun
  | [d1, d2, d3] => { results := [.lit (.bool false)], args := [d1, d2, d3] }
  | _ => none }
def TyLeastWrongFalsely : Prop := tyLeastRow.holds Tryd.pinned (OpenSpec.ofChange tyLeastWrong)

/-- 'dawdlerlaw08.TyNames': WHATEVER THE INPUT: true; the input reads as it did. -/
def tyNamesSpec : ChangeSpec := { name := "tyNames", fn := fun _ => fun
  | [d1, d2] => { results := [.lit (.bool true)], args := [d1, d2] }
  | _ => none }
def tyNamesRow : OpenClaim := { program := "yticjpeefhppjoaadoor", sum := "a80f28f3dad66a9ee292f73b4f90b14da471b2a77b02f236d709690caa2a1c9f", func := "dawdler/dawdlerlaw08.TyNames", spec := "tyNames", unfollowed := true, recurses := true, named := ["internal/strconv.uint64pow10", "math/bits.deBruijn32tab", "math/bits.deBruijn64tab"], loops := true, apart := false, laid := [("math/bits.deBruijn32tab", laid_math_bits_deBruijn32tab), ("math/bits.deBruijn64tab", laid_math_bits_deBruijn64tab), ("internal/strconv.uint64pow10", laid_internal_strconv_uint64pow10)] }
def TyNamesSaid : Prop := tyNamesRow.holds Tryd.pinned (OpenSpec.ofChange tyNamesSpec)

/-- ITS FALSE NEIGHBOUR: 'it returns false'. Refute it at one input. -/
def tyNamesWrong : ChangeSpec := { name := "tyNames", fn := fun _ => fun
  | [d1, d2] => { results := [.lit (.bool false)], args := [d1, d2] }
  | _ => none }
def TyNamesWrongFalsely : Prop := tyNamesRow.holds Tryd.pinned (OpenSpec.ofChange tyNamesWrong)

/-- 'dawdlerlaw08.TyTurns': WHATEVER THE INPUT: true; the input reads as it did. -/
def tyTurnsSpec : ChangeSpec := { name := "tyTurns", fn := fun _ => fun
  | [d1, d2, d3] => { results := [.lit (.bool true)], args := [d1, d2, d3] }
  | _ => none }
def tyTurnsRow : OpenClaim := { program := "yticjpeefhppjoaadoor", sum := "a80f28f3dad66a9ee292f73b4f90b14da471b2a77b02f236d709690caa2a1c9f", func := "dawdler/dawdlerlaw08.TyTurns", spec := "tyTurns", unfollowed := true, recurses := true, named := ["internal/strconv.uint64pow10", "math/bits.deBruijn32tab", "math/bits.deBruijn64tab"], loops := true, apart := false, laid := [("math/bits.deBruijn32tab", laid_math_bits_deBruijn32tab), ("math/bits.deBruijn64tab", laid_math_bits_deBruijn64tab), ("internal/strconv.uint64pow10", laid_internal_strconv_uint64pow10)] }
def TyTurnsSaid : Prop := tyTurnsRow.holds Tryd.pinned (OpenSpec.ofChange tyTurnsSpec)

/-- ITS FALSE NEIGHBOUR: 'it returns false'. Refute it at one input. -/
def tyTurnsWrong : ChangeSpec := { name := "tyTurns", fn := fun _ => fun
  | [d1, d2, d3] => { results := [.lit (.bool false)], args := [d1, d2, d3] }
  | _ => none }
def TyTurnsWrongFalsely : Prop := tyTurnsRow.holds Tryd.pinned (OpenSpec.ofChange tyTurnsWrong)

/-- 'dawdlerlaw08.TyIdle': WHATEVER THE INPUT: true; the input reads as it did. -/
def tyIdleSpec : ChangeSpec := { name := "tyIdle", fn := fun _ => fun
  | [d1, d2, d3] => { results := [.lit (.bool true)], args := [d1, d2, d3] }
  | _ => none }
def tyIdleRow : OpenClaim := { program := "yticjpeefhppjoaadoor", sum := "a80f28f3dad66a9ee292f73b4f90b14da471b2a77b02f236d709690caa2a1c9f", func := "dawdler/dawdlerlaw08.TyIdle", spec := "tyIdle", unfollowed := true, recurses := true, named := ["internal/strconv.uint64pow10", "math/bits.deBruijn32tab", "math/bits.deBruijn64tab"], loops := true, apart := false, laid := [("math/bits.deBruijn32tab", laid_math_bits_deBruijn32tab), ("math/bits.deBruijn64tab", laid_math_bits_deBruijn64tab), ("internal/strconv.uint64pow10", laid_internal_strconv_uint64pow10)] }
def TyIdleSaid : Prop := tyIdleRow.holds Tryd.pinned (OpenSpec.ofChange tyIdleSpec)

/-- ITS FALSE NEIGHBOUR: 'it returns false'. Refute it at one input. -/
def tyIdleWrong : ChangeSpec := { name := "tyIdle", fn := fun _ => fun
  | [d1, d2, d3] => { results := [.lit (.bool false)], args := [d1, d2, d3] }
  | _ => none }
def TyIdleWrongFalsely : Prop := tyIdleRow.holds Tryd.pinned (OpenSpec.ofChange tyIdleWrong)

/- THE SECOND FORM. 'bulk': how many values and letters a reading holds, each counted each time it is reached (what is shared counts as often as it is met; a slice's spare places count too). A statement '..UptoSaid' is the law's where the arguments, and the package variables that the reading takes, are together of bulk at most 1048576: NARROWER than '..Said'. Prove '..Said' where nothing that the law and all that it calls make is longer than what came in: it says more and counts as full. Else prove '..UptoSaid'. A law counts once. -/
mutual
def uptoBulk {H : Type} : DataW H → Nat
  | .lit (.string bytes) => bytes.length + 1
  | .lit _ => 1
  | .nil => 1
  | .ptr d => uptoBulk d + 1
  | .slice elems spare => uptoBulkAll elems + uptoBulkAll spare + 1
  | .agg parts => uptoBulkAll parts + 1
  | .iface _ d => uptoBulk d + 1
  | .map entries => uptoBulkEntries entries + 1
  | .held _ => 1
def uptoBulkAll {H : Type} : List (DataW H) → Nat
  | [] => 0
  | d :: r => uptoBulk d + uptoBulkAll r
def uptoBulkEntries {H : Type} : List (Lit × DataW H) → Nat
  | [] => 0
  | x :: r => uptoBulkEntry x + uptoBulkEntries r
def uptoBulkEntry {H : Type} : Lit × DataW H → Nat
  | (.string bytes, d) => bytes.length + uptoBulk d + 1
  | (_, d) => uptoBulk d + 1
 end
def uptoSmall : (H : Type) → List (DataW H) → Bool := fun _ ds => decide (uptoBulkAll ds ≤ 1048576)
def OpenSpec.upto (s : _root_.Go.ChangeSpec) : _root_.Go.OpenSpec := { _root_.Go.OpenSpec.ofChange s with cond := some uptoSmall }

/-- 'dawdlerlaw08.TyTells', WHERE WHAT IT READS IS OF BULK AT MOST 1048576: true; the input reads as it did. -/
def tyTellsUptoRow : OpenClaim := { program := "yticjpeefhppjoaadoor", sum := "a80f28f3dad66a9ee292f73b4f90b14da471b2a77b02f236d709690caa2a1c9f", func := "dawdler/dawdlerlaw08.TyTells", spec := "tyTells", unfollowed := true, recurses := true, named := ["internal/strconv.uint64pow10", "math/bits.deBruijn32tab", "math/bits.deBruijn64tab"], loops := true, apart := false, laid := [("math/bits.deBruijn32tab", laid_math_bits_deBruijn32tab), ("math/bits.deBruijn64tab", laid_math_bits_deBruijn64tab), ("internal/strconv.uint64pow10", laid_internal_strconv_uint64pow10)], narrowed := true }
def TyTellsUptoSaid : Prop := tyTellsUptoRow.holds Tryd.pinned (OpenSpec.upto tyTellsSpec)

/-- 'dawdlerlaw08.TyApplies', WHERE WHAT IT READS IS OF BULK AT MOST 1048576: true; the input reads as it did. -/
def tyAppliesUptoRow : OpenClaim := { program := "yticjpeefhppjoaadoor", sum := "a80f28f3dad66a9ee292f73b4f90b14da471b2a77b02f236d709690caa2a1c9f", func := "dawdler/dawdlerlaw08.TyApplies", spec := "tyApplies", unfollowed := true, recurses := true, named := ["internal/strconv.uint64pow10", "math/bits.deBruijn32tab", "math/bits.deBruijn64tab"], loops := true, apart := false, laid := [("math/bits.deBruijn32tab", laid_math_bits_deBruijn32tab), ("math/bits.deBruijn64tab", laid_math_bits_deBruijn64tab), ("internal/strconv.uint64pow10", laid_internal_strconv_uint64pow10)], narrowed := true }
def TyAppliesUptoSaid : Prop := tyAppliesUptoRow.holds Tryd.pinned (OpenSpec.upto tyAppliesSpec)

/-- 'dawdlerlaw08.TyUnifies', WHERE WHAT IT READS IS OF BULK AT MOST 1048576: true; the input reads as it did. -/
def tyUnifiesUptoRow : OpenClaim := { program := "yticjpeefhppjoaadoor", sum := "a80f28f3dad66a9ee292f73b4f90b14da471b2a77b02f236d709690caa2a1c9f", func := "dawdler/dawdlerlaw08.TyUnifies", spec := "tyUnifies", unfollowed := true, recurses := true, named := ["internal/strconv.uint64pow10", "math/bits.deBruijn32tab", "math/bits.deBruijn64tab"], loops := true, apart := false, laid := [("math/bits.deBruijn32tab", laid_math_bits_deBruijn32tab), ("math/bits.deBruijn64tab", laid_math_bits_deBruijn64tab), ("internal/strconv.uint64pow10", laid_internal_strconv_uint64pow10)], narrowed := true }
def TyUnifiesUptoSaid : Prop := tyUnifiesUptoRow.holds Tryd.pinned (OpenSpec.upto tyUnifiesSpec)

/-- 'dawdlerlaw08.TyOne', WHERE WHAT IT READS IS OF BULK AT MOST 1048576: true; the input reads as it did. -/
def tyOneUptoRow : OpenClaim := { program := "yticjpeefhppjoaadoor", sum := "a80f28f3dad66a9ee292f73b4f90b14da471b2a77b02f236d709690caa2a1c9f", func := "dawdler/dawdlerlaw08.TyOne", spec := "tyOne", unfollowed := true, recurses := true, named := ["internal/strconv.uint64pow10", "math/bits.deBruijn32tab", "math/bits.deBruijn64tab"], loops := true, apart := false, laid := [("math/bits.deBruijn32tab", laid_math_bits_deBruijn32tab), ("math/bits.deBruijn64tab", laid_math_bits_deBruijn64tab), ("internal/strconv.uint64pow10", laid_internal_strconv_uint64pow10)], narrowed := true }
def TyOneUptoSaid : Prop := tyOneUptoRow.holds Tryd.pinned (OpenSpec.upto tyOneSpec)

/-- 'dawdlerlaw08.TyLeast', WHERE WHAT IT READS IS OF BULK AT MOST 1048576: true; the input reads as it did. -/
def tyLeastUptoRow : OpenClaim := { program := "yticjpeefhppjoaadoor", sum := "a80f28f3dad66a9ee292f73b4f90b14da471b2a77b02f236d709690caa2a1c9f", func := "dawdler/dawdlerlaw08.TyLeast", spec := "tyLeast", unfollowed := true, recurses := true, named := ["internal/strconv.uint64pow10", "math/bits.deBruijn32tab", "math/bits.deBruijn64tab"], loops := true, apart := false, laid := [("math/bits.deBruijn32tab", laid_math_bits_deBruijn32tab), ("math/bits.deBruijn64tab", laid_math_bits_deBruijn64tab), ("internal/strconv.uint64pow10", laid_internal_strconv_uint64pow10)], narrowed := true }
def TyLeastUptoSaid : Prop := tyLeastUptoRow.holds Tryd.pinned (OpenSpec.upto tyLeastSpec)

/-- 'dawdlerlaw08.TyNames', WHERE WHAT IT READS IS OF BULK AT MOST 1048576: true; the input reads as it did. -/
def tyNamesUptoRow : OpenClaim := { program := "yticjpeefhppjoaadoor", sum := "a80f28f3dad66a9ee292f73b4f90b14da471b2a77b02f236d709690caa2a1c9f", func := "dawdler/dawdlerlaw08.TyNames", spec := "tyNames", unfollowed := true, recurses := true, named := ["internal/strconv.uint64pow10", "math/bits.deBruijn32tab", "math/bits.deBruijn64tab"], loops := true, apart := false, laid := [("math/bits.deBruijn32tab", laid_math_bits_deBruijn32tab), ("math/bits.deBruijn64tab", laid_math_bits_deBruijn64tab), ("internal/strconv.uint64pow10", laid_internal_strconv_uint64pow10)], narrowed := true }
def TyNamesUptoSaid : Prop := tyNamesUptoRow.holds Tryd.pinned (OpenSpec.upto tyNamesSpec)

/-- 'dawdlerlaw08.TyTurns', WHERE WHAT IT READS IS OF BULK AT MOST 1048576: true; the input reads as it did. -/
def tyTurnsUptoRow : OpenClaim := { program := "yticjpeefhppjoaadoor", sum := "a80f28f3dad66a9ee292f73b4f90b14da471b2a77b02f236d709690caa2a1c9f", func := "dawdler/dawdlerlaw08.TyTurns", spec := "tyTurns", unfollowed := true, recurses := true, named := ["internal/strconv.uint64pow10", "math/bits.deBruijn32tab", "math/bits.deBruijn64tab"], loops := true, apart := false, laid := [("math/bits.deBruijn32tab", laid_math_bits_deBruijn32tab), ("math/bits.deBruijn64tab", laid_math_bits_deBruijn64tab), ("internal/strconv.uint64pow10", laid_internal_strconv_uint64pow10)], narrowed := true }
def TyTurnsUptoSaid : Prop := tyTurnsUptoRow.holds Tryd.pinned (OpenSpec.upto tyTurnsSpec)

/-- 'dawdlerlaw08.TyIdle', WHERE WHAT IT READS IS OF BULK AT MOST 1048576: true; the input reads as it did. -/
def tyIdleUptoRow : OpenClaim := { program := "yticjpeefhppjoaadoor", sum := "a80f28f3dad66a9ee292f73b4f90b14da471b2a77b02f236d709690caa2a1c9f", func := "dawdler/dawdlerlaw08.TyIdle", spec := "tyIdle", unfollowed := true, recurses := true, named := ["internal/strconv.uint64pow10", "math/bits.deBruijn32tab", "math/bits.deBruijn64tab"], loops := true, apart := false, laid := [("math/bits.deBruijn32tab", laid_math_bits_deBruijn32tab), ("math/bits.deBruijn64tab", laid_math_bits_deBruijn64tab), ("internal/strconv.uint64pow10", laid_internal_strconv_uint64pow10)], narrowed := true }
def TyIdleUptoSaid : Prop := tyIdleUptoRow.holds Tryd.pinned (OpenSpec.upto tyIdleSpec)

end Rows
end Go.Proofs.YticjpeefhppjoaaDoor
