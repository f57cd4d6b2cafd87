/-
  NARROWER THAN 'FOR EVERY INPUT', by the rows' own cells (each row's printed sentence says how): TyUnifies: loops, laid · TyOrder: loops, laid · TySays: loops, laid · TyOne: loops, laid · TyRenamed: loops, laid · TyKnown: laid.
  DERIVED. THE GIVEN ROWS OF THIS SEAT. 6 by the template 'for every input the law returns true; each argument reads behind the call as it read before'; 0 by the template 'total and deterministic' (their statements: YtoilldfibaeokaaDoorTotals.lean).
  GIVEN WITH THE SEED: the statements are not yours to turn. If you find one false, say at which input.
  Laid BY PROGRAM, IN A SANDBOX (cutbox-rows.mjs): the forced cells as the released guide's own fill.sh prints them over the translation a46f3c508da7c9c5… (all of the seat's roots in one cut). By AI agents, Wed Nov 11 2026. No macro, syntax, notation, axiom, sorry.
-/
import Derived.Test.YtoilldfibaeokaaDoorChecked
import GoSem.Claim
import GoSem.ClaimJoined
import GoSem.ClaimMapViews
import Derived.JoinedTies
import Derived.KernelRfl
namespace Go.Proofs.YtoilldfibaeokaaDoor
/- THE CELL 'sum', in the pinned program and in every row, IS THE sha256 OF THE DUMP (.gsa) THAT YtoilldfibaeokaaDoorProg.lean LOADS. Nothing in Lean hashes anything: it is a label: what it is worth is what the hold of that sum in a sandbox is worth. -/
noncomputable def Tryd.pinned : Pinned := { name := "ytoilldfibaeokaadoor", sum := "a46f3c508da7c9c535a6a947c40798199fc8419d278076bd8a7f5dbc98d0e566", checked := Tryd.checked }
namespace Rows
def none {H : Type} : Left H := { results := [], args := [] }

/- WHAT THE LISTED PACKAGE-LEVEL VARIABLES READ AS WHEN THE CALL BEGINS. Each datum BY PROGRAM (the guide's laid-datum.mjs) off the statement by which the dump's own 'gosem.cut.vars' lays the variable. In a bare row this is a premise. The card (YtoilldfibaeokaaDoorCards.lean) ties it to the program's text. -/
def laid_math_bits_deBruijn32tab {H : Type} : DataW H := .agg [.lit (.int .u8 0), .lit (.int .u8 1), .lit (.int .u8 28), .lit (.int .u8 2), .lit (.int .u8 29), .lit (.int .u8 14), .lit (.int .u8 24), .lit (.int .u8 3), .lit (.int .u8 30), .lit (.int .u8 22), .lit (.int .u8 20), .lit (.int .u8 15), .lit (.int .u8 25), .lit (.int .u8 17), .lit (.int .u8 4), .lit (.int .u8 8), .lit (.int .u8 31), .lit (.int .u8 27), .lit (.int .u8 13), .lit (.int .u8 23), .lit (.int .u8 21), .lit (.int .u8 19), .lit (.int .u8 16), .lit (.int .u8 7), .lit (.int .u8 26), .lit (.int .u8 12), .lit (.int .u8 18), .lit (.int .u8 6), .lit (.int .u8 11), .lit (.int .u8 5), .lit (.int .u8 10), .lit (.int .u8 9)]
def laid_math_bits_deBruijn64tab {H : Type} : DataW H := .agg [.lit (.int .u8 0), .lit (.int .u8 1), .lit (.int .u8 56), .lit (.int .u8 2), .lit (.int .u8 57), .lit (.int .u8 49), .lit (.int .u8 28), .lit (.int .u8 3), .lit (.int .u8 61), .lit (.int .u8 58), .lit (.int .u8 42), .lit (.int .u8 50), .lit (.int .u8 38), .lit (.int .u8 29), .lit (.int .u8 17), .lit (.int .u8 4), .lit (.int .u8 62), .lit (.int .u8 47), .lit (.int .u8 59), .lit (.int .u8 36), .lit (.int .u8 45), .lit (.int .u8 43), .lit (.int .u8 51), .lit (.int .u8 22), .lit (.int .u8 53), .lit (.int .u8 39), .lit (.int .u8 33), .lit (.int .u8 30), .lit (.int .u8 24), .lit (.int .u8 18), .lit (.int .u8 12), .lit (.int .u8 5), .lit (.int .u8 63), .lit (.int .u8 55), .lit (.int .u8 48), .lit (.int .u8 27), .lit (.int .u8 60), .lit (.int .u8 41), .lit (.int .u8 37), .lit (.int .u8 16), .lit (.int .u8 46), .lit (.int .u8 35), .lit (.int .u8 44), .lit (.int .u8 21), .lit (.int .u8 52), .lit (.int .u8 32), .lit (.int .u8 23), .lit (.int .u8 11), .lit (.int .u8 54), .lit (.int .u8 26), .lit (.int .u8 40), .lit (.int .u8 15), .lit (.int .u8 34), .lit (.int .u8 20), .lit (.int .u8 31), .lit (.int .u8 10), .lit (.int .u8 25), .lit (.int .u8 14), .lit (.int .u8 19), .lit (.int .u8 9), .lit (.int .u8 13), .lit (.int .u8 8), .lit (.int .u8 7), .lit (.int .u8 6)]
def laid_internal_strconv_uint64pow10 {H : Type} : DataW H := .agg [.lit (.int .u64 1), .lit (.int .u64 10), .lit (.int .u64 100), .lit (.int .u64 1000), .lit (.int .u64 10000), .lit (.int .u64 100000), .lit (.int .u64 1000000), .lit (.int .u64 10000000), .lit (.int .u64 100000000), .lit (.int .u64 1000000000), .lit (.int .u64 10000000000), .lit (.int .u64 100000000000), .lit (.int .u64 1000000000000), .lit (.int .u64 10000000000000), .lit (.int .u64 100000000000000), .lit (.int .u64 1000000000000000), .lit (.int .u64 10000000000000000), .lit (.int .u64 100000000000000000), .lit (.int .u64 1000000000000000000), .lit (.int .u64 10000000000000000000)]

/-- 'hindsightlaw5.TyUnifies': WHATEVER THE INPUT: true; the input reads as it did. -/
def tyUnifiesSpec : ChangeSpec := { name := "tyUnifies", fn := fun _ => fun
  | [d1, d2] => { results := [.lit (.bool true)], args := [d1, d2] }
  | _ => none }
def tyUnifiesRow : OpenClaim := { program := "ytoilldfibaeokaadoor", sum := "a46f3c508da7c9c535a6a947c40798199fc8419d278076bd8a7f5dbc98d0e566", func := "hindsight/hindsightlaw5.TyUnifies", spec := "tyUnifies", recurses := true, named := ["internal/strconv.uint64pow10", "math/bits.deBruijn32tab", "math/bits.deBruijn64tab"], loops := true, apart := false, laid := [("math/bits.deBruijn32tab", laid_math_bits_deBruijn32tab), ("math/bits.deBruijn64tab", laid_math_bits_deBruijn64tab), ("internal/strconv.uint64pow10", laid_internal_strconv_uint64pow10)] }
def TyUnifiesSaid : Prop := tyUnifiesRow.holds Tryd.pinned (OpenSpec.ofChange tyUnifiesSpec)

/-- ITS FALSE NEIGHBOUR: 'it returns false'. Refute it at one input. -/
def tyUnifiesWrong : ChangeSpec := { name := "tyUnifies", fn := fun _ => fun
  | [d1, d2] => { results := [.lit (.bool false)], args := [d1, d2] }
  | _ => none }
def TyUnifiesWrongFalsely : Prop := tyUnifiesRow.holds Tryd.pinned (OpenSpec.ofChange tyUnifiesWrong)

/-- 'hindsightlaw5.TyOrder': WHATEVER THE INPUT: true; the input reads as it did. -/
def tyOrderSpec : ChangeSpec := { name := "tyOrder", fn := fun _ => fun
  | [d1, d2] => { results := [.lit (.bool true)], args := [d1, d2] }
  | _ => none }
def tyOrderRow : OpenClaim := { program := "ytoilldfibaeokaadoor", sum := "a46f3c508da7c9c535a6a947c40798199fc8419d278076bd8a7f5dbc98d0e566", func := "hindsight/hindsightlaw5.TyOrder", spec := "tyOrder", recurses := true, named := ["internal/strconv.uint64pow10", "math/bits.deBruijn32tab", "math/bits.deBruijn64tab"], loops := true, apart := false, laid := [("math/bits.deBruijn32tab", laid_math_bits_deBruijn32tab), ("math/bits.deBruijn64tab", laid_math_bits_deBruijn64tab), ("internal/strconv.uint64pow10", laid_internal_strconv_uint64pow10)] }
def TyOrderSaid : Prop := tyOrderRow.holds Tryd.pinned (OpenSpec.ofChange tyOrderSpec)

/-- ITS FALSE NEIGHBOUR: 'it returns false'. Refute it at one input. -/
def tyOrderWrong : ChangeSpec := { name := "tyOrder", fn := fun _ => fun
  | [d1, d2] => { results := [.lit (.bool false)], args := [d1, d2] }
  | _ => none }
def TyOrderWrongFalsely : Prop := tyOrderRow.holds Tryd.pinned (OpenSpec.ofChange tyOrderWrong)

/-- 'hindsightlaw5.TySays': WHATEVER THE INPUT: true; the input reads as it did. -/
def tySaysSpec : ChangeSpec := { name := "tySays", fn := fun _ => fun
  | [d1, d2] => { results := [.lit (.bool true)], args := [d1, d2] }
  | _ => none }
def tySaysRow : OpenClaim := { program := "ytoilldfibaeokaadoor", sum := "a46f3c508da7c9c535a6a947c40798199fc8419d278076bd8a7f5dbc98d0e566", func := "hindsight/hindsightlaw5.TySays", spec := "tySays", recurses := true, named := ["internal/strconv.uint64pow10", "math/bits.deBruijn32tab", "math/bits.deBruijn64tab"], loops := true, apart := false, laid := [("math/bits.deBruijn32tab", laid_math_bits_deBruijn32tab), ("math/bits.deBruijn64tab", laid_math_bits_deBruijn64tab), ("internal/strconv.uint64pow10", laid_internal_strconv_uint64pow10)] }
def TySaysSaid : Prop := tySaysRow.holds Tryd.pinned (OpenSpec.ofChange tySaysSpec)

/-- ITS FALSE NEIGHBOUR: 'it returns false'. Refute it at one input. -/
def tySaysWrong : ChangeSpec := { name := "tySays", fn := fun _ => fun
  | [d1, d2] => { results := [.lit (.bool false)], args := [d1, d2] }
  | _ => none }
def TySaysWrongFalsely : Prop := tySaysRow.holds Tryd.pinned (OpenSpec.ofChange tySaysWrong)

/-- 'hindsightlaw5.TyOne': WHATEVER THE INPUT: true; the input reads as it did. -/
def tyOneSpec : ChangeSpec := { name := "tyOne", fn := fun _ => fun
  | [d1, d2, d3] => { results := [.lit (.bool true)], args := [d1, d2, d3] }
  | _ => none }
def tyOneRow : OpenClaim := { program := "ytoilldfibaeokaadoor", sum := "a46f3c508da7c9c535a6a947c40798199fc8419d278076bd8a7f5dbc98d0e566", func := "hindsight/hindsightlaw5.TyOne", spec := "tyOne", recurses := true, named := ["internal/strconv.uint64pow10", "math/bits.deBruijn32tab", "math/bits.deBruijn64tab"], loops := true, apart := false, laid := [("math/bits.deBruijn32tab", laid_math_bits_deBruijn32tab), ("math/bits.deBruijn64tab", laid_math_bits_deBruijn64tab), ("internal/strconv.uint64pow10", laid_internal_strconv_uint64pow10)] }
def TyOneSaid : Prop := tyOneRow.holds Tryd.pinned (OpenSpec.ofChange tyOneSpec)

/-- ITS FALSE NEIGHBOUR: 'it returns false'. Refute it at one input. -/
def tyOneWrong : ChangeSpec := { name := "tyOne", fn := fun _ => fun
  | [d1, d2, d3] => { results := [.lit (.bool false)], args := [d1, d2, d3] }
  | _ => none }
def TyOneWrongFalsely : Prop := tyOneRow.holds Tryd.pinned (OpenSpec.ofChange tyOneWrong)

/-- 'hindsightlaw5.TyRenamed': WHATEVER THE INPUT: true; the input reads as it did. -/
def tyRenamedSpec : ChangeSpec := { name := "tyRenamed", fn := fun _ => fun
  | [d1, d2, d3] => { results := [.lit (.bool true)], args := [d1, d2, d3] }
  | _ => none }
def tyRenamedRow : OpenClaim := { program := "ytoilldfibaeokaadoor", sum := "a46f3c508da7c9c535a6a947c40798199fc8419d278076bd8a7f5dbc98d0e566", func := "hindsight/hindsightlaw5.TyRenamed", spec := "tyRenamed", recurses := true, named := ["internal/strconv.uint64pow10", "math/bits.deBruijn32tab", "math/bits.deBruijn64tab"], loops := true, apart := false, laid := [("math/bits.deBruijn32tab", laid_math_bits_deBruijn32tab), ("math/bits.deBruijn64tab", laid_math_bits_deBruijn64tab), ("internal/strconv.uint64pow10", laid_internal_strconv_uint64pow10)] }
def TyRenamedSaid : Prop := tyRenamedRow.holds Tryd.pinned (OpenSpec.ofChange tyRenamedSpec)

/-- ITS FALSE NEIGHBOUR: 'it returns false'. Refute it at one input. -/
def tyRenamedWrong : ChangeSpec := { name := "tyRenamed", fn := fun _ => fun
  | [d1, d2, d3] => { results := [.lit (.bool false)], args := [d1, d2, d3] }
  | _ => none }
def TyRenamedWrongFalsely : Prop := tyRenamedRow.holds Tryd.pinned (OpenSpec.ofChange tyRenamedWrong)

/-- 'hindsightlaw5.TyKnown': WHATEVER THE INPUT: true; the input reads as it did. -/
def tyKnownSpec : ChangeSpec := { name := "tyKnown", fn := fun _ => fun
  | [] => { results := [.lit (.bool true)], args := [] }
  | _ => none }
def tyKnownRow : OpenClaim := { program := "ytoilldfibaeokaadoor", sum := "a46f3c508da7c9c535a6a947c40798199fc8419d278076bd8a7f5dbc98d0e566", func := "hindsight/hindsightlaw5.TyKnown", spec := "tyKnown", recurses := true, named := ["internal/strconv.uint64pow10", "math/bits.deBruijn32tab", "math/bits.deBruijn64tab"], apart := false, laid := [("math/bits.deBruijn32tab", laid_math_bits_deBruijn32tab), ("math/bits.deBruijn64tab", laid_math_bits_deBruijn64tab), ("internal/strconv.uint64pow10", laid_internal_strconv_uint64pow10)] }
def TyKnownSaid : Prop := tyKnownRow.holds Tryd.pinned (OpenSpec.ofChange tyKnownSpec)

/-- ITS FALSE NEIGHBOUR: 'it returns false'. Refute it at one input. -/
def tyKnownWrong : ChangeSpec := { name := "tyKnown", fn := fun _ => fun
  | [] => { results := [.lit (.bool false)], args := [] }
  | _ => none }
def TyKnownWrongFalsely : Prop := tyKnownRow.holds Tryd.pinned (OpenSpec.ofChange tyKnownWrong)

/- THE SECOND FORM. 'bulk': how many values and letters a reading holds, each counted each time it is reached (what is shared counts as often as it is met; a slice's spare places count too). A statement '..UptoSaid' is the law's where the arguments, and the package variables that the reading takes, are together of bulk at most 1048576: NARROWER than '..Said'. Prove '..Said' where nothing that the law and all that it calls make is longer than what came in: it says more and counts as full. Else prove '..UptoSaid'. A law counts once. -/
mutual
def uptoBulk {H : Type} : DataW H → Nat
  | .lit (.string bytes) => bytes.length + 1
  | .lit _ => 1
  | .nil => 1
  | .ptr d => uptoBulk d + 1
  | .slice elems spare => uptoBulkAll elems + uptoBulkAll spare + 1
  | .agg parts => uptoBulkAll parts + 1
  | .iface _ d => uptoBulk d + 1
  | .map entries => uptoBulkEntries entries + 1
  | .held _ => 1
def uptoBulkAll {H : Type} : List (DataW H) → Nat
  | [] => 0
  | d :: r => uptoBulk d + uptoBulkAll r
def uptoBulkEntries {H : Type} : List (Lit × DataW H) → Nat
  | [] => 0
  | x :: r => uptoBulkEntry x + uptoBulkEntries r
def uptoBulkEntry {H : Type} : Lit × DataW H → Nat
  | (.string bytes, d) => bytes.length + uptoBulk d + 1
  | (_, d) => uptoBulk d + 1
 end
def uptoSmall : (H : Type) → List (DataW H) → Bool := fun _ ds => decide (uptoBulkAll ds ≤ 1048576)
def OpenSpec.upto (s : _root_.Go.ChangeSpec) : _root_.Go.OpenSpec := { _root_.Go.OpenSpec.ofChange s with cond := some uptoSmall }

/-- 'hindsightlaw5.TyUnifies', WHERE WHAT IT READS IS OF BULK AT MOST 1048576: true; the input reads as it did. -/
def tyUnifiesUptoRow : OpenClaim := { program := "ytoilldfibaeokaadoor", sum := "a46f3c508da7c9c535a6a947c40798199fc8419d278076bd8a7f5dbc98d0e566", func := "hindsight/hindsightlaw5.TyUnifies", spec := "tyUnifies", recurses := true, named := ["internal/strconv.uint64pow10", "math/bits.deBruijn32tab", "math/bits.deBruijn64tab"], loops := true, apart := false, laid := [("math/bits.deBruijn32tab", laid_math_bits_deBruijn32tab), ("math/bits.deBruijn64tab", laid_math_bits_deBruijn64tab), ("internal/strconv.uint64pow10", laid_internal_strconv_uint64pow10)], narrowed := true }
def TyUnifiesUptoSaid : Prop := tyUnifiesUptoRow.holds Tryd.pinned (OpenSpec.upto tyUnifiesSpec)

/-- 'hindsightlaw5.TyOrder', WHERE WHAT IT READS IS OF BULK AT MOST 1048576: true; the input reads as it did. -/
def tyOrderUptoRow : OpenClaim := { program := "ytoilldfibaeokaadoor", sum := "a46f3c508da7c9c535a6a947c40798199fc8419d278076bd8a7f5dbc98d0e566", func := "hindsight/hindsightlaw5.TyOrder", spec := "tyOrder", recurses := true, named := ["internal/strconv.uint64pow10", "math/bits.deBruijn32tab", "math/bits.deBruijn64tab"], loops := true, apart := false, laid := [("math/bits.deBruijn32tab", laid_math_bits_deBruijn32tab), ("math/bits.deBruijn64tab", laid_math_bits_deBruijn64tab), ("internal/strconv.uint64pow10", laid_internal_strconv_uint64pow10)], narrowed := true }
def TyOrderUptoSaid : Prop := tyOrderUptoRow.holds Tryd.pinned (OpenSpec.upto tyOrderSpec)

/-- 'hindsightlaw5.TySays', WHERE WHAT IT READS IS OF BULK AT MOST 1048576: true; the input reads as it did. -/
def tySaysUptoRow : OpenClaim := { program := "ytoilldfibaeokaadoor", sum := "a46f3c508da7c9c535a6a947c40798199fc8419d278076bd8a7f5dbc98d0e566", func := "hindsight/hindsightlaw5.TySays", spec := "tySays", recurses := true, named := ["internal/strconv.uint64pow10", "math/bits.deBruijn32tab", "math/bits.deBruijn64tab"], loops := true, apart := false, laid := [("math/bits.deBruijn32tab", laid_math_bits_deBruijn32tab), ("math/bits.deBruijn64tab", laid_math_bits_deBruijn64tab), ("internal/strconv.uint64pow10", laid_internal_strconv_uint64pow10)], narrowed := true }
def TySaysUptoSaid : Prop := tySaysUptoRow.holds Tryd.pinned (OpenSpec.upto tySaysSpec)

/-- 'hindsightlaw5.TyOne', WHERE WHAT IT READS IS OF BULK AT MOST 1048576: true; the input reads as it did. -/
def tyOneUptoRow : OpenClaim := { program := "ytoilldfibaeokaadoor", sum := "a46f3c508da7c9c535a6a947c40798199fc8419d278076bd8a7f5dbc98d0e566", func := "hindsight/hindsightlaw5.TyOne", spec := "tyOne", recurses := true, named := ["internal/strconv.uint64pow10", "math/bits.deBruijn32tab", "math/bits.deBruijn64tab"], loops := true, apart := false, laid := [("math/bits.deBruijn32tab", laid_math_bits_deBruijn32tab), ("math/bits.deBruijn64tab", laid_math_bits_deBruijn64tab), ("internal/strconv.uint64pow10", laid_internal_strconv_uint64pow10)], narrowed := true }
def TyOneUptoSaid : Prop := tyOneUptoRow.holds Tryd.pinned (OpenSpec.upto tyOneSpec)

/-- 'hindsightlaw5.TyRenamed', WHERE WHAT IT READS IS OF BULK AT MOST 1048576: true; the input reads as it did. -/
def tyRenamedUptoRow : OpenClaim := { program := "ytoilldfibaeokaadoor", sum := "a46f3c508da7c9c535a6a947c40798199fc8419d278076bd8a7f5dbc98d0e566", func := "hindsight/hindsightlaw5.TyRenamed", spec := "tyRenamed", recurses := true, named := ["internal/strconv.uint64pow10", "math/bits.deBruijn32tab", "math/bits.deBruijn64tab"], loops := true, apart := false, laid := [("math/bits.deBruijn32tab", laid_math_bits_deBruijn32tab), ("math/bits.deBruijn64tab", laid_math_bits_deBruijn64tab), ("internal/strconv.uint64pow10", laid_internal_strconv_uint64pow10)], narrowed := true }
def TyRenamedUptoSaid : Prop := tyRenamedUptoRow.holds Tryd.pinned (OpenSpec.upto tyRenamedSpec)

/-- 'hindsightlaw5.TyKnown', WHERE WHAT IT READS IS OF BULK AT MOST 1048576: true; the input reads as it did. -/
def tyKnownUptoRow : OpenClaim := { program := "ytoilldfibaeokaadoor", sum := "a46f3c508da7c9c535a6a947c40798199fc8419d278076bd8a7f5dbc98d0e566", func := "hindsight/hindsightlaw5.TyKnown", spec := "tyKnown", recurses := true, named := ["internal/strconv.uint64pow10", "math/bits.deBruijn32tab", "math/bits.deBruijn64tab"], apart := false, laid := [("math/bits.deBruijn32tab", laid_math_bits_deBruijn32tab), ("math/bits.deBruijn64tab", laid_math_bits_deBruijn64tab), ("internal/strconv.uint64pow10", laid_internal_strconv_uint64pow10)], narrowed := true }
def TyKnownUptoSaid : Prop := tyKnownUptoRow.holds Tryd.pinned (OpenSpec.upto tyKnownSpec)

end Rows
end Go.Proofs.YtoilldfibaeokaaDoor
