/-
  No cell of these rows narrows 'for every input' (looked for: loops, veiled, ifaces, maps, wideKeys, modest, calm, conditions, laid).
  DERIVED. THE GIVEN ROWS OF THIS SEAT. 6 by the template 'for every input the law returns true; each argument reads behind the call as it read before'; 0 by the template 'total and deterministic' (their statements: YtahkbdmoodjnbaaTotals.lean).
  GIVEN WITH THE SEED: the statements are not yours to turn. If you find one false, say at which input.
  Laid BY PROGRAM, IN A SANDBOX (cutbox-rows.mjs): the forced cells as the released guide's own fill.sh prints them over the translation 2e4579ae7729cf76… (all of the seat's roots in one cut). By AI agents, Wed Nov 11 2026. No macro, syntax, notation, axiom, sorry.
-/
import Derived.Test.YtahkbdmoodjnbaaChecked
import GoSem.Claim
import GoSem.ClaimJoined
import GoSem.ClaimMapViews
import Derived.JoinedTies
import Derived.KernelRfl
namespace Go.Proofs.Ytahkbdmoodjnbaa
/- THE CELL 'sum', in the pinned program and in every row, IS THE sha256 OF THE DUMP (.gsa) THAT YtahkbdmoodjnbaaProg.lean LOADS. Nothing in Lean hashes anything: it is a label: what it is worth is what the hold of that sum in a sandbox is worth. -/
noncomputable def Try.pinned : Pinned := { name := "ytahkbdmoodjnbaa", sum := "2e4579ae7729cf76622672f1e37a1ce8d94a3156369f212193b260801e9a0d17", checked := Try.checked }
namespace Rows
def none {H : Type} : Left H := { results := [], args := [] }

/-- 'hindsightlaw11.WordOrder': WHATEVER THE INPUT: true; the input reads as it did. -/
def wordOrderSpec : ChangeSpec := { name := "wordOrder", fn := fun _ => fun
  | [d1, d2, d3, d4] => { results := [.lit (.bool true)], args := [d1, d2, d3, d4] }
  | _ => none }
def wordOrderRow : OpenClaim := { program := "ytahkbdmoodjnbaa", sum := "2e4579ae7729cf76622672f1e37a1ce8d94a3156369f212193b260801e9a0d17", func := "hindsight/hindsightlaw11.WordOrder", spec := "wordOrder", apart := false }
def WordOrderSaid : Prop := wordOrderRow.holds Try.pinned (OpenSpec.ofChange wordOrderSpec)

/-- ITS FALSE NEIGHBOUR: 'it returns false'. Refute it at one input. -/
def wordOrderWrong : ChangeSpec := { name := "wordOrder", fn := fun _ => fun
  | [d1, d2, d3, d4] => { results := [.lit (.bool false)], args := [d1, d2, d3, d4] }
  | _ => none }
def WordOrderWrongFalsely : Prop := wordOrderRow.holds Try.pinned (OpenSpec.ofChange wordOrderWrong)

/-- 'hindsightlaw11.WordSays': WHATEVER THE INPUT: true; the input reads as it did. -/
def wordSaysSpec : ChangeSpec := { name := "wordSays", fn := fun _ => fun
  | [d1, d2, d3, d4, d5, d6] => { results := [.lit (.bool true)], args := [d1, d2, d3, d4, d5, d6] }
  | _ => none }
def wordSaysRow : OpenClaim := { program := "ytahkbdmoodjnbaa", sum := "2e4579ae7729cf76622672f1e37a1ce8d94a3156369f212193b260801e9a0d17", func := "hindsight/hindsightlaw11.WordSays", spec := "wordSays", apart := false }
def WordSaysSaid : Prop := wordSaysRow.holds Try.pinned (OpenSpec.ofChange wordSaysSpec)

/-- ITS FALSE NEIGHBOUR: 'it returns false'. Refute it at one input. -/
def wordSaysWrong : ChangeSpec := { name := "wordSays", fn := fun _ => fun
  | [d1, d2, d3, d4, d5, d6] => { results := [.lit (.bool false)], args := [d1, d2, d3, d4, d5, d6] }
  | _ => none }
def WordSaysWrongFalsely : Prop := wordSaysRow.holds Try.pinned (OpenSpec.ofChange wordSaysWrong)

/-- 'hindsightlaw11.WordBack': WHATEVER THE INPUT: true; the input reads as it did. -/
def wordBackSpec : ChangeSpec := { name := "wordBack", fn := fun _ => fun
  | [d1, d2, d3, d4, d5, d6] => { results := [.lit (.bool true)], args := [d1, d2, d3, d4, d5, d6] }
  | _ => none }
def wordBackRow : OpenClaim := { program := "ytahkbdmoodjnbaa", sum := "2e4579ae7729cf76622672f1e37a1ce8d94a3156369f212193b260801e9a0d17", func := "hindsight/hindsightlaw11.WordBack", spec := "wordBack", apart := false }
def WordBackSaid : Prop := wordBackRow.holds Try.pinned (OpenSpec.ofChange wordBackSpec)

/-- ITS FALSE NEIGHBOUR: 'it returns false'. Refute it at one input. -/
def wordBackWrong : ChangeSpec := { name := "wordBack", fn := fun _ => fun
  | [d1, d2, d3, d4, d5, d6] => { results := [.lit (.bool false)], args := [d1, d2, d3, d4, d5, d6] }
  | _ => none }
def WordBackWrongFalsely : Prop := wordBackRow.holds Try.pinned (OpenSpec.ofChange wordBackWrong)

/-- 'hindsightlaw22.KeepPlays': WHATEVER THE INPUT: true; the input reads as it did. -/
def keepPlaysSpec : ChangeSpec := { name := "keepPlays", fn := fun _ => fun
  | [d1, d2, d3, d4] => { results := [.lit (.bool true)], args := [d1, d2, d3, d4] }
  | _ => none }
def keepPlaysRow : OpenClaim := { program := "ytahkbdmoodjnbaa", sum := "2e4579ae7729cf76622672f1e37a1ce8d94a3156369f212193b260801e9a0d17", func := "hindsight/hindsightlaw22.KeepPlays", spec := "keepPlays", apart := false }
def KeepPlaysSaid : Prop := keepPlaysRow.holds Try.pinned (OpenSpec.ofChange keepPlaysSpec)

/-- ITS FALSE NEIGHBOUR: 'it returns false'. Refute it at one input. -/
def keepPlaysWrong : ChangeSpec := { name := "keepPlays", fn := fun _ => fun
  | [d1, d2, d3, d4] => { results := [.lit (.bool false)], args := [d1, d2, d3, d4] }
  | _ => none }
def KeepPlaysWrongFalsely : Prop := keepPlaysRow.holds Try.pinned (OpenSpec.ofChange keepPlaysWrong)

/-- 'hindsightlaw22.KeepEven': WHATEVER THE INPUT: true; the input reads as it did. -/
def keepEvenSpec : ChangeSpec := { name := "keepEven", fn := fun _ => fun
  | [d1, d2, d3] => { results := [.lit (.bool true)], args := [d1, d2, d3] }
  | _ => none }
def keepEvenRow : OpenClaim := { program := "ytahkbdmoodjnbaa", sum := "2e4579ae7729cf76622672f1e37a1ce8d94a3156369f212193b260801e9a0d17", func := "hindsight/hindsightlaw22.KeepEven", spec := "keepEven", apart := false }
def KeepEvenSaid : Prop := keepEvenRow.holds Try.pinned (OpenSpec.ofChange keepEvenSpec)

/-- ITS FALSE NEIGHBOUR: 'it returns false'. Refute it at one input. -/
def keepEvenWrong : ChangeSpec := { name := "keepEven", fn := fun _ => fun
  | [d1, d2, d3] => { results := [.lit (.bool false)], args := [d1, d2, d3] }
  | _ => none }
def KeepEvenWrongFalsely : Prop := keepEvenRow.holds Try.pinned (OpenSpec.ofChange keepEvenWrong)

/-- 'hindsightlaw22.KeepBefore': WHATEVER THE INPUT: true; the input reads as it did. -/
def keepBeforeSpec : ChangeSpec := { name := "keepBefore", fn := fun _ => fun
  | [d1, d2, d3, d4] => { results := [.lit (.bool true)], args := [d1, d2, d3, d4] }
  | _ => none }
def keepBeforeRow : OpenClaim := { program := "ytahkbdmoodjnbaa", sum := "2e4579ae7729cf76622672f1e37a1ce8d94a3156369f212193b260801e9a0d17", func := "hindsight/hindsightlaw22.KeepBefore", spec := "keepBefore", apart := false }
def KeepBeforeSaid : Prop := keepBeforeRow.holds Try.pinned (OpenSpec.ofChange keepBeforeSpec)

/-- ITS FALSE NEIGHBOUR: 'it returns false'. Refute it at one input. -/
def keepBeforeWrong : ChangeSpec := { name := "keepBefore", fn := fun _ => fun
  | [d1, d2, d3, d4] => { results := [.lit (.bool false)], args := [d1, d2, d3, d4] }
  | _ => none }
def KeepBeforeWrongFalsely : Prop := keepBeforeRow.holds Try.pinned (OpenSpec.ofChange keepBeforeWrong)

/- THE SECOND FORM. 'bulk': how many values and letters a reading holds, each counted each time it is reached (what is shared counts as often as it is met; a slice's spare places count too). A statement '..UptoSaid' is the law's where the arguments, and the package variables that the reading takes, are together of bulk at most 1048576: NARROWER than '..Said'. Prove '..Said' where nothing that the law and all that it calls make is longer than what came in: it says more and counts as full. Else prove '..UptoSaid'. A law counts once. -/
mutual
def uptoBulk {H : Type} : DataW H → Nat
  | .lit (.string bytes) => bytes.length + 1
  | .lit _ => 1
  | .nil => 1
  | .ptr d => uptoBulk d + 1
  | .slice elems spare => uptoBulkAll elems + uptoBulkAll spare + 1
  | .agg parts => uptoBulkAll parts + 1
  | .iface _ d => uptoBulk d + 1
  | .map entries => uptoBulkEntries entries + 1
  | .held _ => 1
def uptoBulkAll {H : Type} : List (DataW H) → Nat
  | [] => 0
  | d :: r => uptoBulk d + uptoBulkAll r
def uptoBulkEntries {H : Type} : List (Lit × DataW H) → Nat
  | [] => 0
  | x :: r => uptoBulkEntry x + uptoBulkEntries r
def uptoBulkEntry {H : Type} : Lit × DataW H → Nat
  | (.string bytes, d) => bytes.length + uptoBulk d + 1
  | (_, d) => uptoBulk d + 1
 end
def uptoSmall : (H : Type) → List (DataW H) → Bool := fun _ ds => decide (uptoBulkAll ds ≤ 1048576)
def OpenSpec.upto (s : _root_.Go.ChangeSpec) : _root_.Go.OpenSpec := { _root_.Go.OpenSpec.ofChange s with cond := some uptoSmall }

/-- 'hindsightlaw11.WordOrder', WHERE WHAT IT READS IS OF BULK AT MOST 1048576: true; the input reads as it did. -/
def wordOrderUptoRow : OpenClaim := { program := "ytahkbdmoodjnbaa", sum := "2e4579ae7729cf76622672f1e37a1ce8d94a3156369f212193b260801e9a0d17", func := "hindsight/hindsightlaw11.WordOrder", spec := "wordOrder", apart := false, narrowed := true }
def WordOrderUptoSaid : Prop := wordOrderUptoRow.holds Try.pinned (OpenSpec.upto wordOrderSpec)

/-- 'hindsightlaw11.WordSays', WHERE WHAT IT READS IS OF BULK AT MOST 1048576: true; the input reads as it did. -/
def wordSaysUptoRow : OpenClaim := { program := "ytahkbdmoodjnbaa", sum := "2e4579ae7729cf76622672f1e37a1ce8d94a3156369f212193b260801e9a0d17", func := "hindsight/hindsightlaw11.WordSays", spec := "wordSays", apart := false, narrowed := true }
def WordSaysUptoSaid : Prop := wordSaysUptoRow.holds Try.pinned (OpenSpec.upto wordSaysSpec)

/-- 'hindsightlaw11.WordBack', WHERE WHAT IT READS IS OF BULK AT MOST 1048576: true; the input reads as it did. -/
def wordBackUptoRow : OpenClaim := { program := "ytahkbdmoodjnbaa", sum := "2e4579ae7729cf76622672f1e37a1ce8d94a3156369f212193b260801e9a0d17", func := "hindsight/hindsightlaw11.WordBack", spec := "wordBack", apart := false, narrowed := true }
def WordBackUptoSaid : Prop := wordBackUptoRow.holds Try.pinned (OpenSpec.upto wordBackSpec)

/-- 'hindsightlaw22.KeepPlays', WHERE WHAT IT READS IS OF BULK AT MOST 1048576: true; the input reads as it did. -/
def keepPlaysUptoRow : OpenClaim := { program := "ytahkbdmoodjnbaa", sum := "2e4579ae7729cf76622672f1e37a1ce8d94a3156369f212193b260801e9a0d17", func := "hindsight/hindsightlaw22.KeepPlays", spec := "keepPlays", apart := false, narrowed := true }
def KeepPlaysUptoSaid : Prop := keepPlaysUptoRow.holds Try.pinned (OpenSpec.upto keepPlaysSpec)

/-- 'hindsightlaw22.KeepEven', WHERE WHAT IT READS IS OF BULK AT MOST 1048576: true; the input reads as it did. -/
def keepEvenUptoRow : OpenClaim := { program := "ytahkbdmoodjnbaa", sum := "2e4579ae7729cf76622672f1e37a1ce8d94a3156369f212193b260801e9a0d17", func := "hindsight/hindsightlaw22.KeepEven", spec := "keepEven", apart := false, narrowed := true }
def KeepEvenUptoSaid : Prop := keepEvenUptoRow.holds Try.pinned (OpenSpec.upto keepEvenSpec)

/-- 'hindsightlaw22.KeepBefore', WHERE WHAT IT READS IS OF BULK AT MOST 1048576: true; the input reads as it did. -/
def keepBeforeUptoRow : OpenClaim := { program := "ytahkbdmoodjnbaa", sum := "2e4579ae7729cf76622672f1e37a1ce8d94a3156369f212193b260801e9a0d17", func := "hindsight/hindsightlaw22.KeepBefore", spec := "keepBefore", apart := false, narrowed := true }
def KeepBeforeUptoSaid : Prop := keepBeforeUptoRow.holds Try.pinned (OpenSpec.upto keepBeforeSpec)

end Rows
end Go.Proofs.Ytahkbdmoodjnbaa
