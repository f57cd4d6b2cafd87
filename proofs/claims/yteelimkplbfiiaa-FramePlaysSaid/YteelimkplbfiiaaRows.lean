/-
  No cell of these rows narrows 'for every input' (looked for: loops, veiled, ifaces, maps, wideKeys, modest, calm, conditions, laid).
  DERIVED. THE GIVEN ROWS OF THIS SEAT. 4 by the template 'for every input the law returns true; each argument reads behind the call as it read before'; 0 by the template 'total and deterministic' (their statements: YteelimkplbfiiaaTotals.lean).
  GIVEN WITH THE SEED: the statements are not yours to turn. If you find one false, say at which input.
  Laid BY PROGRAM, IN A SANDBOX (cutbox-rows.mjs): the forced cells as the released guide's own fill.sh prints them over the translation 6355686cc654771e… (all of the seat's roots in one cut). By AI agents, Wed Nov 11 2026. No macro, syntax, notation, axiom, sorry.
-/
import Derived.Test.YteelimkplbfiiaaChecked
import GoSem.Claim
import GoSem.ClaimJoined
import GoSem.ClaimMapViews
import Derived.JoinedTies
import Derived.KernelRfl
namespace Go.Proofs.Yteelimkplbfiiaa
/- THE CELL 'sum', in the pinned program and in every row, IS THE sha256 OF THE DUMP (.gsa) THAT YteelimkplbfiiaaProg.lean LOADS. Nothing in Lean hashes anything: it is a label: what it is worth is what the hold of that sum in a sandbox is worth. -/
noncomputable def Try.pinned : Pinned := { name := "yteelimkplbfiiaa", sum := "6355686cc654771ee79f61cb84ca278eac9e45d6a07427c8550c367efc9a7be0", checked := Try.checked }
namespace Rows
def none {H : Type} : Left H := { results := [], args := [] }

/-- 'hindsightlaw17.FrameNests': WHATEVER THE INPUT: true; the input reads as it did. -/
def frameNestsSpec : ChangeSpec := { name := "frameNests", fn := fun _ => fun
  | [d1, d2] => { results := [.lit (.bool true)], args := [d1, d2] }
  | _ => none }
def frameNestsRow : OpenClaim := { program := "yteelimkplbfiiaa", sum := "6355686cc654771ee79f61cb84ca278eac9e45d6a07427c8550c367efc9a7be0", func := "hindsight/hindsightlaw17.FrameNests", spec := "frameNests", apart := false }
def FrameNestsSaid : Prop := frameNestsRow.holds Try.pinned (OpenSpec.ofChange frameNestsSpec)

/-- ITS FALSE NEIGHBOUR: 'it returns false'. Refute it at one input. -/
def frameNestsWrong : ChangeSpec := { name := "frameNests", fn := fun _ => fun
  | [d1, d2] => { results := [.lit (.bool false)], args := [d1, d2] }
  | _ => none }
def FrameNestsWrongFalsely : Prop := frameNestsRow.holds Try.pinned (OpenSpec.ofChange frameNestsWrong)

/-- 'hindsightlaw17.FrameRoots': WHATEVER THE INPUT: true; the input reads as it did. -/
def frameRootsSpec : ChangeSpec := { name := "frameRoots", fn := fun _ => fun
  | [d1, d2] => { results := [.lit (.bool true)], args := [d1, d2] }
  | _ => none }
def frameRootsRow : OpenClaim := { program := "yteelimkplbfiiaa", sum := "6355686cc654771ee79f61cb84ca278eac9e45d6a07427c8550c367efc9a7be0", func := "hindsight/hindsightlaw17.FrameRoots", spec := "frameRoots", apart := false }
def FrameRootsSaid : Prop := frameRootsRow.holds Try.pinned (OpenSpec.ofChange frameRootsSpec)

/-- ITS FALSE NEIGHBOUR: 'it returns false'. Refute it at one input. -/
def frameRootsWrong : ChangeSpec := { name := "frameRoots", fn := fun _ => fun
  | [d1, d2] => { results := [.lit (.bool false)], args := [d1, d2] }
  | _ => none }
def FrameRootsWrongFalsely : Prop := frameRootsRow.holds Try.pinned (OpenSpec.ofChange frameRootsWrong)

/-- 'hindsightlaw17.FrameKnown': WHATEVER THE INPUT: true; the input reads as it did. -/
def frameKnownSpec : ChangeSpec := { name := "frameKnown", fn := fun _ => fun
  | [] => { results := [.lit (.bool true)], args := [] }
  | _ => none }
def frameKnownRow : OpenClaim := { program := "yteelimkplbfiiaa", sum := "6355686cc654771ee79f61cb84ca278eac9e45d6a07427c8550c367efc9a7be0", func := "hindsight/hindsightlaw17.FrameKnown", spec := "frameKnown", unfollowed := true, recurses := true, apart := false }
def FrameKnownSaid : Prop := frameKnownRow.holds Try.pinned (OpenSpec.ofChange frameKnownSpec)

/-- ITS FALSE NEIGHBOUR: 'it returns false'. Refute it at one input. -/
def frameKnownWrong : ChangeSpec := { name := "frameKnown", fn := fun _ => fun
  | [] => { results := [.lit (.bool false)], args := [] }
  | _ => none }
def FrameKnownWrongFalsely : Prop := frameKnownRow.holds Try.pinned (OpenSpec.ofChange frameKnownWrong)

/-- 'hindsightlaw17.FramePlays': WHATEVER THE INPUT: true; the input reads as it did. -/
def framePlaysSpec : ChangeSpec := { name := "framePlays", fn := fun _ => fun
  | [d1, d2, d3] => { results := [.lit (.bool true)], args := [d1, d2, d3] }
  | _ => none }
def framePlaysRow : OpenClaim := { program := "yteelimkplbfiiaa", sum := "6355686cc654771ee79f61cb84ca278eac9e45d6a07427c8550c367efc9a7be0", func := "hindsight/hindsightlaw17.FramePlays", spec := "framePlays", unfollowed := true, recurses := true, apart := false }
def FramePlaysSaid : Prop := framePlaysRow.holds Try.pinned (OpenSpec.ofChange framePlaysSpec)

/-- ITS FALSE NEIGHBOUR: 'it returns false'. Refute it at one input. -/
def framePlaysWrong : ChangeSpec := { name := "framePlays", fn := fun _ => fun
  | [d1, d2, d3] => { results := [.lit (.bool false)], args := [d1, d2, d3] }
  | _ => none }
def FramePlaysWrongFalsely : Prop := framePlaysRow.holds Try.pinned (OpenSpec.ofChange framePlaysWrong)

/- THE SECOND FORM. 'bulk': how many values and letters a reading holds, each counted each time it is reached (what is shared counts as often as it is met; a slice's spare places count too). A statement '..UptoSaid' is the law's where the arguments, and the package variables that the reading takes, are together of bulk at most 1048576: NARROWER than '..Said'. Prove '..Said' where nothing that the law and all that it calls make is longer than what came in: it says more and counts as full. Else prove '..UptoSaid'. A law counts once. -/
mutual
def uptoBulk {H : Type} : DataW H → Nat
  | .lit (.string bytes) => bytes.length + 1
  | .lit _ => 1
  | .nil => 1
  | .ptr d => uptoBulk d + 1
  | .slice elems spare => uptoBulkAll elems + uptoBulkAll spare + 1
  | .agg parts => uptoBulkAll parts + 1
  | .iface _ d => uptoBulk d + 1
  | .map entries => uptoBulkEntries entries + 1
  | .held _ => 1
def uptoBulkAll {H : Type} : List (DataW H) → Nat
  | [] => 0
  | d :: r => uptoBulk d + uptoBulkAll r
def uptoBulkEntries {H : Type} : List (Lit × DataW H) → Nat
  | [] => 0
  | x :: r => uptoBulkEntry x + uptoBulkEntries r
def uptoBulkEntry {H : Type} : Lit × DataW H → Nat
  | (.string bytes, d) => bytes.length + uptoBulk d + 1
  | (_, d) => uptoBulk d + 1
 end
def uptoSmall : (H : Type) → List (DataW H) → Bool := fun _ ds => decide (uptoBulkAll ds ≤ 1048576)
def OpenSpec.upto (s : _root_.Go.ChangeSpec) : _root_.Go.OpenSpec := { _root_.Go.OpenSpec.ofChange s with cond := some uptoSmall }

/-- 'hindsightlaw17.FrameNests', WHERE WHAT IT READS IS OF BULK AT MOST 1048576: true; the input reads as it did. -/
def frameNestsUptoRow : OpenClaim := { program := "yteelimkplbfiiaa", sum := "6355686cc654771ee79f61cb84ca278eac9e45d6a07427c8550c367efc9a7be0", func := "hindsight/hindsightlaw17.FrameNests", spec := "frameNests", apart := false, narrowed := true }
def FrameNestsUptoSaid : Prop := frameNestsUptoRow.holds Try.pinned (OpenSpec.upto frameNestsSpec)

/-- 'hindsightlaw17.FrameRoots', WHERE WHAT IT READS IS OF BULK AT MOST 1048576: true; the input reads as it did. -/
def frameRootsUptoRow : OpenClaim := { program := "yteelimkplbfiiaa", sum := "6355686cc654771ee79f61cb84ca278eac9e45d6a07427c8550c367efc9a7be0", func := "hindsight/hindsightlaw17.FrameRoots", spec := "frameRoots", apart := false, narrowed := true }
def FrameRootsUptoSaid : Prop := frameRootsUptoRow.holds Try.pinned (OpenSpec.upto frameRootsSpec)

/-- 'hindsightlaw17.FrameKnown', WHERE WHAT IT READS IS OF BULK AT MOST 1048576: true; the input reads as it did. -/
def frameKnownUptoRow : OpenClaim := { program := "yteelimkplbfiiaa", sum := "6355686cc654771ee79f61cb84ca278eac9e45d6a07427c8550c367efc9a7be0", func := "hindsight/hindsightlaw17.FrameKnown", spec := "frameKnown", unfollowed := true, recurses := true, apart := false, narrowed := true }
def FrameKnownUptoSaid : Prop := frameKnownUptoRow.holds Try.pinned (OpenSpec.upto frameKnownSpec)

/-- 'hindsightlaw17.FramePlays', WHERE WHAT IT READS IS OF BULK AT MOST 1048576: true; the input reads as it did. -/
def framePlaysUptoRow : OpenClaim := { program := "yteelimkplbfiiaa", sum := "6355686cc654771ee79f61cb84ca278eac9e45d6a07427c8550c367efc9a7be0", func := "hindsight/hindsightlaw17.FramePlays", spec := "framePlays", unfollowed := true, recurses := true, apart := false, narrowed := true }
def FramePlaysUptoSaid : Prop := framePlaysUptoRow.holds Try.pinned (OpenSpec.upto framePlaysSpec)

end Rows
end Go.Proofs.Yteelimkplbfiiaa
