/-
  No cell of these rows narrows 'for every input' (looked for: loops, veiled, ifaces, maps, wideKeys, modest, calm, conditions, laid).
  DERIVED. THE GIVEN ROWS OF THIS SEAT. 6 by the template 'for every input the law returns true; each argument reads behind the call as it read before'; 0 by the template 'total and deterministic' (their statements: YtndkndlfhmkkkaaTotals.lean).
  GIVEN WITH THE SEED: the statements are not yours to turn. If you find one false, say at which input.
  Laid BY PROGRAM, IN A SANDBOX (cutbox-rows.mjs): the forced cells as the released guide's own fill.sh prints them over the translation 87bbe5bc00ed5844… (all of the seat's roots in one cut). By AI agents, Wed Nov 11 2026. No macro, syntax, notation, axiom, sorry.
-/
import Derived.Test.YtndkndlfhmkkkaaChecked
import GoSem.Claim
import GoSem.ClaimJoined
import GoSem.ClaimMapViews
import Derived.JoinedTies
import Derived.KernelRfl
namespace Go.Proofs.Ytndkndlfhmkkkaa
/- THE CELL 'sum', in the pinned program and in every row, IS THE sha256 OF THE DUMP (.gsa) THAT YtndkndlfhmkkkaaProg.lean LOADS. Nothing in Lean hashes anything: it is a label: what it is worth is what the hold of that sum in a sandbox is worth. -/
noncomputable def Try.pinned : Pinned := { name := "ytndkndlfhmkkkaa", sum := "87bbe5bc00ed5844b26c822531ee5e3972a58c5282fb074da572a6c0b8e41814", checked := Try.checked }
namespace Rows
def none {H : Type} : Left H := { results := [], args := [] }

/-- 'hindsightlaw12.HeapRoom': WHATEVER THE INPUT: true; the input reads as it did. -/
def heapRoomSpec : ChangeSpec := { name := "heapRoom", fn := fun _ => fun
  | [d1, d2] => { results := [.lit (.bool true)], args := [d1, d2] }
  | _ => none }
def heapRoomRow : OpenClaim := { program := "ytndkndlfhmkkkaa", sum := "87bbe5bc00ed5844b26c822531ee5e3972a58c5282fb074da572a6c0b8e41814", func := "hindsight/hindsightlaw12.HeapRoom", spec := "heapRoom", unfollowed := true, recurses := true, apart := false }
def HeapRoomSaid : Prop := heapRoomRow.holds Try.pinned (OpenSpec.ofChange heapRoomSpec)

/-- ITS FALSE NEIGHBOUR: 'it returns false'. Refute it at one input. -/
def heapRoomWrong : ChangeSpec := { name := "heapRoom", fn := fun _ => fun
  | [d1, d2] => { results := [.lit (.bool false)], args := [d1, d2] }
  | _ => none }
def HeapRoomWrongFalsely : Prop := heapRoomRow.holds Try.pinned (OpenSpec.ofChange heapRoomWrong)

/-- 'hindsightlaw12.HeapPlays': WHATEVER THE INPUT: true; the input reads as it did. -/
def heapPlaysSpec : ChangeSpec := { name := "heapPlays", fn := fun _ => fun
  | [d1, d2, d3, d4] => { results := [.lit (.bool true)], args := [d1, d2, d3, d4] }
  | _ => none }
def heapPlaysRow : OpenClaim := { program := "ytndkndlfhmkkkaa", sum := "87bbe5bc00ed5844b26c822531ee5e3972a58c5282fb074da572a6c0b8e41814", func := "hindsight/hindsightlaw12.HeapPlays", spec := "heapPlays", unfollowed := true, recurses := true, apart := false }
def HeapPlaysSaid : Prop := heapPlaysRow.holds Try.pinned (OpenSpec.ofChange heapPlaysSpec)

/-- ITS FALSE NEIGHBOUR: 'it returns false'. Refute it at one input. -/
def heapPlaysWrong : ChangeSpec := { name := "heapPlays", fn := fun _ => fun
  | [d1, d2, d3, d4] => { results := [.lit (.bool false)], args := [d1, d2, d3, d4] }
  | _ => none }
def HeapPlaysWrongFalsely : Prop := heapPlaysRow.holds Try.pinned (OpenSpec.ofChange heapPlaysWrong)

/-- 'hindsightlaw12.HeapBytes': WHATEVER THE INPUT: true; the input reads as it did. -/
def heapBytesSpec : ChangeSpec := { name := "heapBytes", fn := fun _ => fun
  | [d1, d2, d3] => { results := [.lit (.bool true)], args := [d1, d2, d3] }
  | _ => none }
def heapBytesRow : OpenClaim := { program := "ytndkndlfhmkkkaa", sum := "87bbe5bc00ed5844b26c822531ee5e3972a58c5282fb074da572a6c0b8e41814", func := "hindsight/hindsightlaw12.HeapBytes", spec := "heapBytes", unfollowed := true, recurses := true, apart := false }
def HeapBytesSaid : Prop := heapBytesRow.holds Try.pinned (OpenSpec.ofChange heapBytesSpec)

/-- ITS FALSE NEIGHBOUR: 'it returns false'. Refute it at one input. -/
def heapBytesWrong : ChangeSpec := { name := "heapBytes", fn := fun _ => fun
  | [d1, d2, d3] => { results := [.lit (.bool false)], args := [d1, d2, d3] }
  | _ => none }
def HeapBytesWrongFalsely : Prop := heapBytesRow.holds Try.pinned (OpenSpec.ofChange heapBytesWrong)

/-- 'hindsightlaw12.HeapOwn': WHATEVER THE INPUT: true; the input reads as it did. -/
def heapOwnSpec : ChangeSpec := { name := "heapOwn", fn := fun _ => fun
  | [d] => { results := [.lit (.bool true)], args := [d] }
  | _ => none }
def heapOwnRow : OpenClaim := { program := "ytndkndlfhmkkkaa", sum := "87bbe5bc00ed5844b26c822531ee5e3972a58c5282fb074da572a6c0b8e41814", func := "hindsight/hindsightlaw12.HeapOwn", spec := "heapOwn", unfollowed := true, recurses := true, apart := false }
def HeapOwnSaid : Prop := heapOwnRow.holds Try.pinned (OpenSpec.ofChange heapOwnSpec)

/-- ITS FALSE NEIGHBOUR: 'it returns false'. Refute it at one input. -/
def heapOwnWrong : ChangeSpec := { name := "heapOwn", fn := fun _ => fun
  | [d] => { results := [.lit (.bool false)], args := [d] }
  | _ => none }
def HeapOwnWrongFalsely : Prop := heapOwnRow.holds Try.pinned (OpenSpec.ofChange heapOwnWrong)

/-- 'hindsightlaw12.HeapLive': WHATEVER THE INPUT: true; the input reads as it did. -/
def heapLiveSpec : ChangeSpec := { name := "heapLive", fn := fun _ => fun
  | [d1, d2] => { results := [.lit (.bool true)], args := [d1, d2] }
  | _ => none }
def heapLiveRow : OpenClaim := { program := "ytndkndlfhmkkkaa", sum := "87bbe5bc00ed5844b26c822531ee5e3972a58c5282fb074da572a6c0b8e41814", func := "hindsight/hindsightlaw12.HeapLive", spec := "heapLive", unfollowed := true, recurses := true, apart := false }
def HeapLiveSaid : Prop := heapLiveRow.holds Try.pinned (OpenSpec.ofChange heapLiveSpec)

/-- ITS FALSE NEIGHBOUR: 'it returns false'. Refute it at one input. -/
def heapLiveWrong : ChangeSpec := { name := "heapLive", fn := fun _ => fun
  | [d1, d2] => { results := [.lit (.bool false)], args := [d1, d2] }
  | _ => none }
def HeapLiveWrongFalsely : Prop := heapLiveRow.holds Try.pinned (OpenSpec.ofChange heapLiveWrong)

/-- 'hindsightlaw12.HeapKnown': WHATEVER THE INPUT: true; the input reads as it did. -/
def heapKnownSpec : ChangeSpec := { name := "heapKnown", fn := fun _ => fun
  | [] => { results := [.lit (.bool true)], args := [] }
  | _ => none }
def heapKnownRow : OpenClaim := { program := "ytndkndlfhmkkkaa", sum := "87bbe5bc00ed5844b26c822531ee5e3972a58c5282fb074da572a6c0b8e41814", func := "hindsight/hindsightlaw12.HeapKnown", spec := "heapKnown", unfollowed := true, recurses := true, apart := false }
def HeapKnownSaid : Prop := heapKnownRow.holds Try.pinned (OpenSpec.ofChange heapKnownSpec)

/-- ITS FALSE NEIGHBOUR: 'it returns false'. Refute it at one input. -/
def heapKnownWrong : ChangeSpec := { name := "heapKnown", fn := fun _ => fun
  | [] => { results := [.lit (.bool false)], args := [] }
  | _ => none }
def HeapKnownWrongFalsely : Prop := heapKnownRow.holds Try.pinned (OpenSpec.ofChange heapKnownWrong)

/- THE SECOND FORM. 'bulk': how many values and letters a reading holds, each counted each time it is reached (what is shared counts as often as it is met; a slice's spare places count too). A statement '..UptoSaid' is the law's where the arguments, and the package variables that the reading takes, are together of bulk at most 1048576: NARROWER than '..Said'. Prove '..Said' where nothing that the law and all that it calls make is longer than what came in: it says more and counts as full. Else prove '..UptoSaid'. A law counts once. -/
mutual
def uptoBulk {H : Type} : DataW H → Nat
  | .lit (.string bytes) => bytes.length + 1
  | .lit _ => 1
  | .nil => 1
  | .ptr d => uptoBulk d + 1
  | .slice elems spare => uptoBulkAll elems + uptoBulkAll spare + 1
  | .agg parts => uptoBulkAll parts + 1
  | .iface _ d => uptoBulk d + 1
  | .map entries => uptoBulkEntries entries + 1
  | .held _ => 1
def uptoBulkAll {H : Type} : List (DataW H) → Nat
  | [] => 0
  | d :: r => uptoBulk d + uptoBulkAll r
def uptoBulkEntries {H : Type} : List (Lit × DataW H) → Nat
  | [] => 0
  | x :: r => uptoBulkEntry x + uptoBulkEntries r
def uptoBulkEntry {H : Type} : Lit × DataW H → Nat
  | (.string bytes, d) => bytes.length + uptoBulk d + 1
  | (_, d) => uptoBulk d + 1
 end
def uptoSmall : (H : Type) → List (DataW H) → Bool := fun _ ds => decide (uptoBulkAll ds ≤ 1048576)
def OpenSpec.upto (s : _root_.Go.ChangeSpec) : _root_.Go.OpenSpec := { _root_.Go.OpenSpec.ofChange s with cond := some uptoSmall }

/-- 'hindsightlaw12.HeapRoom', WHERE WHAT IT READS IS OF BULK AT MOST 1048576: true; the input reads as it did. -/
def heapRoomUptoRow : OpenClaim := { program := "ytndkndlfhmkkkaa", sum := "87bbe5bc00ed5844b26c822531ee5e3972a58c5282fb074da572a6c0b8e41814", func := "hindsight/hindsightlaw12.HeapRoom", spec := "heapRoom", unfollowed := true, recurses := true, apart := false, narrowed := true }
def HeapRoomUptoSaid : Prop := heapRoomUptoRow.holds Try.pinned (OpenSpec.upto heapRoomSpec)

/-- 'hindsightlaw12.HeapPlays', WHERE WHAT IT READS IS OF BULK AT MOST 1048576: true; the input reads as it did. -/
def heapPlaysUptoRow : OpenClaim := { program := "ytndkndlfhmkkkaa", sum := "87bbe5bc00ed5844b26c822531ee5e3972a58c5282fb074da572a6c0b8e41814", func := "hindsight/hindsightlaw12.HeapPlays", spec := "heapPlays", unfollowed := true, recurses := true, apart := false, narrowed := true }
def HeapPlaysUptoSaid : Prop := heapPlaysUptoRow.holds Try.pinned (OpenSpec.upto heapPlaysSpec)

/-- 'hindsightlaw12.HeapBytes', WHERE WHAT IT READS IS OF BULK AT MOST 1048576: true; the input reads as it did. -/
def heapBytesUptoRow : OpenClaim := { program := "ytndkndlfhmkkkaa", sum := "87bbe5bc00ed5844b26c822531ee5e3972a58c5282fb074da572a6c0b8e41814", func := "hindsight/hindsightlaw12.HeapBytes", spec := "heapBytes", unfollowed := true, recurses := true, apart := false, narrowed := true }
def HeapBytesUptoSaid : Prop := heapBytesUptoRow.holds Try.pinned (OpenSpec.upto heapBytesSpec)

/-- 'hindsightlaw12.HeapOwn', WHERE WHAT IT READS IS OF BULK AT MOST 1048576: true; the input reads as it did. -/
def heapOwnUptoRow : OpenClaim := { program := "ytndkndlfhmkkkaa", sum := "87bbe5bc00ed5844b26c822531ee5e3972a58c5282fb074da572a6c0b8e41814", func := "hindsight/hindsightlaw12.HeapOwn", spec := "heapOwn", unfollowed := true, recurses := true, apart := false, narrowed := true }
def HeapOwnUptoSaid : Prop := heapOwnUptoRow.holds Try.pinned (OpenSpec.upto heapOwnSpec)

/-- 'hindsightlaw12.HeapLive', WHERE WHAT IT READS IS OF BULK AT MOST 1048576: true; the input reads as it did. -/
def heapLiveUptoRow : OpenClaim := { program := "ytndkndlfhmkkkaa", sum := "87bbe5bc00ed5844b26c822531ee5e3972a58c5282fb074da572a6c0b8e41814", func := "hindsight/hindsightlaw12.HeapLive", spec := "heapLive", unfollowed := true, recurses := true, apart := false, narrowed := true }
def HeapLiveUptoSaid : Prop := heapLiveUptoRow.holds Try.pinned (OpenSpec.upto heapLiveSpec)

/-- 'hindsightlaw12.HeapKnown', WHERE WHAT IT READS IS OF BULK AT MOST 1048576: true; the input reads as it did. -/
def heapKnownUptoRow : OpenClaim := { program := "ytndkndlfhmkkkaa", sum := "87bbe5bc00ed5844b26c822531ee5e3972a58c5282fb074da572a6c0b8e41814", func := "hindsight/hindsightlaw12.HeapKnown", spec := "heapKnown", unfollowed := true, recurses := true, apart := false, narrowed := true }
def HeapKnownUptoSaid : Prop := heapKnownUptoRow.holds Try.pinned (OpenSpec.upto heapKnownSpec)

end Rows
end Go.Proofs.Ytndkndlfhmkkkaa
