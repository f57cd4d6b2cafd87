/-
  DERIVED. GIVEN WITH THE SEED: THE CARDS: each row of YtlafmapnfbefiaaGreatDoorRows.lean that lists a variable, with what it lists TIED to the program's text (the seventh form; the later family's looks); each row that meets fmt, with fmt's text TOLD by the authors' own Lean function (tested against real Go, not proved from fmt's source: count such statements apart). THE CARD IS WHAT COUNTS. Prove the row's statement (the work); the ties are given (YtlafmapnfbefiaaGreatDoorTie.lean); close each card by the builder's one call (the guide's Derived/Test/ToyasCard.lean, 'card_holds'). Laid BY PROGRAM, IN A SANDBOX (cutbox-door.mjs). By AI agents, Wed Nov 11 2026. No macro, syntax, notation, axiom, sorry.
-/
import Derived.Test.YtlafmapnfbefiaaGreatDoorRows
import GoSem.ClaimSeven
namespace Go.Proofs.YtlafmapnfbefiaaGreatDoor
namespace Rows

/-- THE TIED CARD OF 'hindsightlaw8.CoverKnown'. -/
def coverKnownCard : Claim7 := { stood := { row := coverKnownRow, standIns := [], harness := (true, "7fb1b60d94d638c92a68ce19980a4f7b9eb4adfb05c5185bf7f58cedea3b61d8"), looks := false }, kinds := [], alts := [], laidByText := true, laidKinds := [.data, .data, .pinned, .pinned, .pinned], laidTests := true, laidLooks := .later }
def CoverKnownCardSaid : Prop := Claim7.holds Tryz.pinned (.plain (OpenSpec.ofChange coverKnownSpec)) coverKnownCard

/-- THE TIED CARD OF 'hindsightlaw10.SourceKnown'. -/
def sourceKnownCard : Claim7 := { stood := { row := sourceKnownRow, standIns := [], harness := (true, "7fb1b60d94d638c92a68ce19980a4f7b9eb4adfb05c5185bf7f58cedea3b61d8"), looks := false }, kinds := [], alts := [], laidByText := true, laidKinds := [.data, .data, .pinned, .pinned, .pinned], laidTests := true, laidLooks := .later }
def SourceKnownCardSaid : Prop := Claim7.holds Tryz.pinned (.plain (OpenSpec.ofChange sourceKnownSpec)) sourceKnownCard

/-- THE SECOND FORM's CARD OF 'hindsightlaw8.CoverKnown'. -/
def coverKnownUptoCard : Claim7 := { stood := { row := coverKnownUptoRow, standIns := [], harness := (true, "7fb1b60d94d638c92a68ce19980a4f7b9eb4adfb05c5185bf7f58cedea3b61d8"), looks := false }, kinds := [], alts := [], laidByText := true, laidKinds := [.data, .data, .pinned, .pinned, .pinned], laidTests := true, laidLooks := .later }
def CoverKnownUptoCardSaid : Prop := Claim7.holds Tryz.pinned (.plain (OpenSpec.upto coverKnownSpec)) coverKnownUptoCard

/-- THE SECOND FORM's CARD OF 'hindsightlaw10.SourceKnown'. -/
def sourceKnownUptoCard : Claim7 := { stood := { row := sourceKnownUptoRow, standIns := [], harness := (true, "7fb1b60d94d638c92a68ce19980a4f7b9eb4adfb05c5185bf7f58cedea3b61d8"), looks := false }, kinds := [], alts := [], laidByText := true, laidKinds := [.data, .data, .pinned, .pinned, .pinned], laidTests := true, laidLooks := .later }
def SourceKnownUptoCardSaid : Prop := Claim7.holds Tryz.pinned (.plain (OpenSpec.upto sourceKnownSpec)) sourceKnownUptoCard
end Rows
end Go.Proofs.YtlafmapnfbefiaaGreatDoor
