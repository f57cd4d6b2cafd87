/-
  DERIVED. GIVEN WITH THE SEED: THE CARDS: each row of YtkcbenbhccollaaDoorRows.lean that lists a variable, with what it lists TIED to the program's text (the seventh form; the later family's looks); each row that meets fmt, with fmt's text TOLD by the authors' own Lean function (tested against real Go, not proved from fmt's source: count such statements apart). THE CARD IS WHAT COUNTS. Prove the row's statement (the work); the ties are given (YtkcbenbhccollaaDoorTie.lean); close each card by the builder's one call (the guide's Derived/Test/ToyasCard.lean, 'card_holds'). Laid BY PROGRAM, IN A SANDBOX (cutbox-door.mjs). By AI agents, Wed Nov 11 2026. No macro, syntax, notation, axiom, sorry.
-/
import Derived.Test.YtkcbenbhccollaaDoorRows
import GoSem.ClaimSeven
namespace Go.Proofs.YtkcbenbhccollaaDoor
namespace Rows

/-- THE TIED CARD OF 'hindsightlaw9.ValOps'. -/
def valOpsCard : Claim7 := { stood := { row := valOpsRow, standIns := [], harness := (true, "0c3d633b3802eedd770b56b4accae85a4590e9efaf8d6764f213de1bf1d52056"), looks := false }, kinds := [], alts := [], laidByText := true, laidKinds := [.data, .data, .data], laidTests := true, laidLooks := .later }
def ValOpsCardSaid : Prop := Claim7.holds Tryd.pinned (.plain (OpenSpec.ofChange valOpsSpec)) valOpsCard

/-- THE TIED CARD OF 'hindsightlaw9.ValRing'. -/
def valRingCard : Claim7 := { stood := { row := valRingRow, standIns := [], harness := (true, "0c3d633b3802eedd770b56b4accae85a4590e9efaf8d6764f213de1bf1d52056"), looks := false }, kinds := [], alts := [], laidByText := true, laidKinds := [.data, .data, .data], laidTests := true, laidLooks := .later }
def ValRingCardSaid : Prop := Claim7.holds Tryd.pinned (.plain (OpenSpec.ofChange valRingSpec)) valRingCard

/-- THE SECOND FORM's CARD OF 'hindsightlaw9.ValOps'. -/
def valOpsUptoCard : Claim7 := { stood := { row := valOpsUptoRow, standIns := [], harness := (true, "0c3d633b3802eedd770b56b4accae85a4590e9efaf8d6764f213de1bf1d52056"), looks := false }, kinds := [], alts := [], laidByText := true, laidKinds := [.data, .data, .data], laidTests := true, laidLooks := .later }
def ValOpsUptoCardSaid : Prop := Claim7.holds Tryd.pinned (.plain (OpenSpec.upto valOpsSpec)) valOpsUptoCard

/-- THE SECOND FORM's CARD OF 'hindsightlaw9.ValRing'. -/
def valRingUptoCard : Claim7 := { stood := { row := valRingUptoRow, standIns := [], harness := (true, "0c3d633b3802eedd770b56b4accae85a4590e9efaf8d6764f213de1bf1d52056"), looks := false }, kinds := [], alts := [], laidByText := true, laidKinds := [.data, .data, .data], laidTests := true, laidLooks := .later }
def ValRingUptoCardSaid : Prop := Claim7.holds Tryd.pinned (.plain (OpenSpec.upto valRingSpec)) valRingUptoCard
end Rows
end Go.Proofs.YtkcbenbhccollaaDoor
