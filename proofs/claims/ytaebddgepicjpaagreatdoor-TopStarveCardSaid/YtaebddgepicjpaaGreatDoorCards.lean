/-
  DERIVED. GIVEN WITH THE SEED: THE CARDS: each row of YtaebddgepicjpaaGreatDoorRows.lean that lists a variable, with what it lists TIED to the program's text (the seventh form; the later family's looks); each row that meets fmt, with fmt's text TOLD by the authors' own Lean function (tested against real Go, not proved from fmt's source: count such statements apart). THE CARD IS WHAT COUNTS. Prove the row's statement (the work); the ties are given (YtaebddgepicjpaaGreatDoorTie.lean); close each card by the builder's one call (the guide's Derived/Test/ToyasCard.lean, 'card_holds'). Laid BY PROGRAM, IN A SANDBOX (cutbox-door.mjs). By AI agents, Wed Nov 11 2026. No macro, syntax, notation, axiom, sorry.
-/
import Derived.Test.YtaebddgepicjpaaGreatDoorRows
import GoSem.ClaimSeven
namespace Go.Proofs.YtaebddgepicjpaaGreatDoor
namespace Rows

/-- THE TIED CARD OF 'hindsighttop.TopStarve'. -/
def topStarveCard : Claim7 := { stood := { row := topStarveRow, standIns := [], harness := (true, "215ad7fbc31938a34d80a44e979f3d4009a6eb9d1b350abe5d6db59b533a928a"), looks := false }, kinds := [], alts := [], laidByText := true, laidKinds := [.data, .data, .data, .data, .data, .pinned, .pinned, .pinned], laidTests := true, laidLooks := .later }
def TopStarveCardSaid : Prop := Claim7.holds Tryz.pinned (.plain (OpenSpec.ofChange topStarveSpec)) topStarveCard

/-- THE SECOND FORM's CARD OF 'hindsighttop.TopStarve'. -/
def topStarveUptoCard : Claim7 := { stood := { row := topStarveUptoRow, standIns := [], harness := (true, "215ad7fbc31938a34d80a44e979f3d4009a6eb9d1b350abe5d6db59b533a928a"), looks := false }, kinds := [], alts := [], laidByText := true, laidKinds := [.data, .data, .data, .data, .data, .pinned, .pinned, .pinned], laidTests := true, laidLooks := .later }
def TopStarveUptoCardSaid : Prop := Claim7.holds Tryz.pinned (.plain (OpenSpec.upto topStarveSpec)) topStarveUptoCard
end Rows
end Go.Proofs.YtaebddgepicjpaaGreatDoor
