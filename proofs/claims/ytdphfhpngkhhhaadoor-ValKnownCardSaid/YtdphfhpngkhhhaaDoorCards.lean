/-
  DERIVED. GIVEN WITH THE SEED: THE CARDS: each row of YtdphfhpngkhhhaaDoorRows.lean that lists a variable, with what it lists TIED to the program's text (the seventh form; the later family's looks); each row that meets fmt, with fmt's text TOLD by the authors' own Lean function (tested against real Go, not proved from fmt's source: count such statements apart). THE CARD IS WHAT COUNTS. Prove the row's statement (the work); the ties are given (YtdphfhpngkhhhaaDoorTie.lean); close each card by the builder's one call (the guide's Derived/Test/ToyasCard.lean, 'card_holds'). Laid BY PROGRAM, IN A SANDBOX (cutbox-door.mjs). By AI agents, Wed Nov 11 2026. No macro, syntax, notation, axiom, sorry.
-/
import Derived.Test.YtdphfhpngkhhhaaDoorRows
import GoSem.ClaimSeven
namespace Go.Proofs.YtdphfhpngkhhhaaDoor
namespace Rows

/-- THE TIED CARD OF 'hindsightlaw9.ValKnown'. -/
def valKnownCard : Claim7 := { stood := { row := valKnownRow, standIns := [], harness := (true, "c18c0e94782ffc14a6694693f69f1f7e0ea80217edd36767b223570d71e3549c"), looks := false }, kinds := [], alts := [], laidByText := true, laidKinds := [.data, .data, .data], laidTests := true, laidLooks := .later }
def ValKnownCardSaid : Prop := Claim7.holds Tryd.pinned (.plain (OpenSpec.ofChange valKnownSpec)) valKnownCard

/-- THE SECOND FORM's CARD OF 'hindsightlaw9.ValKnown'. -/
def valKnownUptoCard : Claim7 := { stood := { row := valKnownUptoRow, standIns := [], harness := (true, "c18c0e94782ffc14a6694693f69f1f7e0ea80217edd36767b223570d71e3549c"), looks := false }, kinds := [], alts := [], laidByText := true, laidKinds := [.data, .data, .data], laidTests := true, laidLooks := .later }
def ValKnownUptoCardSaid : Prop := Claim7.holds Tryd.pinned (.plain (OpenSpec.upto valKnownSpec)) valKnownUptoCard
end Rows
end Go.Proofs.YtdphfhpngkhhhaaDoor
