/-
  DERIVED. GIVEN WITH THE SEED: THE CARDS: each row of YtklneemgjlgelaaDoorRows.lean that lists a variable, with what it lists TIED to the program's text (the seventh form; the later family's looks); each row that meets fmt, with fmt's text TOLD by the authors' own Lean function (tested against real Go, not proved from fmt's source: count such statements apart). THE CARD IS WHAT COUNTS. Prove the row's statement (the work); the ties are given (YtklneemgjlgelaaDoorTie.lean); close each card by the builder's one call (the guide's Derived/Test/ToyasCard.lean, 'card_holds'). Laid BY PROGRAM, IN A SANDBOX (cutbox-door.mjs). By AI agents, Wed Nov 11 2026. No macro, syntax, notation, axiom, sorry.
-/
import Derived.Test.YtklneemgjlgelaaDoorRows
import GoSem.ClaimSeven
namespace Go.Proofs.YtklneemgjlgelaaDoor
namespace Rows

/-- THE TIED CARD OF 'hindsightlaw9.ValFinds'. -/
def valFindsCard : Claim7 := { stood := { row := valFindsRow, standIns := [], harness := (true, "d65d638b0a7654bb2e5172dcaadb4f5573906a569941e7cb0006db0700b2b499"), looks := false }, kinds := [], alts := [], laidByText := true, laidKinds := [.data, .data, .data], laidTests := true, laidLooks := .later }
def ValFindsCardSaid : Prop := Claim7.holds Tryd.pinned (.plain (OpenSpec.ofChange valFindsSpec)) valFindsCard

/-- THE SECOND FORM's CARD OF 'hindsightlaw9.ValFinds'. -/
def valFindsUptoCard : Claim7 := { stood := { row := valFindsUptoRow, standIns := [], harness := (true, "d65d638b0a7654bb2e5172dcaadb4f5573906a569941e7cb0006db0700b2b499"), looks := false }, kinds := [], alts := [], laidByText := true, laidKinds := [.data, .data, .data], laidTests := true, laidLooks := .later }
def ValFindsUptoCardSaid : Prop := Claim7.holds Tryd.pinned (.plain (OpenSpec.upto valFindsSpec)) valFindsUptoCard
end Rows
end Go.Proofs.YtklneemgjlgelaaDoor
