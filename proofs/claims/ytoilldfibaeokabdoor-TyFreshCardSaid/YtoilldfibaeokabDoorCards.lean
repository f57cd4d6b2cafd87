/-
  DERIVED. GIVEN WITH THE SEED: THE CARDS: each row of YtoilldfibaeokabDoorRows.lean that lists a variable, with what it lists TIED to the program's text (the seventh form; the later family's looks); each row that meets fmt, with fmt's text TOLD by the authors' own Lean function (tested against real Go, not proved from fmt's source: count such statements apart). THE CARD IS WHAT COUNTS. Prove the row's statement (the work); the ties are given (YtoilldfibaeokabDoorTie.lean); close each card by the builder's one call (the guide's Derived/Test/ToyasCard.lean, 'card_holds'). Laid BY PROGRAM, IN A SANDBOX (cutbox-door.mjs). By AI agents, Wed Nov 11 2026. No macro, syntax, notation, axiom, sorry.
-/
import Derived.Test.YtoilldfibaeokabDoorRows
import GoSem.ClaimSeven
namespace Go.Proofs.YtoilldfibaeokabDoor
namespace Rows

/-- THE TIED CARD OF 'hindsightlaw5.TyFresh'. -/
def tyFreshCard : Claim7 := { stood := { row := tyFreshRow, standIns := [], harness := (true, "632c5e53b85ed967a9227388789f6242f85389db6ee5136e9a34dcdbaee7571e"), looks := false }, kinds := [], alts := [], laidByText := true, laidKinds := [.data, .data, .data], laidTests := true, laidLooks := .later }
def TyFreshCardSaid : Prop := Claim7.holds Tryd.pinned (.plain (OpenSpec.ofChange tyFreshSpec)) tyFreshCard

/-- THE SECOND FORM's CARD OF 'hindsightlaw5.TyFresh'. -/
def tyFreshUptoCard : Claim7 := { stood := { row := tyFreshUptoRow, standIns := [], harness := (true, "632c5e53b85ed967a9227388789f6242f85389db6ee5136e9a34dcdbaee7571e"), looks := false }, kinds := [], alts := [], laidByText := true, laidKinds := [.data, .data, .data], laidTests := true, laidLooks := .later }
def TyFreshUptoCardSaid : Prop := Claim7.holds Tryd.pinned (.plain (OpenSpec.upto tyFreshSpec)) tyFreshUptoCard
end Rows
end Go.Proofs.YtoilldfibaeokabDoor
