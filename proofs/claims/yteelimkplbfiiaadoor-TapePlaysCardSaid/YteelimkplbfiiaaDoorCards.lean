/-
  DERIVED. GIVEN WITH THE SEED: THE CARDS: each row of YteelimkplbfiiaaDoorRows.lean that lists a variable, with what it lists TIED to the program's text (the seventh form; the later family's looks); each row that meets fmt, with fmt's text TOLD by the authors' own Lean function (tested against real Go, not proved from fmt's source: count such statements apart). THE CARD IS WHAT COUNTS. Prove the row's statement (the work); the ties are given (YteelimkplbfiiaaDoorTie.lean); close each card by the builder's one call (the guide's Derived/Test/ToyasCard.lean, 'card_holds'). Laid BY PROGRAM, IN A SANDBOX (cutbox-door.mjs). By AI agents, Wed Nov 11 2026. No macro, syntax, notation, axiom, sorry.
-/
import Derived.Test.YteelimkplbfiiaaDoorRows
import GoSem.ClaimSeven
namespace Go.Proofs.YteelimkplbfiiaaDoor
namespace Rows

/-- THE TIED CARD OF 'hindsightlaw18.TapePlays'. -/
def tapePlaysCard : Claim7 := { stood := { row := tapePlaysRow, standIns := [], harness := (true, "e00e4ff76513a50bea37f61034aec48b6c848c7b314bc4f22ec8afa787e94ef4"), looks := false }, kinds := [], alts := [], laidByText := true, laidKinds := [.data, .data, .data], laidTests := true, laidLooks := .later }
def TapePlaysCardSaid : Prop := Claim7.holds Tryd.pinned (.plain (OpenSpec.ofChange tapePlaysSpec)) tapePlaysCard

/-- THE TIED CARD OF 'hindsightlaw18.TapeAgain'. -/
def tapeAgainCard : Claim7 := { stood := { row := tapeAgainRow, standIns := [], harness := (true, "e00e4ff76513a50bea37f61034aec48b6c848c7b314bc4f22ec8afa787e94ef4"), looks := false }, kinds := [], alts := [], laidByText := true, laidKinds := [.data, .data, .data], laidTests := true, laidLooks := .later }
def TapeAgainCardSaid : Prop := Claim7.holds Tryd.pinned (.plain (OpenSpec.ofChange tapeAgainSpec)) tapeAgainCard

/-- THE SECOND FORM's CARD OF 'hindsightlaw18.TapePlays'. -/
def tapePlaysUptoCard : Claim7 := { stood := { row := tapePlaysUptoRow, standIns := [], harness := (true, "e00e4ff76513a50bea37f61034aec48b6c848c7b314bc4f22ec8afa787e94ef4"), looks := false }, kinds := [], alts := [], laidByText := true, laidKinds := [.data, .data, .data], laidTests := true, laidLooks := .later }
def TapePlaysUptoCardSaid : Prop := Claim7.holds Tryd.pinned (.plain (OpenSpec.upto tapePlaysSpec)) tapePlaysUptoCard

/-- THE SECOND FORM's CARD OF 'hindsightlaw18.TapeAgain'. -/
def tapeAgainUptoCard : Claim7 := { stood := { row := tapeAgainUptoRow, standIns := [], harness := (true, "e00e4ff76513a50bea37f61034aec48b6c848c7b314bc4f22ec8afa787e94ef4"), looks := false }, kinds := [], alts := [], laidByText := true, laidKinds := [.data, .data, .data], laidTests := true, laidLooks := .later }
def TapeAgainUptoCardSaid : Prop := Claim7.holds Tryd.pinned (.plain (OpenSpec.upto tapeAgainSpec)) tapeAgainUptoCard
end Rows
end Go.Proofs.YteelimkplbfiiaaDoor
