/-
  DERIVED. GIVEN WITH THE SEED: THE CARDS: each row of YtocbeccmmfdnfaaDoorRows.lean that lists a variable, with what it lists TIED to the program's text (the seventh form; the later family's looks); each row that meets fmt, with fmt's text TOLD by the authors' own Lean function (tested against real Go, not proved from fmt's source: count such statements apart). THE CARD IS WHAT COUNTS. Prove the row's statement (the work); the ties are given (YtocbeccmmfdnfaaDoorTie.lean); close each card by the builder's one call (the guide's Derived/Test/ToyasCard.lean, 'card_holds'). Laid BY PROGRAM, IN A SANDBOX (cutbox-door.mjs). By AI agents, Wed Nov 11 2026. No macro, syntax, notation, axiom, sorry.
-/
import Derived.Test.YtocbeccmmfdnfaaDoorRows
import GoSem.ClaimSeven
namespace Go.Proofs.YtocbeccmmfdnfaaDoor
namespace Rows

/-- THE TIED CARD OF 'hindsightlaw24.CmdSays'. -/
def cmdSaysCard : Claim7 := { stood := { row := cmdSaysRow, standIns := [], harness := (true, "c0a928123578ddfca68ea759781e42a61941ddebf6018eb616bf50f6d6a74541"), looks := false }, kinds := [], alts := [], laidByText := true, laidKinds := [.data, .data, .data, .data, .pinned, .pinned], laidTests := true, laidLooks := .later }
def CmdSaysCardSaid : Prop := Claim7.holds Tryd.pinned (.plain (OpenSpec.ofChange cmdSaysSpec)) cmdSaysCard

/-- THE TIED CARD OF 'hindsightlaw24.CmdBack'. -/
def cmdBackCard : Claim7 := { stood := { row := cmdBackRow, standIns := [], harness := (true, "c0a928123578ddfca68ea759781e42a61941ddebf6018eb616bf50f6d6a74541"), looks := false }, kinds := [], alts := [], laidByText := true, laidKinds := [.data, .data, .data, .data, .pinned, .pinned], laidTests := true, laidLooks := .later }
def CmdBackCardSaid : Prop := Claim7.holds Tryd.pinned (.plain (OpenSpec.ofChange cmdBackSpec)) cmdBackCard

/-- THE TIED CARD OF 'hindsightlaw24.CmdWords'. -/
def cmdWordsCard : Claim7 := { stood := { row := cmdWordsRow, standIns := [], harness := (true, "c0a928123578ddfca68ea759781e42a61941ddebf6018eb616bf50f6d6a74541"), looks := false }, kinds := [], alts := [], laidByText := true, laidKinds := [.data, .data, .data, .data, .pinned, .pinned], laidTests := true, laidLooks := .later }
def CmdWordsCardSaid : Prop := Claim7.holds Tryd.pinned (.plain (OpenSpec.ofChange cmdWordsSpec)) cmdWordsCard

/-- THE SECOND FORM's CARD OF 'hindsightlaw24.CmdSays'. -/
def cmdSaysUptoCard : Claim7 := { stood := { row := cmdSaysUptoRow, standIns := [], harness := (true, "c0a928123578ddfca68ea759781e42a61941ddebf6018eb616bf50f6d6a74541"), looks := false }, kinds := [], alts := [], laidByText := true, laidKinds := [.data, .data, .data, .data, .pinned, .pinned], laidTests := true, laidLooks := .later }
def CmdSaysUptoCardSaid : Prop := Claim7.holds Tryd.pinned (.plain (OpenSpec.upto cmdSaysSpec)) cmdSaysUptoCard

/-- THE SECOND FORM's CARD OF 'hindsightlaw24.CmdBack'. -/
def cmdBackUptoCard : Claim7 := { stood := { row := cmdBackUptoRow, standIns := [], harness := (true, "c0a928123578ddfca68ea759781e42a61941ddebf6018eb616bf50f6d6a74541"), looks := false }, kinds := [], alts := [], laidByText := true, laidKinds := [.data, .data, .data, .data, .pinned, .pinned], laidTests := true, laidLooks := .later }
def CmdBackUptoCardSaid : Prop := Claim7.holds Tryd.pinned (.plain (OpenSpec.upto cmdBackSpec)) cmdBackUptoCard

/-- THE SECOND FORM's CARD OF 'hindsightlaw24.CmdWords'. -/
def cmdWordsUptoCard : Claim7 := { stood := { row := cmdWordsUptoRow, standIns := [], harness := (true, "c0a928123578ddfca68ea759781e42a61941ddebf6018eb616bf50f6d6a74541"), looks := false }, kinds := [], alts := [], laidByText := true, laidKinds := [.data, .data, .data, .data, .pinned, .pinned], laidTests := true, laidLooks := .later }
def CmdWordsUptoCardSaid : Prop := Claim7.holds Tryd.pinned (.plain (OpenSpec.upto cmdWordsSpec)) cmdWordsUptoCard
end Rows
end Go.Proofs.YtocbeccmmfdnfaaDoor
