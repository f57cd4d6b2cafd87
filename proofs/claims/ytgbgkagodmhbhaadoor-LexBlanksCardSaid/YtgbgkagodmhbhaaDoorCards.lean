/-
  DERIVED. GIVEN WITH THE SEED: THE CARDS: each row of YtgbgkagodmhbhaaDoorRows.lean that lists a variable, with what it lists TIED to the program's text (the seventh form; the later family's looks); each row that meets fmt, with fmt's text TOLD by the authors' own Lean function (tested against real Go, not proved from fmt's source: count such statements apart). THE CARD IS WHAT COUNTS. Prove the row's statement (the work); the ties are given (YtgbgkagodmhbhaaDoorTie.lean); close each card by the builder's one call (the guide's Derived/Test/ToyasCard.lean, 'card_holds'). Laid BY PROGRAM, IN A SANDBOX (cutbox-door.mjs). By AI agents, Wed Nov 11 2026. No macro, syntax, notation, axiom, sorry.
-/
import Derived.Test.YtgbgkagodmhbhaaDoorRows
import GoSem.ClaimSeven
namespace Go.Proofs.YtgbgkagodmhbhaaDoor
namespace Rows

/-- THE TIED CARD OF 'hindsightlaw2.LexKnown'. -/
def lexKnownCard : Claim7 := { stood := { row := lexKnownRow, standIns := [], harness := (true, "565201cf6c9503f7ef885f79252bc134dc4bee315cf7643de5c26727a30185b2"), looks := false }, kinds := [], alts := [], laidByText := true, laidKinds := [.data, .data, .pinned, .pinned, .pinned], laidTests := true, laidLooks := .later }
def LexKnownCardSaid : Prop := Claim7.holds Tryd.pinned (.plain (OpenSpec.ofChange lexKnownSpec)) lexKnownCard

/-- THE TIED CARD OF 'hindsightlaw2.LexBack'. -/
def lexBackCard : Claim7 := { stood := { row := lexBackRow, standIns := [], harness := (true, "565201cf6c9503f7ef885f79252bc134dc4bee315cf7643de5c26727a30185b2"), looks := false }, kinds := [], alts := [], laidByText := true, laidKinds := [.data, .data, .pinned, .pinned, .pinned], laidTests := true, laidLooks := .later }
def LexBackCardSaid : Prop := Claim7.holds Tryd.pinned (.plain (OpenSpec.ofChange lexBackSpec)) lexBackCard

/-- THE TIED CARD OF 'hindsightlaw2.LexBlanks'. -/
def lexBlanksCard : Claim7 := { stood := { row := lexBlanksRow, standIns := [], harness := (true, "565201cf6c9503f7ef885f79252bc134dc4bee315cf7643de5c26727a30185b2"), looks := false }, kinds := [], alts := [], laidByText := true, laidKinds := [.data, .data, .pinned, .pinned, .pinned], laidTests := true, laidLooks := .later }
def LexBlanksCardSaid : Prop := Claim7.holds Tryd.pinned (.plain (OpenSpec.ofChange lexBlanksSpec)) lexBlanksCard

/-- THE TIED CARD OF 'hindsightlaw2.LexKinds'. -/
def lexKindsCard : Claim7 := { stood := { row := lexKindsRow, standIns := [], harness := (true, "565201cf6c9503f7ef885f79252bc134dc4bee315cf7643de5c26727a30185b2"), looks := false }, kinds := [], alts := [], laidByText := true, laidKinds := [.data, .data, .pinned, .pinned, .pinned], laidTests := true, laidLooks := .later }
def LexKindsCardSaid : Prop := Claim7.holds Tryd.pinned (.plain (OpenSpec.ofChange lexKindsSpec)) lexKindsCard

/-- THE TIED CARD OF 'hindsightlaw24.CmdKnown'. -/
def cmdKnownCard : Claim7 := { stood := { row := cmdKnownRow, standIns := [], harness := (true, "565201cf6c9503f7ef885f79252bc134dc4bee315cf7643de5c26727a30185b2"), looks := false }, kinds := [], alts := [], laidByText := true, laidKinds := [.data, .data, .data, .data, .pinned, .pinned], laidTests := true, laidLooks := .later }
def CmdKnownCardSaid : Prop := Claim7.holds Tryd.pinned (.plain (OpenSpec.ofChange cmdKnownSpec)) cmdKnownCard

/-- THE TIED CARD OF 'hindsightlaw24.CmdSays'. -/
def cmdSaysCard : Claim7 := { stood := { row := cmdSaysRow, standIns := [], harness := (true, "565201cf6c9503f7ef885f79252bc134dc4bee315cf7643de5c26727a30185b2"), looks := false }, kinds := [], alts := [], laidByText := true, laidKinds := [.data, .data, .data, .data, .pinned, .pinned], laidTests := true, laidLooks := .later }
def CmdSaysCardSaid : Prop := Claim7.holds Tryd.pinned (.plain (OpenSpec.ofChange cmdSaysSpec)) cmdSaysCard

/-- THE SECOND FORM's CARD OF 'hindsightlaw2.LexKnown'. -/
def lexKnownUptoCard : Claim7 := { stood := { row := lexKnownUptoRow, standIns := [], harness := (true, "565201cf6c9503f7ef885f79252bc134dc4bee315cf7643de5c26727a30185b2"), looks := false }, kinds := [], alts := [], laidByText := true, laidKinds := [.data, .data, .pinned, .pinned, .pinned], laidTests := true, laidLooks := .later }
def LexKnownUptoCardSaid : Prop := Claim7.holds Tryd.pinned (.plain (OpenSpec.upto lexKnownSpec)) lexKnownUptoCard

/-- THE SECOND FORM's CARD OF 'hindsightlaw2.LexBack'. -/
def lexBackUptoCard : Claim7 := { stood := { row := lexBackUptoRow, standIns := [], harness := (true, "565201cf6c9503f7ef885f79252bc134dc4bee315cf7643de5c26727a30185b2"), looks := false }, kinds := [], alts := [], laidByText := true, laidKinds := [.data, .data, .pinned, .pinned, .pinned], laidTests := true, laidLooks := .later }
def LexBackUptoCardSaid : Prop := Claim7.holds Tryd.pinned (.plain (OpenSpec.upto lexBackSpec)) lexBackUptoCard

/-- THE SECOND FORM's CARD OF 'hindsightlaw2.LexBlanks'. -/
def lexBlanksUptoCard : Claim7 := { stood := { row := lexBlanksUptoRow, standIns := [], harness := (true, "565201cf6c9503f7ef885f79252bc134dc4bee315cf7643de5c26727a30185b2"), looks := false }, kinds := [], alts := [], laidByText := true, laidKinds := [.data, .data, .pinned, .pinned, .pinned], laidTests := true, laidLooks := .later }
def LexBlanksUptoCardSaid : Prop := Claim7.holds Tryd.pinned (.plain (OpenSpec.upto lexBlanksSpec)) lexBlanksUptoCard

/-- THE SECOND FORM's CARD OF 'hindsightlaw2.LexKinds'. -/
def lexKindsUptoCard : Claim7 := { stood := { row := lexKindsUptoRow, standIns := [], harness := (true, "565201cf6c9503f7ef885f79252bc134dc4bee315cf7643de5c26727a30185b2"), looks := false }, kinds := [], alts := [], laidByText := true, laidKinds := [.data, .data, .pinned, .pinned, .pinned], laidTests := true, laidLooks := .later }
def LexKindsUptoCardSaid : Prop := Claim7.holds Tryd.pinned (.plain (OpenSpec.upto lexKindsSpec)) lexKindsUptoCard

/-- THE SECOND FORM's CARD OF 'hindsightlaw24.CmdKnown'. -/
def cmdKnownUptoCard : Claim7 := { stood := { row := cmdKnownUptoRow, standIns := [], harness := (true, "565201cf6c9503f7ef885f79252bc134dc4bee315cf7643de5c26727a30185b2"), looks := false }, kinds := [], alts := [], laidByText := true, laidKinds := [.data, .data, .data, .data, .pinned, .pinned], laidTests := true, laidLooks := .later }
def CmdKnownUptoCardSaid : Prop := Claim7.holds Tryd.pinned (.plain (OpenSpec.upto cmdKnownSpec)) cmdKnownUptoCard

/-- THE SECOND FORM's CARD OF 'hindsightlaw24.CmdSays'. -/
def cmdSaysUptoCard : Claim7 := { stood := { row := cmdSaysUptoRow, standIns := [], harness := (true, "565201cf6c9503f7ef885f79252bc134dc4bee315cf7643de5c26727a30185b2"), looks := false }, kinds := [], alts := [], laidByText := true, laidKinds := [.data, .data, .data, .data, .pinned, .pinned], laidTests := true, laidLooks := .later }
def CmdSaysUptoCardSaid : Prop := Claim7.holds Tryd.pinned (.plain (OpenSpec.upto cmdSaysSpec)) cmdSaysUptoCard
end Rows
end Go.Proofs.YtgbgkagodmhbhaaDoor
