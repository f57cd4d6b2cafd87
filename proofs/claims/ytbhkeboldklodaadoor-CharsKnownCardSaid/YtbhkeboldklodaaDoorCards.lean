/-
  DERIVED. GIVEN WITH THE SEED: THE CARDS: each row of YtbhkeboldklodaaDoorRows.lean that lists a variable, with what it lists TIED to the program's text (the seventh form; the later family's looks); each row that meets fmt, with fmt's text TOLD by the authors' own Lean function (tested against real Go, not proved from fmt's source: count such statements apart). THE CARD IS WHAT COUNTS. Prove the row's statement (the work); the ties are given (YtbhkeboldklodaaDoorTie.lean); close each card by the builder's one call (the guide's Derived/Test/ToyasCard.lean, 'card_holds'). Laid BY PROGRAM, IN A SANDBOX (cutbox-door.mjs). By AI agents, Wed Nov 11 2026. No macro, syntax, notation, axiom, sorry.
-/
import Derived.Test.YtbhkeboldklodaaDoorRows
import GoSem.ClaimSeven
namespace Go.Proofs.YtbhkeboldklodaaDoor
namespace Rows

/-- THE TIED CARD OF 'hindsightlaw1.CharsKnown'. -/
def charsKnownCard : Claim7 := { stood := { row := charsKnownRow, standIns := [], harness := (true, "b7bdcc88622df1b6957a478cd7f706f99f776bcb4d926f44a6b8d5a4f47ea66c"), looks := false }, kinds := [], alts := [], laidByText := true, laidKinds := [.data, .data, .pinned, .pinned, .pinned], laidTests := true, laidLooks := .later }
def CharsKnownCardSaid : Prop := Claim7.holds Tryd.pinned (.plain (OpenSpec.ofChange charsKnownSpec)) charsKnownCard

/-- THE TIED CARD OF 'hindsightlaw2.LexKnown'. -/
def lexKnownCard : Claim7 := { stood := { row := lexKnownRow, standIns := [], harness := (true, "b7bdcc88622df1b6957a478cd7f706f99f776bcb4d926f44a6b8d5a4f47ea66c"), looks := false }, kinds := [], alts := [], laidByText := true, laidKinds := [.data, .data, .pinned, .pinned, .pinned], laidTests := true, laidLooks := .later }
def LexKnownCardSaid : Prop := Claim7.holds Tryd.pinned (.plain (OpenSpec.ofChange lexKnownSpec)) lexKnownCard

/-- THE TIED CARD OF 'hindsightlaw24.CmdKnown'. -/
def cmdKnownCard : Claim7 := { stood := { row := cmdKnownRow, standIns := [], harness := (true, "b7bdcc88622df1b6957a478cd7f706f99f776bcb4d926f44a6b8d5a4f47ea66c"), looks := false }, kinds := [], alts := [], laidByText := true, laidKinds := [.data, .data, .data, .data, .pinned, .pinned], laidTests := true, laidLooks := .later }
def CmdKnownCardSaid : Prop := Claim7.holds Tryd.pinned (.plain (OpenSpec.ofChange cmdKnownSpec)) cmdKnownCard

/-- THE TIED CARD OF 'hindsightlaw5.TyKnown'. -/
def tyKnownCard : Claim7 := { stood := { row := tyKnownRow, standIns := [], harness := (true, "b7bdcc88622df1b6957a478cd7f706f99f776bcb4d926f44a6b8d5a4f47ea66c"), looks := false }, kinds := [], alts := [], laidByText := true, laidKinds := [.data, .data, .data], laidTests := true, laidLooks := .later }
def TyKnownCardSaid : Prop := Claim7.holds Tryd.pinned (.plain (OpenSpec.ofChange tyKnownSpec)) tyKnownCard

/-- THE SECOND FORM's CARD OF 'hindsightlaw1.CharsKnown'. -/
def charsKnownUptoCard : Claim7 := { stood := { row := charsKnownUptoRow, standIns := [], harness := (true, "b7bdcc88622df1b6957a478cd7f706f99f776bcb4d926f44a6b8d5a4f47ea66c"), looks := false }, kinds := [], alts := [], laidByText := true, laidKinds := [.data, .data, .pinned, .pinned, .pinned], laidTests := true, laidLooks := .later }
def CharsKnownUptoCardSaid : Prop := Claim7.holds Tryd.pinned (.plain (OpenSpec.upto charsKnownSpec)) charsKnownUptoCard

/-- THE SECOND FORM's CARD OF 'hindsightlaw2.LexKnown'. -/
def lexKnownUptoCard : Claim7 := { stood := { row := lexKnownUptoRow, standIns := [], harness := (true, "b7bdcc88622df1b6957a478cd7f706f99f776bcb4d926f44a6b8d5a4f47ea66c"), looks := false }, kinds := [], alts := [], laidByText := true, laidKinds := [.data, .data, .pinned, .pinned, .pinned], laidTests := true, laidLooks := .later }
def LexKnownUptoCardSaid : Prop := Claim7.holds Tryd.pinned (.plain (OpenSpec.upto lexKnownSpec)) lexKnownUptoCard

/-- THE SECOND FORM's CARD OF 'hindsightlaw24.CmdKnown'. -/
def cmdKnownUptoCard : Claim7 := { stood := { row := cmdKnownUptoRow, standIns := [], harness := (true, "b7bdcc88622df1b6957a478cd7f706f99f776bcb4d926f44a6b8d5a4f47ea66c"), looks := false }, kinds := [], alts := [], laidByText := true, laidKinds := [.data, .data, .data, .data, .pinned, .pinned], laidTests := true, laidLooks := .later }
def CmdKnownUptoCardSaid : Prop := Claim7.holds Tryd.pinned (.plain (OpenSpec.upto cmdKnownSpec)) cmdKnownUptoCard

/-- THE SECOND FORM's CARD OF 'hindsightlaw5.TyKnown'. -/
def tyKnownUptoCard : Claim7 := { stood := { row := tyKnownUptoRow, standIns := [], harness := (true, "b7bdcc88622df1b6957a478cd7f706f99f776bcb4d926f44a6b8d5a4f47ea66c"), looks := false }, kinds := [], alts := [], laidByText := true, laidKinds := [.data, .data, .data], laidTests := true, laidLooks := .later }
def TyKnownUptoCardSaid : Prop := Claim7.holds Tryd.pinned (.plain (OpenSpec.upto tyKnownSpec)) tyKnownUptoCard
end Rows
end Go.Proofs.YtbhkeboldklodaaDoor
