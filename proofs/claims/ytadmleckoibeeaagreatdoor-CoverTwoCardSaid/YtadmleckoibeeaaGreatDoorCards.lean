/-
  DERIVED. GIVEN WITH THE SEED: THE CARDS: each row of YtadmleckoibeeaaGreatDoorRows.lean that lists a variable, with what it lists TIED to the program's text (the seventh form; the later family's looks); each row that meets fmt, with fmt's text TOLD by the authors' own Lean function (tested against real Go, not proved from fmt's source: count such statements apart). THE CARD IS WHAT COUNTS. Prove the row's statement (the work); the ties are given (YtadmleckoibeeaaGreatDoorTie.lean); close each card by the builder's one call (the guide's Derived/Test/ToyasCard.lean, 'card_holds'). Laid BY PROGRAM, IN A SANDBOX (cutbox-door.mjs). By AI agents, Wed Nov 11 2026. No macro, syntax, notation, axiom, sorry.
-/
import Derived.Test.YtadmleckoibeeaaGreatDoorRows
import GoSem.ClaimSeven
namespace Go.Proofs.YtadmleckoibeeaaGreatDoor
namespace Rows

/-- THE TIED CARD OF 'hindsightlaw8.CoverKnown'. -/
def coverKnownCard : Claim7 := { stood := { row := coverKnownRow, standIns := [], harness := (true, "5feca3f7498f861b973e39426cda43114c3a22a0280914f1b29d4b0a6989af78"), looks := false }, kinds := [], alts := [], laidByText := true, laidKinds := [.data, .data, .pinned, .pinned, .pinned], laidTests := true, laidLooks := .later }
def CoverKnownCardSaid : Prop := Claim7.holds Tryz.pinned (.plain (OpenSpec.ofChange coverKnownSpec)) coverKnownCard

/-- THE TIED CARD OF 'hindsightlaw8.CoverChecks'. -/
def coverChecksCard : Claim7 := { stood := { row := coverChecksRow, standIns := [], harness := (true, "5feca3f7498f861b973e39426cda43114c3a22a0280914f1b29d4b0a6989af78"), looks := false }, kinds := [], alts := [], laidByText := true, laidKinds := [.data, .data, .pinned, .pinned, .pinned], laidTests := true, laidLooks := .later }
def CoverChecksCardSaid : Prop := Claim7.holds Tryz.pinned (.plain (OpenSpec.ofChange coverChecksSpec)) coverChecksCard

/-- THE TIED CARD OF 'hindsightlaw8.CoverUseful'. -/
def coverUsefulCard : Claim7 := { stood := { row := coverUsefulRow, standIns := [], harness := (true, "5feca3f7498f861b973e39426cda43114c3a22a0280914f1b29d4b0a6989af78"), looks := false }, kinds := [], alts := [], laidByText := true, laidKinds := [.data, .data, .pinned, .pinned, .pinned], laidTests := true, laidLooks := .later }
def CoverUsefulCardSaid : Prop := Claim7.holds Tryz.pinned (.plain (OpenSpec.ofChange coverUsefulSpec)) coverUsefulCard

/-- THE TIED CARD OF 'hindsightlaw8.CoverAny'. -/
def coverAnyCard : Claim7 := { stood := { row := coverAnyRow, standIns := [], harness := (true, "5feca3f7498f861b973e39426cda43114c3a22a0280914f1b29d4b0a6989af78"), looks := false }, kinds := [], alts := [], laidByText := true, laidKinds := [.data, .data, .pinned, .pinned, .pinned], laidTests := true, laidLooks := .later }
def CoverAnyCardSaid : Prop := Claim7.holds Tryz.pinned (.plain (OpenSpec.ofChange coverAnySpec)) coverAnyCard

/-- THE TIED CARD OF 'hindsightlaw8.CoverTwo'. -/
def coverTwoCard : Claim7 := { stood := { row := coverTwoRow, standIns := [], harness := (true, "5feca3f7498f861b973e39426cda43114c3a22a0280914f1b29d4b0a6989af78"), looks := false }, kinds := [], alts := [], laidByText := true, laidKinds := [.data, .data, .pinned, .pinned, .pinned], laidTests := true, laidLooks := .later }
def CoverTwoCardSaid : Prop := Claim7.holds Tryz.pinned (.plain (OpenSpec.ofChange coverTwoSpec)) coverTwoCard

/-- THE SECOND FORM's CARD OF 'hindsightlaw8.CoverKnown'. -/
def coverKnownUptoCard : Claim7 := { stood := { row := coverKnownUptoRow, standIns := [], harness := (true, "5feca3f7498f861b973e39426cda43114c3a22a0280914f1b29d4b0a6989af78"), looks := false }, kinds := [], alts := [], laidByText := true, laidKinds := [.data, .data, .pinned, .pinned, .pinned], laidTests := true, laidLooks := .later }
def CoverKnownUptoCardSaid : Prop := Claim7.holds Tryz.pinned (.plain (OpenSpec.upto coverKnownSpec)) coverKnownUptoCard

/-- THE SECOND FORM's CARD OF 'hindsightlaw8.CoverChecks'. -/
def coverChecksUptoCard : Claim7 := { stood := { row := coverChecksUptoRow, standIns := [], harness := (true, "5feca3f7498f861b973e39426cda43114c3a22a0280914f1b29d4b0a6989af78"), looks := false }, kinds := [], alts := [], laidByText := true, laidKinds := [.data, .data, .pinned, .pinned, .pinned], laidTests := true, laidLooks := .later }
def CoverChecksUptoCardSaid : Prop := Claim7.holds Tryz.pinned (.plain (OpenSpec.upto coverChecksSpec)) coverChecksUptoCard

/-- THE SECOND FORM's CARD OF 'hindsightlaw8.CoverUseful'. -/
def coverUsefulUptoCard : Claim7 := { stood := { row := coverUsefulUptoRow, standIns := [], harness := (true, "5feca3f7498f861b973e39426cda43114c3a22a0280914f1b29d4b0a6989af78"), looks := false }, kinds := [], alts := [], laidByText := true, laidKinds := [.data, .data, .pinned, .pinned, .pinned], laidTests := true, laidLooks := .later }
def CoverUsefulUptoCardSaid : Prop := Claim7.holds Tryz.pinned (.plain (OpenSpec.upto coverUsefulSpec)) coverUsefulUptoCard

/-- THE SECOND FORM's CARD OF 'hindsightlaw8.CoverAny'. -/
def coverAnyUptoCard : Claim7 := { stood := { row := coverAnyUptoRow, standIns := [], harness := (true, "5feca3f7498f861b973e39426cda43114c3a22a0280914f1b29d4b0a6989af78"), looks := false }, kinds := [], alts := [], laidByText := true, laidKinds := [.data, .data, .pinned, .pinned, .pinned], laidTests := true, laidLooks := .later }
def CoverAnyUptoCardSaid : Prop := Claim7.holds Tryz.pinned (.plain (OpenSpec.upto coverAnySpec)) coverAnyUptoCard

/-- THE SECOND FORM's CARD OF 'hindsightlaw8.CoverTwo'. -/
def coverTwoUptoCard : Claim7 := { stood := { row := coverTwoUptoRow, standIns := [], harness := (true, "5feca3f7498f861b973e39426cda43114c3a22a0280914f1b29d4b0a6989af78"), looks := false }, kinds := [], alts := [], laidByText := true, laidKinds := [.data, .data, .pinned, .pinned, .pinned], laidTests := true, laidLooks := .later }
def CoverTwoUptoCardSaid : Prop := Claim7.holds Tryz.pinned (.plain (OpenSpec.upto coverTwoSpec)) coverTwoUptoCard
end Rows
end Go.Proofs.YtadmleckoibeeaaGreatDoor
