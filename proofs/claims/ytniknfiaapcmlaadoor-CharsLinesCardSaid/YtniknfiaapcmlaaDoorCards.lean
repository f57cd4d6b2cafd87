/-
  DERIVED. GIVEN WITH THE SEED: THE CARDS: each row of YtniknfiaapcmlaaDoorRows.lean that lists a variable, with what it lists TIED to the program's text (the seventh form; the later family's looks); each row that meets fmt, with fmt's text TOLD by the authors' own Lean function (tested against real Go, not proved from fmt's source: count such statements apart). THE CARD IS WHAT COUNTS. Prove the row's statement (the work); the ties are given (YtniknfiaapcmlaaDoorTie.lean); close each card by the builder's one call (the guide's Derived/Test/ToyasCard.lean, 'card_holds'). Laid BY PROGRAM, IN A SANDBOX (cutbox-door.mjs). By AI agents, Wed Nov 11 2026. No macro, syntax, notation, axiom, sorry.
-/
import Derived.Test.YtniknfiaapcmlaaDoorRows
import GoSem.ClaimSeven
namespace Go.Proofs.YtniknfiaapcmlaaDoor
namespace Rows

/-- THE TIED CARD OF 'hindsightlaw1.CharsRunes'. -/
def charsRunesCard : Claim7 := { stood := { row := charsRunesRow, standIns := [], harness := (true, "3be9d7da91b825407b7cc6956201bcb24a48069639cac469878c89d1da1543ba"), looks := false }, kinds := [], alts := [], laidByText := true, laidKinds := [.data, .pinned], laidTests := true, laidLooks := .later }
def CharsRunesCardSaid : Prop := Claim7.holds Tryd.pinned (.plain (OpenSpec.ofChange charsRunesSpec)) charsRunesCard

/-- THE TIED CARD OF 'hindsightlaw1.CharsMoves'. -/
def charsMovesCard : Claim7 := { stood := { row := charsMovesRow, standIns := [], harness := (true, "3be9d7da91b825407b7cc6956201bcb24a48069639cac469878c89d1da1543ba"), looks := false }, kinds := [], alts := [], laidByText := true, laidKinds := [.data, .pinned], laidTests := true, laidLooks := .later }
def CharsMovesCardSaid : Prop := Claim7.holds Tryd.pinned (.plain (OpenSpec.ofChange charsMovesSpec)) charsMovesCard

/-- THE TIED CARD OF 'hindsightlaw1.CharsClass'. -/
def charsClassCard : Claim7 := { stood := { row := charsClassRow, standIns := [], harness := (true, "3be9d7da91b825407b7cc6956201bcb24a48069639cac469878c89d1da1543ba"), looks := false }, kinds := [], alts := [], laidByText := true, laidKinds := [.data, .pinned, .pinned], laidTests := true, laidLooks := .later }
def CharsClassCardSaid : Prop := Claim7.holds Tryd.pinned (.plain (OpenSpec.ofChange charsClassSpec)) charsClassCard

/-- THE TIED CARD OF 'hindsightlaw1.CharsLines'. -/
def charsLinesCard : Claim7 := { stood := { row := charsLinesRow, standIns := [], harness := (true, "3be9d7da91b825407b7cc6956201bcb24a48069639cac469878c89d1da1543ba"), looks := false }, kinds := [], alts := [], laidByText := true, laidKinds := [.data, .data, .pinned, .pinned], laidTests := true, laidLooks := .later }
def CharsLinesCardSaid : Prop := Claim7.holds Tryd.pinned (.plain (OpenSpec.ofChange charsLinesSpec)) charsLinesCard

/-- THE TIED CARD OF 'hindsightlaw1.CharsKnown'. -/
def charsKnownCard : Claim7 := { stood := { row := charsKnownRow, standIns := [], harness := (true, "3be9d7da91b825407b7cc6956201bcb24a48069639cac469878c89d1da1543ba"), looks := false }, kinds := [], alts := [], laidByText := true, laidKinds := [.data, .data, .pinned, .pinned, .pinned], laidTests := true, laidLooks := .later }
def CharsKnownCardSaid : Prop := Claim7.holds Tryd.pinned (.plain (OpenSpec.ofChange charsKnownSpec)) charsKnownCard

/-- THE TIED CARD OF 'hindsightlaw1.CharsSays'. -/
def charsSaysCard : Claim7 := { stood := { row := charsSaysRow, standIns := [], harness := (true, "3be9d7da91b825407b7cc6956201bcb24a48069639cac469878c89d1da1543ba"), looks := false }, kinds := [], alts := [], laidByText := true, laidKinds := [.data, .data, .pinned, .pinned, .pinned], laidTests := true, laidLooks := .later }
def CharsSaysCardSaid : Prop := Claim7.holds Tryd.pinned (.plain (OpenSpec.ofChange charsSaysSpec)) charsSaysCard

/-- THE SECOND FORM's CARD OF 'hindsightlaw1.CharsRunes'. -/
def charsRunesUptoCard : Claim7 := { stood := { row := charsRunesUptoRow, standIns := [], harness := (true, "3be9d7da91b825407b7cc6956201bcb24a48069639cac469878c89d1da1543ba"), looks := false }, kinds := [], alts := [], laidByText := true, laidKinds := [.data, .pinned], laidTests := true, laidLooks := .later }
def CharsRunesUptoCardSaid : Prop := Claim7.holds Tryd.pinned (.plain (OpenSpec.upto charsRunesSpec)) charsRunesUptoCard

/-- THE SECOND FORM's CARD OF 'hindsightlaw1.CharsMoves'. -/
def charsMovesUptoCard : Claim7 := { stood := { row := charsMovesUptoRow, standIns := [], harness := (true, "3be9d7da91b825407b7cc6956201bcb24a48069639cac469878c89d1da1543ba"), looks := false }, kinds := [], alts := [], laidByText := true, laidKinds := [.data, .pinned], laidTests := true, laidLooks := .later }
def CharsMovesUptoCardSaid : Prop := Claim7.holds Tryd.pinned (.plain (OpenSpec.upto charsMovesSpec)) charsMovesUptoCard

/-- THE SECOND FORM's CARD OF 'hindsightlaw1.CharsClass'. -/
def charsClassUptoCard : Claim7 := { stood := { row := charsClassUptoRow, standIns := [], harness := (true, "3be9d7da91b825407b7cc6956201bcb24a48069639cac469878c89d1da1543ba"), looks := false }, kinds := [], alts := [], laidByText := true, laidKinds := [.data, .pinned, .pinned], laidTests := true, laidLooks := .later }
def CharsClassUptoCardSaid : Prop := Claim7.holds Tryd.pinned (.plain (OpenSpec.upto charsClassSpec)) charsClassUptoCard

/-- THE SECOND FORM's CARD OF 'hindsightlaw1.CharsLines'. -/
def charsLinesUptoCard : Claim7 := { stood := { row := charsLinesUptoRow, standIns := [], harness := (true, "3be9d7da91b825407b7cc6956201bcb24a48069639cac469878c89d1da1543ba"), looks := false }, kinds := [], alts := [], laidByText := true, laidKinds := [.data, .data, .pinned, .pinned], laidTests := true, laidLooks := .later }
def CharsLinesUptoCardSaid : Prop := Claim7.holds Tryd.pinned (.plain (OpenSpec.upto charsLinesSpec)) charsLinesUptoCard

/-- THE SECOND FORM's CARD OF 'hindsightlaw1.CharsKnown'. -/
def charsKnownUptoCard : Claim7 := { stood := { row := charsKnownUptoRow, standIns := [], harness := (true, "3be9d7da91b825407b7cc6956201bcb24a48069639cac469878c89d1da1543ba"), looks := false }, kinds := [], alts := [], laidByText := true, laidKinds := [.data, .data, .pinned, .pinned, .pinned], laidTests := true, laidLooks := .later }
def CharsKnownUptoCardSaid : Prop := Claim7.holds Tryd.pinned (.plain (OpenSpec.upto charsKnownSpec)) charsKnownUptoCard

/-- THE SECOND FORM's CARD OF 'hindsightlaw1.CharsSays'. -/
def charsSaysUptoCard : Claim7 := { stood := { row := charsSaysUptoRow, standIns := [], harness := (true, "3be9d7da91b825407b7cc6956201bcb24a48069639cac469878c89d1da1543ba"), looks := false }, kinds := [], alts := [], laidByText := true, laidKinds := [.data, .data, .pinned, .pinned, .pinned], laidTests := true, laidLooks := .later }
def CharsSaysUptoCardSaid : Prop := Claim7.holds Tryd.pinned (.plain (OpenSpec.upto charsSaysSpec)) charsSaysUptoCard
end Rows
end Go.Proofs.YtniknfiaapcmlaaDoor
