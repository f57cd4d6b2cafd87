/-
  DERIVED. GIVEN WITH THE SEED: THE CARDS: each row of YtoilldfibaeokaaDoorRows.lean that lists a variable, with what it lists TIED to the program's text (the seventh form; the later family's looks); each row that meets fmt, with fmt's text TOLD by the authors' own Lean function (tested against real Go, not proved from fmt's source: count such statements apart). THE CARD IS WHAT COUNTS. Prove the row's statement (the work); the ties are given (YtoilldfibaeokaaDoorTie.lean); close each card by the builder's one call (the guide's Derived/Test/ToyasCard.lean, 'card_holds'). Laid BY PROGRAM, IN A SANDBOX (cutbox-door.mjs). By AI agents, Wed Nov 11 2026. No macro, syntax, notation, axiom, sorry.
-/
import Derived.Test.YtoilldfibaeokaaDoorRows
import GoSem.ClaimSeven
namespace Go.Proofs.YtoilldfibaeokaaDoor
namespace Rows

/-- THE TIED CARD OF 'hindsightlaw5.TyUnifies'. -/
def tyUnifiesCard : Claim7 := { stood := { row := tyUnifiesRow, standIns := [], harness := (true, "63b6aace0797897fc86ee22a4300184a7d6da3a80818b5a5992ad756860e2965"), looks := false }, kinds := [], alts := [], laidByText := true, laidKinds := [.data, .data, .data], laidTests := true, laidLooks := .later }
def TyUnifiesCardSaid : Prop := Claim7.holds Tryd.pinned (.plain (OpenSpec.ofChange tyUnifiesSpec)) tyUnifiesCard

/-- THE TIED CARD OF 'hindsightlaw5.TyOrder'. -/
def tyOrderCard : Claim7 := { stood := { row := tyOrderRow, standIns := [], harness := (true, "63b6aace0797897fc86ee22a4300184a7d6da3a80818b5a5992ad756860e2965"), looks := false }, kinds := [], alts := [], laidByText := true, laidKinds := [.data, .data, .data], laidTests := true, laidLooks := .later }
def TyOrderCardSaid : Prop := Claim7.holds Tryd.pinned (.plain (OpenSpec.ofChange tyOrderSpec)) tyOrderCard

/-- THE TIED CARD OF 'hindsightlaw5.TySays'. -/
def tySaysCard : Claim7 := { stood := { row := tySaysRow, standIns := [], harness := (true, "63b6aace0797897fc86ee22a4300184a7d6da3a80818b5a5992ad756860e2965"), looks := false }, kinds := [], alts := [], laidByText := true, laidKinds := [.data, .data, .data], laidTests := true, laidLooks := .later }
def TySaysCardSaid : Prop := Claim7.holds Tryd.pinned (.plain (OpenSpec.ofChange tySaysSpec)) tySaysCard

/-- THE TIED CARD OF 'hindsightlaw5.TyOne'. -/
def tyOneCard : Claim7 := { stood := { row := tyOneRow, standIns := [], harness := (true, "63b6aace0797897fc86ee22a4300184a7d6da3a80818b5a5992ad756860e2965"), looks := false }, kinds := [], alts := [], laidByText := true, laidKinds := [.data, .data, .data], laidTests := true, laidLooks := .later }
def TyOneCardSaid : Prop := Claim7.holds Tryd.pinned (.plain (OpenSpec.ofChange tyOneSpec)) tyOneCard

/-- THE TIED CARD OF 'hindsightlaw5.TyRenamed'. -/
def tyRenamedCard : Claim7 := { stood := { row := tyRenamedRow, standIns := [], harness := (true, "63b6aace0797897fc86ee22a4300184a7d6da3a80818b5a5992ad756860e2965"), looks := false }, kinds := [], alts := [], laidByText := true, laidKinds := [.data, .data, .data], laidTests := true, laidLooks := .later }
def TyRenamedCardSaid : Prop := Claim7.holds Tryd.pinned (.plain (OpenSpec.ofChange tyRenamedSpec)) tyRenamedCard

/-- THE TIED CARD OF 'hindsightlaw5.TyKnown'. -/
def tyKnownCard : Claim7 := { stood := { row := tyKnownRow, standIns := [], harness := (true, "63b6aace0797897fc86ee22a4300184a7d6da3a80818b5a5992ad756860e2965"), looks := false }, kinds := [], alts := [], laidByText := true, laidKinds := [.data, .data, .data], laidTests := true, laidLooks := .later }
def TyKnownCardSaid : Prop := Claim7.holds Tryd.pinned (.plain (OpenSpec.ofChange tyKnownSpec)) tyKnownCard

/-- THE SECOND FORM's CARD OF 'hindsightlaw5.TyUnifies'. -/
def tyUnifiesUptoCard : Claim7 := { stood := { row := tyUnifiesUptoRow, standIns := [], harness := (true, "63b6aace0797897fc86ee22a4300184a7d6da3a80818b5a5992ad756860e2965"), looks := false }, kinds := [], alts := [], laidByText := true, laidKinds := [.data, .data, .data], laidTests := true, laidLooks := .later }
def TyUnifiesUptoCardSaid : Prop := Claim7.holds Tryd.pinned (.plain (OpenSpec.upto tyUnifiesSpec)) tyUnifiesUptoCard

/-- THE SECOND FORM's CARD OF 'hindsightlaw5.TyOrder'. -/
def tyOrderUptoCard : Claim7 := { stood := { row := tyOrderUptoRow, standIns := [], harness := (true, "63b6aace0797897fc86ee22a4300184a7d6da3a80818b5a5992ad756860e2965"), looks := false }, kinds := [], alts := [], laidByText := true, laidKinds := [.data, .data, .data], laidTests := true, laidLooks := .later }
def TyOrderUptoCardSaid : Prop := Claim7.holds Tryd.pinned (.plain (OpenSpec.upto tyOrderSpec)) tyOrderUptoCard

/-- THE SECOND FORM's CARD OF 'hindsightlaw5.TySays'. -/
def tySaysUptoCard : Claim7 := { stood := { row := tySaysUptoRow, standIns := [], harness := (true, "63b6aace0797897fc86ee22a4300184a7d6da3a80818b5a5992ad756860e2965"), looks := false }, kinds := [], alts := [], laidByText := true, laidKinds := [.data, .data, .data], laidTests := true, laidLooks := .later }
def TySaysUptoCardSaid : Prop := Claim7.holds Tryd.pinned (.plain (OpenSpec.upto tySaysSpec)) tySaysUptoCard

/-- THE SECOND FORM's CARD OF 'hindsightlaw5.TyOne'. -/
def tyOneUptoCard : Claim7 := { stood := { row := tyOneUptoRow, standIns := [], harness := (true, "63b6aace0797897fc86ee22a4300184a7d6da3a80818b5a5992ad756860e2965"), looks := false }, kinds := [], alts := [], laidByText := true, laidKinds := [.data, .data, .data], laidTests := true, laidLooks := .later }
def TyOneUptoCardSaid : Prop := Claim7.holds Tryd.pinned (.plain (OpenSpec.upto tyOneSpec)) tyOneUptoCard

/-- THE SECOND FORM's CARD OF 'hindsightlaw5.TyRenamed'. -/
def tyRenamedUptoCard : Claim7 := { stood := { row := tyRenamedUptoRow, standIns := [], harness := (true, "63b6aace0797897fc86ee22a4300184a7d6da3a80818b5a5992ad756860e2965"), looks := false }, kinds := [], alts := [], laidByText := true, laidKinds := [.data, .data, .data], laidTests := true, laidLooks := .later }
def TyRenamedUptoCardSaid : Prop := Claim7.holds Tryd.pinned (.plain (OpenSpec.upto tyRenamedSpec)) tyRenamedUptoCard

/-- THE SECOND FORM's CARD OF 'hindsightlaw5.TyKnown'. -/
def tyKnownUptoCard : Claim7 := { stood := { row := tyKnownUptoRow, standIns := [], harness := (true, "63b6aace0797897fc86ee22a4300184a7d6da3a80818b5a5992ad756860e2965"), looks := false }, kinds := [], alts := [], laidByText := true, laidKinds := [.data, .data, .data], laidTests := true, laidLooks := .later }
def TyKnownUptoCardSaid : Prop := Claim7.holds Tryd.pinned (.plain (OpenSpec.upto tyKnownSpec)) tyKnownUptoCard
end Rows
end Go.Proofs.YtoilldfibaeokaaDoor
