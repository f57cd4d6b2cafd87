/-
  DERIVED. GIVEN WITH THE SEED: THE CARDS: each row of YtkbefekajgfldaaGreatDoorRows.lean that lists a variable, with what it lists TIED to the program's text (the seventh form; the later family's looks); each row that meets fmt, with fmt's text TOLD by the authors' own Lean function (tested against real Go, not proved from fmt's source: count such statements apart). THE CARD IS WHAT COUNTS. Prove the row's statement (the work); the ties are given (YtkbefekajgfldaaGreatDoorTie.lean); close each card by the builder's one call (the guide's Derived/Test/ToyasCard.lean, 'card_holds'). Laid BY PROGRAM, IN A SANDBOX (cutbox-door.mjs). By AI agents, Wed Nov 11 2026. No macro, syntax, notation, axiom, sorry.
-/
import Derived.Test.YtkbefekajgfldaaGreatDoorRows
import GoSem.ClaimSeven
namespace Go.Proofs.YtkbefekajgfldaaGreatDoor
namespace Rows

/-- THE TIED CARD OF 'hindsightlaw10.SourceApart'. -/
def sourceApartCard : Claim7 := { stood := { row := sourceApartRow, standIns := [], harness := (true, "c237c75fac097ca490b5955a9db80de1a6744cc98750253ab0adc08e24e00d75"), looks := false }, kinds := [], alts := [], laidByText := true, laidKinds := [.data, .data, .pinned, .pinned, .pinned], laidTests := true, laidLooks := .later }
def SourceApartCardSaid : Prop := Claim7.holds Tryz.pinned (.plain (OpenSpec.ofChange sourceApartSpec)) sourceApartCard

/-- THE TIED CARD OF 'hindsightlaw10.SourceKnown'. -/
def sourceKnownCard : Claim7 := { stood := { row := sourceKnownRow, standIns := [], harness := (true, "c237c75fac097ca490b5955a9db80de1a6744cc98750253ab0adc08e24e00d75"), looks := false }, kinds := [], alts := [], laidByText := true, laidKinds := [.data, .data, .pinned, .pinned, .pinned], laidTests := true, laidLooks := .later }
def SourceKnownCardSaid : Prop := Claim7.holds Tryz.pinned (.plain (OpenSpec.ofChange sourceKnownSpec)) sourceKnownCard

/-- THE TIED CARD OF 'hindsightlaw10.SourceSum'. -/
def sourceSumCard : Claim7 := { stood := { row := sourceSumRow, standIns := [], harness := (true, "c237c75fac097ca490b5955a9db80de1a6744cc98750253ab0adc08e24e00d75"), looks := false }, kinds := [], alts := [], laidByText := true, laidKinds := [.data, .data, .pinned, .pinned, .pinned], laidTests := true, laidLooks := .later }
def SourceSumCardSaid : Prop := Claim7.holds Tryz.pinned (.plain (OpenSpec.ofChange sourceSumSpec)) sourceSumCard

/-- THE TIED CARD OF 'hindsightlaw10.SourceAgain'. -/
def sourceAgainCard : Claim7 := { stood := { row := sourceAgainRow, standIns := [], harness := (true, "c237c75fac097ca490b5955a9db80de1a6744cc98750253ab0adc08e24e00d75"), looks := false }, kinds := [], alts := [], laidByText := true, laidKinds := [.data, .data, .pinned, .pinned, .pinned], laidTests := true, laidLooks := .later }
def SourceAgainCardSaid : Prop := Claim7.holds Tryz.pinned (.plain (OpenSpec.ofChange sourceAgainSpec)) sourceAgainCard

/-- THE TIED CARD OF 'hindsightlaw10.SourceBegin'. -/
def sourceBeginCard : Claim7 := { stood := { row := sourceBeginRow, standIns := [], harness := (true, "c237c75fac097ca490b5955a9db80de1a6744cc98750253ab0adc08e24e00d75"), looks := false }, kinds := [], alts := [], laidByText := true, laidKinds := [.data, .data, .pinned, .pinned, .pinned], laidTests := true, laidLooks := .later }
def SourceBeginCardSaid : Prop := Claim7.holds Tryz.pinned (.plain (OpenSpec.ofChange sourceBeginSpec)) sourceBeginCard

/-- THE TIED CARD OF 'hindsightlaw10.SourceOver'. -/
def sourceOverCard : Claim7 := { stood := { row := sourceOverRow, standIns := [], harness := (true, "c237c75fac097ca490b5955a9db80de1a6744cc98750253ab0adc08e24e00d75"), looks := false }, kinds := [], alts := [], laidByText := true, laidKinds := [.data, .data, .pinned, .pinned, .pinned], laidTests := true, laidLooks := .later }
def SourceOverCardSaid : Prop := Claim7.holds Tryz.pinned (.plain (OpenSpec.ofChange sourceOverSpec)) sourceOverCard

/-- THE SECOND FORM's CARD OF 'hindsightlaw10.SourceApart'. -/
def sourceApartUptoCard : Claim7 := { stood := { row := sourceApartUptoRow, standIns := [], harness := (true, "c237c75fac097ca490b5955a9db80de1a6744cc98750253ab0adc08e24e00d75"), looks := false }, kinds := [], alts := [], laidByText := true, laidKinds := [.data, .data, .pinned, .pinned, .pinned], laidTests := true, laidLooks := .later }
def SourceApartUptoCardSaid : Prop := Claim7.holds Tryz.pinned (.plain (OpenSpec.upto sourceApartSpec)) sourceApartUptoCard

/-- THE SECOND FORM's CARD OF 'hindsightlaw10.SourceKnown'. -/
def sourceKnownUptoCard : Claim7 := { stood := { row := sourceKnownUptoRow, standIns := [], harness := (true, "c237c75fac097ca490b5955a9db80de1a6744cc98750253ab0adc08e24e00d75"), looks := false }, kinds := [], alts := [], laidByText := true, laidKinds := [.data, .data, .pinned, .pinned, .pinned], laidTests := true, laidLooks := .later }
def SourceKnownUptoCardSaid : Prop := Claim7.holds Tryz.pinned (.plain (OpenSpec.upto sourceKnownSpec)) sourceKnownUptoCard

/-- THE SECOND FORM's CARD OF 'hindsightlaw10.SourceSum'. -/
def sourceSumUptoCard : Claim7 := { stood := { row := sourceSumUptoRow, standIns := [], harness := (true, "c237c75fac097ca490b5955a9db80de1a6744cc98750253ab0adc08e24e00d75"), looks := false }, kinds := [], alts := [], laidByText := true, laidKinds := [.data, .data, .pinned, .pinned, .pinned], laidTests := true, laidLooks := .later }
def SourceSumUptoCardSaid : Prop := Claim7.holds Tryz.pinned (.plain (OpenSpec.upto sourceSumSpec)) sourceSumUptoCard

/-- THE SECOND FORM's CARD OF 'hindsightlaw10.SourceAgain'. -/
def sourceAgainUptoCard : Claim7 := { stood := { row := sourceAgainUptoRow, standIns := [], harness := (true, "c237c75fac097ca490b5955a9db80de1a6744cc98750253ab0adc08e24e00d75"), looks := false }, kinds := [], alts := [], laidByText := true, laidKinds := [.data, .data, .pinned, .pinned, .pinned], laidTests := true, laidLooks := .later }
def SourceAgainUptoCardSaid : Prop := Claim7.holds Tryz.pinned (.plain (OpenSpec.upto sourceAgainSpec)) sourceAgainUptoCard

/-- THE SECOND FORM's CARD OF 'hindsightlaw10.SourceBegin'. -/
def sourceBeginUptoCard : Claim7 := { stood := { row := sourceBeginUptoRow, standIns := [], harness := (true, "c237c75fac097ca490b5955a9db80de1a6744cc98750253ab0adc08e24e00d75"), looks := false }, kinds := [], alts := [], laidByText := true, laidKinds := [.data, .data, .pinned, .pinned, .pinned], laidTests := true, laidLooks := .later }
def SourceBeginUptoCardSaid : Prop := Claim7.holds Tryz.pinned (.plain (OpenSpec.upto sourceBeginSpec)) sourceBeginUptoCard

/-- THE SECOND FORM's CARD OF 'hindsightlaw10.SourceOver'. -/
def sourceOverUptoCard : Claim7 := { stood := { row := sourceOverUptoRow, standIns := [], harness := (true, "c237c75fac097ca490b5955a9db80de1a6744cc98750253ab0adc08e24e00d75"), looks := false }, kinds := [], alts := [], laidByText := true, laidKinds := [.data, .data, .pinned, .pinned, .pinned], laidTests := true, laidLooks := .later }
def SourceOverUptoCardSaid : Prop := Claim7.holds Tryz.pinned (.plain (OpenSpec.upto sourceOverSpec)) sourceOverUptoCard
end Rows
end Go.Proofs.YtkbefekajgfldaaGreatDoor
