/-
  DERIVED. GIVEN WITH THE SEED: THE CARDS: each row of YtlpebjohofhbgaaDoorRows.lean that lists a variable, with what it lists TIED to the program's text (the seventh form; the later family's looks); each row that meets fmt, with fmt's text TOLD by the authors' own Lean function (tested against real Go, not proved from fmt's source: count such statements apart). THE CARD IS WHAT COUNTS. Prove the row's statement (the work); the ties are given (YtlpebjohofhbgaaDoorTie.lean); close each card by the builder's one call (the guide's Derived/Test/ToyasCard.lean, 'card_holds'). Laid BY PROGRAM, IN A SANDBOX (cutbox-door.mjs). By AI agents, Wed Nov 11 2026. No macro, syntax, notation, axiom, sorry.
-/
import Derived.Test.YtlpebjohofhbgaaDoorRows
import GoSem.ClaimSeven
namespace Go.Proofs.YtlpebjohofhbgaaDoor
namespace Rows

/-- THE TIED CARD OF 'hindsightlaw9.ValKinds'. -/
def valKindsCard : Claim7 := { stood := { row := valKindsRow, standIns := [], harness := (true, "04e85bea88a4c6fcfed5de2cf190a3507605c8ba86c339d06a8888a7862ae01d"), looks := false }, kinds := [], alts := [], laidByText := true, laidKinds := [.data, .data, .data], laidTests := true, laidLooks := .later }
def ValKindsCardSaid : Prop := Claim7.holds Tryd.pinned (.plain (OpenSpec.ofChange valKindsSpec)) valKindsCard

/-- THE TIED CARD OF 'hindsightlaw9.ValShows'. -/
def valShowsCard : Claim7 := { stood := { row := valShowsRow, standIns := [], harness := (true, "04e85bea88a4c6fcfed5de2cf190a3507605c8ba86c339d06a8888a7862ae01d"), looks := false }, kinds := [], alts := [], laidByText := true, laidKinds := [.data, .data, .data], laidTests := true, laidLooks := .later }
def ValShowsCardSaid : Prop := Claim7.holds Tryd.pinned (.plain (OpenSpec.ofChange valShowsSpec)) valShowsCard

/-- THE SECOND FORM's CARD OF 'hindsightlaw9.ValKinds'. -/
def valKindsUptoCard : Claim7 := { stood := { row := valKindsUptoRow, standIns := [], harness := (true, "04e85bea88a4c6fcfed5de2cf190a3507605c8ba86c339d06a8888a7862ae01d"), looks := false }, kinds := [], alts := [], laidByText := true, laidKinds := [.data, .data, .data], laidTests := true, laidLooks := .later }
def ValKindsUptoCardSaid : Prop := Claim7.holds Tryd.pinned (.plain (OpenSpec.upto valKindsSpec)) valKindsUptoCard

/-- THE SECOND FORM's CARD OF 'hindsightlaw9.ValShows'. -/
def valShowsUptoCard : Claim7 := { stood := { row := valShowsUptoRow, standIns := [], harness := (true, "04e85bea88a4c6fcfed5de2cf190a3507605c8ba86c339d06a8888a7862ae01d"), looks := false }, kinds := [], alts := [], laidByText := true, laidKinds := [.data, .data, .data], laidTests := true, laidLooks := .later }
def ValShowsUptoCardSaid : Prop := Claim7.holds Tryd.pinned (.plain (OpenSpec.upto valShowsSpec)) valShowsUptoCard
end Rows
end Go.Proofs.YtlpebjohofhbgaaDoor
