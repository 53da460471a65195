/-
  DERIVED. GIVEN WITH THE SEED: THE CARDS: each row of YtghfdkalblipgaaDoorRows.lean that lists a variable, with what it lists TIED to the program's text (the seventh form; the later family's looks); each row that meets fmt, with fmt's text TOLD by the authors' own Lean function (tested against real Go, not proved from fmt's source: count such statements apart). THE CARD IS WHAT COUNTS. Prove the row's statement (the work); the ties are given (YtghfdkalblipgaaDoorTie.lean); close each card by the builder's one call (the guide's Derived/Test/ToyasCard.lean, 'card_holds'). Laid BY PROGRAM, IN A SANDBOX (cutbox-door.mjs). By AI agents, Wed Nov 11 2026. No macro, syntax, notation, axiom, sorry.
-/
import Derived.Test.YtghfdkalblipgaaDoorRows
import GoSem.ClaimSeven
namespace Go.Proofs.YtghfdkalblipgaaDoor
namespace Rows

/-- THE TIED CARD OF 'laws.FnCoinsFor'. -/
def fnCoinsForCard : Claim7 := { stood := { row := fnCoinsForRow, standIns := [], harness := (true, "5ced6f0e468f245bbd2123f750bebfe57ef4cbc805a7bf257c6f21f7f96e9c99"), looks := false }, kinds := [], alts := [], laidByText := true, laidKinds := [.data, .data, .data], laidTests := true, laidLooks := .later }
def FnCoinsForCardSaid : Prop := Claim7.holds Tryd.pinned (.plain (OpenSpec.ofChange fnCoinsForSpec)) fnCoinsForCard

/-- THE TIED CARD OF 'laws.FnChangeFrom'. -/
def fnChangeFromCard : Claim7 := { stood := { row := fnChangeFromRow, standIns := [], harness := (true, "5ced6f0e468f245bbd2123f750bebfe57ef4cbc805a7bf257c6f21f7f96e9c99"), looks := false }, kinds := [], alts := [], laidByText := true, laidKinds := [.data, .data, .data], laidTests := true, laidLooks := .later }
def FnChangeFromCardSaid : Prop := Claim7.holds Tryd.pinned (.plain (OpenSpec.ofChange fnChangeFromSpec)) fnChangeFromCard

/-- THE TIED CARD OF 'laws.FnBooksPick'. -/
def fnBooksPickCard : Claim7 := { stood := { row := fnBooksPickRow, standIns := [], harness := (true, "5ced6f0e468f245bbd2123f750bebfe57ef4cbc805a7bf257c6f21f7f96e9c99"), looks := false }, kinds := [], alts := [], laidByText := true, laidKinds := [.data, .data, .data], laidTests := true, laidLooks := .later }
def FnBooksPickCardSaid : Prop := Claim7.holds Tryd.pinned (.plain (OpenSpec.ofChange fnBooksPickSpec)) fnBooksPickCard

/-- THE TIED CARD OF 'laws.FnBookPlaces'. -/
def fnBookPlacesCard : Claim7 := { stood := { row := fnBookPlacesRow, standIns := [], harness := (true, "5ced6f0e468f245bbd2123f750bebfe57ef4cbc805a7bf257c6f21f7f96e9c99"), looks := false }, kinds := [], alts := [], laidByText := true, laidKinds := [.data, .data, .data], laidTests := true, laidLooks := .later }
def FnBookPlacesCardSaid : Prop := Claim7.holds Tryd.pinned (.plain (OpenSpec.ofChange fnBookPlacesSpec)) fnBookPlacesCard

/-- THE SECOND FORM's CARD OF 'laws.FnCoinsFor'. -/
def fnCoinsForUptoCard : Claim7 := { stood := { row := fnCoinsForUptoRow, standIns := [], harness := (true, "5ced6f0e468f245bbd2123f750bebfe57ef4cbc805a7bf257c6f21f7f96e9c99"), looks := false }, kinds := [], alts := [], laidByText := true, laidKinds := [.data, .data, .data], laidTests := true, laidLooks := .later }
def FnCoinsForUptoCardSaid : Prop := Claim7.holds Tryd.pinned (.plain (OpenSpec.upto fnCoinsForSpec)) fnCoinsForUptoCard

/-- THE SECOND FORM's CARD OF 'laws.FnChangeFrom'. -/
def fnChangeFromUptoCard : Claim7 := { stood := { row := fnChangeFromUptoRow, standIns := [], harness := (true, "5ced6f0e468f245bbd2123f750bebfe57ef4cbc805a7bf257c6f21f7f96e9c99"), looks := false }, kinds := [], alts := [], laidByText := true, laidKinds := [.data, .data, .data], laidTests := true, laidLooks := .later }
def FnChangeFromUptoCardSaid : Prop := Claim7.holds Tryd.pinned (.plain (OpenSpec.upto fnChangeFromSpec)) fnChangeFromUptoCard

/-- THE SECOND FORM's CARD OF 'laws.FnBooksPick'. -/
def fnBooksPickUptoCard : Claim7 := { stood := { row := fnBooksPickUptoRow, standIns := [], harness := (true, "5ced6f0e468f245bbd2123f750bebfe57ef4cbc805a7bf257c6f21f7f96e9c99"), looks := false }, kinds := [], alts := [], laidByText := true, laidKinds := [.data, .data, .data], laidTests := true, laidLooks := .later }
def FnBooksPickUptoCardSaid : Prop := Claim7.holds Tryd.pinned (.plain (OpenSpec.upto fnBooksPickSpec)) fnBooksPickUptoCard

/-- THE SECOND FORM's CARD OF 'laws.FnBookPlaces'. -/
def fnBookPlacesUptoCard : Claim7 := { stood := { row := fnBookPlacesUptoRow, standIns := [], harness := (true, "5ced6f0e468f245bbd2123f750bebfe57ef4cbc805a7bf257c6f21f7f96e9c99"), looks := false }, kinds := [], alts := [], laidByText := true, laidKinds := [.data, .data, .data], laidTests := true, laidLooks := .later }
def FnBookPlacesUptoCardSaid : Prop := Claim7.holds Tryd.pinned (.plain (OpenSpec.upto fnBookPlacesSpec)) fnBookPlacesUptoCard
end Rows
end Go.Proofs.YtghfdkalblipgaaDoor
