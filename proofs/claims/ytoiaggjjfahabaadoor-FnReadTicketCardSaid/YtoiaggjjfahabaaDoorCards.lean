/-
  DERIVED. GIVEN WITH THE SEED: THE CARDS: each row of YtoiaggjjfahabaaDoorRows.lean that lists a variable, with what it lists TIED to the program's text (the seventh form; the later family's looks); each row that meets fmt, with fmt's text TOLD by the authors' own Lean function (tested against real Go, not proved from fmt's source: count such statements apart). THE CARD IS WHAT COUNTS. Prove the row's statement (the work); the ties are given (YtoiaggjjfahabaaDoorTie.lean); close each card by the builder's one call (the guide's Derived/Test/ToyasCard.lean, 'card_holds'). Laid BY PROGRAM, IN A SANDBOX (cutbox-door.mjs). By AI agents, Wed Nov 11 2026. No macro, syntax, notation, axiom, sorry.
-/
import Derived.Test.YtoiaggjjfahabaaDoorRows
import GoSem.ClaimSeven
namespace Go.Proofs.YtoiaggjjfahabaaDoor
namespace Rows

/-- THE TIED CARD OF 'laws.FnExactTicketText'. -/
def fnExactTicketTextCard : Claim7 := { stood := { row := fnExactTicketTextRow, standIns := [], harness := (true, "0711cf96ce0f2098587e2d847a5bc1147ce2ebbfcc0b93b52925bace56be5487"), looks := false }, kinds := [], alts := [], laidByText := true, laidKinds := [.data, .data, .data], laidTests := true, laidLooks := .later }
def FnExactTicketTextCardSaid : Prop := Claim7.holds Tryd.pinned (.plain (OpenSpec.ofChange fnExactTicketTextSpec)) fnExactTicketTextCard

/-- THE TIED CARD OF 'laws.FnExactReadTicket'. -/
def fnExactReadTicketCard : Claim7 := { stood := { row := fnExactReadTicketRow, standIns := [], harness := (true, "0711cf96ce0f2098587e2d847a5bc1147ce2ebbfcc0b93b52925bace56be5487"), looks := false }, kinds := [], alts := [], laidByText := true, laidKinds := [.data, .data, .data], laidTests := true, laidLooks := .later }
def FnExactReadTicketCardSaid : Prop := Claim7.holds Tryd.pinned (.plain (OpenSpec.ofChange fnExactReadTicketSpec)) fnExactReadTicketCard

/-- THE TIED CARD OF 'laws.FnChangeFrom'. -/
def fnChangeFromCard : Claim7 := { stood := { row := fnChangeFromRow, standIns := [], harness := (true, "0711cf96ce0f2098587e2d847a5bc1147ce2ebbfcc0b93b52925bace56be5487"), looks := false }, kinds := [], alts := [], laidByText := true, laidKinds := [.data, .data, .data], laidTests := true, laidLooks := .later }
def FnChangeFromCardSaid : Prop := Claim7.holds Tryd.pinned (.plain (OpenSpec.ofChange fnChangeFromSpec)) fnChangeFromCard

/-- THE TIED CARD OF 'laws.FnCheapLoads'. -/
def fnCheapLoadsCard : Claim7 := { stood := { row := fnCheapLoadsRow, standIns := [], harness := (true, "0711cf96ce0f2098587e2d847a5bc1147ce2ebbfcc0b93b52925bace56be5487"), looks := false }, kinds := [], alts := [], laidByText := true, laidKinds := [.data, .data, .data], laidTests := true, laidLooks := .later }
def FnCheapLoadsCardSaid : Prop := Claim7.holds Tryd.pinned (.plain (OpenSpec.ofChange fnCheapLoadsSpec)) fnCheapLoadsCard

/-- THE TIED CARD OF 'laws.FnCheapCost'. -/
def fnCheapCostCard : Claim7 := { stood := { row := fnCheapCostRow, standIns := [], harness := (true, "0711cf96ce0f2098587e2d847a5bc1147ce2ebbfcc0b93b52925bace56be5487"), looks := false }, kinds := [], alts := [], laidByText := true, laidKinds := [.data, .data, .data], laidTests := true, laidLooks := .later }
def FnCheapCostCardSaid : Prop := Claim7.holds Tryd.pinned (.plain (OpenSpec.ofChange fnCheapCostSpec)) fnCheapCostCard

/-- THE TIED CARD OF 'laws.FnTicketText'. -/
def fnTicketTextCard : Claim7 := { stood := { row := fnTicketTextRow, standIns := [], harness := (true, "0711cf96ce0f2098587e2d847a5bc1147ce2ebbfcc0b93b52925bace56be5487"), looks := false }, kinds := [], alts := [], laidByText := true, laidKinds := [.data, .data, .data], laidTests := true, laidLooks := .later }
def FnTicketTextCardSaid : Prop := Claim7.holds Tryd.pinned (.plain (OpenSpec.ofChange fnTicketTextSpec)) fnTicketTextCard

/-- THE TIED CARD OF 'laws.FnReadTicket'. -/
def fnReadTicketCard : Claim7 := { stood := { row := fnReadTicketRow, standIns := [], harness := (true, "0711cf96ce0f2098587e2d847a5bc1147ce2ebbfcc0b93b52925bace56be5487"), looks := false }, kinds := [], alts := [], laidByText := true, laidKinds := [.data, .data, .data], laidTests := true, laidLooks := .later }
def FnReadTicketCardSaid : Prop := Claim7.holds Tryd.pinned (.plain (OpenSpec.ofChange fnReadTicketSpec)) fnReadTicketCard

/-- THE TIED CARD OF 'laws.FnBookPlaces'. -/
def fnBookPlacesCard : Claim7 := { stood := { row := fnBookPlacesRow, standIns := [], harness := (true, "0711cf96ce0f2098587e2d847a5bc1147ce2ebbfcc0b93b52925bace56be5487"), looks := false }, kinds := [], alts := [], laidByText := true, laidKinds := [.data, .data, .data], laidTests := true, laidLooks := .later }
def FnBookPlacesCardSaid : Prop := Claim7.holds Tryd.pinned (.plain (OpenSpec.ofChange fnBookPlacesSpec)) fnBookPlacesCard

/-- THE SECOND FORM's CARD OF 'laws.FnExactTicketText'. -/
def fnExactTicketTextUptoCard : Claim7 := { stood := { row := fnExactTicketTextUptoRow, standIns := [], harness := (true, "0711cf96ce0f2098587e2d847a5bc1147ce2ebbfcc0b93b52925bace56be5487"), looks := false }, kinds := [], alts := [], laidByText := true, laidKinds := [.data, .data, .data], laidTests := true, laidLooks := .later }
def FnExactTicketTextUptoCardSaid : Prop := Claim7.holds Tryd.pinned (.plain (OpenSpec.upto fnExactTicketTextSpec)) fnExactTicketTextUptoCard

/-- THE SECOND FORM's CARD OF 'laws.FnExactReadTicket'. -/
def fnExactReadTicketUptoCard : Claim7 := { stood := { row := fnExactReadTicketUptoRow, standIns := [], harness := (true, "0711cf96ce0f2098587e2d847a5bc1147ce2ebbfcc0b93b52925bace56be5487"), looks := false }, kinds := [], alts := [], laidByText := true, laidKinds := [.data, .data, .data], laidTests := true, laidLooks := .later }
def FnExactReadTicketUptoCardSaid : Prop := Claim7.holds Tryd.pinned (.plain (OpenSpec.upto fnExactReadTicketSpec)) fnExactReadTicketUptoCard

/-- THE SECOND FORM's CARD OF 'laws.FnChangeFrom'. -/
def fnChangeFromUptoCard : Claim7 := { stood := { row := fnChangeFromUptoRow, standIns := [], harness := (true, "0711cf96ce0f2098587e2d847a5bc1147ce2ebbfcc0b93b52925bace56be5487"), looks := false }, kinds := [], alts := [], laidByText := true, laidKinds := [.data, .data, .data], laidTests := true, laidLooks := .later }
def FnChangeFromUptoCardSaid : Prop := Claim7.holds Tryd.pinned (.plain (OpenSpec.upto fnChangeFromSpec)) fnChangeFromUptoCard

/-- THE SECOND FORM's CARD OF 'laws.FnCheapLoads'. -/
def fnCheapLoadsUptoCard : Claim7 := { stood := { row := fnCheapLoadsUptoRow, standIns := [], harness := (true, "0711cf96ce0f2098587e2d847a5bc1147ce2ebbfcc0b93b52925bace56be5487"), looks := false }, kinds := [], alts := [], laidByText := true, laidKinds := [.data, .data, .data], laidTests := true, laidLooks := .later }
def FnCheapLoadsUptoCardSaid : Prop := Claim7.holds Tryd.pinned (.plain (OpenSpec.upto fnCheapLoadsSpec)) fnCheapLoadsUptoCard

/-- THE SECOND FORM's CARD OF 'laws.FnCheapCost'. -/
def fnCheapCostUptoCard : Claim7 := { stood := { row := fnCheapCostUptoRow, standIns := [], harness := (true, "0711cf96ce0f2098587e2d847a5bc1147ce2ebbfcc0b93b52925bace56be5487"), looks := false }, kinds := [], alts := [], laidByText := true, laidKinds := [.data, .data, .data], laidTests := true, laidLooks := .later }
def FnCheapCostUptoCardSaid : Prop := Claim7.holds Tryd.pinned (.plain (OpenSpec.upto fnCheapCostSpec)) fnCheapCostUptoCard

/-- THE SECOND FORM's CARD OF 'laws.FnTicketText'. -/
def fnTicketTextUptoCard : Claim7 := { stood := { row := fnTicketTextUptoRow, standIns := [], harness := (true, "0711cf96ce0f2098587e2d847a5bc1147ce2ebbfcc0b93b52925bace56be5487"), looks := false }, kinds := [], alts := [], laidByText := true, laidKinds := [.data, .data, .data], laidTests := true, laidLooks := .later }
def FnTicketTextUptoCardSaid : Prop := Claim7.holds Tryd.pinned (.plain (OpenSpec.upto fnTicketTextSpec)) fnTicketTextUptoCard

/-- THE SECOND FORM's CARD OF 'laws.FnReadTicket'. -/
def fnReadTicketUptoCard : Claim7 := { stood := { row := fnReadTicketUptoRow, standIns := [], harness := (true, "0711cf96ce0f2098587e2d847a5bc1147ce2ebbfcc0b93b52925bace56be5487"), looks := false }, kinds := [], alts := [], laidByText := true, laidKinds := [.data, .data, .data], laidTests := true, laidLooks := .later }
def FnReadTicketUptoCardSaid : Prop := Claim7.holds Tryd.pinned (.plain (OpenSpec.upto fnReadTicketSpec)) fnReadTicketUptoCard

/-- THE SECOND FORM's CARD OF 'laws.FnBookPlaces'. -/
def fnBookPlacesUptoCard : Claim7 := { stood := { row := fnBookPlacesUptoRow, standIns := [], harness := (true, "0711cf96ce0f2098587e2d847a5bc1147ce2ebbfcc0b93b52925bace56be5487"), looks := false }, kinds := [], alts := [], laidByText := true, laidKinds := [.data, .data, .data], laidTests := true, laidLooks := .later }
def FnBookPlacesUptoCardSaid : Prop := Claim7.holds Tryd.pinned (.plain (OpenSpec.upto fnBookPlacesSpec)) fnBookPlacesUptoCard
end Rows
end Go.Proofs.YtoiaggjjfahabaaDoor
