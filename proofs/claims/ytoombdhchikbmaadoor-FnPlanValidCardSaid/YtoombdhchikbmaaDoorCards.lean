/-
  DERIVED. GIVEN WITH THE SEED: THE CARDS: each row of YtoombdhchikbmaaDoorRows.lean that lists a variable, with what it lists TIED to the program's text (the seventh form; the later family's looks); each row that meets fmt, with fmt's text TOLD by the authors' own Lean function (tested against real Go, not proved from fmt's source: count such statements apart). THE CARD IS WHAT COUNTS. Prove the row's statement (the work); the ties are given (YtoombdhchikbmaaDoorTie.lean); close each card by the builder's one call (the guide's Derived/Test/ToyasCard.lean, 'card_holds'). Laid BY PROGRAM, IN A SANDBOX (cutbox-door.mjs). By AI agents, Wed Nov 11 2026. No macro, syntax, notation, axiom, sorry.
-/
import Derived.Test.YtoombdhchikbmaaDoorRows
import GoSem.ClaimSeven
namespace Go.Proofs.YtoombdhchikbmaaDoor
namespace Rows

/-- THE TIED CARD OF 'laws.FnExactTicketText'. -/
def fnExactTicketTextCard : Claim7 := { stood := { row := fnExactTicketTextRow, standIns := [], harness := (true, "de28e97e740ba11054979f6ca2adf19674c86feec823d11bfbb5a47bcec530e8"), looks := false }, kinds := [], alts := [], laidByText := true, laidKinds := [.data, .data, .data], laidTests := true, laidLooks := .later }
def FnExactTicketTextCardSaid : Prop := Claim7.holds Tryd.pinned (.plain (OpenSpec.ofChange fnExactTicketTextSpec)) fnExactTicketTextCard

/-- THE TIED CARD OF 'laws.FnExactReadTicket'. -/
def fnExactReadTicketCard : Claim7 := { stood := { row := fnExactReadTicketRow, standIns := [], harness := (true, "de28e97e740ba11054979f6ca2adf19674c86feec823d11bfbb5a47bcec530e8"), looks := false }, kinds := [], alts := [], laidByText := true, laidKinds := [.data, .data, .data], laidTests := true, laidLooks := .later }
def FnExactReadTicketCardSaid : Prop := Claim7.holds Tryd.pinned (.plain (OpenSpec.ofChange fnExactReadTicketSpec)) fnExactReadTicketCard

/-- THE TIED CARD OF 'laws.FnTicketText'. -/
def fnTicketTextCard : Claim7 := { stood := { row := fnTicketTextRow, standIns := [], harness := (true, "de28e97e740ba11054979f6ca2adf19674c86feec823d11bfbb5a47bcec530e8"), looks := false }, kinds := [], alts := [], laidByText := true, laidKinds := [.data, .data, .data], laidTests := true, laidLooks := .later }
def FnTicketTextCardSaid : Prop := Claim7.holds Tryd.pinned (.plain (OpenSpec.ofChange fnTicketTextSpec)) fnTicketTextCard

/-- THE TIED CARD OF 'laws.FnReadTicket'. -/
def fnReadTicketCard : Claim7 := { stood := { row := fnReadTicketRow, standIns := [], harness := (true, "de28e97e740ba11054979f6ca2adf19674c86feec823d11bfbb5a47bcec530e8"), looks := false }, kinds := [], alts := [], laidByText := true, laidKinds := [.data, .data, .data], laidTests := true, laidLooks := .later }
def FnReadTicketCardSaid : Prop := Claim7.holds Tryd.pinned (.plain (OpenSpec.ofChange fnReadTicketSpec)) fnReadTicketCard

/-- THE TIED CARD OF 'laws.FnEnough'. -/
def fnEnoughCard : Claim7 := { stood := { row := fnEnoughRow, standIns := [], harness := (true, "de28e97e740ba11054979f6ca2adf19674c86feec823d11bfbb5a47bcec530e8"), looks := false }, kinds := [], alts := [], laidByText := true, laidKinds := [.data, .data, .data], laidTests := true, laidLooks := .later }
def FnEnoughCardSaid : Prop := Claim7.holds Tryd.pinned (.plain (OpenSpec.ofChange fnEnoughSpec)) fnEnoughCard

/-- THE TIED CARD OF 'laws.FnTightHours'. -/
def fnTightHoursCard : Claim7 := { stood := { row := fnTightHoursRow, standIns := [], harness := (true, "de28e97e740ba11054979f6ca2adf19674c86feec823d11bfbb5a47bcec530e8"), looks := false }, kinds := [], alts := [], laidByText := true, laidKinds := [.data, .data, .data], laidTests := true, laidLooks := .later }
def FnTightHoursCardSaid : Prop := Claim7.holds Tryd.pinned (.plain (OpenSpec.ofChange fnTightHoursSpec)) fnTightHoursCard

/-- THE TIED CARD OF 'laws.FnCheapLoads'. -/
def fnCheapLoadsCard : Claim7 := { stood := { row := fnCheapLoadsRow, standIns := [], harness := (true, "de28e97e740ba11054979f6ca2adf19674c86feec823d11bfbb5a47bcec530e8"), looks := false }, kinds := [], alts := [], laidByText := true, laidKinds := [.data, .data, .data], laidTests := true, laidLooks := .later }
def FnCheapLoadsCardSaid : Prop := Claim7.holds Tryd.pinned (.plain (OpenSpec.ofChange fnCheapLoadsSpec)) fnCheapLoadsCard

/-- THE TIED CARD OF 'laws.FnMostUnits'. -/
def fnMostUnitsCard : Claim7 := { stood := { row := fnMostUnitsRow, standIns := [], harness := (true, "de28e97e740ba11054979f6ca2adf19674c86feec823d11bfbb5a47bcec530e8"), looks := false }, kinds := [], alts := [], laidByText := true, laidKinds := [.data, .data, .data], laidTests := true, laidLooks := .later }
def FnMostUnitsCardSaid : Prop := Claim7.holds Tryd.pinned (.plain (OpenSpec.ofChange fnMostUnitsSpec)) fnMostUnitsCard

/-- THE TIED CARD OF 'laws.FnMostPlan'. -/
def fnMostPlanCard : Claim7 := { stood := { row := fnMostPlanRow, standIns := [], harness := (true, "de28e97e740ba11054979f6ca2adf19674c86feec823d11bfbb5a47bcec530e8"), looks := false }, kinds := [], alts := [], laidByText := true, laidKinds := [.data, .data, .data], laidTests := true, laidLooks := .later }
def FnMostPlanCardSaid : Prop := Claim7.holds Tryd.pinned (.plain (OpenSpec.ofChange fnMostPlanSpec)) fnMostPlanCard

/-- THE TIED CARD OF 'laws.FnPlanValid'. -/
def fnPlanValidCard : Claim7 := { stood := { row := fnPlanValidRow, standIns := [], harness := (true, "de28e97e740ba11054979f6ca2adf19674c86feec823d11bfbb5a47bcec530e8"), looks := false }, kinds := [], alts := [], laidByText := true, laidKinds := [.data, .data, .data], laidTests := true, laidLooks := .later }
def FnPlanValidCardSaid : Prop := Claim7.holds Tryd.pinned (.plain (OpenSpec.ofChange fnPlanValidSpec)) fnPlanValidCard

/-- THE TIED CARD OF 'laws.FnCheapCost'. -/
def fnCheapCostCard : Claim7 := { stood := { row := fnCheapCostRow, standIns := [], harness := (true, "de28e97e740ba11054979f6ca2adf19674c86feec823d11bfbb5a47bcec530e8"), looks := false }, kinds := [], alts := [], laidByText := true, laidKinds := [.data, .data, .data], laidTests := true, laidLooks := .later }
def FnCheapCostCardSaid : Prop := Claim7.holds Tryd.pinned (.plain (OpenSpec.ofChange fnCheapCostSpec)) fnCheapCostCard

/-- THE TIED CARD OF 'laws.FnBookPlaces'. -/
def fnBookPlacesCard : Claim7 := { stood := { row := fnBookPlacesRow, standIns := [], harness := (true, "de28e97e740ba11054979f6ca2adf19674c86feec823d11bfbb5a47bcec530e8"), looks := false }, kinds := [], alts := [], laidByText := true, laidKinds := [.data, .data, .data], laidTests := true, laidLooks := .later }
def FnBookPlacesCardSaid : Prop := Claim7.holds Tryd.pinned (.plain (OpenSpec.ofChange fnBookPlacesSpec)) fnBookPlacesCard

/-- THE SECOND FORM's CARD OF 'laws.FnExactTicketText'. -/
def fnExactTicketTextUptoCard : Claim7 := { stood := { row := fnExactTicketTextUptoRow, standIns := [], harness := (true, "de28e97e740ba11054979f6ca2adf19674c86feec823d11bfbb5a47bcec530e8"), looks := false }, kinds := [], alts := [], laidByText := true, laidKinds := [.data, .data, .data], laidTests := true, laidLooks := .later }
def FnExactTicketTextUptoCardSaid : Prop := Claim7.holds Tryd.pinned (.plain (OpenSpec.upto fnExactTicketTextSpec)) fnExactTicketTextUptoCard

/-- THE SECOND FORM's CARD OF 'laws.FnExactReadTicket'. -/
def fnExactReadTicketUptoCard : Claim7 := { stood := { row := fnExactReadTicketUptoRow, standIns := [], harness := (true, "de28e97e740ba11054979f6ca2adf19674c86feec823d11bfbb5a47bcec530e8"), looks := false }, kinds := [], alts := [], laidByText := true, laidKinds := [.data, .data, .data], laidTests := true, laidLooks := .later }
def FnExactReadTicketUptoCardSaid : Prop := Claim7.holds Tryd.pinned (.plain (OpenSpec.upto fnExactReadTicketSpec)) fnExactReadTicketUptoCard

/-- THE SECOND FORM's CARD OF 'laws.FnTicketText'. -/
def fnTicketTextUptoCard : Claim7 := { stood := { row := fnTicketTextUptoRow, standIns := [], harness := (true, "de28e97e740ba11054979f6ca2adf19674c86feec823d11bfbb5a47bcec530e8"), looks := false }, kinds := [], alts := [], laidByText := true, laidKinds := [.data, .data, .data], laidTests := true, laidLooks := .later }
def FnTicketTextUptoCardSaid : Prop := Claim7.holds Tryd.pinned (.plain (OpenSpec.upto fnTicketTextSpec)) fnTicketTextUptoCard

/-- THE SECOND FORM's CARD OF 'laws.FnReadTicket'. -/
def fnReadTicketUptoCard : Claim7 := { stood := { row := fnReadTicketUptoRow, standIns := [], harness := (true, "de28e97e740ba11054979f6ca2adf19674c86feec823d11bfbb5a47bcec530e8"), looks := false }, kinds := [], alts := [], laidByText := true, laidKinds := [.data, .data, .data], laidTests := true, laidLooks := .later }
def FnReadTicketUptoCardSaid : Prop := Claim7.holds Tryd.pinned (.plain (OpenSpec.upto fnReadTicketSpec)) fnReadTicketUptoCard

/-- THE SECOND FORM's CARD OF 'laws.FnEnough'. -/
def fnEnoughUptoCard : Claim7 := { stood := { row := fnEnoughUptoRow, standIns := [], harness := (true, "de28e97e740ba11054979f6ca2adf19674c86feec823d11bfbb5a47bcec530e8"), looks := false }, kinds := [], alts := [], laidByText := true, laidKinds := [.data, .data, .data], laidTests := true, laidLooks := .later }
def FnEnoughUptoCardSaid : Prop := Claim7.holds Tryd.pinned (.plain (OpenSpec.upto fnEnoughSpec)) fnEnoughUptoCard

/-- THE SECOND FORM's CARD OF 'laws.FnTightHours'. -/
def fnTightHoursUptoCard : Claim7 := { stood := { row := fnTightHoursUptoRow, standIns := [], harness := (true, "de28e97e740ba11054979f6ca2adf19674c86feec823d11bfbb5a47bcec530e8"), looks := false }, kinds := [], alts := [], laidByText := true, laidKinds := [.data, .data, .data], laidTests := true, laidLooks := .later }
def FnTightHoursUptoCardSaid : Prop := Claim7.holds Tryd.pinned (.plain (OpenSpec.upto fnTightHoursSpec)) fnTightHoursUptoCard

/-- THE SECOND FORM's CARD OF 'laws.FnCheapLoads'. -/
def fnCheapLoadsUptoCard : Claim7 := { stood := { row := fnCheapLoadsUptoRow, standIns := [], harness := (true, "de28e97e740ba11054979f6ca2adf19674c86feec823d11bfbb5a47bcec530e8"), looks := false }, kinds := [], alts := [], laidByText := true, laidKinds := [.data, .data, .data], laidTests := true, laidLooks := .later }
def FnCheapLoadsUptoCardSaid : Prop := Claim7.holds Tryd.pinned (.plain (OpenSpec.upto fnCheapLoadsSpec)) fnCheapLoadsUptoCard

/-- THE SECOND FORM's CARD OF 'laws.FnMostUnits'. -/
def fnMostUnitsUptoCard : Claim7 := { stood := { row := fnMostUnitsUptoRow, standIns := [], harness := (true, "de28e97e740ba11054979f6ca2adf19674c86feec823d11bfbb5a47bcec530e8"), looks := false }, kinds := [], alts := [], laidByText := true, laidKinds := [.data, .data, .data], laidTests := true, laidLooks := .later }
def FnMostUnitsUptoCardSaid : Prop := Claim7.holds Tryd.pinned (.plain (OpenSpec.upto fnMostUnitsSpec)) fnMostUnitsUptoCard

/-- THE SECOND FORM's CARD OF 'laws.FnMostPlan'. -/
def fnMostPlanUptoCard : Claim7 := { stood := { row := fnMostPlanUptoRow, standIns := [], harness := (true, "de28e97e740ba11054979f6ca2adf19674c86feec823d11bfbb5a47bcec530e8"), looks := false }, kinds := [], alts := [], laidByText := true, laidKinds := [.data, .data, .data], laidTests := true, laidLooks := .later }
def FnMostPlanUptoCardSaid : Prop := Claim7.holds Tryd.pinned (.plain (OpenSpec.upto fnMostPlanSpec)) fnMostPlanUptoCard

/-- THE SECOND FORM's CARD OF 'laws.FnPlanValid'. -/
def fnPlanValidUptoCard : Claim7 := { stood := { row := fnPlanValidUptoRow, standIns := [], harness := (true, "de28e97e740ba11054979f6ca2adf19674c86feec823d11bfbb5a47bcec530e8"), looks := false }, kinds := [], alts := [], laidByText := true, laidKinds := [.data, .data, .data], laidTests := true, laidLooks := .later }
def FnPlanValidUptoCardSaid : Prop := Claim7.holds Tryd.pinned (.plain (OpenSpec.upto fnPlanValidSpec)) fnPlanValidUptoCard

/-- THE SECOND FORM's CARD OF 'laws.FnCheapCost'. -/
def fnCheapCostUptoCard : Claim7 := { stood := { row := fnCheapCostUptoRow, standIns := [], harness := (true, "de28e97e740ba11054979f6ca2adf19674c86feec823d11bfbb5a47bcec530e8"), looks := false }, kinds := [], alts := [], laidByText := true, laidKinds := [.data, .data, .data], laidTests := true, laidLooks := .later }
def FnCheapCostUptoCardSaid : Prop := Claim7.holds Tryd.pinned (.plain (OpenSpec.upto fnCheapCostSpec)) fnCheapCostUptoCard

/-- THE SECOND FORM's CARD OF 'laws.FnBookPlaces'. -/
def fnBookPlacesUptoCard : Claim7 := { stood := { row := fnBookPlacesUptoRow, standIns := [], harness := (true, "de28e97e740ba11054979f6ca2adf19674c86feec823d11bfbb5a47bcec530e8"), looks := false }, kinds := [], alts := [], laidByText := true, laidKinds := [.data, .data, .data], laidTests := true, laidLooks := .later }
def FnBookPlacesUptoCardSaid : Prop := Claim7.holds Tryd.pinned (.plain (OpenSpec.upto fnBookPlacesSpec)) fnBookPlacesUptoCard
end Rows
end Go.Proofs.YtoombdhchikbmaaDoor
