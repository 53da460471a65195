/-
  DERIVED. GIVEN WITH THE SEED: THE CARDS: each row of YtnagghnmlcnbnaaDoorRows.lean that lists a variable, with what it lists TIED to the program's text (the seventh form; the later family's looks); each row that meets fmt, with fmt's text TOLD by the authors' own Lean function (tested against real Go, not proved from fmt's source: count such statements apart). THE CARD IS WHAT COUNTS. Prove the row's statement (the work); the ties are given (YtnagghnmlcnbnaaDoorTie.lean); close each card by the builder's one call (the guide's Derived/Test/ToyasCard.lean, 'card_holds'). Laid BY PROGRAM, IN A SANDBOX (cutbox-door.mjs). By AI agents, Wed Nov 11 2026. No macro, syntax, notation, axiom, sorry.
-/
import Derived.Test.YtnagghnmlcnbnaaDoorRows
import GoSem.ClaimSeven
namespace Go.Proofs.YtnagghnmlcnbnaaDoor
namespace Rows

/-- THE TIED CARD OF 'laws.FnStayDue'. -/
def fnStayDueCard : Claim7 := { stood := { row := fnStayDueRow, standIns := [], harness := (true, "b26ca11c0e53c0ed221d2c1b522cb1ccf5c6120f2958ba952403f454fc6e385c"), looks := false }, kinds := [], alts := [], laidByText := true, laidKinds := [.data, .data, .data], laidTests := true, laidLooks := .later }
def FnStayDueCardSaid : Prop := Claim7.holds Tryd.pinned (.plain (OpenSpec.ofChange fnStayDueSpec)) fnStayDueCard

/-- THE TIED CARD OF 'laws.FnPayStay'. -/
def fnPayStayCard : Claim7 := { stood := { row := fnPayStayRow, standIns := [], harness := (true, "b26ca11c0e53c0ed221d2c1b522cb1ccf5c6120f2958ba952403f454fc6e385c"), looks := false }, kinds := [], alts := [], laidByText := true, laidKinds := [.data, .data, .data], laidTests := true, laidLooks := .later }
def FnPayStayCardSaid : Prop := Claim7.holds Tryd.pinned (.plain (OpenSpec.ofChange fnPayStaySpec)) fnPayStayCard

/-- THE TIED CARD OF 'laws.FnMayLeave'. -/
def fnMayLeaveCard : Claim7 := { stood := { row := fnMayLeaveRow, standIns := [], harness := (true, "b26ca11c0e53c0ed221d2c1b522cb1ccf5c6120f2958ba952403f454fc6e385c"), looks := false }, kinds := [], alts := [], laidByText := true, laidKinds := [.data, .data, .data], laidTests := true, laidLooks := .later }
def FnMayLeaveCardSaid : Prop := Claim7.holds Tryd.pinned (.plain (OpenSpec.ofChange fnMayLeaveSpec)) fnMayLeaveCard

/-- THE TIED CARD OF 'laws.FnBooksMost'. -/
def fnBooksMostCard : Claim7 := { stood := { row := fnBooksMostRow, standIns := [], harness := (true, "b26ca11c0e53c0ed221d2c1b522cb1ccf5c6120f2958ba952403f454fc6e385c"), looks := false }, kinds := [], alts := [], laidByText := true, laidKinds := [.data, .data, .data], laidTests := true, laidLooks := .later }
def FnBooksMostCardSaid : Prop := Claim7.holds Tryd.pinned (.plain (OpenSpec.ofChange fnBooksMostSpec)) fnBooksMostCard

/-- THE TIED CARD OF 'laws.FnCoinsLeast'. -/
def fnCoinsLeastCard : Claim7 := { stood := { row := fnCoinsLeastRow, standIns := [], harness := (true, "b26ca11c0e53c0ed221d2c1b522cb1ccf5c6120f2958ba952403f454fc6e385c"), looks := false }, kinds := [], alts := [], laidByText := true, laidKinds := [.data, .data, .data], laidTests := true, laidLooks := .later }
def FnCoinsLeastCardSaid : Prop := Claim7.holds Tryd.pinned (.plain (OpenSpec.ofChange fnCoinsLeastSpec)) fnCoinsLeastCard

/-- THE TIED CARD OF 'laws.FnCoinsGreedy'. -/
def fnCoinsGreedyCard : Claim7 := { stood := { row := fnCoinsGreedyRow, standIns := [], harness := (true, "b26ca11c0e53c0ed221d2c1b522cb1ccf5c6120f2958ba952403f454fc6e385c"), looks := false }, kinds := [], alts := [], laidByText := true, laidKinds := [.data, .data, .data], laidTests := true, laidLooks := .later }
def FnCoinsGreedyCardSaid : Prop := Claim7.holds Tryd.pinned (.plain (OpenSpec.ofChange fnCoinsGreedySpec)) fnCoinsGreedyCard

/-- THE TIED CARD OF 'laws.FnBooksValue'. -/
def fnBooksValueCard : Claim7 := { stood := { row := fnBooksValueRow, standIns := [], harness := (true, "b26ca11c0e53c0ed221d2c1b522cb1ccf5c6120f2958ba952403f454fc6e385c"), looks := false }, kinds := [], alts := [], laidByText := true, laidKinds := [.data, .data, .data], laidTests := true, laidLooks := .later }
def FnBooksValueCardSaid : Prop := Claim7.holds Tryd.pinned (.plain (OpenSpec.ofChange fnBooksValueSpec)) fnBooksValueCard

/-- THE TIED CARD OF 'laws.FnBooksPick'. -/
def fnBooksPickCard : Claim7 := { stood := { row := fnBooksPickRow, standIns := [], harness := (true, "b26ca11c0e53c0ed221d2c1b522cb1ccf5c6120f2958ba952403f454fc6e385c"), looks := false }, kinds := [], alts := [], laidByText := true, laidKinds := [.data, .data, .data], laidTests := true, laidLooks := .later }
def FnBooksPickCardSaid : Prop := Claim7.holds Tryd.pinned (.plain (OpenSpec.ofChange fnBooksPickSpec)) fnBooksPickCard

/-- THE TIED CARD OF 'laws.FnGreedySafe'. -/
def fnGreedySafeCard : Claim7 := { stood := { row := fnGreedySafeRow, standIns := [], harness := (true, "b26ca11c0e53c0ed221d2c1b522cb1ccf5c6120f2958ba952403f454fc6e385c"), looks := false }, kinds := [], alts := [], laidByText := true, laidKinds := [.data, .data, .data], laidTests := true, laidLooks := .later }
def FnGreedySafeCardSaid : Prop := Claim7.holds Tryd.pinned (.plain (OpenSpec.ofChange fnGreedySafeSpec)) fnGreedySafeCard

/-- THE TIED CARD OF 'laws.FnTicketText'. -/
def fnTicketTextCard : Claim7 := { stood := { row := fnTicketTextRow, standIns := [], harness := (true, "b26ca11c0e53c0ed221d2c1b522cb1ccf5c6120f2958ba952403f454fc6e385c"), looks := false }, kinds := [], alts := [], laidByText := true, laidKinds := [.data, .data, .data], laidTests := true, laidLooks := .later }
def FnTicketTextCardSaid : Prop := Claim7.holds Tryd.pinned (.plain (OpenSpec.ofChange fnTicketTextSpec)) fnTicketTextCard

/-- THE TIED CARD OF 'laws.FnReadTicket'. -/
def fnReadTicketCard : Claim7 := { stood := { row := fnReadTicketRow, standIns := [], harness := (true, "b26ca11c0e53c0ed221d2c1b522cb1ccf5c6120f2958ba952403f454fc6e385c"), looks := false }, kinds := [], alts := [], laidByText := true, laidKinds := [.data, .data, .data], laidTests := true, laidLooks := .later }
def FnReadTicketCardSaid : Prop := Claim7.holds Tryd.pinned (.plain (OpenSpec.ofChange fnReadTicketSpec)) fnReadTicketCard

/-- THE TIED CARD OF 'laws.FnCoinsFor'. -/
def fnCoinsForCard : Claim7 := { stood := { row := fnCoinsForRow, standIns := [], harness := (true, "b26ca11c0e53c0ed221d2c1b522cb1ccf5c6120f2958ba952403f454fc6e385c"), looks := false }, kinds := [], alts := [], laidByText := true, laidKinds := [.data, .data, .data], laidTests := true, laidLooks := .later }
def FnCoinsForCardSaid : Prop := Claim7.holds Tryd.pinned (.plain (OpenSpec.ofChange fnCoinsForSpec)) fnCoinsForCard

/-- THE SECOND FORM's CARD OF 'laws.FnStayDue'. -/
def fnStayDueUptoCard : Claim7 := { stood := { row := fnStayDueUptoRow, standIns := [], harness := (true, "b26ca11c0e53c0ed221d2c1b522cb1ccf5c6120f2958ba952403f454fc6e385c"), looks := false }, kinds := [], alts := [], laidByText := true, laidKinds := [.data, .data, .data], laidTests := true, laidLooks := .later }
def FnStayDueUptoCardSaid : Prop := Claim7.holds Tryd.pinned (.plain (OpenSpec.upto fnStayDueSpec)) fnStayDueUptoCard

/-- THE SECOND FORM's CARD OF 'laws.FnPayStay'. -/
def fnPayStayUptoCard : Claim7 := { stood := { row := fnPayStayUptoRow, standIns := [], harness := (true, "b26ca11c0e53c0ed221d2c1b522cb1ccf5c6120f2958ba952403f454fc6e385c"), looks := false }, kinds := [], alts := [], laidByText := true, laidKinds := [.data, .data, .data], laidTests := true, laidLooks := .later }
def FnPayStayUptoCardSaid : Prop := Claim7.holds Tryd.pinned (.plain (OpenSpec.upto fnPayStaySpec)) fnPayStayUptoCard

/-- THE SECOND FORM's CARD OF 'laws.FnMayLeave'. -/
def fnMayLeaveUptoCard : Claim7 := { stood := { row := fnMayLeaveUptoRow, standIns := [], harness := (true, "b26ca11c0e53c0ed221d2c1b522cb1ccf5c6120f2958ba952403f454fc6e385c"), looks := false }, kinds := [], alts := [], laidByText := true, laidKinds := [.data, .data, .data], laidTests := true, laidLooks := .later }
def FnMayLeaveUptoCardSaid : Prop := Claim7.holds Tryd.pinned (.plain (OpenSpec.upto fnMayLeaveSpec)) fnMayLeaveUptoCard

/-- THE SECOND FORM's CARD OF 'laws.FnBooksMost'. -/
def fnBooksMostUptoCard : Claim7 := { stood := { row := fnBooksMostUptoRow, standIns := [], harness := (true, "b26ca11c0e53c0ed221d2c1b522cb1ccf5c6120f2958ba952403f454fc6e385c"), looks := false }, kinds := [], alts := [], laidByText := true, laidKinds := [.data, .data, .data], laidTests := true, laidLooks := .later }
def FnBooksMostUptoCardSaid : Prop := Claim7.holds Tryd.pinned (.plain (OpenSpec.upto fnBooksMostSpec)) fnBooksMostUptoCard

/-- THE SECOND FORM's CARD OF 'laws.FnCoinsLeast'. -/
def fnCoinsLeastUptoCard : Claim7 := { stood := { row := fnCoinsLeastUptoRow, standIns := [], harness := (true, "b26ca11c0e53c0ed221d2c1b522cb1ccf5c6120f2958ba952403f454fc6e385c"), looks := false }, kinds := [], alts := [], laidByText := true, laidKinds := [.data, .data, .data], laidTests := true, laidLooks := .later }
def FnCoinsLeastUptoCardSaid : Prop := Claim7.holds Tryd.pinned (.plain (OpenSpec.upto fnCoinsLeastSpec)) fnCoinsLeastUptoCard

/-- THE SECOND FORM's CARD OF 'laws.FnCoinsGreedy'. -/
def fnCoinsGreedyUptoCard : Claim7 := { stood := { row := fnCoinsGreedyUptoRow, standIns := [], harness := (true, "b26ca11c0e53c0ed221d2c1b522cb1ccf5c6120f2958ba952403f454fc6e385c"), looks := false }, kinds := [], alts := [], laidByText := true, laidKinds := [.data, .data, .data], laidTests := true, laidLooks := .later }
def FnCoinsGreedyUptoCardSaid : Prop := Claim7.holds Tryd.pinned (.plain (OpenSpec.upto fnCoinsGreedySpec)) fnCoinsGreedyUptoCard

/-- THE SECOND FORM's CARD OF 'laws.FnBooksValue'. -/
def fnBooksValueUptoCard : Claim7 := { stood := { row := fnBooksValueUptoRow, standIns := [], harness := (true, "b26ca11c0e53c0ed221d2c1b522cb1ccf5c6120f2958ba952403f454fc6e385c"), looks := false }, kinds := [], alts := [], laidByText := true, laidKinds := [.data, .data, .data], laidTests := true, laidLooks := .later }
def FnBooksValueUptoCardSaid : Prop := Claim7.holds Tryd.pinned (.plain (OpenSpec.upto fnBooksValueSpec)) fnBooksValueUptoCard

/-- THE SECOND FORM's CARD OF 'laws.FnBooksPick'. -/
def fnBooksPickUptoCard : Claim7 := { stood := { row := fnBooksPickUptoRow, standIns := [], harness := (true, "b26ca11c0e53c0ed221d2c1b522cb1ccf5c6120f2958ba952403f454fc6e385c"), looks := false }, kinds := [], alts := [], laidByText := true, laidKinds := [.data, .data, .data], laidTests := true, laidLooks := .later }
def FnBooksPickUptoCardSaid : Prop := Claim7.holds Tryd.pinned (.plain (OpenSpec.upto fnBooksPickSpec)) fnBooksPickUptoCard

/-- THE SECOND FORM's CARD OF 'laws.FnGreedySafe'. -/
def fnGreedySafeUptoCard : Claim7 := { stood := { row := fnGreedySafeUptoRow, standIns := [], harness := (true, "b26ca11c0e53c0ed221d2c1b522cb1ccf5c6120f2958ba952403f454fc6e385c"), looks := false }, kinds := [], alts := [], laidByText := true, laidKinds := [.data, .data, .data], laidTests := true, laidLooks := .later }
def FnGreedySafeUptoCardSaid : Prop := Claim7.holds Tryd.pinned (.plain (OpenSpec.upto fnGreedySafeSpec)) fnGreedySafeUptoCard

/-- THE SECOND FORM's CARD OF 'laws.FnTicketText'. -/
def fnTicketTextUptoCard : Claim7 := { stood := { row := fnTicketTextUptoRow, standIns := [], harness := (true, "b26ca11c0e53c0ed221d2c1b522cb1ccf5c6120f2958ba952403f454fc6e385c"), looks := false }, kinds := [], alts := [], laidByText := true, laidKinds := [.data, .data, .data], laidTests := true, laidLooks := .later }
def FnTicketTextUptoCardSaid : Prop := Claim7.holds Tryd.pinned (.plain (OpenSpec.upto fnTicketTextSpec)) fnTicketTextUptoCard

/-- THE SECOND FORM's CARD OF 'laws.FnReadTicket'. -/
def fnReadTicketUptoCard : Claim7 := { stood := { row := fnReadTicketUptoRow, standIns := [], harness := (true, "b26ca11c0e53c0ed221d2c1b522cb1ccf5c6120f2958ba952403f454fc6e385c"), looks := false }, kinds := [], alts := [], laidByText := true, laidKinds := [.data, .data, .data], laidTests := true, laidLooks := .later }
def FnReadTicketUptoCardSaid : Prop := Claim7.holds Tryd.pinned (.plain (OpenSpec.upto fnReadTicketSpec)) fnReadTicketUptoCard

/-- THE SECOND FORM's CARD OF 'laws.FnCoinsFor'. -/
def fnCoinsForUptoCard : Claim7 := { stood := { row := fnCoinsForUptoRow, standIns := [], harness := (true, "b26ca11c0e53c0ed221d2c1b522cb1ccf5c6120f2958ba952403f454fc6e385c"), looks := false }, kinds := [], alts := [], laidByText := true, laidKinds := [.data, .data, .data], laidTests := true, laidLooks := .later }
def FnCoinsForUptoCardSaid : Prop := Claim7.holds Tryd.pinned (.plain (OpenSpec.upto fnCoinsForSpec)) fnCoinsForUptoCard
end Rows
end Go.Proofs.YtnagghnmlcnbnaaDoor
