/-
  DERIVED. GIVEN WITH THE SEED: THE CARDS: each row of YtjijaejlcbailaaDoorRows.lean that lists a variable, with what it lists TIED to the program's text (the seventh form; the later family's looks); each row that meets fmt, with fmt's text TOLD by the authors' own Lean function (tested against real Go, not proved from fmt's source: count such statements apart). THE CARD IS WHAT COUNTS. Prove the row's statement (the work); the ties are given (YtjijaejlcbailaaDoorTie.lean); close each card by the builder's one call (the guide's Derived/Test/ToyasCard.lean, 'card_holds'). Laid BY PROGRAM, IN A SANDBOX (cutbox-door.mjs). By AI agents, Wed Nov 11 2026. No macro, syntax, notation, axiom, sorry.
-/
import Derived.Test.YtjijaejlcbailaaDoorRows
import GoSem.ClaimSeven
namespace Go.Proofs.YtjijaejlcbailaaDoor
namespace Rows

/-- THE TIED CARD OF 'laws.FnBooksValid'. -/
def fnBooksValidCard : Claim7 := { stood := { row := fnBooksValidRow, standIns := [], harness := (true, "ca974819b1ba6a1c2c0d9e8b74cf5b79dac3caa4140e3387406a66d1ff3bddba"), looks := false }, kinds := [], alts := [], laidByText := true, laidKinds := [.data, .data, .data], laidTests := true, laidLooks := .later }
def FnBooksValidCardSaid : Prop := Claim7.holds Tryd.pinned (.plain (OpenSpec.ofChange fnBooksValidSpec)) fnBooksValidCard

/-- THE TIED CARD OF 'laws.FnCoinsValid'. -/
def fnCoinsValidCard : Claim7 := { stood := { row := fnCoinsValidRow, standIns := [], harness := (true, "ca974819b1ba6a1c2c0d9e8b74cf5b79dac3caa4140e3387406a66d1ff3bddba"), looks := false }, kinds := [], alts := [], laidByText := true, laidKinds := [.data, .data, .data], laidTests := true, laidLooks := .later }
def FnCoinsValidCardSaid : Prop := Claim7.holds Tryd.pinned (.plain (OpenSpec.ofChange fnCoinsValidSpec)) fnCoinsValidCard

/-- THE TIED CARD OF 'laws.FnCoinSum'. -/
def fnCoinSumCard : Claim7 := { stood := { row := fnCoinSumRow, standIns := [], harness := (true, "ca974819b1ba6a1c2c0d9e8b74cf5b79dac3caa4140e3387406a66d1ff3bddba"), looks := false }, kinds := [], alts := [], laidByText := true, laidKinds := [.data, .data, .data], laidTests := true, laidLooks := .later }
def FnCoinSumCardSaid : Prop := Claim7.holds Tryd.pinned (.plain (OpenSpec.ofChange fnCoinSumSpec)) fnCoinSumCard

/-- THE TIED CARD OF 'laws.FnCheapTariff'. -/
def fnCheapTariffCard : Claim7 := { stood := { row := fnCheapTariffRow, standIns := [], harness := (true, "ca974819b1ba6a1c2c0d9e8b74cf5b79dac3caa4140e3387406a66d1ff3bddba"), looks := false }, kinds := [], alts := [], laidByText := true, laidKinds := [.data, .data, .data], laidTests := true, laidLooks := .later }
def FnCheapTariffCardSaid : Prop := Claim7.holds Tryd.pinned (.plain (OpenSpec.ofChange fnCheapTariffSpec)) fnCheapTariffCard

/-- THE TIED CARD OF 'laws.FnBooksMost'. -/
def fnBooksMostCard : Claim7 := { stood := { row := fnBooksMostRow, standIns := [], harness := (true, "ca974819b1ba6a1c2c0d9e8b74cf5b79dac3caa4140e3387406a66d1ff3bddba"), looks := false }, kinds := [], alts := [], laidByText := true, laidKinds := [.data, .data, .data], laidTests := true, laidLooks := .later }
def FnBooksMostCardSaid : Prop := Claim7.holds Tryd.pinned (.plain (OpenSpec.ofChange fnBooksMostSpec)) fnBooksMostCard

/-- THE TIED CARD OF 'laws.FnCoinsLeast'. -/
def fnCoinsLeastCard : Claim7 := { stood := { row := fnCoinsLeastRow, standIns := [], harness := (true, "ca974819b1ba6a1c2c0d9e8b74cf5b79dac3caa4140e3387406a66d1ff3bddba"), looks := false }, kinds := [], alts := [], laidByText := true, laidKinds := [.data, .data, .data], laidTests := true, laidLooks := .later }
def FnCoinsLeastCardSaid : Prop := Claim7.holds Tryd.pinned (.plain (OpenSpec.ofChange fnCoinsLeastSpec)) fnCoinsLeastCard

/-- THE TIED CARD OF 'laws.FnCoinsGreedy'. -/
def fnCoinsGreedyCard : Claim7 := { stood := { row := fnCoinsGreedyRow, standIns := [], harness := (true, "ca974819b1ba6a1c2c0d9e8b74cf5b79dac3caa4140e3387406a66d1ff3bddba"), looks := false }, kinds := [], alts := [], laidByText := true, laidKinds := [.data, .data, .data], laidTests := true, laidLooks := .later }
def FnCoinsGreedyCardSaid : Prop := Claim7.holds Tryd.pinned (.plain (OpenSpec.ofChange fnCoinsGreedySpec)) fnCoinsGreedyCard

/-- THE TIED CARD OF 'laws.FnGreedySafe'. -/
def fnGreedySafeCard : Claim7 := { stood := { row := fnGreedySafeRow, standIns := [], harness := (true, "ca974819b1ba6a1c2c0d9e8b74cf5b79dac3caa4140e3387406a66d1ff3bddba"), looks := false }, kinds := [], alts := [], laidByText := true, laidKinds := [.data, .data, .data], laidTests := true, laidLooks := .later }
def FnGreedySafeCardSaid : Prop := Claim7.holds Tryd.pinned (.plain (OpenSpec.ofChange fnGreedySafeSpec)) fnGreedySafeCard

/-- THE TIED CARD OF 'laws.FnCoinsFor'. -/
def fnCoinsForCard : Claim7 := { stood := { row := fnCoinsForRow, standIns := [], harness := (true, "ca974819b1ba6a1c2c0d9e8b74cf5b79dac3caa4140e3387406a66d1ff3bddba"), looks := false }, kinds := [], alts := [], laidByText := true, laidKinds := [.data, .data, .data], laidTests := true, laidLooks := .later }
def FnCoinsForCardSaid : Prop := Claim7.holds Tryd.pinned (.plain (OpenSpec.ofChange fnCoinsForSpec)) fnCoinsForCard

/-- THE TIED CARD OF 'laws.FnChangeFrom'. -/
def fnChangeFromCard : Claim7 := { stood := { row := fnChangeFromRow, standIns := [], harness := (true, "ca974819b1ba6a1c2c0d9e8b74cf5b79dac3caa4140e3387406a66d1ff3bddba"), looks := false }, kinds := [], alts := [], laidByText := true, laidKinds := [.data, .data, .data], laidTests := true, laidLooks := .later }
def FnChangeFromCardSaid : Prop := Claim7.holds Tryd.pinned (.plain (OpenSpec.ofChange fnChangeFromSpec)) fnChangeFromCard

/-- THE TIED CARD OF 'laws.FnBooksValue'. -/
def fnBooksValueCard : Claim7 := { stood := { row := fnBooksValueRow, standIns := [], harness := (true, "ca974819b1ba6a1c2c0d9e8b74cf5b79dac3caa4140e3387406a66d1ff3bddba"), looks := false }, kinds := [], alts := [], laidByText := true, laidKinds := [.data, .data, .data], laidTests := true, laidLooks := .later }
def FnBooksValueCardSaid : Prop := Claim7.holds Tryd.pinned (.plain (OpenSpec.ofChange fnBooksValueSpec)) fnBooksValueCard

/-- THE TIED CARD OF 'laws.FnBooksPick'. -/
def fnBooksPickCard : Claim7 := { stood := { row := fnBooksPickRow, standIns := [], harness := (true, "ca974819b1ba6a1c2c0d9e8b74cf5b79dac3caa4140e3387406a66d1ff3bddba"), looks := false }, kinds := [], alts := [], laidByText := true, laidKinds := [.data, .data, .data], laidTests := true, laidLooks := .later }
def FnBooksPickCardSaid : Prop := Claim7.holds Tryd.pinned (.plain (OpenSpec.ofChange fnBooksPickSpec)) fnBooksPickCard

/-- THE SECOND FORM's CARD OF 'laws.FnBooksValid'. -/
def fnBooksValidUptoCard : Claim7 := { stood := { row := fnBooksValidUptoRow, standIns := [], harness := (true, "ca974819b1ba6a1c2c0d9e8b74cf5b79dac3caa4140e3387406a66d1ff3bddba"), looks := false }, kinds := [], alts := [], laidByText := true, laidKinds := [.data, .data, .data], laidTests := true, laidLooks := .later }
def FnBooksValidUptoCardSaid : Prop := Claim7.holds Tryd.pinned (.plain (OpenSpec.upto fnBooksValidSpec)) fnBooksValidUptoCard

/-- THE SECOND FORM's CARD OF 'laws.FnCoinsValid'. -/
def fnCoinsValidUptoCard : Claim7 := { stood := { row := fnCoinsValidUptoRow, standIns := [], harness := (true, "ca974819b1ba6a1c2c0d9e8b74cf5b79dac3caa4140e3387406a66d1ff3bddba"), looks := false }, kinds := [], alts := [], laidByText := true, laidKinds := [.data, .data, .data], laidTests := true, laidLooks := .later }
def FnCoinsValidUptoCardSaid : Prop := Claim7.holds Tryd.pinned (.plain (OpenSpec.upto fnCoinsValidSpec)) fnCoinsValidUptoCard

/-- THE SECOND FORM's CARD OF 'laws.FnCoinSum'. -/
def fnCoinSumUptoCard : Claim7 := { stood := { row := fnCoinSumUptoRow, standIns := [], harness := (true, "ca974819b1ba6a1c2c0d9e8b74cf5b79dac3caa4140e3387406a66d1ff3bddba"), looks := false }, kinds := [], alts := [], laidByText := true, laidKinds := [.data, .data, .data], laidTests := true, laidLooks := .later }
def FnCoinSumUptoCardSaid : Prop := Claim7.holds Tryd.pinned (.plain (OpenSpec.upto fnCoinSumSpec)) fnCoinSumUptoCard

/-- THE SECOND FORM's CARD OF 'laws.FnCheapTariff'. -/
def fnCheapTariffUptoCard : Claim7 := { stood := { row := fnCheapTariffUptoRow, standIns := [], harness := (true, "ca974819b1ba6a1c2c0d9e8b74cf5b79dac3caa4140e3387406a66d1ff3bddba"), looks := false }, kinds := [], alts := [], laidByText := true, laidKinds := [.data, .data, .data], laidTests := true, laidLooks := .later }
def FnCheapTariffUptoCardSaid : Prop := Claim7.holds Tryd.pinned (.plain (OpenSpec.upto fnCheapTariffSpec)) fnCheapTariffUptoCard

/-- THE SECOND FORM's CARD OF 'laws.FnBooksMost'. -/
def fnBooksMostUptoCard : Claim7 := { stood := { row := fnBooksMostUptoRow, standIns := [], harness := (true, "ca974819b1ba6a1c2c0d9e8b74cf5b79dac3caa4140e3387406a66d1ff3bddba"), looks := false }, kinds := [], alts := [], laidByText := true, laidKinds := [.data, .data, .data], laidTests := true, laidLooks := .later }
def FnBooksMostUptoCardSaid : Prop := Claim7.holds Tryd.pinned (.plain (OpenSpec.upto fnBooksMostSpec)) fnBooksMostUptoCard

/-- THE SECOND FORM's CARD OF 'laws.FnCoinsLeast'. -/
def fnCoinsLeastUptoCard : Claim7 := { stood := { row := fnCoinsLeastUptoRow, standIns := [], harness := (true, "ca974819b1ba6a1c2c0d9e8b74cf5b79dac3caa4140e3387406a66d1ff3bddba"), looks := false }, kinds := [], alts := [], laidByText := true, laidKinds := [.data, .data, .data], laidTests := true, laidLooks := .later }
def FnCoinsLeastUptoCardSaid : Prop := Claim7.holds Tryd.pinned (.plain (OpenSpec.upto fnCoinsLeastSpec)) fnCoinsLeastUptoCard

/-- THE SECOND FORM's CARD OF 'laws.FnCoinsGreedy'. -/
def fnCoinsGreedyUptoCard : Claim7 := { stood := { row := fnCoinsGreedyUptoRow, standIns := [], harness := (true, "ca974819b1ba6a1c2c0d9e8b74cf5b79dac3caa4140e3387406a66d1ff3bddba"), looks := false }, kinds := [], alts := [], laidByText := true, laidKinds := [.data, .data, .data], laidTests := true, laidLooks := .later }
def FnCoinsGreedyUptoCardSaid : Prop := Claim7.holds Tryd.pinned (.plain (OpenSpec.upto fnCoinsGreedySpec)) fnCoinsGreedyUptoCard

/-- THE SECOND FORM's CARD OF 'laws.FnGreedySafe'. -/
def fnGreedySafeUptoCard : Claim7 := { stood := { row := fnGreedySafeUptoRow, standIns := [], harness := (true, "ca974819b1ba6a1c2c0d9e8b74cf5b79dac3caa4140e3387406a66d1ff3bddba"), looks := false }, kinds := [], alts := [], laidByText := true, laidKinds := [.data, .data, .data], laidTests := true, laidLooks := .later }
def FnGreedySafeUptoCardSaid : Prop := Claim7.holds Tryd.pinned (.plain (OpenSpec.upto fnGreedySafeSpec)) fnGreedySafeUptoCard

/-- THE SECOND FORM's CARD OF 'laws.FnCoinsFor'. -/
def fnCoinsForUptoCard : Claim7 := { stood := { row := fnCoinsForUptoRow, standIns := [], harness := (true, "ca974819b1ba6a1c2c0d9e8b74cf5b79dac3caa4140e3387406a66d1ff3bddba"), looks := false }, kinds := [], alts := [], laidByText := true, laidKinds := [.data, .data, .data], laidTests := true, laidLooks := .later }
def FnCoinsForUptoCardSaid : Prop := Claim7.holds Tryd.pinned (.plain (OpenSpec.upto fnCoinsForSpec)) fnCoinsForUptoCard

/-- THE SECOND FORM's CARD OF 'laws.FnChangeFrom'. -/
def fnChangeFromUptoCard : Claim7 := { stood := { row := fnChangeFromUptoRow, standIns := [], harness := (true, "ca974819b1ba6a1c2c0d9e8b74cf5b79dac3caa4140e3387406a66d1ff3bddba"), looks := false }, kinds := [], alts := [], laidByText := true, laidKinds := [.data, .data, .data], laidTests := true, laidLooks := .later }
def FnChangeFromUptoCardSaid : Prop := Claim7.holds Tryd.pinned (.plain (OpenSpec.upto fnChangeFromSpec)) fnChangeFromUptoCard

/-- THE SECOND FORM's CARD OF 'laws.FnBooksValue'. -/
def fnBooksValueUptoCard : Claim7 := { stood := { row := fnBooksValueUptoRow, standIns := [], harness := (true, "ca974819b1ba6a1c2c0d9e8b74cf5b79dac3caa4140e3387406a66d1ff3bddba"), looks := false }, kinds := [], alts := [], laidByText := true, laidKinds := [.data, .data, .data], laidTests := true, laidLooks := .later }
def FnBooksValueUptoCardSaid : Prop := Claim7.holds Tryd.pinned (.plain (OpenSpec.upto fnBooksValueSpec)) fnBooksValueUptoCard

/-- THE SECOND FORM's CARD OF 'laws.FnBooksPick'. -/
def fnBooksPickUptoCard : Claim7 := { stood := { row := fnBooksPickUptoRow, standIns := [], harness := (true, "ca974819b1ba6a1c2c0d9e8b74cf5b79dac3caa4140e3387406a66d1ff3bddba"), looks := false }, kinds := [], alts := [], laidByText := true, laidKinds := [.data, .data, .data], laidTests := true, laidLooks := .later }
def FnBooksPickUptoCardSaid : Prop := Claim7.holds Tryd.pinned (.plain (OpenSpec.upto fnBooksPickSpec)) fnBooksPickUptoCard
end Rows
end Go.Proofs.YtjijaejlcbailaaDoor
