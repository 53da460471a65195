/-
  DERIVED. GIVEN WITH THE SEED: THE CARDS: each row of YtolnjpnaoeeanaaDoorRows.lean that lists a variable, with what it lists TIED to the program's text (the seventh form; the later family's looks); each row that meets fmt, with fmt's text TOLD by the authors' own Lean function (tested against real Go, not proved from fmt's source: count such statements apart). THE CARD IS WHAT COUNTS. Prove the row's statement (the work); the ties are given (YtolnjpnaoeeanaaDoorTie.lean); close each card by the builder's one call (the guide's Derived/Test/ToyasCard.lean, 'card_holds'). Laid BY PROGRAM, IN A SANDBOX (cutbox-door.mjs). By AI agents, Wed Nov 11 2026. No macro, syntax, notation, axiom, sorry.
-/
import Derived.Test.YtolnjpnaoeeanaaDoorRows
import GoSem.ClaimSeven
namespace Go.Proofs.YtolnjpnaoeeanaaDoor
namespace Rows

/-- THE TIED CARD OF 'laws.FnStayValid'. -/
def fnStayValidCard : Claim7 := { stood := { row := fnStayValidRow, standIns := [], harness := (true, "4cf8d425a07d520247e54d6f589aecd364fee2c9c0ed6680512a4efae52826d4"), looks := false }, kinds := [], alts := [], laidByText := true, laidKinds := [.data, .data, .data], laidTests := true, laidLooks := .later }
def FnStayValidCardSaid : Prop := Claim7.holds Tryd.pinned (.plain (OpenSpec.ofChange fnStayValidSpec)) fnStayValidCard

/-- THE TIED CARD OF 'laws.FnTariffValid'. -/
def fnTariffValidCard : Claim7 := { stood := { row := fnTariffValidRow, standIns := [], harness := (true, "4cf8d425a07d520247e54d6f589aecd364fee2c9c0ed6680512a4efae52826d4"), looks := false }, kinds := [], alts := [], laidByText := true, laidKinds := [.data, .data, .data], laidTests := true, laidLooks := .later }
def FnTariffValidCardSaid : Prop := Claim7.holds Tryd.pinned (.plain (OpenSpec.ofChange fnTariffValidSpec)) fnTariffValidCard

/-- THE TIED CARD OF 'laws.FnBookValid'. -/
def fnBookValidCard : Claim7 := { stood := { row := fnBookValidRow, standIns := [], harness := (true, "4cf8d425a07d520247e54d6f589aecd364fee2c9c0ed6680512a4efae52826d4"), looks := false }, kinds := [], alts := [], laidByText := true, laidKinds := [.data, .data, .data], laidTests := true, laidLooks := .later }
def FnBookValidCardSaid : Prop := Claim7.holds Tryd.pinned (.plain (OpenSpec.ofChange fnBookValidSpec)) fnBookValidCard

/-- THE TIED CARD OF 'laws.FnOverlap'. -/
def fnOverlapCard : Claim7 := { stood := { row := fnOverlapRow, standIns := [], harness := (true, "4cf8d425a07d520247e54d6f589aecd364fee2c9c0ed6680512a4efae52826d4"), looks := false }, kinds := [], alts := [], laidByText := true, laidKinds := [.data, .data, .data], laidTests := true, laidLooks := .later }
def FnOverlapCardSaid : Prop := Claim7.holds Tryd.pinned (.plain (OpenSpec.ofChange fnOverlapSpec)) fnOverlapCard

/-- THE TIED CARD OF 'laws.FnFeeSteps'. -/
def fnFeeStepsCard : Claim7 := { stood := { row := fnFeeStepsRow, standIns := [], harness := (true, "4cf8d425a07d520247e54d6f589aecd364fee2c9c0ed6680512a4efae52826d4"), looks := false }, kinds := [], alts := [], laidByText := true, laidKinds := [.data, .data, .data], laidTests := true, laidLooks := .later }
def FnFeeStepsCardSaid : Prop := Claim7.holds Tryd.pinned (.plain (OpenSpec.ofChange fnFeeStepsSpec)) fnFeeStepsCard

/-- THE TIED CARD OF 'laws.FnCoinsValid'. -/
def fnCoinsValidCard : Claim7 := { stood := { row := fnCoinsValidRow, standIns := [], harness := (true, "4cf8d425a07d520247e54d6f589aecd364fee2c9c0ed6680512a4efae52826d4"), looks := false }, kinds := [], alts := [], laidByText := true, laidKinds := [.data, .data, .data], laidTests := true, laidLooks := .later }
def FnCoinsValidCardSaid : Prop := Claim7.holds Tryd.pinned (.plain (OpenSpec.ofChange fnCoinsValidSpec)) fnCoinsValidCard

/-- THE TIED CARD OF 'laws.FnFeeOf'. -/
def fnFeeOfCard : Claim7 := { stood := { row := fnFeeOfRow, standIns := [], harness := (true, "4cf8d425a07d520247e54d6f589aecd364fee2c9c0ed6680512a4efae52826d4"), looks := false }, kinds := [], alts := [], laidByText := true, laidKinds := [.data, .data, .data], laidTests := true, laidLooks := .later }
def FnFeeOfCardSaid : Prop := Claim7.holds Tryd.pinned (.plain (OpenSpec.ofChange fnFeeOfSpec)) fnFeeOfCard

/-- THE TIED CARD OF 'laws.FnBooksAt'. -/
def fnBooksAtCard : Claim7 := { stood := { row := fnBooksAtRow, standIns := [], harness := (true, "4cf8d425a07d520247e54d6f589aecd364fee2c9c0ed6680512a4efae52826d4"), looks := false }, kinds := [], alts := [], laidByText := true, laidKinds := [.data, .data, .data], laidTests := true, laidLooks := .later }
def FnBooksAtCardSaid : Prop := Claim7.holds Tryd.pinned (.plain (OpenSpec.ofChange fnBooksAtSpec)) fnBooksAtCard

/-- THE TIED CARD OF 'laws.FnFeeLong'. -/
def fnFeeLongCard : Claim7 := { stood := { row := fnFeeLongRow, standIns := [], harness := (true, "4cf8d425a07d520247e54d6f589aecd364fee2c9c0ed6680512a4efae52826d4"), looks := false }, kinds := [], alts := [], laidByText := true, laidKinds := [.data, .data, .data], laidTests := true, laidLooks := .later }
def FnFeeLongCardSaid : Prop := Claim7.holds Tryd.pinned (.plain (OpenSpec.ofChange fnFeeLongSpec)) fnFeeLongCard

/-- THE TIED CARD OF 'laws.FnBooksValid'. -/
def fnBooksValidCard : Claim7 := { stood := { row := fnBooksValidRow, standIns := [], harness := (true, "4cf8d425a07d520247e54d6f589aecd364fee2c9c0ed6680512a4efae52826d4"), looks := false }, kinds := [], alts := [], laidByText := true, laidKinds := [.data, .data, .data], laidTests := true, laidLooks := .later }
def FnBooksValidCardSaid : Prop := Claim7.holds Tryd.pinned (.plain (OpenSpec.ofChange fnBooksValidSpec)) fnBooksValidCard

/-- THE TIED CARD OF 'laws.FnCoinSum'. -/
def fnCoinSumCard : Claim7 := { stood := { row := fnCoinSumRow, standIns := [], harness := (true, "4cf8d425a07d520247e54d6f589aecd364fee2c9c0ed6680512a4efae52826d4"), looks := false }, kinds := [], alts := [], laidByText := true, laidKinds := [.data, .data, .data], laidTests := true, laidLooks := .later }
def FnCoinSumCardSaid : Prop := Claim7.holds Tryd.pinned (.plain (OpenSpec.ofChange fnCoinSumSpec)) fnCoinSumCard

/-- THE TIED CARD OF 'laws.FnCheapTariff'. -/
def fnCheapTariffCard : Claim7 := { stood := { row := fnCheapTariffRow, standIns := [], harness := (true, "4cf8d425a07d520247e54d6f589aecd364fee2c9c0ed6680512a4efae52826d4"), looks := false }, kinds := [], alts := [], laidByText := true, laidKinds := [.data, .data, .data], laidTests := true, laidLooks := .later }
def FnCheapTariffCardSaid : Prop := Claim7.holds Tryd.pinned (.plain (OpenSpec.ofChange fnCheapTariffSpec)) fnCheapTariffCard

/-- THE SECOND FORM's CARD OF 'laws.FnStayValid'. -/
def fnStayValidUptoCard : Claim7 := { stood := { row := fnStayValidUptoRow, standIns := [], harness := (true, "4cf8d425a07d520247e54d6f589aecd364fee2c9c0ed6680512a4efae52826d4"), looks := false }, kinds := [], alts := [], laidByText := true, laidKinds := [.data, .data, .data], laidTests := true, laidLooks := .later }
def FnStayValidUptoCardSaid : Prop := Claim7.holds Tryd.pinned (.plain (OpenSpec.upto fnStayValidSpec)) fnStayValidUptoCard

/-- THE SECOND FORM's CARD OF 'laws.FnTariffValid'. -/
def fnTariffValidUptoCard : Claim7 := { stood := { row := fnTariffValidUptoRow, standIns := [], harness := (true, "4cf8d425a07d520247e54d6f589aecd364fee2c9c0ed6680512a4efae52826d4"), looks := false }, kinds := [], alts := [], laidByText := true, laidKinds := [.data, .data, .data], laidTests := true, laidLooks := .later }
def FnTariffValidUptoCardSaid : Prop := Claim7.holds Tryd.pinned (.plain (OpenSpec.upto fnTariffValidSpec)) fnTariffValidUptoCard

/-- THE SECOND FORM's CARD OF 'laws.FnBookValid'. -/
def fnBookValidUptoCard : Claim7 := { stood := { row := fnBookValidUptoRow, standIns := [], harness := (true, "4cf8d425a07d520247e54d6f589aecd364fee2c9c0ed6680512a4efae52826d4"), looks := false }, kinds := [], alts := [], laidByText := true, laidKinds := [.data, .data, .data], laidTests := true, laidLooks := .later }
def FnBookValidUptoCardSaid : Prop := Claim7.holds Tryd.pinned (.plain (OpenSpec.upto fnBookValidSpec)) fnBookValidUptoCard

/-- THE SECOND FORM's CARD OF 'laws.FnOverlap'. -/
def fnOverlapUptoCard : Claim7 := { stood := { row := fnOverlapUptoRow, standIns := [], harness := (true, "4cf8d425a07d520247e54d6f589aecd364fee2c9c0ed6680512a4efae52826d4"), looks := false }, kinds := [], alts := [], laidByText := true, laidKinds := [.data, .data, .data], laidTests := true, laidLooks := .later }
def FnOverlapUptoCardSaid : Prop := Claim7.holds Tryd.pinned (.plain (OpenSpec.upto fnOverlapSpec)) fnOverlapUptoCard

/-- THE SECOND FORM's CARD OF 'laws.FnFeeSteps'. -/
def fnFeeStepsUptoCard : Claim7 := { stood := { row := fnFeeStepsUptoRow, standIns := [], harness := (true, "4cf8d425a07d520247e54d6f589aecd364fee2c9c0ed6680512a4efae52826d4"), looks := false }, kinds := [], alts := [], laidByText := true, laidKinds := [.data, .data, .data], laidTests := true, laidLooks := .later }
def FnFeeStepsUptoCardSaid : Prop := Claim7.holds Tryd.pinned (.plain (OpenSpec.upto fnFeeStepsSpec)) fnFeeStepsUptoCard

/-- THE SECOND FORM's CARD OF 'laws.FnCoinsValid'. -/
def fnCoinsValidUptoCard : Claim7 := { stood := { row := fnCoinsValidUptoRow, standIns := [], harness := (true, "4cf8d425a07d520247e54d6f589aecd364fee2c9c0ed6680512a4efae52826d4"), looks := false }, kinds := [], alts := [], laidByText := true, laidKinds := [.data, .data, .data], laidTests := true, laidLooks := .later }
def FnCoinsValidUptoCardSaid : Prop := Claim7.holds Tryd.pinned (.plain (OpenSpec.upto fnCoinsValidSpec)) fnCoinsValidUptoCard

/-- THE SECOND FORM's CARD OF 'laws.FnFeeOf'. -/
def fnFeeOfUptoCard : Claim7 := { stood := { row := fnFeeOfUptoRow, standIns := [], harness := (true, "4cf8d425a07d520247e54d6f589aecd364fee2c9c0ed6680512a4efae52826d4"), looks := false }, kinds := [], alts := [], laidByText := true, laidKinds := [.data, .data, .data], laidTests := true, laidLooks := .later }
def FnFeeOfUptoCardSaid : Prop := Claim7.holds Tryd.pinned (.plain (OpenSpec.upto fnFeeOfSpec)) fnFeeOfUptoCard

/-- THE SECOND FORM's CARD OF 'laws.FnBooksAt'. -/
def fnBooksAtUptoCard : Claim7 := { stood := { row := fnBooksAtUptoRow, standIns := [], harness := (true, "4cf8d425a07d520247e54d6f589aecd364fee2c9c0ed6680512a4efae52826d4"), looks := false }, kinds := [], alts := [], laidByText := true, laidKinds := [.data, .data, .data], laidTests := true, laidLooks := .later }
def FnBooksAtUptoCardSaid : Prop := Claim7.holds Tryd.pinned (.plain (OpenSpec.upto fnBooksAtSpec)) fnBooksAtUptoCard

/-- THE SECOND FORM's CARD OF 'laws.FnFeeLong'. -/
def fnFeeLongUptoCard : Claim7 := { stood := { row := fnFeeLongUptoRow, standIns := [], harness := (true, "4cf8d425a07d520247e54d6f589aecd364fee2c9c0ed6680512a4efae52826d4"), looks := false }, kinds := [], alts := [], laidByText := true, laidKinds := [.data, .data, .data], laidTests := true, laidLooks := .later }
def FnFeeLongUptoCardSaid : Prop := Claim7.holds Tryd.pinned (.plain (OpenSpec.upto fnFeeLongSpec)) fnFeeLongUptoCard

/-- THE SECOND FORM's CARD OF 'laws.FnBooksValid'. -/
def fnBooksValidUptoCard : Claim7 := { stood := { row := fnBooksValidUptoRow, standIns := [], harness := (true, "4cf8d425a07d520247e54d6f589aecd364fee2c9c0ed6680512a4efae52826d4"), looks := false }, kinds := [], alts := [], laidByText := true, laidKinds := [.data, .data, .data], laidTests := true, laidLooks := .later }
def FnBooksValidUptoCardSaid : Prop := Claim7.holds Tryd.pinned (.plain (OpenSpec.upto fnBooksValidSpec)) fnBooksValidUptoCard

/-- THE SECOND FORM's CARD OF 'laws.FnCoinSum'. -/
def fnCoinSumUptoCard : Claim7 := { stood := { row := fnCoinSumUptoRow, standIns := [], harness := (true, "4cf8d425a07d520247e54d6f589aecd364fee2c9c0ed6680512a4efae52826d4"), looks := false }, kinds := [], alts := [], laidByText := true, laidKinds := [.data, .data, .data], laidTests := true, laidLooks := .later }
def FnCoinSumUptoCardSaid : Prop := Claim7.holds Tryd.pinned (.plain (OpenSpec.upto fnCoinSumSpec)) fnCoinSumUptoCard

/-- THE SECOND FORM's CARD OF 'laws.FnCheapTariff'. -/
def fnCheapTariffUptoCard : Claim7 := { stood := { row := fnCheapTariffUptoRow, standIns := [], harness := (true, "4cf8d425a07d520247e54d6f589aecd364fee2c9c0ed6680512a4efae52826d4"), looks := false }, kinds := [], alts := [], laidByText := true, laidKinds := [.data, .data, .data], laidTests := true, laidLooks := .later }
def FnCheapTariffUptoCardSaid : Prop := Claim7.holds Tryd.pinned (.plain (OpenSpec.upto fnCheapTariffSpec)) fnCheapTariffUptoCard
end Rows
end Go.Proofs.YtolnjpnaoeeanaaDoor
