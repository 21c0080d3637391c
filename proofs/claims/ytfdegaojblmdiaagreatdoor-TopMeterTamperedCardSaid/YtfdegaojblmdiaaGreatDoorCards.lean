/-
  DERIVED. GIVEN WITH THE SEED: THE CARDS: each row of YtfdegaojblmdiaaGreatDoorRows.lean that lists a variable, with what it lists TIED to the program's text (the seventh form; the later family's looks); each row that meets fmt, with fmt's text TOLD by the authors' own Lean function (tested against real Go, not proved from fmt's source: count such statements apart). THE CARD IS WHAT COUNTS. Prove the row's statement (the work); the ties are given (YtfdegaojblmdiaaGreatDoorTie.lean); close each card by the builder's one call (the guide's Derived/Test/ToyasCard.lean, 'card_holds'). Laid BY PROGRAM, IN A SANDBOX (cutbox-door.mjs). By AI agents, Wed Nov 11 2026. No macro, syntax, notation, axiom, sorry.
-/
import Derived.Test.YtfdegaojblmdiaaGreatDoorRows
import GoSem.ClaimSeven
namespace Go.Proofs.YtfdegaojblmdiaaGreatDoor
namespace Rows

/-- THE TIED CARD OF 'fiacrelaw02.MeterRises'. -/
def meterRisesCard : Claim7 := { stood := { row := meterRisesRow, standIns := [], harness := (true, "053c707958f8f6d0a278dcb7c1e4b71ef29e98e650e46a6897f571e09eecf087"), looks := true }, kinds := [], alts := [], laidByText := true, laidKinds := [.data, .data, .data, .data, .sentinel, .sentinel, .widerDeep, .data, .pinned], laidTests := true, laidLooks := .later }
def MeterRisesCardSaid : Prop := Claim7.holds Tryz.pinned (.plain (OpenSpec.ofChange meterRisesSpec)) meterRisesCard

/-- THE TIED CARD OF 'fiacrelaw02.MeterFound'. -/
def meterFoundCard : Claim7 := { stood := { row := meterFoundRow, standIns := [], harness := (true, "053c707958f8f6d0a278dcb7c1e4b71ef29e98e650e46a6897f571e09eecf087"), looks := true }, kinds := [], alts := [], laidByText := true, laidKinds := [.data, .data, .data, .data, .sentinel, .sentinel, .widerDeep, .data, .pinned], laidTests := true, laidLooks := .later }
def MeterFoundCardSaid : Prop := Claim7.holds Tryz.pinned (.plain (OpenSpec.ofChange meterFoundSpec)) meterFoundCard

/-- THE TIED CARD OF 'fiacrelaw02.MeterTwoWays'. -/
def meterTwoWaysCard : Claim7 := { stood := { row := meterTwoWaysRow, standIns := [], harness := (true, "053c707958f8f6d0a278dcb7c1e4b71ef29e98e650e46a6897f571e09eecf087"), looks := true }, kinds := [], alts := [], laidByText := true, laidKinds := [.data, .data, .data, .data, .sentinel, .sentinel, .widerDeep, .data, .pinned], laidTests := true, laidLooks := .later }
def MeterTwoWaysCardSaid : Prop := Claim7.holds Tryz.pinned (.plain (OpenSpec.ofChange meterTwoWaysSpec)) meterTwoWaysCard

/-- THE TIED CARD OF 'fiacrelaw02.MeterMessages'. -/
def meterMessagesCard : Claim7 := { stood := { row := meterMessagesRow, standIns := [], harness := (true, "053c707958f8f6d0a278dcb7c1e4b71ef29e98e650e46a6897f571e09eecf087"), looks := true }, kinds := [], alts := [], laidByText := true, laidKinds := [.data, .data, .data, .data, .sentinel, .sentinel, .widerDeep, .data, .pinned], laidTests := true, laidLooks := .later }
def MeterMessagesCardSaid : Prop := Claim7.holds Tryz.pinned (.plain (OpenSpec.ofChange meterMessagesSpec)) meterMessagesCard

/-- THE TIED CARD OF 'fiacrelaw02.MeterIsLaw'. -/
def meterIsLawCard : Claim7 := { stood := { row := meterIsLawRow, standIns := [], harness := (true, "053c707958f8f6d0a278dcb7c1e4b71ef29e98e650e46a6897f571e09eecf087"), looks := true }, kinds := [], alts := [], laidByText := true, laidKinds := [.data, .data, .data, .data, .sentinel, .sentinel, .widerDeep, .data, .pinned], laidTests := true, laidLooks := .later }
def MeterIsLawCardSaid : Prop := Claim7.holds Tryz.pinned (.plain (OpenSpec.ofChange meterIsLawSpec)) meterIsLawCard

/-- THE TIED CARD OF 'fiacretop.TopMeterOneRoad'. -/
def topMeterOneRoadCard : Claim7 := { stood := { row := topMeterOneRoadRow, standIns := [], harness := (true, "053c707958f8f6d0a278dcb7c1e4b71ef29e98e650e46a6897f571e09eecf087"), looks := true }, kinds := [], alts := [], laidByText := true, laidKinds := [.widerDeep, .data], laidTests := true, laidLooks := .later }
def TopMeterOneRoadCardSaid : Prop := Claim7.holds Tryz.pinned (.plain (OpenSpec.ofChange topMeterOneRoadSpec)) topMeterOneRoadCard

/-- THE TIED CARD OF 'fiacrelaw02.MeterCutAnyhow'. -/
def meterCutAnyhowCard : Claim7 := { stood := { row := meterCutAnyhowRow, standIns := [], harness := (true, "053c707958f8f6d0a278dcb7c1e4b71ef29e98e650e46a6897f571e09eecf087"), looks := true }, kinds := [], alts := [], laidByText := true, laidKinds := [.data, .data, .data, .data, .sentinel, .sentinel, .widerDeep, .data, .pinned], laidTests := true, laidLooks := .later }
def MeterCutAnyhowCardSaid : Prop := Claim7.holds Tryz.pinned (.plain (OpenSpec.ofChange meterCutAnyhowSpec)) meterCutAnyhowCard

/-- THE TIED CARD OF 'fiacretop.TopMeterTampered'. -/
def topMeterTamperedCard : Claim7 := { stood := { row := topMeterTamperedRow, standIns := [], harness := (true, "053c707958f8f6d0a278dcb7c1e4b71ef29e98e650e46a6897f571e09eecf087"), looks := true }, kinds := [], alts := [], laidByText := true, laidKinds := [.widerDeep, .data], laidTests := true, laidLooks := .later }
def TopMeterTamperedCardSaid : Prop := Claim7.holds Tryz.pinned (.plain (OpenSpec.ofChange topMeterTamperedSpec)) topMeterTamperedCard

/-- THE TIED CARD OF 'fiacretop.TopMeterIsTariff'. -/
def topMeterIsTariffCard : Claim7 := { stood := { row := topMeterIsTariffRow, standIns := [], harness := (true, "053c707958f8f6d0a278dcb7c1e4b71ef29e98e650e46a6897f571e09eecf087"), looks := true }, kinds := [], alts := [], laidByText := true, laidKinds := [.widerDeep, .data], laidTests := true, laidLooks := .later }
def TopMeterIsTariffCardSaid : Prop := Claim7.holds Tryz.pinned (.plain (OpenSpec.ofChange topMeterIsTariffSpec)) topMeterIsTariffCard

/-- THE SECOND FORM's CARD OF 'fiacrelaw02.MeterRises'. -/
def meterRisesUptoCard : Claim7 := { stood := { row := meterRisesUptoRow, standIns := [], harness := (true, "053c707958f8f6d0a278dcb7c1e4b71ef29e98e650e46a6897f571e09eecf087"), looks := true }, kinds := [], alts := [], laidByText := true, laidKinds := [.data, .data, .data, .data, .sentinel, .sentinel, .widerDeep, .data, .pinned], laidTests := true, laidLooks := .later }
def MeterRisesUptoCardSaid : Prop := Claim7.holds Tryz.pinned (.plain (OpenSpec.upto meterRisesSpec)) meterRisesUptoCard

/-- THE SECOND FORM's CARD OF 'fiacrelaw02.MeterFound'. -/
def meterFoundUptoCard : Claim7 := { stood := { row := meterFoundUptoRow, standIns := [], harness := (true, "053c707958f8f6d0a278dcb7c1e4b71ef29e98e650e46a6897f571e09eecf087"), looks := true }, kinds := [], alts := [], laidByText := true, laidKinds := [.data, .data, .data, .data, .sentinel, .sentinel, .widerDeep, .data, .pinned], laidTests := true, laidLooks := .later }
def MeterFoundUptoCardSaid : Prop := Claim7.holds Tryz.pinned (.plain (OpenSpec.upto meterFoundSpec)) meterFoundUptoCard

/-- THE SECOND FORM's CARD OF 'fiacrelaw02.MeterTwoWays'. -/
def meterTwoWaysUptoCard : Claim7 := { stood := { row := meterTwoWaysUptoRow, standIns := [], harness := (true, "053c707958f8f6d0a278dcb7c1e4b71ef29e98e650e46a6897f571e09eecf087"), looks := true }, kinds := [], alts := [], laidByText := true, laidKinds := [.data, .data, .data, .data, .sentinel, .sentinel, .widerDeep, .data, .pinned], laidTests := true, laidLooks := .later }
def MeterTwoWaysUptoCardSaid : Prop := Claim7.holds Tryz.pinned (.plain (OpenSpec.upto meterTwoWaysSpec)) meterTwoWaysUptoCard

/-- THE SECOND FORM's CARD OF 'fiacrelaw02.MeterMessages'. -/
def meterMessagesUptoCard : Claim7 := { stood := { row := meterMessagesUptoRow, standIns := [], harness := (true, "053c707958f8f6d0a278dcb7c1e4b71ef29e98e650e46a6897f571e09eecf087"), looks := true }, kinds := [], alts := [], laidByText := true, laidKinds := [.data, .data, .data, .data, .sentinel, .sentinel, .widerDeep, .data, .pinned], laidTests := true, laidLooks := .later }
def MeterMessagesUptoCardSaid : Prop := Claim7.holds Tryz.pinned (.plain (OpenSpec.upto meterMessagesSpec)) meterMessagesUptoCard

/-- THE SECOND FORM's CARD OF 'fiacrelaw02.MeterIsLaw'. -/
def meterIsLawUptoCard : Claim7 := { stood := { row := meterIsLawUptoRow, standIns := [], harness := (true, "053c707958f8f6d0a278dcb7c1e4b71ef29e98e650e46a6897f571e09eecf087"), looks := true }, kinds := [], alts := [], laidByText := true, laidKinds := [.data, .data, .data, .data, .sentinel, .sentinel, .widerDeep, .data, .pinned], laidTests := true, laidLooks := .later }
def MeterIsLawUptoCardSaid : Prop := Claim7.holds Tryz.pinned (.plain (OpenSpec.upto meterIsLawSpec)) meterIsLawUptoCard

/-- THE SECOND FORM's CARD OF 'fiacretop.TopMeterOneRoad'. -/
def topMeterOneRoadUptoCard : Claim7 := { stood := { row := topMeterOneRoadUptoRow, standIns := [], harness := (true, "053c707958f8f6d0a278dcb7c1e4b71ef29e98e650e46a6897f571e09eecf087"), looks := true }, kinds := [], alts := [], laidByText := true, laidKinds := [.widerDeep, .data], laidTests := true, laidLooks := .later }
def TopMeterOneRoadUptoCardSaid : Prop := Claim7.holds Tryz.pinned (.plain (OpenSpec.upto topMeterOneRoadSpec)) topMeterOneRoadUptoCard

/-- THE SECOND FORM's CARD OF 'fiacrelaw02.MeterCutAnyhow'. -/
def meterCutAnyhowUptoCard : Claim7 := { stood := { row := meterCutAnyhowUptoRow, standIns := [], harness := (true, "053c707958f8f6d0a278dcb7c1e4b71ef29e98e650e46a6897f571e09eecf087"), looks := true }, kinds := [], alts := [], laidByText := true, laidKinds := [.data, .data, .data, .data, .sentinel, .sentinel, .widerDeep, .data, .pinned], laidTests := true, laidLooks := .later }
def MeterCutAnyhowUptoCardSaid : Prop := Claim7.holds Tryz.pinned (.plain (OpenSpec.upto meterCutAnyhowSpec)) meterCutAnyhowUptoCard

/-- THE SECOND FORM's CARD OF 'fiacretop.TopMeterTampered'. -/
def topMeterTamperedUptoCard : Claim7 := { stood := { row := topMeterTamperedUptoRow, standIns := [], harness := (true, "053c707958f8f6d0a278dcb7c1e4b71ef29e98e650e46a6897f571e09eecf087"), looks := true }, kinds := [], alts := [], laidByText := true, laidKinds := [.widerDeep, .data], laidTests := true, laidLooks := .later }
def TopMeterTamperedUptoCardSaid : Prop := Claim7.holds Tryz.pinned (.plain (OpenSpec.upto topMeterTamperedSpec)) topMeterTamperedUptoCard

/-- THE SECOND FORM's CARD OF 'fiacretop.TopMeterIsTariff'. -/
def topMeterIsTariffUptoCard : Claim7 := { stood := { row := topMeterIsTariffUptoRow, standIns := [], harness := (true, "053c707958f8f6d0a278dcb7c1e4b71ef29e98e650e46a6897f571e09eecf087"), looks := true }, kinds := [], alts := [], laidByText := true, laidKinds := [.widerDeep, .data], laidTests := true, laidLooks := .later }
def TopMeterIsTariffUptoCardSaid : Prop := Claim7.holds Tryz.pinned (.plain (OpenSpec.upto topMeterIsTariffSpec)) topMeterIsTariffUptoCard
end Rows
end Go.Proofs.YtfdegaojblmdiaaGreatDoor
