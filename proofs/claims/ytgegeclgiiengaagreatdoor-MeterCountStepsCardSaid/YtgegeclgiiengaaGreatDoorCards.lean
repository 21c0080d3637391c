/-
  DERIVED. GIVEN WITH THE SEED: THE CARDS: each row of YtgegeclgiiengaaGreatDoorRows.lean that lists a variable, with what it lists TIED to the program's text (the seventh form; the later family's looks); each row that meets fmt, with fmt's text TOLD by the authors' own Lean function (tested against real Go, not proved from fmt's source: count such statements apart). THE CARD IS WHAT COUNTS. Prove the row's statement (the work); the ties are given (YtgegeclgiiengaaGreatDoorTie.lean); close each card by the builder's one call (the guide's Derived/Test/ToyasCard.lean, 'card_holds'). Laid BY PROGRAM, IN A SANDBOX (cutbox-door.mjs). By AI agents, Wed Nov 11 2026. No macro, syntax, notation, axiom, sorry.
-/
import Derived.Test.YtgegeclgiiengaaGreatDoorRows
import GoSem.ClaimSeven
namespace Go.Proofs.YtgegeclgiiengaaGreatDoor
namespace Rows

/-- THE TIED CARD OF 'fiacrelaw02.MeterRises'. -/
def meterRisesCard : Claim7 := { stood := { row := meterRisesRow, standIns := [], harness := (true, "0b33c2fb51e57563363a1cdaf555e9b725e775456060360aa6928afda8dbbfd7"), looks := true }, kinds := [], alts := [], laidByText := true, laidKinds := [.data, .data, .data, .data, .sentinel, .sentinel, .widerDeep, .data, .pinned], laidTests := true, laidLooks := .later }
def MeterRisesCardSaid : Prop := Claim7.holds Tryz.pinned (.plain (OpenSpec.ofChange meterRisesSpec)) meterRisesCard

/-- THE TIED CARD OF 'fiacrelaw02.MeterSums'. -/
def meterSumsCard : Claim7 := { stood := { row := meterSumsRow, standIns := [], harness := (true, "0b33c2fb51e57563363a1cdaf555e9b725e775456060360aa6928afda8dbbfd7"), looks := true }, kinds := [], alts := [], laidByText := true, laidKinds := [.data, .data, .data, .data, .sentinel, .sentinel, .widerDeep, .data, .pinned], laidTests := true, laidLooks := .later }
def MeterSumsCardSaid : Prop := Claim7.holds Tryz.pinned (.plain (OpenSpec.ofChange meterSumsSpec)) meterSumsCard

/-- THE TIED CARD OF 'fiacrelaw02.MeterFound'. -/
def meterFoundCard : Claim7 := { stood := { row := meterFoundRow, standIns := [], harness := (true, "0b33c2fb51e57563363a1cdaf555e9b725e775456060360aa6928afda8dbbfd7"), looks := true }, kinds := [], alts := [], laidByText := true, laidKinds := [.data, .data, .data, .data, .sentinel, .sentinel, .widerDeep, .data, .pinned], laidTests := true, laidLooks := .later }
def MeterFoundCardSaid : Prop := Claim7.holds Tryz.pinned (.plain (OpenSpec.ofChange meterFoundSpec)) meterFoundCard

/-- THE TIED CARD OF 'fiacrelaw02.MeterCountSteps'. -/
def meterCountStepsCard : Claim7 := { stood := { row := meterCountStepsRow, standIns := [], harness := (true, "0b33c2fb51e57563363a1cdaf555e9b725e775456060360aa6928afda8dbbfd7"), looks := true }, kinds := [], alts := [], laidByText := true, laidKinds := [.data, .data, .data, .data, .sentinel, .sentinel, .widerDeep, .data, .pinned], laidTests := true, laidLooks := .later }
def MeterCountStepsCardSaid : Prop := Claim7.holds Tryz.pinned (.plain (OpenSpec.ofChange meterCountStepsSpec)) meterCountStepsCard

/-- THE TIED CARD OF 'fiacrelaw02.MeterTracks'. -/
def meterTracksCard : Claim7 := { stood := { row := meterTracksRow, standIns := [], harness := (true, "0b33c2fb51e57563363a1cdaf555e9b725e775456060360aa6928afda8dbbfd7"), looks := true }, kinds := [], alts := [], laidByText := true, laidKinds := [.data, .data, .data, .data, .sentinel, .sentinel, .widerDeep, .data, .pinned], laidTests := true, laidLooks := .later }
def MeterTracksCardSaid : Prop := Claim7.holds Tryz.pinned (.plain (OpenSpec.ofChange meterTracksSpec)) meterTracksCard

/-- THE TIED CARD OF 'fiacrelaw02.MeterTwoWays'. -/
def meterTwoWaysCard : Claim7 := { stood := { row := meterTwoWaysRow, standIns := [], harness := (true, "0b33c2fb51e57563363a1cdaf555e9b725e775456060360aa6928afda8dbbfd7"), looks := true }, kinds := [], alts := [], laidByText := true, laidKinds := [.data, .data, .data, .data, .sentinel, .sentinel, .widerDeep, .data, .pinned], laidTests := true, laidLooks := .later }
def MeterTwoWaysCardSaid : Prop := Claim7.holds Tryz.pinned (.plain (OpenSpec.ofChange meterTwoWaysSpec)) meterTwoWaysCard

/-- THE TIED CARD OF 'fiacrelaw02.MeterTests'. -/
def meterTestsCard : Claim7 := { stood := { row := meterTestsRow, standIns := [], harness := (true, "0b33c2fb51e57563363a1cdaf555e9b725e775456060360aa6928afda8dbbfd7"), looks := true }, kinds := [], alts := [], laidByText := true, laidKinds := [.data, .data, .data, .data, .sentinel, .sentinel, .widerDeep, .data, .pinned], laidTests := true, laidLooks := .later }
def MeterTestsCardSaid : Prop := Claim7.holds Tryz.pinned (.plain (OpenSpec.ofChange meterTestsSpec)) meterTestsCard

/-- THE SECOND FORM's CARD OF 'fiacrelaw02.MeterRises'. -/
def meterRisesUptoCard : Claim7 := { stood := { row := meterRisesUptoRow, standIns := [], harness := (true, "0b33c2fb51e57563363a1cdaf555e9b725e775456060360aa6928afda8dbbfd7"), looks := true }, kinds := [], alts := [], laidByText := true, laidKinds := [.data, .data, .data, .data, .sentinel, .sentinel, .widerDeep, .data, .pinned], laidTests := true, laidLooks := .later }
def MeterRisesUptoCardSaid : Prop := Claim7.holds Tryz.pinned (.plain (OpenSpec.upto meterRisesSpec)) meterRisesUptoCard

/-- THE SECOND FORM's CARD OF 'fiacrelaw02.MeterSums'. -/
def meterSumsUptoCard : Claim7 := { stood := { row := meterSumsUptoRow, standIns := [], harness := (true, "0b33c2fb51e57563363a1cdaf555e9b725e775456060360aa6928afda8dbbfd7"), looks := true }, kinds := [], alts := [], laidByText := true, laidKinds := [.data, .data, .data, .data, .sentinel, .sentinel, .widerDeep, .data, .pinned], laidTests := true, laidLooks := .later }
def MeterSumsUptoCardSaid : Prop := Claim7.holds Tryz.pinned (.plain (OpenSpec.upto meterSumsSpec)) meterSumsUptoCard

/-- THE SECOND FORM's CARD OF 'fiacrelaw02.MeterFound'. -/
def meterFoundUptoCard : Claim7 := { stood := { row := meterFoundUptoRow, standIns := [], harness := (true, "0b33c2fb51e57563363a1cdaf555e9b725e775456060360aa6928afda8dbbfd7"), looks := true }, kinds := [], alts := [], laidByText := true, laidKinds := [.data, .data, .data, .data, .sentinel, .sentinel, .widerDeep, .data, .pinned], laidTests := true, laidLooks := .later }
def MeterFoundUptoCardSaid : Prop := Claim7.holds Tryz.pinned (.plain (OpenSpec.upto meterFoundSpec)) meterFoundUptoCard

/-- THE SECOND FORM's CARD OF 'fiacrelaw02.MeterCountSteps'. -/
def meterCountStepsUptoCard : Claim7 := { stood := { row := meterCountStepsUptoRow, standIns := [], harness := (true, "0b33c2fb51e57563363a1cdaf555e9b725e775456060360aa6928afda8dbbfd7"), looks := true }, kinds := [], alts := [], laidByText := true, laidKinds := [.data, .data, .data, .data, .sentinel, .sentinel, .widerDeep, .data, .pinned], laidTests := true, laidLooks := .later }
def MeterCountStepsUptoCardSaid : Prop := Claim7.holds Tryz.pinned (.plain (OpenSpec.upto meterCountStepsSpec)) meterCountStepsUptoCard

/-- THE SECOND FORM's CARD OF 'fiacrelaw02.MeterTracks'. -/
def meterTracksUptoCard : Claim7 := { stood := { row := meterTracksUptoRow, standIns := [], harness := (true, "0b33c2fb51e57563363a1cdaf555e9b725e775456060360aa6928afda8dbbfd7"), looks := true }, kinds := [], alts := [], laidByText := true, laidKinds := [.data, .data, .data, .data, .sentinel, .sentinel, .widerDeep, .data, .pinned], laidTests := true, laidLooks := .later }
def MeterTracksUptoCardSaid : Prop := Claim7.holds Tryz.pinned (.plain (OpenSpec.upto meterTracksSpec)) meterTracksUptoCard

/-- THE SECOND FORM's CARD OF 'fiacrelaw02.MeterTwoWays'. -/
def meterTwoWaysUptoCard : Claim7 := { stood := { row := meterTwoWaysUptoRow, standIns := [], harness := (true, "0b33c2fb51e57563363a1cdaf555e9b725e775456060360aa6928afda8dbbfd7"), looks := true }, kinds := [], alts := [], laidByText := true, laidKinds := [.data, .data, .data, .data, .sentinel, .sentinel, .widerDeep, .data, .pinned], laidTests := true, laidLooks := .later }
def MeterTwoWaysUptoCardSaid : Prop := Claim7.holds Tryz.pinned (.plain (OpenSpec.upto meterTwoWaysSpec)) meterTwoWaysUptoCard

/-- THE SECOND FORM's CARD OF 'fiacrelaw02.MeterTests'. -/
def meterTestsUptoCard : Claim7 := { stood := { row := meterTestsUptoRow, standIns := [], harness := (true, "0b33c2fb51e57563363a1cdaf555e9b725e775456060360aa6928afda8dbbfd7"), looks := true }, kinds := [], alts := [], laidByText := true, laidKinds := [.data, .data, .data, .data, .sentinel, .sentinel, .widerDeep, .data, .pinned], laidTests := true, laidLooks := .later }
def MeterTestsUptoCardSaid : Prop := Claim7.holds Tryz.pinned (.plain (OpenSpec.upto meterTestsSpec)) meterTestsUptoCard
end Rows
end Go.Proofs.YtgegeclgiiengaaGreatDoor
