/-
  DERIVED. GIVEN WITH THE SEED: THE CARDS: each row of YtgegfljeglphlaaGreatDoorRows.lean that lists a variable, with what it lists TIED to the program's text (the seventh form; the later family's looks); each row that meets fmt, with fmt's text TOLD by the authors' own Lean function (tested against real Go, not proved from fmt's source: count such statements apart). THE CARD IS WHAT COUNTS. Prove the row's statement (the work); the ties are given (YtgegfljeglphlaaGreatDoorTie.lean); close each card by the builder's one call (the guide's Derived/Test/ToyasCard.lean, 'card_holds'). Laid BY PROGRAM, IN A SANDBOX (cutbox-door.mjs). By AI agents, Wed Nov 11 2026. No macro, syntax, notation, axiom, sorry.
-/
import Derived.Test.YtgegfljeglphlaaGreatDoorRows
import GoSem.ClaimSeven
namespace Go.Proofs.YtgegfljeglphlaaGreatDoor
namespace Rows

/-- THE TIED CARD OF 'fiacrelaw01.TariffChecks'. -/
def tariffChecksCard : Claim7 := { stood := { row := tariffChecksRow, standIns := [], harness := (true, "885e9f61563aa1e73879a7516f885ed9a9696ca4c9812cc34814189d661ec386"), looks := true }, kinds := [], alts := [], laidByText := true, laidKinds := [.data, .data, .data, .data, .sentinel, .sentinel, .pinned], laidTests := true, laidLooks := .later }
def TariffChecksCardSaid : Prop := Claim7.holds Tryz.pinned (.plain (OpenSpec.ofChange tariffChecksSpec)) tariffChecksCard

/-- THE TIED CARD OF 'fiacrelaw01.TariffHolds'. -/
def tariffHoldsCard : Claim7 := { stood := { row := tariffHoldsRow, standIns := [], harness := (true, "885e9f61563aa1e73879a7516f885ed9a9696ca4c9812cc34814189d661ec386"), looks := true }, kinds := [], alts := [], laidByText := true, laidKinds := [.data, .data, .data, .data, .sentinel, .sentinel, .pinned], laidTests := true, laidLooks := .later }
def TariffHoldsCardSaid : Prop := Claim7.holds Tryz.pinned (.plain (OpenSpec.ofChange tariffHoldsSpec)) tariffHoldsCard

/-- THE TIED CARD OF 'fiacrelaw01.TariffMoments'. -/
def tariffMomentsCard : Claim7 := { stood := { row := tariffMomentsRow, standIns := [], harness := (true, "885e9f61563aa1e73879a7516f885ed9a9696ca4c9812cc34814189d661ec386"), looks := true }, kinds := [], alts := [], laidByText := true, laidKinds := [.data, .data, .data, .data, .sentinel, .sentinel, .pinned], laidTests := true, laidLooks := .later }
def TariffMomentsCardSaid : Prop := Claim7.holds Tryz.pinned (.plain (OpenSpec.ofChange tariffMomentsSpec)) tariffMomentsCard

/-- THE TIED CARD OF 'fiacrelaw01.TariffMore'. -/
def tariffMoreCard : Claim7 := { stood := { row := tariffMoreRow, standIns := [], harness := (true, "885e9f61563aa1e73879a7516f885ed9a9696ca4c9812cc34814189d661ec386"), looks := true }, kinds := [], alts := [], laidByText := true, laidKinds := [.data, .data, .data, .data, .sentinel, .sentinel, .pinned], laidTests := true, laidLooks := .later }
def TariffMoreCardSaid : Prop := Claim7.holds Tryz.pinned (.plain (OpenSpec.ofChange tariffMoreSpec)) tariffMoreCard

/-- THE TIED CARD OF 'fiacrelaw01.TariffFares'. -/
def tariffFaresCard : Claim7 := { stood := { row := tariffFaresRow, standIns := [], harness := (true, "885e9f61563aa1e73879a7516f885ed9a9696ca4c9812cc34814189d661ec386"), looks := true }, kinds := [], alts := [], laidByText := true, laidKinds := [.data, .data, .data, .data, .sentinel, .sentinel, .pinned], laidTests := true, laidLooks := .later }
def TariffFaresCardSaid : Prop := Claim7.holds Tryz.pinned (.plain (OpenSpec.ofChange tariffFaresSpec)) tariffFaresCard

/-- THE TIED CARD OF 'fiacrelaw01.TariffTrips'. -/
def tariffTripsCard : Claim7 := { stood := { row := tariffTripsRow, standIns := [], harness := (true, "885e9f61563aa1e73879a7516f885ed9a9696ca4c9812cc34814189d661ec386"), looks := true }, kinds := [], alts := [], laidByText := true, laidKinds := [.data, .data, .data, .data, .sentinel, .sentinel, .pinned], laidTests := true, laidLooks := .later }
def TariffTripsCardSaid : Prop := Claim7.holds Tryz.pinned (.plain (OpenSpec.ofChange tariffTripsSpec)) tariffTripsCard

/-- THE TIED CARD OF 'fiacrelaw01.TariffEstimates'. -/
def tariffEstimatesCard : Claim7 := { stood := { row := tariffEstimatesRow, standIns := [], harness := (true, "885e9f61563aa1e73879a7516f885ed9a9696ca4c9812cc34814189d661ec386"), looks := true }, kinds := [], alts := [], laidByText := true, laidKinds := [.data, .data, .data, .data, .sentinel, .sentinel, .pinned], laidTests := true, laidLooks := .later }
def TariffEstimatesCardSaid : Prop := Claim7.holds Tryz.pinned (.plain (OpenSpec.ofChange tariffEstimatesSpec)) tariffEstimatesCard

/-- THE TIED CARD OF 'fiacrelaw01.TariffGaps'. -/
def tariffGapsCard : Claim7 := { stood := { row := tariffGapsRow, standIns := [], harness := (true, "885e9f61563aa1e73879a7516f885ed9a9696ca4c9812cc34814189d661ec386"), looks := true }, kinds := [], alts := [], laidByText := true, laidKinds := [.data, .data, .data, .data, .sentinel, .sentinel, .pinned], laidTests := true, laidLooks := .later }
def TariffGapsCardSaid : Prop := Claim7.holds Tryz.pinned (.plain (OpenSpec.ofChange tariffGapsSpec)) tariffGapsCard

/-- THE TIED CARD OF 'fiacrelaw01.TariffCovered'. -/
def tariffCoveredCard : Claim7 := { stood := { row := tariffCoveredRow, standIns := [], harness := (true, "885e9f61563aa1e73879a7516f885ed9a9696ca4c9812cc34814189d661ec386"), looks := true }, kinds := [], alts := [], laidByText := true, laidKinds := [.data, .data, .data, .data, .sentinel, .sentinel, .pinned], laidTests := true, laidLooks := .later }
def TariffCoveredCardSaid : Prop := Claim7.holds Tryz.pinned (.plain (OpenSpec.ofChange tariffCoveredSpec)) tariffCoveredCard

/-- THE TIED CARD OF 'fiacrelaw01.TariffCutAnyhow'. -/
def tariffCutAnyhowCard : Claim7 := { stood := { row := tariffCutAnyhowRow, standIns := [], harness := (true, "885e9f61563aa1e73879a7516f885ed9a9696ca4c9812cc34814189d661ec386"), looks := true }, kinds := [], alts := [], laidByText := true, laidKinds := [.data, .data, .data, .data, .sentinel, .sentinel, .pinned], laidTests := true, laidLooks := .later }
def TariffCutAnyhowCardSaid : Prop := Claim7.holds Tryz.pinned (.plain (OpenSpec.ofChange tariffCutAnyhowSpec)) tariffCutAnyhowCard

/-- THE SECOND FORM's CARD OF 'fiacrelaw01.TariffChecks'. -/
def tariffChecksUptoCard : Claim7 := { stood := { row := tariffChecksUptoRow, standIns := [], harness := (true, "885e9f61563aa1e73879a7516f885ed9a9696ca4c9812cc34814189d661ec386"), looks := true }, kinds := [], alts := [], laidByText := true, laidKinds := [.data, .data, .data, .data, .sentinel, .sentinel, .pinned], laidTests := true, laidLooks := .later }
def TariffChecksUptoCardSaid : Prop := Claim7.holds Tryz.pinned (.plain (OpenSpec.upto tariffChecksSpec)) tariffChecksUptoCard

/-- THE SECOND FORM's CARD OF 'fiacrelaw01.TariffHolds'. -/
def tariffHoldsUptoCard : Claim7 := { stood := { row := tariffHoldsUptoRow, standIns := [], harness := (true, "885e9f61563aa1e73879a7516f885ed9a9696ca4c9812cc34814189d661ec386"), looks := true }, kinds := [], alts := [], laidByText := true, laidKinds := [.data, .data, .data, .data, .sentinel, .sentinel, .pinned], laidTests := true, laidLooks := .later }
def TariffHoldsUptoCardSaid : Prop := Claim7.holds Tryz.pinned (.plain (OpenSpec.upto tariffHoldsSpec)) tariffHoldsUptoCard

/-- THE SECOND FORM's CARD OF 'fiacrelaw01.TariffMoments'. -/
def tariffMomentsUptoCard : Claim7 := { stood := { row := tariffMomentsUptoRow, standIns := [], harness := (true, "885e9f61563aa1e73879a7516f885ed9a9696ca4c9812cc34814189d661ec386"), looks := true }, kinds := [], alts := [], laidByText := true, laidKinds := [.data, .data, .data, .data, .sentinel, .sentinel, .pinned], laidTests := true, laidLooks := .later }
def TariffMomentsUptoCardSaid : Prop := Claim7.holds Tryz.pinned (.plain (OpenSpec.upto tariffMomentsSpec)) tariffMomentsUptoCard

/-- THE SECOND FORM's CARD OF 'fiacrelaw01.TariffMore'. -/
def tariffMoreUptoCard : Claim7 := { stood := { row := tariffMoreUptoRow, standIns := [], harness := (true, "885e9f61563aa1e73879a7516f885ed9a9696ca4c9812cc34814189d661ec386"), looks := true }, kinds := [], alts := [], laidByText := true, laidKinds := [.data, .data, .data, .data, .sentinel, .sentinel, .pinned], laidTests := true, laidLooks := .later }
def TariffMoreUptoCardSaid : Prop := Claim7.holds Tryz.pinned (.plain (OpenSpec.upto tariffMoreSpec)) tariffMoreUptoCard

/-- THE SECOND FORM's CARD OF 'fiacrelaw01.TariffFares'. -/
def tariffFaresUptoCard : Claim7 := { stood := { row := tariffFaresUptoRow, standIns := [], harness := (true, "885e9f61563aa1e73879a7516f885ed9a9696ca4c9812cc34814189d661ec386"), looks := true }, kinds := [], alts := [], laidByText := true, laidKinds := [.data, .data, .data, .data, .sentinel, .sentinel, .pinned], laidTests := true, laidLooks := .later }
def TariffFaresUptoCardSaid : Prop := Claim7.holds Tryz.pinned (.plain (OpenSpec.upto tariffFaresSpec)) tariffFaresUptoCard

/-- THE SECOND FORM's CARD OF 'fiacrelaw01.TariffTrips'. -/
def tariffTripsUptoCard : Claim7 := { stood := { row := tariffTripsUptoRow, standIns := [], harness := (true, "885e9f61563aa1e73879a7516f885ed9a9696ca4c9812cc34814189d661ec386"), looks := true }, kinds := [], alts := [], laidByText := true, laidKinds := [.data, .data, .data, .data, .sentinel, .sentinel, .pinned], laidTests := true, laidLooks := .later }
def TariffTripsUptoCardSaid : Prop := Claim7.holds Tryz.pinned (.plain (OpenSpec.upto tariffTripsSpec)) tariffTripsUptoCard

/-- THE SECOND FORM's CARD OF 'fiacrelaw01.TariffEstimates'. -/
def tariffEstimatesUptoCard : Claim7 := { stood := { row := tariffEstimatesUptoRow, standIns := [], harness := (true, "885e9f61563aa1e73879a7516f885ed9a9696ca4c9812cc34814189d661ec386"), looks := true }, kinds := [], alts := [], laidByText := true, laidKinds := [.data, .data, .data, .data, .sentinel, .sentinel, .pinned], laidTests := true, laidLooks := .later }
def TariffEstimatesUptoCardSaid : Prop := Claim7.holds Tryz.pinned (.plain (OpenSpec.upto tariffEstimatesSpec)) tariffEstimatesUptoCard

/-- THE SECOND FORM's CARD OF 'fiacrelaw01.TariffGaps'. -/
def tariffGapsUptoCard : Claim7 := { stood := { row := tariffGapsUptoRow, standIns := [], harness := (true, "885e9f61563aa1e73879a7516f885ed9a9696ca4c9812cc34814189d661ec386"), looks := true }, kinds := [], alts := [], laidByText := true, laidKinds := [.data, .data, .data, .data, .sentinel, .sentinel, .pinned], laidTests := true, laidLooks := .later }
def TariffGapsUptoCardSaid : Prop := Claim7.holds Tryz.pinned (.plain (OpenSpec.upto tariffGapsSpec)) tariffGapsUptoCard

/-- THE SECOND FORM's CARD OF 'fiacrelaw01.TariffCovered'. -/
def tariffCoveredUptoCard : Claim7 := { stood := { row := tariffCoveredUptoRow, standIns := [], harness := (true, "885e9f61563aa1e73879a7516f885ed9a9696ca4c9812cc34814189d661ec386"), looks := true }, kinds := [], alts := [], laidByText := true, laidKinds := [.data, .data, .data, .data, .sentinel, .sentinel, .pinned], laidTests := true, laidLooks := .later }
def TariffCoveredUptoCardSaid : Prop := Claim7.holds Tryz.pinned (.plain (OpenSpec.upto tariffCoveredSpec)) tariffCoveredUptoCard

/-- THE SECOND FORM's CARD OF 'fiacrelaw01.TariffCutAnyhow'. -/
def tariffCutAnyhowUptoCard : Claim7 := { stood := { row := tariffCutAnyhowUptoRow, standIns := [], harness := (true, "885e9f61563aa1e73879a7516f885ed9a9696ca4c9812cc34814189d661ec386"), looks := true }, kinds := [], alts := [], laidByText := true, laidKinds := [.data, .data, .data, .data, .sentinel, .sentinel, .pinned], laidTests := true, laidLooks := .later }
def TariffCutAnyhowUptoCardSaid : Prop := Claim7.holds Tryz.pinned (.plain (OpenSpec.upto tariffCutAnyhowSpec)) tariffCutAnyhowUptoCard
end Rows
end Go.Proofs.YtgegfljeglphlaaGreatDoor
