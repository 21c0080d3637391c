/-
  DERIVED. GIVEN WITH THE SEED: THE CARDS: each row of YtkinfbkpecjpnaaGreatDoorRows.lean that lists a variable, with what it lists TIED to the program's text (the seventh form; the later family's looks); each row that meets fmt, with fmt's text TOLD by the authors' own Lean function (tested against real Go, not proved from fmt's source: count such statements apart). THE CARD IS WHAT COUNTS. Prove the row's statement (the work); the ties are given (YtkinfbkpecjpnaaGreatDoorTie.lean); close each card by the builder's one call (the guide's Derived/Test/ToyasCard.lean, 'card_holds'). Laid BY PROGRAM, IN A SANDBOX (cutbox-door.mjs). By AI agents, Wed Nov 11 2026. No macro, syntax, notation, axiom, sorry.
-/
import Derived.Test.YtkinfbkpecjpnaaGreatDoorRows
import GoSem.ClaimSeven
namespace Go.Proofs.YtkinfbkpecjpnaaGreatDoor
namespace Rows

/-- THE TIED CARD OF 'fiacrelaw01.TariffTripTexts'. -/
def tariffTripTextsCard : Claim7 := { stood := { row := tariffTripTextsRow, standIns := [], harness := (true, "a7e0027a1a911584dab699016040a482f0711160249ae3bad81287b14bf41df3"), looks := true }, kinds := [], alts := [], laidByText := true, laidKinds := [.data, .data, .data, .data, .sentinel, .sentinel, .pinned], laidTests := true, laidLooks := .later }
def TariffTripTextsCardSaid : Prop := Claim7.holds Tryz.pinned (.plain (OpenSpec.ofChange tariffTripTextsSpec)) tariffTripTextsCard

/-- THE TIED CARD OF 'fiacrelaw01.TariffParses'. -/
def tariffParsesCard : Claim7 := { stood := { row := tariffParsesRow, standIns := [], harness := (true, "a7e0027a1a911584dab699016040a482f0711160249ae3bad81287b14bf41df3"), looks := true }, kinds := [], alts := [], laidByText := true, laidKinds := [.data, .data, .data, .data, .sentinel, .sentinel, .pinned], laidTests := true, laidLooks := .later }
def TariffParsesCardSaid : Prop := Claim7.holds Tryz.pinned (.plain (OpenSpec.ofChange tariffParsesSpec)) tariffParsesCard

/-- THE SECOND FORM's CARD OF 'fiacrelaw01.TariffTripTexts'. -/
def tariffTripTextsUptoCard : Claim7 := { stood := { row := tariffTripTextsUptoRow, standIns := [], harness := (true, "a7e0027a1a911584dab699016040a482f0711160249ae3bad81287b14bf41df3"), looks := true }, kinds := [], alts := [], laidByText := true, laidKinds := [.data, .data, .data, .data, .sentinel, .sentinel, .pinned], laidTests := true, laidLooks := .later }
def TariffTripTextsUptoCardSaid : Prop := Claim7.holds Tryz.pinned (.plain (OpenSpec.upto tariffTripTextsSpec)) tariffTripTextsUptoCard

/-- THE SECOND FORM's CARD OF 'fiacrelaw01.TariffParses'. -/
def tariffParsesUptoCard : Claim7 := { stood := { row := tariffParsesUptoRow, standIns := [], harness := (true, "a7e0027a1a911584dab699016040a482f0711160249ae3bad81287b14bf41df3"), looks := true }, kinds := [], alts := [], laidByText := true, laidKinds := [.data, .data, .data, .data, .sentinel, .sentinel, .pinned], laidTests := true, laidLooks := .later }
def TariffParsesUptoCardSaid : Prop := Claim7.holds Tryz.pinned (.plain (OpenSpec.upto tariffParsesSpec)) tariffParsesUptoCard
end Rows
end Go.Proofs.YtkinfbkpecjpnaaGreatDoor
