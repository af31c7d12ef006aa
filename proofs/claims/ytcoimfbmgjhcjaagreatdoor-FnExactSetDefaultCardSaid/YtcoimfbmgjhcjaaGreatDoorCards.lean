/-
  DERIVED. GIVEN WITH THE SEED: THE CARDS: each row of YtcoimfbmgjhcjaaGreatDoorRows.lean that lists a variable, with what it lists TIED to the program's text (the seventh form; the later family's looks); each row that meets fmt, with fmt's text TOLD by the authors' own Lean function (tested against real Go, not proved from fmt's source: count such statements apart). THE CARD IS WHAT COUNTS. Prove the row's statement (the work); the ties are given (YtcoimfbmgjhcjaaGreatDoorTie.lean); close each card by the builder's one call (the guide's Derived/Test/ToyasCard.lean, 'card_holds'). Laid BY PROGRAM, IN A SANDBOX (cutbox-door.mjs). By AI agents, Wed Nov 11 2026. No macro, syntax, notation, axiom, sorry.
-/
import Derived.Test.YtcoimfbmgjhcjaaGreatDoorRows
import GoSem.ClaimSeven
namespace Go.Proofs.YtcoimfbmgjhcjaaGreatDoor
namespace Rows

/-- THE TIED CARD OF 'laws.FnExactReplaceConfig'. -/
def fnExactReplaceConfigCard : Claim7 := { stood := { row := fnExactReplaceConfigRow, standIns := [], harness := (true, "2c741da0bbfd78558eed3f707f9d3707827a7f0a5b85bfd8096efca950c430fb"), looks := false }, kinds := [], alts := [], laidByText := true, laidKinds := [.data, .data, .data, .data], laidTests := true, laidLooks := .later }
def FnExactReplaceConfigCardSaid : Prop := Claim7.holds Tryz.pinned (.plain (OpenSpec.ofChange fnExactReplaceConfigSpec)) fnExactReplaceConfigCard

/-- THE TIED CARD OF 'laws.FnExactSetRates'. -/
def fnExactSetRatesCard : Claim7 := { stood := { row := fnExactSetRatesRow, standIns := [], harness := (true, "2c741da0bbfd78558eed3f707f9d3707827a7f0a5b85bfd8096efca950c430fb"), looks := false }, kinds := [], alts := [], laidByText := true, laidKinds := [.data, .data, .data, .data], laidTests := true, laidLooks := .later }
def FnExactSetRatesCardSaid : Prop := Claim7.holds Tryz.pinned (.plain (OpenSpec.ofChange fnExactSetRatesSpec)) fnExactSetRatesCard

/-- THE TIED CARD OF 'laws.FnExactSetDefault'. -/
def fnExactSetDefaultCard : Claim7 := { stood := { row := fnExactSetDefaultRow, standIns := [], harness := (true, "2c741da0bbfd78558eed3f707f9d3707827a7f0a5b85bfd8096efca950c430fb"), looks := false }, kinds := [], alts := [], laidByText := true, laidKinds := [.data, .data, .data, .data], laidTests := true, laidLooks := .later }
def FnExactSetDefaultCardSaid : Prop := Claim7.holds Tryz.pinned (.plain (OpenSpec.ofChange fnExactSetDefaultSpec)) fnExactSetDefaultCard

/-- THE TIED CARD OF 'laws.FnExactSetFilters'. -/
def fnExactSetFiltersCard : Claim7 := { stood := { row := fnExactSetFiltersRow, standIns := [], harness := (true, "2c741da0bbfd78558eed3f707f9d3707827a7f0a5b85bfd8096efca950c430fb"), looks := false }, kinds := [], alts := [], laidByText := true, laidKinds := [.data, .data, .data, .data], laidTests := true, laidLooks := .later }
def FnExactSetFiltersCardSaid : Prop := Claim7.holds Tryz.pinned (.plain (OpenSpec.ofChange fnExactSetFiltersSpec)) fnExactSetFiltersCard

/-- THE SECOND FORM's CARD OF 'laws.FnExactReplaceConfig'. -/
def fnExactReplaceConfigUptoCard : Claim7 := { stood := { row := fnExactReplaceConfigUptoRow, standIns := [], harness := (true, "2c741da0bbfd78558eed3f707f9d3707827a7f0a5b85bfd8096efca950c430fb"), looks := false }, kinds := [], alts := [], laidByText := true, laidKinds := [.data, .data, .data, .data], laidTests := true, laidLooks := .later }
def FnExactReplaceConfigUptoCardSaid : Prop := Claim7.holds Tryz.pinned (.plain (OpenSpec.upto fnExactReplaceConfigSpec)) fnExactReplaceConfigUptoCard

/-- THE SECOND FORM's CARD OF 'laws.FnExactSetRates'. -/
def fnExactSetRatesUptoCard : Claim7 := { stood := { row := fnExactSetRatesUptoRow, standIns := [], harness := (true, "2c741da0bbfd78558eed3f707f9d3707827a7f0a5b85bfd8096efca950c430fb"), looks := false }, kinds := [], alts := [], laidByText := true, laidKinds := [.data, .data, .data, .data], laidTests := true, laidLooks := .later }
def FnExactSetRatesUptoCardSaid : Prop := Claim7.holds Tryz.pinned (.plain (OpenSpec.upto fnExactSetRatesSpec)) fnExactSetRatesUptoCard

/-- THE SECOND FORM's CARD OF 'laws.FnExactSetDefault'. -/
def fnExactSetDefaultUptoCard : Claim7 := { stood := { row := fnExactSetDefaultUptoRow, standIns := [], harness := (true, "2c741da0bbfd78558eed3f707f9d3707827a7f0a5b85bfd8096efca950c430fb"), looks := false }, kinds := [], alts := [], laidByText := true, laidKinds := [.data, .data, .data, .data], laidTests := true, laidLooks := .later }
def FnExactSetDefaultUptoCardSaid : Prop := Claim7.holds Tryz.pinned (.plain (OpenSpec.upto fnExactSetDefaultSpec)) fnExactSetDefaultUptoCard

/-- THE SECOND FORM's CARD OF 'laws.FnExactSetFilters'. -/
def fnExactSetFiltersUptoCard : Claim7 := { stood := { row := fnExactSetFiltersUptoRow, standIns := [], harness := (true, "2c741da0bbfd78558eed3f707f9d3707827a7f0a5b85bfd8096efca950c430fb"), looks := false }, kinds := [], alts := [], laidByText := true, laidKinds := [.data, .data, .data, .data], laidTests := true, laidLooks := .later }
def FnExactSetFiltersUptoCardSaid : Prop := Claim7.holds Tryz.pinned (.plain (OpenSpec.upto fnExactSetFiltersSpec)) fnExactSetFiltersUptoCard
end Rows
end Go.Proofs.YtcoimfbmgjhcjaaGreatDoor
