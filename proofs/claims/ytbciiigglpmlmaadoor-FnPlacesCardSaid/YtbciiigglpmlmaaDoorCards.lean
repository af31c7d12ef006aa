/-
  DERIVED. GIVEN WITH THE SEED: THE CARDS: each row of YtbciiigglpmlmaaDoorRows.lean that lists a variable, with what it lists TIED to the program's text (the seventh form; the later family's looks); each row that meets fmt, with fmt's text TOLD by the authors' own Lean function (tested against real Go, not proved from fmt's source: count such statements apart). THE CARD IS WHAT COUNTS. Prove the row's statement (the work); the ties are given (YtbciiigglpmlmaaDoorTie.lean); close each card by the builder's one call (the guide's Derived/Test/ToyasCard.lean, 'card_holds'). Laid BY PROGRAM, IN A SANDBOX (cutbox-door.mjs). By AI agents, Wed Nov 11 2026. No macro, syntax, notation, axiom, sorry.
-/
import Derived.Test.YtbciiigglpmlmaaDoorRows
import GoSem.ClaimSeven
namespace Go.Proofs.YtbciiigglpmlmaaDoor
namespace Rows

/-- THE TIED CARD OF 'laws.FnExactJoinScripts'. -/
def fnExactJoinScriptsCard : Claim7 := { stood := { row := fnExactJoinScriptsRow, standIns := [], harness := (true, "003a28461b70ba2017b0b1996baf044720d6bdb6c7006199f3de0c2d320a2211"), looks := false }, kinds := [], alts := [], laidByText := true, laidKinds := [.data, .pinned], laidTests := true, laidLooks := .later }
def FnExactJoinScriptsCardSaid : Prop := Claim7.holds Tryd.pinned (.plain (OpenSpec.ofChange fnExactJoinScriptsSpec)) fnExactJoinScriptsCard

/-- THE TIED CARD OF 'laws.FnNumbers'. -/
def fnNumbersCard : Claim7 := { stood := { row := fnNumbersRow, standIns := [], harness := (true, "003a28461b70ba2017b0b1996baf044720d6bdb6c7006199f3de0c2d320a2211"), looks := false }, kinds := [], alts := [], laidByText := true, laidKinds := [.data, .data, .data], laidTests := true, laidLooks := .later }
def FnNumbersCardSaid : Prop := Claim7.holds Tryd.pinned (.plain (OpenSpec.ofChange fnNumbersSpec)) fnNumbersCard

/-- THE TIED CARD OF 'laws.FnPlaces'. -/
def fnPlacesCard : Claim7 := { stood := { row := fnPlacesRow, standIns := [], harness := (true, "003a28461b70ba2017b0b1996baf044720d6bdb6c7006199f3de0c2d320a2211"), looks := false }, kinds := [], alts := [], laidByText := true, laidKinds := [.data, .pinned], laidTests := true, laidLooks := .later }
def FnPlacesCardSaid : Prop := Claim7.holds Tryd.pinned (.plain (OpenSpec.ofChange fnPlacesSpec)) fnPlacesCard

/-- THE TIED CARD OF 'laws.FnDeadlines'. -/
def fnDeadlinesCard : Claim7 := { stood := { row := fnDeadlinesRow, standIns := [], harness := (true, "003a28461b70ba2017b0b1996baf044720d6bdb6c7006199f3de0c2d320a2211"), looks := false }, kinds := [], alts := [], laidByText := true, laidKinds := [.data, .data, .data], laidTests := true, laidLooks := .later }
def FnDeadlinesCardSaid : Prop := Claim7.holds Tryd.pinned (.plain (OpenSpec.ofChange fnDeadlinesSpec)) fnDeadlinesCard

/-- THE SECOND FORM's CARD OF 'laws.FnExactJoinScripts'. -/
def fnExactJoinScriptsUptoCard : Claim7 := { stood := { row := fnExactJoinScriptsUptoRow, standIns := [], harness := (true, "003a28461b70ba2017b0b1996baf044720d6bdb6c7006199f3de0c2d320a2211"), looks := false }, kinds := [], alts := [], laidByText := true, laidKinds := [.data, .pinned], laidTests := true, laidLooks := .later }
def FnExactJoinScriptsUptoCardSaid : Prop := Claim7.holds Tryd.pinned (.plain (OpenSpec.upto fnExactJoinScriptsSpec)) fnExactJoinScriptsUptoCard

/-- THE SECOND FORM's CARD OF 'laws.FnNumbers'. -/
def fnNumbersUptoCard : Claim7 := { stood := { row := fnNumbersUptoRow, standIns := [], harness := (true, "003a28461b70ba2017b0b1996baf044720d6bdb6c7006199f3de0c2d320a2211"), looks := false }, kinds := [], alts := [], laidByText := true, laidKinds := [.data, .data, .data], laidTests := true, laidLooks := .later }
def FnNumbersUptoCardSaid : Prop := Claim7.holds Tryd.pinned (.plain (OpenSpec.upto fnNumbersSpec)) fnNumbersUptoCard

/-- THE SECOND FORM's CARD OF 'laws.FnPlaces'. -/
def fnPlacesUptoCard : Claim7 := { stood := { row := fnPlacesUptoRow, standIns := [], harness := (true, "003a28461b70ba2017b0b1996baf044720d6bdb6c7006199f3de0c2d320a2211"), looks := false }, kinds := [], alts := [], laidByText := true, laidKinds := [.data, .pinned], laidTests := true, laidLooks := .later }
def FnPlacesUptoCardSaid : Prop := Claim7.holds Tryd.pinned (.plain (OpenSpec.upto fnPlacesSpec)) fnPlacesUptoCard

/-- THE SECOND FORM's CARD OF 'laws.FnDeadlines'. -/
def fnDeadlinesUptoCard : Claim7 := { stood := { row := fnDeadlinesUptoRow, standIns := [], harness := (true, "003a28461b70ba2017b0b1996baf044720d6bdb6c7006199f3de0c2d320a2211"), looks := false }, kinds := [], alts := [], laidByText := true, laidKinds := [.data, .data, .data], laidTests := true, laidLooks := .later }
def FnDeadlinesUptoCardSaid : Prop := Claim7.holds Tryd.pinned (.plain (OpenSpec.upto fnDeadlinesSpec)) fnDeadlinesUptoCard
end Rows
end Go.Proofs.YtbciiigglpmlmaaDoor
