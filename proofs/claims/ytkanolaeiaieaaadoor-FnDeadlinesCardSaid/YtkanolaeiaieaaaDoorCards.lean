/-
  DERIVED. GIVEN WITH THE SEED: THE CARDS: each row of YtkanolaeiaieaaaDoorRows.lean that lists a variable, with what it lists TIED to the program's text (the seventh form; the later family's looks); each row that meets fmt, with fmt's text TOLD by the authors' own Lean function (tested against real Go, not proved from fmt's source: count such statements apart). THE CARD IS WHAT COUNTS. Prove the row's statement (the work); the ties are given (YtkanolaeiaieaaaDoorTie.lean); close each card by the builder's one call (the guide's Derived/Test/ToyasCard.lean, 'card_holds'). Laid BY PROGRAM, IN A SANDBOX (cutbox-door.mjs). By AI agents, Wed Nov 11 2026. No macro, syntax, notation, axiom, sorry.
-/
import Derived.Test.YtkanolaeiaieaaaDoorRows
import GoSem.ClaimSeven
namespace Go.Proofs.YtkanolaeiaieaaaDoor
namespace Rows

/-- THE TIED CARD OF 'laws.FnDeadlines'. -/
def fnDeadlinesCard : Claim7 := { stood := { row := fnDeadlinesRow, standIns := [], harness := (true, "8c3e44d23b043703e8e67fbe3aa916aa2b07bacbc82c2fbb4604075381f84882"), looks := false }, kinds := [], alts := [], laidByText := true, laidKinds := [.data, .data, .data], laidTests := true, laidLooks := .later }
def FnDeadlinesCardSaid : Prop := Claim7.holds Tryd.pinned (.plain (OpenSpec.ofChange fnDeadlinesSpec)) fnDeadlinesCard

/-- THE TIED CARD OF 'laws.FnExactParseFilter'. -/
def fnExactParseFilterCard : Claim7 := { stood := { row := fnExactParseFilterRow, standIns := [], harness := (true, "8c3e44d23b043703e8e67fbe3aa916aa2b07bacbc82c2fbb4604075381f84882"), looks := false }, kinds := [], alts := [], laidByText := true, laidKinds := [.data, .data], laidTests := true, laidLooks := .later }
def FnExactParseFilterCardSaid : Prop := Claim7.holds Tryd.pinned (.plain (OpenSpec.ofChange fnExactParseFilterSpec)) fnExactParseFilterCard

/-- THE TIED CARD OF 'laws.FnExactParseLeaf'. -/
def fnExactParseLeafCard : Claim7 := { stood := { row := fnExactParseLeafRow, standIns := [], harness := (true, "8c3e44d23b043703e8e67fbe3aa916aa2b07bacbc82c2fbb4604075381f84882"), looks := false }, kinds := [], alts := [], laidByText := true, laidKinds := [.data, .data], laidTests := true, laidLooks := .later }
def FnExactParseLeafCardSaid : Prop := Claim7.holds Tryd.pinned (.plain (OpenSpec.ofChange fnExactParseLeafSpec)) fnExactParseLeafCard

/-- THE TIED CARD OF 'laws.FnExactAttrsConfig'. -/
def fnExactAttrsConfigCard : Claim7 := { stood := { row := fnExactAttrsConfigRow, standIns := [], harness := (true, "8c3e44d23b043703e8e67fbe3aa916aa2b07bacbc82c2fbb4604075381f84882"), looks := false }, kinds := [], alts := [], laidByText := true, laidKinds := [.data], laidTests := true, laidLooks := .later }
def FnExactAttrsConfigCardSaid : Prop := Claim7.holds Tryd.pinned (.plain (OpenSpec.ofChange fnExactAttrsConfigSpec)) fnExactAttrsConfigCard

/-- THE SECOND FORM's CARD OF 'laws.FnDeadlines'. -/
def fnDeadlinesUptoCard : Claim7 := { stood := { row := fnDeadlinesUptoRow, standIns := [], harness := (true, "8c3e44d23b043703e8e67fbe3aa916aa2b07bacbc82c2fbb4604075381f84882"), looks := false }, kinds := [], alts := [], laidByText := true, laidKinds := [.data, .data, .data], laidTests := true, laidLooks := .later }
def FnDeadlinesUptoCardSaid : Prop := Claim7.holds Tryd.pinned (.plain (OpenSpec.upto fnDeadlinesSpec)) fnDeadlinesUptoCard

/-- THE SECOND FORM's CARD OF 'laws.FnExactParseFilter'. -/
def fnExactParseFilterUptoCard : Claim7 := { stood := { row := fnExactParseFilterUptoRow, standIns := [], harness := (true, "8c3e44d23b043703e8e67fbe3aa916aa2b07bacbc82c2fbb4604075381f84882"), looks := false }, kinds := [], alts := [], laidByText := true, laidKinds := [.data, .data], laidTests := true, laidLooks := .later }
def FnExactParseFilterUptoCardSaid : Prop := Claim7.holds Tryd.pinned (.plain (OpenSpec.upto fnExactParseFilterSpec)) fnExactParseFilterUptoCard

/-- THE SECOND FORM's CARD OF 'laws.FnExactParseLeaf'. -/
def fnExactParseLeafUptoCard : Claim7 := { stood := { row := fnExactParseLeafUptoRow, standIns := [], harness := (true, "8c3e44d23b043703e8e67fbe3aa916aa2b07bacbc82c2fbb4604075381f84882"), looks := false }, kinds := [], alts := [], laidByText := true, laidKinds := [.data, .data], laidTests := true, laidLooks := .later }
def FnExactParseLeafUptoCardSaid : Prop := Claim7.holds Tryd.pinned (.plain (OpenSpec.upto fnExactParseLeafSpec)) fnExactParseLeafUptoCard

/-- THE SECOND FORM's CARD OF 'laws.FnExactAttrsConfig'. -/
def fnExactAttrsConfigUptoCard : Claim7 := { stood := { row := fnExactAttrsConfigUptoRow, standIns := [], harness := (true, "8c3e44d23b043703e8e67fbe3aa916aa2b07bacbc82c2fbb4604075381f84882"), looks := false }, kinds := [], alts := [], laidByText := true, laidKinds := [.data], laidTests := true, laidLooks := .later }
def FnExactAttrsConfigUptoCardSaid : Prop := Claim7.holds Tryd.pinned (.plain (OpenSpec.upto fnExactAttrsConfigSpec)) fnExactAttrsConfigUptoCard
end Rows
end Go.Proofs.YtkanolaeiaieaaaDoor
