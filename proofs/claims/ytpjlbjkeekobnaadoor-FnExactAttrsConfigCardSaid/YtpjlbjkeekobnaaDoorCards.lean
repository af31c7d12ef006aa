/-
  DERIVED. GIVEN WITH THE SEED: THE CARDS: each row of YtpjlbjkeekobnaaDoorRows.lean that lists a variable, with what it lists TIED to the program's text (the seventh form; the later family's looks); each row that meets fmt, with fmt's text TOLD by the authors' own Lean function (tested against real Go, not proved from fmt's source: count such statements apart). THE CARD IS WHAT COUNTS. Prove the row's statement (the work); the ties are given (YtpjlbjkeekobnaaDoorTie.lean); close each card by the builder's one call (the guide's Derived/Test/ToyasCard.lean, 'card_holds'). Laid BY PROGRAM, IN A SANDBOX (cutbox-door.mjs). By AI agents, Wed Nov 11 2026. No macro, syntax, notation, axiom, sorry.
-/
import Derived.Test.YtpjlbjkeekobnaaDoorRows
import GoSem.ClaimSeven
namespace Go.Proofs.YtpjlbjkeekobnaaDoor
namespace Rows

/-- THE TIED CARD OF 'laws.FnExactParseFilter'. -/
def fnExactParseFilterCard : Claim7 := { stood := { row := fnExactParseFilterRow, standIns := [], harness := (true, "04d022b6748c74240e769b352953bccdb6075165c5974efd4942c4cb2521ffe2"), looks := false }, kinds := [], alts := [], laidByText := true, laidKinds := [.data, .data], laidTests := true, laidLooks := .later }
def FnExactParseFilterCardSaid : Prop := Claim7.holds Tryd.pinned (.plain (OpenSpec.ofChange fnExactParseFilterSpec)) fnExactParseFilterCard

/-- THE TIED CARD OF 'laws.FnExactParseLeaf'. -/
def fnExactParseLeafCard : Claim7 := { stood := { row := fnExactParseLeafRow, standIns := [], harness := (true, "04d022b6748c74240e769b352953bccdb6075165c5974efd4942c4cb2521ffe2"), looks := false }, kinds := [], alts := [], laidByText := true, laidKinds := [.data, .data], laidTests := true, laidLooks := .later }
def FnExactParseLeafCardSaid : Prop := Claim7.holds Tryd.pinned (.plain (OpenSpec.ofChange fnExactParseLeafSpec)) fnExactParseLeafCard

/-- THE TIED CARD OF 'laws.FnExactAttrsConfig'. -/
def fnExactAttrsConfigCard : Claim7 := { stood := { row := fnExactAttrsConfigRow, standIns := [], harness := (true, "04d022b6748c74240e769b352953bccdb6075165c5974efd4942c4cb2521ffe2"), looks := false }, kinds := [], alts := [], laidByText := true, laidKinds := [.data], laidTests := true, laidLooks := .later }
def FnExactAttrsConfigCardSaid : Prop := Claim7.holds Tryd.pinned (.plain (OpenSpec.ofChange fnExactAttrsConfigSpec)) fnExactAttrsConfigCard

/-- THE SECOND FORM's CARD OF 'laws.FnExactParseFilter'. -/
def fnExactParseFilterUptoCard : Claim7 := { stood := { row := fnExactParseFilterUptoRow, standIns := [], harness := (true, "04d022b6748c74240e769b352953bccdb6075165c5974efd4942c4cb2521ffe2"), looks := false }, kinds := [], alts := [], laidByText := true, laidKinds := [.data, .data], laidTests := true, laidLooks := .later }
def FnExactParseFilterUptoCardSaid : Prop := Claim7.holds Tryd.pinned (.plain (OpenSpec.upto fnExactParseFilterSpec)) fnExactParseFilterUptoCard

/-- THE SECOND FORM's CARD OF 'laws.FnExactParseLeaf'. -/
def fnExactParseLeafUptoCard : Claim7 := { stood := { row := fnExactParseLeafUptoRow, standIns := [], harness := (true, "04d022b6748c74240e769b352953bccdb6075165c5974efd4942c4cb2521ffe2"), looks := false }, kinds := [], alts := [], laidByText := true, laidKinds := [.data, .data], laidTests := true, laidLooks := .later }
def FnExactParseLeafUptoCardSaid : Prop := Claim7.holds Tryd.pinned (.plain (OpenSpec.upto fnExactParseLeafSpec)) fnExactParseLeafUptoCard

/-- THE SECOND FORM's CARD OF 'laws.FnExactAttrsConfig'. -/
def fnExactAttrsConfigUptoCard : Claim7 := { stood := { row := fnExactAttrsConfigUptoRow, standIns := [], harness := (true, "04d022b6748c74240e769b352953bccdb6075165c5974efd4942c4cb2521ffe2"), looks := false }, kinds := [], alts := [], laidByText := true, laidKinds := [.data], laidTests := true, laidLooks := .later }
def FnExactAttrsConfigUptoCardSaid : Prop := Claim7.holds Tryd.pinned (.plain (OpenSpec.upto fnExactAttrsConfigSpec)) fnExactAttrsConfigUptoCard
end Rows
end Go.Proofs.YtpjlbjkeekobnaaDoor
