/-
  DERIVED. GIVEN WITH THE SEED: THE CARDS: each row of YthodldbjhlpjhaaGreatDoorRows.lean that lists a variable, with what it lists TIED to the program's text (the seventh form; the later family's looks); each row that meets fmt, with fmt's text TOLD by the authors' own Lean function (tested against real Go, not proved from fmt's source: count such statements apart). THE CARD IS WHAT COUNTS. Prove the row's statement (the work); the ties are given (YthodldbjhlpjhaaGreatDoorTie.lean); close each card by the builder's one call (the guide's Derived/Test/ToyasCard.lean, 'card_holds'). Laid BY PROGRAM, IN A SANDBOX (cutbox-door.mjs). By AI agents, Wed Nov 11 2026. No macro, syntax, notation, axiom, sorry.
-/
import Derived.Test.YthodldbjhlpjhaaGreatDoorRows
import GoSem.ClaimSeven
namespace Go.Proofs.YthodldbjhlpjhaaGreatDoor
namespace Rows

/-- THE TIED CARD OF 'laws.FnExactIsRun'. -/
def fnExactIsRunCard : Claim7 := { stood := { row := fnExactIsRunRow, standIns := [], harness := (true, "872cb6263a296ae14ab5b9c8e933b281c0a1a9b63283417e668f605270d05d5e"), looks := false }, kinds := [], alts := [], laidByText := true, laidKinds := [.data, .data, .data, .data], laidTests := true, laidLooks := .later }
def FnExactIsRunCardSaid : Prop := Claim7.holds Tryz.pinned (.plain (OpenSpec.ofChange fnExactIsRunSpec)) fnExactIsRunCard

/-- THE TIED CARD OF 'laws.FnExactNextTime'. -/
def fnExactNextTimeCard : Claim7 := { stood := { row := fnExactNextTimeRow, standIns := [], harness := (true, "872cb6263a296ae14ab5b9c8e933b281c0a1a9b63283417e668f605270d05d5e"), looks := false }, kinds := [], alts := [], laidByText := true, laidKinds := [.data, .data, .data, .data], laidTests := true, laidLooks := .later }
def FnExactNextTimeCardSaid : Prop := Claim7.holds Tryz.pinned (.plain (OpenSpec.ofChange fnExactNextTimeSpec)) fnExactNextTimeCard

/-- THE TIED CARD OF 'laws.FnExactChoiceOf'. -/
def fnExactChoiceOfCard : Claim7 := { stood := { row := fnExactChoiceOfRow, standIns := [], harness := (true, "872cb6263a296ae14ab5b9c8e933b281c0a1a9b63283417e668f605270d05d5e"), looks := false }, kinds := [], alts := [], laidByText := true, laidKinds := [.data, .data, .data, .data], laidTests := true, laidLooks := .later }
def FnExactChoiceOfCardSaid : Prop := Claim7.holds Tryz.pinned (.plain (OpenSpec.ofChange fnExactChoiceOfSpec)) fnExactChoiceOfCard

/-- THE SECOND FORM's CARD OF 'laws.FnExactIsRun'. -/
def fnExactIsRunUptoCard : Claim7 := { stood := { row := fnExactIsRunUptoRow, standIns := [], harness := (true, "872cb6263a296ae14ab5b9c8e933b281c0a1a9b63283417e668f605270d05d5e"), looks := false }, kinds := [], alts := [], laidByText := true, laidKinds := [.data, .data, .data, .data], laidTests := true, laidLooks := .later }
def FnExactIsRunUptoCardSaid : Prop := Claim7.holds Tryz.pinned (.plain (OpenSpec.upto fnExactIsRunSpec)) fnExactIsRunUptoCard

/-- THE SECOND FORM's CARD OF 'laws.FnExactNextTime'. -/
def fnExactNextTimeUptoCard : Claim7 := { stood := { row := fnExactNextTimeUptoRow, standIns := [], harness := (true, "872cb6263a296ae14ab5b9c8e933b281c0a1a9b63283417e668f605270d05d5e"), looks := false }, kinds := [], alts := [], laidByText := true, laidKinds := [.data, .data, .data, .data], laidTests := true, laidLooks := .later }
def FnExactNextTimeUptoCardSaid : Prop := Claim7.holds Tryz.pinned (.plain (OpenSpec.upto fnExactNextTimeSpec)) fnExactNextTimeUptoCard

/-- THE SECOND FORM's CARD OF 'laws.FnExactChoiceOf'. -/
def fnExactChoiceOfUptoCard : Claim7 := { stood := { row := fnExactChoiceOfUptoRow, standIns := [], harness := (true, "872cb6263a296ae14ab5b9c8e933b281c0a1a9b63283417e668f605270d05d5e"), looks := false }, kinds := [], alts := [], laidByText := true, laidKinds := [.data, .data, .data, .data], laidTests := true, laidLooks := .later }
def FnExactChoiceOfUptoCardSaid : Prop := Claim7.holds Tryz.pinned (.plain (OpenSpec.upto fnExactChoiceOfSpec)) fnExactChoiceOfUptoCard
end Rows
end Go.Proofs.YthodldbjhlpjhaaGreatDoor
