/-
  DERIVED. GIVEN WITH THE SEED: THE CARDS: each row of YtnnmeljlcdmljaaGreatDoorRows.lean that lists a variable, with what it lists TIED to the program's text (the seventh form; the later family's looks); each row that meets fmt, with fmt's text TOLD by the authors' own Lean function (tested against real Go, not proved from fmt's source: count such statements apart). THE CARD IS WHAT COUNTS. Prove the row's statement (the work); the ties are given (YtnnmeljlcdmljaaGreatDoorTie.lean); close each card by the builder's one call (the guide's Derived/Test/ToyasCard.lean, 'card_holds'). Laid BY PROGRAM, IN A SANDBOX (cutbox-door.mjs). By AI agents, Wed Nov 11 2026. No macro, syntax, notation, axiom, sorry.
-/
import Derived.Test.YtnnmeljlcdmljaaGreatDoorRows
import GoSem.ClaimSeven
namespace Go.Proofs.YtnnmeljlcdmljaaGreatDoor
namespace Rows

/-- THE TIED CARD OF 'laws.FnExactWaitingIn'. -/
def fnExactWaitingInCard : Claim7 := { stood := { row := fnExactWaitingInRow, standIns := [], harness := (true, "81055034a099e2a4775f734a8c3906fb4217d2204c444ffeb90e016175c24877"), looks := false }, kinds := [], alts := [], laidByText := true, laidKinds := [.data, .data, .data, .data], laidTests := true, laidLooks := .later }
def FnExactWaitingInCardSaid : Prop := Claim7.holds Tryz.pinned (.plain (OpenSpec.ofChange fnExactWaitingInSpec)) fnExactWaitingInCard

/-- THE TIED CARD OF 'laws.FnExactKeptIds'. -/
def fnExactKeptIdsCard : Claim7 := { stood := { row := fnExactKeptIdsRow, standIns := [], harness := (true, "81055034a099e2a4775f734a8c3906fb4217d2204c444ffeb90e016175c24877"), looks := false }, kinds := [], alts := [], laidByText := true, laidKinds := [.data, .data, .data, .data], laidTests := true, laidLooks := .later }
def FnExactKeptIdsCardSaid : Prop := Claim7.holds Tryz.pinned (.plain (OpenSpec.ofChange fnExactKeptIdsSpec)) fnExactKeptIdsCard

/-- THE TIED CARD OF 'laws.FnExactConfigOfRun'. -/
def fnExactConfigOfRunCard : Claim7 := { stood := { row := fnExactConfigOfRunRow, standIns := [], harness := (true, "81055034a099e2a4775f734a8c3906fb4217d2204c444ffeb90e016175c24877"), looks := false }, kinds := [], alts := [], laidByText := true, laidKinds := [.data, .data, .data, .data], laidTests := true, laidLooks := .later }
def FnExactConfigOfRunCardSaid : Prop := Claim7.holds Tryz.pinned (.plain (OpenSpec.ofChange fnExactConfigOfRunSpec)) fnExactConfigOfRunCard

/-- THE TIED CARD OF 'laws.FnExactPutPacket'. -/
def fnExactPutPacketCard : Claim7 := { stood := { row := fnExactPutPacketRow, standIns := [], harness := (true, "81055034a099e2a4775f734a8c3906fb4217d2204c444ffeb90e016175c24877"), looks := false }, kinds := [], alts := [], laidByText := true, laidKinds := [.data, .data, .data, .data], laidTests := true, laidLooks := .later }
def FnExactPutPacketCardSaid : Prop := Claim7.holds Tryz.pinned (.plain (OpenSpec.ofChange fnExactPutPacketSpec)) fnExactPutPacketCard

/-- THE SECOND FORM's CARD OF 'laws.FnExactWaitingIn'. -/
def fnExactWaitingInUptoCard : Claim7 := { stood := { row := fnExactWaitingInUptoRow, standIns := [], harness := (true, "81055034a099e2a4775f734a8c3906fb4217d2204c444ffeb90e016175c24877"), looks := false }, kinds := [], alts := [], laidByText := true, laidKinds := [.data, .data, .data, .data], laidTests := true, laidLooks := .later }
def FnExactWaitingInUptoCardSaid : Prop := Claim7.holds Tryz.pinned (.plain (OpenSpec.upto fnExactWaitingInSpec)) fnExactWaitingInUptoCard

/-- THE SECOND FORM's CARD OF 'laws.FnExactKeptIds'. -/
def fnExactKeptIdsUptoCard : Claim7 := { stood := { row := fnExactKeptIdsUptoRow, standIns := [], harness := (true, "81055034a099e2a4775f734a8c3906fb4217d2204c444ffeb90e016175c24877"), looks := false }, kinds := [], alts := [], laidByText := true, laidKinds := [.data, .data, .data, .data], laidTests := true, laidLooks := .later }
def FnExactKeptIdsUptoCardSaid : Prop := Claim7.holds Tryz.pinned (.plain (OpenSpec.upto fnExactKeptIdsSpec)) fnExactKeptIdsUptoCard

/-- THE SECOND FORM's CARD OF 'laws.FnExactConfigOfRun'. -/
def fnExactConfigOfRunUptoCard : Claim7 := { stood := { row := fnExactConfigOfRunUptoRow, standIns := [], harness := (true, "81055034a099e2a4775f734a8c3906fb4217d2204c444ffeb90e016175c24877"), looks := false }, kinds := [], alts := [], laidByText := true, laidKinds := [.data, .data, .data, .data], laidTests := true, laidLooks := .later }
def FnExactConfigOfRunUptoCardSaid : Prop := Claim7.holds Tryz.pinned (.plain (OpenSpec.upto fnExactConfigOfRunSpec)) fnExactConfigOfRunUptoCard

/-- THE SECOND FORM's CARD OF 'laws.FnExactPutPacket'. -/
def fnExactPutPacketUptoCard : Claim7 := { stood := { row := fnExactPutPacketUptoRow, standIns := [], harness := (true, "81055034a099e2a4775f734a8c3906fb4217d2204c444ffeb90e016175c24877"), looks := false }, kinds := [], alts := [], laidByText := true, laidKinds := [.data, .data, .data, .data], laidTests := true, laidLooks := .later }
def FnExactPutPacketUptoCardSaid : Prop := Claim7.holds Tryz.pinned (.plain (OpenSpec.upto fnExactPutPacketSpec)) fnExactPutPacketUptoCard
end Rows
end Go.Proofs.YtnnmeljlcdmljaaGreatDoor
