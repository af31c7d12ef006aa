/-
  DERIVED. GIVEN WITH THE SEED: THE CARDS: each row of YtcoimfbmgjhcjabGreatDoorRows.lean that lists a variable, with what it lists TIED to the program's text (the seventh form; the later family's looks); each row that meets fmt, with fmt's text TOLD by the authors' own Lean function (tested against real Go, not proved from fmt's source: count such statements apart). THE CARD IS WHAT COUNTS. Prove the row's statement (the work); the ties are given (YtcoimfbmgjhcjabGreatDoorTie.lean); close each card by the builder's one call (the guide's Derived/Test/ToyasCard.lean, 'card_holds'). Laid BY PROGRAM, IN A SANDBOX (cutbox-door.mjs). By AI agents, Wed Nov 11 2026. No macro, syntax, notation, axiom, sorry.
-/
import Derived.Test.YtcoimfbmgjhcjabGreatDoorRows
import GoSem.ClaimSeven
namespace Go.Proofs.YtcoimfbmgjhcjabGreatDoor
namespace Rows

/-- THE TIED CARD OF 'laws.FnExactSetLimitLive'. -/
def fnExactSetLimitLiveCard : Claim7 := { stood := { row := fnExactSetLimitLiveRow, standIns := [], harness := (true, "f28df714c59bc8c10a46a78fcaf5a86e7bbf80a573745403559f7592cbf09a4d"), looks := false }, kinds := [], alts := [], laidByText := true, laidKinds := [.data, .data, .data, .data], laidTests := true, laidLooks := .later }
def FnExactSetLimitLiveCardSaid : Prop := Claim7.holds Tryz.pinned (.plain (OpenSpec.ofChange fnExactSetLimitLiveSpec)) fnExactSetLimitLiveCard

/-- THE TIED CARD OF 'laws.FnExactDropLive'. -/
def fnExactDropLiveCard : Claim7 := { stood := { row := fnExactDropLiveRow, standIns := [], harness := (true, "f28df714c59bc8c10a46a78fcaf5a86e7bbf80a573745403559f7592cbf09a4d"), looks := false }, kinds := [], alts := [], laidByText := true, laidKinds := [.data, .data, .data, .data], laidTests := true, laidLooks := .later }
def FnExactDropLiveCardSaid : Prop := Claim7.holds Tryz.pinned (.plain (OpenSpec.ofChange fnExactDropLiveSpec)) fnExactDropLiveCard

/-- THE TIED CARD OF 'laws.FnExactAddLive'. -/
def fnExactAddLiveCard : Claim7 := { stood := { row := fnExactAddLiveRow, standIns := [], harness := (true, "f28df714c59bc8c10a46a78fcaf5a86e7bbf80a573745403559f7592cbf09a4d"), looks := false }, kinds := [], alts := [], laidByText := true, laidKinds := [.data, .data, .data, .data], laidTests := true, laidLooks := .later }
def FnExactAddLiveCardSaid : Prop := Claim7.holds Tryz.pinned (.plain (OpenSpec.ofChange fnExactAddLiveSpec)) fnExactAddLiveCard

/-- THE SECOND FORM's CARD OF 'laws.FnExactSetLimitLive'. -/
def fnExactSetLimitLiveUptoCard : Claim7 := { stood := { row := fnExactSetLimitLiveUptoRow, standIns := [], harness := (true, "f28df714c59bc8c10a46a78fcaf5a86e7bbf80a573745403559f7592cbf09a4d"), looks := false }, kinds := [], alts := [], laidByText := true, laidKinds := [.data, .data, .data, .data], laidTests := true, laidLooks := .later }
def FnExactSetLimitLiveUptoCardSaid : Prop := Claim7.holds Tryz.pinned (.plain (OpenSpec.upto fnExactSetLimitLiveSpec)) fnExactSetLimitLiveUptoCard

/-- THE SECOND FORM's CARD OF 'laws.FnExactDropLive'. -/
def fnExactDropLiveUptoCard : Claim7 := { stood := { row := fnExactDropLiveUptoRow, standIns := [], harness := (true, "f28df714c59bc8c10a46a78fcaf5a86e7bbf80a573745403559f7592cbf09a4d"), looks := false }, kinds := [], alts := [], laidByText := true, laidKinds := [.data, .data, .data, .data], laidTests := true, laidLooks := .later }
def FnExactDropLiveUptoCardSaid : Prop := Claim7.holds Tryz.pinned (.plain (OpenSpec.upto fnExactDropLiveSpec)) fnExactDropLiveUptoCard

/-- THE SECOND FORM's CARD OF 'laws.FnExactAddLive'. -/
def fnExactAddLiveUptoCard : Claim7 := { stood := { row := fnExactAddLiveUptoRow, standIns := [], harness := (true, "f28df714c59bc8c10a46a78fcaf5a86e7bbf80a573745403559f7592cbf09a4d"), looks := false }, kinds := [], alts := [], laidByText := true, laidKinds := [.data, .data, .data, .data], laidTests := true, laidLooks := .later }
def FnExactAddLiveUptoCardSaid : Prop := Claim7.holds Tryz.pinned (.plain (OpenSpec.upto fnExactAddLiveSpec)) fnExactAddLiveUptoCard
end Rows
end Go.Proofs.YtcoimfbmgjhcjabGreatDoor
