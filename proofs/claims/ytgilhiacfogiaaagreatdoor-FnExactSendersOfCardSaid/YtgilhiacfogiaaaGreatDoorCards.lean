/-
  DERIVED. GIVEN WITH THE SEED: THE CARDS: each row of YtgilhiacfogiaaaGreatDoorRows.lean that lists a variable, with what it lists TIED to the program's text (the seventh form; the later family's looks); each row that meets fmt, with fmt's text TOLD by the authors' own Lean function (tested against real Go, not proved from fmt's source: count such statements apart). THE CARD IS WHAT COUNTS. Prove the row's statement (the work); the ties are given (YtgilhiacfogiaaaGreatDoorTie.lean); close each card by the builder's one call (the guide's Derived/Test/ToyasCard.lean, 'card_holds'). Laid BY PROGRAM, IN A SANDBOX (cutbox-door.mjs). By AI agents, Wed Nov 11 2026. No macro, syntax, notation, axiom, sorry.
-/
import Derived.Test.YtgilhiacfogiaaaGreatDoorRows
import GoSem.ClaimSeven
namespace Go.Proofs.YtgilhiacfogiaaaGreatDoor
namespace Rows

/-- THE TIED CARD OF 'laws.FnExactUnloadConfig'. -/
def fnExactUnloadConfigCard : Claim7 := { stood := { row := fnExactUnloadConfigRow, standIns := [], harness := (true, "ab99313872b954ce0cc7757477205baefd51dc2f39ed8ef3d4d56e6a903a3b5b"), looks := false }, kinds := [], alts := [], laidByText := true, laidKinds := [.data, .data, .data, .data], laidTests := true, laidLooks := .later }
def FnExactUnloadConfigCardSaid : Prop := Claim7.holds Tryz.pinned (.plain (OpenSpec.ofChange fnExactUnloadConfigSpec)) fnExactUnloadConfigCard

/-- THE TIED CARD OF 'laws.FnExactNewRun'. -/
def fnExactNewRunCard : Claim7 := { stood := { row := fnExactNewRunRow, standIns := [], harness := (true, "ab99313872b954ce0cc7757477205baefd51dc2f39ed8ef3d4d56e6a903a3b5b"), looks := false }, kinds := [], alts := [], laidByText := true, laidKinds := [.data, .data, .data, .data], laidTests := true, laidLooks := .later }
def FnExactNewRunCardSaid : Prop := Claim7.holds Tryz.pinned (.plain (OpenSpec.ofChange fnExactNewRunSpec)) fnExactNewRunCard

/-- THE TIED CARD OF 'laws.FnExactModesOf'. -/
def fnExactModesOfCard : Claim7 := { stood := { row := fnExactModesOfRow, standIns := [], harness := (true, "ab99313872b954ce0cc7757477205baefd51dc2f39ed8ef3d4d56e6a903a3b5b"), looks := false }, kinds := [], alts := [], laidByText := true, laidKinds := [.data, .data, .data, .data], laidTests := true, laidLooks := .later }
def FnExactModesOfCardSaid : Prop := Claim7.holds Tryz.pinned (.plain (OpenSpec.ofChange fnExactModesOfSpec)) fnExactModesOfCard

/-- THE TIED CARD OF 'laws.FnExactFillTokens'. -/
def fnExactFillTokensCard : Claim7 := { stood := { row := fnExactFillTokensRow, standIns := [], harness := (true, "ab99313872b954ce0cc7757477205baefd51dc2f39ed8ef3d4d56e6a903a3b5b"), looks := false }, kinds := [], alts := [], laidByText := true, laidKinds := [.data, .data, .data, .data], laidTests := true, laidLooks := .later }
def FnExactFillTokensCardSaid : Prop := Claim7.holds Tryz.pinned (.plain (OpenSpec.ofChange fnExactFillTokensSpec)) fnExactFillTokensCard

/-- THE TIED CARD OF 'laws.FnExactSendersOf'. -/
def fnExactSendersOfCard : Claim7 := { stood := { row := fnExactSendersOfRow, standIns := [], harness := (true, "ab99313872b954ce0cc7757477205baefd51dc2f39ed8ef3d4d56e6a903a3b5b"), looks := false }, kinds := [], alts := [], laidByText := true, laidKinds := [.data, .data, .data, .data], laidTests := true, laidLooks := .later }
def FnExactSendersOfCardSaid : Prop := Claim7.holds Tryz.pinned (.plain (OpenSpec.ofChange fnExactSendersOfSpec)) fnExactSendersOfCard

/-- THE TIED CARD OF 'laws.FnExactSendSize'. -/
def fnExactSendSizeCard : Claim7 := { stood := { row := fnExactSendSizeRow, standIns := [], harness := (true, "ab99313872b954ce0cc7757477205baefd51dc2f39ed8ef3d4d56e6a903a3b5b"), looks := false }, kinds := [], alts := [], laidByText := true, laidKinds := [.data, .data, .data, .data], laidTests := true, laidLooks := .later }
def FnExactSendSizeCardSaid : Prop := Claim7.holds Tryz.pinned (.plain (OpenSpec.ofChange fnExactSendSizeSpec)) fnExactSendSizeCard

/-- THE SECOND FORM's CARD OF 'laws.FnExactUnloadConfig'. -/
def fnExactUnloadConfigUptoCard : Claim7 := { stood := { row := fnExactUnloadConfigUptoRow, standIns := [], harness := (true, "ab99313872b954ce0cc7757477205baefd51dc2f39ed8ef3d4d56e6a903a3b5b"), looks := false }, kinds := [], alts := [], laidByText := true, laidKinds := [.data, .data, .data, .data], laidTests := true, laidLooks := .later }
def FnExactUnloadConfigUptoCardSaid : Prop := Claim7.holds Tryz.pinned (.plain (OpenSpec.upto fnExactUnloadConfigSpec)) fnExactUnloadConfigUptoCard

/-- THE SECOND FORM's CARD OF 'laws.FnExactNewRun'. -/
def fnExactNewRunUptoCard : Claim7 := { stood := { row := fnExactNewRunUptoRow, standIns := [], harness := (true, "ab99313872b954ce0cc7757477205baefd51dc2f39ed8ef3d4d56e6a903a3b5b"), looks := false }, kinds := [], alts := [], laidByText := true, laidKinds := [.data, .data, .data, .data], laidTests := true, laidLooks := .later }
def FnExactNewRunUptoCardSaid : Prop := Claim7.holds Tryz.pinned (.plain (OpenSpec.upto fnExactNewRunSpec)) fnExactNewRunUptoCard

/-- THE SECOND FORM's CARD OF 'laws.FnExactModesOf'. -/
def fnExactModesOfUptoCard : Claim7 := { stood := { row := fnExactModesOfUptoRow, standIns := [], harness := (true, "ab99313872b954ce0cc7757477205baefd51dc2f39ed8ef3d4d56e6a903a3b5b"), looks := false }, kinds := [], alts := [], laidByText := true, laidKinds := [.data, .data, .data, .data], laidTests := true, laidLooks := .later }
def FnExactModesOfUptoCardSaid : Prop := Claim7.holds Tryz.pinned (.plain (OpenSpec.upto fnExactModesOfSpec)) fnExactModesOfUptoCard

/-- THE SECOND FORM's CARD OF 'laws.FnExactFillTokens'. -/
def fnExactFillTokensUptoCard : Claim7 := { stood := { row := fnExactFillTokensUptoRow, standIns := [], harness := (true, "ab99313872b954ce0cc7757477205baefd51dc2f39ed8ef3d4d56e6a903a3b5b"), looks := false }, kinds := [], alts := [], laidByText := true, laidKinds := [.data, .data, .data, .data], laidTests := true, laidLooks := .later }
def FnExactFillTokensUptoCardSaid : Prop := Claim7.holds Tryz.pinned (.plain (OpenSpec.upto fnExactFillTokensSpec)) fnExactFillTokensUptoCard

/-- THE SECOND FORM's CARD OF 'laws.FnExactSendersOf'. -/
def fnExactSendersOfUptoCard : Claim7 := { stood := { row := fnExactSendersOfUptoRow, standIns := [], harness := (true, "ab99313872b954ce0cc7757477205baefd51dc2f39ed8ef3d4d56e6a903a3b5b"), looks := false }, kinds := [], alts := [], laidByText := true, laidKinds := [.data, .data, .data, .data], laidTests := true, laidLooks := .later }
def FnExactSendersOfUptoCardSaid : Prop := Claim7.holds Tryz.pinned (.plain (OpenSpec.upto fnExactSendersOfSpec)) fnExactSendersOfUptoCard

/-- THE SECOND FORM's CARD OF 'laws.FnExactSendSize'. -/
def fnExactSendSizeUptoCard : Claim7 := { stood := { row := fnExactSendSizeUptoRow, standIns := [], harness := (true, "ab99313872b954ce0cc7757477205baefd51dc2f39ed8ef3d4d56e6a903a3b5b"), looks := false }, kinds := [], alts := [], laidByText := true, laidKinds := [.data, .data, .data, .data], laidTests := true, laidLooks := .later }
def FnExactSendSizeUptoCardSaid : Prop := Claim7.holds Tryz.pinned (.plain (OpenSpec.upto fnExactSendSizeSpec)) fnExactSendSizeUptoCard
end Rows
end Go.Proofs.YtgilhiacfogiaaaGreatDoor
