/-
  No cell of these rows narrows 'for every input' (looked for: loops, veiled, ifaces, maps, wideKeys, modest, calm, conditions, laid).
  DERIVED. THE GIVEN ROWS OF THIS SEAT. 11 by the template 'for every input the law returns true; each argument reads behind the call as it read before'; 0 by the template 'total and deterministic' (their statements: YtcoojpojnmnboaaTotals.lean).
  GIVEN WITH THE SEED: the statements are not yours to turn. If you find one false, say at which input.
  Laid BY PROGRAM, IN A SANDBOX (cutbox-rows.mjs): the forced cells as the released guide's own fill.sh prints them over the translation 690c56bfc2d67699… (all of the seat's roots in one cut). By AI agents, Wed Nov 11 2026. No macro, syntax, notation, axiom, sorry.
-/
import Derived.Test.YtcoojpojnmnboaaChecked
import GoSem.Claim
import GoSem.ClaimJoined
import GoSem.ClaimMapViews
import Derived.JoinedTies
import Derived.KernelRfl
namespace Go.Proofs.Ytcoojpojnmnboaa
/- THE CELL 'sum', in the pinned program and in every row, IS THE sha256 OF THE DUMP (.gsa) THAT YtcoojpojnmnboaaProg.lean LOADS. Nothing in Lean hashes anything: it is a label: what it is worth is what the hold of that sum in a sandbox is worth. -/
noncomputable def Try.pinned : Pinned := { name := "ytcoojpojnmnboaa", sum := "690c56bfc2d676995b7ba6eaffb458da8e0dc39d0453daf220fa8caf9ac1f967", checked := Try.checked }
namespace Rows
def none {H : Type} : Left H := { results := [], args := [] }

/-- 'laws.FnFlows': WHATEVER THE INPUT: true; the input reads as it did. -/
def fnFlowsSpec : ChangeSpec := { name := "fnFlows", fn := fun _ => fun
  | [d1, d2] => { results := [.lit (.bool true)], args := [d1, d2] }
  | _ => none }
def fnFlowsRow : OpenClaim := { program := "ytcoojpojnmnboaa", sum := "690c56bfc2d676995b7ba6eaffb458da8e0dc39d0453daf220fa8caf9ac1f967", func := "loop.example/g00838/laws.FnFlows", spec := "fnFlows", apart := false }
def FnFlowsSaid : Prop := fnFlowsRow.holds Try.pinned (OpenSpec.ofChange fnFlowsSpec)

/-- ITS FALSE NEIGHBOUR: 'it returns false'. Refute it at one input. -/
def fnFlowsWrong : ChangeSpec := { name := "fnFlows", fn := fun _ => fun
  | [d1, d2] => { results := [.lit (.bool false)], args := [d1, d2] }
  | _ => none }
def FnFlowsWrongFalsely : Prop := fnFlowsRow.holds Try.pinned (OpenSpec.ofChange fnFlowsWrong)

/-- 'laws.FnDelays': WHATEVER THE INPUT: true; the input reads as it did. -/
def fnDelaysSpec : ChangeSpec := { name := "fnDelays", fn := fun _ => fun
  | [d1, d2] => { results := [.lit (.bool true)], args := [d1, d2] }
  | _ => none }
def fnDelaysRow : OpenClaim := { program := "ytcoojpojnmnboaa", sum := "690c56bfc2d676995b7ba6eaffb458da8e0dc39d0453daf220fa8caf9ac1f967", func := "loop.example/g00838/laws.FnDelays", spec := "fnDelays", unfollowed := true, recurses := true, apart := false }
def FnDelaysSaid : Prop := fnDelaysRow.holds Try.pinned (OpenSpec.ofChange fnDelaysSpec)

/-- ITS FALSE NEIGHBOUR: 'it returns false'. Refute it at one input. -/
def fnDelaysWrong : ChangeSpec := { name := "fnDelays", fn := fun _ => fun
  | [d1, d2] => { results := [.lit (.bool false)], args := [d1, d2] }
  | _ => none }
def FnDelaysWrongFalsely : Prop := fnDelaysRow.holds Try.pinned (OpenSpec.ofChange fnDelaysWrong)

/-- 'laws.FnSendWindows': WHATEVER THE INPUT: true; the input reads as it did. -/
def fnSendWindowsSpec : ChangeSpec := { name := "fnSendWindows", fn := fun _ => fun
  | [d1, d2] => { results := [.lit (.bool true)], args := [d1, d2] }
  | _ => none }
def fnSendWindowsRow : OpenClaim := { program := "ytcoojpojnmnboaa", sum := "690c56bfc2d676995b7ba6eaffb458da8e0dc39d0453daf220fa8caf9ac1f967", func := "loop.example/g00838/laws.FnSendWindows", spec := "fnSendWindows", unfollowed := true, recurses := true, apart := false }
def FnSendWindowsSaid : Prop := fnSendWindowsRow.holds Try.pinned (OpenSpec.ofChange fnSendWindowsSpec)

/-- ITS FALSE NEIGHBOUR: 'it returns false'. Refute it at one input. -/
def fnSendWindowsWrong : ChangeSpec := { name := "fnSendWindows", fn := fun _ => fun
  | [d1, d2] => { results := [.lit (.bool false)], args := [d1, d2] }
  | _ => none }
def FnSendWindowsWrongFalsely : Prop := fnSendWindowsRow.holds Try.pinned (OpenSpec.ofChange fnSendWindowsWrong)

/-- 'laws.FnFlowPackets': WHATEVER THE INPUT: true; the input reads as it did. -/
def fnFlowPacketsSpec : ChangeSpec := { name := "fnFlowPackets", fn := fun _ => fun
  | [d1, d2] => { results := [.lit (.bool true)], args := [d1, d2] }
  | _ => none }
def fnFlowPacketsRow : OpenClaim := { program := "ytcoojpojnmnboaa", sum := "690c56bfc2d676995b7ba6eaffb458da8e0dc39d0453daf220fa8caf9ac1f967", func := "loop.example/g00838/laws.FnFlowPackets", spec := "fnFlowPackets", apart := false }
def FnFlowPacketsSaid : Prop := fnFlowPacketsRow.holds Try.pinned (OpenSpec.ofChange fnFlowPacketsSpec)

/-- ITS FALSE NEIGHBOUR: 'it returns false'. Refute it at one input. -/
def fnFlowPacketsWrong : ChangeSpec := { name := "fnFlowPackets", fn := fun _ => fun
  | [d1, d2] => { results := [.lit (.bool false)], args := [d1, d2] }
  | _ => none }
def FnFlowPacketsWrongFalsely : Prop := fnFlowPacketsRow.holds Try.pinned (OpenSpec.ofChange fnFlowPacketsWrong)

/-- 'laws.FnColours': WHATEVER THE INPUT: true; the input reads as it did. -/
def fnColoursSpec : ChangeSpec := { name := "fnColours", fn := fun _ => fun
  | [d1, d2] => { results := [.lit (.bool true)], args := [d1, d2] }
  | _ => none }
def fnColoursRow : OpenClaim := { program := "ytcoojpojnmnboaa", sum := "690c56bfc2d676995b7ba6eaffb458da8e0dc39d0453daf220fa8caf9ac1f967", func := "loop.example/g00838/laws.FnColours", spec := "fnColours", apart := false }
def FnColoursSaid : Prop := fnColoursRow.holds Try.pinned (OpenSpec.ofChange fnColoursSpec)

/-- ITS FALSE NEIGHBOUR: 'it returns false'. Refute it at one input. -/
def fnColoursWrong : ChangeSpec := { name := "fnColours", fn := fun _ => fun
  | [d1, d2] => { results := [.lit (.bool false)], args := [d1, d2] }
  | _ => none }
def FnColoursWrongFalsely : Prop := fnColoursRow.holds Try.pinned (OpenSpec.ofChange fnColoursWrong)

/-- 'laws.FnFair': WHATEVER THE INPUT: true; the input reads as it did. -/
def fnFairSpec : ChangeSpec := { name := "fnFair", fn := fun _ => fun
  | [d1, d2] => { results := [.lit (.bool true)], args := [d1, d2] }
  | _ => none }
def fnFairRow : OpenClaim := { program := "ytcoojpojnmnboaa", sum := "690c56bfc2d676995b7ba6eaffb458da8e0dc39d0453daf220fa8caf9ac1f967", func := "loop.example/g00838/laws.FnFair", spec := "fnFair", unfollowed := true, recurses := true, apart := false }
def FnFairSaid : Prop := fnFairRow.holds Try.pinned (OpenSpec.ofChange fnFairSpec)

/-- ITS FALSE NEIGHBOUR: 'it returns false'. Refute it at one input. -/
def fnFairWrong : ChangeSpec := { name := "fnFair", fn := fun _ => fun
  | [d1, d2] => { results := [.lit (.bool false)], args := [d1, d2] }
  | _ => none }
def FnFairWrongFalsely : Prop := fnFairRow.holds Try.pinned (OpenSpec.ofChange fnFairWrong)

/-- 'laws.FnEarlyDrops': WHATEVER THE INPUT: true; the input reads as it did. -/
def fnEarlyDropsSpec : ChangeSpec := { name := "fnEarlyDrops", fn := fun _ => fun
  | [d1, d2] => { results := [.lit (.bool true)], args := [d1, d2] }
  | _ => none }
def fnEarlyDropsRow : OpenClaim := { program := "ytcoojpojnmnboaa", sum := "690c56bfc2d676995b7ba6eaffb458da8e0dc39d0453daf220fa8caf9ac1f967", func := "loop.example/g00838/laws.FnEarlyDrops", spec := "fnEarlyDrops", apart := false }
def FnEarlyDropsSaid : Prop := fnEarlyDropsRow.holds Try.pinned (OpenSpec.ofChange fnEarlyDropsSpec)

/-- ITS FALSE NEIGHBOUR: 'it returns false'. Refute it at one input. -/
def fnEarlyDropsWrong : ChangeSpec := { name := "fnEarlyDrops", fn := fun _ => fun
  | [d1, d2] => { results := [.lit (.bool false)], args := [d1, d2] }
  | _ => none }
def FnEarlyDropsWrongFalsely : Prop := fnEarlyDropsRow.holds Try.pinned (OpenSpec.ofChange fnEarlyDropsWrong)

/-- 'laws.FnConform': WHATEVER THE INPUT: true; the input reads as it did. -/
def fnConformSpec : ChangeSpec := { name := "fnConform", fn := fun _ => fun
  | [d1, d2] => { results := [.lit (.bool true)], args := [d1, d2] }
  | _ => none }
def fnConformRow : OpenClaim := { program := "ytcoojpojnmnboaa", sum := "690c56bfc2d676995b7ba6eaffb458da8e0dc39d0453daf220fa8caf9ac1f967", func := "loop.example/g00838/laws.FnConform", spec := "fnConform", apart := false }
def FnConformSaid : Prop := fnConformRow.holds Try.pinned (OpenSpec.ofChange fnConformSpec)

/-- ITS FALSE NEIGHBOUR: 'it returns false'. Refute it at one input. -/
def fnConformWrong : ChangeSpec := { name := "fnConform", fn := fun _ => fun
  | [d1, d2] => { results := [.lit (.bool false)], args := [d1, d2] }
  | _ => none }
def FnConformWrongFalsely : Prop := fnConformRow.holds Try.pinned (OpenSpec.ofChange fnConformWrong)

/-- 'laws.FnArithmetic': WHATEVER THE INPUT: true; the input reads as it did. -/
def fnArithmeticSpec : ChangeSpec := { name := "fnArithmetic", fn := fun _ => fun
  | [d1, d2] => { results := [.lit (.bool true)], args := [d1, d2] }
  | _ => none }
def fnArithmeticRow : OpenClaim := { program := "ytcoojpojnmnboaa", sum := "690c56bfc2d676995b7ba6eaffb458da8e0dc39d0453daf220fa8caf9ac1f967", func := "loop.example/g00838/laws.FnArithmetic", spec := "fnArithmetic", recurses := true, apart := false }
def FnArithmeticSaid : Prop := fnArithmeticRow.holds Try.pinned (OpenSpec.ofChange fnArithmeticSpec)

/-- ITS FALSE NEIGHBOUR: 'it returns false'. Refute it at one input. -/
def fnArithmeticWrong : ChangeSpec := { name := "fnArithmetic", fn := fun _ => fun
  | [d1, d2] => { results := [.lit (.bool false)], args := [d1, d2] }
  | _ => none }
def FnArithmeticWrongFalsely : Prop := fnArithmeticRow.holds Try.pinned (OpenSpec.ofChange fnArithmeticWrong)

/-- 'laws.FnDelayRuns': WHATEVER THE INPUT: true; the input reads as it did. -/
def fnDelayRunsSpec : ChangeSpec := { name := "fnDelayRuns", fn := fun _ => fun
  | [d1, d2] => { results := [.lit (.bool true)], args := [d1, d2] }
  | _ => none }
def fnDelayRunsRow : OpenClaim := { program := "ytcoojpojnmnboaa", sum := "690c56bfc2d676995b7ba6eaffb458da8e0dc39d0453daf220fa8caf9ac1f967", func := "loop.example/g00838/laws.FnDelayRuns", spec := "fnDelayRuns", unfollowed := true, recurses := true, apart := false }
def FnDelayRunsSaid : Prop := fnDelayRunsRow.holds Try.pinned (OpenSpec.ofChange fnDelayRunsSpec)

/-- ITS FALSE NEIGHBOUR: 'it returns false'. Refute it at one input. -/
def fnDelayRunsWrong : ChangeSpec := { name := "fnDelayRuns", fn := fun _ => fun
  | [d1, d2] => { results := [.lit (.bool false)], args := [d1, d2] }
  | _ => none }
def FnDelayRunsWrongFalsely : Prop := fnDelayRunsRow.holds Try.pinned (OpenSpec.ofChange fnDelayRunsWrong)

/-- 'laws.FnWritten': WHATEVER THE INPUT: true; the input reads as it did. -/
def fnWrittenSpec : ChangeSpec := { name := "fnWritten", fn := fun _ => fun
  | [d1, d2] => { results := [.lit (.bool true)], args := [d1, d2] }
  | _ => none }
def fnWrittenRow : OpenClaim := { program := "ytcoojpojnmnboaa", sum := "690c56bfc2d676995b7ba6eaffb458da8e0dc39d0453daf220fa8caf9ac1f967", func := "loop.example/g00838/laws.FnWritten", spec := "fnWritten", apart := false }
def FnWrittenSaid : Prop := fnWrittenRow.holds Try.pinned (OpenSpec.ofChange fnWrittenSpec)

/-- ITS FALSE NEIGHBOUR: 'it returns false'. Refute it at one input. -/
def fnWrittenWrong : ChangeSpec := { name := "fnWritten", fn := fun _ => fun
  | [d1, d2] => { results := [.lit (.bool false)], args := [d1, d2] }
  | _ => none }
def FnWrittenWrongFalsely : Prop := fnWrittenRow.holds Try.pinned (OpenSpec.ofChange fnWrittenWrong)

/- THE SECOND FORM. 'bulk': how many values and letters a reading holds, each counted each time it is reached (what is shared counts as often as it is met; a slice's spare places count too). A statement '..UptoSaid' is the law's where the arguments, and the package variables that the reading takes, are together of bulk at most 1048576: NARROWER than '..Said'. Prove '..Said' where nothing that the law and all that it calls make is longer than what came in: it says more and counts as full. Else prove '..UptoSaid'. A law counts once. -/
mutual
def uptoBulk {H : Type} : DataW H → Nat
  | .lit (.string bytes) => bytes.length + 1
  | .lit _ => 1
  | .nil => 1
  | .ptr d => uptoBulk d + 1
  | .slice elems spare => uptoBulkAll elems + uptoBulkAll spare + 1
  | .agg parts => uptoBulkAll parts + 1
  | .iface _ d => uptoBulk d + 1
  | .map entries => uptoBulkEntries entries + 1
  | .held _ => 1
def uptoBulkAll {H : Type} : List (DataW H) → Nat
  | [] => 0
  | d :: r => uptoBulk d + uptoBulkAll r
def uptoBulkEntries {H : Type} : List (Lit × DataW H) → Nat
  | [] => 0
  | x :: r => uptoBulkEntry x + uptoBulkEntries r
def uptoBulkEntry {H : Type} : Lit × DataW H → Nat
  | (.string bytes, d) => bytes.length + uptoBulk d + 1
  | (_, d) => uptoBulk d + 1
 end
def uptoSmall : (H : Type) → List (DataW H) → Bool := fun _ ds => decide (uptoBulkAll ds ≤ 1048576)
def OpenSpec.upto (s : _root_.Go.ChangeSpec) : _root_.Go.OpenSpec := { _root_.Go.OpenSpec.ofChange s with cond := some uptoSmall }

/-- 'laws.FnFlows', WHERE WHAT IT READS IS OF BULK AT MOST 1048576: true; the input reads as it did. -/
def fnFlowsUptoRow : OpenClaim := { program := "ytcoojpojnmnboaa", sum := "690c56bfc2d676995b7ba6eaffb458da8e0dc39d0453daf220fa8caf9ac1f967", func := "loop.example/g00838/laws.FnFlows", spec := "fnFlows", apart := false, narrowed := true }
def FnFlowsUptoSaid : Prop := fnFlowsUptoRow.holds Try.pinned (OpenSpec.upto fnFlowsSpec)

/-- 'laws.FnDelays', WHERE WHAT IT READS IS OF BULK AT MOST 1048576: true; the input reads as it did. -/
def fnDelaysUptoRow : OpenClaim := { program := "ytcoojpojnmnboaa", sum := "690c56bfc2d676995b7ba6eaffb458da8e0dc39d0453daf220fa8caf9ac1f967", func := "loop.example/g00838/laws.FnDelays", spec := "fnDelays", unfollowed := true, recurses := true, apart := false, narrowed := true }
def FnDelaysUptoSaid : Prop := fnDelaysUptoRow.holds Try.pinned (OpenSpec.upto fnDelaysSpec)

/-- 'laws.FnSendWindows', WHERE WHAT IT READS IS OF BULK AT MOST 1048576: true; the input reads as it did. -/
def fnSendWindowsUptoRow : OpenClaim := { program := "ytcoojpojnmnboaa", sum := "690c56bfc2d676995b7ba6eaffb458da8e0dc39d0453daf220fa8caf9ac1f967", func := "loop.example/g00838/laws.FnSendWindows", spec := "fnSendWindows", unfollowed := true, recurses := true, apart := false, narrowed := true }
def FnSendWindowsUptoSaid : Prop := fnSendWindowsUptoRow.holds Try.pinned (OpenSpec.upto fnSendWindowsSpec)

/-- 'laws.FnFlowPackets', WHERE WHAT IT READS IS OF BULK AT MOST 1048576: true; the input reads as it did. -/
def fnFlowPacketsUptoRow : OpenClaim := { program := "ytcoojpojnmnboaa", sum := "690c56bfc2d676995b7ba6eaffb458da8e0dc39d0453daf220fa8caf9ac1f967", func := "loop.example/g00838/laws.FnFlowPackets", spec := "fnFlowPackets", apart := false, narrowed := true }
def FnFlowPacketsUptoSaid : Prop := fnFlowPacketsUptoRow.holds Try.pinned (OpenSpec.upto fnFlowPacketsSpec)

/-- 'laws.FnColours', WHERE WHAT IT READS IS OF BULK AT MOST 1048576: true; the input reads as it did. -/
def fnColoursUptoRow : OpenClaim := { program := "ytcoojpojnmnboaa", sum := "690c56bfc2d676995b7ba6eaffb458da8e0dc39d0453daf220fa8caf9ac1f967", func := "loop.example/g00838/laws.FnColours", spec := "fnColours", apart := false, narrowed := true }
def FnColoursUptoSaid : Prop := fnColoursUptoRow.holds Try.pinned (OpenSpec.upto fnColoursSpec)

/-- 'laws.FnFair', WHERE WHAT IT READS IS OF BULK AT MOST 1048576: true; the input reads as it did. -/
def fnFairUptoRow : OpenClaim := { program := "ytcoojpojnmnboaa", sum := "690c56bfc2d676995b7ba6eaffb458da8e0dc39d0453daf220fa8caf9ac1f967", func := "loop.example/g00838/laws.FnFair", spec := "fnFair", unfollowed := true, recurses := true, apart := false, narrowed := true }
def FnFairUptoSaid : Prop := fnFairUptoRow.holds Try.pinned (OpenSpec.upto fnFairSpec)

/-- 'laws.FnEarlyDrops', WHERE WHAT IT READS IS OF BULK AT MOST 1048576: true; the input reads as it did. -/
def fnEarlyDropsUptoRow : OpenClaim := { program := "ytcoojpojnmnboaa", sum := "690c56bfc2d676995b7ba6eaffb458da8e0dc39d0453daf220fa8caf9ac1f967", func := "loop.example/g00838/laws.FnEarlyDrops", spec := "fnEarlyDrops", apart := false, narrowed := true }
def FnEarlyDropsUptoSaid : Prop := fnEarlyDropsUptoRow.holds Try.pinned (OpenSpec.upto fnEarlyDropsSpec)

/-- 'laws.FnConform', WHERE WHAT IT READS IS OF BULK AT MOST 1048576: true; the input reads as it did. -/
def fnConformUptoRow : OpenClaim := { program := "ytcoojpojnmnboaa", sum := "690c56bfc2d676995b7ba6eaffb458da8e0dc39d0453daf220fa8caf9ac1f967", func := "loop.example/g00838/laws.FnConform", spec := "fnConform", apart := false, narrowed := true }
def FnConformUptoSaid : Prop := fnConformUptoRow.holds Try.pinned (OpenSpec.upto fnConformSpec)

/-- 'laws.FnArithmetic', WHERE WHAT IT READS IS OF BULK AT MOST 1048576: true; the input reads as it did. -/
def fnArithmeticUptoRow : OpenClaim := { program := "ytcoojpojnmnboaa", sum := "690c56bfc2d676995b7ba6eaffb458da8e0dc39d0453daf220fa8caf9ac1f967", func := "loop.example/g00838/laws.FnArithmetic", spec := "fnArithmetic", recurses := true, apart := false, narrowed := true }
def FnArithmeticUptoSaid : Prop := fnArithmeticUptoRow.holds Try.pinned (OpenSpec.upto fnArithmeticSpec)

/-- 'laws.FnDelayRuns', WHERE WHAT IT READS IS OF BULK AT MOST 1048576: true; the input reads as it did. -/
def fnDelayRunsUptoRow : OpenClaim := { program := "ytcoojpojnmnboaa", sum := "690c56bfc2d676995b7ba6eaffb458da8e0dc39d0453daf220fa8caf9ac1f967", func := "loop.example/g00838/laws.FnDelayRuns", spec := "fnDelayRuns", unfollowed := true, recurses := true, apart := false, narrowed := true }
def FnDelayRunsUptoSaid : Prop := fnDelayRunsUptoRow.holds Try.pinned (OpenSpec.upto fnDelayRunsSpec)

/-- 'laws.FnWritten', WHERE WHAT IT READS IS OF BULK AT MOST 1048576: true; the input reads as it did. -/
def fnWrittenUptoRow : OpenClaim := { program := "ytcoojpojnmnboaa", sum := "690c56bfc2d676995b7ba6eaffb458da8e0dc39d0453daf220fa8caf9ac1f967", func := "loop.example/g00838/laws.FnWritten", spec := "fnWritten", apart := false, narrowed := true }
def FnWrittenUptoSaid : Prop := fnWrittenUptoRow.holds Try.pinned (OpenSpec.upto fnWrittenSpec)

end Rows
end Go.Proofs.Ytcoojpojnmnboaa
