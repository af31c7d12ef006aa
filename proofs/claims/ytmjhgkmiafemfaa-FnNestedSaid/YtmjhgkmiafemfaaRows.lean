/-
  No cell of these rows narrows 'for every input' (looked for: loops, veiled, ifaces, maps, wideKeys, modest, calm, conditions, laid).
  DERIVED. THE GIVEN ROWS OF THIS SEAT. 9 by the template 'for every input the law returns true; each argument reads behind the call as it read before'; 0 by the template 'total and deterministic' (their statements: YtmjhgkmiafemfaaTotals.lean).
  GIVEN WITH THE SEED: the statements are not yours to turn. If you find one false, say at which input.
  Laid BY PROGRAM, IN A SANDBOX (cutbox-rows.mjs): the forced cells as the released guide's own fill.sh prints them over the translation 34106cedcdcc4a22… (all of the seat's roots in one cut). By AI agents, Wed Nov 11 2026. No macro, syntax, notation, axiom, sorry.
-/
import Derived.Test.YtmjhgkmiafemfaaChecked
import GoSem.Claim
import GoSem.ClaimJoined
import GoSem.ClaimMapViews
import Derived.JoinedTies
import Derived.KernelRfl
namespace Go.Proofs.Ytmjhgkmiafemfaa
/- THE CELL 'sum', in the pinned program and in every row, IS THE sha256 OF THE DUMP (.gsa) THAT YtmjhgkmiafemfaaProg.lean LOADS. Nothing in Lean hashes anything: it is a label: what it is worth is what the hold of that sum in a sandbox is worth. -/
noncomputable def Try.pinned : Pinned := { name := "ytmjhgkmiafemfaa", sum := "34106cedcdcc4a22bc7da25addf3482e09ad4c3bf2e6b42627015805542a36f7", checked := Try.checked }
namespace Rows
def none {H : Type} : Left H := { results := [], args := [] }

/-- 'laws.FnFlows': WHATEVER THE INPUT: true; the input reads as it did. -/
def fnFlowsSpec : ChangeSpec := { name := "fnFlows", fn := fun _ => fun
  | [d1, d2] => { results := [.lit (.bool true)], args := [d1, d2] }
  | _ => none }
def fnFlowsRow : OpenClaim := { program := "ytmjhgkmiafemfaa", sum := "34106cedcdcc4a22bc7da25addf3482e09ad4c3bf2e6b42627015805542a36f7", func := "loop.example/g00838/laws.FnFlows", spec := "fnFlows", apart := false }
def FnFlowsSaid : Prop := fnFlowsRow.holds Try.pinned (OpenSpec.ofChange fnFlowsSpec)

/-- ITS FALSE NEIGHBOUR: 'it returns false'. Refute it at one input. -/
def fnFlowsWrong : ChangeSpec := { name := "fnFlows", fn := fun _ => fun
  | [d1, d2] => { results := [.lit (.bool false)], args := [d1, d2] }
  | _ => none }
def FnFlowsWrongFalsely : Prop := fnFlowsRow.holds Try.pinned (OpenSpec.ofChange fnFlowsWrong)

/-- 'laws.FnFlowPackets': WHATEVER THE INPUT: true; the input reads as it did. -/
def fnFlowPacketsSpec : ChangeSpec := { name := "fnFlowPackets", fn := fun _ => fun
  | [d1, d2] => { results := [.lit (.bool true)], args := [d1, d2] }
  | _ => none }
def fnFlowPacketsRow : OpenClaim := { program := "ytmjhgkmiafemfaa", sum := "34106cedcdcc4a22bc7da25addf3482e09ad4c3bf2e6b42627015805542a36f7", func := "loop.example/g00838/laws.FnFlowPackets", spec := "fnFlowPackets", apart := false }
def FnFlowPacketsSaid : Prop := fnFlowPacketsRow.holds Try.pinned (OpenSpec.ofChange fnFlowPacketsSpec)

/-- ITS FALSE NEIGHBOUR: 'it returns false'. Refute it at one input. -/
def fnFlowPacketsWrong : ChangeSpec := { name := "fnFlowPackets", fn := fun _ => fun
  | [d1, d2] => { results := [.lit (.bool false)], args := [d1, d2] }
  | _ => none }
def FnFlowPacketsWrongFalsely : Prop := fnFlowPacketsRow.holds Try.pinned (OpenSpec.ofChange fnFlowPacketsWrong)

/-- 'laws.FnEarlyDrops': WHATEVER THE INPUT: true; the input reads as it did. -/
def fnEarlyDropsSpec : ChangeSpec := { name := "fnEarlyDrops", fn := fun _ => fun
  | [d1, d2] => { results := [.lit (.bool true)], args := [d1, d2] }
  | _ => none }
def fnEarlyDropsRow : OpenClaim := { program := "ytmjhgkmiafemfaa", sum := "34106cedcdcc4a22bc7da25addf3482e09ad4c3bf2e6b42627015805542a36f7", func := "loop.example/g00838/laws.FnEarlyDrops", spec := "fnEarlyDrops", apart := false }
def FnEarlyDropsSaid : Prop := fnEarlyDropsRow.holds Try.pinned (OpenSpec.ofChange fnEarlyDropsSpec)

/-- ITS FALSE NEIGHBOUR: 'it returns false'. Refute it at one input. -/
def fnEarlyDropsWrong : ChangeSpec := { name := "fnEarlyDrops", fn := fun _ => fun
  | [d1, d2] => { results := [.lit (.bool false)], args := [d1, d2] }
  | _ => none }
def FnEarlyDropsWrongFalsely : Prop := fnEarlyDropsRow.holds Try.pinned (OpenSpec.ofChange fnEarlyDropsWrong)

/-- 'laws.FnMerged': WHATEVER THE INPUT: true; the input reads as it did. -/
def fnMergedSpec : ChangeSpec := { name := "fnMerged", fn := fun _ => fun
  | [d1, d2] => { results := [.lit (.bool true)], args := [d1, d2] }
  | _ => none }
def fnMergedRow : OpenClaim := { program := "ytmjhgkmiafemfaa", sum := "34106cedcdcc4a22bc7da25addf3482e09ad4c3bf2e6b42627015805542a36f7", func := "loop.example/g00838/laws.FnMerged", spec := "fnMerged", unfollowed := true, recurses := true, apart := false }
def FnMergedSaid : Prop := fnMergedRow.holds Try.pinned (OpenSpec.ofChange fnMergedSpec)

/-- ITS FALSE NEIGHBOUR: 'it returns false'. Refute it at one input. -/
def fnMergedWrong : ChangeSpec := { name := "fnMerged", fn := fun _ => fun
  | [d1, d2] => { results := [.lit (.bool false)], args := [d1, d2] }
  | _ => none }
def FnMergedWrongFalsely : Prop := fnMergedRow.holds Try.pinned (OpenSpec.ofChange fnMergedWrong)

/-- 'laws.FnArithmetic': WHATEVER THE INPUT: true; the input reads as it did. -/
def fnArithmeticSpec : ChangeSpec := { name := "fnArithmetic", fn := fun _ => fun
  | [d1, d2] => { results := [.lit (.bool true)], args := [d1, d2] }
  | _ => none }
def fnArithmeticRow : OpenClaim := { program := "ytmjhgkmiafemfaa", sum := "34106cedcdcc4a22bc7da25addf3482e09ad4c3bf2e6b42627015805542a36f7", func := "loop.example/g00838/laws.FnArithmetic", spec := "fnArithmetic", recurses := true, apart := false }
def FnArithmeticSaid : Prop := fnArithmeticRow.holds Try.pinned (OpenSpec.ofChange fnArithmeticSpec)

/-- ITS FALSE NEIGHBOUR: 'it returns false'. Refute it at one input. -/
def fnArithmeticWrong : ChangeSpec := { name := "fnArithmetic", fn := fun _ => fun
  | [d1, d2] => { results := [.lit (.bool false)], args := [d1, d2] }
  | _ => none }
def FnArithmeticWrongFalsely : Prop := fnArithmeticRow.holds Try.pinned (OpenSpec.ofChange fnArithmeticWrong)

/-- 'laws.FnStatistics': WHATEVER THE INPUT: true; the input reads as it did. -/
def fnStatisticsSpec : ChangeSpec := { name := "fnStatistics", fn := fun _ => fun
  | [d1, d2] => { results := [.lit (.bool true)], args := [d1, d2] }
  | _ => none }
def fnStatisticsRow : OpenClaim := { program := "ytmjhgkmiafemfaa", sum := "34106cedcdcc4a22bc7da25addf3482e09ad4c3bf2e6b42627015805542a36f7", func := "loop.example/g00838/laws.FnStatistics", spec := "fnStatistics", recurses := true, apart := false }
def FnStatisticsSaid : Prop := fnStatisticsRow.holds Try.pinned (OpenSpec.ofChange fnStatisticsSpec)

/-- ITS FALSE NEIGHBOUR: 'it returns false'. Refute it at one input. -/
def fnStatisticsWrong : ChangeSpec := { name := "fnStatistics", fn := fun _ => fun
  | [d1, d2] => { results := [.lit (.bool false)], args := [d1, d2] }
  | _ => none }
def FnStatisticsWrongFalsely : Prop := fnStatisticsRow.holds Try.pinned (OpenSpec.ofChange fnStatisticsWrong)

/-- 'laws.FnWritten': WHATEVER THE INPUT: true; the input reads as it did. -/
def fnWrittenSpec : ChangeSpec := { name := "fnWritten", fn := fun _ => fun
  | [d1, d2] => { results := [.lit (.bool true)], args := [d1, d2] }
  | _ => none }
def fnWrittenRow : OpenClaim := { program := "ytmjhgkmiafemfaa", sum := "34106cedcdcc4a22bc7da25addf3482e09ad4c3bf2e6b42627015805542a36f7", func := "loop.example/g00838/laws.FnWritten", spec := "fnWritten", apart := false }
def FnWrittenSaid : Prop := fnWrittenRow.holds Try.pinned (OpenSpec.ofChange fnWrittenSpec)

/-- ITS FALSE NEIGHBOUR: 'it returns false'. Refute it at one input. -/
def fnWrittenWrong : ChangeSpec := { name := "fnWritten", fn := fun _ => fun
  | [d1, d2] => { results := [.lit (.bool false)], args := [d1, d2] }
  | _ => none }
def FnWrittenWrongFalsely : Prop := fnWrittenRow.holds Try.pinned (OpenSpec.ofChange fnWrittenWrong)

/-- 'laws.FnNested': WHATEVER THE INPUT: true; the input reads as it did. -/
def fnNestedSpec : ChangeSpec := { name := "fnNested", fn := fun _ => fun
  | [d1, d2] => { results := [.lit (.bool true)], args := [d1, d2] }
  | _ => none }
def fnNestedRow : OpenClaim := { program := "ytmjhgkmiafemfaa", sum := "34106cedcdcc4a22bc7da25addf3482e09ad4c3bf2e6b42627015805542a36f7", func := "loop.example/g00838/laws.FnNested", spec := "fnNested", apart := false }
def FnNestedSaid : Prop := fnNestedRow.holds Try.pinned (OpenSpec.ofChange fnNestedSpec)

/-- ITS FALSE NEIGHBOUR: 'it returns false'. Refute it at one input. -/
def fnNestedWrong : ChangeSpec := { name := "fnNested", fn := fun _ => fun
  | [d1, d2] => { results := [.lit (.bool false)], args := [d1, d2] }
  | _ => none }
def FnNestedWrongFalsely : Prop := fnNestedRow.holds Try.pinned (OpenSpec.ofChange fnNestedWrong)

/-- 'laws.FnStrict': WHATEVER THE INPUT: true; the input reads as it did. -/
def fnStrictSpec : ChangeSpec := { name := "fnStrict", fn := fun _ => fun
  | [d1, d2] => { results := [.lit (.bool true)], args := [d1, d2] }
  | _ => none }
def fnStrictRow : OpenClaim := { program := "ytmjhgkmiafemfaa", sum := "34106cedcdcc4a22bc7da25addf3482e09ad4c3bf2e6b42627015805542a36f7", func := "loop.example/g00838/laws.FnStrict", spec := "fnStrict", apart := false }
def FnStrictSaid : Prop := fnStrictRow.holds Try.pinned (OpenSpec.ofChange fnStrictSpec)

/-- ITS FALSE NEIGHBOUR: 'it returns false'. Refute it at one input. -/
def fnStrictWrong : ChangeSpec := { name := "fnStrict", fn := fun _ => fun
  | [d1, d2] => { results := [.lit (.bool false)], args := [d1, d2] }
  | _ => none }
def FnStrictWrongFalsely : Prop := fnStrictRow.holds Try.pinned (OpenSpec.ofChange fnStrictWrong)

/- THE SECOND FORM. 'bulk': how many values and letters a reading holds, each counted each time it is reached (what is shared counts as often as it is met; a slice's spare places count too). A statement '..UptoSaid' is the law's where the arguments, and the package variables that the reading takes, are together of bulk at most 1048576: NARROWER than '..Said'. Prove '..Said' where nothing that the law and all that it calls make is longer than what came in: it says more and counts as full. Else prove '..UptoSaid'. A law counts once. -/
mutual
def uptoBulk {H : Type} : DataW H → Nat
  | .lit (.string bytes) => bytes.length + 1
  | .lit _ => 1
  | .nil => 1
  | .ptr d => uptoBulk d + 1
  | .slice elems spare => uptoBulkAll elems + uptoBulkAll spare + 1
  | .agg parts => uptoBulkAll parts + 1
  | .iface _ d => uptoBulk d + 1
  | .map entries => uptoBulkEntries entries + 1
  | .held _ => 1
def uptoBulkAll {H : Type} : List (DataW H) → Nat
  | [] => 0
  | d :: r => uptoBulk d + uptoBulkAll r
def uptoBulkEntries {H : Type} : List (Lit × DataW H) → Nat
  | [] => 0
  | x :: r => uptoBulkEntry x + uptoBulkEntries r
def uptoBulkEntry {H : Type} : Lit × DataW H → Nat
  | (.string bytes, d) => bytes.length + uptoBulk d + 1
  | (_, d) => uptoBulk d + 1
 end
def uptoSmall : (H : Type) → List (DataW H) → Bool := fun _ ds => decide (uptoBulkAll ds ≤ 1048576)
def OpenSpec.upto (s : _root_.Go.ChangeSpec) : _root_.Go.OpenSpec := { _root_.Go.OpenSpec.ofChange s with cond := some uptoSmall }

/-- 'laws.FnFlows', WHERE WHAT IT READS IS OF BULK AT MOST 1048576: true; the input reads as it did. -/
def fnFlowsUptoRow : OpenClaim := { program := "ytmjhgkmiafemfaa", sum := "34106cedcdcc4a22bc7da25addf3482e09ad4c3bf2e6b42627015805542a36f7", func := "loop.example/g00838/laws.FnFlows", spec := "fnFlows", apart := false, narrowed := true }
def FnFlowsUptoSaid : Prop := fnFlowsUptoRow.holds Try.pinned (OpenSpec.upto fnFlowsSpec)

/-- 'laws.FnFlowPackets', WHERE WHAT IT READS IS OF BULK AT MOST 1048576: true; the input reads as it did. -/
def fnFlowPacketsUptoRow : OpenClaim := { program := "ytmjhgkmiafemfaa", sum := "34106cedcdcc4a22bc7da25addf3482e09ad4c3bf2e6b42627015805542a36f7", func := "loop.example/g00838/laws.FnFlowPackets", spec := "fnFlowPackets", apart := false, narrowed := true }
def FnFlowPacketsUptoSaid : Prop := fnFlowPacketsUptoRow.holds Try.pinned (OpenSpec.upto fnFlowPacketsSpec)

/-- 'laws.FnEarlyDrops', WHERE WHAT IT READS IS OF BULK AT MOST 1048576: true; the input reads as it did. -/
def fnEarlyDropsUptoRow : OpenClaim := { program := "ytmjhgkmiafemfaa", sum := "34106cedcdcc4a22bc7da25addf3482e09ad4c3bf2e6b42627015805542a36f7", func := "loop.example/g00838/laws.FnEarlyDrops", spec := "fnEarlyDrops", apart := false, narrowed := true }
def FnEarlyDropsUptoSaid : Prop := fnEarlyDropsUptoRow.holds Try.pinned (OpenSpec.upto fnEarlyDropsSpec)

/-- 'laws.FnMerged', WHERE WHAT IT READS IS OF BULK AT MOST 1048576: true; the input reads as it did. -/
def fnMergedUptoRow : OpenClaim := { program := "ytmjhgkmiafemfaa", sum := "34106cedcdcc4a22bc7da25addf3482e09ad4c3bf2e6b42627015805542a36f7", func := "loop.example/g00838/laws.FnMerged", spec := "fnMerged", unfollowed := true, recurses := true, apart := false, narrowed := true }
def FnMergedUptoSaid : Prop := fnMergedUptoRow.holds Try.pinned (OpenSpec.upto fnMergedSpec)

/-- 'laws.FnArithmetic', WHERE WHAT IT READS IS OF BULK AT MOST 1048576: true; the input reads as it did. -/
def fnArithmeticUptoRow : OpenClaim := { program := "ytmjhgkmiafemfaa", sum := "34106cedcdcc4a22bc7da25addf3482e09ad4c3bf2e6b42627015805542a36f7", func := "loop.example/g00838/laws.FnArithmetic", spec := "fnArithmetic", recurses := true, apart := false, narrowed := true }
def FnArithmeticUptoSaid : Prop := fnArithmeticUptoRow.holds Try.pinned (OpenSpec.upto fnArithmeticSpec)

/-- 'laws.FnStatistics', WHERE WHAT IT READS IS OF BULK AT MOST 1048576: true; the input reads as it did. -/
def fnStatisticsUptoRow : OpenClaim := { program := "ytmjhgkmiafemfaa", sum := "34106cedcdcc4a22bc7da25addf3482e09ad4c3bf2e6b42627015805542a36f7", func := "loop.example/g00838/laws.FnStatistics", spec := "fnStatistics", recurses := true, apart := false, narrowed := true }
def FnStatisticsUptoSaid : Prop := fnStatisticsUptoRow.holds Try.pinned (OpenSpec.upto fnStatisticsSpec)

/-- 'laws.FnWritten', WHERE WHAT IT READS IS OF BULK AT MOST 1048576: true; the input reads as it did. -/
def fnWrittenUptoRow : OpenClaim := { program := "ytmjhgkmiafemfaa", sum := "34106cedcdcc4a22bc7da25addf3482e09ad4c3bf2e6b42627015805542a36f7", func := "loop.example/g00838/laws.FnWritten", spec := "fnWritten", apart := false, narrowed := true }
def FnWrittenUptoSaid : Prop := fnWrittenUptoRow.holds Try.pinned (OpenSpec.upto fnWrittenSpec)

/-- 'laws.FnNested', WHERE WHAT IT READS IS OF BULK AT MOST 1048576: true; the input reads as it did. -/
def fnNestedUptoRow : OpenClaim := { program := "ytmjhgkmiafemfaa", sum := "34106cedcdcc4a22bc7da25addf3482e09ad4c3bf2e6b42627015805542a36f7", func := "loop.example/g00838/laws.FnNested", spec := "fnNested", apart := false, narrowed := true }
def FnNestedUptoSaid : Prop := fnNestedUptoRow.holds Try.pinned (OpenSpec.upto fnNestedSpec)

/-- 'laws.FnStrict', WHERE WHAT IT READS IS OF BULK AT MOST 1048576: true; the input reads as it did. -/
def fnStrictUptoRow : OpenClaim := { program := "ytmjhgkmiafemfaa", sum := "34106cedcdcc4a22bc7da25addf3482e09ad4c3bf2e6b42627015805542a36f7", func := "loop.example/g00838/laws.FnStrict", spec := "fnStrict", apart := false, narrowed := true }
def FnStrictUptoSaid : Prop := fnStrictUptoRow.holds Try.pinned (OpenSpec.upto fnStrictSpec)

end Rows
end Go.Proofs.Ytmjhgkmiafemfaa
