/-
  No cell of these rows narrows 'for every input' (looked for: loops, veiled, ifaces, maps, wideKeys, modest, calm, conditions, laid).
  DERIVED. THE GIVEN ROWS OF THIS SEAT. 8 by the template 'for every input the law returns true; each argument reads behind the call as it read before'; 0 by the template 'total and deterministic' (their statements: YtaggjheabeoohaaTotals.lean).
  GIVEN WITH THE SEED: the statements are not yours to turn. If you find one false, say at which input.
  Laid BY PROGRAM, IN A SANDBOX (cutbox-rows.mjs): the forced cells as the released guide's own fill.sh prints them over the translation 2404a4c2cfd6e69f… (all of the seat's roots in one cut). By AI agents, Wed Nov 11 2026. No macro, syntax, notation, axiom, sorry.
-/
import Derived.Test.YtaggjheabeoohaaChecked
import GoSem.Claim
import GoSem.ClaimJoined
import GoSem.ClaimMapViews
import Derived.JoinedTies
import Derived.KernelRfl
namespace Go.Proofs.Ytaggjheabeoohaa
/- THE CELL 'sum', in the pinned program and in every row, IS THE sha256 OF THE DUMP (.gsa) THAT YtaggjheabeoohaaProg.lean LOADS. Nothing in Lean hashes anything: it is a label: what it is worth is what the hold of that sum in a sandbox is worth. -/
noncomputable def Try.pinned : Pinned := { name := "ytaggjheabeoohaa", sum := "2404a4c2cfd6e69f2a0fd95d4549b6a185ff9e0769d91d87b8b14ee026f62402", checked := Try.checked }
namespace Rows
def none {H : Type} : Left H := { results := [], args := [] }

/-- 'laws.FnMerged': WHATEVER THE INPUT: true; the input reads as it did. -/
def fnMergedSpec : ChangeSpec := { name := "fnMerged", fn := fun _ => fun
  | [d1, d2] => { results := [.lit (.bool true)], args := [d1, d2] }
  | _ => none }
def fnMergedRow : OpenClaim := { program := "ytaggjheabeoohaa", sum := "2404a4c2cfd6e69f2a0fd95d4549b6a185ff9e0769d91d87b8b14ee026f62402", func := "loop.example/g00838/laws.FnMerged", spec := "fnMerged", unfollowed := true, recurses := true, apart := false }
def FnMergedSaid : Prop := fnMergedRow.holds Try.pinned (OpenSpec.ofChange fnMergedSpec)

/-- ITS FALSE NEIGHBOUR: 'it returns false'. Refute it at one input. -/
def fnMergedWrong : ChangeSpec := { name := "fnMerged", fn := fun _ => fun
  | [d1, d2] => { results := [.lit (.bool false)], args := [d1, d2] }
  | _ => none }
def FnMergedWrongFalsely : Prop := fnMergedRow.holds Try.pinned (OpenSpec.ofChange fnMergedWrong)

/-- 'laws.FnStatistics': WHATEVER THE INPUT: true; the input reads as it did. -/
def fnStatisticsSpec : ChangeSpec := { name := "fnStatistics", fn := fun _ => fun
  | [d1, d2] => { results := [.lit (.bool true)], args := [d1, d2] }
  | _ => none }
def fnStatisticsRow : OpenClaim := { program := "ytaggjheabeoohaa", sum := "2404a4c2cfd6e69f2a0fd95d4549b6a185ff9e0769d91d87b8b14ee026f62402", func := "loop.example/g00838/laws.FnStatistics", spec := "fnStatistics", recurses := true, apart := false }
def FnStatisticsSaid : Prop := fnStatisticsRow.holds Try.pinned (OpenSpec.ofChange fnStatisticsSpec)

/-- ITS FALSE NEIGHBOUR: 'it returns false'. Refute it at one input. -/
def fnStatisticsWrong : ChangeSpec := { name := "fnStatistics", fn := fun _ => fun
  | [d1, d2] => { results := [.lit (.bool false)], args := [d1, d2] }
  | _ => none }
def FnStatisticsWrongFalsely : Prop := fnStatisticsRow.holds Try.pinned (OpenSpec.ofChange fnStatisticsWrong)

/-- 'laws.FnStrict': WHATEVER THE INPUT: true; the input reads as it did. -/
def fnStrictSpec : ChangeSpec := { name := "fnStrict", fn := fun _ => fun
  | [d1, d2] => { results := [.lit (.bool true)], args := [d1, d2] }
  | _ => none }
def fnStrictRow : OpenClaim := { program := "ytaggjheabeoohaa", sum := "2404a4c2cfd6e69f2a0fd95d4549b6a185ff9e0769d91d87b8b14ee026f62402", func := "loop.example/g00838/laws.FnStrict", spec := "fnStrict", apart := false }
def FnStrictSaid : Prop := fnStrictRow.holds Try.pinned (OpenSpec.ofChange fnStrictSpec)

/-- ITS FALSE NEIGHBOUR: 'it returns false'. Refute it at one input. -/
def fnStrictWrong : ChangeSpec := { name := "fnStrict", fn := fun _ => fun
  | [d1, d2] => { results := [.lit (.bool false)], args := [d1, d2] }
  | _ => none }
def FnStrictWrongFalsely : Prop := fnStrictRow.holds Try.pinned (OpenSpec.ofChange fnStrictWrong)

/-- 'laws.FnData': WHATEVER THE INPUT: true; the input reads as it did. -/
def fnDataSpec : ChangeSpec := { name := "fnData", fn := fun _ => fun
  | [d1, d2] => { results := [.lit (.bool true)], args := [d1, d2] }
  | _ => none }
def fnDataRow : OpenClaim := { program := "ytaggjheabeoohaa", sum := "2404a4c2cfd6e69f2a0fd95d4549b6a185ff9e0769d91d87b8b14ee026f62402", func := "loop.example/g00838/laws.FnData", spec := "fnData", recurses := true, apart := false }
def FnDataSaid : Prop := fnDataRow.holds Try.pinned (OpenSpec.ofChange fnDataSpec)

/-- ITS FALSE NEIGHBOUR: 'it returns false'. Refute it at one input. -/
def fnDataWrong : ChangeSpec := { name := "fnData", fn := fun _ => fun
  | [d1, d2] => { results := [.lit (.bool false)], args := [d1, d2] }
  | _ => none }
def FnDataWrongFalsely : Prop := fnDataRow.holds Try.pinned (OpenSpec.ofChange fnDataWrong)

/-- 'laws.FnDrops': WHATEVER THE INPUT: true; the input reads as it did. -/
def fnDropsSpec : ChangeSpec := { name := "fnDrops", fn := fun _ => fun
  | [d1, d2] => { results := [.lit (.bool true)], args := [d1, d2] }
  | _ => none }
def fnDropsRow : OpenClaim := { program := "ytaggjheabeoohaa", sum := "2404a4c2cfd6e69f2a0fd95d4549b6a185ff9e0769d91d87b8b14ee026f62402", func := "loop.example/g00838/laws.FnDrops", spec := "fnDrops", unfollowed := true, recurses := true, apart := false }
def FnDropsSaid : Prop := fnDropsRow.holds Try.pinned (OpenSpec.ofChange fnDropsSpec)

/-- ITS FALSE NEIGHBOUR: 'it returns false'. Refute it at one input. -/
def fnDropsWrong : ChangeSpec := { name := "fnDrops", fn := fun _ => fun
  | [d1, d2] => { results := [.lit (.bool false)], args := [d1, d2] }
  | _ => none }
def FnDropsWrongFalsely : Prop := fnDropsRow.holds Try.pinned (OpenSpec.ofChange fnDropsWrong)

/-- 'laws.FnFairness': WHATEVER THE INPUT: true; the input reads as it did. -/
def fnFairnessSpec : ChangeSpec := { name := "fnFairness", fn := fun _ => fun
  | [d1, d2] => { results := [.lit (.bool true)], args := [d1, d2] }
  | _ => none }
def fnFairnessRow : OpenClaim := { program := "ytaggjheabeoohaa", sum := "2404a4c2cfd6e69f2a0fd95d4549b6a185ff9e0769d91d87b8b14ee026f62402", func := "loop.example/g00838/laws.FnFairness", spec := "fnFairness", unfollowed := true, recurses := true, apart := false }
def FnFairnessSaid : Prop := fnFairnessRow.holds Try.pinned (OpenSpec.ofChange fnFairnessSpec)

/-- ITS FALSE NEIGHBOUR: 'it returns false'. Refute it at one input. -/
def fnFairnessWrong : ChangeSpec := { name := "fnFairness", fn := fun _ => fun
  | [d1, d2] => { results := [.lit (.bool false)], args := [d1, d2] }
  | _ => none }
def FnFairnessWrongFalsely : Prop := fnFairnessRow.holds Try.pinned (OpenSpec.ofChange fnFairnessWrong)

/-- 'laws.FnAttributes': WHATEVER THE INPUT: true; the input reads as it did. -/
def fnAttributesSpec : ChangeSpec := { name := "fnAttributes", fn := fun _ => fun
  | [d1, d2] => { results := [.lit (.bool true)], args := [d1, d2] }
  | _ => none }
def fnAttributesRow : OpenClaim := { program := "ytaggjheabeoohaa", sum := "2404a4c2cfd6e69f2a0fd95d4549b6a185ff9e0769d91d87b8b14ee026f62402", func := "loop.example/g00838/laws.FnAttributes", spec := "fnAttributes", recurses := true, apart := false }
def FnAttributesSaid : Prop := fnAttributesRow.holds Try.pinned (OpenSpec.ofChange fnAttributesSpec)

/-- ITS FALSE NEIGHBOUR: 'it returns false'. Refute it at one input. -/
def fnAttributesWrong : ChangeSpec := { name := "fnAttributes", fn := fun _ => fun
  | [d1, d2] => { results := [.lit (.bool false)], args := [d1, d2] }
  | _ => none }
def FnAttributesWrongFalsely : Prop := fnAttributesRow.holds Try.pinned (OpenSpec.ofChange fnAttributesWrong)

/-- 'laws.FnExactTakeFair': WHATEVER THE INPUT: true; the input reads as it did. -/
def fnExactTakeFairSpec : ChangeSpec := { name := "fnExactTakeFair", fn := fun _ => fun
  | [d] => { results := [.lit (.bool true)], args := [d] }
  | _ => none }
def fnExactTakeFairRow : OpenClaim := { program := "ytaggjheabeoohaa", sum := "2404a4c2cfd6e69f2a0fd95d4549b6a185ff9e0769d91d87b8b14ee026f62402", func := "loop.example/g00838/laws.FnExactTakeFair", spec := "fnExactTakeFair", unfollowed := true, recurses := true, apart := false }
def FnExactTakeFairSaid : Prop := fnExactTakeFairRow.holds Try.pinned (OpenSpec.ofChange fnExactTakeFairSpec)

/-- ITS FALSE NEIGHBOUR: 'it returns false'. Refute it at one input. -/
def fnExactTakeFairWrong : ChangeSpec := { name := "fnExactTakeFair", fn := fun _ => fun
  | [d] => { results := [.lit (.bool false)], args := [d] }
  | _ => none }
def FnExactTakeFairWrongFalsely : Prop := fnExactTakeFairRow.holds Try.pinned (OpenSpec.ofChange fnExactTakeFairWrong)

/- THE SECOND FORM. 'bulk': how many values and letters a reading holds, each counted each time it is reached (what is shared counts as often as it is met; a slice's spare places count too). A statement '..UptoSaid' is the law's where the arguments, and the package variables that the reading takes, are together of bulk at most 1048576: NARROWER than '..Said'. Prove '..Said' where nothing that the law and all that it calls make is longer than what came in: it says more and counts as full. Else prove '..UptoSaid'. A law counts once. -/
mutual
def uptoBulk {H : Type} : DataW H → Nat
  | .lit (.string bytes) => bytes.length + 1
  | .lit _ => 1
  | .nil => 1
  | .ptr d => uptoBulk d + 1
  | .slice elems spare => uptoBulkAll elems + uptoBulkAll spare + 1
  | .agg parts => uptoBulkAll parts + 1
  | .iface _ d => uptoBulk d + 1
  | .map entries => uptoBulkEntries entries + 1
  | .held _ => 1
def uptoBulkAll {H : Type} : List (DataW H) → Nat
  | [] => 0
  | d :: r => uptoBulk d + uptoBulkAll r
def uptoBulkEntries {H : Type} : List (Lit × DataW H) → Nat
  | [] => 0
  | x :: r => uptoBulkEntry x + uptoBulkEntries r
def uptoBulkEntry {H : Type} : Lit × DataW H → Nat
  | (.string bytes, d) => bytes.length + uptoBulk d + 1
  | (_, d) => uptoBulk d + 1
 end
def uptoSmall : (H : Type) → List (DataW H) → Bool := fun _ ds => decide (uptoBulkAll ds ≤ 1048576)
def OpenSpec.upto (s : _root_.Go.ChangeSpec) : _root_.Go.OpenSpec := { _root_.Go.OpenSpec.ofChange s with cond := some uptoSmall }

/-- 'laws.FnMerged', WHERE WHAT IT READS IS OF BULK AT MOST 1048576: true; the input reads as it did. -/
def fnMergedUptoRow : OpenClaim := { program := "ytaggjheabeoohaa", sum := "2404a4c2cfd6e69f2a0fd95d4549b6a185ff9e0769d91d87b8b14ee026f62402", func := "loop.example/g00838/laws.FnMerged", spec := "fnMerged", unfollowed := true, recurses := true, apart := false, narrowed := true }
def FnMergedUptoSaid : Prop := fnMergedUptoRow.holds Try.pinned (OpenSpec.upto fnMergedSpec)

/-- 'laws.FnStatistics', WHERE WHAT IT READS IS OF BULK AT MOST 1048576: true; the input reads as it did. -/
def fnStatisticsUptoRow : OpenClaim := { program := "ytaggjheabeoohaa", sum := "2404a4c2cfd6e69f2a0fd95d4549b6a185ff9e0769d91d87b8b14ee026f62402", func := "loop.example/g00838/laws.FnStatistics", spec := "fnStatistics", recurses := true, apart := false, narrowed := true }
def FnStatisticsUptoSaid : Prop := fnStatisticsUptoRow.holds Try.pinned (OpenSpec.upto fnStatisticsSpec)

/-- 'laws.FnStrict', WHERE WHAT IT READS IS OF BULK AT MOST 1048576: true; the input reads as it did. -/
def fnStrictUptoRow : OpenClaim := { program := "ytaggjheabeoohaa", sum := "2404a4c2cfd6e69f2a0fd95d4549b6a185ff9e0769d91d87b8b14ee026f62402", func := "loop.example/g00838/laws.FnStrict", spec := "fnStrict", apart := false, narrowed := true }
def FnStrictUptoSaid : Prop := fnStrictUptoRow.holds Try.pinned (OpenSpec.upto fnStrictSpec)

/-- 'laws.FnData', WHERE WHAT IT READS IS OF BULK AT MOST 1048576: true; the input reads as it did. -/
def fnDataUptoRow : OpenClaim := { program := "ytaggjheabeoohaa", sum := "2404a4c2cfd6e69f2a0fd95d4549b6a185ff9e0769d91d87b8b14ee026f62402", func := "loop.example/g00838/laws.FnData", spec := "fnData", recurses := true, apart := false, narrowed := true }
def FnDataUptoSaid : Prop := fnDataUptoRow.holds Try.pinned (OpenSpec.upto fnDataSpec)

/-- 'laws.FnDrops', WHERE WHAT IT READS IS OF BULK AT MOST 1048576: true; the input reads as it did. -/
def fnDropsUptoRow : OpenClaim := { program := "ytaggjheabeoohaa", sum := "2404a4c2cfd6e69f2a0fd95d4549b6a185ff9e0769d91d87b8b14ee026f62402", func := "loop.example/g00838/laws.FnDrops", spec := "fnDrops", unfollowed := true, recurses := true, apart := false, narrowed := true }
def FnDropsUptoSaid : Prop := fnDropsUptoRow.holds Try.pinned (OpenSpec.upto fnDropsSpec)

/-- 'laws.FnFairness', WHERE WHAT IT READS IS OF BULK AT MOST 1048576: true; the input reads as it did. -/
def fnFairnessUptoRow : OpenClaim := { program := "ytaggjheabeoohaa", sum := "2404a4c2cfd6e69f2a0fd95d4549b6a185ff9e0769d91d87b8b14ee026f62402", func := "loop.example/g00838/laws.FnFairness", spec := "fnFairness", unfollowed := true, recurses := true, apart := false, narrowed := true }
def FnFairnessUptoSaid : Prop := fnFairnessUptoRow.holds Try.pinned (OpenSpec.upto fnFairnessSpec)

/-- 'laws.FnAttributes', WHERE WHAT IT READS IS OF BULK AT MOST 1048576: true; the input reads as it did. -/
def fnAttributesUptoRow : OpenClaim := { program := "ytaggjheabeoohaa", sum := "2404a4c2cfd6e69f2a0fd95d4549b6a185ff9e0769d91d87b8b14ee026f62402", func := "loop.example/g00838/laws.FnAttributes", spec := "fnAttributes", recurses := true, apart := false, narrowed := true }
def FnAttributesUptoSaid : Prop := fnAttributesUptoRow.holds Try.pinned (OpenSpec.upto fnAttributesSpec)

/-- 'laws.FnExactTakeFair', WHERE WHAT IT READS IS OF BULK AT MOST 1048576: true; the input reads as it did. -/
def fnExactTakeFairUptoRow : OpenClaim := { program := "ytaggjheabeoohaa", sum := "2404a4c2cfd6e69f2a0fd95d4549b6a185ff9e0769d91d87b8b14ee026f62402", func := "loop.example/g00838/laws.FnExactTakeFair", spec := "fnExactTakeFair", unfollowed := true, recurses := true, apart := false, narrowed := true }
def FnExactTakeFairUptoSaid : Prop := fnExactTakeFairUptoRow.holds Try.pinned (OpenSpec.upto fnExactTakeFairSpec)

end Rows
end Go.Proofs.Ytaggjheabeoohaa
