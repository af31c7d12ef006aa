/-
  No cell of these rows narrows 'for every input' (looked for: loops, veiled, ifaces, maps, wideKeys, modest, calm, conditions, laid).
  DERIVED. THE GIVEN ROWS OF THIS SEAT. 6 by the template 'for every input the law returns true; each argument reads behind the call as it read before'; 0 by the template 'total and deterministic' (their statements: YtdogommoghjncaaTotals.lean).
  GIVEN WITH THE SEED: the statements are not yours to turn. If you find one false, say at which input.
  Laid BY PROGRAM, IN A SANDBOX (cutbox-rows.mjs): the forced cells as the released guide's own fill.sh prints them over the translation a8dee4adbc5511c4… (all of the seat's roots in one cut). By AI agents, Wed Nov 11 2026. No macro, syntax, notation, axiom, sorry.
-/
import Derived.Test.YtdogommoghjncaaChecked
import GoSem.Claim
import GoSem.ClaimJoined
import GoSem.ClaimMapViews
import Derived.JoinedTies
import Derived.KernelRfl
namespace Go.Proofs.Ytdogommoghjncaa
/- THE CELL 'sum', in the pinned program and in every row, IS THE sha256 OF THE DUMP (.gsa) THAT YtdogommoghjncaaProg.lean LOADS. Nothing in Lean hashes anything: it is a label: what it is worth is what the hold of that sum in a sandbox is worth. -/
noncomputable def Try.pinned : Pinned := { name := "ytdogommoghjncaa", sum := "a8dee4adbc5511c4d60b20079f9e08674c575bd6e0a66363bc7f27c35fd205a9", checked := Try.checked }
namespace Rows
def none {H : Type} : Left H := { results := [], args := [] }

/-- 'laws.FnFairness': WHATEVER THE INPUT: true; the input reads as it did. -/
def fnFairnessSpec : ChangeSpec := { name := "fnFairness", fn := fun _ => fun
  | [d1, d2] => { results := [.lit (.bool true)], args := [d1, d2] }
  | _ => none }
def fnFairnessRow : OpenClaim := { program := "ytdogommoghjncaa", sum := "a8dee4adbc5511c4d60b20079f9e08674c575bd6e0a66363bc7f27c35fd205a9", func := "loop.example/g00838/laws.FnFairness", spec := "fnFairness", unfollowed := true, recurses := true, apart := false }
def FnFairnessSaid : Prop := fnFairnessRow.holds Try.pinned (OpenSpec.ofChange fnFairnessSpec)

/-- ITS FALSE NEIGHBOUR: 'it returns false'. Refute it at one input. -/
def fnFairnessWrong : ChangeSpec := { name := "fnFairness", fn := fun _ => fun
  | [d1, d2] => { results := [.lit (.bool false)], args := [d1, d2] }
  | _ => none }
def FnFairnessWrongFalsely : Prop := fnFairnessRow.holds Try.pinned (OpenSpec.ofChange fnFairnessWrong)

/-- 'laws.FnExactTakeFair': WHATEVER THE INPUT: true; the input reads as it did. -/
def fnExactTakeFairSpec : ChangeSpec := { name := "fnExactTakeFair", fn := fun _ => fun
  | [d] => { results := [.lit (.bool true)], args := [d] }
  | _ => none }
def fnExactTakeFairRow : OpenClaim := { program := "ytdogommoghjncaa", sum := "a8dee4adbc5511c4d60b20079f9e08674c575bd6e0a66363bc7f27c35fd205a9", func := "loop.example/g00838/laws.FnExactTakeFair", spec := "fnExactTakeFair", unfollowed := true, recurses := true, apart := false }
def FnExactTakeFairSaid : Prop := fnExactTakeFairRow.holds Try.pinned (OpenSpec.ofChange fnExactTakeFairSpec)

/-- ITS FALSE NEIGHBOUR: 'it returns false'. Refute it at one input. -/
def fnExactTakeFairWrong : ChangeSpec := { name := "fnExactTakeFair", fn := fun _ => fun
  | [d] => { results := [.lit (.bool false)], args := [d] }
  | _ => none }
def FnExactTakeFairWrongFalsely : Prop := fnExactTakeFairRow.holds Try.pinned (OpenSpec.ofChange fnExactTakeFairWrong)

/-- 'laws.FnExactFairOrder': WHATEVER THE INPUT: true; the input reads as it did. -/
def fnExactFairOrderSpec : ChangeSpec := { name := "fnExactFairOrder", fn := fun _ => fun
  | [d1, d2] => { results := [.lit (.bool true)], args := [d1, d2] }
  | _ => none }
def fnExactFairOrderRow : OpenClaim := { program := "ytdogommoghjncaa", sum := "a8dee4adbc5511c4d60b20079f9e08674c575bd6e0a66363bc7f27c35fd205a9", func := "loop.example/g00838/laws.FnExactFairOrder", spec := "fnExactFairOrder", unfollowed := true, recurses := true, apart := false }
def FnExactFairOrderSaid : Prop := fnExactFairOrderRow.holds Try.pinned (OpenSpec.ofChange fnExactFairOrderSpec)

/-- ITS FALSE NEIGHBOUR: 'it returns false'. Refute it at one input. -/
def fnExactFairOrderWrong : ChangeSpec := { name := "fnExactFairOrder", fn := fun _ => fun
  | [d1, d2] => { results := [.lit (.bool false)], args := [d1, d2] }
  | _ => none }
def FnExactFairOrderWrongFalsely : Prop := fnExactFairOrderRow.holds Try.pinned (OpenSpec.ofChange fnExactFairOrderWrong)

/-- 'laws.FnExactServedIn': WHATEVER THE INPUT: true; the input reads as it did. -/
def fnExactServedInSpec : ChangeSpec := { name := "fnExactServedIn", fn := fun _ => fun
  | [d1, d2] => { results := [.lit (.bool true)], args := [d1, d2] }
  | _ => none }
def fnExactServedInRow : OpenClaim := { program := "ytdogommoghjncaa", sum := "a8dee4adbc5511c4d60b20079f9e08674c575bd6e0a66363bc7f27c35fd205a9", func := "loop.example/g00838/laws.FnExactServedIn", spec := "fnExactServedIn", unfollowed := true, recurses := true, apart := false }
def FnExactServedInSaid : Prop := fnExactServedInRow.holds Try.pinned (OpenSpec.ofChange fnExactServedInSpec)

/-- ITS FALSE NEIGHBOUR: 'it returns false'. Refute it at one input. -/
def fnExactServedInWrong : ChangeSpec := { name := "fnExactServedIn", fn := fun _ => fun
  | [d1, d2] => { results := [.lit (.bool false)], args := [d1, d2] }
  | _ => none }
def FnExactServedInWrongFalsely : Prop := fnExactServedInRow.holds Try.pinned (OpenSpec.ofChange fnExactServedInWrong)

/-- 'laws.FnExactRunFair': WHATEVER THE INPUT: true; the input reads as it did. -/
def fnExactRunFairSpec : ChangeSpec := { name := "fnExactRunFair", fn := fun _ => fun
  | [d1, d2, d3] => { results := [.lit (.bool true)], args := [d1, d2, d3] }
  | _ => none }
def fnExactRunFairRow : OpenClaim := { program := "ytdogommoghjncaa", sum := "a8dee4adbc5511c4d60b20079f9e08674c575bd6e0a66363bc7f27c35fd205a9", func := "loop.example/g00838/laws.FnExactRunFair", spec := "fnExactRunFair", unfollowed := true, recurses := true, apart := false }
def FnExactRunFairSaid : Prop := fnExactRunFairRow.holds Try.pinned (OpenSpec.ofChange fnExactRunFairSpec)

/-- ITS FALSE NEIGHBOUR: 'it returns false'. Refute it at one input. -/
def fnExactRunFairWrong : ChangeSpec := { name := "fnExactRunFair", fn := fun _ => fun
  | [d1, d2, d3] => { results := [.lit (.bool false)], args := [d1, d2, d3] }
  | _ => none }
def FnExactRunFairWrongFalsely : Prop := fnExactRunFairRow.holds Try.pinned (OpenSpec.ofChange fnExactRunFairWrong)

/-- 'laws.FnExactGreatestLead': WHATEVER THE INPUT: true; the input reads as it did. -/
def fnExactGreatestLeadSpec : ChangeSpec := { name := "fnExactGreatestLead", fn := fun _ => fun
  | [d1, d2] => { results := [.lit (.bool true)], args := [d1, d2] }
  | _ => none }
def fnExactGreatestLeadRow : OpenClaim := { program := "ytdogommoghjncaa", sum := "a8dee4adbc5511c4d60b20079f9e08674c575bd6e0a66363bc7f27c35fd205a9", func := "loop.example/g00838/laws.FnExactGreatestLead", spec := "fnExactGreatestLead", unfollowed := true, recurses := true, apart := false }
def FnExactGreatestLeadSaid : Prop := fnExactGreatestLeadRow.holds Try.pinned (OpenSpec.ofChange fnExactGreatestLeadSpec)

/-- ITS FALSE NEIGHBOUR: 'it returns false'. Refute it at one input. -/
def fnExactGreatestLeadWrong : ChangeSpec := { name := "fnExactGreatestLead", fn := fun _ => fun
  | [d1, d2] => { results := [.lit (.bool false)], args := [d1, d2] }
  | _ => none }
def FnExactGreatestLeadWrongFalsely : Prop := fnExactGreatestLeadRow.holds Try.pinned (OpenSpec.ofChange fnExactGreatestLeadWrong)

/- THE SECOND FORM. 'bulk': how many values and letters a reading holds, each counted each time it is reached (what is shared counts as often as it is met; a slice's spare places count too). A statement '..UptoSaid' is the law's where the arguments, and the package variables that the reading takes, are together of bulk at most 1048576: NARROWER than '..Said'. Prove '..Said' where nothing that the law and all that it calls make is longer than what came in: it says more and counts as full. Else prove '..UptoSaid'. A law counts once. -/
mutual
def uptoBulk {H : Type} : DataW H → Nat
  | .lit (.string bytes) => bytes.length + 1
  | .lit _ => 1
  | .nil => 1
  | .ptr d => uptoBulk d + 1
  | .slice elems spare => uptoBulkAll elems + uptoBulkAll spare + 1
  | .agg parts => uptoBulkAll parts + 1
  | .iface _ d => uptoBulk d + 1
  | .map entries => uptoBulkEntries entries + 1
  | .held _ => 1
def uptoBulkAll {H : Type} : List (DataW H) → Nat
  | [] => 0
  | d :: r => uptoBulk d + uptoBulkAll r
def uptoBulkEntries {H : Type} : List (Lit × DataW H) → Nat
  | [] => 0
  | x :: r => uptoBulkEntry x + uptoBulkEntries r
def uptoBulkEntry {H : Type} : Lit × DataW H → Nat
  | (.string bytes, d) => bytes.length + uptoBulk d + 1
  | (_, d) => uptoBulk d + 1
 end
def uptoSmall : (H : Type) → List (DataW H) → Bool := fun _ ds => decide (uptoBulkAll ds ≤ 1048576)
def OpenSpec.upto (s : _root_.Go.ChangeSpec) : _root_.Go.OpenSpec := { _root_.Go.OpenSpec.ofChange s with cond := some uptoSmall }

/-- 'laws.FnFairness', WHERE WHAT IT READS IS OF BULK AT MOST 1048576: true; the input reads as it did. -/
def fnFairnessUptoRow : OpenClaim := { program := "ytdogommoghjncaa", sum := "a8dee4adbc5511c4d60b20079f9e08674c575bd6e0a66363bc7f27c35fd205a9", func := "loop.example/g00838/laws.FnFairness", spec := "fnFairness", unfollowed := true, recurses := true, apart := false, narrowed := true }
def FnFairnessUptoSaid : Prop := fnFairnessUptoRow.holds Try.pinned (OpenSpec.upto fnFairnessSpec)

/-- 'laws.FnExactTakeFair', WHERE WHAT IT READS IS OF BULK AT MOST 1048576: true; the input reads as it did. -/
def fnExactTakeFairUptoRow : OpenClaim := { program := "ytdogommoghjncaa", sum := "a8dee4adbc5511c4d60b20079f9e08674c575bd6e0a66363bc7f27c35fd205a9", func := "loop.example/g00838/laws.FnExactTakeFair", spec := "fnExactTakeFair", unfollowed := true, recurses := true, apart := false, narrowed := true }
def FnExactTakeFairUptoSaid : Prop := fnExactTakeFairUptoRow.holds Try.pinned (OpenSpec.upto fnExactTakeFairSpec)

/-- 'laws.FnExactFairOrder', WHERE WHAT IT READS IS OF BULK AT MOST 1048576: true; the input reads as it did. -/
def fnExactFairOrderUptoRow : OpenClaim := { program := "ytdogommoghjncaa", sum := "a8dee4adbc5511c4d60b20079f9e08674c575bd6e0a66363bc7f27c35fd205a9", func := "loop.example/g00838/laws.FnExactFairOrder", spec := "fnExactFairOrder", unfollowed := true, recurses := true, apart := false, narrowed := true }
def FnExactFairOrderUptoSaid : Prop := fnExactFairOrderUptoRow.holds Try.pinned (OpenSpec.upto fnExactFairOrderSpec)

/-- 'laws.FnExactServedIn', WHERE WHAT IT READS IS OF BULK AT MOST 1048576: true; the input reads as it did. -/
def fnExactServedInUptoRow : OpenClaim := { program := "ytdogommoghjncaa", sum := "a8dee4adbc5511c4d60b20079f9e08674c575bd6e0a66363bc7f27c35fd205a9", func := "loop.example/g00838/laws.FnExactServedIn", spec := "fnExactServedIn", unfollowed := true, recurses := true, apart := false, narrowed := true }
def FnExactServedInUptoSaid : Prop := fnExactServedInUptoRow.holds Try.pinned (OpenSpec.upto fnExactServedInSpec)

/-- 'laws.FnExactRunFair', WHERE WHAT IT READS IS OF BULK AT MOST 1048576: true; the input reads as it did. -/
def fnExactRunFairUptoRow : OpenClaim := { program := "ytdogommoghjncaa", sum := "a8dee4adbc5511c4d60b20079f9e08674c575bd6e0a66363bc7f27c35fd205a9", func := "loop.example/g00838/laws.FnExactRunFair", spec := "fnExactRunFair", unfollowed := true, recurses := true, apart := false, narrowed := true }
def FnExactRunFairUptoSaid : Prop := fnExactRunFairUptoRow.holds Try.pinned (OpenSpec.upto fnExactRunFairSpec)

/-- 'laws.FnExactGreatestLead', WHERE WHAT IT READS IS OF BULK AT MOST 1048576: true; the input reads as it did. -/
def fnExactGreatestLeadUptoRow : OpenClaim := { program := "ytdogommoghjncaa", sum := "a8dee4adbc5511c4d60b20079f9e08674c575bd6e0a66363bc7f27c35fd205a9", func := "loop.example/g00838/laws.FnExactGreatestLead", spec := "fnExactGreatestLead", unfollowed := true, recurses := true, apart := false, narrowed := true }
def FnExactGreatestLeadUptoSaid : Prop := fnExactGreatestLeadUptoRow.holds Try.pinned (OpenSpec.upto fnExactGreatestLeadSpec)

end Rows
end Go.Proofs.Ytdogommoghjncaa
