/-
  No cell of these rows narrows 'for every input' (looked for: loops, veiled, ifaces, maps, wideKeys, modest, calm, conditions, laid).
  DERIVED. THE GIVEN ROWS OF THIS SEAT. 6 by the template 'for every input the law returns true; each argument reads behind the call as it read before'; 0 by the template 'total and deterministic' (their statements: YtngofhppopgicaaTotals.lean).
  GIVEN WITH THE SEED: the statements are not yours to turn. If you find one false, say at which input.
  Laid BY PROGRAM, IN A SANDBOX (cutbox-rows.mjs): the forced cells as the released guide's own fill.sh prints them over the translation dd23a9d831d80ae2… (all of the seat's roots in one cut). By AI agents, Wed Nov 11 2026. No macro, syntax, notation, axiom, sorry.
-/
import Derived.Test.YtngofhppopgicaaChecked
import GoSem.Claim
import GoSem.ClaimJoined
import GoSem.ClaimMapViews
import Derived.JoinedTies
import Derived.KernelRfl
namespace Go.Proofs.Ytngofhppopgicaa
/- THE CELL 'sum', in the pinned program and in every row, IS THE sha256 OF THE DUMP (.gsa) THAT YtngofhppopgicaaProg.lean LOADS. Nothing in Lean hashes anything: it is a label: what it is worth is what the hold of that sum in a sandbox is worth. -/
noncomputable def Try.pinned : Pinned := { name := "ytngofhppopgicaa", sum := "dd23a9d831d80ae229f22808c88eb97cda43ed745230baa9d26e8a5952557763", checked := Try.checked }
namespace Rows
def none {H : Type} : Left H := { results := [], args := [] }

/-- 'laws.FnPolicers': WHATEVER THE INPUT: true; the input reads as it did. -/
def fnPolicersSpec : ChangeSpec := { name := "fnPolicers", fn := fun _ => fun
  | [d1, d2] => { results := [.lit (.bool true)], args := [d1, d2] }
  | _ => none }
def fnPolicersRow : OpenClaim := { program := "ytngofhppopgicaa", sum := "dd23a9d831d80ae229f22808c88eb97cda43ed745230baa9d26e8a5952557763", func := "loop.example/g00838/laws.FnPolicers", spec := "fnPolicers", apart := false }
def FnPolicersSaid : Prop := fnPolicersRow.holds Try.pinned (OpenSpec.ofChange fnPolicersSpec)

/-- ITS FALSE NEIGHBOUR: 'it returns false'. Refute it at one input. -/
def fnPolicersWrong : ChangeSpec := { name := "fnPolicers", fn := fun _ => fun
  | [d1, d2] => { results := [.lit (.bool false)], args := [d1, d2] }
  | _ => none }
def FnPolicersWrongFalsely : Prop := fnPolicersRow.holds Try.pinned (OpenSpec.ofChange fnPolicersWrong)

/-- 'laws.FnBands': WHATEVER THE INPUT: true; the input reads as it did. -/
def fnBandsSpec : ChangeSpec := { name := "fnBands", fn := fun _ => fun
  | [d1, d2] => { results := [.lit (.bool true)], args := [d1, d2] }
  | _ => none }
def fnBandsRow : OpenClaim := { program := "ytngofhppopgicaa", sum := "dd23a9d831d80ae229f22808c88eb97cda43ed745230baa9d26e8a5952557763", func := "loop.example/g00838/laws.FnBands", spec := "fnBands", apart := false }
def FnBandsSaid : Prop := fnBandsRow.holds Try.pinned (OpenSpec.ofChange fnBandsSpec)

/-- ITS FALSE NEIGHBOUR: 'it returns false'. Refute it at one input. -/
def fnBandsWrong : ChangeSpec := { name := "fnBands", fn := fun _ => fun
  | [d1, d2] => { results := [.lit (.bool false)], args := [d1, d2] }
  | _ => none }
def FnBandsWrongFalsely : Prop := fnBandsRow.holds Try.pinned (OpenSpec.ofChange fnBandsWrong)

/-- 'laws.FnBuckets': WHATEVER THE INPUT: true; the input reads as it did. -/
def fnBucketsSpec : ChangeSpec := { name := "fnBuckets", fn := fun _ => fun
  | [d1, d2] => { results := [.lit (.bool true)], args := [d1, d2] }
  | _ => none }
def fnBucketsRow : OpenClaim := { program := "ytngofhppopgicaa", sum := "dd23a9d831d80ae229f22808c88eb97cda43ed745230baa9d26e8a5952557763", func := "loop.example/g00838/laws.FnBuckets", spec := "fnBuckets", apart := false }
def FnBucketsSaid : Prop := fnBucketsRow.holds Try.pinned (OpenSpec.ofChange fnBucketsSpec)

/-- ITS FALSE NEIGHBOUR: 'it returns false'. Refute it at one input. -/
def fnBucketsWrong : ChangeSpec := { name := "fnBuckets", fn := fun _ => fun
  | [d1, d2] => { results := [.lit (.bool false)], args := [d1, d2] }
  | _ => none }
def FnBucketsWrongFalsely : Prop := fnBucketsRow.holds Try.pinned (OpenSpec.ofChange fnBucketsWrong)

/-- 'laws.FnLittle': WHATEVER THE INPUT: true; the input reads as it did. -/
def fnLittleSpec : ChangeSpec := { name := "fnLittle", fn := fun _ => fun
  | [d1, d2] => { results := [.lit (.bool true)], args := [d1, d2] }
  | _ => none }
def fnLittleRow : OpenClaim := { program := "ytngofhppopgicaa", sum := "dd23a9d831d80ae229f22808c88eb97cda43ed745230baa9d26e8a5952557763", func := "loop.example/g00838/laws.FnLittle", spec := "fnLittle", apart := false }
def FnLittleSaid : Prop := fnLittleRow.holds Try.pinned (OpenSpec.ofChange fnLittleSpec)

/-- ITS FALSE NEIGHBOUR: 'it returns false'. Refute it at one input. -/
def fnLittleWrong : ChangeSpec := { name := "fnLittle", fn := fun _ => fun
  | [d1, d2] => { results := [.lit (.bool false)], args := [d1, d2] }
  | _ => none }
def FnLittleWrongFalsely : Prop := fnLittleRow.holds Try.pinned (OpenSpec.ofChange fnLittleWrong)

/-- 'laws.FnAverages': WHATEVER THE INPUT: true; the input reads as it did. -/
def fnAveragesSpec : ChangeSpec := { name := "fnAverages", fn := fun _ => fun
  | [d1, d2] => { results := [.lit (.bool true)], args := [d1, d2] }
  | _ => none }
def fnAveragesRow : OpenClaim := { program := "ytngofhppopgicaa", sum := "dd23a9d831d80ae229f22808c88eb97cda43ed745230baa9d26e8a5952557763", func := "loop.example/g00838/laws.FnAverages", spec := "fnAverages", unfollowed := true, recurses := true, apart := false }
def FnAveragesSaid : Prop := fnAveragesRow.holds Try.pinned (OpenSpec.ofChange fnAveragesSpec)

/-- ITS FALSE NEIGHBOUR: 'it returns false'. Refute it at one input. -/
def fnAveragesWrong : ChangeSpec := { name := "fnAverages", fn := fun _ => fun
  | [d1, d2] => { results := [.lit (.bool false)], args := [d1, d2] }
  | _ => none }
def FnAveragesWrongFalsely : Prop := fnAveragesRow.holds Try.pinned (OpenSpec.ofChange fnAveragesWrong)

/-- 'laws.FnBounds': WHATEVER THE INPUT: true; the input reads as it did. -/
def fnBoundsSpec : ChangeSpec := { name := "fnBounds", fn := fun _ => fun
  | [d1, d2] => { results := [.lit (.bool true)], args := [d1, d2] }
  | _ => none }
def fnBoundsRow : OpenClaim := { program := "ytngofhppopgicaa", sum := "dd23a9d831d80ae229f22808c88eb97cda43ed745230baa9d26e8a5952557763", func := "loop.example/g00838/laws.FnBounds", spec := "fnBounds", apart := false }
def FnBoundsSaid : Prop := fnBoundsRow.holds Try.pinned (OpenSpec.ofChange fnBoundsSpec)

/-- ITS FALSE NEIGHBOUR: 'it returns false'. Refute it at one input. -/
def fnBoundsWrong : ChangeSpec := { name := "fnBounds", fn := fun _ => fun
  | [d1, d2] => { results := [.lit (.bool false)], args := [d1, d2] }
  | _ => none }
def FnBoundsWrongFalsely : Prop := fnBoundsRow.holds Try.pinned (OpenSpec.ofChange fnBoundsWrong)

/- THE SECOND FORM. 'bulk': how many values and letters a reading holds, each counted each time it is reached (what is shared counts as often as it is met; a slice's spare places count too). A statement '..UptoSaid' is the law's where the arguments, and the package variables that the reading takes, are together of bulk at most 1048576: NARROWER than '..Said'. Prove '..Said' where nothing that the law and all that it calls make is longer than what came in: it says more and counts as full. Else prove '..UptoSaid'. A law counts once. -/
mutual
def uptoBulk {H : Type} : DataW H → Nat
  | .lit (.string bytes) => bytes.length + 1
  | .lit _ => 1
  | .nil => 1
  | .ptr d => uptoBulk d + 1
  | .slice elems spare => uptoBulkAll elems + uptoBulkAll spare + 1
  | .agg parts => uptoBulkAll parts + 1
  | .iface _ d => uptoBulk d + 1
  | .map entries => uptoBulkEntries entries + 1
  | .held _ => 1
def uptoBulkAll {H : Type} : List (DataW H) → Nat
  | [] => 0
  | d :: r => uptoBulk d + uptoBulkAll r
def uptoBulkEntries {H : Type} : List (Lit × DataW H) → Nat
  | [] => 0
  | x :: r => uptoBulkEntry x + uptoBulkEntries r
def uptoBulkEntry {H : Type} : Lit × DataW H → Nat
  | (.string bytes, d) => bytes.length + uptoBulk d + 1
  | (_, d) => uptoBulk d + 1
 end
def uptoSmall : (H : Type) → List (DataW H) → Bool := fun _ ds => decide (uptoBulkAll ds ≤ 1048576)
def OpenSpec.upto (s : _root_.Go.ChangeSpec) : _root_.Go.OpenSpec := { _root_.Go.OpenSpec.ofChange s with cond := some uptoSmall }

/-- 'laws.FnPolicers', WHERE WHAT IT READS IS OF BULK AT MOST 1048576: true; the input reads as it did. -/
def fnPolicersUptoRow : OpenClaim := { program := "ytngofhppopgicaa", sum := "dd23a9d831d80ae229f22808c88eb97cda43ed745230baa9d26e8a5952557763", func := "loop.example/g00838/laws.FnPolicers", spec := "fnPolicers", apart := false, narrowed := true }
def FnPolicersUptoSaid : Prop := fnPolicersUptoRow.holds Try.pinned (OpenSpec.upto fnPolicersSpec)

/-- 'laws.FnBands', WHERE WHAT IT READS IS OF BULK AT MOST 1048576: true; the input reads as it did. -/
def fnBandsUptoRow : OpenClaim := { program := "ytngofhppopgicaa", sum := "dd23a9d831d80ae229f22808c88eb97cda43ed745230baa9d26e8a5952557763", func := "loop.example/g00838/laws.FnBands", spec := "fnBands", apart := false, narrowed := true }
def FnBandsUptoSaid : Prop := fnBandsUptoRow.holds Try.pinned (OpenSpec.upto fnBandsSpec)

/-- 'laws.FnBuckets', WHERE WHAT IT READS IS OF BULK AT MOST 1048576: true; the input reads as it did. -/
def fnBucketsUptoRow : OpenClaim := { program := "ytngofhppopgicaa", sum := "dd23a9d831d80ae229f22808c88eb97cda43ed745230baa9d26e8a5952557763", func := "loop.example/g00838/laws.FnBuckets", spec := "fnBuckets", apart := false, narrowed := true }
def FnBucketsUptoSaid : Prop := fnBucketsUptoRow.holds Try.pinned (OpenSpec.upto fnBucketsSpec)

/-- 'laws.FnLittle', WHERE WHAT IT READS IS OF BULK AT MOST 1048576: true; the input reads as it did. -/
def fnLittleUptoRow : OpenClaim := { program := "ytngofhppopgicaa", sum := "dd23a9d831d80ae229f22808c88eb97cda43ed745230baa9d26e8a5952557763", func := "loop.example/g00838/laws.FnLittle", spec := "fnLittle", apart := false, narrowed := true }
def FnLittleUptoSaid : Prop := fnLittleUptoRow.holds Try.pinned (OpenSpec.upto fnLittleSpec)

/-- 'laws.FnAverages', WHERE WHAT IT READS IS OF BULK AT MOST 1048576: true; the input reads as it did. -/
def fnAveragesUptoRow : OpenClaim := { program := "ytngofhppopgicaa", sum := "dd23a9d831d80ae229f22808c88eb97cda43ed745230baa9d26e8a5952557763", func := "loop.example/g00838/laws.FnAverages", spec := "fnAverages", unfollowed := true, recurses := true, apart := false, narrowed := true }
def FnAveragesUptoSaid : Prop := fnAveragesUptoRow.holds Try.pinned (OpenSpec.upto fnAveragesSpec)

/-- 'laws.FnBounds', WHERE WHAT IT READS IS OF BULK AT MOST 1048576: true; the input reads as it did. -/
def fnBoundsUptoRow : OpenClaim := { program := "ytngofhppopgicaa", sum := "dd23a9d831d80ae229f22808c88eb97cda43ed745230baa9d26e8a5952557763", func := "loop.example/g00838/laws.FnBounds", spec := "fnBounds", apart := false, narrowed := true }
def FnBoundsUptoSaid : Prop := fnBoundsUptoRow.holds Try.pinned (OpenSpec.upto fnBoundsSpec)

end Rows
end Go.Proofs.Ytngofhppopgicaa
