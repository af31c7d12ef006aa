/-
  The residual forms of the program's functions under the interpreter by value, printed by program (wip/pv/gen2.py); each equation is checked by the kernel.
  Conditions: none.
-/
import Derived.Test.YtngofhppopgicaaVDef
import Derived.Test.YtngofhppopgicaaProg
import Derived.KernelRfl
set_option linter.all false
set_option maxRecDepth 1000000
namespace Go.Proofs.Ytngofhppopgicaa
open Go.Ev Go.Pv

theorem fuel_is : ∃ n : Nat, n = 4194304 := ⟨_, rfl⟩
noncomputable def fuelN : Nat := Classical.choose fuel_is
theorem fuelN_eq : fuelN = 4194304 := Classical.choose_spec fuel_is
def pvSig : FuncId → Sig
  | 7 => ⟨[(.ro, (.sl (.int .u8))), (.ro, (.sl (.int .u8)))], [(false, .bool)]⟩
  | 67 => ⟨[(.ro, (.sl (.int .u8))), (.ro, (.sl (.int .u8)))], [(false, .bool)]⟩
  | 68 => ⟨[(.ro, (.sl (.int .u8)))], [(false, (.pair (.int .i64) (.pair (.int .i64) (.pair (.int .i64) (.int .i64))))), (false, (.int .i64)), (false, (.int .i64))]⟩
  | 69 => ⟨[(.ro, (.pair (.int .i64) (.pair (.int .i64) (.pair (.int .i64) (.int .i64))))), (.ro, (.int .i64)), (.ro, (.int .i64))], [(false, (.int .i64)), (false, .bool)]⟩
  | 70 => ⟨[(.ro, (.pair (.int .i64) (.pair (.int .i64) (.pair (.int .i64) (.int .i64))))), (.ro, (.int .i64)), (.ro, (.int .i64))], [(false, (.int .i64)), (false, .bool)]⟩
  | 71 => ⟨[(.ro, (.pair (.int .i64) (.pair (.int .i64) (.pair (.int .i64) (.int .i64)))))], [(false, .bool)]⟩
  | 72 => ⟨[(.ro, (.pair (.int .i64) (.pair (.int .i64) (.pair (.int .i64) (.int .i64)))))], [(false, .bool)]⟩
  | 73 => ⟨[(.ro, (.sl (.int .u8)))], [(false, (.pair (.int .i64) (.pair (.int .i64) (.pair (.int .i64) (.int .i64))))), (false, (.int .i64)), (true, (.sl (.int .i64)))]⟩
  | 74 => ⟨[(.ro, (.pair (.int .i64) (.pair (.int .i64) (.pair (.int .i64) (.int .i64))))), (.ro, (.int .i64)), (.ro, (.sl (.int .i64)))], [(true, (.sl (.int .i64))), (false, .bool)]⟩
  | 75 => ⟨[(.ro, (.pair (.int .i64) (.pair (.int .i64) (.pair (.int .i64) (.int .i64))))), (.ro, (.int .i64)), (.ro, (.sl (.int .i64)))], [(true, (.sl (.int .i64))), (false, .bool)]⟩
  | 76 => ⟨[(.ro, (.sl (.int .i64))), (.ro, (.sl (.int .i64)))], [(false, .bool)]⟩
  | 77 => ⟨[(.ro, (.sl (.int .u8)))], [(false, (.pair (.int .i64) (.pair (.int .i64) (.pair (.int .i64) (.int .i64))))), (false, (.int .i64))]⟩
  | 78 => ⟨[(.ro, (.pair (.int .i64) (.pair (.int .i64) (.pair (.int .i64) (.int .i64))))), (.ro, (.int .i64))], [(false, (.int .i64)), (false, .bool)]⟩
  | 79 => ⟨[(.ro, (.pair (.int .i64) (.pair (.int .i64) (.pair (.int .i64) (.int .i64))))), (.ro, (.int .i64))], [(false, (.int .i64)), (false, .bool)]⟩
  | 80 => ⟨[(.ro, (.sl (.int .u8)))], [(false, (.pair (.int .i64) (.pair (.int .i64) (.pair (.int .i64) (.int .i64)))))]⟩
  | 81 => ⟨[(.ro, (.pair (.int .i64) (.pair (.int .i64) (.pair (.int .i64) (.int .i64)))))], [(false, (.int .i64)), (false, .bool)]⟩
  | 82 => ⟨[(.ro, (.pair (.int .i64) (.pair (.int .i64) (.pair (.int .i64) (.int .i64)))))], [(false, (.int .i64)), (false, .bool)]⟩
  | 115 => ⟨[(.ps, (.pair (.sl (.int .u8)) (.pair (.int .i64) (.int .u64)))), (.ro, (.sl (.int .i64)))], [(false, (.int .i64))]⟩
  | 120 => ⟨[(.ps, (.pair (.sl (.int .u8)) (.pair (.int .i64) (.int .u64)))), (.ro, (.int .i64))], [(false, (.int .i64))]⟩
  | 131 => ⟨[(.ro, (.int .i64)), (.ro, (.int .i64)), (.ro, (.int .i64))], [(false, .bool)]⟩
  | 144 => ⟨[(.ps, (.pair (.sl (.int .u8)) (.pair (.int .i64) (.int .u64))))], [(false, (.pair (.int .i64) (.pair (.int .i64) (.pair (.int .i64) (.int .i64)))))]⟩
  | 145 => ⟨[(.ps, (.pair (.sl (.int .u8)) (.pair (.int .i64) (.int .u64))))], [(false, (.int .i64))]⟩
  | 146 => ⟨[(.ro, (.int .i64))], [(false, .bool)]⟩
  | 147 => ⟨[(.ro, (.int .i64))], [(false, .bool)]⟩
  | 148 => ⟨[(.ro, (.pair (.int .i64) (.pair (.int .i64) (.pair (.int .i64) (.int .i64))))), (.ro, (.int .i64)), (.ro, (.int .i64))], [(false, (.int .i64))]⟩
  | 149 => ⟨[(.ro, (.pair (.int .i64) (.pair (.int .i64) (.pair (.int .i64) (.int .i64)))))], [(false, .bool)]⟩
  | 150 => ⟨[(.ro, (.int .i64))], [(false, .bool)]⟩
  | 151 => ⟨[(.ro, (.pair (.int .i64) (.pair (.int .i64) (.pair (.int .i64) (.int .i64))))), (.ro, (.int .i64)), (.ro, (.int .i64))], [(false, (.int .i64))]⟩
  | 152 => ⟨[(.ps, (.pair (.sl (.int .u8)) (.pair (.int .i64) (.int .u64))))], [(true, (.sl (.int .i64)))]⟩
  | 153 => ⟨[(.ro, (.sl (.int .i64)))], [(false, .bool)]⟩
  | 154 => ⟨[(.ro, (.sl (.int .i64)))], [(false, .bool)]⟩
  | 157 => ⟨[(.ro, (.pair (.int .i64) (.pair (.int .i64) (.pair (.int .i64) (.int .i64))))), (.ro, (.int .i64)), (.ro, (.int .i64)), (.ro, (.int .i64)), (.ro, .bool)], [(false, (.int .i64))]⟩
  | 158 => ⟨[(.ro, (.sl (.int .u8)))], [(false, (.pair (.int .i64) (.pair (.int .i64) (.pair (.int .i64) (.int .i64)))))]⟩
  | 172 => ⟨[(.ro, (.sl (.int .i64))), (.ro, (.int .i64)), (.ro, (.int .i64))], [(false, .bool)]⟩
  | 173 => ⟨[(.ps, (.pair (.sl (.int .u8)) (.pair (.int .i64) (.int .u64))))], [(false, (.int .i64))]⟩
  | _ => ⟨[], []⟩
def pvLoops : FuncId → Nat → LoopA
  | 7, 0 => ⟨[(4, false, .bool), (13, false, (.int .i64)), (150, false, (.int .i64))], [], [], []⟩
  | 74, 0 => ⟨[(1, false, (.int .i64)), (8, true, (.sl (.int .i64))), (27, false, (.int .i64))], [], [], []⟩
  | 75, 0 => ⟨[(1, false, (.int .i64)), (8, true, (.sl (.int .i64))), (26, false, (.int .i64))], [], [], []⟩
  | 76, 0 => ⟨[(4, false, .bool), (13, false, (.int .i64))], [], [], []⟩
  | 152, 0 => ⟨[(3, true, (.sl (.int .i64))), (4, false, (.int .i64))], [(0, (.pair (.sl (.int .u8)) (.pair (.int .i64) (.int .u64))))], [], []⟩
  | 153, 0 => ⟨[(2, false, .bool), (7, false, (.int .i64))], [], [], []⟩
  | 155, 0 => ⟨[(1, false, (.int .i64)), (8, false, (.int .i64)), (9, false, .bool), (10, false, (.int .i64))], [], [], []⟩
  | 157, 0 => ⟨[(1, false, (.int .i64)), (10, false, (.int .i64)), (11, false, (.int .i64))], [], [], []⟩
  | 172, 0 => ⟨[(6, false, .bool), (11, false, (.int .i64))], [], [], []⟩
  | _, _ => ⟨[], [], [], []⟩
def pvEloops : FuncId → Nat → List (Nat × Value)
  | 7, 0 => [(1, (.slice none 0 0)), (4, (.bool false)), (12, (.pointer (some ⟨0, 0, none⟩))), (13, (.int .i64 0)), (17, (.slice none 0 0)), (148, (.slice none 0 0)), (149, (.int .i64 0)), (150, (.int .i64 0))]
  | 74, 0 => [(1, (.int .i64 0)), (3, (.pointer (some ⟨0, 0, none⟩))), (6, (.slice none 0 0)), (7, (.bool false)), (8, (.slice none 0 0)), (25, (.slice none 0 0)), (26, (.int .i64 0)), (27, (.int .i64 0))]
  | 75, 0 => [(1, (.int .i64 0)), (3, (.pointer (some ⟨0, 0, none⟩))), (6, (.slice none 0 0)), (7, (.bool false)), (8, (.slice none 0 0)), (24, (.slice none 0 0)), (25, (.int .i64 0)), (26, (.int .i64 0))]
  | 76, 0 => [(0, (.slice none 0 0)), (1, (.slice none 0 0)), (4, (.bool false)), (12, (.int .i64 0)), (13, (.int .i64 0))]
  | 152, 0 => [(0, (.pointer (some ⟨0, 0, none⟩))), (2, (.slice none 0 0)), (3, (.slice none 0 0)), (4, (.int .i64 0))]
  | 153, 0 => [(0, (.slice none 0 0)), (2, (.bool false)), (5, (.slice none 0 0)), (6, (.int .i64 0)), (7, (.int .i64 0))]
  | 155, 0 => [(1, (.int .i64 0)), (2, (.int .i64 0)), (3, .nilFunc), (4, (.pointer (some ⟨0, 0, none⟩))), (8, (.int .i64 0)), (9, (.bool false)), (10, (.int .i64 0))]
  | 157, 0 => [(1, (.int .i64 0)), (2, (.int .i64 0)), (3, (.int .i64 0)), (4, (.bool false)), (5, (.pointer (some ⟨0, 0, none⟩))), (10, (.int .i64 0)), (11, (.int .i64 0))]
  | 172, 0 => [(1, (.int .i64 0)), (2, (.int .i64 0)), (6, (.bool false)), (9, (.slice none 0 0)), (10, (.int .i64 0)), (11, (.int .i64 0))]
  | _, _ => []
def pvInline : FuncId → Bool
  | 155 => true
  | 156 => true
  | 159 => true
  | _ => false
noncomputable def pvAnn : AnnV := ⟨fuelN, pvSig, pvLoops, pvEloops, pvInline⟩

/-- loop.example/g00838/laws.big -/
noncomputable def g67 (d : Nat) (l1 : List Int) (l2 : List Int) : Option Bool := (lev Try.prog pvAnn d).call 67 (l1, l2)
/-- (*loop.example/g00838/spec.l1Cur).next -/
noncomputable def g173 (d : Nat) (x1 : ((List Int) × Int × Int)) : Option (Int × ((List Int) × Int × Int)) := (lev Try.prog pvAnn d).call 173 (x1)
/-- (*loop.example/g00838/spec.l1Cur).pick -/
noncomputable def g120 (d : Nat) (x1 : ((List Int) × Int × Int)) (n2 : Int) : Option (Int × ((List Int) × Int × Int)) := (lev Try.prog pvAnn d).call 120 (x1, n2)
/-- (*loop.example/g00838/spec.l1Cur).among -/
noncomputable def g115 (d : Nat) (x1 : ((List Int) × Int × Int)) (l2 : List Int) : Option (Int × ((List Int) × Int × Int)) := (lev Try.prog pvAnn d).call 115 (x1, l2)
/-- (*loop.example/g00838/spec.l1Cur).early -/
noncomputable def g144 (d : Nat) (x1 : ((List Int) × Int × Int)) : Option ((Int × Int × Int × Int) × ((List Int) × Int × Int)) := (lev Try.prog pvAnn d).call 144 (x1)
/-- (*loop.example/g00838/spec.l1Cur).average -/
noncomputable def g145 (d : Nat) (x1 : ((List Int) × Int × Int)) : Option (Int × ((List Int) × Int × Int)) := (lev Try.prog pvAnn d).call 145 (x1)
/-- loop.example/g00838/spec.DrawNextAverage -/
noncomputable def g68 (d : Nat) (l1 : List Int) : Option ((Int × Int × Int × Int) × Int × Int) := (lev Try.prog pvAnn d).call 68 (l1)
/-- loop.example/g00838/impl.IsEarly -/
noncomputable def g71 (d : Nat) (x1 : (Int × Int × Int × Int)) : Option Bool := (lev Try.prog pvAnn d).call 71 (x1)
/-- loop.example/g00838/impl.isAverage -/
noncomputable def g146 (d : Nat) (n1 : Int) : Option Bool := (lev Try.prog pvAnn d).call 146 (n1)
/-- loop.example/g00838/impl.isLength -/
noncomputable def g147 (d : Nat) (n1 : Int) : Option Bool := (lev Try.prog pvAnn d).call 147 (n1)
/-- loop.example/g00838/impl.nextAverage -/
noncomputable def g148 (d : Nat) (x1 : (Int × Int × Int × Int)) (n2 : Int) (n3 : Int) : Option Int := (lev Try.prog pvAnn d).call 148 (x1, n2, n3)
/-- loop.example/g00838/impl.NextAverage -/
noncomputable def g69 (d : Nat) (x1 : (Int × Int × Int × Int)) (n2 : Int) (n3 : Int) : Option (Int × Bool) := (lev Try.prog pvAnn d).call 69 (x1, n2, n3)
/-- loop.example/g00838/spec.l1In -/
noncomputable def g131 (d : Nat) (n1 : Int) (n2 : Int) (n3 : Int) : Option Bool := (lev Try.prog pvAnn d).call 131 (n1, n2, n3)
/-- loop.example/g00838/spec.rdGood -/
noncomputable def g149 (d : Nat) (x1 : (Int × Int × Int × Int)) : Option Bool := (lev Try.prog pvAnn d).call 149 (x1)
/-- loop.example/g00838/spec.rdAverage -/
noncomputable def g150 (d : Nat) (n1 : Int) : Option Bool := (lev Try.prog pvAnn d).call 150 (n1)
/-- loop.example/g00838/spec.rdNext -/
noncomputable def g151 (d : Nat) (x1 : (Int × Int × Int × Int)) (n2 : Int) (n3 : Int) : Option Int := (lev Try.prog pvAnn d).call 151 (x1, n2, n3)
/-- loop.example/g00838/spec.NextAverage -/
noncomputable def g70 (d : Nat) (x1 : (Int × Int × Int × Int)) (n2 : Int) (n3 : Int) : Option (Int × Bool) := (lev Try.prog pvAnn d).call 70 (x1, n2, n3)
/-- loop.example/g00838/spec.IsEarly -/
noncomputable def g72 (d : Nat) (x1 : (Int × Int × Int × Int)) : Option Bool := (lev Try.prog pvAnn d).call 72 (x1)
/-- (*loop.example/g00838/spec.l1Cur).lengths -/
noncomputable def g152 (d : Nat) (x1 : ((List Int) × Int × Int)) : Option ((List Int) × ((List Int) × Int × Int)) := (lev Try.prog pvAnn d).call 152 (x1)
/-- loop.example/g00838/spec.DrawAverageOver -/
noncomputable def g73 (d : Nat) (l1 : List Int) : Option ((Int × Int × Int × Int) × Int × (List Int)) := (lev Try.prog pvAnn d).call 73 (l1)
/-- loop.example/g00838/impl.areLengths -/
noncomputable def g153 (d : Nat) (l1 : List Int) : Option Bool := (lev Try.prog pvAnn d).call 153 (l1)
/-- loop.example/g00838/impl.AverageOver -/
noncomputable def g74 (d : Nat) (x1 : (Int × Int × Int × Int)) (n2 : Int) (l3 : List Int) : Option ((List Int) × Bool) := (lev Try.prog pvAnn d).call 74 (x1, n2, l3)
/-- loop.example/g00838/spec.l1All -/
noncomputable def g172 (d : Nat) (l1 : List Int) (n2 : Int) (n3 : Int) : Option Bool := (lev Try.prog pvAnn d).call 172 (l1, n2, n3)
/-- loop.example/g00838/spec.rdLengths -/
noncomputable def g154 (d : Nat) (l1 : List Int) : Option Bool := (lev Try.prog pvAnn d).call 154 (l1)
/-- loop.example/g00838/spec.AverageOver -/
noncomputable def g75 (d : Nat) (x1 : (Int × Int × Int × Int)) (n2 : Int) (l3 : List Int) : Option ((List Int) × Bool) := (lev Try.prog pvAnn d).call 75 (x1, n2, l3)
/-- loop.example/g00838/laws.sameInts -/
noncomputable def g76 (d : Nat) (l1 : List Int) (l2 : List Int) : Option Bool := (lev Try.prog pvAnn d).call 76 (l1, l2)
/-- loop.example/g00838/spec.DrawIdleUntil -/
noncomputable def g77 (d : Nat) (l1 : List Int) : Option ((Int × Int × Int × Int) × Int) := (lev Try.prog pvAnn d).call 77 (l1)
/-- loop.example/g00838/impl.IdleUntil -/
noncomputable def g78 (d : Nat) (x1 : (Int × Int × Int × Int)) (n2 : Int) : Option (Int × Bool) := (lev Try.prog pvAnn d).call 78 (x1, n2)
/-- loop.example/g00838/spec.rdSteps -/
noncomputable def g157 (d : Nat) (x1 : (Int × Int × Int × Int)) (n2 : Int) (n3 : Int) (n4 : Int) (b5 : Bool) : Option Int := (lev Try.prog pvAnn d).call 157 (x1, n2, n3, n4, b5)
/-- loop.example/g00838/spec.IdleUntil -/
noncomputable def g79 (d : Nat) (x1 : (Int × Int × Int × Int)) (n2 : Int) : Option (Int × Bool) := (lev Try.prog pvAnn d).call 79 (x1, n2)
/-- loop.example/g00838/spec.DrawIsEarly -/
noncomputable def g158 (d : Nat) (l1 : List Int) : Option (Int × Int × Int × Int) := (lev Try.prog pvAnn d).call 158 (l1)
/-- loop.example/g00838/spec.DrawLeastForced -/
noncomputable def g80 (d : Nat) (l1 : List Int) : Option (Int × Int × Int × Int) := (lev Try.prog pvAnn d).call 80 (l1)
/-- loop.example/g00838/impl.LeastForced -/
noncomputable def g81 (d : Nat) (x1 : (Int × Int × Int × Int)) : Option (Int × Bool) := (lev Try.prog pvAnn d).call 81 (x1)
/-- loop.example/g00838/spec.LeastForced -/
noncomputable def g82 (d : Nat) (x1 : (Int × Int × Int × Int)) : Option (Int × Bool) := (lev Try.prog pvAnn d).call 82 (x1)
/-- loop.example/g00838/laws.FnAverages -/
noncomputable def g7 (d : Nat) (l1 : List Int) (l2 : List Int) : Option Bool := (lev Try.prog pvAnn d).call 7 (l1, l2)

theorem e67 (d : Nat) (l1 : List Int) (l2 : List Int) : g67 (d + 1) l1 l2 =
 oif (decide ((((l1.length : Nat) : Int) : Int) > 1048576)) (
 some true) (
 some (decide ((((l2.length : Nat) : Int) : Int) > (IntKind.i64.wrap ((1048576 : Int) - ((l1.length : Nat) : Int)))))) := by kernel_rfl

noncomputable def j173_0 (d : Nat) (x1 : ((List Int) × Int × Int)) (n2 : Int) : Option (Int × ((List Int) × Int × Int)) :=
 oif (decide (((IntKind.i64.wrap (x1.2.1 + 1)) : Int) ≤ ((x1.1.length : Nat) : Int))) (
 some (n2, (x1.1, (IntKind.i64.wrap (x1.2.1 + 1)), (IntKind.u64.wrap ((IntKind.u64.wrap ((IntKind.u64.wrap (x1.2.2 * 6364136223846793005)) + (IntKind.u64.wrap n2))) + 1442695040888963407))))) (
 some ((IntKind.i64.wrap (IntKind.u64.wrap ((BitVec.ofInt IntKind.u64.bits ((IntKind.u64.wrap ((IntKind.u64.wrap ((IntKind.u64.wrap (x1.2.2 * 6364136223846793005)) + (IntKind.u64.wrap n2))) + 1442695040888963407)).fdiv (2 ^ (min (40 : Int).toNat IntKind.u64.bits))) &&& BitVec.ofInt IntKind.u64.bits 255).toNat : Int))), (x1.1, (IntKind.i64.wrap (x1.2.1 + 1)), (IntKind.u64.wrap ((IntKind.u64.wrap ((IntKind.u64.wrap (x1.2.2 * 6364136223846793005)) + (IntKind.u64.wrap n2))) + 1442695040888963407)))))
theorem e173 (d : Nat) (x1 : ((List Int) × Int × Int)) : g173 (d + 1) x1 =
 oif (decide ((x1.2.1 : Int) < ((x1.1.length : Nat) : Int))) (
 oif (decide (0 ≤ (x1.2.1 : Int))) (
 obind (x1.1[(x1.2.1 : Int).toNat]?) fun n2 =>
 j173_0 d x1 (IntKind.i64.wrap n2)) none) (
 j173_0 d x1 0) := by kernel_rfl

theorem e120 (d : Nat) (x1 : ((List Int) × Int × Int)) (n2 : Int) : g120 (d + 1) x1 n2 =
 oif (decide ((n2 : Int) ≤ 1)) (
 some (0, x1)) (
 obind (g173 d x1) fun r3 =>
 oif (decide ((n2 : Int) > 200)) (
 obind (g173 d r3.2) fun r4 =>
 oif ((n2 : Int) == 0) none (
 some (((IntKind.i64.wrap ((IntKind.i64.wrap (r3.1 * 256)) + r4.1)).tmod n2), r4.2))) (
 oif ((n2 : Int) == 0) none (
 some ((r3.1.tmod n2), r3.2)))) := by kernel_rfl

theorem e115 (d : Nat) (x1 : ((List Int) × Int × Int)) (l2 : List Int) : g115 (d + 1) x1 l2 =
 obind (g120 d x1 ((l2.length : Nat) : Int)) fun r3 =>
 oif (decide (0 ≤ (r3.1 : Int))) (
 obind (l2[(r3.1 : Int).toNat]?) fun n4 =>
 some (n4, r3.2)) none := by kernel_rfl

noncomputable def j144_0 (d : Nat) (r2 : (Int × ((List Int) × Int × Int))) (r5 : (Int × ((List Int) × Int × Int))) (n9 : Int) (n10 : Int) (l11 : List Int) (n12 : Int) (n13 : Int) : Option ((Int × Int × Int × Int) × ((List Int) × Int × Int)) :=
 some ((r2.1, (IntKind.i64.wrap ((IntKind.i64.wrap (r2.1 + 1)) + r5.1)), n9, n10), (l11, n12, n13))
theorem e144 (d : Nat) (x1 : ((List Int) × Int × Int)) : g144 (d + 1) x1 =
 obind (g120 d x1 6) fun r2 =>
 obind (g115 d r2.2 [1, 8, 64, 128, 256]) fun r3 =>
 obind (g115 d r3.2 [1, 20, 100, 500, 1000]) fun r4 =>
 obind (g120 d r4.2 8) fun r5 =>
 obind (g120 d r5.2 24) fun r6 =>
 oif ((r6.1 : Int) == 0) (
 obind (g115 d r6.2 [(-1), 0, (IntKind.i64.wrap ((IntKind.i64.wrap ((IntKind.i64.wrap (r2.1 + 1)) + r5.1)) - 1)), (IntKind.i64.wrap ((IntKind.i64.wrap (r2.1 + 1)) + r5.1))]) fun r7 =>
 some ((r7.1, (IntKind.i64.wrap ((IntKind.i64.wrap (r2.1 + 1)) + r5.1)), r3.1, r4.1), r7.2)) (
 oif ((r6.1 : Int) == 1) (
 obind (g115 d r6.2 [60, 61, r2.1]) fun r8 =>
 some ((r2.1, r8.1, r3.1, r4.1), r8.2)) (
 oif ((r6.1 : Int) == 2) (
 obind (g115 d r6.2 [0, 257]) fun r9 =>
 j144_0 d r2 r5 r9.1 r4.1 r9.2.1 r9.2.2.1 r9.2.2.2) (
 oif ((r6.1 : Int) == 3) (
 obind (g115 d r6.2 [0, 1001]) fun r10 =>
 j144_0 d r2 r5 r3.1 r10.1 r10.2.1 r10.2.2.1 r10.2.2.2) (
 j144_0 d r2 r5 r3.1 r4.1 r6.2.1 r6.2.2.1 r6.2.2.2)))) := by kernel_rfl

theorem e145 (d : Nat) (x1 : ((List Int) × Int × Int)) : g145 (d + 1) x1 =
 obind (g120 d x1 4000) fun r2 =>
 obind (g120 d r2.2 4000) fun r3 =>
 obind (g120 d r3.2 4000) fun r4 =>
 obind (g115 d r4.2 [0, 1, 255, 256, 512, 1000, 1024, 1535, 2560, 15360, 15361, (-1), r2.1, r3.1, r4.1]) fun r5 =>
 some (r5.1, r5.2) := by kernel_rfl

theorem e68 (d : Nat) (l1 : List Int) : g68 (d + 1) l1 =
 obind (g144 d (l1, 0, 0)) fun r2 =>
 obind (g145 d r2.2) fun r3 =>
 obind (g115 d r3.2 [0, 1, 4, 10, 60, 61, (-1)]) fun r4 =>
 some (r2.1, r3.1, r4.1) := by kernel_rfl

theorem e71 (d : Nat) (x1 : (Int × Int × Int × Int)) : g71 (d + 1) x1 =
 oif (decide ((x1.1 : Int) ≥ 0)) (
 oif (decide ((x1.1 : Int) < x1.2.1)) (
 oif (decide ((x1.2.1 : Int) ≤ 60)) (
 oif (decide ((x1.2.2.1 : Int) ≥ 1)) (
 oif (decide ((x1.2.2.1 : Int) ≤ 256)) (
 oif (decide ((x1.2.2.2 : Int) ≥ 1)) (
 some (decide ((x1.2.2.2 : Int) ≤ 1000))) (
 some false)) (
 some false)) (
 some false)) (
 some false)) (
 some false)) (
 some false) := by kernel_rfl

theorem e146 (d : Nat) (n1 : Int) : g146 (d + 1) n1 =
 oif (decide ((n1 : Int) ≥ 0)) (
 some (decide ((n1 : Int) ≤ 15360))) (
 some false) := by kernel_rfl

theorem e147 (d : Nat) (n1 : Int) : g147 (d + 1) n1 =
 oif (decide ((n1 : Int) ≥ 0)) (
 some (decide ((n1 : Int) ≤ 60))) (
 some false) := by kernel_rfl

theorem e148 (d : Nat) (x1 : (Int × Int × Int × Int)) (n2 : Int) (n3 : Int) : g148 (d + 1) x1 n2 n3 =
 some (IntKind.i64.wrap (n2 + ((IntKind.i64.wrap (x1.2.2.1 * (IntKind.i64.wrap ((IntKind.i64.wrap ((256 : Int) * n3)) - n2)))).fdiv (2 ^ (min (8 : Int).toNat IntKind.i64.bits))))) := by kernel_rfl

theorem e69 (d : Nat) (x1 : (Int × Int × Int × Int)) (n2 : Int) (n3 : Int) : g69 (d + 1) x1 n2 n3 =
 obind (g71 d x1) fun r4 =>
 oif (!r4) (
 some (0, false)) (
 obind (g146 d n2) fun r5 =>
 oif (!r5) (
 some (0, false)) (
 obind (g147 d n3) fun r6 =>
 oif (!r6) (
 some (0, false)) (
 obind (g148 d x1 n2 n3) fun r7 =>
 some (r7, true)))) := by kernel_rfl

theorem e131 (d : Nat) (n1 : Int) (n2 : Int) (n3 : Int) : g131 (d + 1) n1 n2 n3 =
 oif (decide ((n1 : Int) ≥ n2)) (
 some (decide ((n1 : Int) ≤ n3))) (
 some false) := by kernel_rfl

theorem e149 (d : Nat) (x1 : (Int × Int × Int × Int)) : g149 (d + 1) x1 =
 obind (g131 d x1.2.1 1 60) fun r2 =>
 oif r2 (
 obind (g131 d x1.1 0 (IntKind.i64.wrap (x1.2.1 - 1))) fun r3 =>
 oif r3 (
 obind (g131 d x1.2.2.1 1 256) fun r4 =>
 oif r4 (
 obind (g131 d x1.2.2.2 1 1000) fun r5 =>
 some r5) (
 some false)) (
 some false)) (
 some false) := by kernel_rfl

theorem e150 (d : Nat) (n1 : Int) : g150 (d + 1) n1 =
 obind (g131 d n1 0 15360) fun r2 =>
 some r2 := by kernel_rfl

theorem e151 (d : Nat) (x1 : (Int × Int × Int × Int)) (n2 : Int) (n3 : Int) : g151 (d + 1) x1 n2 n3 =
 oif (decide ((((IntKind.i64.wrap (x1.2.2.1 * (IntKind.i64.wrap ((IntKind.i64.wrap ((256 : Int) * n3)) - n2)))).tmod 256) : Int) < 0)) (
 some (IntKind.i64.wrap (n2 + (IntKind.i64.wrap ((IntKind.i64.wrap ((IntKind.i64.wrap (x1.2.2.1 * (IntKind.i64.wrap ((IntKind.i64.wrap ((256 : Int) * n3)) - n2)))).tdiv 256)) - 1))))) (
 some (IntKind.i64.wrap (n2 + (IntKind.i64.wrap ((IntKind.i64.wrap (x1.2.2.1 * (IntKind.i64.wrap ((IntKind.i64.wrap ((256 : Int) * n3)) - n2)))).tdiv 256))))) := by kernel_rfl

theorem e70 (d : Nat) (x1 : (Int × Int × Int × Int)) (n2 : Int) (n3 : Int) : g70 (d + 1) x1 n2 n3 =
 obind (g149 d x1) fun r4 =>
 oif (!r4) (
 some (0, false)) (
 obind (g150 d n2) fun r5 =>
 oif (!r5) (
 some (0, false)) (
 obind (g131 d n3 0 60) fun r6 =>
 oif (!r6) (
 some (0, false)) (
 obind (g151 d x1 n2 n3) fun r7 =>
 some (r7, true)))) := by kernel_rfl

theorem e72 (d : Nat) (x1 : (Int × Int × Int × Int)) : g72 (d + 1) x1 =
 obind (g149 d x1) fun r2 =>
 some r2 := by kernel_rfl

noncomputable def j152_0 (d : Nat)  (l4 : List Int) (n5 : Int) (n6 : Int) (l7 : List Int) : Option ((List Int) × ((List Int) × Int × Int)) :=
 obind (g120 d (l4, n5, n6) 20) fun r8 =>
 oif ((r8.1 : Int) == 0) (
 obind (g115 d r8.2 [(-1), 61]) fun r9 =>
 oif (Nat.ble ((l7.length + [r9.1].length) * 8) roomMax) (
 some ((l7 ++ [r9.1]), r9.2)) none) (
 oif ((r8.1 : Int) == 1) (
 obind (g120 d r8.2 2) fun r10 =>
 oif (decide (0 ≤ ((IntKind.i64.wrap ((60 : Int) + r10.1)) : Int))) (
 oif (decide (0 ≤ ((IntKind.i64.wrap ((60 : Int) + r10.1)) : Int))) (
 oif (Nat.ble (((IntKind.i64.wrap ((60 : Int) + r10.1)) : Int).toNat) (((IntKind.i64.wrap ((60 : Int) + r10.1)) : Int).toNat) && Nat.ble ((((IntKind.i64.wrap ((60 : Int) + r10.1)) : Int).toNat) * 8) roomMax) (
 some ((List.replicate (((IntKind.i64.wrap ((60 : Int) + r10.1)) : Int).toNat) (0 : Int)), r10.2)) none) none) none) (
 some (l7, r8.2)))
noncomputable def l152_0_b (d : Nat)  (kx152_0_0 : (List Int) → Int → Int → (List Int) → Option ((List Int) × ((List Int) × Int × Int))) (ag3 : ((List Int) × Int × ((List Int) × Int × Int)) → Option ((List Int) × ((List Int) × Int × Int))) (l4 : List Int) (n5 : Int) (x6 : ((List Int) × Int × Int)) : Option ((List Int) × ((List Int) × Int × Int)) :=
 oif (decide ((n5 : Int) > 0)) (
 obind (g115 d x6 [0, 1, 2, 4, 6, 10, 20, 60]) fun r7 =>
 oif (Nat.ble ((l4.length + [r7.1].length) * 8) roomMax) (
 ag3 ((l4 ++ [r7.1]), (IntKind.i64.wrap (n5 - 1)), r7.2)) none) (
 kx152_0_0 x6.1 x6.2.1 x6.2.2 l4)
noncomputable def l152_0 (d : Nat)  (kx152_0_0 : (List Int) → Int → Int → (List Int) → Option ((List Int) × ((List Int) × Int × Int))) (ag3 : ((List Int) × Int × ((List Int) × Int × Int)) → Option ((List Int) × ((List Int) × Int × Int))) (s : ((List Int) × Int × ((List Int) × Int × Int))) : Option ((List Int) × ((List Int) × Int × Int)) := l152_0_b d kx152_0_0 ag3 s.1 s.2.1 s.2.2
theorem e152 (d : Nat) (x1 : ((List Int) × Int × Int)) : g152 (d + 1) x1 =
 obind (g120 d x1 12) fun r2 =>
 iterP (l152_0 d (j152_0 d)) fuelN ([], r2.1, r2.2) := by kernel_rfl

theorem e73 (d : Nat) (l1 : List Int) : g73 (d + 1) l1 =
 obind (g144 d (l1, 0, 0)) fun r2 =>
 obind (g145 d r2.2) fun r3 =>
 obind (g152 d r3.2) fun r4 =>
 some (r2.1, r3.1, r4.1) := by kernel_rfl

noncomputable def j153_0 (d : Nat) (l1 : List Int) (b3 : Bool) : Option Bool :=
 some (decide ((((l1.length : Nat) : Int) : Int) ≤ 60))
noncomputable def l153_0_b (d : Nat) (l1 : List Int) (kx153_0_0 : Bool → Option Bool) (ag2 : (Bool × Int) → Option Bool) (b3 : Bool) (n4 : Int) : Option Bool :=
 oif (decide ((n4 : Int) < ((l1.length : Nat) : Int))) (
 oif (decide (0 ≤ (n4 : Int))) (
 obind (l1[(n4 : Int).toNat]?) fun n5 =>
 obind (g147 d n5) fun r6 =>
 oif (!r6) (
 some false) (
 ag2 (b3, (IntKind.i64.wrap (n4 + 1))))) none) (
 kx153_0_0 b3)
noncomputable def l153_0 (d : Nat) (l1 : List Int) (kx153_0_0 : Bool → Option Bool) (ag2 : (Bool × Int) → Option Bool) (s : (Bool × Int)) : Option Bool := l153_0_b d l1 kx153_0_0 ag2 s.1 s.2
theorem e153 (d : Nat) (l1 : List Int) : g153 (d + 1) l1 =
 iterP (l153_0 d l1 (j153_0 d l1)) fuelN (false, 0) := by kernel_rfl

noncomputable def j74_0 (d : Nat)  (l6 : List Int) : Option ((List Int) × Bool) :=
 some (l6, true)
noncomputable def l74_0_b (d : Nat) (x1 : (Int × Int × Int × Int)) (l3 : List Int) (kx74_0_0 : (List Int) → Option ((List Int) × Bool)) (ag5 : (Int × (List Int) × Int) → Option ((List Int) × Bool)) (n6 : Int) (l7 : List Int) (n8 : Int) : Option ((List Int) × Bool) :=
 oif (decide ((n8 : Int) < ((l3.length : Nat) : Int))) (
 oif (decide (0 ≤ (n8 : Int))) (
 obind (l3[(n8 : Int).toNat]?) fun n9 =>
 obind (g148 d x1 n6 n9) fun r10 =>
 oif (Nat.ble ((l7.length + [r10].length) * 8) roomMax) (
 ag5 (r10, (l7 ++ [r10]), (IntKind.i64.wrap (n8 + 1)))) none) none) (
 kx74_0_0 l7)
noncomputable def l74_0 (d : Nat) (x1 : (Int × Int × Int × Int)) (l3 : List Int) (kx74_0_0 : (List Int) → Option ((List Int) × Bool)) (ag5 : (Int × (List Int) × Int) → Option ((List Int) × Bool)) (s : (Int × (List Int) × Int)) : Option ((List Int) × Bool) := l74_0_b d x1 l3 kx74_0_0 ag5 s.1 s.2.1 s.2.2
noncomputable def j74_1 (d : Nat) (x1 : (Int × Int × Int × Int)) (n2 : Int) (l3 : List Int) (b4 : Bool) : Option ((List Int) × Bool) :=
 oif b4 (
 some ([], false)) (
 iterP (l74_0 d x1 l3 (j74_0 d)) fuelN (n2, ([] : List Int), 0))
theorem e74 (d : Nat) (x1 : (Int × Int × Int × Int)) (n2 : Int) (l3 : List Int) : g74 (d + 1) x1 n2 l3 =
 obind (g71 d x1) fun r4 =>
 oif (!r4) (
 j74_1 d x1 n2 l3 true) (
 obind (g146 d n2) fun r5 =>
 oif (!r5) (
 j74_1 d x1 n2 l3 true) (
 obind (g153 d l3) fun r6 =>
 j74_1 d x1 n2 l3 (!r6))) := by kernel_rfl

noncomputable def j172_0 (d : Nat)  (b5 : Bool) : Option Bool :=
 some true
noncomputable def l172_0_b (d : Nat) (l1 : List Int) (n2 : Int) (n3 : Int) (kx172_0_0 : Bool → Option Bool) (ag4 : (Bool × Int) → Option Bool) (b5 : Bool) (n6 : Int) : Option Bool :=
 oif (decide ((n6 : Int) < ((l1.length : Nat) : Int))) (
 oif (decide (0 ≤ (n6 : Int))) (
 obind (l1[(n6 : Int).toNat]?) fun n7 =>
 obind (g131 d n7 n2 n3) fun r8 =>
 oif (!r8) (
 some false) (
 ag4 (b5, (IntKind.i64.wrap (n6 + 1))))) none) (
 kx172_0_0 b5)
noncomputable def l172_0 (d : Nat) (l1 : List Int) (n2 : Int) (n3 : Int) (kx172_0_0 : Bool → Option Bool) (ag4 : (Bool × Int) → Option Bool) (s : (Bool × Int)) : Option Bool := l172_0_b d l1 n2 n3 kx172_0_0 ag4 s.1 s.2
theorem e172 (d : Nat) (l1 : List Int) (n2 : Int) (n3 : Int) : g172 (d + 1) l1 n2 n3 =
 iterP (l172_0 d l1 n2 n3 (j172_0 d)) fuelN (false, 0) := by kernel_rfl

theorem e154 (d : Nat) (l1 : List Int) : g154 (d + 1) l1 =
 oif (decide ((((l1.length : Nat) : Int) : Int) ≤ 60)) (
 obind (g172 d l1 0 60) fun r2 =>
 some r2) (
 some false) := by kernel_rfl

noncomputable def j75_0 (d : Nat)  (l6 : List Int) : Option ((List Int) × Bool) :=
 some (l6, true)
noncomputable def l75_0_b (d : Nat) (x1 : (Int × Int × Int × Int)) (l3 : List Int) (kx75_0_0 : (List Int) → Option ((List Int) × Bool)) (ag5 : (Int × (List Int) × Int) → Option ((List Int) × Bool)) (n6 : Int) (l7 : List Int) (n8 : Int) : Option ((List Int) × Bool) :=
 oif (decide ((n8 : Int) < ((l3.length : Nat) : Int))) (
 oif (decide (0 ≤ (n8 : Int))) (
 obind (l3[(n8 : Int).toNat]?) fun n9 =>
 obind (g151 d x1 n6 n9) fun r10 =>
 oif (Nat.ble ((l7.length + [r10].length) * 8) roomMax) (
 ag5 (r10, (l7 ++ [r10]), (IntKind.i64.wrap (n8 + 1)))) none) none) (
 kx75_0_0 l7)
noncomputable def l75_0 (d : Nat) (x1 : (Int × Int × Int × Int)) (l3 : List Int) (kx75_0_0 : (List Int) → Option ((List Int) × Bool)) (ag5 : (Int × (List Int) × Int) → Option ((List Int) × Bool)) (s : (Int × (List Int) × Int)) : Option ((List Int) × Bool) := l75_0_b d x1 l3 kx75_0_0 ag5 s.1 s.2.1 s.2.2
noncomputable def j75_1 (d : Nat) (x1 : (Int × Int × Int × Int)) (n2 : Int) (l3 : List Int) (b4 : Bool) : Option ((List Int) × Bool) :=
 oif b4 (
 some ([], false)) (
 iterP (l75_0 d x1 l3 (j75_0 d)) fuelN (n2, [], 0))
theorem e75 (d : Nat) (x1 : (Int × Int × Int × Int)) (n2 : Int) (l3 : List Int) : g75 (d + 1) x1 n2 l3 =
 obind (g149 d x1) fun r4 =>
 oif (!r4) (
 j75_1 d x1 n2 l3 true) (
 obind (g150 d n2) fun r5 =>
 oif (!r5) (
 j75_1 d x1 n2 l3 true) (
 obind (g154 d l3) fun r6 =>
 j75_1 d x1 n2 l3 (!r6))) := by kernel_rfl

noncomputable def j76_0 (d : Nat)  (b4 : Bool) : Option Bool :=
 some true
noncomputable def l76_0_b (d : Nat) (l1 : List Int) (l2 : List Int) (kx76_0_0 : Bool → Option Bool) (ag3 : (Bool × Int) → Option Bool) (b4 : Bool) (n5 : Int) : Option Bool :=
 oif (decide ((n5 : Int) < ((l1.length : Nat) : Int))) (
 oif (decide (0 ≤ (n5 : Int))) (
 obind (l1[(n5 : Int).toNat]?) fun n6 =>
 oif (decide (0 ≤ (n5 : Int))) (
 obind (l2[(n5 : Int).toNat]?) fun n7 =>
 oif ((n6 : Int) != n7) (
 some false) (
 ag3 (b4, (IntKind.i64.wrap (n5 + 1))))) none) none) (
 kx76_0_0 b4)
noncomputable def l76_0 (d : Nat) (l1 : List Int) (l2 : List Int) (kx76_0_0 : Bool → Option Bool) (ag3 : (Bool × Int) → Option Bool) (s : (Bool × Int)) : Option Bool := l76_0_b d l1 l2 kx76_0_0 ag3 s.1 s.2
theorem e76 (d : Nat) (l1 : List Int) (l2 : List Int) : g76 (d + 1) l1 l2 =
 oif ((((l1.length : Nat) : Int) : Int) != ((l2.length : Nat) : Int)) (
 some false) (
 iterP (l76_0 d l1 l2 (j76_0 d)) fuelN (false, 0)) := by kernel_rfl

theorem e77 (d : Nat) (l1 : List Int) : g77 (d + 1) l1 =
 obind (g144 d (l1, 0, 0)) fun r2 =>
 obind (g145 d r2.2) fun r3 =>
 some (r2.1, r3.1) := by kernel_rfl

noncomputable def j78i155_0 (d : Nat)  (n5 : Int) (b6 : Bool) : Option (Int × Bool) :=
 some (0, false)
noncomputable def l78i155_0_b (d : Nat) (x1 : (Int × Int × Int × Int)) (kx78i155_0_0 : Int → Bool → Option (Int × Bool)) (ag4 : (Int × Int × Bool × Int) → Option (Int × Bool)) (n5 : Int) (n6 : Int) (b7 : Bool) (n8 : Int) : Option (Int × Bool) :=
 oif (decide ((n8 : Int) ≤ 10000)) (
 oif (decide ((n5 : Int) < (IntKind.i64.wrap ((256 : Int) * x1.1)))) (
 some (n8, true)) (
 obind (g148 (d + 1) x1 n5 0) fun r9 =>
 ag4 (r9, n6, b7, (IntKind.i64.wrap (n8 + 1))))) (
 kx78i155_0_0 n6 b7)
noncomputable def l78i155_0 (d : Nat) (x1 : (Int × Int × Int × Int)) (kx78i155_0_0 : Int → Bool → Option (Int × Bool)) (ag4 : (Int × Int × Bool × Int) → Option (Int × Bool)) (s : (Int × Int × Bool × Int)) : Option (Int × Bool) := l78i155_0_b d x1 kx78i155_0_0 ag4 s.1 s.2.1 s.2.2.1 s.2.2.2
noncomputable def j78_0 (d : Nat) (x1 : (Int × Int × Int × Int)) (n2 : Int) (b3 : Bool) : Option (Int × Bool) :=
 oif b3 (
 some (0, false)) (
 iterP (l78i155_0 d x1 (j78i155_0 d)) fuelN (n2, 0, false, 0))
theorem e78 (d : Nat) (x1 : (Int × Int × Int × Int)) (n2 : Int) : g78 (d + 3) x1 n2 =
 obind (g71 (d + 2) x1) fun r3 =>
 oif (!r3) (
 j78_0 d x1 n2 true) (
 obind (g146 (d + 2) n2) fun r4 =>
 j78_0 d x1 n2 (!r4)) := by kernel_rfl

noncomputable def j157_0 (d : Nat)  (n7 : Int) : Option Int :=
 some (-1)
noncomputable def l157_0_b (d : Nat) (x1 : (Int × Int × Int × Int)) (n3 : Int) (n4 : Int) (b5 : Bool) (kx157_0_0 : Int → Option Int) (ag6 : (Int × Int × Int) → Option Int) (n7 : Int) (n8 : Int) (n9 : Int) : Option Int :=
 oif (decide ((n9 : Int) ≤ 10000)) (
 oif ((decide ((n7 : Int) ≥ n4)) == b5) (
 some n9) (
 obind (g151 d x1 n7 n3) fun r10 =>
 ag6 (r10, n8, (IntKind.i64.wrap (n9 + 1))))) (
 kx157_0_0 n8)
noncomputable def l157_0 (d : Nat) (x1 : (Int × Int × Int × Int)) (n3 : Int) (n4 : Int) (b5 : Bool) (kx157_0_0 : Int → Option Int) (ag6 : (Int × Int × Int) → Option Int) (s : (Int × Int × Int)) : Option Int := l157_0_b d x1 n3 n4 b5 kx157_0_0 ag6 s.1 s.2.1 s.2.2
theorem e157 (d : Nat) (x1 : (Int × Int × Int × Int)) (n2 : Int) (n3 : Int) (n4 : Int) (b5 : Bool) : g157 (d + 1) x1 n2 n3 n4 b5 =
 iterP (l157_0 d x1 n3 n4 b5 (j157_0 d)) fuelN (n2, 0, 0) := by kernel_rfl

noncomputable def j79_0 (d : Nat) (x1 : (Int × Int × Int × Int)) (n2 : Int) (b3 : Bool) : Option (Int × Bool) :=
 oif b3 (
 some (0, false)) (
 obind (g157 d x1 n2 0 (IntKind.i64.wrap ((256 : Int) * x1.1)) false) fun r4 =>
 oif (decide ((r4 : Int) < 0)) (
 some (0, false)) (
 some (r4, true)))
theorem e79 (d : Nat) (x1 : (Int × Int × Int × Int)) (n2 : Int) : g79 (d + 1) x1 n2 =
 obind (g149 d x1) fun r3 =>
 oif (!r3) (
 j79_0 d x1 n2 true) (
 obind (g150 d n2) fun r4 =>
 j79_0 d x1 n2 (!r4)) := by kernel_rfl

theorem e158 (d : Nat) (l1 : List Int) : g158 (d + 1) l1 =
 obind (g144 d (l1, 0, 0)) fun r2 =>
 some r2.1 := by kernel_rfl

theorem e80 (d : Nat) (l1 : List Int) : g80 (d + 1) l1 =
 obind (g158 d l1) fun r2 =>
 some r2 := by kernel_rfl

noncomputable def j81i155_0 (d : Nat)  (n4 : Int) (b5 : Bool) : Option (Int × Bool) :=
 some (0, false)
noncomputable def l81i155_0_b (d : Nat) (x1 : (Int × Int × Int × Int)) (kx81i155_0_0 : Int → Bool → Option (Int × Bool)) (ag3 : (Int × Int × Bool × Int) → Option (Int × Bool)) (n4 : Int) (n5 : Int) (b6 : Bool) (n7 : Int) : Option (Int × Bool) :=
 oif (decide ((n7 : Int) ≤ 10000)) (
 oif (decide ((n4 : Int) ≥ (IntKind.i64.wrap ((256 : Int) * x1.2.1)))) (
 some (n7, true)) (
 obind (g148 (d + 1) x1 n4 60) fun r8 =>
 ag3 (r8, n5, b6, (IntKind.i64.wrap (n7 + 1))))) (
 kx81i155_0_0 n5 b6)
noncomputable def l81i155_0 (d : Nat) (x1 : (Int × Int × Int × Int)) (kx81i155_0_0 : Int → Bool → Option (Int × Bool)) (ag3 : (Int × Int × Bool × Int) → Option (Int × Bool)) (s : (Int × Int × Bool × Int)) : Option (Int × Bool) := l81i155_0_b d x1 kx81i155_0_0 ag3 s.1 s.2.1 s.2.2.1 s.2.2.2
theorem e81 (d : Nat) (x1 : (Int × Int × Int × Int)) : g81 (d + 3) x1 =
 obind (g71 (d + 2) x1) fun r2 =>
 oif (!r2) (
 some (0, false)) (
 iterP (l81i155_0 d x1 (j81i155_0 d)) fuelN (0, 0, false, 0)) := by kernel_rfl

theorem e82 (d : Nat) (x1 : (Int × Int × Int × Int)) : g82 (d + 1) x1 =
 obind (g149 d x1) fun r2 =>
 oif (!r2) (
 some (0, false)) (
 obind (g157 d x1 0 60 (IntKind.i64.wrap ((256 : Int) * x1.2.1)) true) fun r3 =>
 oif (decide ((r3 : Int) < 0)) (
 some (0, false)) (
 some (r3, true))) := by kernel_rfl

noncomputable def j7_0 (d : Nat) (r14 : ((Int × Int × Int × Int) × Int)) (r15 : (Int × Bool)) (r16 : (Int × Bool))  : Option Bool :=
 oif (!r15.2) (
 some true) (
 oif (decide ((r16.1 : Int) > 0)) (
 some true) (
 some (decide ((r14.2 : Int) < (IntKind.i64.wrap ((256 : Int) * r14.1.1))))))
noncomputable def j7_1 (d : Nat) (r14 : ((Int × Int × Int × Int) × Int)) (r15 : (Int × Bool)) (r16 : (Int × Bool)) (b21 : Bool) : Option Bool :=
 oif b21 (
 oif (decide (0 ≤ (r16.1 : Int))) (
 oif (decide (0 ≤ (r16.1 : Int))) (
 oif (Nat.ble ((r16.1 : Int).toNat) ((r16.1 : Int).toNat) && Nat.ble (((r16.1 : Int).toNat) * 8) roomMax) (
 obind (g74 d r14.1 r14.2 (List.replicate ((r16.1 : Int).toNat) (0 : Int))) fun r22 =>
 oif (!r22.2) (
 some false) (
 oif ((((r22.1.length : Nat) : Int) : Int) != r16.1) (
 some false) (
 oif (decide (0 ≤ ((IntKind.i64.wrap (r16.1 - 1)) : Int))) (
 oif (Nat.blt (((IntKind.i64.wrap (r16.1 - 1)) : Int).toNat) r22.1.length) (
 obind (r22.1[((IntKind.i64.wrap (r16.1 - 1)) : Int).toNat]?) fun n23 =>
 oif (decide ((n23 : Int) ≥ (IntKind.i64.wrap ((256 : Int) * r14.1.1)))) (
 some false) (
 oif (decide ((r16.1 : Int) > 1)) (
 oif (decide (0 ≤ ((IntKind.i64.wrap (r16.1 - 2)) : Int))) (
 oif (Nat.blt (((IntKind.i64.wrap (r16.1 - 2)) : Int).toNat) r22.1.length) (
 obind (r22.1[((IntKind.i64.wrap (r16.1 - 2)) : Int).toNat]?) fun n24 =>
 oif (decide ((n24 : Int) < (IntKind.i64.wrap ((256 : Int) * r14.1.1)))) (
 some false) (
 j7_0 d r14 r15 r16)) none) none) (
 j7_0 d r14 r15 r16))) none) none))) none) none) none) (
 j7_0 d r14 r15 r16)
noncomputable def j7_2 (d : Nat) (r14 : ((Int × Int × Int × Int) × Int)) (r15 : (Int × Bool)) (r16 : (Int × Bool)) (b20 : Bool) : Option Bool :=
 oif b20 (
 some false) (
 oif r15.2 (
 oif (decide ((r16.1 : Int) > 0)) (
 j7_1 d r14 r15 r16 (decide ((r16.1 : Int) ≤ 60))) (
 j7_1 d r14 r15 r16 false)) (
 j7_1 d r14 r15 r16 false))
noncomputable def j7_3 (d : Nat) (l2 : List Int) (b13 : Bool) : Option Bool :=
 obind (g77 d l2) fun r14 =>
 obind (g78 d r14.1 r14.2) fun r15 =>
 obind (g79 d r14.1 r14.2) fun r16 =>
 obind (g80 d l2) fun r17 =>
 obind (g81 d r17) fun r18 =>
 obind (g82 d r17) fun r19 =>
 oif (!(r15.2 == r16.2)) (
 j7_2 d r14 r15 r16 true) (
 oif ((r15.1 : Int) != r16.1) (
 j7_2 d r14 r15 r16 true) (
 oif (!(r18.2 == r19.2)) (
 j7_2 d r14 r15 r16 true) (
 j7_2 d r14 r15 r16 ((r18.1 : Int) != r19.1))))
noncomputable def j7_4 (d : Nat) (l2 : List Int) (b14 : Bool) : Option Bool :=
 j7_3 d l2 b14
noncomputable def j7_5 (d : Nat) (r11 : ((List Int) × Bool)) (ag13 : (Bool × Int × Int) → Option Bool) (b14 : Bool) (n16 : Int) (b19 : Bool) (b20 : Bool) : Option Bool :=
 oif b20 (
 some false) (
 oif (decide (0 ≤ (n16 : Int))) (
 oif (Nat.blt ((n16 : Int).toNat) r11.1.length) (
 obind (r11.1[(n16 : Int).toNat]?) fun n21 =>
 ag13 (b14, n21, (IntKind.i64.wrap (n16 + 1)))) none) none)
noncomputable def l7_0_b (d : Nat) (r9 : ((Int × Int × Int × Int) × Int × (List Int))) (r11 : ((List Int) × Bool)) (kx7_0_0 : Bool → Option Bool) (ag13 : (Bool × Int × Int) → Option Bool) (b14 : Bool) (n15 : Int) (n16 : Int) : Option Bool :=
 oif (decide ((n16 : Int) < ((r9.2.2.length : Nat) : Int))) (
 oif (decide (0 ≤ (n16 : Int))) (
 oif (Nat.blt ((n16 : Int).toNat) r9.2.2.length) (
 obind (r9.2.2[(n16 : Int).toNat]?) fun n17 =>
 obind (g69 d r9.1 n15 n17) fun r18 =>
 oif (!r18.2) (
 j7_5 d r11 ag13 b14 n16 true true) (
 oif (decide (0 ≤ (n16 : Int))) (
 oif (Nat.blt ((n16 : Int).toNat) r11.1.length) (
 obind (r11.1[(n16 : Int).toNat]?) fun n19 =>
 j7_5 d r11 ag13 b14 n16 false ((r18.1 : Int) != n19)) none) none)) none) none) (
 kx7_0_0 b14)
noncomputable def l7_0 (d : Nat) (r9 : ((Int × Int × Int × Int) × Int × (List Int))) (r11 : ((List Int) × Bool)) (kx7_0_0 : Bool → Option Bool) (ag13 : (Bool × Int × Int) → Option Bool) (s : (Bool × Int × Int)) : Option Bool := l7_0_b d r9 r11 kx7_0_0 ag13 s.1 s.2.1 s.2.2
noncomputable def j7_6 (d : Nat) (l2 : List Int) (r9 : ((Int × Int × Int × Int) × Int × (List Int))) (r10 : ((List Int) × Bool)) (r11 : ((List Int) × Bool)) (b12 : Bool) : Option Bool :=
 oif b12 (
 some false) (
 oif r10.2 (
 iterP (l7_0 d r9 r11 (j7_4 d l2)) fuelN (false, r9.2.1, 0)) (
 j7_3 d l2 false))
noncomputable def j7_7 (d : Nat) (l2 : List Int) (b8 : Bool) : Option Bool :=
 oif b8 (
 some false) (
 obind (g73 d l2) fun r9 =>
 obind (g74 d r9.1 r9.2.1 r9.2.2) fun r10 =>
 obind (g75 d r9.1 r9.2.1 r9.2.2) fun r11 =>
 oif (!(r10.2 == r11.2)) (
 j7_6 d l2 r9 r10 r11 true) (
 obind (g76 d r10.1 r11.1) fun r12 =>
 j7_6 d l2 r9 r10 r11 (!r12)))
noncomputable def j7_8 (d : Nat) (l2 : List Int) (r4 : ((Int × Int × Int × Int) × Int × Int)) (r5 : (Int × Bool)) (r6 : (Int × Bool)) (b7 : Bool) : Option Bool :=
 oif b7 (
 some false) (
 oif r5.2 (
 oif (decide ((r6.1 : Int) < 0)) (
 j7_7 d l2 true) (
 oif (decide ((r6.1 : Int) > 15360)) (
 j7_7 d l2 true) (
 oif (decide ((r4.2.1 : Int) ≤ (IntKind.i64.wrap ((256 : Int) * r4.2.2)))) (
 oif (decide ((r6.1 : Int) < r4.2.1)) (
 j7_7 d l2 true) (
 oif (decide ((r6.1 : Int) > (IntKind.i64.wrap ((256 : Int) * r4.2.2)))) (
 j7_7 d l2 true) (
 oif (decide ((r4.2.1 : Int) ≥ (IntKind.i64.wrap ((256 : Int) * r4.2.2)))) (
 oif (decide ((r6.1 : Int) > r4.2.1)) (
 j7_7 d l2 true) (
 j7_7 d l2 (decide ((r6.1 : Int) < (IntKind.i64.wrap ((256 : Int) * r4.2.2)))))) (
 j7_7 d l2 false)))) (
 oif (decide ((r4.2.1 : Int) ≥ (IntKind.i64.wrap ((256 : Int) * r4.2.2)))) (
 oif (decide ((r6.1 : Int) > r4.2.1)) (
 j7_7 d l2 true) (
 j7_7 d l2 (decide ((r6.1 : Int) < (IntKind.i64.wrap ((256 : Int) * r4.2.2)))))) (
 j7_7 d l2 false))))) (
 j7_7 d l2 false))
theorem e7 (d : Nat) (l1 : List Int) (l2 : List Int) : g7 (d + 1) l1 l2 =
 obind (g67 d l1 l2) fun r3 =>
 oif r3 (
 some true) (
 obind (g68 d l1) fun r4 =>
 obind (g69 d r4.1 r4.2.1 r4.2.2) fun r5 =>
 obind (g70 d r4.1 r4.2.1 r4.2.2) fun r6 =>
 oif (!(r5.2 == r6.2)) (
 j7_8 d l2 r4 r5 r6 true) (
 oif ((r5.1 : Int) != r6.1) (
 j7_8 d l2 r4 r5 r6 true) (
 obind (g71 d r4.1) fun r7 =>
 obind (g72 d r4.1) fun r8 =>
 j7_8 d l2 r4 r5 r6 (!(r7 == r8))))) := by kernel_rfl

end Go.Proofs.Ytngofhppopgicaa
