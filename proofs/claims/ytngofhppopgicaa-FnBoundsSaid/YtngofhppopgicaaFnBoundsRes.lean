/-
  The residual forms of the program's functions under the interpreter by value, printed by program (wip/pv/gen2.py); each equation is checked by the kernel.
  Conditions: none.
-/
import Derived.Test.YtngofhppopgicaaVDef
import Derived.Test.YtngofhppopgicaaProg
import Derived.KernelRfl
set_option linter.all false
set_option maxRecDepth 1000000
namespace Go.Proofs.Ytngofhppopgicaa
open Go.Ev Go.Pv

theorem fuel_is : ∃ n : Nat, n = 4194304 := ⟨_, rfl⟩
noncomputable def fuelN : Nat := Classical.choose fuel_is
theorem fuelN_eq : fuelN = 4194304 := Classical.choose_spec fuel_is
def pvSig : FuncId → Sig
  | 8 => ⟨[(.ro, (.sl (.int .u8))), (.ro, (.sl (.int .u8)))], [(false, .bool)]⟩
  | 67 => ⟨[(.ro, (.sl (.int .u8))), (.ro, (.sl (.int .u8)))], [(false, .bool)]⟩
  | 83 => ⟨[(.ro, (.sl (.int .u8)))], [(false, (.pair (.int .i64) (.int .i64))), (false, (.pair (.int .i64) (.int .i64)))]⟩
  | 84 => ⟨[(.ro, (.pair (.int .i64) (.int .i64))), (.ro, (.pair (.int .i64) (.int .i64)))], [(false, (.int .i64)), (false, .bool)]⟩
  | 85 => ⟨[(.ro, (.pair (.int .i64) (.int .i64))), (.ro, (.pair (.int .i64) (.int .i64)))], [(false, (.int .i64)), (false, .bool)]⟩
  | 86 => ⟨[(.ro, (.pair (.int .i64) (.int .i64))), (.ro, (.pair (.int .i64) (.int .i64)))], [(false, (.int .i64)), (false, .bool)]⟩
  | 87 => ⟨[(.ro, (.pair (.int .i64) (.int .i64))), (.ro, (.pair (.int .i64) (.int .i64)))], [(false, (.int .i64)), (false, .bool)]⟩
  | 88 => ⟨[(.ro, (.pair (.int .i64) (.int .i64)))], [(false, .bool)]⟩
  | 89 => ⟨[(.ro, (.pair (.int .i64) (.int .i64)))], [(false, .bool)]⟩
  | 90 => ⟨[(.ro, (.pair (.int .i64) (.int .i64)))], [(false, .bool)]⟩
  | 91 => ⟨[(.ro, (.pair (.int .i64) (.int .i64)))], [(false, .bool)]⟩
  | 92 => ⟨[(.ro, (.pair (.int .i64) (.int .i64))), (.ro, (.pair (.int .i64) (.int .i64))), (.ro, (.int .i64))], [(false, (.int .i64)), (false, .bool)]⟩
  | 93 => ⟨[(.ro, (.pair (.int .i64) (.int .i64))), (.ro, (.pair (.int .i64) (.int .i64))), (.ro, (.int .i64))], [(false, (.int .i64)), (false, .bool)]⟩
  | 94 => ⟨[(.ro, (.pair (.int .i64) (.int .i64))), (.ro, (.pair (.int .i64) (.int .i64)))], [(false, (.pair (.int .i64) (.int .i64))), (false, .bool)]⟩
  | 95 => ⟨[(.ro, (.pair (.int .i64) (.int .i64))), (.ro, (.pair (.int .i64) (.int .i64)))], [(false, (.pair (.int .i64) (.int .i64))), (false, .bool)]⟩
  | 96 => ⟨[(.ro, (.sl (.int .u8)))], [(false, (.pair (.int .i64) (.int .i64))), (false, (.pair (.int .i64) (.int .i64)))]⟩
  | 97 => ⟨[(.ro, (.pair (.int .i64) (.int .i64))), (.ro, (.pair (.int .i64) (.int .i64)))], [(false, (.pair (.int .i64) (.int .i64))), (false, .bool)]⟩
  | 98 => ⟨[(.ro, (.pair (.int .i64) (.int .i64))), (.ro, (.pair (.int .i64) (.int .i64)))], [(false, (.pair (.int .i64) (.int .i64))), (false, .bool)]⟩
  | 99 => ⟨[(.ro, (.sl (.int .u8)))], [(true, (.sl (.pair (.int .i64) (.int .i64))))]⟩
  | 100 => ⟨[(.ro, (.sl (.pair (.int .i64) (.int .i64))))], [(false, (.pair (.int .i64) (.int .i64))), (false, .bool)]⟩
  | 101 => ⟨[(.ro, (.sl (.pair (.int .i64) (.int .i64))))], [(false, (.pair (.int .i64) (.int .i64))), (false, .bool)]⟩
  | 102 => ⟨[(.ro, (.sl (.int .u8)))], [(false, (.pair (.int .i64) (.int .i64))), (false, (.pair (.int .i64) (.int .i64))), (false, (.int .i64))]⟩
  | 115 => ⟨[(.ps, (.pair (.sl (.int .u8)) (.pair (.int .i64) (.int .u64)))), (.ro, (.sl (.int .i64)))], [(false, (.int .i64))]⟩
  | 120 => ⟨[(.ps, (.pair (.sl (.int .u8)) (.pair (.int .i64) (.int .u64)))), (.ro, (.int .i64))], [(false, (.int .i64))]⟩
  | 131 => ⟨[(.ro, (.int .i64)), (.ro, (.int .i64)), (.ro, (.int .i64))], [(false, .bool)]⟩
  | 141 => ⟨[(.ps, (.pair (.sl (.int .u8)) (.pair (.int .i64) (.int .u64)))), (.ro, (.int .i64))], [(false, .bool)]⟩
  | 160 => ⟨[(.ps, (.pair (.sl (.int .u8)) (.pair (.int .i64) (.int .u64))))], [(false, (.pair (.int .i64) (.int .i64)))]⟩
  | 161 => ⟨[(.ps, (.pair (.sl (.int .u8)) (.pair (.int .i64) (.int .u64))))], [(false, (.pair (.int .i64) (.int .i64)))]⟩
  | 162 => ⟨[(.ro, (.pair (.int .i64) (.int .i64))), (.ro, (.pair (.int .i64) (.int .i64)))], [(false, .bool)]⟩
  | 163 => ⟨[(.ro, (.pair (.int .i64) (.int .i64))), (.ro, (.pair (.int .i64) (.int .i64)))], [(false, .bool)]⟩
  | 164 => ⟨[(.ro, (.pair (.int .i64) (.int .i64))), (.ro, (.pair (.int .i64) (.int .i64)))], [(false, (.int .i64))]⟩
  | 165 => ⟨[(.ro, (.int .i64)), (.ro, (.int .i64))], [(false, (.int .i64))]⟩
  | 166 => ⟨[(.ro, (.pair (.int .i64) (.int .i64))), (.ro, (.pair (.int .i64) (.int .i64)))], [(false, (.int .i64))]⟩
  | 167 => ⟨[(.ro, (.pair (.int .i64) (.int .i64)))], [(false, .bool)]⟩
  | 168 => ⟨[(.ro, (.pair (.int .i64) (.int .i64)))], [(false, .bool)]⟩
  | 169 => ⟨[(.ro, (.int .i64)), (.ro, (.int .i64))], [(false, (.int .i64))]⟩
  | 170 => ⟨[(.ro, (.pair (.int .i64) (.int .i64)))], [(false, (.pair (.int .i64) (.int .i64))), (false, .bool)]⟩
  | 171 => ⟨[(.ro, (.int .i64)), (.ro, (.int .i64))], [(false, (.int .i64))]⟩
  | 173 => ⟨[(.ps, (.pair (.sl (.int .u8)) (.pair (.int .i64) (.int .u64))))], [(false, (.int .i64))]⟩
  | _ => ⟨[], []⟩
def pvLoops : FuncId → Nat → LoopA
  | 8, 0 => ⟨[(4, false, .bool), (112, false, (.int .i64))], [], [], []⟩
  | 99, 0 => ⟨[(4, true, (.sl (.pair (.int .i64) (.int .i64)))), (5, false, (.int .i64))], [(3, (.pair (.sl (.int .u8)) (.pair (.int .i64) (.int .u64))))], [], []⟩
  | 100, 0 => ⟨[(3, false, .bool), (19, false, (.int .i64))], [(4, (.pair (.int .i64) (.int .i64)))], [], []⟩
  | 101, 0 => ⟨[(3, false, .bool), (10, false, (.int .i64))], [(4, (.pair (.int .i64) (.int .i64)))], [], []⟩
  | _, _ => ⟨[], [], [], []⟩
def pvEloops : FuncId → Nat → List (Nat × Value)
  | 8, 0 => [(1, (.slice none 0 0)), (4, (.bool false)), (5, (.pointer (some ⟨0, 0, none⟩))), (6, (.pointer (some ⟨0, 0, none⟩))), (9, (.int .i64 0)), (110, (.slice none 0 0)), (111, (.int .i64 0)), (112, (.int .i64 0))]
  | 99, 0 => [(2, (.slice none 0 0)), (3, (.pointer (some ⟨0, 0, none⟩))), (4, (.slice none 0 0)), (5, (.int .i64 0))]
  | 100, 0 => [(2, (.pointer (some ⟨0, 0, none⟩))), (3, (.bool false)), (4, (.pointer (some ⟨0, 0, none⟩))), (17, (.slice none 0 0)), (18, (.int .i64 0)), (19, (.int .i64 0))]
  | 101, 0 => [(0, (.slice none 0 0)), (2, (.pointer (some ⟨0, 0, none⟩))), (3, (.bool false)), (4, (.pointer (some ⟨0, 0, none⟩))), (8, (.slice none 0 0)), (9, (.int .i64 0)), (10, (.int .i64 0))]
  | _, _ => []
def pvInline : FuncId → Bool

  | _ => false
noncomputable def pvAnn : AnnV := ⟨fuelN, pvSig, pvLoops, pvEloops, pvInline⟩

/-- loop.example/g00838/laws.big -/
noncomputable def g67 (d : Nat) (l1 : List Int) (l2 : List Int) : Option Bool := (lev Try.prog pvAnn d).call 67 (l1, l2)
/-- (*loop.example/g00838/spec.l1Cur).next -/
noncomputable def g173 (d : Nat) (x1 : ((List Int) × Int × Int)) : Option (Int × ((List Int) × Int × Int)) := (lev Try.prog pvAnn d).call 173 (x1)
/-- (*loop.example/g00838/spec.l1Cur).pick -/
noncomputable def g120 (d : Nat) (x1 : ((List Int) × Int × Int)) (n2 : Int) : Option (Int × ((List Int) × Int × Int)) := (lev Try.prog pvAnn d).call 120 (x1, n2)
/-- (*loop.example/g00838/spec.l1Cur).among -/
noncomputable def g115 (d : Nat) (x1 : ((List Int) × Int × Int)) (l2 : List Int) : Option (Int × ((List Int) × Int × Int)) := (lev Try.prog pvAnn d).call 115 (x1, l2)
/-- (*loop.example/g00838/spec.l1Cur).inflow -/
noncomputable def g160 (d : Nat) (x1 : ((List Int) × Int × Int)) : Option ((Int × Int) × ((List Int) × Int × Int)) := (lev Try.prog pvAnn d).call 160 (x1)
/-- (*loop.example/g00838/spec.l1Cur).service -/
noncomputable def g161 (d : Nat) (x1 : ((List Int) × Int × Int)) : Option ((Int × Int) × ((List Int) × Int × Int)) := (lev Try.prog pvAnn d).call 161 (x1)
/-- loop.example/g00838/spec.DrawBacklogBound -/
noncomputable def g83 (d : Nat) (l1 : List Int) : Option ((Int × Int) × (Int × Int)) := (lev Try.prog pvAnn d).call 83 (l1)
/-- loop.example/g00838/impl.IsInflow -/
noncomputable def g88 (d : Nat) (x1 : (Int × Int)) : Option Bool := (lev Try.prog pvAnn d).call 88 (x1)
/-- loop.example/g00838/impl.IsService -/
noncomputable def g90 (d : Nat) (x1 : (Int × Int)) : Option Bool := (lev Try.prog pvAnn d).call 90 (x1)
/-- loop.example/g00838/impl.bearable -/
noncomputable def g162 (d : Nat) (x1 : (Int × Int)) (x2 : (Int × Int)) : Option Bool := (lev Try.prog pvAnn d).call 162 (x1, x2)
/-- loop.example/g00838/impl.BacklogBound -/
noncomputable def g84 (d : Nat) (x1 : (Int × Int)) (x2 : (Int × Int)) : Option (Int × Bool) := (lev Try.prog pvAnn d).call 84 (x1, x2)
/-- loop.example/g00838/spec.l1In -/
noncomputable def g131 (d : Nat) (n1 : Int) (n2 : Int) (n3 : Int) : Option Bool := (lev Try.prog pvAnn d).call 131 (n1, n2, n3)
/-- loop.example/g00838/spec.bnInflow -/
noncomputable def g167 (d : Nat) (x1 : (Int × Int)) : Option Bool := (lev Try.prog pvAnn d).call 167 (x1)
/-- loop.example/g00838/spec.bnService -/
noncomputable def g168 (d : Nat) (x1 : (Int × Int)) : Option Bool := (lev Try.prog pvAnn d).call 168 (x1)
/-- loop.example/g00838/spec.bnBoth -/
noncomputable def g163 (d : Nat) (x1 : (Int × Int)) (x2 : (Int × Int)) : Option Bool := (lev Try.prog pvAnn d).call 163 (x1, x2)
/-- loop.example/g00838/spec.bnBacklog -/
noncomputable def g164 (d : Nat) (x1 : (Int × Int)) (x2 : (Int × Int)) : Option Int := (lev Try.prog pvAnn d).call 164 (x1, x2)
/-- loop.example/g00838/spec.BacklogBound -/
noncomputable def g85 (d : Nat) (x1 : (Int × Int)) (x2 : (Int × Int)) : Option (Int × Bool) := (lev Try.prog pvAnn d).call 85 (x1, x2)
/-- loop.example/g00838/impl.divideUp -/
noncomputable def g165 (d : Nat) (n1 : Int) (n2 : Int) : Option Int := (lev Try.prog pvAnn d).call 165 (n1, n2)
/-- loop.example/g00838/impl.DelayBound -/
noncomputable def g86 (d : Nat) (x1 : (Int × Int)) (x2 : (Int × Int)) : Option (Int × Bool) := (lev Try.prog pvAnn d).call 86 (x1, x2)
/-- loop.example/g00838/spec.bnUp -/
noncomputable def g171 (d : Nat) (n1 : Int) (n2 : Int) : Option Int := (lev Try.prog pvAnn d).call 171 (n1, n2)
/-- loop.example/g00838/spec.bnDelay -/
noncomputable def g166 (d : Nat) (x1 : (Int × Int)) (x2 : (Int × Int)) : Option Int := (lev Try.prog pvAnn d).call 166 (x1, x2)
/-- loop.example/g00838/spec.DelayBound -/
noncomputable def g87 (d : Nat) (x1 : (Int × Int)) (x2 : (Int × Int)) : Option (Int × Bool) := (lev Try.prog pvAnn d).call 87 (x1, x2)
/-- loop.example/g00838/spec.IsInflow -/
noncomputable def g89 (d : Nat) (x1 : (Int × Int)) : Option Bool := (lev Try.prog pvAnn d).call 89 (x1)
/-- loop.example/g00838/spec.IsService -/
noncomputable def g91 (d : Nat) (x1 : (Int × Int)) : Option Bool := (lev Try.prog pvAnn d).call 91 (x1)
/-- loop.example/g00838/impl.GreedyBacklog -/
noncomputable def g92 (d : Nat) (x1 : (Int × Int)) (x2 : (Int × Int)) (n3 : Int) : Option (Int × Bool) := (lev Try.prog pvAnn d).call 92 (x1, x2, n3)
/-- loop.example/g00838/spec.l1Most -/
noncomputable def g169 (d : Nat) (n1 : Int) (n2 : Int) : Option Int := (lev Try.prog pvAnn d).call 169 (n1, n2)
/-- loop.example/g00838/spec.GreedyBacklog -/
noncomputable def g93 (d : Nat) (x1 : (Int × Int)) (x2 : (Int × Int)) (n3 : Int) : Option (Int × Bool) := (lev Try.prog pvAnn d).call 93 (x1, x2, n3)
/-- loop.example/g00838/impl.OutputInflow -/
noncomputable def g94 (d : Nat) (x1 : (Int × Int)) (x2 : (Int × Int)) : Option ((Int × Int) × Bool) := (lev Try.prog pvAnn d).call 94 (x1, x2)
/-- loop.example/g00838/spec.bnIf -/
noncomputable def g170 (d : Nat) (x1 : (Int × Int)) : Option ((Int × Int) × Bool) := (lev Try.prog pvAnn d).call 170 (x1)
/-- loop.example/g00838/spec.OutputInflow -/
noncomputable def g95 (d : Nat) (x1 : (Int × Int)) (x2 : (Int × Int)) : Option ((Int × Int) × Bool) := (lev Try.prog pvAnn d).call 95 (x1, x2)
/-- (*loop.example/g00838/spec.l1Cur).one -/
noncomputable def g141 (d : Nat) (x1 : ((List Int) × Int × Int)) (n2 : Int) : Option (Bool × ((List Int) × Int × Int)) := (lev Try.prog pvAnn d).call 141 (x1, n2)
/-- loop.example/g00838/spec.DrawLeftoverService -/
noncomputable def g96 (d : Nat) (l1 : List Int) : Option ((Int × Int) × (Int × Int)) := (lev Try.prog pvAnn d).call 96 (l1)
/-- loop.example/g00838/impl.LeftoverService -/
noncomputable def g97 (d : Nat) (x1 : (Int × Int)) (x2 : (Int × Int)) : Option ((Int × Int) × Bool) := (lev Try.prog pvAnn d).call 97 (x1, x2)
/-- loop.example/g00838/spec.LeftoverService -/
noncomputable def g98 (d : Nat) (x1 : (Int × Int)) (x2 : (Int × Int)) : Option ((Int × Int) × Bool) := (lev Try.prog pvAnn d).call 98 (x1, x2)
/-- loop.example/g00838/spec.DrawAddInflows -/
noncomputable def g99 (d : Nat) (l1 : List Int) : Option (List (Int × Int)) := (lev Try.prog pvAnn d).call 99 (l1)
/-- loop.example/g00838/impl.AddInflows -/
noncomputable def g100 (d : Nat) (l1 : List (Int × Int)) : Option ((Int × Int) × Bool) := (lev Try.prog pvAnn d).call 100 (l1)
/-- loop.example/g00838/spec.AddInflows -/
noncomputable def g101 (d : Nat) (l1 : List (Int × Int)) : Option ((Int × Int) × Bool) := (lev Try.prog pvAnn d).call 101 (l1)
/-- loop.example/g00838/spec.DrawGreedyBacklog -/
noncomputable def g102 (d : Nat) (l1 : List Int) : Option ((Int × Int) × (Int × Int) × Int) := (lev Try.prog pvAnn d).call 102 (l1)
/-- loop.example/g00838/laws.FnBounds -/
noncomputable def g8 (d : Nat) (l1 : List Int) (l2 : List Int) : Option Bool := (lev Try.prog pvAnn d).call 8 (l1, l2)

theorem e67 (d : Nat) (l1 : List Int) (l2 : List Int) : g67 (d + 1) l1 l2 =
 oif (decide ((((l1.length : Nat) : Int) : Int) > 1048576)) (
 some true) (
 some (decide ((((l2.length : Nat) : Int) : Int) > (IntKind.i64.wrap ((1048576 : Int) - ((l1.length : Nat) : Int)))))) := by kernel_rfl

noncomputable def j173_0 (d : Nat) (x1 : ((List Int) × Int × Int)) (n2 : Int) : Option (Int × ((List Int) × Int × Int)) :=
 oif (decide (((IntKind.i64.wrap (x1.2.1 + 1)) : Int) ≤ ((x1.1.length : Nat) : Int))) (
 some (n2, (x1.1, (IntKind.i64.wrap (x1.2.1 + 1)), (IntKind.u64.wrap ((IntKind.u64.wrap ((IntKind.u64.wrap (x1.2.2 * 6364136223846793005)) + (IntKind.u64.wrap n2))) + 1442695040888963407))))) (
 some ((IntKind.i64.wrap (IntKind.u64.wrap ((BitVec.ofInt IntKind.u64.bits ((IntKind.u64.wrap ((IntKind.u64.wrap ((IntKind.u64.wrap (x1.2.2 * 6364136223846793005)) + (IntKind.u64.wrap n2))) + 1442695040888963407)).fdiv (2 ^ (min (40 : Int).toNat IntKind.u64.bits))) &&& BitVec.ofInt IntKind.u64.bits 255).toNat : Int))), (x1.1, (IntKind.i64.wrap (x1.2.1 + 1)), (IntKind.u64.wrap ((IntKind.u64.wrap ((IntKind.u64.wrap (x1.2.2 * 6364136223846793005)) + (IntKind.u64.wrap n2))) + 1442695040888963407)))))
theorem e173 (d : Nat) (x1 : ((List Int) × Int × Int)) : g173 (d + 1) x1 =
 oif (decide ((x1.2.1 : Int) < ((x1.1.length : Nat) : Int))) (
 oif (decide (0 ≤ (x1.2.1 : Int))) (
 obind (x1.1[(x1.2.1 : Int).toNat]?) fun n2 =>
 j173_0 d x1 (IntKind.i64.wrap n2)) none) (
 j173_0 d x1 0) := by kernel_rfl

theorem e120 (d : Nat) (x1 : ((List Int) × Int × Int)) (n2 : Int) : g120 (d + 1) x1 n2 =
 oif (decide ((n2 : Int) ≤ 1)) (
 some (0, x1)) (
 obind (g173 d x1) fun r3 =>
 oif (decide ((n2 : Int) > 200)) (
 obind (g173 d r3.2) fun r4 =>
 oif ((n2 : Int) == 0) none (
 some (((IntKind.i64.wrap ((IntKind.i64.wrap (r3.1 * 256)) + r4.1)).tmod n2), r4.2))) (
 oif ((n2 : Int) == 0) none (
 some ((r3.1.tmod n2), r3.2)))) := by kernel_rfl

theorem e115 (d : Nat) (x1 : ((List Int) × Int × Int)) (l2 : List Int) : g115 (d + 1) x1 l2 =
 obind (g120 d x1 ((l2.length : Nat) : Int)) fun r3 =>
 oif (decide (0 ≤ (r3.1 : Int))) (
 obind (l2[(r3.1 : Int).toNat]?) fun n4 =>
 some (n4, r3.2)) none := by kernel_rfl

theorem e160 (d : Nat) (x1 : ((List Int) × Int × Int)) : g160 (d + 1) x1 =
 obind (g120 d x1 9000) fun r2 =>
 obind (g115 d r2.2 [0, 1, 100, 1500, 60000, r2.1]) fun r3 =>
 obind (g115 d r3.2 [0, 1, 5, 10, 100, 1000]) fun r4 =>
 obind (g120 d r4.2 24) fun r5 =>
 oif ((r5.1 : Int) == 0) (
 obind (g115 d r5.2 [(-1), 1000000000, 1000000001, 999999999]) fun r6 =>
 some ((r6.1, r4.1), r6.2)) (
 oif ((r5.1 : Int) == 1) (
 obind (g115 d r5.2 [(-1), 100000, 100001]) fun r7 =>
 some ((r3.1, r7.1), r7.2)) (
 some ((r3.1, r4.1), r5.2))) := by kernel_rfl

theorem e161 (d : Nat) (x1 : ((List Int) × Int × Int)) : g161 (d + 1) x1 =
 obind (g115 d x1 [1, 10, 100, 1000, 1000, 5000]) fun r2 =>
 obind (g115 d r2.2 [0, 1, 4, 20, 100]) fun r3 =>
 obind (g120 d r3.2 24) fun r4 =>
 oif ((r4.1 : Int) == 0) (
 obind (g115 d r4.2 [0, 100000, 100001]) fun r5 =>
 some ((r5.1, r3.1), r5.2)) (
 oif ((r4.1 : Int) == 1) (
 obind (g115 d r4.2 [(-1), 10000, 10001]) fun r6 =>
 some ((r2.1, r6.1), r6.2)) (
 some ((r2.1, r3.1), r4.2))) := by kernel_rfl

theorem e83 (d : Nat) (l1 : List Int) : g83 (d + 1) l1 =
 obind (g160 d (l1, 0, 0)) fun r2 =>
 obind (g161 d r2.2) fun r3 =>
 some (r2.1, r3.1) := by kernel_rfl

theorem e88 (d : Nat) (x1 : (Int × Int)) : g88 (d + 1) x1 =
 oif (decide ((x1.1 : Int) ≥ 0)) (
 oif (decide ((x1.1 : Int) ≤ 1000000000)) (
 oif (decide ((x1.2 : Int) ≥ 0)) (
 some (decide ((x1.2 : Int) ≤ 100000))) (
 some false)) (
 some false)) (
 some false) := by kernel_rfl

theorem e90 (d : Nat) (x1 : (Int × Int)) : g90 (d + 1) x1 =
 oif (decide ((x1.1 : Int) ≥ 1)) (
 oif (decide ((x1.1 : Int) ≤ 100000)) (
 oif (decide ((x1.2 : Int) ≥ 0)) (
 some (decide ((x1.2 : Int) ≤ 10000))) (
 some false)) (
 some false)) (
 some false) := by kernel_rfl

theorem e162 (d : Nat) (x1 : (Int × Int)) (x2 : (Int × Int)) : g162 (d + 1) x1 x2 =
 obind (g88 d x1) fun r3 =>
 oif r3 (
 obind (g90 d x2) fun r4 =>
 oif r4 (
 some (decide ((x1.2 : Int) ≤ x2.1))) (
 some false)) (
 some false) := by kernel_rfl

theorem e84 (d : Nat) (x1 : (Int × Int)) (x2 : (Int × Int)) : g84 (d + 1) x1 x2 =
 obind (g162 d x1 x2) fun r3 =>
 oif (!r3) (
 some (0, false)) (
 some ((IntKind.i64.wrap (x1.1 + (IntKind.i64.wrap (x1.2 * x2.2)))), true)) := by kernel_rfl

theorem e131 (d : Nat) (n1 : Int) (n2 : Int) (n3 : Int) : g131 (d + 1) n1 n2 n3 =
 oif (decide ((n1 : Int) ≥ n2)) (
 some (decide ((n1 : Int) ≤ n3))) (
 some false) := by kernel_rfl

theorem e167 (d : Nat) (x1 : (Int × Int)) : g167 (d + 1) x1 =
 obind (g131 d x1.1 0 1000000000) fun r2 =>
 oif r2 (
 obind (g131 d x1.2 0 100000) fun r3 =>
 some r3) (
 some false) := by kernel_rfl

theorem e168 (d : Nat) (x1 : (Int × Int)) : g168 (d + 1) x1 =
 obind (g131 d x1.1 1 100000) fun r2 =>
 oif r2 (
 obind (g131 d x1.2 0 10000) fun r3 =>
 some r3) (
 some false) := by kernel_rfl

theorem e163 (d : Nat) (x1 : (Int × Int)) (x2 : (Int × Int)) : g163 (d + 1) x1 x2 =
 obind (g167 d x1) fun r3 =>
 oif r3 (
 obind (g168 d x2) fun r4 =>
 oif r4 (
 some (decide ((x1.2 : Int) ≤ x2.1))) (
 some false)) (
 some false) := by kernel_rfl

theorem e164 (d : Nat) (x1 : (Int × Int)) (x2 : (Int × Int)) : g164 (d + 1) x1 x2 =
 some (IntKind.i64.wrap (x1.1 + (IntKind.i64.wrap (x1.2 * x2.2)))) := by kernel_rfl

theorem e85 (d : Nat) (x1 : (Int × Int)) (x2 : (Int × Int)) : g85 (d + 1) x1 x2 =
 obind (g163 d x1 x2) fun r3 =>
 oif (!r3) (
 some (0, false)) (
 obind (g164 d x1 x2) fun r4 =>
 some (r4, true)) := by kernel_rfl

theorem e165 (d : Nat) (n1 : Int) (n2 : Int) : g165 (d + 1) n1 n2 =
 oif ((n2 : Int) == 0) none (
 some (IntKind.i64.wrap ((IntKind.i64.wrap ((IntKind.i64.wrap (n1 + n2)) - 1)).tdiv n2))) := by kernel_rfl

theorem e86 (d : Nat) (x1 : (Int × Int)) (x2 : (Int × Int)) : g86 (d + 1) x1 x2 =
 obind (g162 d x1 x2) fun r3 =>
 oif (!r3) (
 some (0, false)) (
 obind (g165 d x1.1 x2.1) fun r4 =>
 some ((IntKind.i64.wrap (x2.2 + r4)), true)) := by kernel_rfl

theorem e171 (d : Nat) (n1 : Int) (n2 : Int) : g171 (d + 1) n1 n2 =
 oif ((n2 : Int) == 0) none (
 some (IntKind.i64.wrap ((IntKind.i64.wrap ((IntKind.i64.wrap (n1 + n2)) - 1)).tdiv n2))) := by kernel_rfl

theorem e166 (d : Nat) (x1 : (Int × Int)) (x2 : (Int × Int)) : g166 (d + 1) x1 x2 =
 obind (g171 d x1.1 x2.1) fun r3 =>
 some (IntKind.i64.wrap (x2.2 + r3)) := by kernel_rfl

theorem e87 (d : Nat) (x1 : (Int × Int)) (x2 : (Int × Int)) : g87 (d + 1) x1 x2 =
 obind (g163 d x1 x2) fun r3 =>
 oif (!r3) (
 some (0, false)) (
 obind (g166 d x1 x2) fun r4 =>
 some (r4, true)) := by kernel_rfl

theorem e89 (d : Nat) (x1 : (Int × Int)) : g89 (d + 1) x1 =
 obind (g167 d x1) fun r2 =>
 some r2 := by kernel_rfl

theorem e91 (d : Nat) (x1 : (Int × Int)) : g91 (d + 1) x1 =
 obind (g168 d x1) fun r2 =>
 some r2 := by kernel_rfl

noncomputable def j92_0 (d : Nat) (x1 : (Int × Int)) (x2 : (Int × Int)) (n3 : Int) (b4 : Bool) : Option (Int × Bool) :=
 oif b4 (
 some (0, false)) (
 some ((if (IntKind.i64.wrap ((IntKind.i64.wrap (x1.1 + (IntKind.i64.wrap (x1.2 * n3)))) - (IntKind.i64.wrap (x2.1 * (if (IntKind.i64.wrap (n3 - x2.2)) > 0 then (IntKind.i64.wrap (n3 - x2.2)) else 0))))) > 0 then (IntKind.i64.wrap ((IntKind.i64.wrap (x1.1 + (IntKind.i64.wrap (x1.2 * n3)))) - (IntKind.i64.wrap (x2.1 * (if (IntKind.i64.wrap (n3 - x2.2)) > 0 then (IntKind.i64.wrap (n3 - x2.2)) else 0))))) else 0), true))
theorem e92 (d : Nat) (x1 : (Int × Int)) (x2 : (Int × Int)) (n3 : Int) : g92 (d + 1) x1 x2 n3 =
 obind (g162 d x1 x2) fun r4 =>
 oif (!r4) (
 j92_0 d x1 x2 n3 true) (
 oif (decide ((n3 : Int) < 0)) (
 j92_0 d x1 x2 n3 true) (
 j92_0 d x1 x2 n3 (decide ((n3 : Int) > 100000)))) := by kernel_rfl

theorem e169 (d : Nat) (n1 : Int) (n2 : Int) : g169 (d + 1) n1 n2 =
 oif (decide ((n1 : Int) > n2)) (
 some n1) (
 some n2) := by kernel_rfl

noncomputable def j93_0 (d : Nat) (x1 : (Int × Int)) (x2 : (Int × Int)) (n3 : Int) (b4 : Bool) : Option (Int × Bool) :=
 oif b4 (
 some (0, false)) (
 obind (g169 d 0 (IntKind.i64.wrap (n3 - x2.2))) fun r5 =>
 obind (g169 d 0 (IntKind.i64.wrap ((IntKind.i64.wrap (x1.1 + (IntKind.i64.wrap (x1.2 * n3)))) - (IntKind.i64.wrap (x2.1 * r5))))) fun r6 =>
 some (r6, true))
theorem e93 (d : Nat) (x1 : (Int × Int)) (x2 : (Int × Int)) (n3 : Int) : g93 (d + 1) x1 x2 n3 =
 obind (g163 d x1 x2) fun r4 =>
 oif (!r4) (
 j93_0 d x1 x2 n3 true) (
 obind (g131 d n3 0 100000) fun r5 =>
 j93_0 d x1 x2 n3 (!r5)) := by kernel_rfl

theorem e94 (d : Nat) (x1 : (Int × Int)) (x2 : (Int × Int)) : g94 (d + 1) x1 x2 =
 obind (g84 d x1 x2) fun r3 =>
 oif (!r3.2) (
 some ((0, 0), false)) (
 obind (g88 d (r3.1, x1.2)) fun r4 =>
 oif (!r4) (
 some ((0, 0), false)) (
 some ((r3.1, x1.2), true))) := by kernel_rfl

theorem e170 (d : Nat) (x1 : (Int × Int)) : g170 (d + 1) x1 =
 obind (g167 d x1) fun r2 =>
 oif (!r2) (
 some ((0, 0), false)) (
 some (x1, true)) := by kernel_rfl

theorem e95 (d : Nat) (x1 : (Int × Int)) (x2 : (Int × Int)) : g95 (d + 1) x1 x2 =
 obind (g163 d x1 x2) fun r3 =>
 oif (!r3) (
 some ((0, 0), false)) (
 obind (g164 d x1 x2) fun r4 =>
 obind (g170 d (r4, x1.2)) fun r5 =>
 some (r5.1, r5.2)) := by kernel_rfl

theorem e141 (d : Nat) (x1 : ((List Int) × Int × Int)) (n2 : Int) : g141 (d + 1) x1 n2 =
 obind (g120 d x1 n2) fun r3 =>
 some (((r3.1 : Int) == 0), r3.2) := by kernel_rfl

theorem e96 (d : Nat) (l1 : List Int) : g96 (d + 1) l1 =
 obind (g160 d (l1, 0, 0)) fun r2 =>
 obind (g161 d r2.2) fun r3 =>
 obind (g141 d r3.2 3) fun r4 =>
 oif r4.1 (
 obind (g120 d r4.2 3) fun r5 =>
 some (((IntKind.i64.wrap (r2.1.2 + r5.1)), r3.1.2), r2.1)) (
 some (r3.1, r2.1)) := by kernel_rfl

noncomputable def j97_0 (d : Nat) (x1 : (Int × Int)) (x2 : (Int × Int)) (b3 : Bool) : Option ((Int × Int) × Bool) :=
 oif b3 (
 some ((0, 0), false)) (
 obind (g165 d (IntKind.i64.wrap (x2.1 + (IntKind.i64.wrap (x1.1 * x1.2)))) (IntKind.i64.wrap (x1.1 - x2.2))) fun r4 =>
 obind (g90 d ((IntKind.i64.wrap (x1.1 - x2.2)), r4)) fun r5 =>
 oif (!r5) (
 some ((0, 0), false)) (
 some (((IntKind.i64.wrap (x1.1 - x2.2)), r4), true)))
theorem e97 (d : Nat) (x1 : (Int × Int)) (x2 : (Int × Int)) : g97 (d + 1) x1 x2 =
 obind (g162 d x2 x1) fun r3 =>
 oif (!r3) (
 j97_0 d x1 x2 true) (
 j97_0 d x1 x2 ((x2.2 : Int) == x1.1)) := by kernel_rfl

noncomputable def j98_0 (d : Nat) (x1 : (Int × Int)) (x2 : (Int × Int)) (b3 : Bool) : Option ((Int × Int) × Bool) :=
 oif b3 (
 some ((0, 0), false)) (
 obind (g171 d (IntKind.i64.wrap (x2.1 + (IntKind.i64.wrap (x1.1 * x1.2)))) (IntKind.i64.wrap (x1.1 - x2.2))) fun r4 =>
 obind (g168 d ((IntKind.i64.wrap (x1.1 - x2.2)), r4)) fun r5 =>
 oif (!r5) (
 some ((0, 0), false)) (
 some (((IntKind.i64.wrap (x1.1 - x2.2)), r4), true)))
theorem e98 (d : Nat) (x1 : (Int × Int)) (x2 : (Int × Int)) : g98 (d + 1) x1 x2 =
 obind (g163 d x2 x1) fun r3 =>
 oif (!r3) (
 j98_0 d x1 x2 true) (
 j98_0 d x1 x2 ((x2.2 : Int) == x1.1)) := by kernel_rfl

noncomputable def j99_0 (d : Nat)  (l9 : List (Int × Int)) (l10 : List Int) (n11 : Int) (n12 : Int) : Option (List (Int × Int)) :=
 some l9
noncomputable def l99_0_b (d : Nat)  (kx99_0_0 : (List (Int × Int)) → (List Int) → Int → Int → Option (List (Int × Int))) (ag8 : ((List (Int × Int)) × Int × ((List Int) × Int × Int)) → Option (List (Int × Int))) (l9 : List (Int × Int)) (n10 : Int) (x11 : ((List Int) × Int × Int)) : Option (List (Int × Int)) :=
 oif (decide ((n10 : Int) > 0)) (
 obind (g160 d x11) fun r12 =>
 oif (Nat.ble ((l9.length + [r12.1].length) * 16) roomMax) (
 ag8 ((l9 ++ [r12.1]), (IntKind.i64.wrap (n10 - 1)), r12.2)) none) (
 kx99_0_0 l9 x11.1 x11.2.1 x11.2.2)
noncomputable def l99_0 (d : Nat)  (kx99_0_0 : (List (Int × Int)) → (List Int) → Int → Int → Option (List (Int × Int))) (ag8 : ((List (Int × Int)) × Int × ((List Int) × Int × Int)) → Option (List (Int × Int))) (s : ((List (Int × Int)) × Int × ((List Int) × Int × Int))) : Option (List (Int × Int)) := l99_0_b d kx99_0_0 ag8 s.1 s.2.1 s.2.2
noncomputable def j99_1 (d : Nat)  (n4 : Int) (l5 : List Int) (n6 : Int) (n7 : Int) : Option (List (Int × Int)) :=
 iterP (l99_0 d (j99_0 d)) fuelN ([], n4, (l5, n6, n7))
theorem e99 (d : Nat) (l1 : List Int) : g99 (d + 1) l1 =
 obind (g120 d (l1, 0, 0) 4) fun r2 =>
 obind (g141 d r2.2 12) fun r3 =>
 oif r3.1 (
 obind (g115 d r3.2 [0, 8, 9]) fun r4 =>
 j99_1 d r4.1 r4.2.1 r4.2.2.1 r4.2.2.2) (
 j99_1 d (IntKind.i64.wrap ((1 : Int) + r2.1)) r3.2.1 r3.2.2.1 r3.2.2.2) := by kernel_rfl

noncomputable def j100_0 (d : Nat)  (b4 : Bool) (n5 : Int) (n6 : Int) : Option ((Int × Int) × Bool) :=
 obind (g88 d (n5, n6)) fun r7 =>
 oif (!r7) (
 some ((0, 0), false)) (
 some ((n5, n6), true))
noncomputable def l100_0_b (d : Nat) (l1 : List (Int × Int)) (kx100_0_0 : Bool → Int → Int → Option ((Int × Int) × Bool)) (ag3 : (Bool × Int × (Int × Int)) → Option ((Int × Int) × Bool)) (b4 : Bool) (n5 : Int) (x6 : (Int × Int)) : Option ((Int × Int) × Bool) :=
 oif (decide ((n5 : Int) < ((l1.length : Nat) : Int))) (
 oif (decide (0 ≤ (n5 : Int))) (
 obind (l1[(n5 : Int).toNat]?) fun x7 =>
 obind (g88 d x7) fun r8 =>
 oif (!r8) (
 some ((0, 0), false)) (
 ag3 (b4, (IntKind.i64.wrap (n5 + 1)), ((IntKind.i64.wrap (x6.1 + x7.1)), (IntKind.i64.wrap (x6.2 + x7.2)))))) none) (
 kx100_0_0 b4 x6.1 x6.2)
noncomputable def l100_0 (d : Nat) (l1 : List (Int × Int)) (kx100_0_0 : Bool → Int → Int → Option ((Int × Int) × Bool)) (ag3 : (Bool × Int × (Int × Int)) → Option ((Int × Int) × Bool)) (s : (Bool × Int × (Int × Int))) : Option ((Int × Int) × Bool) := l100_0_b d l1 kx100_0_0 ag3 s.1 s.2.1 s.2.2
noncomputable def j100_1 (d : Nat) (l1 : List (Int × Int)) (b2 : Bool) : Option ((Int × Int) × Bool) :=
 oif b2 (
 some ((0, 0), false)) (
 iterP (l100_0 d l1 (j100_0 d)) fuelN (false, 0, (0, 0)))
theorem e100 (d : Nat) (l1 : List (Int × Int)) : g100 (d + 1) l1 =
 oif (decide ((((l1.length : Nat) : Int) : Int) < 1)) (
 j100_1 d l1 true) (
 j100_1 d l1 (decide ((((l1.length : Nat) : Int) : Int) > 8))) := by kernel_rfl

noncomputable def j101_0 (d : Nat) (l1 : List (Int × Int)) (b3 : Bool) (n4 : Int) (n5 : Int) : Option ((Int × Int) × Bool) :=
 obind (g131 d ((l1.length : Nat) : Int) 1 8) fun r6 =>
 oif (!r6) (
 some ((0, 0), false)) (
 obind (g170 d (n4, n5)) fun r7 =>
 some (r7.1, r7.2))
noncomputable def l101_0_b (d : Nat) (l1 : List (Int × Int)) (kx101_0_0 : Bool → Int → Int → Option ((Int × Int) × Bool)) (ag2 : (Bool × Int × (Int × Int)) → Option ((Int × Int) × Bool)) (b3 : Bool) (n4 : Int) (x5 : (Int × Int)) : Option ((Int × Int) × Bool) :=
 oif (decide ((n4 : Int) < ((l1.length : Nat) : Int))) (
 oif (decide (0 ≤ (n4 : Int))) (
 obind (l1[(n4 : Int).toNat]?) fun x6 =>
 obind (g167 d x6) fun r7 =>
 oif (!r7) (
 some ((0, 0), false)) (
 ag2 (b3, (IntKind.i64.wrap (n4 + 1)), ((IntKind.i64.wrap (x5.1 + x6.1)), (IntKind.i64.wrap (x5.2 + x6.2)))))) none) (
 kx101_0_0 b3 x5.1 x5.2)
noncomputable def l101_0 (d : Nat) (l1 : List (Int × Int)) (kx101_0_0 : Bool → Int → Int → Option ((Int × Int) × Bool)) (ag2 : (Bool × Int × (Int × Int)) → Option ((Int × Int) × Bool)) (s : (Bool × Int × (Int × Int))) : Option ((Int × Int) × Bool) := l101_0_b d l1 kx101_0_0 ag2 s.1 s.2.1 s.2.2
theorem e101 (d : Nat) (l1 : List (Int × Int)) : g101 (d + 1) l1 =
 iterP (l101_0 d l1 (j101_0 d l1)) fuelN (false, 0, (0, 0)) := by kernel_rfl

theorem e102 (d : Nat) (l1 : List Int) : g102 (d + 1) l1 =
 obind (g160 d (l1, 0, 0)) fun r2 =>
 obind (g161 d r2.2) fun r3 =>
 obind (g115 d r3.2 [0, 1, 4, 5, 20, 100, 100000, 100001, (-1)]) fun r4 =>
 some (r2.1, r3.1, r4.1) := by kernel_rfl

noncomputable def j8_0 (d : Nat) (l2 : List Int) (b17 : Bool) : Option Bool :=
 oif b17 (
 some false) (
 obind (g99 d l2) fun r18 =>
 obind (g100 d r18) fun r19 =>
 obind (g101 d r18) fun r20 =>
 obind (g102 d l2) fun r21 =>
 obind (g92 d r21.1 r21.2.1 r21.2.2) fun r22 =>
 obind (g93 d r21.1 r21.2.1 r21.2.2) fun r23 =>
 oif (r19.2 == r20.2) (
 oif (((r19.1.1 : Int) == r20.1.1) && (((r19.1.2 : Int) == r20.1.2) && true)) (
 oif (r22.2 == r23.2) (
 some ((r22.1 : Int) == r23.1)) (
 some false)) (
 some false)) (
 some false))
noncomputable def j8_1 (d : Nat) (l2 : List Int) (b13 : Bool) : Option Bool :=
 oif b13 (
 some false) (
 obind (g96 d l2) fun r14 =>
 obind (g97 d r14.1 r14.2) fun r15 =>
 obind (g98 d r14.1 r14.2) fun r16 =>
 oif (!(r15.2 == r16.2)) (
 j8_0 d l2 true) (
 oif (!(((r15.1.1 : Int) == r16.1.1) && (((r15.1.2 : Int) == r16.1.2) && true))) (
 j8_0 d l2 true) (
 oif r15.2 (
 oif (((IntKind.i64.wrap (r16.1.1 + r14.2.2)) : Int) != r14.1.1) (
 j8_0 d l2 true) (
 j8_0 d l2 (decide ((r16.1.2 : Int) < r14.1.2)))) (
 j8_0 d l2 false))))
noncomputable def j8_2 (d : Nat) (l2 : List Int) (r4 : ((Int × Int) × (Int × Int))) (r6 : (Int × Bool)) (b10 : Bool) : Option Bool :=
 obind (g94 d r4.1 r4.2) fun r11 =>
 obind (g95 d r4.1 r4.2) fun r12 =>
 oif (!(r11.2 == r12.2)) (
 j8_1 d l2 true) (
 oif (!(((r11.1.1 : Int) == r12.1.1) && (((r11.1.2 : Int) == r12.1.2) && true))) (
 j8_1 d l2 true) (
 oif r11.2 (
 oif ((r12.1.2 : Int) != r4.1.2) (
 j8_1 d l2 true) (
 j8_1 d l2 ((r12.1.1 : Int) != r6.1))) (
 j8_1 d l2 false)))
noncomputable def j8_3 (d : Nat) (l2 : List Int) (r4 : ((Int × Int) × (Int × Int))) (r6 : (Int × Bool)) (b11 : Bool) : Option Bool :=
 j8_2 d l2 r4 r6 b11
noncomputable def l8_0_b (d : Nat) (r4 : ((Int × Int) × (Int × Int))) (r6 : (Int × Bool)) (kx8_0_0 : Bool → Option Bool) (ag10 : (Bool × Int) → Option Bool) (b11 : Bool) (n12 : Int) : Option Bool :=
 oif (decide ((n12 : Int) < (([0, 1, 4, 20, 100, 5000, r4.2.2].length : Nat) : Int))) (
 oif (decide (0 ≤ (n12 : Int))) (
 oif (Nat.blt ((n12 : Int).toNat) ([0, 1, 4, 20, 100, 5000, r4.2.2].length)) (
 obind ([0, 1, 4, 20, 100, 5000, r4.2.2][(n12 : Int).toNat]?) fun n13 =>
 obind (g92 d r4.1 r4.2 n13) fun r14 =>
 obind (g93 d r4.1 r4.2 n13) fun r15 =>
 oif (!r14.2) (
 some false) (
 oif ((r14.1 : Int) != r15.1) (
 some false) (
 oif (decide ((r15.1 : Int) > r6.1)) (
 some false) (
 ag10 (b11, (IntKind.i64.wrap (n12 + 1))))))) none) none) (
 kx8_0_0 b11)
noncomputable def l8_0 (d : Nat) (r4 : ((Int × Int) × (Int × Int))) (r6 : (Int × Bool)) (kx8_0_0 : Bool → Option Bool) (ag10 : (Bool × Int) → Option Bool) (s : (Bool × Int)) : Option Bool := l8_0_b d r4 r6 kx8_0_0 ag10 s.1 s.2
noncomputable def j8_4 (d : Nat) (l2 : List Int) (r4 : ((Int × Int) × (Int × Int))) (r5 : (Int × Bool)) (r6 : (Int × Bool)) (b9 : Bool) : Option Bool :=
 oif b9 (
 some false) (
 oif r5.2 (
 iterP (l8_0 d r4 r6 (j8_3 d l2 r4 r6)) fuelN (false, 0)) (
 j8_2 d l2 r4 r6 false))
theorem e8 (d : Nat) (l1 : List Int) (l2 : List Int) : g8 (d + 1) l1 l2 =
 obind (g67 d l1 l2) fun r3 =>
 oif r3 (
 some true) (
 obind (g83 d l1) fun r4 =>
 obind (g84 d r4.1 r4.2) fun r5 =>
 obind (g85 d r4.1 r4.2) fun r6 =>
 obind (g86 d r4.1 r4.2) fun r7 =>
 obind (g87 d r4.1 r4.2) fun r8 =>
 oif (!(r5.2 == r6.2)) (
 j8_4 d l2 r4 r5 r6 true) (
 oif ((r5.1 : Int) != r6.1) (
 j8_4 d l2 r4 r5 r6 true) (
 oif (!(r7.2 == r8.2)) (
 j8_4 d l2 r4 r5 r6 true) (
 oif ((r7.1 : Int) != r8.1) (
 j8_4 d l2 r4 r5 r6 true) (
 obind (g88 d r4.1) fun r9 =>
 obind (g89 d r4.1) fun r10 =>
 oif (!(r9 == r10)) (
 j8_4 d l2 r4 r5 r6 true) (
 obind (g90 d r4.2) fun r11 =>
 obind (g91 d r4.2) fun r12 =>
 j8_4 d l2 r4 r5 r6 (!(r11 == r12)))))))) := by kernel_rfl

end Go.Proofs.Ytngofhppopgicaa
