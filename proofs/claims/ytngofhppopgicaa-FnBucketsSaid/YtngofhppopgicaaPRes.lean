/-
  The residual forms of the program's functions under the interpreter by value, printed by program (wip/pv/gen2.py); each equation is checked by the kernel.
  Conditions: none.
-/
import Derived.Test.YtngofhppopgicaaVDef
import Derived.Test.YtngofhppopgicaaProg
import Derived.KernelRfl
set_option linter.all false
set_option maxRecDepth 1000000
namespace Go.Proofs.Ytngofhppopgicaa
open Go.Ev Go.Pv

theorem fuel_is : ∃ n : Nat, n = 4194304 := ⟨_, rfl⟩
noncomputable def fuelN : Nat := Classical.choose fuel_is
theorem fuelN_eq : fuelN = 4194304 := Classical.choose_spec fuel_is
def pvSig : FuncId → Sig
  | 5 => ⟨[(.ro, (.sl (.int .u8))), (.ro, (.sl (.int .u8)))], [(false, .bool)]⟩
  | 35 => ⟨[(.ro, (.sl (.int .u8)))], [(false, (.pair (.int .i64) (.pair (.int .i64) (.int .i64)))), (false, (.int .i64))]⟩
  | 36 => ⟨[(.ro, (.pair (.int .i64) (.pair (.int .i64) (.int .i64)))), (.ro, (.int .i64))], [(false, (.int .i64)), (false, .bool)]⟩
  | 37 => ⟨[(.ro, (.pair (.int .i64) (.pair (.int .i64) (.int .i64)))), (.ro, (.int .i64))], [(false, (.int .i64)), (false, .bool)]⟩
  | 38 => ⟨[(.ro, (.sl (.int .u8)))], [(false, (.pair (.int .i64) (.pair (.int .i64) (.int .i64)))), (false, (.int .i64))]⟩
  | 39 => ⟨[(.ro, (.pair (.int .i64) (.pair (.int .i64) (.int .i64)))), (.ro, (.int .i64))], [(false, (.pair (.int .i64) (.pair (.int .i64) (.int .i64)))), (false, .bool)]⟩
  | 40 => ⟨[(.ro, (.pair (.int .i64) (.pair (.int .i64) (.int .i64)))), (.ro, (.int .i64))], [(false, (.pair (.int .i64) (.pair (.int .i64) (.int .i64)))), (false, .bool)]⟩
  | 41 => ⟨[(.ro, (.pair (.int .i64) (.pair (.int .i64) (.int .i64)))), (.ro, (.int .i64))], [(false, (.pair (.int .i64) (.pair (.int .i64) (.int .i64)))), (false, .bool)]⟩
  | 42 => ⟨[(.ro, (.pair (.int .i64) (.pair (.int .i64) (.int .i64)))), (.ro, (.int .i64))], [(false, (.pair (.int .i64) (.pair (.int .i64) (.int .i64)))), (false, .bool)]⟩
  | 43 => ⟨[(.ro, (.pair (.int .i64) (.pair (.int .i64) (.int .i64)))), (.ro, (.int .i64))], [(false, .bool), (false, .bool)]⟩
  | 44 => ⟨[(.ro, (.pair (.int .i64) (.pair (.int .i64) (.int .i64)))), (.ro, (.int .i64))], [(false, .bool), (false, .bool)]⟩
  | 45 => ⟨[(.ro, (.pair (.int .i64) (.pair (.int .i64) (.int .i64))))], [(false, (.int .i64)), (false, .bool)]⟩
  | 46 => ⟨[(.ro, (.pair (.int .i64) (.pair (.int .i64) (.int .i64))))], [(false, (.int .i64)), (false, .bool)]⟩
  | 47 => ⟨[(.ro, (.sl (.int .u8)))], [(false, (.int .i64)), (false, (.int .i64))]⟩
  | 48 => ⟨[(.ro, (.int .i64)), (.ro, (.int .i64))], [(false, (.pair (.int .i64) (.pair (.int .i64) (.int .i64)))), (false, .bool)]⟩
  | 49 => ⟨[(.ro, (.int .i64)), (.ro, (.int .i64))], [(false, (.pair (.int .i64) (.pair (.int .i64) (.int .i64)))), (false, .bool)]⟩
  | 50 => ⟨[(.ro, (.pair (.int .i64) (.pair (.int .i64) (.int .i64))))], [(false, .bool)]⟩
  | 51 => ⟨[(.ro, (.pair (.int .i64) (.pair (.int .i64) (.int .i64))))], [(false, .bool)]⟩
  | 104 => ⟨[(.ro, (.int .i64))], [(false, .bool)]⟩
  | 108 => ⟨[(.ro, (.int .i64))], [(false, .bool)]⟩
  | 114 => ⟨[(.ps, (.pair (.sl (.int .u8)) (.pair (.int .i64) (.int .u64))))], [(false, (.int .i64))]⟩
  | 115 => ⟨[(.ps, (.pair (.sl (.int .u8)) (.pair (.int .i64) (.int .u64)))), (.ro, (.sl (.int .i64)))], [(false, (.int .i64))]⟩
  | 120 => ⟨[(.ps, (.pair (.sl (.int .u8)) (.pair (.int .i64) (.int .u64)))), (.ro, (.int .i64))], [(false, (.int .i64))]⟩
  | 124 => ⟨[(.ro, (.sl (.int .u8)))], [(false, (.pair (.int .i64) (.pair (.int .i64) (.int .i64)))), (false, (.int .i64))]⟩
  | 125 => ⟨[(.ro, (.int .i64)), (.ro, (.int .i64)), (.ro, (.int .i64))], [(false, (.int .i64))]⟩
  | 126 => ⟨[(.ro, (.pair (.int .i64) (.pair (.int .i64) (.int .i64))))], [(false, .bool)]⟩
  | 127 => ⟨[(.ro, (.pair (.int .i64) (.pair (.int .i64) (.int .i64)))), (.ro, (.int .i64))], [(false, (.int .i64))]⟩
  | 128 => ⟨[(.ps, (.pair (.sl (.int .u8)) (.pair (.int .i64) (.int .u64))))], [(false, (.pair (.int .i64) (.pair (.int .i64) (.int .i64))))]⟩
  | 129 => ⟨[(.ro, (.int .i64))], [(false, .bool)]⟩
  | 130 => ⟨[(.ro, (.int .i64)), (.ro, (.int .i64)), (.ro, (.int .i64)), (.ro, (.int .i64))], [(false, (.int .i64))]⟩
  | 131 => ⟨[(.ro, (.int .i64)), (.ro, (.int .i64)), (.ro, (.int .i64))], [(false, .bool)]⟩
  | 132 => ⟨[(.ro, (.pair (.int .i64) (.pair (.int .i64) (.int .i64)))), (.ro, (.int .i64))], [(false, (.pair (.int .i64) (.pair (.int .i64) (.int .i64))))]⟩
  | 133 => ⟨[(.ro, (.int .i64))], [(false, .bool)]⟩
  | 141 => ⟨[(.ps, (.pair (.sl (.int .u8)) (.pair (.int .i64) (.int .u64)))), (.ro, (.int .i64))], [(false, .bool)]⟩
  | 173 => ⟨[(.ps, (.pair (.sl (.int .u8)) (.pair (.int .i64) (.int .u64))))], [(false, (.int .i64))]⟩
  | 174 => ⟨[(.ro, (.int .i64))], [(false, .bool)]⟩
  | 175 => ⟨[(.ro, (.int .i64)), (.ro, (.int .i64))], [(false, (.int .i64))]⟩
  | _ => ⟨[], []⟩
def pvLoops : FuncId → Nat → LoopA

  | _, _ => ⟨[], [], [], []⟩
def pvEloops : FuncId → Nat → List (Nat × Value)

  | _, _ => []
def pvInline : FuncId → Bool

  | _ => false
noncomputable def pvAnn : AnnV := ⟨fuelN, pvSig, pvLoops, pvEloops, pvInline⟩

/-- (*loop.example/g00838/spec.l1Cur).next -/
noncomputable def g173 (d : Nat) (x1 : ((List Int) × Int × Int)) : Option (Int × ((List Int) × Int × Int)) := (lev Try.prog pvAnn d).call 173 (x1)
/-- (*loop.example/g00838/spec.l1Cur).pick -/
noncomputable def g120 (d : Nat) (x1 : ((List Int) × Int × Int)) (n2 : Int) : Option (Int × ((List Int) × Int × Int)) := (lev Try.prog pvAnn d).call 120 (x1, n2)
/-- (*loop.example/g00838/spec.l1Cur).among -/
noncomputable def g115 (d : Nat) (x1 : ((List Int) × Int × Int)) (l2 : List Int) : Option (Int × ((List Int) × Int × Int)) := (lev Try.prog pvAnn d).call 115 (x1, l2)
/-- (*loop.example/g00838/spec.l1Cur).size -/
noncomputable def g114 (d : Nat) (x1 : ((List Int) × Int × Int)) : Option (Int × ((List Int) × Int × Int)) := (lev Try.prog pvAnn d).call 114 (x1)
/-- loop.example/g00838/spec.l1Least -/
noncomputable def g175 (d : Nat) (n1 : Int) (n2 : Int) : Option Int := (lev Try.prog pvAnn d).call 175 (n1, n2)
/-- (*loop.example/g00838/spec.l1Cur).bucket -/
noncomputable def g128 (d : Nat) (x1 : ((List Int) × Int × Int)) : Option ((Int × Int × Int) × ((List Int) × Int × Int)) := (lev Try.prog pvAnn d).call 128 (x1)
/-- (*loop.example/g00838/spec.l1Cur).one -/
noncomputable def g141 (d : Nat) (x1 : ((List Int) × Int × Int)) (n2 : Int) : Option (Bool × ((List Int) × Int × Int)) := (lev Try.prog pvAnn d).call 141 (x1, n2)
/-- loop.example/g00838/spec.DrawCanSpend -/
noncomputable def g124 (d : Nat) (l1 : List Int) : Option ((Int × Int × Int) × Int) := (lev Try.prog pvAnn d).call 124 (l1)
/-- loop.example/g00838/spec.DrawWaitFor -/
noncomputable def g35 (d : Nat) (l1 : List Int) : Option ((Int × Int × Int) × Int) := (lev Try.prog pvAnn d).call 35 (l1)
/-- loop.example/g00838/impl.isFlowRate -/
noncomputable def g133 (d : Nat) (n1 : Int) : Option Bool := (lev Try.prog pvAnn d).call 133 (n1)
/-- loop.example/g00838/impl.IsBucket -/
noncomputable def g50 (d : Nat) (x1 : (Int × Int × Int)) : Option Bool := (lev Try.prog pvAnn d).call 50 (x1)
/-- loop.example/g00838/impl.isSize -/
noncomputable def g104 (d : Nat) (n1 : Int) : Option Bool := (lev Try.prog pvAnn d).call 104 (n1)
/-- loop.example/g00838/impl.ticksFor -/
noncomputable def g125 (d : Nat) (n1 : Int) (n2 : Int) (n3 : Int) : Option Int := (lev Try.prog pvAnn d).call 125 (n1, n2, n3)
/-- loop.example/g00838/impl.WaitFor -/
noncomputable def g36 (d : Nat) (x1 : (Int × Int × Int)) (n2 : Int) : Option (Int × Bool) := (lev Try.prog pvAnn d).call 36 (x1, n2)
/-- loop.example/g00838/spec.l1In -/
noncomputable def g131 (d : Nat) (n1 : Int) (n2 : Int) (n3 : Int) : Option Bool := (lev Try.prog pvAnn d).call 131 (n1, n2, n3)
/-- loop.example/g00838/spec.buSize -/
noncomputable def g108 (d : Nat) (n1 : Int) : Option Bool := (lev Try.prog pvAnn d).call 108 (n1)
/-- loop.example/g00838/spec.buRate -/
noncomputable def g174 (d : Nat) (n1 : Int) : Option Bool := (lev Try.prog pvAnn d).call 174 (n1)
/-- loop.example/g00838/spec.buGood -/
noncomputable def g126 (d : Nat) (x1 : (Int × Int × Int)) : Option Bool := (lev Try.prog pvAnn d).call 126 (x1)
/-- loop.example/g00838/spec.buWait -/
noncomputable def g127 (d : Nat) (x1 : (Int × Int × Int)) (n2 : Int) : Option Int := (lev Try.prog pvAnn d).call 127 (x1, n2)
/-- loop.example/g00838/spec.WaitFor -/
noncomputable def g37 (d : Nat) (x1 : (Int × Int × Int)) (n2 : Int) : Option (Int × Bool) := (lev Try.prog pvAnn d).call 37 (x1, n2)
/-- loop.example/g00838/spec.DrawFillBucket -/
noncomputable def g38 (d : Nat) (l1 : List Int) : Option ((Int × Int × Int) × Int) := (lev Try.prog pvAnn d).call 38 (l1)
/-- loop.example/g00838/impl.isTicks -/
noncomputable def g129 (d : Nat) (n1 : Int) : Option Bool := (lev Try.prog pvAnn d).call 129 (n1)
/-- loop.example/g00838/impl.filled -/
noncomputable def g130 (d : Nat) (n1 : Int) (n2 : Int) (n3 : Int) (n4 : Int) : Option Int := (lev Try.prog pvAnn d).call 130 (n1, n2, n3, n4)
/-- loop.example/g00838/impl.FillBucket -/
noncomputable def g39 (d : Nat) (x1 : (Int × Int × Int)) (n2 : Int) : Option ((Int × Int × Int) × Bool) := (lev Try.prog pvAnn d).call 39 (x1, n2)
/-- loop.example/g00838/spec.buFill -/
noncomputable def g132 (d : Nat) (x1 : (Int × Int × Int)) (n2 : Int) : Option (Int × Int × Int) := (lev Try.prog pvAnn d).call 132 (x1, n2)
/-- loop.example/g00838/spec.FillBucket -/
noncomputable def g40 (d : Nat) (x1 : (Int × Int × Int)) (n2 : Int) : Option ((Int × Int × Int) × Bool) := (lev Try.prog pvAnn d).call 40 (x1, n2)
/-- loop.example/g00838/impl.SpendFrom -/
noncomputable def g41 (d : Nat) (x1 : (Int × Int × Int)) (n2 : Int) : Option ((Int × Int × Int) × Bool) := (lev Try.prog pvAnn d).call 41 (x1, n2)
/-- loop.example/g00838/spec.SpendFrom -/
noncomputable def g42 (d : Nat) (x1 : (Int × Int × Int)) (n2 : Int) : Option ((Int × Int × Int) × Bool) := (lev Try.prog pvAnn d).call 42 (x1, n2)
/-- loop.example/g00838/impl.CanSpend -/
noncomputable def g43 (d : Nat) (x1 : (Int × Int × Int)) (n2 : Int) : Option (Bool × Bool) := (lev Try.prog pvAnn d).call 43 (x1, n2)
/-- loop.example/g00838/spec.CanSpend -/
noncomputable def g44 (d : Nat) (x1 : (Int × Int × Int)) (n2 : Int) : Option (Bool × Bool) := (lev Try.prog pvAnn d).call 44 (x1, n2)
/-- loop.example/g00838/impl.TicksToFull -/
noncomputable def g45 (d : Nat) (x1 : (Int × Int × Int)) : Option (Int × Bool) := (lev Try.prog pvAnn d).call 45 (x1)
/-- loop.example/g00838/spec.TicksToFull -/
noncomputable def g46 (d : Nat) (x1 : (Int × Int × Int)) : Option (Int × Bool) := (lev Try.prog pvAnn d).call 46 (x1)
/-- loop.example/g00838/spec.DrawFullBucket -/
noncomputable def g47 (d : Nat) (l1 : List Int) : Option (Int × Int) := (lev Try.prog pvAnn d).call 47 (l1)
/-- loop.example/g00838/impl.FullBucket -/
noncomputable def g48 (d : Nat) (n1 : Int) (n2 : Int) : Option ((Int × Int × Int) × Bool) := (lev Try.prog pvAnn d).call 48 (n1, n2)
/-- loop.example/g00838/spec.FullBucket -/
noncomputable def g49 (d : Nat) (n1 : Int) (n2 : Int) : Option ((Int × Int × Int) × Bool) := (lev Try.prog pvAnn d).call 49 (n1, n2)
/-- loop.example/g00838/spec.IsBucket -/
noncomputable def g51 (d : Nat) (x1 : (Int × Int × Int)) : Option Bool := (lev Try.prog pvAnn d).call 51 (x1)
/-- loop.example/g00838/laws.FnBuckets -/
noncomputable def g5 (d : Nat) (l1 : List Int) (l2 : List Int) : Option Bool := (lev Try.prog pvAnn d).call 5 (l1, l2)

noncomputable def j173_0 (d : Nat) (x1 : ((List Int) × Int × Int)) (n2 : Int) : Option (Int × ((List Int) × Int × Int)) :=
 oif (decide (((IntKind.i64.wrap (x1.2.1 + 1)) : Int) ≤ ((x1.1.length : Nat) : Int))) (
 some (n2, (x1.1, (IntKind.i64.wrap (x1.2.1 + 1)), (IntKind.u64.wrap ((IntKind.u64.wrap ((IntKind.u64.wrap (x1.2.2 * 6364136223846793005)) + (IntKind.u64.wrap n2))) + 1442695040888963407))))) (
 some ((IntKind.i64.wrap (IntKind.u64.wrap ((BitVec.ofInt IntKind.u64.bits ((IntKind.u64.wrap ((IntKind.u64.wrap ((IntKind.u64.wrap (x1.2.2 * 6364136223846793005)) + (IntKind.u64.wrap n2))) + 1442695040888963407)).fdiv (2 ^ (min (40 : Int).toNat IntKind.u64.bits))) &&& BitVec.ofInt IntKind.u64.bits 255).toNat : Int))), (x1.1, (IntKind.i64.wrap (x1.2.1 + 1)), (IntKind.u64.wrap ((IntKind.u64.wrap ((IntKind.u64.wrap (x1.2.2 * 6364136223846793005)) + (IntKind.u64.wrap n2))) + 1442695040888963407)))))
theorem e173 (d : Nat) (x1 : ((List Int) × Int × Int)) : g173 (d + 1) x1 =
 oif (decide ((x1.2.1 : Int) < ((x1.1.length : Nat) : Int))) (
 oif (decide (0 ≤ (x1.2.1 : Int))) (
 obind (x1.1[(x1.2.1 : Int).toNat]?) fun n2 =>
 j173_0 d x1 (IntKind.i64.wrap n2)) none) (
 j173_0 d x1 0) := by kernel_rfl

theorem e120 (d : Nat) (x1 : ((List Int) × Int × Int)) (n2 : Int) : g120 (d + 1) x1 n2 =
 oif (decide ((n2 : Int) ≤ 1)) (
 some (0, x1)) (
 obind (g173 d x1) fun r3 =>
 oif (decide ((n2 : Int) > 200)) (
 obind (g173 d r3.2) fun r4 =>
 oif ((n2 : Int) == 0) none (
 some (((IntKind.i64.wrap ((IntKind.i64.wrap (r3.1 * 256)) + r4.1)).tmod n2), r4.2))) (
 oif ((n2 : Int) == 0) none (
 some ((r3.1.tmod n2), r3.2)))) := by kernel_rfl

theorem e115 (d : Nat) (x1 : ((List Int) × Int × Int)) (l2 : List Int) : g115 (d + 1) x1 l2 =
 obind (g120 d x1 ((l2.length : Nat) : Int)) fun r3 =>
 oif (decide (0 ≤ (r3.1 : Int))) (
 obind (l2[(r3.1 : Int).toNat]?) fun n4 =>
 some (n4, r3.2)) none := by kernel_rfl

theorem e114 (d : Nat) (x1 : ((List Int) × Int × Int)) : g114 (d + 1) x1 =
 obind (g115 d x1 [0, 1501]) fun r2 =>
 obind (g115 d r2.2 [1, 40, 100, 576, 1499, 1500, r2.1]) fun r3 =>
 some (r3.1, r3.2) := by kernel_rfl

theorem e175 (d : Nat) (n1 : Int) (n2 : Int) : g175 (d + 1) n1 n2 =
 oif (decide ((n1 : Int) < n2)) (
 some n1) (
 some n2) := by kernel_rfl

theorem e128 (d : Nat) (x1 : ((List Int) × Int × Int)) : g128 (d + 1) x1 =
 obind (g115 d x1 [0, 1, 10, 100, 1500, 100000]) fun r2 =>
 obind (g115 d r2.2 [0, 100, 1500, 3000, 20000, 1000000]) fun r3 =>
 obind (g120 d r3.2 3000) fun r4 =>
 obind (g175 d r3.1 r4.1) fun r5 =>
 obind (g115 d r4.2 [0, r3.1, (IntKind.i64.wrap (r3.1.tdiv 2)), r5]) fun r6 =>
 obind (g120 d r6.2 24) fun r7 =>
 oif ((r7.1 : Int) == 0) (
 obind (g115 d r7.2 [(-1), 100001]) fun r8 =>
 some ((r8.1, r3.1, r6.1), r8.2)) (
 oif ((r7.1 : Int) == 1) (
 obind (g115 d r7.2 [(-1), 1000001]) fun r9 =>
 some ((r2.1, r9.1, r6.1), r9.2)) (
 oif ((r7.1 : Int) == 2) (
 obind (g115 d r7.2 [(-1), (IntKind.i64.wrap (r3.1 + 1))]) fun r10 =>
 some ((r2.1, r3.1, r10.1), r10.2)) (
 some ((r2.1, r3.1, r6.1), r7.2)))) := by kernel_rfl

theorem e141 (d : Nat) (x1 : ((List Int) × Int × Int)) (n2 : Int) : g141 (d + 1) x1 n2 =
 obind (g120 d x1 n2) fun r3 =>
 some (((r3.1 : Int) == 0), r3.2) := by kernel_rfl

theorem e124 (d : Nat) (l1 : List Int) : g124 (d + 1) l1 =
 obind (g128 d (l1, 0, 0)) fun r2 =>
 obind (g141 d r2.2 3) fun r3 =>
 oif r3.1 (
 obind (g120 d r3.2 3) fun r4 =>
 some (r2.1, (IntKind.i64.wrap ((IntKind.i64.wrap (r2.1.2.2 + r4.1)) - 1)))) (
 obind (g114 d r3.2) fun r5 =>
 some (r2.1, r5.1)) := by kernel_rfl

theorem e35 (d : Nat) (l1 : List Int) : g35 (d + 1) l1 =
 obind (g124 d l1) fun r2 =>
 some (r2.1, r2.2) := by kernel_rfl

theorem e133 (d : Nat) (n1 : Int) : g133 (d + 1) n1 =
 oif (decide ((n1 : Int) ≥ 0)) (
 some (decide ((n1 : Int) ≤ 100000))) (
 some false) := by kernel_rfl

theorem e50 (d : Nat) (x1 : (Int × Int × Int)) : g50 (d + 1) x1 =
 obind (g133 d x1.1) fun r2 =>
 oif r2 (
 oif (decide ((x1.2.1 : Int) ≥ 0)) (
 oif (decide ((x1.2.1 : Int) ≤ 1000000)) (
 oif (decide ((x1.2.2 : Int) ≥ 0)) (
 some (decide ((x1.2.2 : Int) ≤ x1.2.1))) (
 some false)) (
 some false)) (
 some false)) (
 some false) := by kernel_rfl

theorem e104 (d : Nat) (n1 : Int) : g104 (d + 1) n1 =
 oif (decide ((n1 : Int) ≥ 1)) (
 some (decide ((n1 : Int) ≤ 1500))) (
 some false) := by kernel_rfl

theorem e125 (d : Nat) (n1 : Int) (n2 : Int) (n3 : Int) : g125 (d + 1) n1 n2 n3 =
 oif (decide ((n1 : Int) ≥ n3)) (
 some 0) (
 oif ((n2 : Int) == 0) none (
 some (IntKind.i64.wrap ((IntKind.i64.wrap ((IntKind.i64.wrap ((IntKind.i64.wrap (n3 - n1)) + n2)) - 1)).tdiv n2)))) := by kernel_rfl

noncomputable def j36_0 (d : Nat) (x1 : (Int × Int × Int)) (n2 : Int) (b3 : Bool) : Option (Int × Bool) :=
 oif b3 (
 some (0, false)) (
 oif (decide ((x1.2.2 : Int) ≥ n2)) (
 some (0, true)) (
 oif (decide ((x1.2.1 : Int) < n2)) (
 some (0, false)) (
 oif ((x1.1 : Int) == 0) (
 some (0, false)) (
 obind (g125 d x1.2.2 x1.1 n2) fun r4 =>
 some (r4, true)))))
theorem e36 (d : Nat) (x1 : (Int × Int × Int)) (n2 : Int) : g36 (d + 1) x1 n2 =
 obind (g50 d x1) fun r3 =>
 oif (!r3) (
 j36_0 d x1 n2 true) (
 obind (g104 d n2) fun r4 =>
 j36_0 d x1 n2 (!r4)) := by kernel_rfl

theorem e131 (d : Nat) (n1 : Int) (n2 : Int) (n3 : Int) : g131 (d + 1) n1 n2 n3 =
 oif (decide ((n1 : Int) ≥ n2)) (
 some (decide ((n1 : Int) ≤ n3))) (
 some false) := by kernel_rfl

theorem e108 (d : Nat) (n1 : Int) : g108 (d + 1) n1 =
 obind (g131 d n1 1 1500) fun r2 =>
 some r2 := by kernel_rfl

theorem e174 (d : Nat) (n1 : Int) : g174 (d + 1) n1 =
 obind (g131 d n1 0 100000) fun r2 =>
 some r2 := by kernel_rfl

theorem e126 (d : Nat) (x1 : (Int × Int × Int)) : g126 (d + 1) x1 =
 obind (g174 d x1.1) fun r2 =>
 oif r2 (
 obind (g131 d x1.2.1 0 1000000) fun r3 =>
 oif r3 (
 obind (g131 d x1.2.2 0 x1.2.1) fun r4 =>
 some r4) (
 some false)) (
 some false) := by kernel_rfl

noncomputable def j127_0 (d : Nat) (x1 : (Int × Int × Int)) (n2 : Int) (b3 : Bool) : Option Int :=
 oif b3 (
 some (-1)) (
 oif ((x1.1 : Int) == 0) none (
 some (IntKind.i64.wrap ((IntKind.i64.wrap ((IntKind.i64.wrap ((IntKind.i64.wrap (n2 - x1.2.2)) + x1.1)) - 1)).tdiv x1.1))))
theorem e127 (d : Nat) (x1 : (Int × Int × Int)) (n2 : Int) : g127 (d + 1) x1 n2 =
 oif (decide ((x1.2.2 : Int) ≥ n2)) (
 some 0) (
 oif (decide ((n2 : Int) > x1.2.1)) (
 j127_0 d x1 n2 true) (
 j127_0 d x1 n2 ((x1.1 : Int) == 0))) := by kernel_rfl

theorem e37 (d : Nat) (x1 : (Int × Int × Int)) (n2 : Int) : g37 (d + 1) x1 n2 =
 obind (g126 d x1) fun r3 =>
 oif (!r3) (
 some (0, false)) (
 obind (g108 d n2) fun r4 =>
 oif (!r4) (
 some (0, false)) (
 obind (g127 d x1 n2) fun r5 =>
 oif (decide ((r5 : Int) < 0)) (
 some (0, false)) (
 obind (g127 d x1 n2) fun r6 =>
 some (r6, true)))) := by kernel_rfl

theorem e38 (d : Nat) (l1 : List Int) : g38 (d + 1) l1 =
 obind (g128 d (l1, 0, 0)) fun r2 =>
 obind (g120 d r2.2 900) fun r3 =>
 obind (g115 d r3.2 [0, 1, 2, 10, r3.1, 100000, 100001, (-1)]) fun r4 =>
 some (r2.1, r4.1) := by kernel_rfl

theorem e129 (d : Nat) (n1 : Int) : g129 (d + 1) n1 =
 oif (decide ((n1 : Int) ≥ 0)) (
 some (decide ((n1 : Int) ≤ 100000))) (
 some false) := by kernel_rfl

theorem e130 (d : Nat) (n1 : Int) (n2 : Int) (n3 : Int) (n4 : Int) : g130 (d + 1) n1 n2 n3 n4 =
 some (if (IntKind.i64.wrap (n1 + (IntKind.i64.wrap (n2 * n4)))) < n3 then (IntKind.i64.wrap (n1 + (IntKind.i64.wrap (n2 * n4)))) else n3) := by kernel_rfl

theorem e39 (d : Nat) (x1 : (Int × Int × Int)) (n2 : Int) : g39 (d + 1) x1 n2 =
 obind (g50 d x1) fun r3 =>
 oif (!r3) (
 some ((0, 0, 0), false)) (
 obind (g129 d n2) fun r4 =>
 oif (!r4) (
 some ((0, 0, 0), false)) (
 obind (g130 d x1.2.2 x1.1 x1.2.1 n2) fun r5 =>
 some ((x1.1, x1.2.1, r5), true))) := by kernel_rfl

theorem e132 (d : Nat) (x1 : (Int × Int × Int)) (n2 : Int) : g132 (d + 1) x1 n2 =
 obind (g175 d x1.2.1 (IntKind.i64.wrap (x1.2.2 + (IntKind.i64.wrap (x1.1 * n2))))) fun r3 =>
 some (x1.1, x1.2.1, r3) := by kernel_rfl

theorem e40 (d : Nat) (x1 : (Int × Int × Int)) (n2 : Int) : g40 (d + 1) x1 n2 =
 obind (g126 d x1) fun r3 =>
 oif (!r3) (
 some ((0, 0, 0), false)) (
 obind (g131 d n2 0 100000) fun r4 =>
 oif (!r4) (
 some ((0, 0, 0), false)) (
 obind (g132 d x1 n2) fun r5 =>
 some (r5, true))) := by kernel_rfl

theorem e41 (d : Nat) (x1 : (Int × Int × Int)) (n2 : Int) : g41 (d + 1) x1 n2 =
 obind (g50 d x1) fun r3 =>
 oif (!r3) (
 some ((0, 0, 0), false)) (
 obind (g104 d n2) fun r4 =>
 oif (!r4) (
 some ((0, 0, 0), false)) (
 oif (decide ((x1.2.2 : Int) < n2)) (
 some ((0, 0, 0), false)) (
 some ((x1.1, x1.2.1, (IntKind.i64.wrap (x1.2.2 - n2))), true)))) := by kernel_rfl

theorem e42 (d : Nat) (x1 : (Int × Int × Int)) (n2 : Int) : g42 (d + 1) x1 n2 =
 obind (g126 d x1) fun r3 =>
 oif (!r3) (
 some ((0, 0, 0), false)) (
 obind (g108 d n2) fun r4 =>
 oif (!r4) (
 some ((0, 0, 0), false)) (
 oif (decide ((x1.2.2 : Int) < n2)) (
 some ((0, 0, 0), false)) (
 some ((x1.1, x1.2.1, (IntKind.i64.wrap (x1.2.2 - n2))), true)))) := by kernel_rfl

theorem e43 (d : Nat) (x1 : (Int × Int × Int)) (n2 : Int) : g43 (d + 1) x1 n2 =
 obind (g50 d x1) fun r3 =>
 oif (!r3) (
 some (false, false)) (
 obind (g104 d n2) fun r4 =>
 oif (!r4) (
 some (false, false)) (
 some ((decide ((x1.2.2 : Int) ≥ n2)), true))) := by kernel_rfl

theorem e44 (d : Nat) (x1 : (Int × Int × Int)) (n2 : Int) : g44 (d + 1) x1 n2 =
 obind (g126 d x1) fun r3 =>
 oif (!r3) (
 some (false, false)) (
 obind (g108 d n2) fun r4 =>
 oif (!r4) (
 some (false, false)) (
 some ((decide ((x1.2.2 : Int) ≥ n2)), true))) := by kernel_rfl

theorem e45 (d : Nat) (x1 : (Int × Int × Int)) : g45 (d + 1) x1 =
 obind (g50 d x1) fun r2 =>
 oif (!r2) (
 some (0, false)) (
 oif ((x1.2.2 : Int) == x1.2.1) (
 some (0, true)) (
 oif ((x1.1 : Int) == 0) (
 some (0, false)) (
 obind (g125 d x1.2.2 x1.1 x1.2.1) fun r3 =>
 some (r3, true)))) := by kernel_rfl

theorem e46 (d : Nat) (x1 : (Int × Int × Int)) : g46 (d + 1) x1 =
 obind (g126 d x1) fun r2 =>
 oif (!r2) (
 some (0, false)) (
 obind (g127 d x1 x1.2.1) fun r3 =>
 oif (decide ((r3 : Int) < 0)) (
 some (0, false)) (
 obind (g127 d x1 x1.2.1) fun r4 =>
 some (r4, true))) := by kernel_rfl

theorem e47 (d : Nat) (l1 : List Int) : g47 (d + 1) l1 =
 obind (g115 d (l1, 0, 0) [0, 1, 100, 100000, 100001, (-1)]) fun r2 =>
 obind (g115 d r2.2 [0, 1, 1500, 1000000, 1000001, (-1)]) fun r3 =>
 some (r2.1, r3.1) := by kernel_rfl

theorem e48 (d : Nat) (n1 : Int) (n2 : Int) : g48 (d + 1) n1 n2 =
 obind (g50 d (n1, n2, n2)) fun r3 =>
 oif (!r3) (
 some ((0, 0, 0), false)) (
 some ((n1, n2, n2), true)) := by kernel_rfl

theorem e49 (d : Nat) (n1 : Int) (n2 : Int) : g49 (d + 1) n1 n2 =
 obind (g126 d (n1, n2, n2)) fun r3 =>
 oif (!r3) (
 some ((0, 0, 0), false)) (
 some ((n1, n2, n2), true)) := by kernel_rfl

theorem e51 (d : Nat) (x1 : (Int × Int × Int)) : g51 (d + 1) x1 =
 obind (g126 d x1) fun r2 =>
 some r2 := by kernel_rfl

noncomputable def j5_0 (d : Nat) (r3 : ((Int × Int × Int) × Int)) (r5 : (Int × Bool)) (b23 : Bool) : Option Bool :=
 oif b23 (
 some false) (
 oif ((r5.1 : Int) == 0) (
 some true) (
 obind (g39 d r3.1 (IntKind.i64.wrap (r5.1 - 1))) fun r24 =>
 obind (g43 d r24.1 r3.2) fun r25 =>
 oif r24.2 (
 oif r25.2 (
 some (!r25.1)) (
 some false)) (
 some false)))
noncomputable def j5_1 (d : Nat) (r3 : ((Int × Int × Int) × Int)) (r5 : (Int × Bool)) (b20 : Bool) : Option Bool :=
 oif b20 (
 some true) (
 obind (g39 d r3.1 r5.1) fun r21 =>
 obind (g43 d r21.1 r3.2) fun r22 =>
 oif (!r21.2) (
 j5_0 d r3 r5 true) (
 oif (!r22.2) (
 j5_0 d r3 r5 true) (
 j5_0 d r3 r5 (!r22.1))))
noncomputable def j5_2 (d : Nat) (r3 : ((Int × Int × Int) × Int)) (r4 : (Int × Bool)) (r5 : (Int × Bool))  : Option Bool :=
 oif (!r4.2) (
 j5_1 d r3 r5 true) (
 j5_1 d r3 r5 (decide ((r5.1 : Int) > 100000)))
noncomputable def j5_3 (d : Nat) (r3 : ((Int × Int × Int) × Int)) (r4 : (Int × Bool)) (r5 : (Int × Bool)) (r6 : ((Int × Int × Int) × Int)) (r14 : (Int × Bool)) (b19 : Bool) : Option Bool :=
 oif b19 (
 obind (g39 d r6.1 r14.1) fun r20 =>
 oif (!r20.2) (
 some false) (
 oif ((r20.1.2.2 : Int) != r6.1.2.1) (
 some false) (
 j5_2 d r3 r4 r5))) (
 j5_2 d r3 r4 r5)
noncomputable def j5_4 (d : Nat) (r3 : ((Int × Int × Int) × Int)) (r4 : (Int × Bool)) (r5 : (Int × Bool)) (r6 : ((Int × Int × Int) × Int)) (r13 : (Int × Bool)) (r14 : (Int × Bool))  : Option Bool :=
 oif r13.2 (
 j5_3 d r3 r4 r5 r6 r14 (decide ((r14.1 : Int) ≤ 100000))) (
 j5_3 d r3 r4 r5 r6 r14 false)
noncomputable def j5_5 (d : Nat) (r3 : ((Int × Int × Int) × Int)) (r4 : (Int × Bool)) (r5 : (Int × Bool)) (r6 : ((Int × Int × Int) × Int)) (r7 : ((Int × Int × Int) × Bool)) (r8 : ((Int × Int × Int) × Bool)) (r13 : (Int × Bool)) (r14 : (Int × Bool)) (b18 : Bool) : Option Bool :=
 oif b18 (
 some false) (
 oif r7.2 (
 obind (g39 d r6.1 (IntKind.i64.wrap (r6.2.tdiv 2))) fun r19 =>
 obind (g39 d r19.1 (IntKind.i64.wrap (r6.2 - (IntKind.i64.wrap (r6.2.tdiv 2))))) fun r20 =>
 oif (!r19.2) (
 some false) (
 oif (!r20.2) (
 some false) (
 oif (!(((r20.1.1 : Int) == r8.1.1) && (((r20.1.2.1 : Int) == r8.1.2.1) && (((r20.1.2.2 : Int) == r8.1.2.2) && true)))) (
 some false) (
 obind (g50 d r7.1) fun r21 =>
 oif (!r21) (
 some false) (
 oif (decide ((r8.1.2.2 : Int) < r6.1.2.2)) (
 some false) (
 j5_4 d r3 r4 r5 r6 r13 r14)))))) (
 j5_4 d r3 r4 r5 r6 r13 r14))
theorem e5 (d : Nat) (l1 : List Int) (l2 : List Int) : g5 (d + 1) l1 l2 =
 oif (decide (((IntKind.i64.wrap (((l1.length : Nat) : Int) + ((l2.length : Nat) : Int))) : Int) > 1048576)) (
 some true) (
 obind (g35 d l1) fun r3 =>
 obind (g36 d r3.1 r3.2) fun r4 =>
 obind (g37 d r3.1 r3.2) fun r5 =>
 obind (g38 d l2) fun r6 =>
 obind (g39 d r6.1 r6.2) fun r7 =>
 obind (g40 d r6.1 r6.2) fun r8 =>
 obind (g41 d r3.1 r3.2) fun r9 =>
 obind (g42 d r3.1 r3.2) fun r10 =>
 obind (g43 d r3.1 r3.2) fun r11 =>
 obind (g44 d r3.1 r3.2) fun r12 =>
 obind (g45 d r6.1) fun r13 =>
 obind (g46 d r6.1) fun r14 =>
 obind (g47 d l2) fun r15 =>
 obind (g48 d r15.1 r15.2) fun r16 =>
 obind (g49 d r15.1 r15.2) fun r17 =>
 oif (!(r4.2 == r5.2)) (
 j5_5 d r3 r4 r5 r6 r7 r8 r13 r14 true) (
 oif ((r4.1 : Int) != r5.1) (
 j5_5 d r3 r4 r5 r6 r7 r8 r13 r14 true) (
 oif (!(r7.2 == r8.2)) (
 j5_5 d r3 r4 r5 r6 r7 r8 r13 r14 true) (
 oif (!(((r7.1.1 : Int) == r8.1.1) && (((r7.1.2.1 : Int) == r8.1.2.1) && (((r7.1.2.2 : Int) == r8.1.2.2) && true)))) (
 j5_5 d r3 r4 r5 r6 r7 r8 r13 r14 true) (
 oif (!(r9.2 == r10.2)) (
 j5_5 d r3 r4 r5 r6 r7 r8 r13 r14 true) (
 oif (!(((r9.1.1 : Int) == r10.1.1) && (((r9.1.2.1 : Int) == r10.1.2.1) && (((r9.1.2.2 : Int) == r10.1.2.2) && true)))) (
 j5_5 d r3 r4 r5 r6 r7 r8 r13 r14 true) (
 oif (!(r11.2 == r12.2)) (
 j5_5 d r3 r4 r5 r6 r7 r8 r13 r14 true) (
 oif (!(r11.1 == r12.1)) (
 j5_5 d r3 r4 r5 r6 r7 r8 r13 r14 true) (
 oif (!(r13.2 == r14.2)) (
 j5_5 d r3 r4 r5 r6 r7 r8 r13 r14 true) (
 oif ((r13.1 : Int) != r14.1) (
 j5_5 d r3 r4 r5 r6 r7 r8 r13 r14 true) (
 oif (!(r16.2 == r17.2)) (
 j5_5 d r3 r4 r5 r6 r7 r8 r13 r14 true) (
 oif (!(((r16.1.1 : Int) == r17.1.1) && (((r16.1.2.1 : Int) == r17.1.2.1) && (((r16.1.2.2 : Int) == r17.1.2.2) && true)))) (
 j5_5 d r3 r4 r5 r6 r7 r8 r13 r14 true) (
 obind (g50 d r3.1) fun r18 =>
 obind (g51 d r3.1) fun r19 =>
 oif (!(r18 == r19)) (
 j5_5 d r3 r4 r5 r6 r7 r8 r13 r14 true) (
 oif r11.2 (
 oif (!(r9.2 == r12.1)) (
 j5_5 d r3 r4 r5 r6 r7 r8 r13 r14 true) (
 oif r9.2 (
 j5_5 d r3 r4 r5 r6 r7 r8 r13 r14 (((IntKind.i64.wrap (r10.1.2.2 + r3.2)) : Int) != r3.1.2.2)) (
 j5_5 d r3 r4 r5 r6 r7 r8 r13 r14 false))) (
 oif (!(r9.2 == false)) (
 j5_5 d r3 r4 r5 r6 r7 r8 r13 r14 true) (
 oif r9.2 (
 j5_5 d r3 r4 r5 r6 r7 r8 r13 r14 (((IntKind.i64.wrap (r10.1.2.2 + r3.2)) : Int) != r3.1.2.2)) (
 j5_5 d r3 r4 r5 r6 r7 r8 r13 r14 false))))))))))))))))) := by kernel_rfl

end Go.Proofs.Ytngofhppopgicaa
