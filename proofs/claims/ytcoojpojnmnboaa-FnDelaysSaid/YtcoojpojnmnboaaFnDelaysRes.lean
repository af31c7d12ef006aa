/-
  The residual forms of the program's functions under the interpreter by value, printed by program (wip/pv/gen2.py); each equation is checked by the kernel.
  Conditions: none.
-/
import Derived.Test.YtcoojpojnmnboaaVDef
import Derived.Test.YtcoojpojnmnboaaProg
import Derived.KernelRfl
set_option linter.all false
set_option maxRecDepth 1000000
namespace Go.Proofs.Ytcoojpojnmnboaa
open Go.Ev Go.Pv

theorem fuel_is : ∃ n : Nat, n = 4194304 := ⟨_, rfl⟩
noncomputable def fuelN : Nat := Classical.choose fuel_is
theorem fuelN_eq : fuelN = 4194304 := Classical.choose_spec fuel_is
def pvSig : FuncId → Sig
  | 4 => ⟨[(.ro, (.sl (.int .u8))), (.ro, (.sl (.int .u8)))], [(false, .bool)]⟩
  | 31 => ⟨[(.ro, (.sl (.int .u8)))], [(false, (.pair (.int .i64) (.pair (.int .i64) (.pair (.int .i64) (.pair .bool (.pair (.int .i64) (.int .i64))))))), (false, (.int .i64)), (false, (.int .i64)), (false, (.int .i64))]⟩
  | 32 => ⟨[(.ro, (.pair (.int .i64) (.pair (.int .i64) (.pair (.int .i64) (.pair .bool (.pair (.int .i64) (.int .i64))))))), (.ro, (.int .i64)), (.ro, (.int .i64)), (.ro, (.int .i64))], [(false, (.pair (.int .i64) (.pair (.int .i64) (.pair (.int .i64) (.pair .bool (.pair (.int .i64) (.int .i64))))))), (false, .bool), (false, .bool)]⟩
  | 33 => ⟨[(.ro, (.pair (.int .i64) (.pair (.int .i64) (.pair (.int .i64) (.pair .bool (.pair (.int .i64) (.int .i64))))))), (.ro, (.int .i64)), (.ro, (.int .i64)), (.ro, (.int .i64))], [(false, (.pair (.int .i64) (.pair (.int .i64) (.pair (.int .i64) (.pair .bool (.pair (.int .i64) (.int .i64))))))), (false, .bool), (false, .bool)]⟩
  | 34 => ⟨[(.ro, (.sl (.int .u8)))], [(false, (.int .i64))]⟩
  | 35 => ⟨[(.ro, (.int .i64))], [(false, (.int .i64)), (false, .bool)]⟩
  | 36 => ⟨[(.ro, (.int .i64))], [(false, (.int .i64)), (false, .bool)]⟩
  | 37 => ⟨[(.ro, (.sl (.int .u8)))], [(false, (.int .i64)), (false, (.int .i64))]⟩
  | 38 => ⟨[(.ro, (.int .i64)), (.ro, (.int .i64))], [(false, (.int .i64)), (false, .bool)]⟩
  | 39 => ⟨[(.ro, (.int .i64)), (.ro, (.int .i64))], [(false, (.int .i64)), (false, .bool)]⟩
  | 40 => ⟨[(.ro, (.sl (.int .u8)))], [(false, (.int .i64)), (false, (.int .i64))]⟩
  | 41 => ⟨[(.ro, (.int .i64)), (.ro, (.int .i64))], [(true, (.sl (.int .i64))), (false, .bool)]⟩
  | 42 => ⟨[(.ro, (.int .i64)), (.ro, (.int .i64))], [(true, (.sl (.int .i64))), (false, .bool)]⟩
  | 43 => ⟨[(.ro, (.sl (.int .u8)))], [(false, (.int .i64)), (false, (.int .i64))]⟩
  | 44 => ⟨[(.ro, (.int .i64)), (.ro, (.int .i64))], [(false, (.pair (.int .i64) (.pair (.int .i64) (.pair (.int .i64) (.pair .bool (.pair (.int .i64) (.int .i64))))))), (false, .bool)]⟩
  | 45 => ⟨[(.ro, (.int .i64)), (.ro, (.int .i64))], [(false, (.pair (.int .i64) (.pair (.int .i64) (.pair (.int .i64) (.pair .bool (.pair (.int .i64) (.int .i64))))))), (false, .bool)]⟩
  | 46 => ⟨[(.ro, (.sl (.int .i64))), (.ro, (.sl (.int .i64)))], [(false, .bool)]⟩
  | 47 => ⟨[(.ro, (.pair (.int .i64) (.pair (.int .i64) (.pair (.int .i64) (.pair .bool (.pair (.int .i64) (.int .i64)))))))], [(false, .bool)]⟩
  | 48 => ⟨[(.ro, (.pair (.int .i64) (.pair (.int .i64) (.pair (.int .i64) (.pair .bool (.pair (.int .i64) (.int .i64)))))))], [(false, .bool)]⟩
  | 190 => ⟨[(.ps, (.pair (.sl (.int .u8)) (.pair (.int .i64) (.int .u64)))), (.ro, (.sl (.int .i64)))], [(false, (.int .i64))]⟩
  | 202 => ⟨[(.ps, (.pair (.sl (.int .u8)) (.pair (.int .i64) (.int .u64))))], [(false, (.pair (.int .i64) (.pair (.int .i64) (.pair (.int .i64) (.pair .bool (.pair (.int .i64) (.int .i64)))))))]⟩
  | 203 => ⟨[(.ps, (.pair (.sl (.int .u8)) (.pair (.int .i64) (.int .u64)))), (.ro, (.int .i64))], [(false, (.int .i64))]⟩
  | 204 => ⟨[(.ro, (.int .i64)), (.ro, (.int .i64))], [(false, (.int .i64))]⟩
  | 205 => ⟨[(.ro, (.int .i64))], [(false, .bool)]⟩
  | 206 => ⟨[(.ps, (.pair (.int .i64) (.pair (.int .i64) (.pair (.int .i64) (.pair .bool (.pair (.int .i64) (.int .i64))))))), (.ro, (.int .i64)), (.ro, (.int .i64)), (.ro, (.int .i64))], [(false, .bool)]⟩
  | 207 => ⟨[(.ro, (.pair (.int .i64) (.pair (.int .i64) (.pair (.int .i64) (.pair .bool (.pair (.int .i64) (.int .i64)))))))], [(false, .bool)]⟩
  | 208 => ⟨[(.ro, (.int .i64))], [(false, .bool)]⟩
  | 209 => ⟨[(.ro, (.pair (.int .i64) (.pair (.int .i64) (.pair (.int .i64) (.pair .bool (.pair (.int .i64) (.int .i64))))))), (.ro, (.int .i64)), (.ro, (.int .i64)), (.ro, (.int .i64))], [(false, (.pair (.int .i64) (.pair (.int .i64) (.pair (.int .i64) (.pair .bool (.pair (.int .i64) (.int .i64))))))), (false, .bool)]⟩
  | 210 => ⟨[(.ro, (.int .i64))], [(false, (.int .i64))]⟩
  | 211 => ⟨[(.ro, (.int .i64)), (.ro, (.int .i64)), (.ro, (.int .i64))], [(false, .bool)]⟩
  | 212 => ⟨[(.ro, (.int .i64))], [(false, (.int .i64))]⟩
  | 213 => ⟨[(.ro, (.int .i64))], [(false, .bool)]⟩
  | 214 => ⟨[(.ro, (.int .i64)), (.ro, (.int .i64))], [(false, (.int .i64))]⟩
  | 215 => ⟨[(.ro, (.int .i64))], [(false, .bool)]⟩
  | 216 => ⟨[(.ro, (.int .i64)), (.ro, (.int .i64))], [(false, (.int .i64))]⟩
  | 230 => ⟨[(.ps, (.pair (.sl (.int .u8)) (.pair (.int .i64) (.int .u64)))), (.ro, (.int .i64))], [(false, .bool)]⟩
  | 274 => ⟨[(.ro, (.int .i64)), (.ro, (.int .i64))], [(false, (.int .i64))]⟩
  | 352 => ⟨[(.ps, (.pair (.sl (.int .u8)) (.pair (.int .i64) (.int .u64))))], [(false, (.int .i64))]⟩
  | _ => ⟨[], []⟩
def pvLoops : FuncId → Nat → LoopA
  | 4, 0 => ⟨[(4, false, .bool), (241, false, (.int .i64))], [], [], []⟩
  | 41, 0 => ⟨[(6, true, (.sl (.int .i64))), (7, false, (.int .i64)), (8, false, (.int .i64))], [], [], []⟩
  | 42, 0 => ⟨[(6, true, (.sl (.int .i64))), (7, false, (.int .i64)), (8, false, (.int .i64))], [], [], []⟩
  | 46, 0 => ⟨[(4, false, .bool), (13, false, (.int .i64))], [], [], []⟩
  | 212, 0 => ⟨[(3, false, (.int .i64)), (4, false, (.int .i64))], [], [], []⟩
  | 220, 0 => ⟨[(0, false, (.int .i64)), (1, false, (.int .i64))], [], [], []⟩
  | _, _ => ⟨[], [], [], []⟩
def pvEloops : FuncId → Nat → List (Nat × Value)
  | 4, 0 => [(4, (.bool false)), (5, (.pointer (some ⟨0, 0, none⟩))), (6, (.int .i64 0)), (7, (.int .i64 0)), (8, (.int .i64 0)), (9, (.pointer (some ⟨0, 0, none⟩))), (11, (.bool false)), (12, (.pointer (some ⟨0, 0, none⟩))), (13, (.bool false)), (26, (.int .i64 0)), (30, (.slice none 0 0)), (240, (.int .i64 0)), (241, (.int .i64 0))]
  | 41, 0 => [(0, (.int .i64 0)), (1, (.int .i64 0)), (4, (.slice none 0 0)), (5, (.bool false)), (6, (.slice none 0 0)), (7, (.int .i64 0)), (8, (.int .i64 0))]
  | 42, 0 => [(0, (.int .i64 0)), (1, (.int .i64 0)), (4, (.slice none 0 0)), (5, (.bool false)), (6, (.slice none 0 0)), (7, (.int .i64 0)), (8, (.int .i64 0))]
  | 46, 0 => [(0, (.slice none 0 0)), (1, (.slice none 0 0)), (4, (.bool false)), (12, (.int .i64 0)), (13, (.int .i64 0))]
  | 212, 0 => [(0, (.int .i64 0)), (2, (.int .i64 0)), (3, (.int .i64 0)), (4, (.int .i64 0))]
  | 220, 0 => [(0, (.int .i64 0)), (1, (.int .i64 0)), (2, .nilFunc), (6, (.int .i64 0))]
  | _, _ => []
def pvInline : FuncId → Bool
  | 220 => true
  | 221 => true
  | 265 => true
  | 353 => true
  | _ => false
noncomputable def pvAnn : AnnV := ⟨fuelN, pvSig, pvLoops, pvEloops, pvInline⟩

/-- (*loop.example/g00838/spec.l1Cur).next -/
noncomputable def g352 (d : Nat) (x1 : ((List Int) × Int × Int)) : Option (Int × ((List Int) × Int × Int)) := (lev Try.prog pvAnn d).call 352 (x1)
/-- (*loop.example/g00838/spec.l1Cur).pick -/
noncomputable def g203 (d : Nat) (x1 : ((List Int) × Int × Int)) (n2 : Int) : Option (Int × ((List Int) × Int × Int)) := (lev Try.prog pvAnn d).call 203 (x1, n2)
/-- (*loop.example/g00838/spec.l1Cur).among -/
noncomputable def g190 (d : Nat) (x1 : ((List Int) × Int × Int)) (l2 : List Int) : Option (Int × ((List Int) × Int × Int)) := (lev Try.prog pvAnn d).call 190 (x1, l2)
/-- (*loop.example/g00838/spec.l1Cur).one -/
noncomputable def g230 (d : Nat) (x1 : ((List Int) × Int × Int)) (n2 : Int) : Option (Bool × ((List Int) × Int × Int)) := (lev Try.prog pvAnn d).call 230 (x1, n2)
/-- (*loop.example/g00838/spec.l1Cur).delay -/
noncomputable def g202 (d : Nat) (x1 : ((List Int) × Int × Int)) : Option ((Int × Int × Int × Bool × Int × Int) × ((List Int) × Int × Int)) := (lev Try.prog pvAnn d).call 202 (x1)
/-- loop.example/g00838/spec.l1Most -/
noncomputable def g204 (d : Nat) (n1 : Int) (n2 : Int) : Option Int := (lev Try.prog pvAnn d).call 204 (n1, n2)
/-- loop.example/g00838/spec.DrawDelayStep -/
noncomputable def g31 (d : Nat) (l1 : List Int) : Option ((Int × Int × Int × Bool × Int × Int) × Int × Int × Int) := (lev Try.prog pvAnn d).call 31 (l1)
/-- loop.example/g00838/impl.isInterval -/
noncomputable def g213 (d : Nat) (n1 : Int) : Option Bool := (lev Try.prog pvAnn d).call 213 (n1)
/-- loop.example/g00838/impl.IsDelay -/
noncomputable def g47 (d : Nat) (x1 : (Int × Int × Int × Bool × Int × Int)) : Option Bool := (lev Try.prog pvAnn d).call 47 (x1)
/-- loop.example/g00838/impl.isTicks -/
noncomputable def g205 (d : Nat) (n1 : Int) : Option Bool := (lev Try.prog pvAnn d).call 205 (n1)
/-- loop.example/g00838/impl.rootOf -/
noncomputable def g210 (d : Nat) (n1 : Int) : Option Int := (lev Try.prog pvAnn d).call 210 (n1)
/-- loop.example/g00838/impl.gapAfter -/
noncomputable def g214 (d : Nat) (n1 : Int) (n2 : Int) : Option Int := (lev Try.prog pvAnn d).call 214 (n1, n2)
/-- (*loop.example/g00838/impl.Delay).step -/
noncomputable def g206 (d : Nat) (x1 : (Int × Int × Int × Bool × Int × Int)) (n2 : Int) (n3 : Int) (n4 : Int) : Option (Bool × (Int × Int × Int × Bool × Int × Int)) := (lev Try.prog pvAnn d).call 206 (x1, n2, n3, n4)
/-- loop.example/g00838/impl.DelayStep -/
noncomputable def g32 (d : Nat) (x1 : (Int × Int × Int × Bool × Int × Int)) (n2 : Int) (n3 : Int) (n4 : Int) : Option ((Int × Int × Int × Bool × Int × Int) × Bool × Bool) := (lev Try.prog pvAnn d).call 32 (x1, n2, n3, n4)
/-- loop.example/g00838/spec.l1In -/
noncomputable def g211 (d : Nat) (n1 : Int) (n2 : Int) (n3 : Int) : Option Bool := (lev Try.prog pvAnn d).call 211 (n1, n2, n3)
/-- loop.example/g00838/spec.cdInterval -/
noncomputable def g215 (d : Nat) (n1 : Int) : Option Bool := (lev Try.prog pvAnn d).call 215 (n1)
/-- loop.example/g00838/spec.cdGood -/
noncomputable def g207 (d : Nat) (x1 : (Int × Int × Int × Bool × Int × Int)) : Option Bool := (lev Try.prog pvAnn d).call 207 (x1)
/-- loop.example/g00838/spec.cdTick -/
noncomputable def g208 (d : Nat) (n1 : Int) : Option Bool := (lev Try.prog pvAnn d).call 208 (n1)
/-- loop.example/g00838/spec.cdRoot -/
noncomputable def g212 (d : Nat) (n1 : Int) : Option Int := (lev Try.prog pvAnn d).call 212 (n1)
/-- loop.example/g00838/spec.cdGap -/
noncomputable def g216 (d : Nat) (n1 : Int) (n2 : Int) : Option Int := (lev Try.prog pvAnn d).call 216 (n1, n2)
/-- loop.example/g00838/spec.l1Least -/
noncomputable def g274 (d : Nat) (n1 : Int) (n2 : Int) : Option Int := (lev Try.prog pvAnn d).call 274 (n1, n2)
/-- loop.example/g00838/spec.cdStep -/
noncomputable def g209 (d : Nat) (x1 : (Int × Int × Int × Bool × Int × Int)) (n2 : Int) (n3 : Int) (n4 : Int) : Option ((Int × Int × Int × Bool × Int × Int) × Bool) := (lev Try.prog pvAnn d).call 209 (x1, n2, n3, n4)
/-- loop.example/g00838/spec.DelayStep -/
noncomputable def g33 (d : Nat) (x1 : (Int × Int × Int × Bool × Int × Int)) (n2 : Int) (n3 : Int) (n4 : Int) : Option ((Int × Int × Int × Bool × Int × Int) × Bool × Bool) := (lev Try.prog pvAnn d).call 33 (x1, n2, n3, n4)
/-- loop.example/g00838/spec.DrawRootOf -/
noncomputable def g34 (d : Nat) (l1 : List Int) : Option Int := (lev Try.prog pvAnn d).call 34 (l1)
/-- loop.example/g00838/impl.RootOf -/
noncomputable def g35 (d : Nat) (n1 : Int) : Option (Int × Bool) := (lev Try.prog pvAnn d).call 35 (n1)
/-- loop.example/g00838/spec.RootOf -/
noncomputable def g36 (d : Nat) (n1 : Int) : Option (Int × Bool) := (lev Try.prog pvAnn d).call 36 (n1)
/-- loop.example/g00838/spec.DrawGapAfter -/
noncomputable def g37 (d : Nat) (l1 : List Int) : Option (Int × Int) := (lev Try.prog pvAnn d).call 37 (l1)
/-- loop.example/g00838/impl.GapAfter -/
noncomputable def g38 (d : Nat) (n1 : Int) (n2 : Int) : Option (Int × Bool) := (lev Try.prog pvAnn d).call 38 (n1, n2)
/-- loop.example/g00838/spec.GapAfter -/
noncomputable def g39 (d : Nat) (n1 : Int) (n2 : Int) : Option (Int × Bool) := (lev Try.prog pvAnn d).call 39 (n1, n2)
/-- loop.example/g00838/spec.DrawDropTimes -/
noncomputable def g40 (d : Nat) (l1 : List Int) : Option (Int × Int) := (lev Try.prog pvAnn d).call 40 (l1)
/-- loop.example/g00838/impl.DropTimes -/
noncomputable def g41 (d : Nat) (n1 : Int) (n2 : Int) : Option ((List Int) × Bool) := (lev Try.prog pvAnn d).call 41 (n1, n2)
/-- loop.example/g00838/spec.DropTimes -/
noncomputable def g42 (d : Nat) (n1 : Int) (n2 : Int) : Option ((List Int) × Bool) := (lev Try.prog pvAnn d).call 42 (n1, n2)
/-- loop.example/g00838/spec.DrawNewDelay -/
noncomputable def g43 (d : Nat) (l1 : List Int) : Option (Int × Int) := (lev Try.prog pvAnn d).call 43 (l1)
/-- loop.example/g00838/impl.NewDelay -/
noncomputable def g44 (d : Nat) (n1 : Int) (n2 : Int) : Option ((Int × Int × Int × Bool × Int × Int) × Bool) := (lev Try.prog pvAnn d).call 44 (n1, n2)
/-- loop.example/g00838/spec.NewDelay -/
noncomputable def g45 (d : Nat) (n1 : Int) (n2 : Int) : Option ((Int × Int × Int × Bool × Int × Int) × Bool) := (lev Try.prog pvAnn d).call 45 (n1, n2)
/-- loop.example/g00838/laws.qInts -/
noncomputable def g46 (d : Nat) (l1 : List Int) (l2 : List Int) : Option Bool := (lev Try.prog pvAnn d).call 46 (l1, l2)
/-- loop.example/g00838/spec.IsDelay -/
noncomputable def g48 (d : Nat) (x1 : (Int × Int × Int × Bool × Int × Int)) : Option Bool := (lev Try.prog pvAnn d).call 48 (x1)
/-- loop.example/g00838/laws.FnDelays -/
noncomputable def g4 (d : Nat) (l1 : List Int) (l2 : List Int) : Option Bool := (lev Try.prog pvAnn d).call 4 (l1, l2)

noncomputable def j352_0 (d : Nat) (x1 : ((List Int) × Int × Int)) (n2 : Int) : Option (Int × ((List Int) × Int × Int)) :=
 oif (decide (((IntKind.i64.wrap (x1.2.1 + 1)) : Int) ≤ ((x1.1.length : Nat) : Int))) (
 some (n2, (x1.1, (IntKind.i64.wrap (x1.2.1 + 1)), (IntKind.u64.wrap ((IntKind.u64.wrap ((IntKind.u64.wrap (x1.2.2 * 6364136223846793005)) + (IntKind.u64.wrap n2))) + 1442695040888963407))))) (
 some ((IntKind.i64.wrap (IntKind.u64.wrap ((BitVec.ofInt IntKind.u64.bits ((IntKind.u64.wrap ((IntKind.u64.wrap ((IntKind.u64.wrap (x1.2.2 * 6364136223846793005)) + (IntKind.u64.wrap n2))) + 1442695040888963407)).fdiv (2 ^ (min (40 : Int).toNat IntKind.u64.bits))) &&& BitVec.ofInt IntKind.u64.bits 255).toNat : Int))), (x1.1, (IntKind.i64.wrap (x1.2.1 + 1)), (IntKind.u64.wrap ((IntKind.u64.wrap ((IntKind.u64.wrap (x1.2.2 * 6364136223846793005)) + (IntKind.u64.wrap n2))) + 1442695040888963407)))))
theorem e352 (d : Nat) (x1 : ((List Int) × Int × Int)) : g352 (d + 1) x1 =
 oif (decide ((x1.2.1 : Int) < ((x1.1.length : Nat) : Int))) (
 oif (decide (0 ≤ (x1.2.1 : Int))) (
 obind (x1.1[(x1.2.1 : Int).toNat]?) fun n2 =>
 j352_0 d x1 (IntKind.i64.wrap n2)) none) (
 j352_0 d x1 0) := by kernel_rfl

theorem e203 (d : Nat) (x1 : ((List Int) × Int × Int)) (n2 : Int) : g203 (d + 1) x1 n2 =
 oif (decide ((n2 : Int) ≤ 1)) (
 some (0, x1)) (
 obind (g352 d x1) fun r3 =>
 oif (decide ((n2 : Int) > 200)) (
 obind (g352 d r3.2) fun r4 =>
 oif ((n2 : Int) == 0) none (
 some (((IntKind.i64.wrap ((IntKind.i64.wrap (r3.1 * 256)) + r4.1)).tmod n2), r4.2))) (
 oif ((n2 : Int) == 0) none (
 some ((r3.1.tmod n2), r3.2)))) := by kernel_rfl

theorem e190 (d : Nat) (x1 : ((List Int) × Int × Int)) (l2 : List Int) : g190 (d + 1) x1 l2 =
 obind (g203 d x1 ((l2.length : Nat) : Int)) fun r3 =>
 oif (decide (0 ≤ (r3.1 : Int))) (
 obind (l2[(r3.1 : Int).toNat]?) fun n4 =>
 some (n4, r3.2)) none := by kernel_rfl

theorem e230 (d : Nat) (x1 : ((List Int) × Int × Int)) (n2 : Int) : g230 (d + 1) x1 n2 =
 obind (g203 d x1 n2) fun r3 =>
 some (((r3.1 : Int) == 0), r3.2) := by kernel_rfl

noncomputable def j202_0 (d : Nat) (r2 : (Int × ((List Int) × Int × Int))) (r3 : (Int × ((List Int) × Int × Int))) (l5 : List Int) (n6 : Int) (n7 : Int) (n8 : Int) (b9 : Bool) (n10 : Int) (n11 : Int) : Option ((Int × Int × Int × Bool × Int × Int) × ((List Int) × Int × Int)) :=
 obind (g203 d (l5, n6, n7) 30) fun r12 =>
 oif ((r12.1 : Int) == 0) (
 obind (g190 d r12.2 [0, 10000, 10001]) fun r13 =>
 some ((r13.1, r3.1, n8, b9, n10, n11), r13.2)) (
 oif ((r12.1 : Int) == 1) (
 obind (g190 d r12.2 [0, 10000, 10001]) fun r14 =>
 some ((r2.1, r14.1, n8, b9, n10, n11), r14.2)) (
 oif ((r12.1 : Int) == 2) (
 obind (g190 d r12.2 [(-2), 110000, 110001]) fun r15 =>
 some ((r2.1, r3.1, r15.1, b9, n10, n11), r15.2)) (
 oif ((r12.1 : Int) == 3) (
 obind (g190 d r12.2 [(-1), 1001]) fun r16 =>
 some ((r2.1, r3.1, n8, b9, r16.1, n11), r16.2)) (
 oif ((r12.1 : Int) == 4) (
 obind (g190 d r12.2 [(-1), 199999, 200000, 200001]) fun r17 =>
 some ((r2.1, r3.1, n8, b9, n10, r17.1), r17.2)) (
 some ((r2.1, r3.1, n8, b9, n10, n11), r12.2))))))
theorem e202 (d : Nat) (x1 : ((List Int) × Int × Int)) : g202 (d + 1) x1 =
 obind (g190 d x1 [1, 2, 5, 20]) fun r2 =>
 obind (g190 d r2.2 [1, 4, 10, 100]) fun r3 =>
 obind (g230 d r3.2 2) fun r4 =>
 oif r4.1 (
 obind (g203 d r4.2 60) fun r5 =>
 obind (g230 d r5.2 2) fun r6 =>
 obind (g190 d r6.2 [0, 1, 2, 3, 4, 9, 999, 1000]) fun r7 =>
 obind (g203 d r7.2 90) fun r8 =>
 j202_0 d r2 r3 r8.2.1 r8.2.2.1 r8.2.2.2 r5.1 r6.1 r7.1 r8.1) (
 j202_0 d r2 r3 r4.2.1 r4.2.2.1 r4.2.2.2 (-1) false 0 0) := by kernel_rfl

theorem e204 (d : Nat) (n1 : Int) (n2 : Int) : g204 (d + 1) n1 n2 =
 oif (decide ((n1 : Int) > n2)) (
 some n1) (
 some n2) := by kernel_rfl

theorem e31 (d : Nat) (l1 : List Int) : g31 (d + 1) l1 =
 obind (g202 d (l1, 0, 0)) fun r2 =>
 obind (g203 d r2.2 90) fun r3 =>
 obind (g203 d r3.2 90) fun r4 =>
 obind (g204 d 0 r2.1.2.2.1) fun r5 =>
 obind (g204 d 0 r2.1.2.2.2.2.2) fun r6 =>
 obind (g204 d 0 r2.1.2.2.2.2.2) fun r7 =>
 obind (g190 d r4.2 [0, r3.1, r4.1, r5, r6, (IntKind.i64.wrap (r7 + (IntKind.i64.wrap ((8 : Int) * r2.1.2.1)))), 100000, 100001]) fun r8 =>
 obind (g190 d r8.2 [0, (IntKind.i64.wrap (r2.1.1 - 1)), r2.1.1, (IntKind.i64.wrap (r2.1.1 + 5)), 100001]) fun r9 =>
 obind (g190 d r9.2 [0, 1, 2, 30, (-1)]) fun r10 =>
 some (r2.1, r8.1, r9.1, r10.1) := by kernel_rfl

theorem e213 (d : Nat) (n1 : Int) : g213 (d + 1) n1 =
 oif (decide ((n1 : Int) ≥ 1)) (
 some (decide ((n1 : Int) ≤ 10000))) (
 some false) := by kernel_rfl

theorem e47 (d : Nat) (x1 : (Int × Int × Int × Bool × Int × Int)) : g47 (d + 1) x1 =
 obind (g213 d x1.1) fun r2 =>
 oif r2 (
 obind (g213 d x1.2.1) fun r3 =>
 oif r3 (
 oif (decide ((x1.2.2.1 : Int) ≥ (-1))) (
 oif (decide ((x1.2.2.1 : Int) ≤ 110000)) (
 oif (decide ((x1.2.2.2.2.1 : Int) ≥ 0)) (
 oif (decide ((x1.2.2.2.2.1 : Int) ≤ 1000)) (
 oif (decide ((x1.2.2.2.2.2 : Int) ≥ 0)) (
 some (decide ((x1.2.2.2.2.2 : Int) ≤ 200000))) (
 some false)) (
 some false)) (
 some false)) (
 some false)) (
 some false)) (
 some false)) (
 some false) := by kernel_rfl

theorem e205 (d : Nat) (n1 : Int) : g205 (d + 1) n1 =
 oif (decide ((n1 : Int) ≥ 0)) (
 some (decide ((n1 : Int) ≤ 100000))) (
 some false) := by kernel_rfl

noncomputable def j210i220_0 (d : Nat)  (n3 : Int) : Option Int :=
 some (IntKind.i64.wrap (n3 - 1))
noncomputable def l210i220_0_b (d : Nat) (n1 : Int) (kx210i220_0_0 : Int → Option Int) (ag2 : (Int × Int) → Option Int) (n3 : Int) (n4 : Int) : Option Int :=
 oif (decide ((n3 : Int) ≤ n4)) (
 oif (decide (((IntKind.i64.wrap ((IntKind.i64.wrap ((IntKind.i64.wrap (n3 + n4)).tdiv 2)) * (IntKind.i64.wrap ((IntKind.i64.wrap (n3 + n4)).tdiv 2)))) : Int) > n1)) (
 ag2 (n3, (IntKind.i64.wrap ((IntKind.i64.wrap ((IntKind.i64.wrap (n3 + n4)).tdiv 2)) - 1)))) (
 ag2 ((IntKind.i64.wrap ((IntKind.i64.wrap ((IntKind.i64.wrap (n3 + n4)).tdiv 2)) + 1)), n4))) (
 kx210i220_0_0 n3)
noncomputable def l210i220_0 (d : Nat) (n1 : Int) (kx210i220_0_0 : Int → Option Int) (ag2 : (Int × Int) → Option Int) (s : (Int × Int)) : Option Int := l210i220_0_b d n1 kx210i220_0_0 ag2 s.1 s.2
theorem e210 (d : Nat) (n1 : Int) : g210 (d + 3) n1 =
 iterP (l210i220_0 d n1 (j210i220_0 d)) fuelN (0, 31623) := by kernel_rfl

theorem e214 (d : Nat) (n1 : Int) (n2 : Int) : g214 (d + 1) n1 n2 =
 obind (g210 d n2) fun r3 =>
 oif ((r3 : Int) == 0) none (
 some (if (IntKind.i64.wrap (n1.tdiv r3)) > 1 then (IntKind.i64.wrap (n1.tdiv r3)) else 1)) := by kernel_rfl

noncomputable def j206_0 (d : Nat) (x1 : (Int × Int × Int × Bool × Int × Int)) (n2 : Int) (n7 : Int) (b9 : Bool) : Option (Bool × (Int × Int × Int × Bool × Int × Int)) :=
 oif b9 (
 obind (g214 d x1.2.1 (IntKind.i64.wrap (x1.2.2.2.2.1 - 2))) fun r10 =>
 some (true, (x1.1, x1.2.1, n7, true, (IntKind.i64.wrap (x1.2.2.2.2.1 - 2)), (IntKind.i64.wrap (n2 + r10))))) (
 obind (g214 d x1.2.1 1) fun r11 =>
 some (true, (x1.1, x1.2.1, n7, true, 1, (IntKind.i64.wrap (n2 + r11)))))
noncomputable def j206_1 (d : Nat) (x1 : (Int × Int × Int × Bool × Int × Int)) (n2 : Int) (b6 : Bool) (n7 : Int) : Option (Bool × (Int × Int × Int × Bool × Int × Int)) :=
 oif (!b6) (
 some (false, (x1.1, x1.2.1, n7, false, x1.2.2.2.2))) (
 oif x1.2.2.2.1 (
 oif (decide ((n2 : Int) < x1.2.2.2.2.2)) (
 some (false, (x1.1, x1.2.1, n7, x1.2.2.2))) (
 obind (g214 d x1.2.1 (if (IntKind.i64.wrap (x1.2.2.2.2.1 + 1)) < 1000 then (IntKind.i64.wrap (x1.2.2.2.2.1 + 1)) else 1000)) fun r8 =>
 some (true, (x1.1, x1.2.1, n7, x1.2.2.2.1, (if (IntKind.i64.wrap (x1.2.2.2.2.1 + 1)) < 1000 then (IntKind.i64.wrap (x1.2.2.2.2.1 + 1)) else 1000), (IntKind.i64.wrap (x1.2.2.2.2.2 + r8)))))) (
 oif (decide (((IntKind.i64.wrap (x1.2.2.2.2.1 - 2)) : Int) ≥ 1)) (
 j206_0 d x1 n2 n7 (decide ((n2 : Int) < (IntKind.i64.wrap (x1.2.2.2.2.2 + (IntKind.i64.wrap ((8 : Int) * x1.2.1))))))) (
 j206_0 d x1 n2 n7 false)))
noncomputable def j206_2 (d : Nat) (x1 : (Int × Int × Int × Bool × Int × Int)) (n2 : Int) (b5 : Bool) (b6 : Bool) : Option (Bool × (Int × Int × Int × Bool × Int × Int)) :=
 oif (!b5) (
 j206_1 d x1 n2 b6 (-1)) (
 oif ((x1.2.2.1 : Int) == (-1)) (
 j206_1 d x1 n2 b6 (IntKind.i64.wrap (n2 + x1.2.1))) (
 j206_1 d x1 n2 b6 x1.2.2.1))
noncomputable def j206_3 (d : Nat) (x1 : (Int × Int × Int × Bool × Int × Int)) (n2 : Int) (b5 : Bool) : Option (Bool × (Int × Int × Int × Bool × Int × Int)) :=
 oif b5 (
 oif ((x1.2.2.1 : Int) != (-1)) (
 j206_2 d x1 n2 b5 (decide ((x1.2.2.1 : Int) ≤ n2))) (
 j206_2 d x1 n2 b5 false)) (
 j206_2 d x1 n2 b5 false)
theorem e206 (d : Nat) (x1 : (Int × Int × Int × Bool × Int × Int)) (n2 : Int) (n3 : Int) (n4 : Int) : g206 (d + 1) x1 n2 n3 n4 =
 oif (decide ((n3 : Int) ≥ x1.1)) (
 j206_3 d x1 n2 (decide ((n4 : Int) ≥ 1))) (
 j206_3 d x1 n2 false) := by kernel_rfl

noncomputable def j32_0 (d : Nat) (x1 : (Int × Int × Int × Bool × Int × Int)) (n2 : Int) (n3 : Int) (n4 : Int) (b5 : Bool) : Option ((Int × Int × Int × Bool × Int × Int) × Bool × Bool) :=
 oif b5 (
 some ((0, 0, 0, false, 0, 0), false, false)) (
 obind (g206 d x1 n2 n3 n4) fun r6 =>
 obind (g47 d r6.2) fun r7 =>
 oif (!r7) (
 some ((0, 0, 0, false, 0, 0), false, false)) (
 some (r6.2, r6.1, true)))
theorem e32 (d : Nat) (x1 : (Int × Int × Int × Bool × Int × Int)) (n2 : Int) (n3 : Int) (n4 : Int) : g32 (d + 1) x1 n2 n3 n4 =
 obind (g47 d x1) fun r5 =>
 oif (!r5) (
 j32_0 d x1 n2 n3 n4 true) (
 obind (g205 d n2) fun r6 =>
 oif (!r6) (
 j32_0 d x1 n2 n3 n4 true) (
 obind (g205 d n3) fun r7 =>
 oif (!r7) (
 j32_0 d x1 n2 n3 n4 true) (
 obind (g205 d n4) fun r8 =>
 j32_0 d x1 n2 n3 n4 (!r8)))) := by kernel_rfl

theorem e211 (d : Nat) (n1 : Int) (n2 : Int) (n3 : Int) : g211 (d + 1) n1 n2 n3 =
 oif (decide ((n1 : Int) ≥ n2)) (
 some (decide ((n1 : Int) ≤ n3))) (
 some false) := by kernel_rfl

theorem e215 (d : Nat) (n1 : Int) : g215 (d + 1) n1 =
 obind (g211 d n1 1 10000) fun r2 =>
 some r2 := by kernel_rfl

theorem e207 (d : Nat) (x1 : (Int × Int × Int × Bool × Int × Int)) : g207 (d + 1) x1 =
 obind (g215 d x1.1) fun r2 =>
 oif r2 (
 obind (g215 d x1.2.1) fun r3 =>
 oif r3 (
 obind (g211 d x1.2.2.1 (-1) 110000) fun r4 =>
 oif r4 (
 obind (g211 d x1.2.2.2.2.1 0 1000) fun r5 =>
 oif r5 (
 obind (g211 d x1.2.2.2.2.2 0 200000) fun r6 =>
 some r6) (
 some false)) (
 some false)) (
 some false)) (
 some false) := by kernel_rfl

theorem e208 (d : Nat) (n1 : Int) : g208 (d + 1) n1 =
 obind (g211 d n1 0 100000) fun r2 =>
 some r2 := by kernel_rfl

noncomputable def j212_0 (d : Nat)  (n3 : Int) : Option Int :=
 some n3
noncomputable def l212_0_b (d : Nat) (n1 : Int) (kx212_0_0 : Int → Option Int) (ag2 : (Int × Int) → Option Int) (n3 : Int) (n4 : Int) : Option Int :=
 oif (decide ((n4 : Int) > 0)) (
 oif (decide (((IntKind.i64.wrap ((IntKind.i64.wrap (n3 + n4)) * (IntKind.i64.wrap (n3 + n4)))) : Int) ≤ n1)) (
 ag2 ((IntKind.i64.wrap (n3 + n4)), (IntKind.i64.wrap (n4.tdiv 2)))) (
 ag2 (n3, (IntKind.i64.wrap (n4.tdiv 2))))) (
 kx212_0_0 n3)
noncomputable def l212_0 (d : Nat) (n1 : Int) (kx212_0_0 : Int → Option Int) (ag2 : (Int × Int) → Option Int) (s : (Int × Int)) : Option Int := l212_0_b d n1 kx212_0_0 ag2 s.1 s.2
theorem e212 (d : Nat) (n1 : Int) : g212 (d + 1) n1 =
 iterP (l212_0 d n1 (j212_0 d)) fuelN (0, 32768) := by kernel_rfl

theorem e216 (d : Nat) (n1 : Int) (n2 : Int) : g216 (d + 1) n1 n2 =
 obind (g212 d n2) fun r3 =>
 oif ((r3 : Int) == 0) none (
 obind (g204 d 1 (IntKind.i64.wrap (n1.tdiv r3))) fun r4 =>
 some r4) := by kernel_rfl

theorem e274 (d : Nat) (n1 : Int) (n2 : Int) : g274 (d + 1) n1 n2 =
 oif (decide ((n1 : Int) < n2)) (
 some n1) (
 some n2) := by kernel_rfl

noncomputable def j209_0 (d : Nat) (x1 : (Int × Int × Int × Bool × Int × Int)) (n2 : Int) (b6 : Bool) (n7 : Int) (b11 : Bool) : Option ((Int × Int × Int × Bool × Int × Int) × Bool) :=
 oif b11 (
 obind (g216 d x1.2.1 1) fun r12 =>
 some ((x1.1, x1.2.1, n7, true, 1, (IntKind.i64.wrap (n2 + r12))), b6)) (
 obind (g216 d x1.2.1 (IntKind.i64.wrap (x1.2.2.2.2.1 - 2))) fun r13 =>
 some ((x1.1, x1.2.1, n7, true, (IntKind.i64.wrap (x1.2.2.2.2.1 - 2)), (IntKind.i64.wrap (n2 + r13))), b6))
noncomputable def j209_1 (d : Nat) (x1 : (Int × Int × Int × Bool × Int × Int)) (n2 : Int) (b6 : Bool) (n7 : Int) (b8 : Bool) : Option ((Int × Int × Int × Bool × Int × Int) × Bool) :=
 oif b8 (
 some ((x1.1, x1.2.1, n7, x1.2.2.2), false)) (
 oif x1.2.2.2.1 (
 obind (g274 d 1000 (IntKind.i64.wrap (x1.2.2.2.2.1 + 1))) fun r9 =>
 obind (g216 d x1.2.1 r9) fun r10 =>
 some ((x1.1, x1.2.1, n7, x1.2.2.2.1, r9, (IntKind.i64.wrap (x1.2.2.2.2.2 + r10))), b6)) (
 oif (decide (((IntKind.i64.wrap (x1.2.2.2.2.1 - 2)) : Int) < 1)) (
 j209_0 d x1 n2 b6 n7 true) (
 j209_0 d x1 n2 b6 n7 (decide ((n2 : Int) ≥ (IntKind.i64.wrap (x1.2.2.2.2.2 + (IntKind.i64.wrap ((8 : Int) * x1.2.1)))))))))
noncomputable def j209_2 (d : Nat) (x1 : (Int × Int × Int × Bool × Int × Int)) (n2 : Int) (b6 : Bool) (n7 : Int) : Option ((Int × Int × Int × Bool × Int × Int) × Bool) :=
 oif (!b6) (
 some ((x1.1, x1.2.1, n7, false, x1.2.2.2.2), b6)) (
 oif x1.2.2.2.1 (
 j209_1 d x1 n2 b6 n7 (decide ((n2 : Int) < x1.2.2.2.2.2))) (
 j209_1 d x1 n2 b6 n7 false))
noncomputable def j209_3 (d : Nat) (x1 : (Int × Int × Int × Bool × Int × Int)) (n2 : Int) (b5 : Bool) (b6 : Bool) : Option ((Int × Int × Int × Bool × Int × Int) × Bool) :=
 oif (!b5) (
 j209_2 d x1 n2 b6 (-1)) (
 oif (decide ((x1.2.2.1 : Int) < 0)) (
 j209_2 d x1 n2 b6 (IntKind.i64.wrap (n2 + x1.2.1))) (
 j209_2 d x1 n2 b6 x1.2.2.1))
noncomputable def j209_4 (d : Nat) (x1 : (Int × Int × Int × Bool × Int × Int)) (n2 : Int) (b5 : Bool) : Option ((Int × Int × Int × Bool × Int × Int) × Bool) :=
 oif b5 (
 oif (decide ((x1.2.2.1 : Int) ≥ 0)) (
 j209_3 d x1 n2 b5 (decide ((x1.2.2.1 : Int) ≤ n2))) (
 j209_3 d x1 n2 b5 false)) (
 j209_3 d x1 n2 b5 false)
theorem e209 (d : Nat) (x1 : (Int × Int × Int × Bool × Int × Int)) (n2 : Int) (n3 : Int) (n4 : Int) : g209 (d + 1) x1 n2 n3 n4 =
 oif (decide ((n3 : Int) ≥ x1.1)) (
 j209_4 d x1 n2 (decide ((n4 : Int) ≥ 1))) (
 j209_4 d x1 n2 false) := by kernel_rfl

noncomputable def j33_0 (d : Nat) (x1 : (Int × Int × Int × Bool × Int × Int)) (n2 : Int) (n3 : Int) (n4 : Int) (b5 : Bool) : Option ((Int × Int × Int × Bool × Int × Int) × Bool × Bool) :=
 oif b5 (
 some ((0, 0, 0, false, 0, 0), false, false)) (
 obind (g209 d x1 n2 n3 n4) fun r6 =>
 obind (g207 d r6.1) fun r7 =>
 oif (!r7) (
 some ((0, 0, 0, false, 0, 0), false, false)) (
 some (r6.1, r6.2, true)))
theorem e33 (d : Nat) (x1 : (Int × Int × Int × Bool × Int × Int)) (n2 : Int) (n3 : Int) (n4 : Int) : g33 (d + 1) x1 n2 n3 n4 =
 obind (g207 d x1) fun r5 =>
 oif (!r5) (
 j33_0 d x1 n2 n3 n4 true) (
 obind (g208 d n2) fun r6 =>
 oif (!r6) (
 j33_0 d x1 n2 n3 n4 true) (
 obind (g208 d n3) fun r7 =>
 oif (!r7) (
 j33_0 d x1 n2 n3 n4 true) (
 obind (g208 d n4) fun r8 =>
 j33_0 d x1 n2 n3 n4 (!r8)))) := by kernel_rfl

theorem e34 (d : Nat) (l1 : List Int) : g34 (d + 1) l1 =
 obind (g203 d (l1, 0, 0) 31623) fun r2 =>
 obind (g190 d r2.2 [0, 1, 2, 3, 4, (IntKind.i64.wrap (r2.1 * r2.1)), (IntKind.i64.wrap ((IntKind.i64.wrap (r2.1 * r2.1)) - 1)), (IntKind.i64.wrap ((IntKind.i64.wrap (r2.1 * r2.1)) + 1)), 1000000000, 1000000001, (-1)]) fun r3 =>
 some r3.1 := by kernel_rfl

theorem e35 (d : Nat) (n1 : Int) : g35 (d + 1) n1 =
 oif (decide ((n1 : Int) < 0)) (
 some (0, false)) (
 oif (decide ((n1 : Int) > 1000000000)) (
 some (0, false)) (
 obind (g210 d n1) fun r2 =>
 some (r2, true))) := by kernel_rfl

theorem e36 (d : Nat) (n1 : Int) : g36 (d + 1) n1 =
 obind (g211 d n1 0 1000000000) fun r2 =>
 oif (!r2) (
 some (0, false)) (
 obind (g212 d n1) fun r3 =>
 some (r3, true)) := by kernel_rfl

theorem e37 (d : Nat) (l1 : List Int) : g37 (d + 1) l1 =
 obind (g190 d (l1, 0, 0) [1, 5, 100, 10000, 10001, 0]) fun r2 =>
 obind (g190 d r2.2 [1, 2, 3, 4, 5, 9, 1000, 1001, 0]) fun r3 =>
 some (r2.1, r3.1) := by kernel_rfl

theorem e38 (d : Nat) (n1 : Int) (n2 : Int) : g38 (d + 1) n1 n2 =
 obind (g213 d n1) fun r3 =>
 oif (!r3) (
 some (0, false)) (
 oif (decide ((n2 : Int) < 1)) (
 some (0, false)) (
 oif (decide ((n2 : Int) > 1000)) (
 some (0, false)) (
 obind (g214 d n1 n2) fun r4 =>
 some (r4, true)))) := by kernel_rfl

theorem e39 (d : Nat) (n1 : Int) (n2 : Int) : g39 (d + 1) n1 n2 =
 obind (g215 d n1) fun r3 =>
 oif (!r3) (
 some (0, false)) (
 obind (g211 d n2 1 1000) fun r4 =>
 oif (!r4) (
 some (0, false)) (
 obind (g216 d n1 n2) fun r5 =>
 some (r5, true))) := by kernel_rfl

theorem e40 (d : Nat) (l1 : List Int) : g40 (d + 1) l1 =
 obind (g190 d (l1, 0, 0) [1, 5, 100, 10000, 10001, 0]) fun r2 =>
 obind (g190 d r2.2 [0, 1, 5, 12, 40, 41, (-1)]) fun r3 =>
 some (r2.1, r3.1) := by kernel_rfl

noncomputable def j41_0 (d : Nat)  (l5 : List Int) : Option ((List Int) × Bool) :=
 some (l5, true)
noncomputable def l41_0_b (d : Nat) (n1 : Int) (n2 : Int) (kx41_0_0 : (List Int) → Option ((List Int) × Bool)) (ag4 : ((List Int) × Int × Int) → Option ((List Int) × Bool)) (l5 : List Int) (n6 : Int) (n7 : Int) : Option ((List Int) × Bool) :=
 oif (decide ((n7 : Int) ≤ n2)) (
 obind (g214 d n1 n7) fun r8 =>
 oif (Nat.ble ((l5.length + [(IntKind.i64.wrap (n6 + r8))].length) * 8) roomMax) (
 ag4 ((l5 ++ [(IntKind.i64.wrap (n6 + r8))]), (IntKind.i64.wrap (n6 + r8)), (IntKind.i64.wrap (n7 + 1)))) none) (
 kx41_0_0 l5)
noncomputable def l41_0 (d : Nat) (n1 : Int) (n2 : Int) (kx41_0_0 : (List Int) → Option ((List Int) × Bool)) (ag4 : ((List Int) × Int × Int) → Option ((List Int) × Bool)) (s : ((List Int) × Int × Int)) : Option ((List Int) × Bool) := l41_0_b d n1 n2 kx41_0_0 ag4 s.1 s.2.1 s.2.2
noncomputable def j41_1 (d : Nat) (n1 : Int) (n2 : Int) (b3 : Bool) : Option ((List Int) × Bool) :=
 oif b3 (
 some ([], false)) (
 iterP (l41_0 d n1 n2 (j41_0 d)) fuelN (([] : List Int), 0, 1))
theorem e41 (d : Nat) (n1 : Int) (n2 : Int) : g41 (d + 1) n1 n2 =
 obind (g213 d n1) fun r3 =>
 oif (!r3) (
 j41_1 d n1 n2 true) (
 oif (decide ((n2 : Int) < 0)) (
 j41_1 d n1 n2 true) (
 j41_1 d n1 n2 (decide ((n2 : Int) > 40)))) := by kernel_rfl

noncomputable def j42_0 (d : Nat)  (l5 : List Int) : Option ((List Int) × Bool) :=
 some (l5, true)
noncomputable def l42_0_b (d : Nat) (n1 : Int) (n2 : Int) (kx42_0_0 : (List Int) → Option ((List Int) × Bool)) (ag4 : ((List Int) × Int × Int) → Option ((List Int) × Bool)) (l5 : List Int) (n6 : Int) (n7 : Int) : Option ((List Int) × Bool) :=
 oif (decide ((((l5.length : Nat) : Int) : Int) < n2)) (
 obind (g216 d n1 n7) fun r8 =>
 oif (Nat.ble ((l5.length + [(IntKind.i64.wrap (n6 + r8))].length) * 8) roomMax) (
 ag4 ((l5 ++ [(IntKind.i64.wrap (n6 + r8))]), (IntKind.i64.wrap (n6 + r8)), (IntKind.i64.wrap (n7 + 1)))) none) (
 kx42_0_0 l5)
noncomputable def l42_0 (d : Nat) (n1 : Int) (n2 : Int) (kx42_0_0 : (List Int) → Option ((List Int) × Bool)) (ag4 : ((List Int) × Int × Int) → Option ((List Int) × Bool)) (s : ((List Int) × Int × Int)) : Option ((List Int) × Bool) := l42_0_b d n1 n2 kx42_0_0 ag4 s.1 s.2.1 s.2.2
noncomputable def j42_1 (d : Nat) (n1 : Int) (n2 : Int) (b3 : Bool) : Option ((List Int) × Bool) :=
 oif b3 (
 some ([], false)) (
 iterP (l42_0 d n1 n2 (j42_0 d)) fuelN ([], 0, 1))
theorem e42 (d : Nat) (n1 : Int) (n2 : Int) : g42 (d + 1) n1 n2 =
 obind (g215 d n1) fun r3 =>
 oif (!r3) (
 j42_1 d n1 n2 true) (
 obind (g211 d n2 0 40) fun r4 =>
 j42_1 d n1 n2 (!r4)) := by kernel_rfl

theorem e43 (d : Nat) (l1 : List Int) : g43 (d + 1) l1 =
 obind (g190 d (l1, 0, 0) [0, 1, 5, 10000, 10001]) fun r2 =>
 obind (g190 d r2.2 [0, 1, 100, 10000, 10001]) fun r3 =>
 some (r2.1, r3.1) := by kernel_rfl

theorem e44 (d : Nat) (n1 : Int) (n2 : Int) : g44 (d + 1) n1 n2 =
 obind (g47 d (n1, n2, (-1), false, 0, 0)) fun r3 =>
 oif (!r3) (
 some ((0, 0, 0, false, 0, 0), false)) (
 some ((n1, n2, (-1), false, 0, 0), true)) := by kernel_rfl

theorem e45 (d : Nat) (n1 : Int) (n2 : Int) : g45 (d + 1) n1 n2 =
 obind (g207 d (n1, n2, (-1), false, 0, 0)) fun r3 =>
 oif (!r3) (
 some ((0, 0, 0, false, 0, 0), false)) (
 some ((n1, n2, (-1), false, 0, 0), true)) := by kernel_rfl

noncomputable def j46_0 (d : Nat)  (b4 : Bool) : Option Bool :=
 some true
noncomputable def l46_0_b (d : Nat) (l1 : List Int) (l2 : List Int) (kx46_0_0 : Bool → Option Bool) (ag3 : (Bool × Int) → Option Bool) (b4 : Bool) (n5 : Int) : Option Bool :=
 oif (decide ((n5 : Int) < ((l1.length : Nat) : Int))) (
 oif (decide (0 ≤ (n5 : Int))) (
 obind (l1[(n5 : Int).toNat]?) fun n6 =>
 oif (decide (0 ≤ (n5 : Int))) (
 obind (l2[(n5 : Int).toNat]?) fun n7 =>
 oif ((n6 : Int) != n7) (
 some false) (
 ag3 (b4, (IntKind.i64.wrap (n5 + 1))))) none) none) (
 kx46_0_0 b4)
noncomputable def l46_0 (d : Nat) (l1 : List Int) (l2 : List Int) (kx46_0_0 : Bool → Option Bool) (ag3 : (Bool × Int) → Option Bool) (s : (Bool × Int)) : Option Bool := l46_0_b d l1 l2 kx46_0_0 ag3 s.1 s.2
theorem e46 (d : Nat) (l1 : List Int) (l2 : List Int) : g46 (d + 1) l1 l2 =
 oif ((((l1.length : Nat) : Int) : Int) != ((l2.length : Nat) : Int)) (
 some false) (
 iterP (l46_0 d l1 l2 (j46_0 d)) fuelN (false, 0)) := by kernel_rfl

theorem e48 (d : Nat) (x1 : (Int × Int × Int × Bool × Int × Int)) : g48 (d + 1) x1 =
 obind (g207 d x1) fun r2 =>
 some r2 := by kernel_rfl

noncomputable def j4_0 (d : Nat) (r3 : ((Int × Int × Int × Bool × Int × Int) × Int × Int × Int)) (r5 : ((Int × Int × Int × Bool × Int × Int) × Bool × Bool)) (b23 : Bool) : Option Bool :=
 oif b23 (
 some false) (
 oif (decide ((r3.2.2.1 : Int) ≥ r3.1.1)) (
 some true) (
 oif (!r5.2.1) (
 oif (!r5.1.2.2.2.1) (
 some ((r5.1.2.2.1 : Int) == (-1))) (
 some false)) (
 some false)))
noncomputable def j4_1 (d : Nat) (r3 : ((Int × Int × Int × Bool × Int × Int) × Int × Int × Int)) (r4 : ((Int × Int × Int × Bool × Int × Int) × Bool × Bool)) (r5 : ((Int × Int × Int × Bool × Int × Int) × Bool × Bool)) (b22 : Bool) : Option Bool :=
 oif (!r4.2.2) (
 some true) (
 obind (g47 d r4.1) fun r23 =>
 oif (!r23) (
 j4_0 d r3 r5 true) (
 oif r5.2.1 (
 oif (decide ((r3.2.2.1 : Int) < r3.1.1)) (
 j4_0 d r3 r5 true) (
 oif (decide ((r3.2.2.2 : Int) < 1)) (
 j4_0 d r3 r5 true) (
 oif (decide ((r3.1.2.2.1 : Int) < 0)) (
 j4_0 d r3 r5 true) (
 oif (decide ((r3.1.2.2.1 : Int) > r3.2.1)) (
 j4_0 d r3 r5 true) (
 oif (!r5.1.2.2.2.1) (
 j4_0 d r3 r5 true) (
 oif (decide ((r5.1.2.2.2.2.2 : Int) ≤ r3.2.1)) (
 j4_0 d r3 r5 (!r3.1.2.2.2.1)) (
 j4_0 d r3 r5 false))))))) (
 j4_0 d r3 r5 false)))
noncomputable def j4_2 (d : Nat) (r12 : (Int × Int)) (r14 : ((List Int) × Bool)) (ag21 : (Bool × Int) → Option Bool) (b22 : Bool) (n23 : Int) (n24 : Int) (b25 : Bool) : Option Bool :=
 obind (g38 d r12.1 (IntKind.i64.wrap (n23 + 1))) fun r26 =>
 oif (!r26.2) (
 some false) (
 oif (decide (0 ≤ (n23 : Int))) (
 oif (Nat.blt ((n23 : Int).toNat) r14.1.length) (
 obind (r14.1[(n23 : Int).toNat]?) fun n27 =>
 oif (((IntKind.i64.wrap (n27 - n24)) : Int) != r26.1) (
 some false) (
 ag21 (b22, (IntKind.i64.wrap (n23 + 1))))) none) none)
noncomputable def l4_0_b (d : Nat) (r12 : (Int × Int)) (r14 : ((List Int) × Bool)) (kx4_0_0 : Bool → Option Bool) (ag21 : (Bool × Int) → Option Bool) (b22 : Bool) (n23 : Int) : Option Bool :=
 oif (decide ((n23 : Int) < ((r14.1.length : Nat) : Int))) (
 oif (decide ((n23 : Int) > 0)) (
 oif (decide (0 ≤ ((IntKind.i64.wrap (n23 - 1)) : Int))) (
 oif (Nat.blt (((IntKind.i64.wrap (n23 - 1)) : Int).toNat) r14.1.length) (
 obind (r14.1[((IntKind.i64.wrap (n23 - 1)) : Int).toNat]?) fun n24 =>
 j4_2 d r12 r14 ag21 b22 n23 n24 true) none) none) (
 j4_2 d r12 r14 ag21 b22 n23 0 false)) (
 kx4_0_0 b22)
noncomputable def l4_0 (d : Nat) (r12 : (Int × Int)) (r14 : ((List Int) × Bool)) (kx4_0_0 : Bool → Option Bool) (ag21 : (Bool × Int) → Option Bool) (s : (Bool × Int)) : Option Bool := l4_0_b d r12 r14 kx4_0_0 ag21 s.1 s.2
noncomputable def j4_3 (d : Nat) (r3 : ((Int × Int × Int × Bool × Int × Int) × Int × Int × Int)) (r4 : ((Int × Int × Int × Bool × Int × Int) × Bool × Bool)) (r5 : ((Int × Int × Int × Bool × Int × Int) × Bool × Bool)) (r12 : (Int × Int)) (r14 : ((List Int) × Bool))  : Option Bool :=
 iterP (l4_0 d r12 r14 (j4_1 d r3 r4 r5)) fuelN (false, 0)
noncomputable def j4_4 (d : Nat) (r3 : ((Int × Int × Int × Bool × Int × Int) × Int × Int × Int)) (r4 : ((Int × Int × Int × Bool × Int × Int) × Bool × Bool)) (r5 : ((Int × Int × Int × Bool × Int × Int) × Bool × Bool)) (r9 : (Int × Int)) (r11 : (Int × Bool)) (r12 : (Int × Int)) (r14 : ((List Int) × Bool)) (b20 : Bool) : Option Bool :=
 oif b20 (
 obind (g38 d r9.1 (IntKind.i64.wrap (r9.2 + 1))) fun r21 =>
 oif (!r21.2) (
 some false) (
 oif (decide ((r21.1 : Int) > r11.1)) (
 some false) (
 oif (decide ((r11.1 : Int) < 1)) (
 some false) (
 j4_3 d r3 r4 r5 r12 r14)))) (
 j4_3 d r3 r4 r5 r12 r14)
noncomputable def j4_5 (d : Nat) (r3 : ((Int × Int × Int × Bool × Int × Int) × Int × Int × Int)) (r4 : ((Int × Int × Int × Bool × Int × Int) × Bool × Bool)) (r5 : ((Int × Int × Int × Bool × Int × Int) × Bool × Bool)) (r9 : (Int × Int)) (r10 : (Int × Bool)) (r11 : (Int × Bool)) (r12 : (Int × Int)) (r14 : ((List Int) × Bool)) (b19 : Bool) : Option Bool :=
 oif b19 (
 some false) (
 oif r10.2 (
 j4_4 d r3 r4 r5 r9 r11 r12 r14 (decide ((r9.2 : Int) < 1000))) (
 j4_4 d r3 r4 r5 r9 r11 r12 r14 false))
noncomputable def j4_6 (d : Nat) (r3 : ((Int × Int × Int × Bool × Int × Int) × Int × Int × Int)) (r4 : ((Int × Int × Int × Bool × Int × Int) × Bool × Bool)) (r5 : ((Int × Int × Int × Bool × Int × Int) × Bool × Bool)) (r6 : Int) (r7 : (Int × Bool)) (r8 : (Int × Bool)) (r9 : (Int × Int)) (r10 : (Int × Bool)) (r11 : (Int × Bool)) (r12 : (Int × Int)) (r14 : ((List Int) × Bool)) (b18 : Bool) : Option Bool :=
 oif b18 (
 some false) (
 oif r7.2 (
 oif (decide (((IntKind.i64.wrap (r8.1 * r8.1)) : Int) > r6)) (
 j4_5 d r3 r4 r5 r9 r10 r11 r12 r14 true) (
 j4_5 d r3 r4 r5 r9 r10 r11 r12 r14 (decide (((IntKind.i64.wrap ((IntKind.i64.wrap (r8.1 + 1)) * (IntKind.i64.wrap (r8.1 + 1)))) : Int) ≤ r6)))) (
 j4_5 d r3 r4 r5 r9 r10 r11 r12 r14 false))
theorem e4 (d : Nat) (l1 : List Int) (l2 : List Int) : g4 (d + 1) l1 l2 =
 oif (decide (((IntKind.i64.wrap (((l1.length : Nat) : Int) + ((l2.length : Nat) : Int))) : Int) > 1048576)) (
 some true) (
 obind (g31 d l1) fun r3 =>
 obind (g32 d r3.1 r3.2.1 r3.2.2.1 r3.2.2.2) fun r4 =>
 obind (g33 d r3.1 r3.2.1 r3.2.2.1 r3.2.2.2) fun r5 =>
 obind (g34 d l2) fun r6 =>
 obind (g35 d r6) fun r7 =>
 obind (g36 d r6) fun r8 =>
 obind (g37 d l2) fun r9 =>
 obind (g38 d r9.1 r9.2) fun r10 =>
 obind (g39 d r9.1 r9.2) fun r11 =>
 obind (g40 d l2) fun r12 =>
 obind (g41 d r12.1 r12.2) fun r13 =>
 obind (g42 d r12.1 r12.2) fun r14 =>
 obind (g43 d l2) fun r15 =>
 obind (g44 d r15.1 r15.2) fun r16 =>
 obind (g45 d r15.1 r15.2) fun r17 =>
 oif (!(r4.2.2 == r5.2.2)) (
 j4_6 d r3 r4 r5 r6 r7 r8 r9 r10 r11 r12 r14 true) (
 oif (!(((r4.1.1 : Int) == r5.1.1) && (((r4.1.2.1 : Int) == r5.1.2.1) && (((r4.1.2.2.1 : Int) == r5.1.2.2.1) && ((r4.1.2.2.2.1 == r5.1.2.2.2.1) && (((r4.1.2.2.2.2.1 : Int) == r5.1.2.2.2.2.1) && (((r4.1.2.2.2.2.2 : Int) == r5.1.2.2.2.2.2) && true))))))) (
 j4_6 d r3 r4 r5 r6 r7 r8 r9 r10 r11 r12 r14 true) (
 oif (!(r4.2.1 == r5.2.1)) (
 j4_6 d r3 r4 r5 r6 r7 r8 r9 r10 r11 r12 r14 true) (
 oif (!(r7.2 == r8.2)) (
 j4_6 d r3 r4 r5 r6 r7 r8 r9 r10 r11 r12 r14 true) (
 oif ((r7.1 : Int) != r8.1) (
 j4_6 d r3 r4 r5 r6 r7 r8 r9 r10 r11 r12 r14 true) (
 oif (!(r10.2 == r11.2)) (
 j4_6 d r3 r4 r5 r6 r7 r8 r9 r10 r11 r12 r14 true) (
 oif ((r10.1 : Int) != r11.1) (
 j4_6 d r3 r4 r5 r6 r7 r8 r9 r10 r11 r12 r14 true) (
 oif (!(r13.2 == r14.2)) (
 j4_6 d r3 r4 r5 r6 r7 r8 r9 r10 r11 r12 r14 true) (
 obind (g46 d r13.1 r14.1) fun r18 =>
 oif (!r18) (
 j4_6 d r3 r4 r5 r6 r7 r8 r9 r10 r11 r12 r14 true) (
 oif (!(r16.2 == r17.2)) (
 j4_6 d r3 r4 r5 r6 r7 r8 r9 r10 r11 r12 r14 true) (
 oif (!(((r16.1.1 : Int) == r17.1.1) && (((r16.1.2.1 : Int) == r17.1.2.1) && (((r16.1.2.2.1 : Int) == r17.1.2.2.1) && ((r16.1.2.2.2.1 == r17.1.2.2.2.1) && (((r16.1.2.2.2.2.1 : Int) == r17.1.2.2.2.2.1) && (((r16.1.2.2.2.2.2 : Int) == r17.1.2.2.2.2.2) && true))))))) (
 j4_6 d r3 r4 r5 r6 r7 r8 r9 r10 r11 r12 r14 true) (
 obind (g47 d r3.1) fun r19 =>
 obind (g48 d r3.1) fun r20 =>
 j4_6 d r3 r4 r5 r6 r7 r8 r9 r10 r11 r12 r14 (!(r19 == r20)))))))))))))) := by kernel_rfl

end Go.Proofs.Ytcoojpojnmnboaa
