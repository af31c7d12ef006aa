/-
  The residual forms of the program's functions under the interpreter by value, printed by program (wip/pv/gen2.py); each equation is checked by the kernel.
  Conditions: none.
-/
import Derived.Test.YtaggjheabeoohaaVDef
import Derived.Test.YtaggjheabeoohaaProg
import Derived.Test.YtaggjheabeoohaaSortW
import Derived.KernelRfl
set_option linter.all false
set_option maxRecDepth 1000000
namespace Go.Proofs.Ytaggjheabeoohaa
open Go.Ev Go.Pv

theorem fuel_is : ∃ n : Nat, n = 4194304 := ⟨_, rfl⟩
noncomputable def fuelN : Nat := Classical.choose fuel_is
theorem fuelN_eq : fuelN = 4194304 := Classical.choose_spec fuel_is
def pvSig : FuncId → Sig
  | 4 => ⟨[(.ro, (.sl (.int .u8))), (.ro, (.sl (.int .u8)))], [(false, .bool)]⟩
  | 23 => ⟨[(.ro, (.sl (.int .u8)))], [(true, (.sl (.int .i64))), (false, (.int .i64)), (false, (.int .i64))]⟩
  | 24 => ⟨[(.ro, (.sl (.int .i64))), (.ro, (.int .i64)), (.ro, (.int .i64))], [(false, (.int .i64)), (false, .bool)]⟩
  | 25 => ⟨[(.ro, (.sl (.int .i64))), (.ro, (.int .i64)), (.ro, (.int .i64))], [(false, (.int .i64)), (false, .bool)]⟩
  | 26 => ⟨[(.ro, (.sl (.int .u8)))], [(true, (.sl (.int .i64))), (false, (.int .i64))]⟩
  | 27 => ⟨[(.ro, (.sl (.int .i64))), (.ro, (.int .i64))], [(false, (.int .i64)), (false, (.int .i64)), (false, .bool)]⟩
  | 28 => ⟨[(.ro, (.sl (.int .i64))), (.ro, (.int .i64))], [(false, (.int .i64)), (false, (.int .i64)), (false, .bool)]⟩
  | 29 => ⟨[(.ro, (.sl (.int .i64)))], [(false, (.int .i64)), (false, (.int .i64)), (false, .bool)]⟩
  | 30 => ⟨[(.ro, (.sl (.int .i64)))], [(false, (.int .i64)), (false, (.int .i64)), (false, .bool)]⟩
  | 31 => ⟨[(.ro, (.sl (.int .i64)))], [(false, (.int .i64)), (false, (.int .i64)), (false, .bool)]⟩
  | 32 => ⟨[(.ro, (.sl (.int .i64)))], [(false, (.int .i64)), (false, (.int .i64)), (false, .bool)]⟩
  | 33 => ⟨[(.ro, (.sl (.int .i64)))], [(false, (.int .i64)), (false, .bool)]⟩
  | 34 => ⟨[(.ro, (.sl (.int .i64)))], [(false, (.int .i64)), (false, .bool)]⟩
  | 35 => ⟨[(.ro, (.sl (.int .i64)))], [(false, (.int .i64)), (false, .bool)]⟩
  | 36 => ⟨[(.ro, (.sl (.int .i64)))], [(false, (.int .i64)), (false, .bool)]⟩
  | 37 => ⟨[(.ro, (.sl (.int .i64))), (.ro, (.int .i64))], [(false, .bool)]⟩
  | 124 => ⟨[(.ps, (.pair (.sl (.int .u8)) (.pair (.int .i64) (.int .u64)))), (.ro, (.int .i64))], [(false, (.int .i64))]⟩
  | 125 => ⟨[(.ps, (.pair (.sl (.int .u8)) (.pair (.int .i64) (.int .u64)))), (.ro, (.int .i64))], [(false, .bool)]⟩
  | 141 => ⟨[(.ps, (.pair (.sl (.int .u8)) (.pair (.int .i64) (.int .u64)))), (.ro, (.sl (.int .i64)))], [(false, (.int .i64))]⟩
  | 142 => ⟨[(.ro, (.int .i64)), (.ro, (.int .i64)), (.ro, (.int .i64))], [(false, .bool)]⟩
  | 145 => ⟨[(.ps, (.pair (.sl (.int .u8)) (.pair (.int .i64) (.int .u64))))], [(true, (.sl (.int .i64)))]⟩
  | 146 => ⟨[(.ro, (.sl (.int .i64)))], [(false, .bool)]⟩
  | 147 => ⟨[(.ro, (.sl (.int .i64)))], [(true, (.sl (.int .i64)))]⟩
  | 148 => ⟨[(.io, (.sl (.int .i64)))], []⟩
  | 149 => ⟨[(.ro, (.sl (.int .i64)))], [(false, .bool)]⟩
  | 150 => ⟨[(.ro, (.sl (.int .i64)))], [(true, (.sl (.int .i64)))]⟩
  | 151 => ⟨[(.ro, (.sl (.int .i64)))], [(false, (.int .i64))]⟩
  | 152 => ⟨[(.ro, (.int .i64)), (.ro, (.int .i64))], [(false, (.int .i64)), (false, (.int .i64)), (false, .bool)]⟩
  | 153 => ⟨[(.ro, (.sl (.int .i64)))], [(false, (.int .i64))]⟩
  | 154 => ⟨[(.ro, (.int .i64)), (.ro, (.int .i64))], [(false, (.int .i64)), (false, (.int .i64))]⟩
  | 155 => ⟨[(.ro, (.sl (.int .i64)))], [(false, (.int .i64))]⟩
  | 156 => ⟨[(.ro, (.sl (.int .i64)))], [(false, (.int .i64))]⟩
  | 260 => ⟨[(.ps, (.pair (.sl (.int .u8)) (.pair (.int .i64) (.int .u64))))], [(false, (.int .i64))]⟩
  | 264 => ⟨[(.ro, (.sl (.int .i64))), (.ro, (.int .i64)), (.ro, (.int .i64))], [(false, .bool)]⟩
  | 271 => ⟨[(.ro, (.int .i64)), (.ro, (.int .i64))], [(false, (.int .i64))]⟩
  | _ => ⟨[], []⟩
def pvLoops : FuncId → Nat → LoopA
  | 4, 0 => ⟨[(40, false, (.int .i64)), (41, false, (.int .i64)), (265, false, (.int .i64))], [], [], []⟩
  | 29, 0 => ⟨[(5, false, (.int .i64)), (14, false, (.int .i64))], [], [], []⟩
  | 30, 0 => ⟨[(5, false, (.int .i64)), (15, false, (.int .i64))], [], [], []⟩
  | 37, 0 => ⟨[(4, false, .bool), (9, false, (.int .i64))], [], [], []⟩
  | 145, 0 => ⟨[(3, true, (.sl (.int .i64)))], [(0, (.pair (.sl (.int .u8)) (.pair (.int .i64) (.int .u64))))], [], []⟩
  | 145, 1 => ⟨[(45, false, (.int .i64))], [], [(3, (.int .i64))], []⟩
  | 146, 0 => ⟨[(2, false, .bool), (7, false, (.int .i64))], [], [], []⟩
  | 150, 0 => ⟨[(3, true, (.sl (.int .i64))), (9, false, (.int .i64))], [], [], []⟩
  | 150, 1 => ⟨[(6, false, (.int .i64))], [], [], []⟩
  | 151, 0 => ⟨[(3, false, (.int .i64)), (8, false, (.int .i64))], [], [], []⟩
  | 153, 0 => ⟨[(3, false, (.int .i64)), (8, false, (.int .i64))], [], [], []⟩
  | 154, 0 => ⟨[(6, false, (.int .i64)), (7, false, (.int .i64))], [], [], []⟩
  | 155, 0 => ⟨[(3, false, (.int .i64)), (4, false, (.int .i64))], [], [], []⟩
  | 156, 0 => ⟨[(3, false, (.int .i64)), (4, false, (.int .i64))], [], [], []⟩
  | 264, 0 => ⟨[(6, false, .bool), (11, false, (.int .i64))], [], [], []⟩
  | 271, 0 => ⟨[(0, false, (.int .i64)), (1, false, (.int .i64))], [], [], []⟩
  | _, _ => ⟨[], [], [], []⟩
def pvEloops : FuncId → Nat → List (Nat × Value)
  | 4, 0 => [(4, (.bool false)), (5, (.slice none 0 0)), (6, (.int .i64 0)), (7, (.int .i64 0)), (10, (.int .i64 0)), (40, (.int .i64 0)), (41, (.int .i64 0)), (263, (.slice none 0 0)), (264, (.int .i64 0)), (265, (.int .i64 0))]
  | 29, 0 => [(0, (.slice none 0 0)), (2, (.int .i64 0)), (3, (.int .i64 0)), (4, (.bool false)), (5, (.int .i64 0)), (12, (.slice none 0 0)), (13, (.int .i64 0)), (14, (.int .i64 0))]
  | 30, 0 => [(0, (.slice none 0 0)), (2, (.int .i64 0)), (3, (.int .i64 0)), (4, (.bool false)), (5, (.int .i64 0)), (13, (.slice none 0 0)), (14, (.int .i64 0)), (15, (.int .i64 0))]
  | 37, 0 => [(1, (.int .i64 0)), (4, (.bool false)), (7, (.slice none 0 0)), (8, (.int .i64 0)), (9, (.int .i64 0))]
  | 145, 0 => [(0, (.pointer (some ⟨0, 0, none⟩))), (2, (.slice none 0 0)), (3, (.slice none 0 0)), (4, (.int .i64 0))]
  | 145, 1 => [(2, (.slice none 0 0)), (3, (.slice none 0 0)), (44, (.int .i64 0)), (45, (.int .i64 0))]
  | 146, 0 => [(0, (.slice none 0 0)), (2, (.bool false)), (5, (.slice none 0 0)), (6, (.int .i64 0)), (7, (.int .i64 0))]
  | 150, 0 => [(2, (.slice none 0 0)), (3, (.slice none 0 0)), (7, (.slice none 0 0)), (8, (.int .i64 0)), (9, (.int .i64 0))]
  | 150, 1 => [(2, (.slice none 0 0)), (3, (.slice none 0 0)), (5, (.int .i64 0)), (6, (.int .i64 0)), (7, (.slice none 0 0)), (8, (.int .i64 0)), (9, (.int .i64 0)), (10, (.bool false)), (11, (.pointer (some ⟨0, 0, none⟩))), (12, (.int .i64 0)), (13, (.slice none 0 0)), (14, (.int .i64 0))]
  | 151, 0 => [(2, (.int .i64 0)), (3, (.int .i64 0)), (6, (.slice none 0 0)), (7, (.int .i64 0)), (8, (.int .i64 0))]
  | 153, 0 => [(2, (.int .i64 0)), (3, (.int .i64 0)), (6, (.slice none 0 0)), (7, (.int .i64 0)), (8, (.int .i64 0))]
  | 154, 0 => [(0, (.int .i64 0)), (1, (.int .i64 0)), (4, (.int .i64 0)), (5, (.int .i64 0)), (6, (.int .i64 0)), (7, (.int .i64 0))]
  | 155, 0 => [(0, (.slice none 0 0)), (2, (.int .i64 0)), (3, (.int .i64 0)), (4, (.int .i64 0))]
  | 156, 0 => [(0, (.slice none 0 0)), (2, (.int .i64 0)), (3, (.int .i64 0)), (4, (.int .i64 0))]
  | 264, 0 => [(1, (.int .i64 0)), (2, (.int .i64 0)), (6, (.bool false)), (9, (.slice none 0 0)), (10, (.int .i64 0)), (11, (.int .i64 0))]
  | 271, 0 => [(0, (.int .i64 0)), (1, (.int .i64 0)), (4, (.int .i64 0))]
  | _, _ => []
def pvInline : FuncId → Bool
  | 131 => true
  | 132 => true
  | 263 => true
  | 292 => true
  | 293 => true
  | 298 => true
  | 318 => true
  | 319 => true
  | 336 => true
  | 337 => true
  | 338 => true
  | 339 => true
  | 342 => true
  | 353 => true
  | 354 => true
  | _ => false
def pvExt : FuncId → Option (List Value → Nat → Go.Ev.Heap → Option (Value × Go.Ev.Heap))
  | 148 => some sortX
  | _ => none
def pvVext : (f : FuncId) → Option (TupT (pvSig f).ptys → Option (TupT (pvSig f).rtys))
  | 148 => some (fun a => sortV a)
  | _ => none
noncomputable def pvAnn : AnnV := ⟨fuelN, pvSig, pvLoops, pvEloops, pvInline, pvExt, pvVext⟩

/-- (*loop.example/g00838/spec.l1Cur).next -/
noncomputable def g260 (d : Nat) (x1 : ((List Int) × Int × Int)) : Option (Int × ((List Int) × Int × Int)) := (lev Try.prog pvAnn d).call 260 (x1)
/-- (*loop.example/g00838/spec.l1Cur).pick -/
noncomputable def g124 (d : Nat) (x1 : ((List Int) × Int × Int)) (n2 : Int) : Option (Int × ((List Int) × Int × Int)) := (lev Try.prog pvAnn d).call 124 (x1, n2)
/-- (*loop.example/g00838/spec.l1Cur).among -/
noncomputable def g141 (d : Nat) (x1 : ((List Int) × Int × Int)) (l2 : List Int) : Option (Int × ((List Int) × Int × Int)) := (lev Try.prog pvAnn d).call 141 (x1, l2)
/-- (*loop.example/g00838/spec.l1Cur).one -/
noncomputable def g125 (d : Nat) (x1 : ((List Int) × Int × Int)) (n2 : Int) : Option (Bool × ((List Int) × Int × Int)) := (lev Try.prog pvAnn d).call 125 (x1, n2)
/-- (*loop.example/g00838/spec.l1Cur).values -/
noncomputable def g145 (d : Nat) (x1 : ((List Int) × Int × Int)) : Option ((List Int) × ((List Int) × Int × Int)) := (lev Try.prog pvAnn d).call 145 (x1)
/-- loop.example/g00838/spec.DrawQuantileOf -/
noncomputable def g23 (d : Nat) (l1 : List Int) : Option ((List Int) × Int × Int) := (lev Try.prog pvAnn d).call 23 (l1)
/-- loop.example/g00838/impl.areShares -/
noncomputable def g146 (d : Nat) (l1 : List Int) : Option Bool := (lev Try.prog pvAnn d).call 146 (l1)
/-- slices.Clone[[]int,int] -/
noncomputable def g147 (d : Nat) (l1 : List Int) : Option (List Int) := (lev Try.prog pvAnn d).call 147 (l1)
/-- slices.Sort[[]int,int] -/
noncomputable def g148 (d : Nat) (l1 : List Int) : Option (List Int) := (lev Try.prog pvAnn d).call 148 l1
/-- loop.example/g00838/impl.QuantileOf -/
noncomputable def g24 (d : Nat) (l1 : List Int) (n2 : Int) (n3 : Int) : Option (Int × Bool) := (lev Try.prog pvAnn d).call 24 (l1, n2, n3)
/-- loop.example/g00838/spec.l1In -/
noncomputable def g142 (d : Nat) (n1 : Int) (n2 : Int) (n3 : Int) : Option Bool := (lev Try.prog pvAnn d).call 142 (n1, n2, n3)
/-- loop.example/g00838/spec.l1All -/
noncomputable def g264 (d : Nat) (l1 : List Int) (n2 : Int) (n3 : Int) : Option Bool := (lev Try.prog pvAnn d).call 264 (l1, n2, n3)
/-- loop.example/g00838/spec.stGood -/
noncomputable def g149 (d : Nat) (l1 : List Int) : Option Bool := (lev Try.prog pvAnn d).call 149 (l1)
/-- loop.example/g00838/spec.stSorted -/
noncomputable def g150 (d : Nat) (l1 : List Int) : Option (List Int) := (lev Try.prog pvAnn d).call 150 (l1)
/-- loop.example/g00838/spec.QuantileOf -/
noncomputable def g25 (d : Nat) (l1 : List Int) (n2 : Int) (n3 : Int) : Option (Int × Bool) := (lev Try.prog pvAnn d).call 25 (l1, n2, n3)
/-- loop.example/g00838/spec.DrawShareOf -/
noncomputable def g26 (d : Nat) (l1 : List Int) : Option ((List Int) × Int) := (lev Try.prog pvAnn d).call 26 (l1)
/-- loop.example/g00838/impl.sumInts -/
noncomputable def g151 (d : Nat) (l1 : List Int) : Option Int := (lev Try.prog pvAnn d).call 151 (l1)
/-- loop.example/g00838/impl.gcd -/
noncomputable def g271 (d : Nat) (n1 : Int) (n2 : Int) : Option Int := (lev Try.prog pvAnn d).call 271 (n1, n2)
/-- loop.example/g00838/impl.fraction -/
noncomputable def g152 (d : Nat) (n1 : Int) (n2 : Int) : Option (Int × Int × Bool) := (lev Try.prog pvAnn d).call 152 (n1, n2)
/-- loop.example/g00838/impl.ShareOf -/
noncomputable def g27 (d : Nat) (l1 : List Int) (n2 : Int) : Option (Int × Int × Bool) := (lev Try.prog pvAnn d).call 27 (l1, n2)
/-- loop.example/g00838/spec.stSum -/
noncomputable def g153 (d : Nat) (l1 : List Int) : Option Int := (lev Try.prog pvAnn d).call 153 (l1)
/-- loop.example/g00838/spec.stPart -/
noncomputable def g154 (d : Nat) (n1 : Int) (n2 : Int) : Option (Int × Int) := (lev Try.prog pvAnn d).call 154 (n1, n2)
/-- loop.example/g00838/spec.ShareOf -/
noncomputable def g28 (d : Nat) (l1 : List Int) (n2 : Int) : Option (Int × Int × Bool) := (lev Try.prog pvAnn d).call 28 (l1, n2)
/-- loop.example/g00838/impl.FairnessOf -/
noncomputable def g29 (d : Nat) (l1 : List Int) : Option (Int × Int × Bool) := (lev Try.prog pvAnn d).call 29 (l1)
/-- loop.example/g00838/spec.FairnessOf -/
noncomputable def g30 (d : Nat) (l1 : List Int) : Option (Int × Int × Bool) := (lev Try.prog pvAnn d).call 30 (l1)
/-- loop.example/g00838/impl.MeanOf -/
noncomputable def g31 (d : Nat) (l1 : List Int) : Option (Int × Int × Bool) := (lev Try.prog pvAnn d).call 31 (l1)
/-- loop.example/g00838/spec.MeanOf -/
noncomputable def g32 (d : Nat) (l1 : List Int) : Option (Int × Int × Bool) := (lev Try.prog pvAnn d).call 32 (l1)
/-- loop.example/g00838/impl.SumOf -/
noncomputable def g33 (d : Nat) (l1 : List Int) : Option (Int × Bool) := (lev Try.prog pvAnn d).call 33 (l1)
/-- loop.example/g00838/spec.SumOf -/
noncomputable def g34 (d : Nat) (l1 : List Int) : Option (Int × Bool) := (lev Try.prog pvAnn d).call 34 (l1)
/-- slices.Max[[]int,int] -/
noncomputable def g155 (d : Nat) (l1 : List Int) : Option Int := (lev Try.prog pvAnn d).call 155 (l1)
/-- slices.Min[[]int,int] -/
noncomputable def g156 (d : Nat) (l1 : List Int) : Option Int := (lev Try.prog pvAnn d).call 156 (l1)
/-- loop.example/g00838/impl.SpreadOf -/
noncomputable def g35 (d : Nat) (l1 : List Int) : Option (Int × Bool) := (lev Try.prog pvAnn d).call 35 (l1)
/-- loop.example/g00838/spec.SpreadOf -/
noncomputable def g36 (d : Nat) (l1 : List Int) : Option (Int × Bool) := (lev Try.prog pvAnn d).call 36 (l1)
/-- loop.example/g00838/laws.qHas -/
noncomputable def g37 (d : Nat) (l1 : List Int) (n2 : Int) : Option Bool := (lev Try.prog pvAnn d).call 37 (l1, n2)
/-- loop.example/g00838/laws.FnStatistics -/
noncomputable def g4 (d : Nat) (l1 : List Int) (l2 : List Int) : Option Bool := (lev Try.prog pvAnn d).call 4 (l1, l2)

noncomputable def j260_0 (d : Nat) (x1 : ((List Int) × Int × Int)) (n2 : Int) : Option (Int × ((List Int) × Int × Int)) :=
 oif (decide (((IntKind.i64.wrap (x1.2.1 + 1)) : Int) ≤ ((x1.1.length : Nat) : Int))) (
 some (n2, (x1.1, (IntKind.i64.wrap (x1.2.1 + 1)), (IntKind.u64.wrap ((IntKind.u64.wrap ((IntKind.u64.wrap (x1.2.2 * 6364136223846793005)) + (IntKind.u64.wrap n2))) + 1442695040888963407))))) (
 some ((IntKind.i64.wrap (IntKind.u64.wrap ((BitVec.ofInt IntKind.u64.bits ((IntKind.u64.wrap ((IntKind.u64.wrap ((IntKind.u64.wrap (x1.2.2 * 6364136223846793005)) + (IntKind.u64.wrap n2))) + 1442695040888963407)).fdiv (2 ^ (min (40 : Int).toNat IntKind.u64.bits))) &&& BitVec.ofInt IntKind.u64.bits 255).toNat : Int))), (x1.1, (IntKind.i64.wrap (x1.2.1 + 1)), (IntKind.u64.wrap ((IntKind.u64.wrap ((IntKind.u64.wrap (x1.2.2 * 6364136223846793005)) + (IntKind.u64.wrap n2))) + 1442695040888963407)))))
theorem e260 (d : Nat) (x1 : ((List Int) × Int × Int)) : g260 (d + 1) x1 =
 oif (decide ((x1.2.1 : Int) < ((x1.1.length : Nat) : Int))) (
 oif (decide (0 ≤ (x1.2.1 : Int))) (
 obind (x1.1[(x1.2.1 : Int).toNat]?) fun n2 =>
 j260_0 d x1 (IntKind.i64.wrap n2)) none) (
 j260_0 d x1 0) := by kernel_rfl

theorem e124 (d : Nat) (x1 : ((List Int) × Int × Int)) (n2 : Int) : g124 (d + 1) x1 n2 =
 oif (decide ((n2 : Int) ≤ 1)) (
 some (0, x1)) (
 obind (g260 d x1) fun r3 =>
 oif (decide ((n2 : Int) > 200)) (
 obind (g260 d r3.2) fun r4 =>
 oif ((n2 : Int) == 0) none (
 some (((IntKind.i64.wrap ((IntKind.i64.wrap (r3.1 * 256)) + r4.1)).tmod n2), r4.2))) (
 oif ((n2 : Int) == 0) none (
 some ((r3.1.tmod n2), r3.2)))) := by kernel_rfl

theorem e141 (d : Nat) (x1 : ((List Int) × Int × Int)) (l2 : List Int) : g141 (d + 1) x1 l2 =
 obind (g124 d x1 ((l2.length : Nat) : Int)) fun r3 =>
 oif (decide (0 ≤ (r3.1 : Int))) (
 obind (l2[(r3.1 : Int).toNat]?) fun n4 =>
 some (n4, r3.2)) none := by kernel_rfl

theorem e125 (d : Nat) (x1 : ((List Int) × Int × Int)) (n2 : Int) : g125 (d + 1) x1 n2 =
 obind (g124 d x1 n2) fun r3 =>
 some (((r3.1 : Int) == 0), r3.2) := by kernel_rfl

noncomputable def j145_0 (d : Nat) (r13 : (Int × ((List Int) × Int × Int))) (l18 : List Int) : Option ((List Int) × ((List Int) × Int × Int)) :=
 some (l18, r13.2)
noncomputable def l145_1_b (d : Nat) (l12 : List Int) (kx145_1_0 : (List Int) → Option ((List Int) × ((List Int) × Int × Int))) (ag17 : (Int × (List Int)) → Option ((List Int) × ((List Int) × Int × Int))) (n18 : Int) (l19 : List Int) : Option ((List Int) × ((List Int) × Int × Int)) :=
 oif (decide ((n18 : Int) < ((l12.length : Nat) : Int))) (
 oif (decide (0 ≤ (n18 : Int))) (
 oif (Nat.blt ((n18 : Int).toNat) l19.length) (
 obind (l19[(n18 : Int).toNat]?) fun n20 =>
 ag17 ((IntKind.i64.wrap (n18 + 1)), (l19.set ((n18 : Int).toNat) 1000000))) none) none) (
 kx145_1_0 l19)
noncomputable def l145_1 (d : Nat) (l12 : List Int) (kx145_1_0 : (List Int) → Option ((List Int) × ((List Int) × Int × Int))) (ag17 : (Int × (List Int)) → Option ((List Int) × ((List Int) × Int × Int))) (s : (Int × (List Int))) : Option ((List Int) × ((List Int) × Int × Int)) := l145_1_b d l12 kx145_1_0 ag17 s.1 s.2
noncomputable def j145_1 (d : Nat)  (l9 : List Int) (n10 : Int) (n11 : Int) (l12 : List Int) : Option ((List Int) × ((List Int) × Int × Int)) :=
 obind (g124 d (l9, n10, n11) 24) fun r13 =>
 oif ((r13.1 : Int) == 0) (
 obind (g124 d r13.2 ((l12.length : Nat) : Int)) fun r14 =>
 obind (g141 d r14.2 [(-1), 1000000, 1000001]) fun r15 =>
 oif (decide (0 ≤ (r14.1 : Int))) (
 oif (Nat.blt ((r14.1 : Int).toNat) l12.length) (
 obind (l12[(r14.1 : Int).toNat]?) fun n16 =>
 some ((l12.set ((r14.1 : Int).toNat) r15.1), r15.2)) none) none) (
 oif ((r13.1 : Int) == 1) (
 some ([], r13.2)) (
 oif ((r13.1 : Int) == 2) (
 iterP (l145_1 d l12 (j145_0 d r13)) fuelN (0, l12)) (
 some (l12, r13.2))))
noncomputable def l145_0_b (d : Nat) (n4 : Int) (kx145_0_0 : (List Int) → Int → Int → (List Int) → Option ((List Int) × ((List Int) × Int × Int))) (ag8 : ((List Int) × ((List Int) × Int × Int)) → Option ((List Int) × ((List Int) × Int × Int))) (l9 : List Int) (x10 : ((List Int) × Int × Int)) : Option ((List Int) × ((List Int) × Int × Int)) :=
 oif (decide ((((l9.length : Nat) : Int) : Int) < n4)) (
 obind (g124 d x10 900) fun r11 =>
 obind (g141 d r11.2 [0, 1, 2, 5, 9, 40, r11.1]) fun r12 =>
 oif (Nat.ble ((l9.length + [r12.1].length) * 8) roomMax) (
 ag8 ((l9 ++ [r12.1]), r12.2)) none) (
 kx145_0_0 x10.1 x10.2.1 x10.2.2 l9)
noncomputable def l145_0 (d : Nat) (n4 : Int) (kx145_0_0 : (List Int) → Int → Int → (List Int) → Option ((List Int) × ((List Int) × Int × Int))) (ag8 : ((List Int) × ((List Int) × Int × Int)) → Option ((List Int) × ((List Int) × Int × Int))) (s : ((List Int) × ((List Int) × Int × Int))) : Option ((List Int) × ((List Int) × Int × Int)) := l145_0_b d n4 kx145_0_0 ag8 s.1 s.2
noncomputable def j145_2 (d : Nat)  (n4 : Int) (l5 : List Int) (n6 : Int) (n7 : Int) : Option ((List Int) × ((List Int) × Int × Int)) :=
 iterP (l145_0 d n4 (j145_1 d)) fuelN ([], (l5, n6, n7))
theorem e145 (d : Nat) (x1 : ((List Int) × Int × Int)) : g145 (d + 1) x1 =
 obind (g124 d x1 8) fun r2 =>
 obind (g125 d r2.2 24) fun r3 =>
 oif r3.1 (
 obind (g124 d r3.2 2) fun r4 =>
 j145_2 d (IntKind.i64.wrap ((40 : Int) + r4.1)) r4.2.1 r4.2.2.1 r4.2.2.2) (
 j145_2 d (IntKind.i64.wrap ((1 : Int) + r2.1)) r3.2.1 r3.2.2.1 r3.2.2.2) := by kernel_rfl

theorem e23 (d : Nat) (l1 : List Int) : g23 (d + 1) l1 =
 obind (g141 d (l1, 0, 0) [1, 2, 4, 10, 100, 1000, 1001, 0]) fun r2 =>
 obind (g145 d r2.2) fun r3 =>
 obind (g141 d r3.2 [1, (IntKind.i64.wrap (r2.1.tdiv 2)), r2.1, (IntKind.i64.wrap (r2.1 + 1)), 0, (IntKind.i64.wrap ((IntKind.i64.wrap ((9 : Int) * r2.1)).tdiv 10))]) fun r4 =>
 some (r3.1, r4.1, r2.1) := by kernel_rfl

noncomputable def j146_0 (d : Nat) (l1 : List Int) (b3 : Bool) : Option Bool :=
 oif (decide ((((l1.length : Nat) : Int) : Int) ≥ 1)) (
 some (decide ((((l1.length : Nat) : Int) : Int) ≤ 40))) (
 some false)
noncomputable def l146_0_b (d : Nat) (l1 : List Int) (kx146_0_0 : Bool → Option Bool) (ag2 : (Bool × Int) → Option Bool) (b3 : Bool) (n4 : Int) : Option Bool :=
 oif (decide ((n4 : Int) < ((l1.length : Nat) : Int))) (
 oif (decide (0 ≤ (n4 : Int))) (
 obind (l1[(n4 : Int).toNat]?) fun n5 =>
 oif (decide ((n5 : Int) < 0)) (
 some false) (
 oif (decide ((n5 : Int) > 1000000)) (
 some false) (
 ag2 (b3, (IntKind.i64.wrap (n4 + 1)))))) none) (
 kx146_0_0 b3)
noncomputable def l146_0 (d : Nat) (l1 : List Int) (kx146_0_0 : Bool → Option Bool) (ag2 : (Bool × Int) → Option Bool) (s : (Bool × Int)) : Option Bool := l146_0_b d l1 kx146_0_0 ag2 s.1 s.2
theorem e146 (d : Nat) (l1 : List Int) : g146 (d + 1) l1 =
 iterP (l146_0 d l1 (j146_0 d l1)) fuelN (false, 0) := by kernel_rfl

theorem e147 (d : Nat) (l1 : List Int) : g147 (d + 1) l1 =
 nilB l1.length (
 some []) (
 oif (Nat.ble ((([] : List Int).length + l1.length) * 8) roomMax) (
 some (([] : List Int) ++ l1)) none) := by kernel_rfl

theorem e148 (d : Nat) (l1 : List Int) : g148 (d + 1) l1 =
 oif (Nat.ble 1 l1.length && Nat.ble l1.length 1000000) (some (l1.mergeSort fun x y => decide (x ≤ y))) none := by kernel_rfl

noncomputable def j24_0 (d : Nat) (l1 : List Int) (n2 : Int) (n3 : Int) (b4 : Bool) : Option (Int × Bool) :=
 oif b4 (
 some (0, false)) (
 obind (g147 d l1) fun r5 =>
 obind (g148 d r5) fun r6 =>
 oif ((n3 : Int) == 0) none (
 oif (decide (0 ≤ ((IntKind.i64.wrap ((IntKind.i64.wrap ((IntKind.i64.wrap ((IntKind.i64.wrap ((IntKind.i64.wrap (((l1.length : Nat) : Int) * n2)) + n3)) - 1)).tdiv n3)) - 1)) : Int))) (
 oif (Nat.blt (((IntKind.i64.wrap ((IntKind.i64.wrap ((IntKind.i64.wrap ((IntKind.i64.wrap ((IntKind.i64.wrap (((l1.length : Nat) : Int) * n2)) + n3)) - 1)).tdiv n3)) - 1)) : Int).toNat) r6.length) (
 obind (r6[((IntKind.i64.wrap ((IntKind.i64.wrap ((IntKind.i64.wrap ((IntKind.i64.wrap ((IntKind.i64.wrap (((l1.length : Nat) : Int) * n2)) + n3)) - 1)).tdiv n3)) - 1)) : Int).toNat]?) fun n7 =>
 some (n7, true)) none) none))
theorem e24 (d : Nat) (l1 : List Int) (n2 : Int) (n3 : Int) : g24 (d + 1) l1 n2 n3 =
 obind (g146 d l1) fun r4 =>
 oif (!r4) (
 j24_0 d l1 n2 n3 true) (
 oif (decide ((n2 : Int) < 1)) (
 j24_0 d l1 n2 n3 true) (
 oif (decide ((n2 : Int) > n3)) (
 j24_0 d l1 n2 n3 true) (
 j24_0 d l1 n2 n3 (decide ((n3 : Int) > 1000))))) := by kernel_rfl

theorem e142 (d : Nat) (n1 : Int) (n2 : Int) (n3 : Int) : g142 (d + 1) n1 n2 n3 =
 oif (decide ((n1 : Int) ≥ n2)) (
 some (decide ((n1 : Int) ≤ n3))) (
 some false) := by kernel_rfl

noncomputable def j264_0 (d : Nat)  (b5 : Bool) : Option Bool :=
 some true
noncomputable def l264_0_b (d : Nat) (l1 : List Int) (n2 : Int) (n3 : Int) (kx264_0_0 : Bool → Option Bool) (ag4 : (Bool × Int) → Option Bool) (b5 : Bool) (n6 : Int) : Option Bool :=
 oif (decide ((n6 : Int) < ((l1.length : Nat) : Int))) (
 oif (decide (0 ≤ (n6 : Int))) (
 obind (l1[(n6 : Int).toNat]?) fun n7 =>
 obind (g142 d n7 n2 n3) fun r8 =>
 oif (!r8) (
 some false) (
 ag4 (b5, (IntKind.i64.wrap (n6 + 1))))) none) (
 kx264_0_0 b5)
noncomputable def l264_0 (d : Nat) (l1 : List Int) (n2 : Int) (n3 : Int) (kx264_0_0 : Bool → Option Bool) (ag4 : (Bool × Int) → Option Bool) (s : (Bool × Int)) : Option Bool := l264_0_b d l1 n2 n3 kx264_0_0 ag4 s.1 s.2
theorem e264 (d : Nat) (l1 : List Int) (n2 : Int) (n3 : Int) : g264 (d + 1) l1 n2 n3 =
 iterP (l264_0 d l1 n2 n3 (j264_0 d)) fuelN (false, 0) := by kernel_rfl

theorem e149 (d : Nat) (l1 : List Int) : g149 (d + 1) l1 =
 obind (g142 d ((l1.length : Nat) : Int) 1 40) fun r2 =>
 oif r2 (
 obind (g264 d l1 0 1000000) fun r3 =>
 some r3) (
 some false) := by kernel_rfl

noncomputable def j150_0 (d : Nat)  (l3 : List Int) : Option (List Int) :=
 some l3
noncomputable def j150_1 (d : Nat) (ag2 : ((List Int) × Int) → Option (List Int)) (l3 : List Int) (n4 : Int) (n5 : Int) (n7 : Int) (n8 : Int) (b9 : Bool) (b10 : Bool) : Option (List Int) :=
 oif (decide (0 ≤ (n7 : Int))) (
 oif (Nat.ble ((n7 : Int).toNat) l3.length) (
 oif (Nat.ble ((([] : List Int).length + (l3.take ((n7 : Int).toNat)).length) * 8) roomMax) (
 oif (Nat.ble (((([] : List Int) ++ (l3.take ((n7 : Int).toNat))).length + [n5].length) * 8) roomMax) (
 oif (decide (0 ≤ (n7 : Int))) (
 oif (Nat.ble ((n7 : Int).toNat) l3.length) (
 oif (Nat.ble ((((([] : List Int) ++ (l3.take ((n7 : Int).toNat))) ++ [n5]).length + (l3.drop (0 + (n7 : Int).toNat)).length) * 8) roomMax) (
 ag2 ((((([] : List Int) ++ (l3.take ((n7 : Int).toNat))) ++ [n5]) ++ (l3.drop (0 + (n7 : Int).toNat))), (IntKind.i64.wrap (n4 + 1)))) none) none) none) none) none) none) none
noncomputable def l150_1_b (d : Nat) (l3 : List Int) (n5 : Int) (kx150_1_0 : Int → Int → Bool → Bool → Option (List Int)) (ag6 : Int → Option (List Int)) (n7 : Int) : Option (List Int) :=
 oif (decide ((n7 : Int) > 0)) (
 oif (decide (0 ≤ ((IntKind.i64.wrap (n7 - 1)) : Int))) (
 oif (Nat.blt (((IntKind.i64.wrap (n7 - 1)) : Int).toNat) l3.length) (
 obind (l3[((IntKind.i64.wrap (n7 - 1)) : Int).toNat]?) fun n8 =>
 oif (decide ((n8 : Int) > n5)) (
 ag6 (IntKind.i64.wrap (n7 - 1))) (
 kx150_1_0 n7 n7 (decide ((n7 : Int) > 0)) true)) none) none) (
 kx150_1_0 n7 n7 (decide ((n7 : Int) > 0)) false)
noncomputable def l150_1 (d : Nat) (l3 : List Int) (n5 : Int) (kx150_1_0 : Int → Int → Bool → Bool → Option (List Int)) (ag6 : Int → Option (List Int)) (s : Int) : Option (List Int) := l150_1_b d l3 n5 kx150_1_0 ag6 s
noncomputable def l150_0_b (d : Nat) (l1 : List Int) (kx150_0_0 : (List Int) → Option (List Int)) (ag2 : ((List Int) × Int) → Option (List Int)) (l3 : List Int) (n4 : Int) : Option (List Int) :=
 oif (decide ((n4 : Int) < ((l1.length : Nat) : Int))) (
 oif (decide (0 ≤ (n4 : Int))) (
 obind (l1[(n4 : Int).toNat]?) fun n5 =>
 iterP (l150_1 d l3 n5 (j150_1 d ag2 l3 n4 n5)) fuelN ((l3.length : Nat) : Int)) none) (
 kx150_0_0 l3)
noncomputable def l150_0 (d : Nat) (l1 : List Int) (kx150_0_0 : (List Int) → Option (List Int)) (ag2 : ((List Int) × Int) → Option (List Int)) (s : ((List Int) × Int)) : Option (List Int) := l150_0_b d l1 kx150_0_0 ag2 s.1 s.2
theorem e150 (d : Nat) (l1 : List Int) : g150 (d + 1) l1 =
 iterP (l150_0 d l1 (j150_0 d)) fuelN ([], 0) := by kernel_rfl

noncomputable def j25_0 (d : Nat) (l1 : List Int) (n2 : Int) (n3 : Int) (b4 : Bool) : Option (Int × Bool) :=
 oif b4 (
 some (0, false)) (
 obind (g150 d l1) fun r5 =>
 oif ((n3 : Int) == 0) none (
 oif (decide (0 ≤ ((IntKind.i64.wrap ((IntKind.i64.wrap ((IntKind.i64.wrap ((IntKind.i64.wrap ((IntKind.i64.wrap (n2 * ((l1.length : Nat) : Int))) + n3)) - 1)).tdiv n3)) - 1)) : Int))) (
 oif (Nat.blt (((IntKind.i64.wrap ((IntKind.i64.wrap ((IntKind.i64.wrap ((IntKind.i64.wrap ((IntKind.i64.wrap (n2 * ((l1.length : Nat) : Int))) + n3)) - 1)).tdiv n3)) - 1)) : Int).toNat) r5.length) (
 obind (r5[((IntKind.i64.wrap ((IntKind.i64.wrap ((IntKind.i64.wrap ((IntKind.i64.wrap ((IntKind.i64.wrap (n2 * ((l1.length : Nat) : Int))) + n3)) - 1)).tdiv n3)) - 1)) : Int).toNat]?) fun n6 =>
 some (n6, true)) none) none))
theorem e25 (d : Nat) (l1 : List Int) (n2 : Int) (n3 : Int) : g25 (d + 1) l1 n2 n3 =
 obind (g149 d l1) fun r4 =>
 oif (!r4) (
 j25_0 d l1 n2 n3 true) (
 obind (g142 d n3 1 1000) fun r5 =>
 oif (!r5) (
 j25_0 d l1 n2 n3 true) (
 obind (g142 d n2 1 n3) fun r6 =>
 j25_0 d l1 n2 n3 (!r6))) := by kernel_rfl

theorem e26 (d : Nat) (l1 : List Int) : g26 (d + 1) l1 =
 obind (g145 d (l1, 0, 0)) fun r2 =>
 obind (g124 d r2.2 (IntKind.i64.wrap (((r2.1.length : Nat) : Int) + 1))) fun r3 =>
 obind (g124 d r3.2 20) fun r4 =>
 some (r2.1, (IntKind.i64.wrap (r3.1 - (IntKind.i64.wrap (r4.1.tdiv 19))))) := by kernel_rfl

noncomputable def j151_0 (d : Nat)  (n3 : Int) : Option Int :=
 some n3
noncomputable def l151_0_b (d : Nat) (l1 : List Int) (kx151_0_0 : Int → Option Int) (ag2 : (Int × Int) → Option Int) (n3 : Int) (n4 : Int) : Option Int :=
 oif (decide ((n4 : Int) < ((l1.length : Nat) : Int))) (
 oif (decide (0 ≤ (n4 : Int))) (
 obind (l1[(n4 : Int).toNat]?) fun n5 =>
 ag2 ((IntKind.i64.wrap (n3 + n5)), (IntKind.i64.wrap (n4 + 1)))) none) (
 kx151_0_0 n3)
noncomputable def l151_0 (d : Nat) (l1 : List Int) (kx151_0_0 : Int → Option Int) (ag2 : (Int × Int) → Option Int) (s : (Int × Int)) : Option Int := l151_0_b d l1 kx151_0_0 ag2 s.1 s.2
theorem e151 (d : Nat) (l1 : List Int) : g151 (d + 1) l1 =
 iterP (l151_0 d l1 (j151_0 d)) fuelN (0, 0) := by kernel_rfl

noncomputable def j271_0 (d : Nat)  (n4 : Int) : Option Int :=
 some n4
noncomputable def l271_0_b (d : Nat)  (kx271_0_0 : Int → Option Int) (ag3 : (Int × Int) → Option Int) (n4 : Int) (n5 : Int) : Option Int :=
 oif ((n5 : Int) != 0) (
 oif ((n5 : Int) == 0) none (
 ag3 (n5, (n4.tmod n5)))) (
 kx271_0_0 n4)
noncomputable def l271_0 (d : Nat)  (kx271_0_0 : Int → Option Int) (ag3 : (Int × Int) → Option Int) (s : (Int × Int)) : Option Int := l271_0_b d kx271_0_0 ag3 s.1 s.2
theorem e271 (d : Nat) (n1 : Int) (n2 : Int) : g271 (d + 1) n1 n2 =
 iterP (l271_0 d (j271_0 d)) fuelN (n1, n2) := by kernel_rfl

theorem e152 (d : Nat) (n1 : Int) (n2 : Int) : g152 (d + 1) n1 n2 =
 obind (g271 d n1 n2) fun r3 =>
 oif ((r3 : Int) == 0) none (
 oif ((r3 : Int) == 0) none (
 some ((IntKind.i64.wrap (n1.tdiv r3)), (IntKind.i64.wrap (n2.tdiv r3)), true))) := by kernel_rfl

noncomputable def j27_0 (d : Nat) (l1 : List Int) (n2 : Int) (b3 : Bool) : Option (Int × Int × Bool) :=
 oif b3 (
 some (0, 0, false)) (
 obind (g151 d l1) fun r4 =>
 oif ((r4 : Int) == 0) (
 some (0, 1, true)) (
 oif (decide (0 ≤ (n2 : Int))) (
 obind (l1[(n2 : Int).toNat]?) fun n5 =>
 obind (g152 d n5 r4) fun r6 =>
 some (r6.1, r6.2.1, r6.2.2)) none))
theorem e27 (d : Nat) (l1 : List Int) (n2 : Int) : g27 (d + 1) l1 n2 =
 obind (g146 d l1) fun r3 =>
 oif (!r3) (
 j27_0 d l1 n2 true) (
 oif (decide ((n2 : Int) < 0)) (
 j27_0 d l1 n2 true) (
 j27_0 d l1 n2 (decide ((n2 : Int) ≥ ((l1.length : Nat) : Int))))) := by kernel_rfl

noncomputable def j153_0 (d : Nat)  (n3 : Int) : Option Int :=
 some n3
noncomputable def l153_0_b (d : Nat) (l1 : List Int) (kx153_0_0 : Int → Option Int) (ag2 : (Int × Int) → Option Int) (n3 : Int) (n4 : Int) : Option Int :=
 oif (decide ((n4 : Int) < ((l1.length : Nat) : Int))) (
 oif (decide (0 ≤ (n4 : Int))) (
 obind (l1[(n4 : Int).toNat]?) fun n5 =>
 ag2 ((IntKind.i64.wrap (n3 + n5)), (IntKind.i64.wrap (n4 + 1)))) none) (
 kx153_0_0 n3)
noncomputable def l153_0 (d : Nat) (l1 : List Int) (kx153_0_0 : Int → Option Int) (ag2 : (Int × Int) → Option Int) (s : (Int × Int)) : Option Int := l153_0_b d l1 kx153_0_0 ag2 s.1 s.2
theorem e153 (d : Nat) (l1 : List Int) : g153 (d + 1) l1 =
 iterP (l153_0 d l1 (j153_0 d)) fuelN (0, 0) := by kernel_rfl

noncomputable def j154_0 (d : Nat) (n1 : Int) (n2 : Int) (n4 : Int) : Option (Int × Int) :=
 oif ((n4 : Int) == 0) none (
 oif ((n4 : Int) == 0) none (
 some ((IntKind.i64.wrap (n1.tdiv n4)), (IntKind.i64.wrap (n2.tdiv n4)))))
noncomputable def l154_0_b (d : Nat)  (kx154_0_0 : Int → Option (Int × Int)) (ag3 : (Int × Int) → Option (Int × Int)) (n4 : Int) (n5 : Int) : Option (Int × Int) :=
 oif (decide ((n5 : Int) > 0)) (
 oif ((n5 : Int) == 0) none (
 ag3 (n5, (n4.tmod n5)))) (
 kx154_0_0 n4)
noncomputable def l154_0 (d : Nat)  (kx154_0_0 : Int → Option (Int × Int)) (ag3 : (Int × Int) → Option (Int × Int)) (s : (Int × Int)) : Option (Int × Int) := l154_0_b d kx154_0_0 ag3 s.1 s.2
theorem e154 (d : Nat) (n1 : Int) (n2 : Int) : g154 (d + 1) n1 n2 =
 iterP (l154_0 d (j154_0 d n1 n2)) fuelN (n1, n2) := by kernel_rfl

noncomputable def j28_0 (d : Nat) (l1 : List Int) (n2 : Int) (b3 : Bool) : Option (Int × Int × Bool) :=
 oif b3 (
 some (0, 0, false)) (
 obind (g153 d l1) fun r4 =>
 oif ((r4 : Int) == 0) (
 some (0, 1, true)) (
 oif (decide (0 ≤ (n2 : Int))) (
 obind (l1[(n2 : Int).toNat]?) fun n5 =>
 obind (g153 d l1) fun r6 =>
 obind (g154 d n5 r6) fun r7 =>
 some (r7.1, r7.2, true)) none))
theorem e28 (d : Nat) (l1 : List Int) (n2 : Int) : g28 (d + 1) l1 n2 =
 obind (g149 d l1) fun r3 =>
 oif (!r3) (
 j28_0 d l1 n2 true) (
 obind (g142 d n2 0 (IntKind.i64.wrap (((l1.length : Nat) : Int) - 1))) fun r4 =>
 j28_0 d l1 n2 (!r4)) := by kernel_rfl

noncomputable def j29_0 (d : Nat) (l1 : List Int) (n4 : Int) : Option (Int × Int × Bool) :=
 oif ((n4 : Int) == 0) (
 some (1, 1, true)) (
 obind (g151 d l1) fun r5 =>
 obind (g152 d (IntKind.i64.wrap (r5 * r5)) (IntKind.i64.wrap (((l1.length : Nat) : Int) * n4))) fun r6 =>
 some (r6.1, r6.2.1, r6.2.2))
noncomputable def l29_0_b (d : Nat) (l1 : List Int) (kx29_0_0 : Int → Option (Int × Int × Bool)) (ag3 : (Int × Int) → Option (Int × Int × Bool)) (n4 : Int) (n5 : Int) : Option (Int × Int × Bool) :=
 oif (decide ((n5 : Int) < ((l1.length : Nat) : Int))) (
 oif (decide (0 ≤ (n5 : Int))) (
 obind (l1[(n5 : Int).toNat]?) fun n6 =>
 ag3 ((IntKind.i64.wrap (n4 + (IntKind.i64.wrap (n6 * n6)))), (IntKind.i64.wrap (n5 + 1)))) none) (
 kx29_0_0 n4)
noncomputable def l29_0 (d : Nat) (l1 : List Int) (kx29_0_0 : Int → Option (Int × Int × Bool)) (ag3 : (Int × Int) → Option (Int × Int × Bool)) (s : (Int × Int)) : Option (Int × Int × Bool) := l29_0_b d l1 kx29_0_0 ag3 s.1 s.2
theorem e29 (d : Nat) (l1 : List Int) : g29 (d + 1) l1 =
 obind (g146 d l1) fun r2 =>
 oif (!r2) (
 some (0, 0, false)) (
 iterP (l29_0 d l1 (j29_0 d l1)) fuelN (0, 0)) := by kernel_rfl

noncomputable def j30_0 (d : Nat) (l1 : List Int) (n4 : Int) : Option (Int × Int × Bool) :=
 oif ((n4 : Int) == 0) (
 some (1, 1, true)) (
 obind (g153 d l1) fun r5 =>
 obind (g153 d l1) fun r6 =>
 obind (g154 d (IntKind.i64.wrap (r5 * r6)) (IntKind.i64.wrap (((l1.length : Nat) : Int) * n4))) fun r7 =>
 some (r7.1, r7.2, true))
noncomputable def l30_0_b (d : Nat) (l1 : List Int) (kx30_0_0 : Int → Option (Int × Int × Bool)) (ag3 : (Int × Int) → Option (Int × Int × Bool)) (n4 : Int) (n5 : Int) : Option (Int × Int × Bool) :=
 oif (decide ((n5 : Int) < ((l1.length : Nat) : Int))) (
 oif (decide (0 ≤ (n5 : Int))) (
 obind (l1[(n5 : Int).toNat]?) fun n6 =>
 ag3 ((IntKind.i64.wrap (n4 + (IntKind.i64.wrap (n6 * n6)))), (IntKind.i64.wrap (n5 + 1)))) none) (
 kx30_0_0 n4)
noncomputable def l30_0 (d : Nat) (l1 : List Int) (kx30_0_0 : Int → Option (Int × Int × Bool)) (ag3 : (Int × Int) → Option (Int × Int × Bool)) (s : (Int × Int)) : Option (Int × Int × Bool) := l30_0_b d l1 kx30_0_0 ag3 s.1 s.2
theorem e30 (d : Nat) (l1 : List Int) : g30 (d + 1) l1 =
 obind (g149 d l1) fun r2 =>
 oif (!r2) (
 some (0, 0, false)) (
 iterP (l30_0 d l1 (j30_0 d l1)) fuelN (0, 0)) := by kernel_rfl

theorem e31 (d : Nat) (l1 : List Int) : g31 (d + 1) l1 =
 obind (g146 d l1) fun r2 =>
 oif (!r2) (
 some (0, 0, false)) (
 obind (g151 d l1) fun r3 =>
 obind (g152 d r3 ((l1.length : Nat) : Int)) fun r4 =>
 some (r4.1, r4.2.1, r4.2.2)) := by kernel_rfl

theorem e32 (d : Nat) (l1 : List Int) : g32 (d + 1) l1 =
 obind (g149 d l1) fun r2 =>
 oif (!r2) (
 some (0, 0, false)) (
 obind (g153 d l1) fun r3 =>
 obind (g154 d r3 ((l1.length : Nat) : Int)) fun r4 =>
 some (r4.1, r4.2, true)) := by kernel_rfl

theorem e33 (d : Nat) (l1 : List Int) : g33 (d + 1) l1 =
 obind (g146 d l1) fun r2 =>
 oif (!r2) (
 some (0, false)) (
 obind (g151 d l1) fun r3 =>
 some (r3, true)) := by kernel_rfl

theorem e34 (d : Nat) (l1 : List Int) : g34 (d + 1) l1 =
 obind (g149 d l1) fun r2 =>
 oif (!r2) (
 some (0, false)) (
 obind (g153 d l1) fun r3 =>
 some (r3, true)) := by kernel_rfl

noncomputable def j155_0 (d : Nat)  (n4 : Int) : Option Int :=
 some n4
noncomputable def l155_0_b (d : Nat) (l1 : List Int) (kx155_0_0 : Int → Option Int) (ag3 : (Int × Int) → Option Int) (n4 : Int) (n5 : Int) : Option Int :=
 oif (decide ((n5 : Int) < ((l1.length : Nat) : Int))) (
 oif (decide (0 ≤ (n5 : Int))) (
 obind (l1[(n5 : Int).toNat]?) fun n6 =>
 ag3 ((if n6 > n4 then n6 else n4), (IntKind.i64.wrap (n5 + 1)))) none) (
 kx155_0_0 n4)
noncomputable def l155_0 (d : Nat) (l1 : List Int) (kx155_0_0 : Int → Option Int) (ag3 : (Int × Int) → Option Int) (s : (Int × Int)) : Option Int := l155_0_b d l1 kx155_0_0 ag3 s.1 s.2
theorem e155 (d : Nat) (l1 : List Int) : g155 (d + 1) l1 =
 oif (decide ((((l1.length : Nat) : Int) : Int) < 1)) (
 none) (
 obind (l1[0]?) fun n2 =>
 iterP (l155_0 d l1 (j155_0 d)) fuelN (n2, 1)) := by kernel_rfl

noncomputable def j156_0 (d : Nat)  (n4 : Int) : Option Int :=
 some n4
noncomputable def l156_0_b (d : Nat) (l1 : List Int) (kx156_0_0 : Int → Option Int) (ag3 : (Int × Int) → Option Int) (n4 : Int) (n5 : Int) : Option Int :=
 oif (decide ((n5 : Int) < ((l1.length : Nat) : Int))) (
 oif (decide (0 ≤ (n5 : Int))) (
 obind (l1[(n5 : Int).toNat]?) fun n6 =>
 ag3 ((if n6 < n4 then n6 else n4), (IntKind.i64.wrap (n5 + 1)))) none) (
 kx156_0_0 n4)
noncomputable def l156_0 (d : Nat) (l1 : List Int) (kx156_0_0 : Int → Option Int) (ag3 : (Int × Int) → Option Int) (s : (Int × Int)) : Option Int := l156_0_b d l1 kx156_0_0 ag3 s.1 s.2
theorem e156 (d : Nat) (l1 : List Int) : g156 (d + 1) l1 =
 oif (decide ((((l1.length : Nat) : Int) : Int) < 1)) (
 none) (
 obind (l1[0]?) fun n2 =>
 iterP (l156_0 d l1 (j156_0 d)) fuelN (n2, 1)) := by kernel_rfl

theorem e35 (d : Nat) (l1 : List Int) : g35 (d + 1) l1 =
 obind (g146 d l1) fun r2 =>
 oif (!r2) (
 some (0, false)) (
 obind (g155 d l1) fun r3 =>
 obind (g156 d l1) fun r4 =>
 some ((IntKind.i64.wrap (r3 - r4)), true)) := by kernel_rfl

theorem e36 (d : Nat) (l1 : List Int) : g36 (d + 1) l1 =
 obind (g149 d l1) fun r2 =>
 oif (!r2) (
 some (0, false)) (
 obind (g150 d l1) fun r3 =>
 oif (decide (0 ≤ ((IntKind.i64.wrap (((r3.length : Nat) : Int) - 1)) : Int))) (
 oif (Nat.blt (((IntKind.i64.wrap (((r3.length : Nat) : Int) - 1)) : Int).toNat) r3.length) (
 obind (r3[((IntKind.i64.wrap (((r3.length : Nat) : Int) - 1)) : Int).toNat]?) fun n4 =>
 oif (Nat.blt 0 r3.length) (
 obind (r3[0]?) fun n5 =>
 some ((IntKind.i64.wrap (n4 - n5)), true)) none) none) none) := by kernel_rfl

noncomputable def j37_0 (d : Nat)  (b4 : Bool) : Option Bool :=
 some false
noncomputable def l37_0_b (d : Nat) (l1 : List Int) (n2 : Int) (kx37_0_0 : Bool → Option Bool) (ag3 : (Bool × Int) → Option Bool) (b4 : Bool) (n5 : Int) : Option Bool :=
 oif (decide ((n5 : Int) < ((l1.length : Nat) : Int))) (
 oif (decide (0 ≤ (n5 : Int))) (
 obind (l1[(n5 : Int).toNat]?) fun n6 =>
 oif ((n6 : Int) == n2) (
 some true) (
 ag3 (b4, (IntKind.i64.wrap (n5 + 1))))) none) (
 kx37_0_0 b4)
noncomputable def l37_0 (d : Nat) (l1 : List Int) (n2 : Int) (kx37_0_0 : Bool → Option Bool) (ag3 : (Bool × Int) → Option Bool) (s : (Bool × Int)) : Option Bool := l37_0_b d l1 n2 kx37_0_0 ag3 s.1 s.2
theorem e37 (d : Nat) (l1 : List Int) (n2 : Int) : g37 (d + 1) l1 n2 =
 iterP (l37_0 d l1 n2 (j37_0 d)) fuelN (false, 0) := by kernel_rfl

noncomputable def j4_0 (d : Nat) (r3 : ((List Int) × Int × Int)) (r5 : (Int × Bool)) (n21 : Int) (n22 : Int) : Option Bool :=
 obind (g37 d r3.1 r5.1) fun r23 =>
 oif r23 (
 oif (decide (((IntKind.i64.wrap (n21 * r3.2.2)) : Int) ≥ (IntKind.i64.wrap (r3.2.1 * ((r3.1.length : Nat) : Int))))) (
 some (decide (((IntKind.i64.wrap (n22 * r3.2.2)) : Int) < (IntKind.i64.wrap (r3.2.1 * ((r3.1.length : Nat) : Int)))))) (
 some false)) (
 some false)
noncomputable def l4_0_b (d : Nat) (r3 : ((List Int) × Int × Int)) (r5 : (Int × Bool)) (kx4_0_0 : Int → Int → Option Bool) (ag20 : (Int × Int × Int) → Option Bool) (n21 : Int) (n22 : Int) (n23 : Int) : Option Bool :=
 oif (decide ((n23 : Int) < ((r3.1.length : Nat) : Int))) (
 oif (decide (0 ≤ (n23 : Int))) (
 oif (Nat.blt ((n23 : Int).toNat) r3.1.length) (
 obind (r3.1[(n23 : Int).toNat]?) fun n24 =>
 oif (decide ((n24 : Int) ≤ r5.1)) (
 oif (decide ((n24 : Int) < r5.1)) (
 ag20 ((IntKind.i64.wrap (n21 + 1)), (IntKind.i64.wrap (n22 + 1)), (IntKind.i64.wrap (n23 + 1)))) (
 ag20 ((IntKind.i64.wrap (n21 + 1)), n22, (IntKind.i64.wrap (n23 + 1))))) (
 oif (decide ((n24 : Int) < r5.1)) (
 ag20 (n21, (IntKind.i64.wrap (n22 + 1)), (IntKind.i64.wrap (n23 + 1)))) (
 ag20 (n21, n22, (IntKind.i64.wrap (n23 + 1)))))) none) none) (
 kx4_0_0 n21 n22)
noncomputable def l4_0 (d : Nat) (r3 : ((List Int) × Int × Int)) (r5 : (Int × Bool)) (kx4_0_0 : Int → Int → Option Bool) (ag20 : (Int × Int × Int) → Option Bool) (s : (Int × Int × Int)) : Option Bool := l4_0_b d r3 r5 kx4_0_0 ag20 s.1 s.2.1 s.2.2
noncomputable def j4_1 (d : Nat) (r3 : ((List Int) × Int × Int)) (r4 : (Int × Bool)) (r5 : (Int × Bool)) (b19 : Bool) : Option Bool :=
 oif b19 (
 some false) (
 oif (!r4.2) (
 some true) (
 iterP (l4_0 d r3 r5 (j4_0 d r3 r5)) fuelN (0, 0, 0)))
noncomputable def j4_2 (d : Nat) (r3 : ((List Int) × Int × Int)) (r4 : (Int × Bool)) (r5 : (Int × Bool)) (r6 : ((List Int) × Int)) (r9 : (Int × Int × Bool)) (r10 : (Int × Int × Bool)) (r12 : (Int × Int × Bool)) (r14 : (Int × Bool)) (r16 : (Int × Bool)) (b18 : Bool) : Option Bool :=
 oif b18 (
 some false) (
 oif r9.2.2 (
 oif (decide ((r10.1 : Int) > r10.2.1)) (
 j4_1 d r3 r4 r5 true) (
 oif (decide (((IntKind.i64.wrap (r10.1 * ((r6.1.length : Nat) : Int))) : Int) < r10.2.1)) (
 j4_1 d r3 r4 r5 true) (
 oif (((IntKind.i64.wrap (r12.1 * ((r6.1.length : Nat) : Int))) : Int) != (IntKind.i64.wrap (r14.1 * r12.2.1))) (
 j4_1 d r3 r4 r5 true) (
 oif ((r16.1 : Int) == 0) (
 j4_1 d r3 r4 r5 ((r10.1 : Int) != r10.2.1)) (
 j4_1 d r3 r4 r5 false))))) (
 j4_1 d r3 r4 r5 false))
noncomputable def j4_3 (d : Nat) (r3 : ((List Int) × Int × Int)) (r4 : (Int × Bool)) (r5 : (Int × Bool)) (r6 : ((List Int) × Int)) (r7 : (Int × Int × Bool)) (r8 : (Int × Int × Bool)) (r9 : (Int × Int × Bool)) (r10 : (Int × Int × Bool)) (r12 : (Int × Int × Bool)) (r14 : (Int × Bool)) (r16 : (Int × Bool)) (b17 : Bool) : Option Bool :=
 oif b17 (
 some false) (
 oif r7.2.2 (
 oif (decide ((r8.1 : Int) > r8.2.1)) (
 j4_2 d r3 r4 r5 r6 r9 r10 r12 r14 r16 true) (
 oif (decide ((r14.1 : Int) > 0)) (
 oif (decide (0 ≤ (r6.2 : Int))) (
 oif (Nat.blt ((r6.2 : Int).toNat) r6.1.length) (
 obind (r6.1[(r6.2 : Int).toNat]?) fun n18 =>
 j4_2 d r3 r4 r5 r6 r9 r10 r12 r14 r16 (((IntKind.i64.wrap (r8.1 * r14.1)) : Int) != (IntKind.i64.wrap (n18 * r8.2.1)))) none) none) (
 j4_2 d r3 r4 r5 r6 r9 r10 r12 r14 r16 false))) (
 j4_2 d r3 r4 r5 r6 r9 r10 r12 r14 r16 false))
theorem e4 (d : Nat) (l1 : List Int) (l2 : List Int) : g4 (d + 1) l1 l2 =
 oif (decide (((IntKind.i64.wrap (((l1.length : Nat) : Int) + ((l2.length : Nat) : Int))) : Int) > 1048576)) (
 some true) (
 obind (g23 d l1) fun r3 =>
 obind (g24 d r3.1 r3.2.1 r3.2.2) fun r4 =>
 obind (g25 d r3.1 r3.2.1 r3.2.2) fun r5 =>
 obind (g26 d l2) fun r6 =>
 obind (g27 d r6.1 r6.2) fun r7 =>
 obind (g28 d r6.1 r6.2) fun r8 =>
 obind (g29 d r6.1) fun r9 =>
 obind (g30 d r6.1) fun r10 =>
 obind (g31 d r6.1) fun r11 =>
 obind (g32 d r6.1) fun r12 =>
 obind (g33 d r6.1) fun r13 =>
 obind (g34 d r6.1) fun r14 =>
 obind (g35 d r6.1) fun r15 =>
 obind (g36 d r6.1) fun r16 =>
 oif (!(r4.2 == r5.2)) (
 j4_3 d r3 r4 r5 r6 r7 r8 r9 r10 r12 r14 r16 true) (
 oif ((r4.1 : Int) != r5.1) (
 j4_3 d r3 r4 r5 r6 r7 r8 r9 r10 r12 r14 r16 true) (
 oif (!(r7.2.2 == r8.2.2)) (
 j4_3 d r3 r4 r5 r6 r7 r8 r9 r10 r12 r14 r16 true) (
 oif ((r7.1 : Int) != r8.1) (
 j4_3 d r3 r4 r5 r6 r7 r8 r9 r10 r12 r14 r16 true) (
 oif ((r7.2.1 : Int) != r8.2.1) (
 j4_3 d r3 r4 r5 r6 r7 r8 r9 r10 r12 r14 r16 true) (
 oif (!(r9.2.2 == r10.2.2)) (
 j4_3 d r3 r4 r5 r6 r7 r8 r9 r10 r12 r14 r16 true) (
 oif ((r9.1 : Int) != r10.1) (
 j4_3 d r3 r4 r5 r6 r7 r8 r9 r10 r12 r14 r16 true) (
 oif ((r9.2.1 : Int) != r10.2.1) (
 j4_3 d r3 r4 r5 r6 r7 r8 r9 r10 r12 r14 r16 true) (
 oif (!(r11.2.2 == r12.2.2)) (
 j4_3 d r3 r4 r5 r6 r7 r8 r9 r10 r12 r14 r16 true) (
 oif ((r11.1 : Int) != r12.1) (
 j4_3 d r3 r4 r5 r6 r7 r8 r9 r10 r12 r14 r16 true) (
 oif ((r11.2.1 : Int) != r12.2.1) (
 j4_3 d r3 r4 r5 r6 r7 r8 r9 r10 r12 r14 r16 true) (
 oif (!(r13.2 == r14.2)) (
 j4_3 d r3 r4 r5 r6 r7 r8 r9 r10 r12 r14 r16 true) (
 oif ((r13.1 : Int) != r14.1) (
 j4_3 d r3 r4 r5 r6 r7 r8 r9 r10 r12 r14 r16 true) (
 oif (!(r15.2 == r16.2)) (
 j4_3 d r3 r4 r5 r6 r7 r8 r9 r10 r12 r14 r16 true) (
 j4_3 d r3 r4 r5 r6 r7 r8 r9 r10 r12 r14 r16 ((r15.1 : Int) != r16.1)))))))))))))))) := by kernel_rfl

end Go.Proofs.Ytaggjheabeoohaa
