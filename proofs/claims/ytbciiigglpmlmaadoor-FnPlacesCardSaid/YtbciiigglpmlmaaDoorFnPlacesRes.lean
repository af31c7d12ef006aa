/-
  The residual forms of the program's functions under the interpreter by value, printed by program (wip/pv/gen2.py); each equation is checked by the kernel.
  Conditions: none.
-/
import Derived.Test.YtbciiigglpmlmaaDoorVDef
import Derived.Test.YtbciiigglpmlmaaDoorProg
import Derived.Test.YtbciiigglpmlmaaDoorPureW
import Derived.Test.YtbciiigglpmlmaaDoorStrW
import Derived.KernelRfl
set_option linter.all false
set_option maxRecDepth 1000000
namespace Go.Proofs.YtbciiigglpmlmaaDoor
open Go.Ev Go.Pv

theorem fuel_is : ∃ n : Nat, n = 4194304 := ⟨_, rfl⟩
noncomputable def fuelN : Nat := Classical.choose fuel_is
theorem fuelN_eq : fuelN = 4194304 := Classical.choose_spec fuel_is
def pvSig : FuncId → Sig
  | 5 => ⟨[(.ro, (.sl (.int .u8))), (.ro, (.sl (.int .u8)))], [(false, .bool)]⟩
  | 9 => ⟨[(.ro, (.sl (.int .u8))), (.ro, (.sl (.int .u8)))], [(false, .bool)]⟩
  | 26 => ⟨[(.ro, (.sl (.int .u8)))], [(false, .str), (false, (.int .i64))]⟩
  | 27 => ⟨[(.ro, .str), (.ro, (.int .i64))], [(false, (.int .i64)), (false, (.int .i64)), (false, .bool)]⟩
  | 28 => ⟨[(.ro, .str), (.ro, (.int .i64))], [(false, (.int .i64)), (false, (.int .i64)), (false, .bool)]⟩
  | 29 => ⟨[(.ro, .str), (.ro, (.int .i64)), (.ro, (.int .i64))], [(false, (.int .i64)), (false, .bool)]⟩
  | 30 => ⟨[(.ro, .str), (.ro, (.int .i64))], [(false, .str), (false, .bool)]⟩
  | 31 => ⟨[(.ro, (.sl (.int .u8)))], [(false, .str), (false, (.pair (.int .i64) (.int .i64)))]⟩
  | 32 => ⟨[(.ro, .str), (.ro, (.pair (.int .i64) (.int .i64)))], [(false, .str), (false, .bool)]⟩
  | 33 => ⟨[(.ro, .str), (.ro, (.pair (.int .i64) (.int .i64)))], [(false, .str), (false, .bool)]⟩
  | 34 => ⟨[(.ro, (.sl (.int .u8)))], [(false, .str), (false, (.int .i64)), (false, (.int .i64))]⟩
  | 35 => ⟨[(.ro, .str), (.ro, (.int .i64)), (.ro, (.int .i64))], [(false, (.int .i64)), (false, .bool)]⟩
  | 36 => ⟨[(.ro, (.sl (.int .u8)))], [(false, .str), (false, (.int .i64))]⟩
  | 37 => ⟨[(.ro, .str), (.ro, (.int .i64))], [(false, .str), (false, .bool)]⟩
  | 65 => ⟨[(.ps, (.pair (.sl (.int .u8)) (.pair (.int .i64) (.int .u64)))), (.ro, (.sl (.int .i64)))], [(false, (.int .i64))]⟩
  | 66 => ⟨[(.ps, (.pair (.sl (.int .u8)) (.pair (.int .i64) (.int .u64)))), (.ro, (.int .i64))], [(false, (.int .i64))]⟩
  | 68 => ⟨[(.ro, (.int .i64)), (.ro, (.int .i64)), (.ro, (.int .i64))], [(false, .bool)]⟩
  | 75 => ⟨[(.ps, (.pair (.sl (.int .u8)) (.pair (.int .i64) (.int .u64))))], [(false, .str)]⟩
  | 76 => ⟨[(.ro, .str), (.ro, (.int .i64))], [(false, (.int .i64)), (false, (.int .i64))]⟩
  | 77 => ⟨[(.ro, .str)], [(false, .bool)]⟩
  | 78 => ⟨[(.ro, .str), (.ro, (.int .i64))], [(false, (.int .i64)), (false, (.int .i64))]⟩
  | 79 => ⟨[(.ro, .str), (.ro, (.int .i64))], [(false, (.int .i64)), (false, .str), (false, .bool)]⟩
  | 80 => ⟨[(.ps, (.pair (.sl (.int .u8)) (.pair (.int .i64) (.int .u64))))], [(false, (.pair (.int .i64) (.int .i64)))]⟩
  | 81 => ⟨[(.ro, (.pair (.int .i64) (.int .i64)))], [(false, .bool)]⟩
  | 82 => ⟨[(.ps, (.pair (.sl (.int .u8)) (.pair (.int .i64) (.int .u64)))), (.ro, (.int .i64))], [(false, .bool)]⟩
  | 83 => ⟨[(.ro, (.int .i64)), (.ro, (.int .i64))], [(false, (.int .i64))]⟩
  | 84 => ⟨[(.ro, (.pair (.int .i64) (.int .i64)))], [(false, .bool)]⟩
  | 85 => ⟨[(.ro, .str), (.ro, (.int .i64))], [(false, .str)]⟩
  | 86 => ⟨[(.ro, .str), (.ro, (.int .u8))], [(true, (.sl .str))]⟩
  | 87 => ⟨[(.ro, .str), (.ro, (.int .i64))], [(false, (.int .i64))]⟩
  | 111 => ⟨[(.ro, .str), (.ro, .str)], [(true, (.sl .str))]⟩
  | 116 => ⟨[(.ps, (.pair (.sl (.int .u8)) (.pair (.int .i64) (.int .u64))))], [(false, (.int .i64))]⟩
  | 121 => ⟨[(.ps, (.pair (.sl (.int .u8)) (.pair (.int .i64) (.int .u64)))), (.ro, (.sl .str))], [(false, .str)]⟩
  | 122 => ⟨[(.ro, .str), (.ro, .str)], [(false, (.int .i64))]⟩
  | 123 => ⟨[(.ro, .str), (.ro, .str)], [(false, (.int .i64))]⟩
  | 140 => ⟨[(.ro, .str), (.ro, .str), (.ro, (.int .i64)), (.ro, (.int .i64))], [(true, (.sl .str))]⟩
  | 146 => ⟨[(.ro, .str), (.ro, .str)], [(false, (.int .i64))]⟩
  | _ => ⟨[], []⟩
def pvLoops : FuncId → Nat → LoopA
  | 33, 0 => ⟨[(7, false, (.int .i64)), (8, false, .str)], [], [], []⟩
  | 75, 0 => ⟨[(3, false, .str), (4, false, (.int .i64))], [(0, (.pair (.sl (.int .u8)) (.pair (.int .i64) (.int .u64))))], [], []⟩
  | 75, 1 => ⟨[(3, false, .str)], [], [], []⟩
  | 78, 0 => ⟨[(6, false, (.int .i64)), (7, false, (.int .i64)), (8, false, (.int .i64))], [], [], []⟩
  | 79, 0 => ⟨[(8, false, (.int .i64)), (26, false, (.int .i64))], [], [], []⟩
  | 86, 0 => ⟨[(5, true, (.sl .str)), (6, false, (.int .i64)), (7, false, (.int .i64))], [], [], []⟩
  | 87, 0 => ⟨[(6, false, (.int .i64)), (21, false, (.int .i64))], [], [], []⟩
  | 140, 0 => ⟨[(0, false, .str), (10, false, (.int .i64))], [], [(9, .str)], []⟩
  | _, _ => ⟨[], [], [], []⟩
def pvEloops : FuncId → Nat → List (Nat × Value)
  | 33, 0 => [(4, (.string ⟨#[]⟩)), (5, (.bool false)), (7, (.int .i64 0)), (8, (.string ⟨#[]⟩))]
  | 75, 0 => [(0, (.pointer (some ⟨0, 0, none⟩))), (2, (.string ⟨#[]⟩)), (3, (.string ⟨#[]⟩)), (4, (.int .i64 0))]
  | 75, 1 => [(2, (.string ⟨#[]⟩)), (3, (.string ⟨#[]⟩)), (5, (.int .i64 0))]
  | 78, 0 => [(0, (.string ⟨#[]⟩)), (1, (.int .i64 0)), (4, (.int .i64 0)), (5, (.int .i64 0)), (6, (.int .i64 0)), (7, (.int .i64 0)), (8, (.int .i64 0))]
  | 79, 0 => [(1, (.int .i64 0)), (4, (.int .i64 0)), (5, (.string ⟨#[]⟩)), (6, (.bool false)), (7, (.slice none 0 0)), (8, (.int .i64 0)), (24, (.slice none 0 0)), (25, (.int .i64 0)), (26, (.int .i64 0))]
  | 86, 0 => [(0, (.string ⟨#[]⟩)), (1, (.int .u8 0)), (4, (.slice none 0 0)), (5, (.slice none 0 0)), (6, (.int .i64 0)), (7, (.int .i64 0))]
  | 87, 0 => [(4, (.int .i64 0)), (6, (.int .i64 0)), (19, (.slice none 0 0)), (20, (.int .i64 0)), (21, (.int .i64 0))]
  | 140, 0 => [(0, (.string ⟨#[]⟩)), (1, (.string ⟨#[]⟩)), (2, (.int .i64 0)), (3, (.int .i64 0)), (8, (.slice none 0 0)), (9, (.slice none 0 0)), (10, (.int .i64 0))]
  | _, _ => []
def pvInline : FuncId → Bool
  | 131 => true
  | 132 => true
  | _ => false
def pvOwn : FuncId → Bool

  | _ => false
def pvExt : FuncId → Option (List Value → Nat → Go.Ev.Heap → Option (Value × Go.Ev.Heap))
  | 85 => some repX
  | 122 => some (strX cntG)
  | 123 => some lixX
  | 146 => some (strX idxG)
  | _ => none
def pvVext : (f : FuncId) → Option (TupT (pvSig f).ptys → Option (TupT (pvSig f).rtys))
  | 85 => some (fun a => repV a.1 a.2)
  | 122 => some (fun a => strV cntG a.1 a.2)
  | 123 => some (fun a => lixV a.1 a.2)
  | 146 => some (fun a => strV idxG a.1 a.2)
  | _ => none
noncomputable def pvAnn : AnnV := ⟨fuelN, pvSig, pvLoops, pvEloops, pvInline, pvOwn, pvExt, pvVext⟩

/-- loop.example/g00838/laws.big -/
noncomputable def g9 (d : Nat) (l1 : List Int) (l2 : List Int) : Option Bool := (lev Tryd.prog pvAnn d).call 9 (l1, l2)
/-- (*loop.example/g00838/spec.l1Cur).next -/
noncomputable def g116 (d : Nat) (x1 : ((List Int) × Int × Int)) : Option (Int × ((List Int) × Int × Int)) := (lev Tryd.prog pvAnn d).call 116 (x1)
/-- (*loop.example/g00838/spec.l1Cur).pick -/
noncomputable def g66 (d : Nat) (x1 : ((List Int) × Int × Int)) (n2 : Int) : Option (Int × ((List Int) × Int × Int)) := (lev Tryd.prog pvAnn d).call 66 (x1, n2)
/-- (*loop.example/g00838/spec.l1Cur).among -/
noncomputable def g65 (d : Nat) (x1 : ((List Int) × Int × Int)) (l2 : List Int) : Option (Int × ((List Int) × Int × Int)) := (lev Tryd.prog pvAnn d).call 65 (x1, l2)
/-- (*loop.example/g00838/spec.l1Cur).one -/
noncomputable def g82 (d : Nat) (x1 : ((List Int) × Int × Int)) (n2 : Int) : Option (Bool × ((List Int) × Int × Int)) := (lev Tryd.prog pvAnn d).call 82 (x1, n2)
/-- (*loop.example/g00838/spec.l1Cur).of -/
noncomputable def g121 (d : Nat) (x1 : ((List Int) × Int × Int)) (l2 : List ByteArray) : Option (ByteArray × ((List Int) × Int × Int)) := (lev Tryd.prog pvAnn d).call 121 (x1, l2)
/-- (*loop.example/g00838/spec.l1Cur).page -/
noncomputable def g75 (d : Nat) (x1 : ((List Int) × Int × Int)) : Option (ByteArray × ((List Int) × Int × Int)) := (lev Tryd.prog pvAnn d).call 75 (x1)
/-- loop.example/g00838/spec.DrawLineOf -/
noncomputable def g26 (d : Nat) (l1 : List Int) : Option (ByteArray × Int) := (lev Tryd.prog pvAnn d).call 26 (l1)
/-- strings.Count -/
noncomputable def g122 (d : Nat) (s1 : ByteArray) (s2 : ByteArray) : Option Int := (lev Tryd.prog pvAnn d).call 122 (s1, s2)
/-- strings.LastIndex -/
noncomputable def g123 (d : Nat) (s1 : ByteArray) (s2 : ByteArray) : Option Int := (lev Tryd.prog pvAnn d).call 123 (s1, s2)
/-- loop.example/g00838/impl.lineOf -/
noncomputable def g76 (d : Nat) (s1 : ByteArray) (n2 : Int) : Option (Int × Int) := (lev Tryd.prog pvAnn d).call 76 (s1, n2)
/-- loop.example/g00838/impl.LineOf -/
noncomputable def g27 (d : Nat) (s1 : ByteArray) (n2 : Int) : Option (Int × Int × Bool) := (lev Tryd.prog pvAnn d).call 27 (s1, n2)
/-- loop.example/g00838/spec.l1In -/
noncomputable def g68 (d : Nat) (n1 : Int) (n2 : Int) (n3 : Int) : Option Bool := (lev Tryd.prog pvAnn d).call 68 (n1, n2, n3)
/-- loop.example/g00838/spec.erText -/
noncomputable def g77 (d : Nat) (s1 : ByteArray) : Option Bool := (lev Tryd.prog pvAnn d).call 77 (s1)
/-- loop.example/g00838/spec.erLine -/
noncomputable def g78 (d : Nat) (s1 : ByteArray) (n2 : Int) : Option (Int × Int) := (lev Tryd.prog pvAnn d).call 78 (s1, n2)
/-- loop.example/g00838/spec.LineOf -/
noncomputable def g28 (d : Nat) (s1 : ByteArray) (n2 : Int) : Option (Int × Int × Bool) := (lev Tryd.prog pvAnn d).call 28 (s1, n2)
/-- strings.Index -/
noncomputable def g146 (d : Nat) (s1 : ByteArray) (s2 : ByteArray) : Option Int := (lev Tryd.prog pvAnn d).call 146 (s1, s2)
/-- strings.genSplit -/
noncomputable def g140 (d : Nat) (s1 : ByteArray) (s2 : ByteArray) (n3 : Int) (n4 : Int) : Option (List ByteArray) := (lev Tryd.prog pvAnn d).call 140 (s1, s2, n3, n4)
/-- strings.Split -/
noncomputable def g111 (d : Nat) (s1 : ByteArray) (s2 : ByteArray) : Option (List ByteArray) := (lev Tryd.prog pvAnn d).call 111 (s1, s2)
/-- loop.example/g00838/impl.lineStart -/
noncomputable def g79 (d : Nat) (s1 : ByteArray) (n2 : Int) : Option (Int × ByteArray × Bool) := (lev Tryd.prog pvAnn d).call 79 (s1, n2)
/-- loop.example/g00838/impl.PlaceOf -/
noncomputable def g29 (d : Nat) (s1 : ByteArray) (n2 : Int) (n3 : Int) : Option (Int × Bool) := (lev Tryd.prog pvAnn d).call 29 (s1, n2, n3)
/-- loop.example/g00838/impl.LineText -/
noncomputable def g30 (d : Nat) (s1 : ByteArray) (n2 : Int) : Option (ByteArray × Bool) := (lev Tryd.prog pvAnn d).call 30 (s1, n2)
/-- (*loop.example/g00838/spec.l1Cur).fault -/
noncomputable def g80 (d : Nat) (x1 : ((List Int) × Int × Int)) : Option ((Int × Int) × ((List Int) × Int × Int)) := (lev Tryd.prog pvAnn d).call 80 (x1)
/-- loop.example/g00838/spec.erGood -/
noncomputable def g81 (d : Nat) (x1 : (Int × Int)) : Option Bool := (lev Tryd.prog pvAnn d).call 81 (x1)
/-- loop.example/g00838/spec.l1Least -/
noncomputable def g83 (d : Nat) (n1 : Int) (n2 : Int) : Option Int := (lev Tryd.prog pvAnn d).call 83 (n1, n2)
/-- loop.example/g00838/spec.DrawMarkedLine -/
noncomputable def g31 (d : Nat) (l1 : List Int) : Option (ByteArray × (Int × Int)) := (lev Tryd.prog pvAnn d).call 31 (l1)
/-- loop.example/g00838/impl.IsFault -/
noncomputable def g84 (d : Nat) (x1 : (Int × Int)) : Option Bool := (lev Tryd.prog pvAnn d).call 84 (x1)
/-- strings.Repeat -/
noncomputable def g85 (d : Nat) (s1 : ByteArray) (n2 : Int) : Option ByteArray := (lev Tryd.prog pvAnn d).call 85 (s1, n2)
/-- loop.example/g00838/impl.MarkedLine -/
noncomputable def g32 (d : Nat) (s1 : ByteArray) (x2 : (Int × Int)) : Option (ByteArray × Bool) := (lev Tryd.prog pvAnn d).call 32 (s1, x2)
/-- loop.example/g00838/spec.l1Split -/
noncomputable def g86 (d : Nat) (s1 : ByteArray) (n2 : Int) : Option (List ByteArray) := (lev Tryd.prog pvAnn d).call 86 (s1, n2)
/-- loop.example/g00838/spec.MarkedLine -/
noncomputable def g33 (d : Nat) (s1 : ByteArray) (x2 : (Int × Int)) : Option (ByteArray × Bool) := (lev Tryd.prog pvAnn d).call 33 (s1, x2)
/-- loop.example/g00838/spec.DrawPlaceOf -/
noncomputable def g34 (d : Nat) (l1 : List Int) : Option (ByteArray × Int × Int) := (lev Tryd.prog pvAnn d).call 34 (l1)
/-- loop.example/g00838/spec.erStart -/
noncomputable def g87 (d : Nat) (s1 : ByteArray) (n2 : Int) : Option Int := (lev Tryd.prog pvAnn d).call 87 (s1, n2)
/-- loop.example/g00838/spec.PlaceOf -/
noncomputable def g35 (d : Nat) (s1 : ByteArray) (n2 : Int) (n3 : Int) : Option (Int × Bool) := (lev Tryd.prog pvAnn d).call 35 (s1, n2, n3)
/-- loop.example/g00838/spec.DrawLineText -/
noncomputable def g36 (d : Nat) (l1 : List Int) : Option (ByteArray × Int) := (lev Tryd.prog pvAnn d).call 36 (l1)
/-- loop.example/g00838/spec.LineText -/
noncomputable def g37 (d : Nat) (s1 : ByteArray) (n2 : Int) : Option (ByteArray × Bool) := (lev Tryd.prog pvAnn d).call 37 (s1, n2)
/-- loop.example/g00838/laws.FnPlaces -/
noncomputable def g5 (d : Nat) (l1 : List Int) (l2 : List Int) : Option Bool := (lev Tryd.prog pvAnn d).call 5 (l1, l2)

theorem e9 (d : Nat) (l1 : List Int) (l2 : List Int) : g9 (d + 1) l1 l2 =
 oif (decide ((((l1.length : Nat) : Int) : Int) > 1048576)) (
 some true) (
 some (decide ((((l2.length : Nat) : Int) : Int) > (IntKind.i64.wrap ((1048576 : Int) - ((l1.length : Nat) : Int)))))) := by kernel_rfl

noncomputable def j116_0 (d : Nat) (x1 : ((List Int) × Int × Int)) (n2 : Int) : Option (Int × ((List Int) × Int × Int)) :=
 oif (decide (((IntKind.i64.wrap (x1.2.1 + 1)) : Int) ≤ ((x1.1.length : Nat) : Int))) (
 some (n2, (x1.1, (IntKind.i64.wrap (x1.2.1 + 1)), (IntKind.u64.wrap ((IntKind.u64.wrap ((IntKind.u64.wrap (x1.2.2 * 6364136223846793005)) + (IntKind.u64.wrap n2))) + 1442695040888963407))))) (
 some ((IntKind.i64.wrap (IntKind.u64.wrap ((BitVec.ofInt IntKind.u64.bits ((IntKind.u64.wrap ((IntKind.u64.wrap ((IntKind.u64.wrap (x1.2.2 * 6364136223846793005)) + (IntKind.u64.wrap n2))) + 1442695040888963407)).fdiv (2 ^ (min (40 : Int).toNat IntKind.u64.bits))) &&& BitVec.ofInt IntKind.u64.bits 255).toNat : Int))), (x1.1, (IntKind.i64.wrap (x1.2.1 + 1)), (IntKind.u64.wrap ((IntKind.u64.wrap ((IntKind.u64.wrap (x1.2.2 * 6364136223846793005)) + (IntKind.u64.wrap n2))) + 1442695040888963407)))))
theorem e116 (d : Nat) (x1 : ((List Int) × Int × Int)) : g116 (d + 1) x1 =
 oif (decide ((x1.2.1 : Int) < ((x1.1.length : Nat) : Int))) (
 oif (decide (0 ≤ (x1.2.1 : Int))) (
 obind (x1.1[(x1.2.1 : Int).toNat]?) fun n2 =>
 j116_0 d x1 (IntKind.i64.wrap n2)) none) (
 j116_0 d x1 0) := by kernel_rfl

theorem e66 (d : Nat) (x1 : ((List Int) × Int × Int)) (n2 : Int) : g66 (d + 1) x1 n2 =
 oif (decide ((n2 : Int) ≤ 1)) (
 some (0, x1)) (
 obind (g116 d x1) fun r3 =>
 oif (decide ((n2 : Int) > 200)) (
 obind (g116 d r3.2) fun r4 =>
 oif ((n2 : Int) == 0) none (
 some (((IntKind.i64.wrap ((IntKind.i64.wrap (r3.1 * 256)) + r4.1)).tmod n2), r4.2))) (
 oif ((n2 : Int) == 0) none (
 some ((r3.1.tmod n2), r3.2)))) := by kernel_rfl

theorem e65 (d : Nat) (x1 : ((List Int) × Int × Int)) (l2 : List Int) : g65 (d + 1) x1 l2 =
 obind (g66 d x1 ((l2.length : Nat) : Int)) fun r3 =>
 oif (decide (0 ≤ (r3.1 : Int))) (
 obind (l2[(r3.1 : Int).toNat]?) fun n4 =>
 some (n4, r3.2)) none := by kernel_rfl

theorem e82 (d : Nat) (x1 : ((List Int) × Int × Int)) (n2 : Int) : g82 (d + 1) x1 n2 =
 obind (g66 d x1 n2) fun r3 =>
 some (((r3.1 : Int) == 0), r3.2) := by kernel_rfl

theorem e121 (d : Nat) (x1 : ((List Int) × Int × Int)) (l2 : List ByteArray) : g121 (d + 1) x1 l2 =
 obind (g66 d x1 ((l2.length : Nat) : Int)) fun r3 =>
 oif (decide (0 ≤ (r3.1 : Int))) (
 obind (l2[(r3.1 : Int).toNat]?) fun s4 =>
 some (s4, r3.2)) none := by kernel_rfl

noncomputable def j75_0 (d : Nat) (r9 : (Int × ((List Int) × Int × Int))) (s11 : ByteArray) : Option (ByteArray × ((List Int) × Int × Int)) :=
 some (s11, r9.2)
noncomputable def l75_1_b (d : Nat) (r9 : (Int × ((List Int) × Int × Int))) (kx75_1_0 : ByteArray → Option (ByteArray × ((List Int) × Int × Int))) (ag10 : ByteArray → Option (ByteArray × ((List Int) × Int × Int))) (s11 : ByteArray) : Option (ByteArray × ((List Int) × Int × Int)) :=
 oif (decide ((((s11 : ByteArray).size : Int) : Int) < (IntKind.i64.wrap ((6000 : Int) + r9.1)))) (
 oif (Nat.ble ((s11 : ByteArray).size + ((⟨#[46]⟩ : ByteArray) : ByteArray).size) 9223372036854775807) (
 ag10 ((s11 : ByteArray) ++ ((⟨#[46]⟩ : ByteArray) : ByteArray))) none) (
 kx75_1_0 s11)
noncomputable def l75_1 (d : Nat) (r9 : (Int × ((List Int) × Int × Int))) (kx75_1_0 : ByteArray → Option (ByteArray × ((List Int) × Int × Int))) (ag10 : ByteArray → Option (ByteArray × ((List Int) × Int × Int))) (s : ByteArray) : Option (ByteArray × ((List Int) × Int × Int)) := l75_1_b d r9 kx75_1_0 ag10 s
noncomputable def j75_1 (d : Nat)  (s4 : ByteArray) (l5 : List Int) (n6 : Int) (n7 : Int) : Option (ByteArray × ((List Int) × Int × Int)) :=
 obind (g82 d (l5, n6, n7) 24) fun r8 =>
 oif r8.1 (
 obind (g66 d r8.2 2) fun r9 =>
 iterP (l75_1 d r9 (j75_0 d r9)) fuelN s4) (
 some (s4, r8.2))
noncomputable def l75_0_b (d : Nat)  (kx75_0_0 : ByteArray → (List Int) → Int → Int → Option (ByteArray × ((List Int) × Int × Int))) (ag3 : (ByteArray × Int × ((List Int) × Int × Int)) → Option (ByteArray × ((List Int) × Int × Int))) (s4 : ByteArray) (n5 : Int) (x6 : ((List Int) × Int × Int)) : Option (ByteArray × ((List Int) × Int × Int)) :=
 oif (decide ((n5 : Int) > 0)) (
 obind (g121 d x6 [(⟨#[]⟩ : ByteArray), (⟨#[97, 98]⟩ : ByteArray), (⟨#[99, 108, 97, 115, 115, 32, 49]⟩ : ByteArray), (⟨#[120]⟩ : ByteArray), (⟨#[48, 49, 50, 51, 52, 53, 54, 55, 56, 57]⟩ : ByteArray)]) fun r7 =>
 oif (Nat.ble ((s4 : ByteArray).size + (r7.1 : ByteArray).size) 9223372036854775807) (
 obind (g82 d r7.2 5) fun r8 =>
 oif (!r8.1) (
 oif (Nat.ble ((((s4 : ByteArray) ++ (r7.1 : ByteArray)) : ByteArray).size + ((⟨#[10]⟩ : ByteArray) : ByteArray).size) 9223372036854775807) (
 ag3 (((((s4 : ByteArray) ++ (r7.1 : ByteArray)) : ByteArray) ++ ((⟨#[10]⟩ : ByteArray) : ByteArray)), (IntKind.i64.wrap (n5 - 1)), r8.2)) none) (
 ag3 (((s4 : ByteArray) ++ (r7.1 : ByteArray)), (IntKind.i64.wrap (n5 - 1)), r8.2))) none) (
 kx75_0_0 s4 x6.1 x6.2.1 x6.2.2)
noncomputable def l75_0 (d : Nat)  (kx75_0_0 : ByteArray → (List Int) → Int → Int → Option (ByteArray × ((List Int) × Int × Int))) (ag3 : (ByteArray × Int × ((List Int) × Int × Int)) → Option (ByteArray × ((List Int) × Int × Int))) (s : (ByteArray × Int × ((List Int) × Int × Int))) : Option (ByteArray × ((List Int) × Int × Int)) := l75_0_b d kx75_0_0 ag3 s.1 s.2.1 s.2.2
theorem e75 (d : Nat) (x1 : ((List Int) × Int × Int)) : g75 (d + 1) x1 =
 obind (g66 d x1 6) fun r2 =>
 iterP (l75_0 d (j75_1 d)) fuelN ((⟨#[]⟩ : ByteArray), r2.1, r2.2) := by kernel_rfl

theorem e26 (d : Nat) (l1 : List Int) : g26 (d + 1) l1 =
 obind (g75 d (l1, 0, 0)) fun r2 =>
 obind (g66 d r2.2 (IntKind.i64.wrap (((r2.1 : ByteArray).size : Int) + 1))) fun r3 =>
 obind (g66 d r3.2 (IntKind.i64.wrap (((r2.1 : ByteArray).size : Int) + 1))) fun r4 =>
 obind (g66 d r4.2 (IntKind.i64.wrap (((r2.1 : ByteArray).size : Int) + 1))) fun r5 =>
 obind (g65 d r5.2 [0, ((r2.1 : ByteArray).size : Int), (IntKind.i64.wrap (((r2.1 : ByteArray).size : Int) + 1)), (-1), r3.1, r4.1, r5.1]) fun r6 =>
 some (r2.1, r6.1) := by kernel_rfl

theorem e122 (d : Nat) (s1 : ByteArray) (s2 : ByteArray) : g122 (d + 1) s1 s2 =
 strV cntG s1 s2 := by kernel_rfl

theorem e123 (d : Nat) (s1 : ByteArray) (s2 : ByteArray) : g123 (d + 1) s1 s2 =
 lixV s1 s2 := by kernel_rfl

theorem e76 (d : Nat) (s1 : ByteArray) (n2 : Int) : g76 (d + 1) s1 n2 =
 oif (decide (0 ≤ (n2 : Int))) (
 oif (Nat.ble 0 ((n2 : Int).toNat) && Nat.ble ((n2 : Int).toNat) (s1 : ByteArray).size) (
 obind (g122 d ((s1 : ByteArray).extract 0 ((n2 : Int).toNat)) (⟨#[10]⟩ : ByteArray)) fun r3 =>
 obind (g123 d ((s1 : ByteArray).extract 0 ((n2 : Int).toNat)) (⟨#[10]⟩ : ByteArray)) fun r4 =>
 some ((IntKind.i64.wrap (r3 + 1)), (IntKind.i64.wrap (n2 - r4)))) none) none := by kernel_rfl

theorem e27 (d : Nat) (s1 : ByteArray) (n2 : Int) : g27 (d + 1) s1 n2 =
 oif (decide ((((s1 : ByteArray).size : Int) : Int) > 6000)) (
 some (0, 0, false)) (
 oif (decide ((n2 : Int) < 0)) (
 some (0, 0, false)) (
 oif (decide ((n2 : Int) > ((s1 : ByteArray).size : Int))) (
 some (0, 0, false)) (
 obind (g76 d s1 n2) fun r3 =>
 some (r3.1, r3.2, true)))) := by kernel_rfl

theorem e68 (d : Nat) (n1 : Int) (n2 : Int) (n3 : Int) : g68 (d + 1) n1 n2 n3 =
 oif (decide ((n1 : Int) ≥ n2)) (
 some (decide ((n1 : Int) ≤ n3))) (
 some false) := by kernel_rfl

theorem e77 (d : Nat) (s1 : ByteArray) : g77 (d + 1) s1 =
 some (decide ((((s1 : ByteArray).size : Int) : Int) ≤ 6000)) := by kernel_rfl

noncomputable def j78_0 (d : Nat)  (n4 : Int) (n5 : Int) : Option (Int × Int) :=
 some (n4, n5)
noncomputable def l78_0_b (d : Nat) (s1 : ByteArray) (n2 : Int) (kx78_0_0 : Int → Int → Option (Int × Int)) (ag3 : (Int × Int × Int) → Option (Int × Int)) (n4 : Int) (n5 : Int) (n6 : Int) : Option (Int × Int) :=
 oif (decide ((n6 : Int) < n2)) (
 oif (decide (0 ≤ (n6 : Int))) (
 obind ((s1 : ByteArray).data.toList[(n6 : Int).toNat]?) fun c7 =>
 oif (((c7.toNat : Int) : Int) == 10) (
 ag3 ((IntKind.i64.wrap (n4 + 1)), 1, (IntKind.i64.wrap (n6 + 1)))) (
 ag3 (n4, (IntKind.i64.wrap (n5 + 1)), (IntKind.i64.wrap (n6 + 1))))) none) (
 kx78_0_0 n4 n5)
noncomputable def l78_0 (d : Nat) (s1 : ByteArray) (n2 : Int) (kx78_0_0 : Int → Int → Option (Int × Int)) (ag3 : (Int × Int × Int) → Option (Int × Int)) (s : (Int × Int × Int)) : Option (Int × Int) := l78_0_b d s1 n2 kx78_0_0 ag3 s.1 s.2.1 s.2.2
theorem e78 (d : Nat) (s1 : ByteArray) (n2 : Int) : g78 (d + 1) s1 n2 =
 iterP (l78_0 d s1 n2 (j78_0 d)) fuelN (1, 1, 0) := by kernel_rfl

theorem e28 (d : Nat) (s1 : ByteArray) (n2 : Int) : g28 (d + 1) s1 n2 =
 obind (g77 d s1) fun r3 =>
 oif (!r3) (
 some (0, 0, false)) (
 obind (g68 d n2 0 ((s1 : ByteArray).size : Int)) fun r4 =>
 oif (!r4) (
 some (0, 0, false)) (
 obind (g78 d s1 n2) fun r5 =>
 some (r5.1, r5.2, true))) := by kernel_rfl

theorem e146 (d : Nat) (s1 : ByteArray) (s2 : ByteArray) : g146 (d + 1) s1 s2 =
 strV idxG s1 s2 := by kernel_rfl

noncomputable def j140_0 (d : Nat)  (s7 : ByteArray) (n8 : Int) (l9 : List ByteArray) : Option (List ByteArray) :=
 oif (decide (0 ≤ (n8 : Int))) (
 oif (Nat.blt ((n8 : Int).toNat) l9.length) (
 obind (l9[(n8 : Int).toNat]?) fun s10 =>
 oif (decide (0 ≤ ((IntKind.i64.wrap (n8 + 1)) : Int))) (
 oif (Nat.ble (((IntKind.i64.wrap (n8 + 1)) : Int).toNat) ((l9.set ((n8 : Int).toNat) s7).length)) (
 some ((l9.set ((n8 : Int).toNat) s7).take (((IntKind.i64.wrap (n8 + 1)) : Int).toNat))) none) none) none) none
noncomputable def l140_0_b (d : Nat) (s1 : ByteArray) (s2 : ByteArray) (n3 : Int) (n5 : Int) (kx140_0_0 : ByteArray → Int → (List ByteArray) → Option (List ByteArray)) (ag6 : (ByteArray × Int × (List ByteArray)) → Option (List ByteArray)) (s7 : ByteArray) (n8 : Int) (l9 : List ByteArray) : Option (List ByteArray) :=
 oif (decide ((n8 : Int) < (IntKind.i64.wrap ((if (IntKind.i64.wrap (((s1 : ByteArray).size : Int) + 1)) < n5 then (IntKind.i64.wrap (((s1 : ByteArray).size : Int) + 1)) else n5) - 1)))) (
 obind (g146 d s7 s2) fun r10 =>
 oif (decide ((r10 : Int) < 0)) (
 kx140_0_0 s7 n8 l9) (
 oif (decide (0 ≤ ((IntKind.i64.wrap (r10 + n3)) : Int))) (
 oif (Nat.ble 0 (((IntKind.i64.wrap (r10 + n3)) : Int).toNat) && Nat.ble (((IntKind.i64.wrap (r10 + n3)) : Int).toNat) (s7 : ByteArray).size) (
 oif (decide (0 ≤ (n8 : Int))) (
 oif (Nat.blt ((n8 : Int).toNat) l9.length) (
 obind (l9[(n8 : Int).toNat]?) fun s11 =>
 oif (decide (0 ≤ ((IntKind.i64.wrap (r10 + ((s2 : ByteArray).size : Int))) : Int))) (
 oif (Nat.ble (((IntKind.i64.wrap (r10 + ((s2 : ByteArray).size : Int))) : Int).toNat) ((s7 : ByteArray).size) && Nat.ble ((s7 : ByteArray).size) (s7 : ByteArray).size) (
 ag6 (((s7 : ByteArray).extract (((IntKind.i64.wrap (r10 + ((s2 : ByteArray).size : Int))) : Int).toNat) ((s7 : ByteArray).size)), (IntKind.i64.wrap (n8 + 1)), (l9.set ((n8 : Int).toNat) ((s7 : ByteArray).extract 0 (((IntKind.i64.wrap (r10 + n3)) : Int).toNat))))) none) none) none) none) none) none)) (
 kx140_0_0 s7 n8 l9)
noncomputable def l140_0 (d : Nat) (s1 : ByteArray) (s2 : ByteArray) (n3 : Int) (n5 : Int) (kx140_0_0 : ByteArray → Int → (List ByteArray) → Option (List ByteArray)) (ag6 : (ByteArray × Int × (List ByteArray)) → Option (List ByteArray)) (s : (ByteArray × Int × (List ByteArray))) : Option (List ByteArray) := l140_0_b d s1 s2 n3 n5 kx140_0_0 ag6 s.1 s.2.1 s.2.2
noncomputable def j140_1 (d : Nat) (s1 : ByteArray) (s2 : ByteArray) (n3 : Int) (n5 : Int) : Option (List ByteArray) :=
 oif (decide (0 ≤ ((if (IntKind.i64.wrap (((s1 : ByteArray).size : Int) + 1)) < n5 then (IntKind.i64.wrap (((s1 : ByteArray).size : Int) + 1)) else n5) : Int))) (
 oif (decide (0 ≤ ((if (IntKind.i64.wrap (((s1 : ByteArray).size : Int) + 1)) < n5 then (IntKind.i64.wrap (((s1 : ByteArray).size : Int) + 1)) else n5) : Int))) (
 oif (Nat.ble (((if (IntKind.i64.wrap (((s1 : ByteArray).size : Int) + 1)) < n5 then (IntKind.i64.wrap (((s1 : ByteArray).size : Int) + 1)) else n5) : Int).toNat) (((if (IntKind.i64.wrap (((s1 : ByteArray).size : Int) + 1)) < n5 then (IntKind.i64.wrap (((s1 : ByteArray).size : Int) + 1)) else n5) : Int).toNat) && Nat.ble ((((if (IntKind.i64.wrap (((s1 : ByteArray).size : Int) + 1)) < n5 then (IntKind.i64.wrap (((s1 : ByteArray).size : Int) + 1)) else n5) : Int).toNat) * 16) roomMax) (
 iterP (l140_0 d s1 s2 n3 n5 (j140_0 d)) fuelN (s1, 0, (List.replicate (((if (IntKind.i64.wrap (((s1 : ByteArray).size : Int) + 1)) < n5 then (IntKind.i64.wrap (((s1 : ByteArray).size : Int) + 1)) else n5) : Int).toNat) ((⟨#[]⟩ : ByteArray) : ByteArray)))) none) none) none
theorem e140 (d : Nat) (s1 : ByteArray) (s2 : ByteArray) (n3 : Int) (n4 : Int) : g140 (d + 1) s1 s2 n3 n4 =
 oif ((n4 : Int) == 0) (
 some []) (
 oif ((s2 : ByteArray).toList == ((⟨#[]⟩ : ByteArray) : ByteArray).toList) (
 none) (
 oif (decide ((n4 : Int) < 0)) (
 obind (g122 d s1 s2) fun r5 =>
 j140_1 d s1 s2 n3 (IntKind.i64.wrap (r5 + 1))) (
 j140_1 d s1 s2 n3 n4))) := by kernel_rfl

theorem e111 (d : Nat) (s1 : ByteArray) (s2 : ByteArray) : g111 (d + 1) s1 s2 =
 obind (g140 d s1 s2 0 (-1)) fun r3 =>
 some r3 := by kernel_rfl

noncomputable def j79_0 (d : Nat) (n2 : Int) (r3 : List ByteArray) (n6 : Int) : Option (Int × ByteArray × Bool) :=
 oif (decide (0 ≤ ((IntKind.i64.wrap (n2 - 1)) : Int))) (
 oif (Nat.blt (((IntKind.i64.wrap (n2 - 1)) : Int).toNat) r3.length) (
 obind (r3[((IntKind.i64.wrap (n2 - 1)) : Int).toNat]?) fun s7 =>
 some (n6, s7, true)) none) none
noncomputable def l79_0_b (d : Nat) (n2 : Int) (r3 : List ByteArray) (kx79_0_0 : Int → Option (Int × ByteArray × Bool)) (ag5 : (Int × Int) → Option (Int × ByteArray × Bool)) (n6 : Int) (n7 : Int) : Option (Int × ByteArray × Bool) :=
 oif (decide ((n7 : Int) < ((((IntKind.i64.wrap (n2 - 1)) : Int).toNat : Nat) : Int))) (
 oif (decide (0 ≤ (n7 : Int))) (
 oif (Nat.blt ((n7 : Int).toNat) (((IntKind.i64.wrap (n2 - 1)) : Int).toNat)) (
 obind (r3[(n7 : Int).toNat]?) fun s8 =>
 ag5 ((IntKind.i64.wrap (n6 + (IntKind.i64.wrap (((s8 : ByteArray).size : Int) + 1)))), (IntKind.i64.wrap (n7 + 1)))) none) none) (
 kx79_0_0 n6)
noncomputable def l79_0 (d : Nat) (n2 : Int) (r3 : List ByteArray) (kx79_0_0 : Int → Option (Int × ByteArray × Bool)) (ag5 : (Int × Int) → Option (Int × ByteArray × Bool)) (s : (Int × Int)) : Option (Int × ByteArray × Bool) := l79_0_b d n2 r3 kx79_0_0 ag5 s.1 s.2
noncomputable def j79_1 (d : Nat) (n2 : Int) (r3 : List ByteArray) (b4 : Bool) : Option (Int × ByteArray × Bool) :=
 oif b4 (
 some (0, (⟨#[]⟩ : ByteArray), false)) (
 oif (decide (0 ≤ ((IntKind.i64.wrap (n2 - 1)) : Int))) (
 oif (Nat.ble (((IntKind.i64.wrap (n2 - 1)) : Int).toNat) r3.length) (
 iterP (l79_0 d n2 r3 (j79_0 d n2 r3)) fuelN (0, 0)) none) none)
theorem e79 (d : Nat) (s1 : ByteArray) (n2 : Int) : g79 (d + 1) s1 n2 =
 obind (g111 d s1 (⟨#[10]⟩ : ByteArray)) fun r3 =>
 oif (decide ((n2 : Int) < 1)) (
 j79_1 d n2 r3 true) (
 j79_1 d n2 r3 (decide ((n2 : Int) > ((r3.length : Nat) : Int)))) := by kernel_rfl

theorem e29 (d : Nat) (s1 : ByteArray) (n2 : Int) (n3 : Int) : g29 (d + 1) s1 n2 n3 =
 oif (decide ((((s1 : ByteArray).size : Int) : Int) > 6000)) (
 some (0, false)) (
 obind (g79 d s1 n2) fun r4 =>
 oif (!r4.2.2) (
 some (0, false)) (
 oif (decide ((n3 : Int) < 1)) (
 some (0, false)) (
 oif (decide ((n3 : Int) > (IntKind.i64.wrap (((r4.2.1 : ByteArray).size : Int) + 1)))) (
 some (0, false)) (
 some ((IntKind.i64.wrap ((IntKind.i64.wrap (r4.1 + n3)) - 1)), true))))) := by kernel_rfl

theorem e30 (d : Nat) (s1 : ByteArray) (n2 : Int) : g30 (d + 1) s1 n2 =
 oif (decide ((((s1 : ByteArray).size : Int) : Int) > 6000)) (
 some ((⟨#[]⟩ : ByteArray), false)) (
 obind (g79 d s1 n2) fun r3 =>
 some (r3.2.1, r3.2.2)) := by kernel_rfl

theorem e80 (d : Nat) (x1 : ((List Int) × Int × Int)) : g80 (d + 1) x1 =
 obind (g66 d x1 7) fun r2 =>
 obind (g66 d r2.2 20) fun r3 =>
 obind (g66 d r3.2 20) fun r4 =>
 oif ((r4.1 : Int) == 0) (
 obind (g65 d r4.2 [(-1), 0, 8]) fun r5 =>
 some ((r5.1, r3.1), r5.2)) (
 oif ((r4.1 : Int) == 1) (
 obind (g65 d r4.2 [(-1), 6000, 6001]) fun r6 =>
 some (((IntKind.i64.wrap ((1 : Int) + r2.1)), r6.1), r6.2)) (
 some (((IntKind.i64.wrap ((1 : Int) + r2.1)), r3.1), r4.2))) := by kernel_rfl

theorem e81 (d : Nat) (x1 : (Int × Int)) : g81 (d + 1) x1 =
 obind (g68 d x1.1 1 7) fun r2 =>
 oif r2 (
 obind (g68 d x1.2 0 6000) fun r3 =>
 some r3) (
 some false) := by kernel_rfl

theorem e83 (d : Nat) (n1 : Int) (n2 : Int) : g83 (d + 1) n1 n2 =
 oif (decide ((n1 : Int) < n2)) (
 some n1) (
 some n2) := by kernel_rfl

theorem e31 (d : Nat) (l1 : List Int) : g31 (d + 1) l1 =
 obind (g75 d (l1, 0, 0)) fun r2 =>
 obind (g80 d r2.2) fun r3 =>
 obind (g81 d r3.1) fun r4 =>
 oif r4 (
 obind (g82 d r3.2 2) fun r5 =>
 oif r5.1 (
 obind (g83 d ((r2.1 : ByteArray).size : Int) 6000) fun r6 =>
 some (r2.1, (r3.1.1, r6))) (
 some (r2.1, r3.1))) (
 some (r2.1, r3.1)) := by kernel_rfl

theorem e84 (d : Nat) (x1 : (Int × Int)) : g84 (d + 1) x1 =
 oif (decide ((x1.1 : Int) ≥ 1)) (
 oif (decide ((x1.1 : Int) ≤ 7)) (
 oif (decide ((x1.2 : Int) ≥ 0)) (
 some (decide ((x1.2 : Int) ≤ 6000))) (
 some false)) (
 some false)) (
 some false) := by kernel_rfl

theorem e85 (d : Nat) (s1 : ByteArray) (n2 : Int) : g85 (d + 1) s1 n2 =
 repV s1 n2 := by kernel_rfl

noncomputable def j32_0 (d : Nat) (s1 : ByteArray) (x2 : (Int × Int)) (b3 : Bool) : Option (ByteArray × Bool) :=
 oif b3 (
 some ((⟨#[]⟩ : ByteArray), false)) (
 obind (g76 d s1 x2.2) fun r4 =>
 obind (g79 d s1 r4.1) fun r5 =>
 oif (Nat.ble ((r5.2.1 : ByteArray).size + ((⟨#[10]⟩ : ByteArray) : ByteArray).size) 9223372036854775807) (
 obind (g85 d (⟨#[32]⟩ : ByteArray) (IntKind.i64.wrap (r4.2 - 1))) fun r6 =>
 oif (Nat.ble ((((r5.2.1 : ByteArray) ++ ((⟨#[10]⟩ : ByteArray) : ByteArray)) : ByteArray).size + (r6 : ByteArray).size) 9223372036854775807) (
 oif (Nat.ble ((((((r5.2.1 : ByteArray) ++ ((⟨#[10]⟩ : ByteArray) : ByteArray)) : ByteArray) ++ (r6 : ByteArray)) : ByteArray).size + ((⟨#[94, 10]⟩ : ByteArray) : ByteArray).size) 9223372036854775807) (
 some (((((((r5.2.1 : ByteArray) ++ ((⟨#[10]⟩ : ByteArray) : ByteArray)) : ByteArray) ++ (r6 : ByteArray)) : ByteArray) ++ ((⟨#[94, 10]⟩ : ByteArray) : ByteArray)), true)) none) none) none)
theorem e32 (d : Nat) (s1 : ByteArray) (x2 : (Int × Int)) : g32 (d + 1) s1 x2 =
 obind (g84 d x2) fun r3 =>
 oif (!r3) (
 j32_0 d s1 x2 true) (
 oif (decide ((((s1 : ByteArray).size : Int) : Int) > 6000)) (
 j32_0 d s1 x2 true) (
 j32_0 d s1 x2 (decide ((x2.2 : Int) > ((s1 : ByteArray).size : Int))))) := by kernel_rfl

noncomputable def j86_0 (d : Nat) (s1 : ByteArray) (n4 : Int) (l5 : List ByteArray) : Option (List ByteArray) :=
 oif (decide (0 ≤ (n4 : Int))) (
 oif (Nat.ble ((n4 : Int).toNat) ((s1 : ByteArray).size) && Nat.ble ((s1 : ByteArray).size) (s1 : ByteArray).size) (
 oif (Nat.ble ((l5.length + [((s1 : ByteArray).extract ((n4 : Int).toNat) ((s1 : ByteArray).size))].length) * 16) roomMax) (
 some (l5 ++ [((s1 : ByteArray).extract ((n4 : Int).toNat) ((s1 : ByteArray).size))])) none) none) none
noncomputable def l86_0_b (d : Nat) (s1 : ByteArray) (n2 : Int) (kx86_0_0 : Int → (List ByteArray) → Option (List ByteArray)) (ag3 : ((List ByteArray) × Int × Int) → Option (List ByteArray)) (l4 : List ByteArray) (n5 : Int) (n6 : Int) : Option (List ByteArray) :=
 oif (decide ((n6 : Int) < ((s1 : ByteArray).size : Int))) (
 oif (decide (0 ≤ (n6 : Int))) (
 obind ((s1 : ByteArray).data.toList[(n6 : Int).toNat]?) fun c7 =>
 oif (((c7.toNat : Int) : Int) == n2) (
 oif (decide (0 ≤ (n6 : Int))) (
 oif (decide (0 ≤ (n5 : Int))) (
 oif (Nat.ble ((n5 : Int).toNat) ((n6 : Int).toNat) && Nat.ble ((n6 : Int).toNat) (s1 : ByteArray).size) (
 oif (Nat.ble ((l4.length + [((s1 : ByteArray).extract ((n5 : Int).toNat) ((n6 : Int).toNat))].length) * 16) roomMax) (
 ag3 ((l4 ++ [((s1 : ByteArray).extract ((n5 : Int).toNat) ((n6 : Int).toNat))]), (IntKind.i64.wrap (n6 + 1)), (IntKind.i64.wrap (n6 + 1)))) none) none) none) none) (
 ag3 (l4, n5, (IntKind.i64.wrap (n6 + 1))))) none) (
 kx86_0_0 n5 l4)
noncomputable def l86_0 (d : Nat) (s1 : ByteArray) (n2 : Int) (kx86_0_0 : Int → (List ByteArray) → Option (List ByteArray)) (ag3 : ((List ByteArray) × Int × Int) → Option (List ByteArray)) (s : ((List ByteArray) × Int × Int)) : Option (List ByteArray) := l86_0_b d s1 n2 kx86_0_0 ag3 s.1 s.2.1 s.2.2
theorem e86 (d : Nat) (s1 : ByteArray) (n2 : Int) : g86 (d + 1) s1 n2 =
 iterP (l86_0 d s1 n2 (j86_0 d s1)) fuelN ([], 0, 0) := by kernel_rfl

noncomputable def j33_0 (d : Nat)  (s8 : ByteArray) : Option (ByteArray × Bool) :=
 oif (Nat.ble ((s8 : ByteArray).size + ((⟨#[94, 10]⟩ : ByteArray) : ByteArray).size) 9223372036854775807) (
 some (((s8 : ByteArray) ++ ((⟨#[94, 10]⟩ : ByteArray) : ByteArray)), true)) none
noncomputable def l33_0_b (d : Nat)  (kx33_0_0 : ByteArray → Option (ByteArray × Bool)) (ag7 : (Int × ByteArray) → Option (ByteArray × Bool)) (n8 : Int) (s9 : ByteArray) : Option (ByteArray × Bool) :=
 oif (decide ((n8 : Int) > 1)) (
 oif (Nat.ble ((s9 : ByteArray).size + ((⟨#[32]⟩ : ByteArray) : ByteArray).size) 9223372036854775807) (
 ag7 ((IntKind.i64.wrap (n8 - 1)), ((s9 : ByteArray) ++ ((⟨#[32]⟩ : ByteArray) : ByteArray)))) none) (
 kx33_0_0 s9)
noncomputable def l33_0 (d : Nat)  (kx33_0_0 : ByteArray → Option (ByteArray × Bool)) (ag7 : (Int × ByteArray) → Option (ByteArray × Bool)) (s : (Int × ByteArray)) : Option (ByteArray × Bool) := l33_0_b d kx33_0_0 ag7 s.1 s.2
noncomputable def j33_1 (d : Nat) (s1 : ByteArray) (x2 : (Int × Int)) (b3 : Bool) : Option (ByteArray × Bool) :=
 oif b3 (
 some ((⟨#[]⟩ : ByteArray), false)) (
 obind (g78 d s1 x2.2) fun r4 =>
 obind (g86 d s1 10) fun r5 =>
 oif (decide (0 ≤ ((IntKind.i64.wrap (r4.1 - 1)) : Int))) (
 oif (Nat.blt (((IntKind.i64.wrap (r4.1 - 1)) : Int).toNat) r5.length) (
 obind (r5[((IntKind.i64.wrap (r4.1 - 1)) : Int).toNat]?) fun s6 =>
 oif (Nat.ble ((s6 : ByteArray).size + ((⟨#[10]⟩ : ByteArray) : ByteArray).size) 9223372036854775807) (
 iterP (l33_0 d (j33_0 d)) fuelN (r4.2, ((s6 : ByteArray) ++ ((⟨#[10]⟩ : ByteArray) : ByteArray)))) none) none) none)
theorem e33 (d : Nat) (s1 : ByteArray) (x2 : (Int × Int)) : g33 (d + 1) s1 x2 =
 obind (g81 d x2) fun r3 =>
 oif (!r3) (
 j33_1 d s1 x2 true) (
 obind (g77 d s1) fun r4 =>
 oif (!r4) (
 j33_1 d s1 x2 true) (
 j33_1 d s1 x2 (decide ((x2.2 : Int) > ((s1 : ByteArray).size : Int))))) := by kernel_rfl

theorem e34 (d : Nat) (l1 : List Int) : g34 (d + 1) l1 =
 obind (g75 d (l1, 0, 0)) fun r2 =>
 obind (g66 d r2.2 7) fun r3 =>
 obind (g66 d r3.2 12) fun r4 =>
 some (r2.1, r3.1, r4.1) := by kernel_rfl

noncomputable def j87_0 (d : Nat)  (n6 : Int) : Option Int :=
 some n6
noncomputable def l87_0_b (d : Nat) (n2 : Int) (r3 : List ByteArray) (kx87_0_0 : Int → Option Int) (ag5 : (Int × Int) → Option Int) (n6 : Int) (n7 : Int) : Option Int :=
 oif (decide ((n7 : Int) < ((((IntKind.i64.wrap (n2 - 1)) : Int).toNat : Nat) : Int))) (
 oif (decide (0 ≤ (n7 : Int))) (
 oif (Nat.blt ((n7 : Int).toNat) (((IntKind.i64.wrap (n2 - 1)) : Int).toNat)) (
 obind (r3[(n7 : Int).toNat]?) fun s8 =>
 ag5 ((IntKind.i64.wrap (n6 + (IntKind.i64.wrap (((s8 : ByteArray).size : Int) + 1)))), (IntKind.i64.wrap (n7 + 1)))) none) none) (
 kx87_0_0 n6)
noncomputable def l87_0 (d : Nat) (n2 : Int) (r3 : List ByteArray) (kx87_0_0 : Int → Option Int) (ag5 : (Int × Int) → Option Int) (s : (Int × Int)) : Option Int := l87_0_b d n2 r3 kx87_0_0 ag5 s.1 s.2
theorem e87 (d : Nat) (s1 : ByteArray) (n2 : Int) : g87 (d + 1) s1 n2 =
 obind (g86 d s1 10) fun r3 =>
 obind (g68 d n2 1 ((r3.length : Nat) : Int)) fun r4 =>
 oif (!r4) (
 some (-1)) (
 oif (decide (0 ≤ ((IntKind.i64.wrap (n2 - 1)) : Int))) (
 oif (Nat.ble (((IntKind.i64.wrap (n2 - 1)) : Int).toNat) r3.length) (
 iterP (l87_0 d n2 r3 (j87_0 d)) fuelN (0, 0)) none) none) := by kernel_rfl

noncomputable def j35_0 (d : Nat) (s1 : ByteArray) (n2 : Int) (n3 : Int) (b4 : Bool) : Option (Int × Bool) :=
 oif b4 (
 some (0, false)) (
 obind (g86 d s1 10) fun r5 =>
 oif (decide (0 ≤ ((IntKind.i64.wrap (n2 - 1)) : Int))) (
 oif (Nat.blt (((IntKind.i64.wrap (n2 - 1)) : Int).toNat) r5.length) (
 obind (r5[((IntKind.i64.wrap (n2 - 1)) : Int).toNat]?) fun s6 =>
 obind (g68 d n3 1 (IntKind.i64.wrap (((s6 : ByteArray).size : Int) + 1))) fun r7 =>
 oif (!r7) (
 some (0, false)) (
 obind (g87 d s1 n2) fun r8 =>
 some ((IntKind.i64.wrap ((IntKind.i64.wrap (r8 + n3)) - 1)), true))) none) none)
theorem e35 (d : Nat) (s1 : ByteArray) (n2 : Int) (n3 : Int) : g35 (d + 1) s1 n2 n3 =
 obind (g77 d s1) fun r4 =>
 oif (!r4) (
 j35_0 d s1 n2 n3 true) (
 obind (g87 d s1 n2) fun r5 =>
 j35_0 d s1 n2 n3 (decide ((r5 : Int) < 0))) := by kernel_rfl

theorem e36 (d : Nat) (l1 : List Int) : g36 (d + 1) l1 =
 obind (g75 d (l1, 0, 0)) fun r2 =>
 obind (g66 d r2.2 8) fun r3 =>
 some (r2.1, r3.1) := by kernel_rfl

noncomputable def j37_0 (d : Nat) (s1 : ByteArray) (n2 : Int) (b3 : Bool) : Option (ByteArray × Bool) :=
 oif b3 (
 some ((⟨#[]⟩ : ByteArray), false)) (
 obind (g86 d s1 10) fun r4 =>
 oif (decide (0 ≤ ((IntKind.i64.wrap (n2 - 1)) : Int))) (
 oif (Nat.blt (((IntKind.i64.wrap (n2 - 1)) : Int).toNat) r4.length) (
 obind (r4[((IntKind.i64.wrap (n2 - 1)) : Int).toNat]?) fun s5 =>
 some (s5, true)) none) none)
theorem e37 (d : Nat) (s1 : ByteArray) (n2 : Int) : g37 (d + 1) s1 n2 =
 obind (g77 d s1) fun r3 =>
 oif (!r3) (
 j37_0 d s1 n2 true) (
 obind (g87 d s1 n2) fun r4 =>
 j37_0 d s1 n2 (decide ((r4 : Int) < 0))) := by kernel_rfl

noncomputable def j5_0 (d : Nat) (l2 : List Int)  : Option Bool :=
 obind (g34 d l2) fun r12 =>
 obind (g29 d r12.1 r12.2.1 r12.2.2) fun r13 =>
 obind (g35 d r12.1 r12.2.1 r12.2.2) fun r14 =>
 obind (g36 d l2) fun r15 =>
 obind (g30 d r15.1 r15.2) fun r16 =>
 obind (g37 d r15.1 r15.2) fun r17 =>
 oif (r13.2 == r14.2) (
 oif ((r13.1 : Int) == r14.1) (
 oif (r16.2 == r17.2) (
 some ((r16.1 : ByteArray).toList == (r17.1 : ByteArray).toList)) (
 some false)) (
 some false)) (
 some false)
noncomputable def j5_1 (d : Nat) (l2 : List Int) (r8 : (ByteArray × (Int × Int))) (r9 : (ByteArray × Bool)) (r10 : (ByteArray × Bool)) (b11 : Bool) : Option Bool :=
 oif b11 (
 some false) (
 oif r9.2 (
 obind (g27 d r8.1 r8.2.2) fun r12 =>
 obind (g30 d r8.1 r12.1) fun r13 =>
 oif (!r12.2.2) (
 some false) (
 oif (!r13.2) (
 some false) (
 oif ((((r10.1 : ByteArray).size : Int) : Int) != (IntKind.i64.wrap ((IntKind.i64.wrap ((IntKind.i64.wrap (((r13.1 : ByteArray).size : Int) + 1)) + r12.2.1)) + 1))) (
 some false) (
 j5_0 d l2)))) (
 j5_0 d l2))
noncomputable def j5_2 (d : Nat) (l2 : List Int)  : Option Bool :=
 obind (g31 d l2) fun r8 =>
 obind (g32 d r8.1 r8.2) fun r9 =>
 obind (g33 d r8.1 r8.2) fun r10 =>
 oif (!(r9.2 == r10.2)) (
 j5_1 d l2 r8 r9 r10 true) (
 j5_1 d l2 r8 r9 r10 (!((r9.1 : ByteArray).toList == (r10.1 : ByteArray).toList)))
noncomputable def j5_3 (d : Nat) (l2 : List Int) (r4 : (ByteArray × Int)) (r5 : (Int × Int × Bool)) (b7 : Bool) : Option Bool :=
 oif b7 (
 some false) (
 oif r5.2.2 (
 obind (g29 d r4.1 r5.1 r5.2.1) fun r8 =>
 obind (g30 d r4.1 r5.1) fun r9 =>
 oif (!r8.2) (
 some false) (
 oif ((r8.1 : Int) != r4.2) (
 some false) (
 oif (!r9.2) (
 some false) (
 oif (decide ((r5.2.1 : Int) > (IntKind.i64.wrap (((r9.1 : ByteArray).size : Int) + 1)))) (
 some false) (
 j5_2 d l2))))) (
 j5_2 d l2))
theorem e5 (d : Nat) (l1 : List Int) (l2 : List Int) : g5 (d + 1) l1 l2 =
 obind (g9 d l1 l2) fun r3 =>
 oif r3 (
 some true) (
 obind (g26 d l1) fun r4 =>
 obind (g27 d r4.1 r4.2) fun r5 =>
 obind (g28 d r4.1 r4.2) fun r6 =>
 oif (!(r5.2.2 == r6.2.2)) (
 j5_3 d l2 r4 r5 true) (
 oif ((r5.1 : Int) != r6.1) (
 j5_3 d l2 r4 r5 true) (
 j5_3 d l2 r4 r5 ((r5.2.1 : Int) != r6.2.1)))) := by kernel_rfl

end Go.Proofs.YtbciiigglpmlmaaDoor
