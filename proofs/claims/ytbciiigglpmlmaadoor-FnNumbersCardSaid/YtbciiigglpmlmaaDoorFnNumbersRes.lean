/-
  The residual forms of the program's functions under the interpreter by value, printed by program (wip/pv/gen2.py); each equation is checked by the kernel.
  Conditions: none.
-/
import Derived.Test.YtbciiigglpmlmaaDoorVDef
import Derived.Test.YtbciiigglpmlmaaDoorProg
import Derived.Test.YtbciiigglpmlmaaDoorItoaW
import Derived.KernelRfl
set_option linter.all false
set_option maxRecDepth 1000000
namespace Go.Proofs.YtbciiigglpmlmaaDoor
open Go.Ev Go.Pv

theorem fuel_is : ∃ n : Nat, n = 4194304 := ⟨_, rfl⟩
noncomputable def fuelN : Nat := Classical.choose fuel_is
theorem fuelN_eq : fuelN = 4194304 := Classical.choose_spec fuel_is
def pvSig : FuncId → Sig
  | 4 => ⟨[(.ro, (.sl (.int .u8))), (.ro, (.sl (.int .u8)))], [(false, .bool)]⟩
  | 9 => ⟨[(.ro, (.sl (.int .u8))), (.ro, (.sl (.int .u8)))], [(false, .bool)]⟩
  | 10 => ⟨[(.ro, (.sl (.int .u8)))], [(false, (.int .i64))]⟩
  | 11 => ⟨[(.ro, (.int .i64))], [(true, (.sl .str)), (false, .bool)]⟩
  | 12 => ⟨[(.ro, (.int .i64))], [(true, (.sl .str)), (false, .bool)]⟩
  | 13 => ⟨[(.ro, (.sl .str)), (.ro, (.sl .str))], [(false, .bool)]⟩
  | 14 => ⟨[(.ro, .str)], [(false, (.int .i64)), (false, .bool)]⟩
  | 15 => ⟨[(.ro, .str)], [(false, .bool)]⟩
  | 16 => ⟨[(.ro, (.int .i64))], [(false, .str), (false, .bool)]⟩
  | 17 => ⟨[(.ro, (.sl (.int .u8)))], [(false, (.int .i64))]⟩
  | 18 => ⟨[(.ro, (.int .i64))], [(false, .str), (false, .bool)]⟩
  | 19 => ⟨[(.ro, (.int .i64))], [(false, .str), (false, .bool)]⟩
  | 20 => ⟨[(.ro, .str)], [(false, (.int .i64)), (false, .bool)]⟩
  | 21 => ⟨[(.ro, .str)], [(false, (.int .i64)), (false, .bool)]⟩
  | 22 => ⟨[(.ro, (.sl (.int .u8)))], [(false, .str)]⟩
  | 23 => ⟨[(.ro, .str)], [(false, (.int .i64)), (false, .bool)]⟩
  | 24 => ⟨[(.ro, .str)], [(false, (.int .i64)), (false, .bool)]⟩
  | 25 => ⟨[(.ro, .str)], [(false, .bool)]⟩
  | 58 => ⟨[(.ro, (.sl (.int .u8)))], [(false, (.int .i64))]⟩
  | 59 => ⟨[(.ro, (.int .i64))], [(false, .bool)]⟩
  | 60 => ⟨[(.ro, (.int .i64))], [(false, .str)]⟩
  | 61 => ⟨[(.ro, (.int .i64))], [(false, .bool)]⟩
  | 62 => ⟨[(.ro, (.int .i64))], [(true, (.sl .str))]⟩
  | 63 => ⟨[(.ro, (.int .u8))], [(false, .bool)]⟩
  | 64 => ⟨[(.ro, (.int .i64))], [(false, .str)]⟩
  | 65 => ⟨[(.ps, (.pair (.sl (.int .u8)) (.pair (.int .i64) (.int .u64)))), (.ro, (.sl (.int .i64)))], [(false, (.int .i64))]⟩
  | 66 => ⟨[(.ps, (.pair (.sl (.int .u8)) (.pair (.int .i64) (.int .u64)))), (.ro, (.int .i64))], [(false, (.int .i64))]⟩
  | 67 => ⟨[(.ro, (.int .i64))], [(false, .str), (false, .bool)]⟩
  | 68 => ⟨[(.ro, (.int .i64)), (.ro, (.int .i64)), (.ro, (.int .i64))], [(false, .bool)]⟩
  | 69 => ⟨[(.ro, (.int .i64))], [(false, .str)]⟩
  | 70 => ⟨[(.ro, (.int .u8))], [(false, (.int .i64))]⟩
  | 71 => ⟨[(.ro, (.sl (.int .u8)))], [(false, .str)]⟩
  | 72 => ⟨[(.ro, .str)], [(false, (.int .i64))]⟩
  | 73 => ⟨[(.ro, .str)], [(false, (.int .i64))]⟩
  | 74 => ⟨[(.ro, (.int .i64))], [(false, .str)]⟩
  | 83 => ⟨[(.ro, (.int .i64)), (.ro, (.int .i64))], [(false, (.int .i64))]⟩
  | 110 => ⟨[(.ro, (.int .i64))], [(false, .str)]⟩
  | 112 => ⟨[(.ps, (.pair (.sl (.int .u8)) (.pair (.int .i64) (.int .u64))))], [(false, (.int .i64))]⟩
  | 114 => ⟨[], [(true, (.sl .str))]⟩
  | 115 => ⟨[(.ro, (.int .i64))], [(false, (.int .i64))]⟩
  | 116 => ⟨[(.ps, (.pair (.sl (.int .u8)) (.pair (.int .i64) (.int .u64))))], [(false, (.int .i64))]⟩
  | 117 => ⟨[(.ps, (.pair (.sl (.int .u8)) (.pair (.int .i64) (.int .u64))))], [(false, .str)]⟩
  | 118 => ⟨[(.ro, .str)], [(false, .bool)]⟩
  | 119 => ⟨[(.ro, .str)], [(false, (.int .i64))]⟩
  | 120 => ⟨[(.ro, .str), (.ro, (.int .i64)), (.ro, (.int .i64))], [(false, (.int .i64))]⟩
  | 121 => ⟨[(.ps, (.pair (.sl (.int .u8)) (.pair (.int .i64) (.int .u64)))), (.ro, (.sl .str))], [(false, .str)]⟩
  | 142 => ⟨[(.ro, (.int .i64)), (.ro, (.int .i64))], [(false, (.int .i64))]⟩
  | 143 => ⟨[(.ps, (.pair (.sl (.int .u8)) (.pair (.int .i64) (.int .u64)))), (.ro, .str), (.ro, .str)], [(false, .str)]⟩
  | _ => ⟨[], []⟩
def pvLoops : FuncId → Nat → LoopA
  | 4, 0 => ⟨[(4, false, .bool), (60, false, (.int .i64))], [], [], []⟩
  | 13, 0 => ⟨[(4, false, .bool), (13, false, (.int .i64))], [], [], []⟩
  | 14, 0 => ⟨[(2, false, (.int .i64)), (3, false, .bool), (6, false, (.int .i64)), (7, false, (.int .i64))], [], [], []⟩
  | 20, 0 => ⟨[(2, false, (.int .i64)), (3, false, .bool), (4, false, (.int .i64)), (5, false, (.int .i64))], [], [], []⟩
  | 62, 0 => ⟨[(3, true, (.sl .str)), (8, false, (.int .i64))], [], [], []⟩
  | 67, 0 => ⟨[(0, false, (.int .i64)), (4, false, .str)], [], [], []⟩
  | 69, 0 => ⟨[(0, false, (.int .i64)), (3, false, .str), (4, false, .bool)], [], [], []⟩
  | 73, 0 => ⟨[(2, false, (.int .i64)), (8, false, (.int .i64))], [], [], []⟩
  | 120, 0 => ⟨[(6, false, (.int .i64)), (7, false, (.int .i64)), (8, false, (.int .i64))], [], [], []⟩
  | 143, 0 => ⟨[(1, false, .str), (7, false, (.int .i64))], [(0, (.pair (.sl (.int .u8)) (.pair (.int .i64) (.int .u64))))], [], []⟩
  | _, _ => ⟨[], [], [], []⟩
def pvEloops : FuncId → Nat → List (Nat × Value)
  | 4, 0 => [(1, (.slice none 0 0)), (4, (.bool false)), (5, (.int .i64 0)), (7, (.bool false)), (8, (.slice none 0 0)), (58, (.slice none 0 0)), (59, (.int .i64 0)), (60, (.int .i64 0))]
  | 13, 0 => [(0, (.slice none 0 0)), (1, (.slice none 0 0)), (4, (.bool false)), (12, (.int .i64 0)), (13, (.int .i64 0))]
  | 14, 0 => [(2, (.int .i64 0)), (3, (.bool false)), (4, (.int .i64 0)), (5, (.string ⟨#[]⟩)), (6, (.int .i64 0)), (7, (.int .i64 0))]
  | 20, 0 => [(0, (.string ⟨#[]⟩)), (2, (.int .i64 0)), (3, (.bool false)), (4, (.int .i64 0)), (5, (.int .i64 0))]
  | 62, 0 => [(0, (.int .i64 0)), (2, (.slice none 0 0)), (3, (.slice none 0 0)), (6, (.slice none 0 0)), (7, (.int .i64 0)), (8, (.int .i64 0))]
  | 67, 0 => [(0, (.int .i64 0)), (2, (.string ⟨#[]⟩)), (3, (.bool false)), (4, (.string ⟨#[]⟩))]
  | 69, 0 => [(0, (.int .i64 0)), (2, (.string ⟨#[]⟩)), (3, (.string ⟨#[]⟩)), (4, (.bool false))]
  | 73, 0 => [(0, (.string ⟨#[]⟩)), (2, (.int .i64 0)), (6, (.slice none 0 0)), (7, (.int .i64 0)), (8, (.int .i64 0))]
  | 120, 0 => [(0, (.string ⟨#[]⟩)), (1, (.int .i64 0)), (2, (.int .i64 0)), (6, (.int .i64 0)), (7, (.int .i64 0)), (8, (.int .i64 0))]
  | 143, 0 => [(0, (.pointer (some ⟨0, 0, none⟩))), (1, (.string ⟨#[]⟩)), (2, (.string ⟨#[]⟩)), (6, (.string ⟨#[]⟩)), (7, (.int .i64 0))]
  | _, _ => []
def pvInline : FuncId → Bool
  | 131 => true
  | 132 => true
  | _ => false
def pvOwn : FuncId → Bool

  | _ => false
def pvExt : FuncId → Option (List Value → Nat → Go.Ev.Heap → Option (Value × Go.Ev.Heap))
  | 60 => some itoaX
  | _ => none
def pvVext : (f : FuncId) → Option (TupT (pvSig f).ptys → Option (TupT (pvSig f).rtys))
  | 60 => some (fun a => itoaV a)
  | _ => none
noncomputable def pvAnn : AnnV := ⟨fuelN, pvSig, pvLoops, pvEloops, pvInline, pvOwn, pvExt, pvVext⟩

/-- loop.example/g00838/laws.big -/
noncomputable def g9 (d : Nat) (l1 : List Int) (l2 : List Int) : Option Bool := (lev Tryd.prog pvAnn d).call 9 (l1, l2)
/-- (*loop.example/g00838/spec.l1Cur).next -/
noncomputable def g116 (d : Nat) (x1 : ((List Int) × Int × Int)) : Option (Int × ((List Int) × Int × Int)) := (lev Tryd.prog pvAnn d).call 116 (x1)
/-- (*loop.example/g00838/spec.l1Cur).pick -/
noncomputable def g66 (d : Nat) (x1 : ((List Int) × Int × Int)) (n2 : Int) : Option (Int × ((List Int) × Int × Int)) := (lev Tryd.prog pvAnn d).call 66 (x1, n2)
/-- (*loop.example/g00838/spec.l1Cur).among -/
noncomputable def g65 (d : Nat) (x1 : ((List Int) × Int × Int)) (l2 : List Int) : Option (Int × ((List Int) × Int × Int)) := (lev Tryd.prog pvAnn d).call 65 (x1, l2)
/-- (*loop.example/g00838/spec.l1Cur).value -/
noncomputable def g112 (d : Nat) (x1 : ((List Int) × Int × Int)) : Option (Int × ((List Int) × Int × Int)) := (lev Tryd.prog pvAnn d).call 112 (x1)
/-- loop.example/g00838/spec.DrawNumberText -/
noncomputable def g58 (d : Nat) (l1 : List Int) : Option Int := (lev Tryd.prog pvAnn d).call 58 (l1)
/-- loop.example/g00838/spec.DrawFormsOf -/
noncomputable def g10 (d : Nat) (l1 : List Int) : Option Int := (lev Tryd.prog pvAnn d).call 10 (l1)
/-- loop.example/g00838/impl.isValue -/
noncomputable def g59 (d : Nat) (n1 : Int) : Option Bool := (lev Tryd.prog pvAnn d).call 59 (n1)
/-- strconv.Itoa -/
noncomputable def g60 (d : Nat) (n1 : Int) : Option ByteArray := (lev Tryd.prog pvAnn d).call 60 n1
/-- loop.example/g00838/impl.FormsOf -/
noncomputable def g11 (d : Nat) (n1 : Int) : Option ((List ByteArray) × Bool) := (lev Tryd.prog pvAnn d).call 11 (n1)
/-- loop.example/g00838/spec.l1In -/
noncomputable def g68 (d : Nat) (n1 : Int) (n2 : Int) (n3 : Int) : Option Bool := (lev Tryd.prog pvAnn d).call 68 (n1, n2, n3)
/-- loop.example/g00838/spec.nuValue -/
noncomputable def g61 (d : Nat) (n1 : Int) : Option Bool := (lev Tryd.prog pvAnn d).call 61 (n1)
/-- loop.example/g00838/spec.l1Num -/
noncomputable def g110 (d : Nat) (n1 : Int) : Option ByteArray := (lev Tryd.prog pvAnn d).call 110 (n1)
/-- loop.example/g00838/spec.nuUnits -/
noncomputable def g114 (d : Nat)  : Option (List ByteArray) := (lev Tryd.prog pvAnn d).call 114 ()
/-- loop.example/g00838/spec.nuSize -/
noncomputable def g115 (d : Nat) (n1 : Int) : Option Int := (lev Tryd.prog pvAnn d).call 115 (n1)
/-- loop.example/g00838/spec.nuForms -/
noncomputable def g62 (d : Nat) (n1 : Int) : Option (List ByteArray) := (lev Tryd.prog pvAnn d).call 62 (n1)
/-- loop.example/g00838/spec.FormsOf -/
noncomputable def g12 (d : Nat) (n1 : Int) : Option ((List ByteArray) × Bool) := (lev Tryd.prog pvAnn d).call 12 (n1)
/-- loop.example/g00838/laws.pSameTexts -/
noncomputable def g13 (d : Nat) (l1 : List ByteArray) (l2 : List ByteArray) : Option Bool := (lev Tryd.prog pvAnn d).call 13 (l1, l2)
/-- loop.example/g00838/impl.isDigit -/
noncomputable def g63 (d : Nat) (n1 : Int) : Option Bool := (lev Tryd.prog pvAnn d).call 63 (n1)
/-- loop.example/g00838/impl.ReadNumber -/
noncomputable def g14 (d : Nat) (s1 : ByteArray) : Option (Int × Bool) := (lev Tryd.prog pvAnn d).call 14 (s1)
/-- loop.example/g00838/impl.numberText -/
noncomputable def g64 (d : Nat) (n1 : Int) : Option ByteArray := (lev Tryd.prog pvAnn d).call 64 (n1)
/-- loop.example/g00838/impl.IsCanonical -/
noncomputable def g15 (d : Nat) (s1 : ByteArray) : Option Bool := (lev Tryd.prog pvAnn d).call 15 (s1)
/-- loop.example/g00838/impl.NumberText -/
noncomputable def g16 (d : Nat) (n1 : Int) : Option (ByteArray × Bool) := (lev Tryd.prog pvAnn d).call 16 (n1)
/-- loop.example/g00838/spec.DrawHexText -/
noncomputable def g17 (d : Nat) (l1 : List Int) : Option Int := (lev Tryd.prog pvAnn d).call 17 (l1)
/-- loop.example/g00838/impl.HexOf -/
noncomputable def g67 (d : Nat) (n1 : Int) : Option (ByteArray × Bool) := (lev Tryd.prog pvAnn d).call 67 (n1)
/-- loop.example/g00838/impl.HexText -/
noncomputable def g18 (d : Nat) (n1 : Int) : Option (ByteArray × Bool) := (lev Tryd.prog pvAnn d).call 18 (n1)
/-- loop.example/g00838/spec.nuHex -/
noncomputable def g69 (d : Nat) (n1 : Int) : Option ByteArray := (lev Tryd.prog pvAnn d).call 69 (n1)
/-- loop.example/g00838/spec.HexText -/
noncomputable def g19 (d : Nat) (n1 : Int) : Option (ByteArray × Bool) := (lev Tryd.prog pvAnn d).call 19 (n1)
/-- loop.example/g00838/impl.hexDigit -/
noncomputable def g70 (d : Nat) (n1 : Int) : Option Int := (lev Tryd.prog pvAnn d).call 70 (n1)
/-- loop.example/g00838/impl.ReadHex -/
noncomputable def g20 (d : Nat) (s1 : ByteArray) : Option (Int × Bool) := (lev Tryd.prog pvAnn d).call 20 (s1)
/-- loop.example/g00838/impl.ReadAny -/
noncomputable def g21 (d : Nat) (s1 : ByteArray) : Option (Int × Bool) := (lev Tryd.prog pvAnn d).call 21 (s1)
/-- loop.example/g00838/spec.l1Least -/
noncomputable def g83 (d : Nat) (n1 : Int) (n2 : Int) : Option Int := (lev Tryd.prog pvAnn d).call 83 (n1, n2)
/-- (*loop.example/g00838/spec.l1Cur).of -/
noncomputable def g121 (d : Nat) (x1 : ((List Int) × Int × Int)) (l2 : List ByteArray) : Option (ByteArray × ((List Int) × Int × Int)) := (lev Tryd.prog pvAnn d).call 121 (x1, l2)
/-- loop.example/g00838/spec.l1Most -/
noncomputable def g142 (d : Nat) (n1 : Int) (n2 : Int) : Option Int := (lev Tryd.prog pvAnn d).call 142 (n1, n2)
/-- (*loop.example/g00838/spec.l1Cur).spoilt -/
noncomputable def g143 (d : Nat) (x1 : ((List Int) × Int × Int)) (s2 : ByteArray) (s3 : ByteArray) : Option (ByteArray × ((List Int) × Int × Int)) := (lev Tryd.prog pvAnn d).call 143 (x1, s2, s3)
/-- (*loop.example/g00838/spec.l1Cur).numeral -/
noncomputable def g117 (d : Nat) (x1 : ((List Int) × Int × Int)) : Option (ByteArray × ((List Int) × Int × Int)) := (lev Tryd.prog pvAnn d).call 117 (x1)
/-- loop.example/g00838/spec.DrawReadNumber -/
noncomputable def g71 (d : Nat) (l1 : List Int) : Option ByteArray := (lev Tryd.prog pvAnn d).call 71 (l1)
/-- loop.example/g00838/spec.DrawReadAny -/
noncomputable def g22 (d : Nat) (l1 : List Int) : Option ByteArray := (lev Tryd.prog pvAnn d).call 22 (l1)
/-- loop.example/g00838/spec.nuDigits -/
noncomputable def g120 (d : Nat) (s1 : ByteArray) (n2 : Int) (n3 : Int) : Option Int := (lev Tryd.prog pvAnn d).call 120 (s1, n2, n3)
/-- loop.example/g00838/spec.nuRead -/
noncomputable def g73 (d : Nat) (s1 : ByteArray) : Option Int := (lev Tryd.prog pvAnn d).call 73 (s1)
/-- loop.example/g00838/spec.nuIsHex -/
noncomputable def g118 (d : Nat) (s1 : ByteArray) : Option Bool := (lev Tryd.prog pvAnn d).call 118 (s1)
/-- loop.example/g00838/spec.nuReadHex -/
noncomputable def g119 (d : Nat) (s1 : ByteArray) : Option Int := (lev Tryd.prog pvAnn d).call 119 (s1)
/-- loop.example/g00838/spec.nuAny -/
noncomputable def g72 (d : Nat) (s1 : ByteArray) : Option Int := (lev Tryd.prog pvAnn d).call 72 (s1)
/-- loop.example/g00838/spec.ReadAny -/
noncomputable def g23 (d : Nat) (s1 : ByteArray) : Option (Int × Bool) := (lev Tryd.prog pvAnn d).call 23 (s1)
/-- loop.example/g00838/spec.ReadNumber -/
noncomputable def g24 (d : Nat) (s1 : ByteArray) : Option (Int × Bool) := (lev Tryd.prog pvAnn d).call 24 (s1)
/-- loop.example/g00838/spec.nuText -/
noncomputable def g74 (d : Nat) (n1 : Int) : Option ByteArray := (lev Tryd.prog pvAnn d).call 74 (n1)
/-- loop.example/g00838/spec.IsCanonical -/
noncomputable def g25 (d : Nat) (s1 : ByteArray) : Option Bool := (lev Tryd.prog pvAnn d).call 25 (s1)
/-- loop.example/g00838/laws.FnNumbers -/
noncomputable def g4 (d : Nat) (l1 : List Int) (l2 : List Int) : Option Bool := (lev Tryd.prog pvAnn d).call 4 (l1, l2)

theorem e9 (d : Nat) (l1 : List Int) (l2 : List Int) : g9 (d + 1) l1 l2 =
 oif (decide ((((l1.length : Nat) : Int) : Int) > 1048576)) (
 some true) (
 some (decide ((((l2.length : Nat) : Int) : Int) > (IntKind.i64.wrap ((1048576 : Int) - ((l1.length : Nat) : Int)))))) := by kernel_rfl

noncomputable def j116_0 (d : Nat) (x1 : ((List Int) × Int × Int)) (n2 : Int) : Option (Int × ((List Int) × Int × Int)) :=
 oif (decide (((IntKind.i64.wrap (x1.2.1 + 1)) : Int) ≤ ((x1.1.length : Nat) : Int))) (
 some (n2, (x1.1, (IntKind.i64.wrap (x1.2.1 + 1)), (IntKind.u64.wrap ((IntKind.u64.wrap ((IntKind.u64.wrap (x1.2.2 * 6364136223846793005)) + (IntKind.u64.wrap n2))) + 1442695040888963407))))) (
 some ((IntKind.i64.wrap (IntKind.u64.wrap ((BitVec.ofInt IntKind.u64.bits ((IntKind.u64.wrap ((IntKind.u64.wrap ((IntKind.u64.wrap (x1.2.2 * 6364136223846793005)) + (IntKind.u64.wrap n2))) + 1442695040888963407)).fdiv (2 ^ (min (40 : Int).toNat IntKind.u64.bits))) &&& BitVec.ofInt IntKind.u64.bits 255).toNat : Int))), (x1.1, (IntKind.i64.wrap (x1.2.1 + 1)), (IntKind.u64.wrap ((IntKind.u64.wrap ((IntKind.u64.wrap (x1.2.2 * 6364136223846793005)) + (IntKind.u64.wrap n2))) + 1442695040888963407)))))
theorem e116 (d : Nat) (x1 : ((List Int) × Int × Int)) : g116 (d + 1) x1 =
 oif (decide ((x1.2.1 : Int) < ((x1.1.length : Nat) : Int))) (
 oif (decide (0 ≤ (x1.2.1 : Int))) (
 obind (x1.1[(x1.2.1 : Int).toNat]?) fun n2 =>
 j116_0 d x1 (IntKind.i64.wrap n2)) none) (
 j116_0 d x1 0) := by kernel_rfl

theorem e66 (d : Nat) (x1 : ((List Int) × Int × Int)) (n2 : Int) : g66 (d + 1) x1 n2 =
 oif (decide ((n2 : Int) ≤ 1)) (
 some (0, x1)) (
 obind (g116 d x1) fun r3 =>
 oif (decide ((n2 : Int) > 200)) (
 obind (g116 d r3.2) fun r4 =>
 oif ((n2 : Int) == 0) none (
 some (((IntKind.i64.wrap ((IntKind.i64.wrap (r3.1 * 256)) + r4.1)).tmod n2), r4.2))) (
 oif ((n2 : Int) == 0) none (
 some ((r3.1.tmod n2), r3.2)))) := by kernel_rfl

theorem e65 (d : Nat) (x1 : ((List Int) × Int × Int)) (l2 : List Int) : g65 (d + 1) x1 l2 =
 obind (g66 d x1 ((l2.length : Nat) : Int)) fun r3 =>
 oif (decide (0 ≤ (r3.1 : Int))) (
 obind (l2[(r3.1 : Int).toNat]?) fun n4 =>
 some (n4, r3.2)) none := by kernel_rfl

theorem e112 (d : Nat) (x1 : ((List Int) × Int × Int)) : g112 (d + 1) x1 =
 obind (g66 d x1 400) fun r2 =>
 obind (g66 d r2.2 60000) fun r3 =>
 obind (g66 d r3.2 400) fun r4 =>
 obind (g65 d r4.2 [1000000001, (-1)]) fun r5 =>
 obind (g65 d r5.2 [0, 1, 5, 999, 1000, 1500, 64000, 1000000, 2500000, 999999999, 1000000000, r2.1, r3.1, (IntKind.i64.wrap ((1000 : Int) * r4.1)), r5.1]) fun r6 =>
 some (r6.1, r6.2) := by kernel_rfl

theorem e58 (d : Nat) (l1 : List Int) : g58 (d + 1) l1 =
 obind (g112 d (l1, 0, 0)) fun r2 =>
 some r2.1 := by kernel_rfl

theorem e10 (d : Nat) (l1 : List Int) : g10 (d + 1) l1 =
 obind (g58 d l1) fun r2 =>
 some r2 := by kernel_rfl

theorem e59 (d : Nat) (n1 : Int) : g59 (d + 1) n1 =
 oif (decide ((n1 : Int) ≥ 0)) (
 some (decide ((n1 : Int) ≤ 1000000000))) (
 some false) := by kernel_rfl

theorem e60 (d : Nat) (n1 : Int) : g60 (d + 1) n1 =
 itoaV n1 := by kernel_rfl

noncomputable def j11_0 (d : Nat) (n1 : Int) (l4 : List ByteArray) (b5 : Bool) : Option ((List ByteArray) × Bool) :=
 oif b5 (
 obind (g60 d (IntKind.i64.wrap (n1.tdiv 1000))) fun r6 =>
 oif (Nat.ble ((r6 : ByteArray).size + ((⟨#[107]⟩ : ByteArray) : ByteArray).size) 9223372036854775807) (
 oif (Nat.ble ((l4.length + [((r6 : ByteArray) ++ ((⟨#[107]⟩ : ByteArray) : ByteArray))].length) * 16) roomMax) (
 obind (g60 d n1) fun r7 =>
 oif (Nat.ble (((l4 ++ [((r6 : ByteArray) ++ ((⟨#[107]⟩ : ByteArray) : ByteArray))]).length + [r7].length) * 16) roomMax) (
 some (((l4 ++ [((r6 : ByteArray) ++ ((⟨#[107]⟩ : ByteArray) : ByteArray))]) ++ [r7]), true)) none) none) none) (
 obind (g60 d n1) fun r8 =>
 oif (Nat.ble ((l4.length + [r8].length) * 16) roomMax) (
 some ((l4 ++ [r8]), true)) none)
noncomputable def j11_1 (d : Nat) (n1 : Int) (l4 : List ByteArray) : Option ((List ByteArray) × Bool) :=
 oif (decide ((n1 : Int) > 0)) (
 j11_0 d n1 l4 (((n1.tmod 1000) : Int) == 0)) (
 j11_0 d n1 l4 false)
noncomputable def j11_2 (d : Nat) (n1 : Int) (b3 : Bool) : Option ((List ByteArray) × Bool) :=
 oif b3 (
 obind (g60 d (IntKind.i64.wrap (n1.tdiv 1000000))) fun r4 =>
 oif (Nat.ble ((r4 : ByteArray).size + ((⟨#[109]⟩ : ByteArray) : ByteArray).size) 9223372036854775807) (
 oif (Nat.ble ((([] : List ByteArray).length + [((r4 : ByteArray) ++ ((⟨#[109]⟩ : ByteArray) : ByteArray))].length) * 16) roomMax) (
 j11_1 d n1 (([] : List ByteArray) ++ [((r4 : ByteArray) ++ ((⟨#[109]⟩ : ByteArray) : ByteArray))])) none) none) (
 j11_1 d n1 ([] : List ByteArray))
theorem e11 (d : Nat) (n1 : Int) : g11 (d + 1) n1 =
 obind (g59 d n1) fun r2 =>
 oif (!r2) (
 some ([], false)) (
 oif (decide ((n1 : Int) > 0)) (
 j11_2 d n1 (((n1.tmod 1000000) : Int) == 0)) (
 j11_2 d n1 false)) := by kernel_rfl

theorem e68 (d : Nat) (n1 : Int) (n2 : Int) (n3 : Int) : g68 (d + 1) n1 n2 n3 =
 oif (decide ((n1 : Int) ≥ n2)) (
 some (decide ((n1 : Int) ≤ n3))) (
 some false) := by kernel_rfl

theorem e61 (d : Nat) (n1 : Int) : g61 (d + 1) n1 =
 obind (g68 d n1 0 1000000000) fun r2 =>
 some r2 := by kernel_rfl

theorem e110 (d : Nat) (n1 : Int) : g110 (d + 1) n1 =
 oif (decide ((n1 : Int) < 10)) (
 some (strL [(IntKind.u8.wrap (IntKind.i64.wrap ((48 : Int) + n1)))])) (
 obind (g110 d (IntKind.i64.wrap (n1.tdiv 10))) fun r2 =>
 oif (Nat.ble ((r2 : ByteArray).size + ((strL [(IntKind.u8.wrap (IntKind.i64.wrap ((48 : Int) + (n1.tmod 10))))]) : ByteArray).size) 9223372036854775807) (
 some ((r2 : ByteArray) ++ ((strL [(IntKind.u8.wrap (IntKind.i64.wrap ((48 : Int) + (n1.tmod 10))))]) : ByteArray))) none) := by kernel_rfl

theorem e114 (d : Nat)  : g114 (d + 1) =
 some [(⟨#[109]⟩ : ByteArray), (⟨#[107]⟩ : ByteArray), (⟨#[]⟩ : ByteArray)] := by kernel_rfl

theorem e115 (d : Nat) (n1 : Int) : g115 (d + 1) n1 =
 oif (decide (0 ≤ (n1 : Int))) (
 oif (Nat.blt ((n1 : Int).toNat) ([1000000, 1000, 1].length)) (
 obind ([1000000, 1000, 1][(n1 : Int).toNat]?) fun n2 =>
 some n2) none) none := by kernel_rfl

noncomputable def j62_0 (d : Nat)  (l4 : List ByteArray) : Option (List ByteArray) :=
 some l4
noncomputable def j62_1 (d : Nat) (n1 : Int) (ag3 : ((List ByteArray) × Int) → Option (List ByteArray)) (l4 : List ByteArray) (n5 : Int) (s6 : ByteArray) (n7 : Int) (n8 : Int) (b9 : Bool) (b10 : Bool) (b11 : Bool) : Option (List ByteArray) :=
 oif b11 (
 obind (g115 d n5) fun r12 =>
 oif ((r12 : Int) == 0) none (
 obind (g110 d (IntKind.i64.wrap (n1.tdiv r12))) fun r13 =>
 oif (Nat.ble ((r13 : ByteArray).size + (s6 : ByteArray).size) 9223372036854775807) (
 oif (Nat.ble ((l4.length + [((r13 : ByteArray) ++ (s6 : ByteArray))].length) * 16) roomMax) (
 ag3 ((l4 ++ [((r13 : ByteArray) ++ (s6 : ByteArray))]), (IntKind.i64.wrap (n5 + 1)))) none) none)) (
 ag3 (l4, (IntKind.i64.wrap (n5 + 1))))
noncomputable def l62_0_b (d : Nat) (n1 : Int) (r2 : List ByteArray) (kx62_0_0 : (List ByteArray) → Option (List ByteArray)) (ag3 : ((List ByteArray) × Int) → Option (List ByteArray)) (l4 : List ByteArray) (n5 : Int) : Option (List ByteArray) :=
 oif (decide ((n5 : Int) < ((r2.length : Nat) : Int))) (
 oif (decide (0 ≤ (n5 : Int))) (
 oif (Nat.blt ((n5 : Int).toNat) r2.length) (
 obind (r2[(n5 : Int).toNat]?) fun s6 =>
 obind (g115 d n5) fun r7 =>
 oif ((r7 : Int) == 0) none (
 oif (((n1.tmod r7) : Int) == 0) (
 oif (decide ((n1 : Int) > 0)) (
 j62_1 d n1 ag3 l4 n5 s6 r7 (n1.tmod r7) (((n1.tmod r7) : Int) == 0) true true) (
 j62_1 d n1 ag3 l4 n5 s6 r7 (n1.tmod r7) (((n1.tmod r7) : Int) == 0) true ((s6 : ByteArray).toList == ((⟨#[]⟩ : ByteArray) : ByteArray).toList))) (
 j62_1 d n1 ag3 l4 n5 s6 r7 (n1.tmod r7) (((n1.tmod r7) : Int) == 0) false false))) none) none) (
 kx62_0_0 l4)
noncomputable def l62_0 (d : Nat) (n1 : Int) (r2 : List ByteArray) (kx62_0_0 : (List ByteArray) → Option (List ByteArray)) (ag3 : ((List ByteArray) × Int) → Option (List ByteArray)) (s : ((List ByteArray) × Int)) : Option (List ByteArray) := l62_0_b d n1 r2 kx62_0_0 ag3 s.1 s.2
theorem e62 (d : Nat) (n1 : Int) : g62 (d + 1) n1 =
 obind (g114 d) fun r2 =>
 iterP (l62_0 d n1 r2 (j62_0 d)) fuelN ([], 0) := by kernel_rfl

theorem e12 (d : Nat) (n1 : Int) : g12 (d + 1) n1 =
 obind (g61 d n1) fun r2 =>
 oif (!r2) (
 some ([], false)) (
 obind (g62 d n1) fun r3 =>
 some (r3, true)) := by kernel_rfl

noncomputable def j13_0 (d : Nat)  (b4 : Bool) : Option Bool :=
 some true
noncomputable def l13_0_b (d : Nat) (l1 : List ByteArray) (l2 : List ByteArray) (kx13_0_0 : Bool → Option Bool) (ag3 : (Bool × Int) → Option Bool) (b4 : Bool) (n5 : Int) : Option Bool :=
 oif (decide ((n5 : Int) < ((l1.length : Nat) : Int))) (
 oif (decide (0 ≤ (n5 : Int))) (
 obind (l1[(n5 : Int).toNat]?) fun s6 =>
 oif (decide (0 ≤ (n5 : Int))) (
 obind (l2[(n5 : Int).toNat]?) fun s7 =>
 oif (!((s6 : ByteArray).toList == (s7 : ByteArray).toList)) (
 some false) (
 ag3 (b4, (IntKind.i64.wrap (n5 + 1))))) none) none) (
 kx13_0_0 b4)
noncomputable def l13_0 (d : Nat) (l1 : List ByteArray) (l2 : List ByteArray) (kx13_0_0 : Bool → Option Bool) (ag3 : (Bool × Int) → Option Bool) (s : (Bool × Int)) : Option Bool := l13_0_b d l1 l2 kx13_0_0 ag3 s.1 s.2
theorem e13 (d : Nat) (l1 : List ByteArray) (l2 : List ByteArray) : g13 (d + 1) l1 l2 =
 oif ((((l1.length : Nat) : Int) : Int) != ((l2.length : Nat) : Int)) (
 some false) (
 iterP (l13_0 d l1 l2 (j13_0 d)) fuelN (false, 0)) := by kernel_rfl

theorem e63 (d : Nat) (n1 : Int) : g63 (d + 1) n1 =
 oif (decide ((n1 : Int) ≥ 48)) (
 some (decide ((n1 : Int) ≤ 57))) (
 some false) := by kernel_rfl

noncomputable def j14_0 (d : Nat) (n2 : Int) (n6 : Int) (b7 : Bool) (n8 : Int) : Option (Int × Bool) :=
 some ((IntKind.i64.wrap (n8 * n2)), true)
noncomputable def l14_0_b (d : Nat) (n2 : Int) (s3 : ByteArray) (kx14_0_0 : Int → Bool → Int → Option (Int × Bool)) (ag5 : (Int × Bool × Int × Int) → Option (Int × Bool)) (n6 : Int) (b7 : Bool) (n8 : Int) (n9 : Int) : Option (Int × Bool) :=
 oif (decide ((n9 : Int) < ((s3 : ByteArray).size : Int))) (
 oif (decide (0 ≤ (n9 : Int))) (
 obind ((s3 : ByteArray).data.toList[(n9 : Int).toNat]?) fun c10 =>
 obind (g63 d (c10.toNat : Int)) fun r11 =>
 oif (!r11) (
 some (0, false)) (
 oif (decide (0 ≤ (n9 : Int))) (
 obind ((s3 : ByteArray).data.toList[(n9 : Int).toNat]?) fun c12 =>
 oif (decide (((IntKind.i64.wrap ((IntKind.i64.wrap ((IntKind.i64.wrap ((10 : Int) * n8)) + (IntKind.i64.wrap (IntKind.u8.wrap ((c12.toNat : Int) - 48))))) * n2)) : Int) > 1000000000)) (
 some (0, false)) (
 ag5 (n6, b7, (IntKind.i64.wrap ((IntKind.i64.wrap ((10 : Int) * n8)) + (IntKind.i64.wrap (IntKind.u8.wrap ((c12.toNat : Int) - 48))))), (IntKind.i64.wrap (n9 + 1))))) none)) none) (
 kx14_0_0 n6 b7 n8)
noncomputable def l14_0 (d : Nat) (n2 : Int) (s3 : ByteArray) (kx14_0_0 : Int → Bool → Int → Option (Int × Bool)) (ag5 : (Int × Bool × Int × Int) → Option (Int × Bool)) (s : (Int × Bool × Int × Int)) : Option (Int × Bool) := l14_0_b d n2 s3 kx14_0_0 ag5 s.1 s.2.1 s.2.2.1 s.2.2.2
noncomputable def j14_1 (d : Nat) (n2 : Int) (s3 : ByteArray) (b4 : Bool) : Option (Int × Bool) :=
 oif b4 (
 some (0, false)) (
 iterP (l14_0 d n2 s3 (j14_0 d n2)) fuelN (0, false, 0, 0))
noncomputable def j14_2 (d : Nat) (s1 : ByteArray) (n2 : Int) (s3 : ByteArray) : Option (Int × Bool) :=
 oif ((s3 : ByteArray).toList == ((⟨#[]⟩ : ByteArray) : ByteArray).toList) (
 j14_1 d n2 s3 true) (
 obind ((s3 : ByteArray).data.toList[0]?) fun c4 =>
 oif (((c4.toNat : Int) : Int) == 48) (
 j14_1 d n2 s3 (!((s1 : ByteArray).toList == ((⟨#[48]⟩ : ByteArray) : ByteArray).toList))) (
 j14_1 d n2 s3 false))
theorem e14 (d : Nat) (s1 : ByteArray) : g14 (d + 1) s1 =
 oif (decide ((((s1 : ByteArray).size : Int) : Int) > 0)) (
 oif (decide (0 ≤ ((IntKind.i64.wrap (((s1 : ByteArray).size : Int) - 1)) : Int))) (
 obind ((s1 : ByteArray).data.toList[((IntKind.i64.wrap (((s1 : ByteArray).size : Int) - 1)) : Int).toNat]?) fun c2 =>
 oif (((c2.toNat : Int) : Int) == 107) (
 oif (decide (0 ≤ ((IntKind.i64.wrap (((s1 : ByteArray).size : Int) - 1)) : Int))) (
 oif (Nat.ble 0 (((IntKind.i64.wrap (((s1 : ByteArray).size : Int) - 1)) : Int).toNat) && Nat.ble (((IntKind.i64.wrap (((s1 : ByteArray).size : Int) - 1)) : Int).toNat) (s1 : ByteArray).size) (
 j14_2 d s1 1000 ((s1 : ByteArray).extract 0 (((IntKind.i64.wrap (((s1 : ByteArray).size : Int) - 1)) : Int).toNat))) none) none) (
 oif (((c2.toNat : Int) : Int) == 109) (
 oif (decide (0 ≤ ((IntKind.i64.wrap (((s1 : ByteArray).size : Int) - 1)) : Int))) (
 oif (Nat.ble 0 (((IntKind.i64.wrap (((s1 : ByteArray).size : Int) - 1)) : Int).toNat) && Nat.ble (((IntKind.i64.wrap (((s1 : ByteArray).size : Int) - 1)) : Int).toNat) (s1 : ByteArray).size) (
 j14_2 d s1 1000000 ((s1 : ByteArray).extract 0 (((IntKind.i64.wrap (((s1 : ByteArray).size : Int) - 1)) : Int).toNat))) none) none) (
 j14_2 d s1 1 s1))) none) (
 j14_2 d s1 1 s1) := by kernel_rfl

noncomputable def j64_0 (d : Nat) (n1 : Int) (b4 : Bool) : Option ByteArray :=
 oif b4 (
 obind (g60 d (IntKind.i64.wrap (n1.tdiv 1000))) fun r5 =>
 oif (Nat.ble ((r5 : ByteArray).size + ((⟨#[107]⟩ : ByteArray) : ByteArray).size) 9223372036854775807) (
 some ((r5 : ByteArray) ++ ((⟨#[107]⟩ : ByteArray) : ByteArray))) none) (
 obind (g60 d n1) fun r6 =>
 some r6)
noncomputable def j64_1 (d : Nat) (n1 : Int) (b2 : Bool) : Option ByteArray :=
 oif b2 (
 obind (g60 d (IntKind.i64.wrap (n1.tdiv 1000000))) fun r3 =>
 oif (Nat.ble ((r3 : ByteArray).size + ((⟨#[109]⟩ : ByteArray) : ByteArray).size) 9223372036854775807) (
 some ((r3 : ByteArray) ++ ((⟨#[109]⟩ : ByteArray) : ByteArray))) none) (
 oif (decide ((n1 : Int) > 0)) (
 j64_0 d n1 (((n1.tmod 1000) : Int) == 0)) (
 j64_0 d n1 false))
theorem e64 (d : Nat) (n1 : Int) : g64 (d + 1) n1 =
 oif (decide ((n1 : Int) > 0)) (
 j64_1 d n1 (((n1.tmod 1000000) : Int) == 0)) (
 j64_1 d n1 false) := by kernel_rfl

theorem e15 (d : Nat) (s1 : ByteArray) : g15 (d + 1) s1 =
 obind (g14 d s1) fun r2 =>
 oif r2.2 (
 obind (g64 d r2.1) fun r3 =>
 some ((r3 : ByteArray).toList == (s1 : ByteArray).toList)) (
 some false) := by kernel_rfl

theorem e16 (d : Nat) (n1 : Int) : g16 (d + 1) n1 =
 obind (g59 d n1) fun r2 =>
 oif (!r2) (
 some ((⟨#[]⟩ : ByteArray), false)) (
 obind (g64 d n1) fun r3 =>
 some (r3, true)) := by kernel_rfl

theorem e17 (d : Nat) (l1 : List Int) : g17 (d + 1) l1 =
 obind (g66 d (l1, 0, 0) 60000) fun r2 =>
 obind (g65 d r2.2 [0, 1, 10, 15, 16, 255, 4096, 65535, 65536, (-1), r2.1]) fun r3 =>
 some r3.1 := by kernel_rfl

noncomputable def j67_0 (d : Nat)  (s4 : ByteArray) : Option (ByteArray × Bool) :=
 oif (Nat.ble (((⟨#[48, 120]⟩ : ByteArray) : ByteArray).size + (s4 : ByteArray).size) 9223372036854775807) (
 some ((((⟨#[48, 120]⟩ : ByteArray) : ByteArray) ++ (s4 : ByteArray)), true)) none
noncomputable def j67_1 (d : Nat) (kx67_0_0 : ByteArray → Option (ByteArray × Bool)) (ag3 : (Int × ByteArray) → Option (ByteArray × Bool)) (n4 : Int) (s5 : ByteArray) (b6 : Bool) (b7 : Bool) : Option (ByteArray × Bool) :=
 oif b7 (
 oif (decide (0 ≤ ((IntKind.i64.wrap ((IntKind.i64.wrap ((BitVec.ofInt IntKind.i64.bits n4 &&& BitVec.ofInt IntKind.i64.bits 15).toNat : Int)) + 1)) : Int))) (
 oif (decide (0 ≤ ((IntKind.i64.wrap ((BitVec.ofInt IntKind.i64.bits n4 &&& BitVec.ofInt IntKind.i64.bits 15).toNat : Int)) : Int))) (
 oif (Nat.ble (((IntKind.i64.wrap ((BitVec.ofInt IntKind.i64.bits n4 &&& BitVec.ofInt IntKind.i64.bits 15).toNat : Int)) : Int).toNat) (((IntKind.i64.wrap ((IntKind.i64.wrap ((BitVec.ofInt IntKind.i64.bits n4 &&& BitVec.ofInt IntKind.i64.bits 15).toNat : Int)) + 1)) : Int).toNat) && Nat.ble (((IntKind.i64.wrap ((IntKind.i64.wrap ((BitVec.ofInt IntKind.i64.bits n4 &&& BitVec.ofInt IntKind.i64.bits 15).toNat : Int)) + 1)) : Int).toNat) ((⟨#[48, 49, 50, 51, 52, 53, 54, 55, 56, 57, 97, 98, 99, 100, 101, 102]⟩ : ByteArray) : ByteArray).size) (
 oif (Nat.ble (((((⟨#[48, 49, 50, 51, 52, 53, 54, 55, 56, 57, 97, 98, 99, 100, 101, 102]⟩ : ByteArray) : ByteArray).extract (((IntKind.i64.wrap ((BitVec.ofInt IntKind.i64.bits n4 &&& BitVec.ofInt IntKind.i64.bits 15).toNat : Int)) : Int).toNat) (((IntKind.i64.wrap ((IntKind.i64.wrap ((BitVec.ofInt IntKind.i64.bits n4 &&& BitVec.ofInt IntKind.i64.bits 15).toNat : Int)) + 1)) : Int).toNat)) : ByteArray).size + (s5 : ByteArray).size) 9223372036854775807) (
 ag3 ((n4.fdiv (2 ^ (min (4 : Int).toNat IntKind.i64.bits))), (((((⟨#[48, 49, 50, 51, 52, 53, 54, 55, 56, 57, 97, 98, 99, 100, 101, 102]⟩ : ByteArray) : ByteArray).extract (((IntKind.i64.wrap ((BitVec.ofInt IntKind.i64.bits n4 &&& BitVec.ofInt IntKind.i64.bits 15).toNat : Int)) : Int).toNat) (((IntKind.i64.wrap ((IntKind.i64.wrap ((BitVec.ofInt IntKind.i64.bits n4 &&& BitVec.ofInt IntKind.i64.bits 15).toNat : Int)) + 1)) : Int).toNat)) : ByteArray) ++ (s5 : ByteArray)))) none) none) none) none) (
 kx67_0_0 s5)
noncomputable def l67_0_b (d : Nat)  (kx67_0_0 : ByteArray → Option (ByteArray × Bool)) (ag3 : (Int × ByteArray) → Option (ByteArray × Bool)) (n4 : Int) (s5 : ByteArray) : Option (ByteArray × Bool) :=
 oif (decide ((n4 : Int) > 0)) (
 j67_1 d kx67_0_0 ag3 n4 s5 true true) (
 j67_1 d kx67_0_0 ag3 n4 s5 false ((s5 : ByteArray).toList == ((⟨#[]⟩ : ByteArray) : ByteArray).toList))
noncomputable def l67_0 (d : Nat)  (kx67_0_0 : ByteArray → Option (ByteArray × Bool)) (ag3 : (Int × ByteArray) → Option (ByteArray × Bool)) (s : (Int × ByteArray)) : Option (ByteArray × Bool) := l67_0_b d kx67_0_0 ag3 s.1 s.2
noncomputable def j67_2 (d : Nat) (n1 : Int) (b2 : Bool) : Option (ByteArray × Bool) :=
 oif b2 (
 some ((⟨#[]⟩ : ByteArray), false)) (
 iterP (l67_0 d (j67_0 d)) fuelN (n1, (⟨#[]⟩ : ByteArray)))
theorem e67 (d : Nat) (n1 : Int) : g67 (d + 1) n1 =
 oif (decide ((n1 : Int) < 0)) (
 j67_2 d n1 true) (
 j67_2 d n1 (decide ((n1 : Int) > 4294967295))) := by kernel_rfl

theorem e18 (d : Nat) (n1 : Int) : g18 (d + 1) n1 =
 oif (decide ((n1 : Int) < 0)) (
 some ((⟨#[]⟩ : ByteArray), false)) (
 oif (decide ((n1 : Int) > 65535)) (
 some ((⟨#[]⟩ : ByteArray), false)) (
 obind (g67 d n1) fun r2 =>
 some (r2.1, r2.2))) := by kernel_rfl

noncomputable def j69_0 (d : Nat)  (s3 : ByteArray) : Option ByteArray :=
 oif (Nat.ble (((⟨#[48, 120]⟩ : ByteArray) : ByteArray).size + (s3 : ByteArray).size) 9223372036854775807) (
 some (((⟨#[48, 120]⟩ : ByteArray) : ByteArray) ++ (s3 : ByteArray))) none
noncomputable def l69_0_b (d : Nat)  (kx69_0_0 : ByteArray → Option ByteArray) (ag2 : (Int × ByteArray × Bool) → Option ByteArray) (n3 : Int) (s4 : ByteArray) (b5 : Bool) : Option ByteArray :=
 oif b5 (
 oif (decide (0 ≤ ((IntKind.i64.wrap ((n3.tmod 16) + 1)) : Int))) (
 oif (decide (0 ≤ ((n3.tmod 16) : Int))) (
 oif (Nat.ble (((n3.tmod 16) : Int).toNat) (((IntKind.i64.wrap ((n3.tmod 16) + 1)) : Int).toNat) && Nat.ble (((IntKind.i64.wrap ((n3.tmod 16) + 1)) : Int).toNat) ((⟨#[48, 49, 50, 51, 52, 53, 54, 55, 56, 57, 97, 98, 99, 100, 101, 102]⟩ : ByteArray) : ByteArray).size) (
 oif (Nat.ble (((((⟨#[48, 49, 50, 51, 52, 53, 54, 55, 56, 57, 97, 98, 99, 100, 101, 102]⟩ : ByteArray) : ByteArray).extract (((n3.tmod 16) : Int).toNat) (((IntKind.i64.wrap ((n3.tmod 16) + 1)) : Int).toNat)) : ByteArray).size + (s4 : ByteArray).size) 9223372036854775807) (
 ag2 ((IntKind.i64.wrap (n3.tdiv 16)), (((((⟨#[48, 49, 50, 51, 52, 53, 54, 55, 56, 57, 97, 98, 99, 100, 101, 102]⟩ : ByteArray) : ByteArray).extract (((n3.tmod 16) : Int).toNat) (((IntKind.i64.wrap ((n3.tmod 16) + 1)) : Int).toNat)) : ByteArray) ++ (s4 : ByteArray)), (decide (((IntKind.i64.wrap (n3.tdiv 16)) : Int) > 0)))) none) none) none) none) (
 kx69_0_0 s4)
noncomputable def l69_0 (d : Nat)  (kx69_0_0 : ByteArray → Option ByteArray) (ag2 : (Int × ByteArray × Bool) → Option ByteArray) (s : (Int × ByteArray × Bool)) : Option ByteArray := l69_0_b d kx69_0_0 ag2 s.1 s.2.1 s.2.2
theorem e69 (d : Nat) (n1 : Int) : g69 (d + 1) n1 =
 iterP (l69_0 d (j69_0 d)) fuelN (n1, (⟨#[]⟩ : ByteArray), true) := by kernel_rfl

theorem e19 (d : Nat) (n1 : Int) : g19 (d + 1) n1 =
 obind (g68 d n1 0 65535) fun r2 =>
 oif (!r2) (
 some ((⟨#[]⟩ : ByteArray), false)) (
 obind (g69 d n1) fun r3 =>
 some (r3, true)) := by kernel_rfl

theorem e70 (d : Nat) (n1 : Int) : g70 (d + 1) n1 =
 obind (g63 d n1) fun r2 =>
 oif r2 (
 some (IntKind.i64.wrap (IntKind.u8.wrap (n1 - 48)))) (
 oif (decide ((n1 : Int) ≥ 97)) (
 oif (decide ((n1 : Int) ≤ 102)) (
 some (IntKind.i64.wrap ((IntKind.i64.wrap (IntKind.u8.wrap (n1 - 97))) + 10))) (
 some (-1))) (
 some (-1))) := by kernel_rfl

noncomputable def j20_0 (d : Nat)  (n4 : Int) (b5 : Bool) (n6 : Int) : Option (Int × Bool) :=
 some (n6, true)
noncomputable def l20_0_b (d : Nat) (s1 : ByteArray) (kx20_0_0 : Int → Bool → Int → Option (Int × Bool)) (ag3 : (Int × Bool × Int × Int) → Option (Int × Bool)) (n4 : Int) (b5 : Bool) (n6 : Int) (n7 : Int) : Option (Int × Bool) :=
 oif (decide ((n7 : Int) < ((s1 : ByteArray).size : Int))) (
 oif (decide (0 ≤ (n7 : Int))) (
 obind ((s1 : ByteArray).data.toList[(n7 : Int).toNat]?) fun c8 =>
 obind (g70 d (c8.toNat : Int)) fun r9 =>
 oif (decide ((r9 : Int) < 0)) (
 some (0, false)) (
 oif (decide (((IntKind.i64.wrap ((BitVec.ofInt IntKind.i64.bits (IntKind.i64.wrap (n6 * 2 ^ (min (4 : Int).toNat IntKind.i64.bits))) ||| BitVec.ofInt IntKind.i64.bits r9).toNat : Int)) : Int) > 65535)) (
 some (0, false)) (
 ag3 (n4, b5, (IntKind.i64.wrap ((BitVec.ofInt IntKind.i64.bits (IntKind.i64.wrap (n6 * 2 ^ (min (4 : Int).toNat IntKind.i64.bits))) ||| BitVec.ofInt IntKind.i64.bits r9).toNat : Int)), (IntKind.i64.wrap (n7 + 1)))))) none) (
 kx20_0_0 n4 b5 n6)
noncomputable def l20_0 (d : Nat) (s1 : ByteArray) (kx20_0_0 : Int → Bool → Int → Option (Int × Bool)) (ag3 : (Int × Bool × Int × Int) → Option (Int × Bool)) (s : (Int × Bool × Int × Int)) : Option (Int × Bool) := l20_0_b d s1 kx20_0_0 ag3 s.1 s.2.1 s.2.2.1 s.2.2.2
noncomputable def j20_1 (d : Nat) (s1 : ByteArray) (b2 : Bool) : Option (Int × Bool) :=
 oif b2 (
 some (0, false)) (
 iterP (l20_0 d s1 (j20_0 d)) fuelN (0, false, 0, 2))
theorem e20 (d : Nat) (s1 : ByteArray) : g20 (d + 1) s1 =
 oif (decide ((((s1 : ByteArray).size : Int) : Int) < 3)) (
 j20_1 d s1 true) (
 obind ((s1 : ByteArray).data.toList[0]?) fun c2 =>
 oif (((c2.toNat : Int) : Int) != 48) (
 j20_1 d s1 true) (
 obind ((s1 : ByteArray).data.toList[1]?) fun c3 =>
 oif (((c3.toNat : Int) : Int) != 120) (
 j20_1 d s1 true) (
 obind ((s1 : ByteArray).data.toList[2]?) fun c4 =>
 oif (((c4.toNat : Int) : Int) == 48) (
 j20_1 d s1 (decide ((((s1 : ByteArray).size : Int) : Int) > 3))) (
 j20_1 d s1 false)))) := by kernel_rfl

theorem e21 (d : Nat) (s1 : ByteArray) : g21 (d + 1) s1 =
 oif (decide ((((s1 : ByteArray).size : Int) : Int) ≥ 2)) (
 oif (Nat.ble 0 2 && Nat.ble 2 (s1 : ByteArray).size) (
 oif ((((s1 : ByteArray).extract 0 2) : ByteArray).toList == ((⟨#[48, 120]⟩ : ByteArray) : ByteArray).toList) (
 obind (g20 d s1) fun r2 =>
 some (r2.1, r2.2)) (
 obind (g14 d s1) fun r3 =>
 some (r3.1, r3.2))) none) (
 obind (g14 d s1) fun r4 =>
 some (r4.1, r4.2)) := by kernel_rfl

theorem e83 (d : Nat) (n1 : Int) (n2 : Int) : g83 (d + 1) n1 n2 =
 oif (decide ((n1 : Int) < n2)) (
 some n1) (
 some n2) := by kernel_rfl

theorem e121 (d : Nat) (x1 : ((List Int) × Int × Int)) (l2 : List ByteArray) : g121 (d + 1) x1 l2 =
 obind (g66 d x1 ((l2.length : Nat) : Int)) fun r3 =>
 oif (decide (0 ≤ (r3.1 : Int))) (
 obind (l2[(r3.1 : Int).toNat]?) fun s4 =>
 some (s4, r3.2)) none := by kernel_rfl

theorem e142 (d : Nat) (n1 : Int) (n2 : Int) : g142 (d + 1) n1 n2 =
 oif (decide ((n1 : Int) > n2)) (
 some n1) (
 some n2) := by kernel_rfl

noncomputable def j143_0 (d : Nat)  (s6 : ByteArray) (l7 : List Int) (n8 : Int) (n9 : Int) : Option (ByteArray × ((List Int) × Int × Int)) :=
 some (s6, (l7, n8, n9))
noncomputable def j143_1 (d : Nat) (kx143_0_0 : ByteArray → (List Int) → Int → Int → Option (ByteArray × ((List Int) × Int × Int))) (s3 : ByteArray) (ag5 : (ByteArray × Int × ((List Int) × Int × Int)) → Option (ByteArray × ((List Int) × Int × Int))) (s6 : ByteArray) (n7 : Int) (x8 : ((List Int) × Int × Int)) (b9 : Bool) (b10 : Bool) : Option (ByteArray × ((List Int) × Int × Int)) :=
 oif b10 (
 obind (g66 d x8 ((s6 : ByteArray).size : Int)) fun r11 =>
 obind (g66 d r11.2 ((s3 : ByteArray).size : Int)) fun r12 =>
 oif (decide (0 ≤ (r12.1 : Int))) (
 obind ((s3 : ByteArray).data.toList[(r12.1 : Int).toNat]?) fun c13 =>
 obind (g66 d r12.2 3) fun r14 =>
 oif ((r14.1 : Int) == 0) (
 oif (decide (0 ≤ (r11.1 : Int))) (
 oif (Nat.ble 0 ((r11.1 : Int).toNat) && Nat.ble ((r11.1 : Int).toNat) (s6 : ByteArray).size) (
 oif (Nat.ble ((((s6 : ByteArray).extract 0 ((r11.1 : Int).toNat)) : ByteArray).size + ((strL [(c13.toNat : Int)]) : ByteArray).size) 9223372036854775807) (
 oif (decide (0 ≤ (r11.1 : Int))) (
 oif (Nat.ble ((r11.1 : Int).toNat) ((s6 : ByteArray).size) && Nat.ble ((s6 : ByteArray).size) (s6 : ByteArray).size) (
 oif (Nat.ble ((((((s6 : ByteArray).extract 0 ((r11.1 : Int).toNat)) : ByteArray) ++ ((strL [(c13.toNat : Int)]) : ByteArray)) : ByteArray).size + (((s6 : ByteArray).extract ((r11.1 : Int).toNat) ((s6 : ByteArray).size)) : ByteArray).size) 9223372036854775807) (
 ag5 (((((((s6 : ByteArray).extract 0 ((r11.1 : Int).toNat)) : ByteArray) ++ ((strL [(c13.toNat : Int)]) : ByteArray)) : ByteArray) ++ (((s6 : ByteArray).extract ((r11.1 : Int).toNat) ((s6 : ByteArray).size)) : ByteArray)), (IntKind.i64.wrap (n7 - 1)), r14.2)) none) none) none) none) none) none) (
 oif ((r14.1 : Int) == 1) (
 oif (decide (0 ≤ (r11.1 : Int))) (
 oif (Nat.ble 0 ((r11.1 : Int).toNat) && Nat.ble ((r11.1 : Int).toNat) (s6 : ByteArray).size) (
 oif (Nat.ble ((((s6 : ByteArray).extract 0 ((r11.1 : Int).toNat)) : ByteArray).size + ((strL [(c13.toNat : Int)]) : ByteArray).size) 9223372036854775807) (
 oif (decide (0 ≤ ((IntKind.i64.wrap (r11.1 + 1)) : Int))) (
 oif (Nat.ble (((IntKind.i64.wrap (r11.1 + 1)) : Int).toNat) ((s6 : ByteArray).size) && Nat.ble ((s6 : ByteArray).size) (s6 : ByteArray).size) (
 oif (Nat.ble ((((((s6 : ByteArray).extract 0 ((r11.1 : Int).toNat)) : ByteArray) ++ ((strL [(c13.toNat : Int)]) : ByteArray)) : ByteArray).size + (((s6 : ByteArray).extract (((IntKind.i64.wrap (r11.1 + 1)) : Int).toNat) ((s6 : ByteArray).size)) : ByteArray).size) 9223372036854775807) (
 ag5 (((((((s6 : ByteArray).extract 0 ((r11.1 : Int).toNat)) : ByteArray) ++ ((strL [(c13.toNat : Int)]) : ByteArray)) : ByteArray) ++ (((s6 : ByteArray).extract (((IntKind.i64.wrap (r11.1 + 1)) : Int).toNat) ((s6 : ByteArray).size)) : ByteArray)), (IntKind.i64.wrap (n7 - 1)), r14.2)) none) none) none) none) none) none) (
 oif (decide (0 ≤ (r11.1 : Int))) (
 oif (Nat.ble 0 ((r11.1 : Int).toNat) && Nat.ble ((r11.1 : Int).toNat) (s6 : ByteArray).size) (
 oif (decide (0 ≤ ((IntKind.i64.wrap (r11.1 + 1)) : Int))) (
 oif (Nat.ble (((IntKind.i64.wrap (r11.1 + 1)) : Int).toNat) ((s6 : ByteArray).size) && Nat.ble ((s6 : ByteArray).size) (s6 : ByteArray).size) (
 oif (Nat.ble ((((s6 : ByteArray).extract 0 ((r11.1 : Int).toNat)) : ByteArray).size + (((s6 : ByteArray).extract (((IntKind.i64.wrap (r11.1 + 1)) : Int).toNat) ((s6 : ByteArray).size)) : ByteArray).size) 9223372036854775807) (
 ag5 (((((s6 : ByteArray).extract 0 ((r11.1 : Int).toNat)) : ByteArray) ++ (((s6 : ByteArray).extract (((IntKind.i64.wrap (r11.1 + 1)) : Int).toNat) ((s6 : ByteArray).size)) : ByteArray)), (IntKind.i64.wrap (n7 - 1)), r14.2)) none) none) none) none) none))) none) (
 kx143_0_0 s6 x8.1 x8.2.1 x8.2.2)
noncomputable def l143_0_b (d : Nat) (s3 : ByteArray) (kx143_0_0 : ByteArray → (List Int) → Int → Int → Option (ByteArray × ((List Int) × Int × Int))) (ag5 : (ByteArray × Int × ((List Int) × Int × Int)) → Option (ByteArray × ((List Int) × Int × Int))) (s6 : ByteArray) (n7 : Int) (x8 : ((List Int) × Int × Int)) : Option (ByteArray × ((List Int) × Int × Int)) :=
 oif (decide ((n7 : Int) > 0)) (
 j143_1 d kx143_0_0 s3 ag5 s6 n7 x8 true (decide ((((s6 : ByteArray).size : Int) : Int) > 0))) (
 j143_1 d kx143_0_0 s3 ag5 s6 n7 x8 false false)
noncomputable def l143_0 (d : Nat) (s3 : ByteArray) (kx143_0_0 : ByteArray → (List Int) → Int → Int → Option (ByteArray × ((List Int) × Int × Int))) (ag5 : (ByteArray × Int × ((List Int) × Int × Int)) → Option (ByteArray × ((List Int) × Int × Int))) (s : (ByteArray × Int × ((List Int) × Int × Int))) : Option (ByteArray × ((List Int) × Int × Int)) := l143_0_b d s3 kx143_0_0 ag5 s.1 s.2.1 s.2.2
theorem e143 (d : Nat) (x1 : ((List Int) × Int × Int)) (s2 : ByteArray) (s3 : ByteArray) : g143 (d + 1) x1 s2 s3 =
 obind (g66 d x1 2) fun r4 =>
 iterP (l143_0 d s3 (j143_0 d)) fuelN (s2, (IntKind.i64.wrap ((1 : Int) + r4.1)), r4.2) := by kernel_rfl

theorem e117 (d : Nat) (x1 : ((List Int) × Int × Int)) : g117 (d + 1) x1 =
 obind (g112 d x1) fun r2 =>
 obind (g66 d r2.2 8) fun r3 =>
 oif ((r3.1 : Int) == 0) (
 obind (g142 d r2.1 0) fun r4 =>
 obind (g83 d r4 65535) fun r5 =>
 obind (g69 d r5) fun r6 =>
 some (r6, r3.2)) (
 oif ((r3.1 : Int) == 1) (
 obind (g121 d r3.2 [(⟨#[]⟩ : ByteArray), (⟨#[107]⟩ : ByteArray), (⟨#[109]⟩ : ByteArray), (⟨#[48, 107]⟩ : ByteArray), (⟨#[48, 48]⟩ : ByteArray), (⟨#[48, 49]⟩ : ByteArray), (⟨#[48, 120]⟩ : ByteArray), (⟨#[48, 120, 48]⟩ : ByteArray), (⟨#[48, 120, 48, 48]⟩ : ByteArray), (⟨#[48, 120, 102, 102, 102, 102]⟩ : ByteArray), (⟨#[48, 120, 49, 48, 48, 48, 48]⟩ : ByteArray), (⟨#[48, 120, 70, 70]⟩ : ByteArray), (⟨#[49, 48, 48, 48, 48, 48, 48, 107]⟩ : ByteArray), (⟨#[49, 48, 48, 48, 48, 48, 49, 107]⟩ : ByteArray), (⟨#[49, 48, 48, 48, 109]⟩ : ByteArray), (⟨#[49, 48, 48, 49, 109]⟩ : ByteArray), (⟨#[49, 48, 48, 48, 48, 48, 48, 48, 48, 49]⟩ : ByteArray), (⟨#[57, 57, 57, 57, 57, 57, 57, 57, 57, 57, 57, 57, 57, 57, 57, 57, 57, 57, 57, 57]⟩ : ByteArray), (⟨#[49, 32, 107]⟩ : ByteArray), (⟨#[49, 75]⟩ : ByteArray)]) fun r7 =>
 some (r7.1, r7.2)) (
 oif ((r3.1 : Int) == 2) (
 obind (g142 d r2.1 0) fun r8 =>
 obind (g110 d r8) fun r9 =>
 obind (g143 d r3.2 r9 (⟨#[48, 107, 49, 109, 120, 102]⟩ : ByteArray)) fun r10 =>
 some (r10.1, r10.2)) (
 obind (g61 d r2.1) fun r11 =>
 oif (!r11) (
 obind (g142 d r2.1 0) fun r12 =>
 obind (g110 d r12) fun r13 =>
 some (r13, r3.2)) (
 obind (g62 d r2.1) fun r14 =>
 obind (g121 d r3.2 r14) fun r15 =>
 some (r15.1, r15.2))))) := by kernel_rfl

theorem e71 (d : Nat) (l1 : List Int) : g71 (d + 1) l1 =
 obind (g117 d (l1, 0, 0)) fun r2 =>
 some r2.1 := by kernel_rfl

theorem e22 (d : Nat) (l1 : List Int) : g22 (d + 1) l1 =
 obind (g71 d l1) fun r2 =>
 some r2 := by kernel_rfl

noncomputable def j120_0 (d : Nat) (n3 : Int) (n6 : Int) (n7 : Int) : Option Int :=
 oif (decide ((n7 : Int) > n3)) (
 some (-1)) (
 some n7)
noncomputable def j120_1 (d : Nat) (n2 : Int) (n3 : Int) (ag5 : (Int × Int × Int) → Option Int) (n6 : Int) (n7 : Int) (n8 : Int) (n9 : Int) (b10 : Bool) (n11 : Int) (b12 : Bool) (b13 : Bool) (b14 : Bool) : Option Int :=
 oif (decide ((n9 : Int) ≥ n2)) (
 some (-1)) (
 oif (decide ((n7 : Int) > n3)) (
 some (-1)) (
 ag5 (n6, (IntKind.i64.wrap ((IntKind.i64.wrap (n7 * n2)) + n9)), (IntKind.i64.wrap (n8 + 1)))))
noncomputable def j120_2 (d : Nat) (s1 : ByteArray) (n2 : Int) (n3 : Int) (ag5 : (Int × Int × Int) → Option Int) (n6 : Int) (n7 : Int) (n8 : Int) (n10 : Int) (b11 : Bool) (b12 : Bool) (b13 : Bool) (b15 : Bool) (n16 : Int) (b17 : Bool) (b18 : Bool) (b19 : Bool) : Option Int :=
 oif b15 (
 oif (decide (0 ≤ (n8 : Int))) (
 obind ((s1 : ByteArray).data.toList[(n8 : Int).toNat]?) fun c20 =>
 j120_1 d n2 n3 ag5 n6 n7 n8 (IntKind.i64.wrap ((IntKind.i64.wrap ((IntKind.i64.wrap (c20.toNat : Int)) - 97)) + 10)) false n10 b11 b12 b13) none) (
 j120_1 d n2 n3 ag5 n6 n7 n8 99 false n10 b11 b12 b13)
noncomputable def j120_3 (d : Nat) (s1 : ByteArray) (n2 : Int) (n3 : Int) (ag5 : (Int × Int × Int) → Option Int) (n6 : Int) (n7 : Int) (n8 : Int) (b9 : Bool) (n10 : Int) (b11 : Bool) (b12 : Bool) (b13 : Bool) : Option Int :=
 oif b9 (
 oif (decide (0 ≤ (n8 : Int))) (
 obind ((s1 : ByteArray).data.toList[(n8 : Int).toNat]?) fun c14 =>
 j120_1 d n2 n3 ag5 n6 n7 n8 (IntKind.i64.wrap ((IntKind.i64.wrap (c14.toNat : Int)) - 48)) true n10 b11 b12 b13) none) (
 oif (decide (0 ≤ (n8 : Int))) (
 obind ((s1 : ByteArray).data.toList[(n8 : Int).toNat]?) fun c15 =>
 oif (decide (((c15.toNat : Int) : Int) ≥ 97)) (
 oif (decide (0 ≤ (n8 : Int))) (
 obind ((s1 : ByteArray).data.toList[(n8 : Int).toNat]?) fun c16 =>
 j120_2 d s1 n2 n3 ag5 n6 n7 n8 n10 b11 b12 b13 (decide (((c16.toNat : Int) : Int) ≤ 102)) (c15.toNat : Int) (decide (((c15.toNat : Int) : Int) ≥ 97)) true (decide (((c16.toNat : Int) : Int) ≤ 102))) none) (
 j120_2 d s1 n2 n3 ag5 n6 n7 n8 n10 b11 b12 b13 false (c15.toNat : Int) (decide (((c15.toNat : Int) : Int) ≥ 97)) false false)) none)
noncomputable def l120_0_b (d : Nat) (s1 : ByteArray) (n2 : Int) (n3 : Int) (kx120_0_0 : Int → Int → Option Int) (ag5 : (Int × Int × Int) → Option Int) (n6 : Int) (n7 : Int) (n8 : Int) : Option Int :=
 oif (decide ((n8 : Int) < ((s1 : ByteArray).size : Int))) (
 oif (decide (0 ≤ (n8 : Int))) (
 obind ((s1 : ByteArray).data.toList[(n8 : Int).toNat]?) fun c9 =>
 oif (decide (((c9.toNat : Int) : Int) ≥ 48)) (
 oif (decide (0 ≤ (n8 : Int))) (
 obind ((s1 : ByteArray).data.toList[(n8 : Int).toNat]?) fun c10 =>
 j120_3 d s1 n2 n3 ag5 n6 n7 n8 (decide (((c10.toNat : Int) : Int) ≤ 57)) (c9.toNat : Int) (decide (((c9.toNat : Int) : Int) ≥ 48)) true (decide (((c10.toNat : Int) : Int) ≤ 57))) none) (
 j120_3 d s1 n2 n3 ag5 n6 n7 n8 false (c9.toNat : Int) (decide (((c9.toNat : Int) : Int) ≥ 48)) false false)) none) (
 kx120_0_0 n6 n7)
noncomputable def l120_0 (d : Nat) (s1 : ByteArray) (n2 : Int) (n3 : Int) (kx120_0_0 : Int → Int → Option Int) (ag5 : (Int × Int × Int) → Option Int) (s : (Int × Int × Int)) : Option Int := l120_0_b d s1 n2 n3 kx120_0_0 ag5 s.1 s.2.1 s.2.2
noncomputable def j120_4 (d : Nat) (s1 : ByteArray) (n2 : Int) (n3 : Int) (b4 : Bool) : Option Int :=
 oif b4 (
 some (-1)) (
 iterP (l120_0 d s1 n2 n3 (j120_0 d n3)) fuelN (0, 0, 0))
theorem e120 (d : Nat) (s1 : ByteArray) (n2 : Int) (n3 : Int) : g120 (d + 1) s1 n2 n3 =
 oif ((s1 : ByteArray).toList == ((⟨#[]⟩ : ByteArray) : ByteArray).toList) (
 j120_4 d s1 n2 n3 true) (
 obind ((s1 : ByteArray).data.toList[0]?) fun c4 =>
 oif (((c4.toNat : Int) : Int) == 48) (
 j120_4 d s1 n2 n3 (decide ((((s1 : ByteArray).size : Int) : Int) > 1))) (
 j120_4 d s1 n2 n3 false)) := by kernel_rfl

noncomputable def j73_0 (d : Nat) (s1 : ByteArray) (n4 : Int) : Option Int :=
 obind (g120 d s1 10 1000000000) fun r5 =>
 some r5
noncomputable def j73_1 (d : Nat) (s1 : ByteArray) (ag3 : (Int × Int) → Option Int) (n4 : Int) (n5 : Int) (b7 : Bool) (b8 : Bool) (b9 : Bool) (b10 : Bool) : Option Int :=
 oif b10 (
 oif (decide (0 ≤ ((IntKind.i64.wrap (((s1 : ByteArray).size : Int) - 1)) : Int))) (
 oif (Nat.ble 0 (((IntKind.i64.wrap (((s1 : ByteArray).size : Int) - 1)) : Int).toNat) && Nat.ble (((IntKind.i64.wrap (((s1 : ByteArray).size : Int) - 1)) : Int).toNat) (s1 : ByteArray).size) (
 obind (g115 d n5) fun r11 =>
 oif ((r11 : Int) == 0) none (
 obind (g120 d ((s1 : ByteArray).extract 0 (((IntKind.i64.wrap (((s1 : ByteArray).size : Int) - 1)) : Int).toNat)) 10 (IntKind.i64.wrap ((1000000000 : Int).tdiv r11))) fun r12 =>
 oif (decide ((r12 : Int) ≤ 0)) (
 some (-1)) (
 obind (g115 d n5) fun r13 =>
 some (IntKind.i64.wrap (r12 * r13))))) none) none) (
 ag3 (n4, (IntKind.i64.wrap (n5 + 1))))
noncomputable def l73_0_b (d : Nat) (s1 : ByteArray) (r2 : List ByteArray) (kx73_0_0 : Int → Option Int) (ag3 : (Int × Int) → Option Int) (n4 : Int) (n5 : Int) : Option Int :=
 oif (decide ((n5 : Int) < ((r2.length : Nat) : Int))) (
 oif (decide (0 ≤ (n5 : Int))) (
 oif (Nat.blt ((n5 : Int).toNat) r2.length) (
 obind (r2[(n5 : Int).toNat]?) fun s6 =>
 oif (!((s6 : ByteArray).toList == ((⟨#[]⟩ : ByteArray) : ByteArray).toList)) (
 oif (decide ((((s1 : ByteArray).size : Int) : Int) > 0)) (
 oif (decide (0 ≤ ((IntKind.i64.wrap (((s1 : ByteArray).size : Int) - 1)) : Int))) (
 oif (Nat.ble (((IntKind.i64.wrap (((s1 : ByteArray).size : Int) - 1)) : Int).toNat) ((s1 : ByteArray).size) && Nat.ble ((s1 : ByteArray).size) (s1 : ByteArray).size) (
 j73_1 d s1 ag3 n4 n5 true (decide ((((s1 : ByteArray).size : Int) : Int) > 0)) true ((((s1 : ByteArray).extract (((IntKind.i64.wrap (((s1 : ByteArray).size : Int) - 1)) : Int).toNat) ((s1 : ByteArray).size)) : ByteArray).toList == (s6 : ByteArray).toList)) none) none) (
 j73_1 d s1 ag3 n4 n5 true (decide ((((s1 : ByteArray).size : Int) : Int) > 0)) false false)) (
 j73_1 d s1 ag3 n4 n5 false false false false)) none) none) (
 kx73_0_0 n4)
noncomputable def l73_0 (d : Nat) (s1 : ByteArray) (r2 : List ByteArray) (kx73_0_0 : Int → Option Int) (ag3 : (Int × Int) → Option Int) (s : (Int × Int)) : Option Int := l73_0_b d s1 r2 kx73_0_0 ag3 s.1 s.2
theorem e73 (d : Nat) (s1 : ByteArray) : g73 (d + 1) s1 =
 obind (g114 d) fun r2 =>
 iterP (l73_0 d s1 r2 (j73_0 d s1)) fuelN (0, 0) := by kernel_rfl

theorem e118 (d : Nat) (s1 : ByteArray) : g118 (d + 1) s1 =
 oif (decide ((((s1 : ByteArray).size : Int) : Int) ≥ 2)) (
 oif (Nat.ble 0 2 && Nat.ble 2 (s1 : ByteArray).size) (
 some ((((s1 : ByteArray).extract 0 2) : ByteArray).toList == ((⟨#[48, 120]⟩ : ByteArray) : ByteArray).toList)) none) (
 some false) := by kernel_rfl

theorem e119 (d : Nat) (s1 : ByteArray) : g119 (d + 1) s1 =
 obind (g118 d s1) fun r2 =>
 oif (!r2) (
 some (-1)) (
 oif (Nat.ble 2 ((s1 : ByteArray).size) && Nat.ble ((s1 : ByteArray).size) (s1 : ByteArray).size) (
 obind (g120 d ((s1 : ByteArray).extract 2 ((s1 : ByteArray).size)) 16 65535) fun r3 =>
 some r3) none) := by kernel_rfl

theorem e72 (d : Nat) (s1 : ByteArray) : g72 (d + 1) s1 =
 obind (g118 d s1) fun r2 =>
 oif r2 (
 obind (g119 d s1) fun r3 =>
 some r3) (
 obind (g73 d s1) fun r4 =>
 some r4) := by kernel_rfl

theorem e23 (d : Nat) (s1 : ByteArray) : g23 (d + 1) s1 =
 obind (g72 d s1) fun r2 =>
 oif (decide ((r2 : Int) < 0)) (
 some (0, false)) (
 some (r2, true)) := by kernel_rfl

theorem e24 (d : Nat) (s1 : ByteArray) : g24 (d + 1) s1 =
 obind (g73 d s1) fun r2 =>
 oif (decide ((r2 : Int) < 0)) (
 some (0, false)) (
 some (r2, true)) := by kernel_rfl

theorem e74 (d : Nat) (n1 : Int) : g74 (d + 1) n1 =
 obind (g62 d n1) fun r2 =>
 oif (Nat.blt 0 r2.length) (
 obind (r2[0]?) fun s3 =>
 some s3) none := by kernel_rfl

theorem e25 (d : Nat) (s1 : ByteArray) : g25 (d + 1) s1 =
 obind (g73 d s1) fun r2 =>
 oif (decide ((r2 : Int) ≥ 0)) (
 obind (g73 d s1) fun r3 =>
 obind (g74 d r3) fun r4 =>
 some ((r4 : ByteArray).toList == (s1 : ByteArray).toList)) (
 some false) := by kernel_rfl

noncomputable def j4_0 (d : Nat) (l2 : List Int)  : Option Bool :=
 obind (g22 d l2) fun r14 =>
 obind (g21 d r14) fun r15 =>
 obind (g23 d r14) fun r16 =>
 obind (g14 d r14) fun r17 =>
 obind (g24 d r14) fun r18 =>
 oif (r15.2 == r16.2) (
 oif ((r15.1 : Int) == r16.1) (
 oif (r17.2 == r18.2) (
 oif ((r17.1 : Int) == r18.1) (
 obind (g15 d r14) fun r19 =>
 obind (g25 d r14) fun r20 =>
 oif (r19 == r20) (
 oif (!r17.2) (
 some true) (
 oif r15.2 (
 some ((r16.1 : Int) == r18.1)) (
 some false))) (
 some false)) (
 some false)) (
 some false)) (
 some false)) (
 some false)
noncomputable def j4_1 (d : Nat) (l2 : List Int) (r10 : Int) (r11 : (ByteArray × Bool)) (b13 : Bool) : Option Bool :=
 oif b13 (
 some false) (
 oif r11.2 (
 obind (g20 d r11.1) fun r14 =>
 obind (g21 d r11.1) fun r15 =>
 oif (!r14.2) (
 some false) (
 oif ((r14.1 : Int) != r10) (
 some false) (
 oif (!r15.2) (
 some false) (
 oif ((r15.1 : Int) != r10) (
 some false) (
 j4_0 d l2))))) (
 j4_0 d l2))
noncomputable def j4_2 (d : Nat) (l2 : List Int)  : Option Bool :=
 obind (g17 d l2) fun r10 =>
 obind (g18 d r10) fun r11 =>
 obind (g19 d r10) fun r12 =>
 oif (!(r11.2 == r12.2)) (
 j4_1 d l2 r10 r11 true) (
 j4_1 d l2 r10 r11 (!((r11.1 : ByteArray).toList == (r12.1 : ByteArray).toList)))
noncomputable def j4_3 (d : Nat) (l2 : List Int) (r4 : Int) (r5 : ((List ByteArray) × Bool)) (r6 : ((List ByteArray) × Bool)) (b9 : Bool) : Option Bool :=
 oif r5.2 (
 obind (g16 d r4) fun r10 =>
 oif (!r10.2) (
 some false) (
 oif ((((r6.1.length : Nat) : Int) : Int) == 0) (
 some false) (
 oif (Nat.blt 0 r6.1.length) (
 obind (r6.1[0]?) fun s11 =>
 oif (!((r10.1 : ByteArray).toList == (s11 : ByteArray).toList)) (
 some false) (
 j4_2 d l2)) none))) (
 j4_2 d l2)
noncomputable def l4_0_b (d : Nat) (r4 : Int) (r6 : ((List ByteArray) × Bool)) (kx4_0_0 : Bool → Option Bool) (ag8 : (Bool × Int) → Option Bool) (b9 : Bool) (n10 : Int) : Option Bool :=
 oif (decide ((n10 : Int) < ((r6.1.length : Nat) : Int))) (
 oif (decide (0 ≤ (n10 : Int))) (
 oif (Nat.blt ((n10 : Int).toNat) r6.1.length) (
 obind (r6.1[(n10 : Int).toNat]?) fun s11 =>
 obind (g14 d s11) fun r12 =>
 oif (!r12.2) (
 some false) (
 oif ((r12.1 : Int) != r4) (
 some false) (
 obind (g15 d s11) fun r13 =>
 oif (!(r13 == ((n10 : Int) == 0))) (
 some false) (
 ag8 (b9, (IntKind.i64.wrap (n10 + 1))))))) none) none) (
 kx4_0_0 b9)
noncomputable def l4_0 (d : Nat) (r4 : Int) (r6 : ((List ByteArray) × Bool)) (kx4_0_0 : Bool → Option Bool) (ag8 : (Bool × Int) → Option Bool) (s : (Bool × Int)) : Option Bool := l4_0_b d r4 r6 kx4_0_0 ag8 s.1 s.2
noncomputable def j4_4 (d : Nat) (l2 : List Int) (r4 : Int) (r5 : ((List ByteArray) × Bool)) (r6 : ((List ByteArray) × Bool)) (b7 : Bool) : Option Bool :=
 oif b7 (
 some false) (
 iterP (l4_0 d r4 r6 (j4_3 d l2 r4 r5 r6)) fuelN (false, 0))
theorem e4 (d : Nat) (l1 : List Int) (l2 : List Int) : g4 (d + 1) l1 l2 =
 obind (g9 d l1 l2) fun r3 =>
 oif r3 (
 some true) (
 obind (g10 d l1) fun r4 =>
 obind (g11 d r4) fun r5 =>
 obind (g12 d r4) fun r6 =>
 oif (!(r5.2 == r6.2)) (
 j4_4 d l2 r4 r5 r6 true) (
 obind (g13 d r5.1 r6.1) fun r7 =>
 j4_4 d l2 r4 r5 r6 (!r7))) := by kernel_rfl

end Go.Proofs.YtbciiigglpmlmaaDoor
