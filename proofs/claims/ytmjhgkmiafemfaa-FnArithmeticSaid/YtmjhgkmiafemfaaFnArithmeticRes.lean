/-
  The residual forms of the program's functions under the interpreter by value, printed by program (wip/pv/gen2.py); each equation is checked by the kernel.
  Conditions: none.
-/
import Derived.Test.YtmjhgkmiafemfaaVDef
import Derived.Test.YtmjhgkmiafemfaaProg
import Derived.KernelRfl
set_option linter.all false
set_option maxRecDepth 1000000
namespace Go.Proofs.Ytmjhgkmiafemfaa
open Go.Ev Go.Pv

theorem fuel_is : ∃ n : Nat, n = 4194304 := ⟨_, rfl⟩
noncomputable def fuelN : Nat := Classical.choose fuel_is
theorem fuelN_eq : fuelN = 4194304 := Classical.choose_spec fuel_is
def pvSig : FuncId → Sig
  | 7 => ⟨[(.ro, (.sl (.int .u8))), (.ro, (.sl (.int .u8)))], [(false, .bool)]⟩
  | 12 => ⟨[(.ro, (.sl (.int .u8))), (.ro, (.sl (.int .u8)))], [(false, .bool)]⟩
  | 20 => ⟨[(.ro, (.sl (.int .i64)))], [(false, (.int .i64))]⟩
  | 77 => ⟨[(.ro, (.sl (.int .u8)))], [(false, (.int .i64)), (false, (.int .i64)), (false, (.int .i64)), (false, .bool)]⟩
  | 78 => ⟨[(.ro, (.int .i64)), (.ro, (.int .i64)), (.ro, (.int .i64)), (.ro, .bool)], [(false, (.int .i64)), (false, .bool)]⟩
  | 79 => ⟨[(.ro, (.int .i64)), (.ro, (.int .i64)), (.ro, (.int .i64)), (.ro, .bool)], [(false, (.int .i64)), (false, .bool)]⟩
  | 80 => ⟨[(.ro, (.sl (.int .u8)))], [(true, (.sl (.int .i64)))]⟩
  | 81 => ⟨[(.ro, (.sl (.int .i64)))], [(false, (.int .i64)), (false, .bool)]⟩
  | 82 => ⟨[(.ro, (.sl (.int .i64)))], [(false, (.int .i64)), (false, .bool)]⟩
  | 83 => ⟨[(.ro, (.sl (.int .u8)))], [(false, (.int .i64)), (false, (.int .i64))]⟩
  | 84 => ⟨[(.ro, (.int .i64)), (.ro, (.int .i64))], [(false, (.int .i64)), (false, .bool)]⟩
  | 85 => ⟨[(.ro, (.int .i64)), (.ro, (.int .i64))], [(false, (.int .i64)), (false, .bool)]⟩
  | 86 => ⟨[(.ro, (.sl (.int .u8)))], [(false, .str), (false, .str)]⟩
  | 87 => ⟨[(.ro, .str), (.ro, .str)], [(false, (.int .i64)), (false, .bool)]⟩
  | 88 => ⟨[(.ro, .str), (.ro, .str)], [(false, (.int .i64)), (false, .bool)]⟩
  | 158 => ⟨[(.ps, (.pair (.sl (.int .u8)) (.pair (.int .i64) (.int .u64)))), (.ro, (.sl (.int .i64)))], [(false, (.int .i64))]⟩
  | 177 => ⟨[(.ps, (.pair (.sl (.int .u8)) (.pair (.int .i64) (.int .u64)))), (.ro, (.int .i64))], [(false, (.int .i64))]⟩
  | 179 => ⟨[(.ro, (.int .i64)), (.ro, (.int .i64)), (.ro, (.int .i64))], [(false, .bool)]⟩
  | 211 => ⟨[(.ps, (.pair (.sl (.int .u8)) (.pair (.int .i64) (.int .u64)))), (.ro, (.int .i64))], [(false, .bool)]⟩
  | 213 => ⟨[(.ro, (.int .i64))], [(false, (.int .i64))]⟩
  | 223 => ⟨[(.ro, (.int .i64)), (.ro, (.int .i64))], [(false, (.int .i64))]⟩
  | 224 => ⟨[(.ps, (.pair (.sl (.int .u8)) (.pair (.int .i64) (.int .u64))))], [(false, (.int .i64))]⟩
  | 225 => ⟨[(.ro, (.int .i64))], [(false, .bool)]⟩
  | 226 => ⟨[(.ro, (.int .i64))], [(false, .bool)]⟩
  | 227 => ⟨[(.ro, (.int .i64)), (.ro, (.int .i64)), (.ro, (.int .i64)), (.ro, .bool)], [(false, (.int .i64))]⟩
  | 228 => ⟨[(.ro, (.sl (.int .i64))), (.ro, (.int .i64)), (.ro, (.int .i64))], [(false, .bool)]⟩
  | 229 => ⟨[(.ps, (.pair (.sl (.int .u8)) (.pair (.int .i64) (.int .u64)))), (.ro, (.sl .str))], [(false, .str)]⟩
  | 230 => ⟨[(.ro, (.int .i64))], [(true, (.sl .str))]⟩
  | 231 => ⟨[(.ps, (.pair (.sl (.int .u8)) (.pair (.int .i64) (.int .u64))))], [(false, .str)]⟩
  | 232 => ⟨[(.ro, .str)], [(false, (.int .i64)), (false, .bool)]⟩
  | 233 => ⟨[(.ro, .str)], [(false, (.int .i64))]⟩
  | 247 => ⟨[(.ps, (.pair (.sl (.int .u8)) (.pair (.int .i64) (.int .u64)))), (.ro, .str), (.ro, .str)], [(false, .str)]⟩
  | 248 => ⟨[(.ro, (.int .u8))], [(false, (.int .i64))]⟩
  | 251 => ⟨[(.ro, (.int .u8))], [(false, .bool)]⟩
  | 289 => ⟨[(.ps, (.pair (.sl (.int .u8)) (.pair (.int .i64) (.int .u64))))], [(false, (.int .i64))]⟩
  | 295 => ⟨[(.ro, (.int .i64)), (.ro, (.int .i64))], [(false, (.int .i64))]⟩
  | 296 => ⟨[], [(true, (.sl .str))]⟩
  | 297 => ⟨[(.ro, (.int .i64))], [(false, (.int .i64))]⟩
  | 298 => ⟨[(.ro, (.int .i64))], [(false, .str)]⟩
  | 299 => ⟨[(.ro, (.int .i64))], [(false, .str)]⟩
  | 300 => ⟨[(.ro, .str)], [(false, (.int .i64)), (false, .bool)]⟩
  | 301 => ⟨[(.ro, .str)], [(false, (.int .i64)), (false, .bool)]⟩
  | 302 => ⟨[(.ro, .str)], [(false, .bool)]⟩
  | 303 => ⟨[(.ro, .str)], [(false, (.int .i64))]⟩
  | 304 => ⟨[(.ro, .str)], [(false, (.int .i64))]⟩
  | 319 => ⟨[(.ro, .str), (.ro, (.int .i64)), (.ro, (.int .i64))], [(false, (.int .i64))]⟩
  | _ => ⟨[], []⟩
def pvLoops : FuncId → Nat → LoopA
  | 20, 0 => ⟨[(3, false, (.int .i64)), (8, false, (.int .i64))], [], [], []⟩
  | 80, 0 => ⟨[(4, true, (.sl (.int .i64))), (5, false, (.int .i64))], [(3, (.pair (.sl (.int .u8)) (.pair (.int .i64) (.int .u64))))], [], []⟩
  | 81, 0 => ⟨[(2, false, (.int .i64)), (3, false, .bool), (14, false, (.int .i64))], [], [], []⟩
  | 81, 1 => ⟨[(2, false, (.int .i64)), (3, false, .bool), (6, false, (.int .i64)), (24, false, (.int .i64))], [], [], []⟩
  | 82, 0 => ⟨[(2, false, (.int .i64)), (3, false, .bool), (4, false, (.int .i64)), (17, false, (.int .i64))], [], [], []⟩
  | 228, 0 => ⟨[(6, false, .bool), (11, false, (.int .i64))], [], [], []⟩
  | 230, 0 => ⟨[(3, true, (.sl .str)), (8, false, (.int .i64))], [], [], []⟩
  | 247, 0 => ⟨[(1, false, .str), (7, false, (.int .i64))], [(0, (.pair (.sl (.int .u8)) (.pair (.int .i64) (.int .u64))))], [], []⟩
  | 299, 0 => ⟨[(0, false, (.int .i64)), (3, false, .str), (4, false, .bool)], [], [], []⟩
  | 300, 0 => ⟨[(2, false, (.int .i64)), (3, false, .bool), (4, false, (.int .i64)), (5, false, (.int .i64))], [], [], []⟩
  | 301, 0 => ⟨[(2, false, (.int .i64)), (3, false, .bool), (6, false, (.int .i64)), (7, false, (.int .i64))], [], [], []⟩
  | 304, 0 => ⟨[(2, false, (.int .i64)), (8, false, (.int .i64))], [], [], []⟩
  | 319, 0 => ⟨[(6, false, (.int .i64)), (7, false, (.int .i64)), (8, false, (.int .i64))], [], [], []⟩
  | _, _ => ⟨[], [], [], []⟩
def pvEloops : FuncId → Nat → List (Nat × Value)
  | 20, 0 => [(2, (.int .i64 0)), (3, (.int .i64 0)), (6, (.slice none 0 0)), (7, (.int .i64 0)), (8, (.int .i64 0))]
  | 80, 0 => [(2, (.slice none 0 0)), (3, (.pointer (some ⟨0, 0, none⟩))), (4, (.slice none 0 0)), (5, (.int .i64 0))]
  | 81, 0 => [(0, (.slice none 0 0)), (2, (.int .i64 0)), (3, (.bool false)), (12, (.slice none 0 0)), (13, (.int .i64 0)), (14, (.int .i64 0))]
  | 81, 1 => [(2, (.int .i64 0)), (3, (.bool false)), (6, (.int .i64 0)), (22, (.slice none 0 0)), (23, (.int .i64 0)), (24, (.int .i64 0))]
  | 82, 0 => [(2, (.int .i64 0)), (3, (.bool false)), (4, (.int .i64 0)), (15, (.slice none 0 0)), (16, (.int .i64 0)), (17, (.int .i64 0))]
  | 228, 0 => [(1, (.int .i64 0)), (2, (.int .i64 0)), (6, (.bool false)), (9, (.slice none 0 0)), (10, (.int .i64 0)), (11, (.int .i64 0))]
  | 230, 0 => [(0, (.int .i64 0)), (2, (.slice none 0 0)), (3, (.slice none 0 0)), (6, (.slice none 0 0)), (7, (.int .i64 0)), (8, (.int .i64 0))]
  | 247, 0 => [(0, (.pointer (some ⟨0, 0, none⟩))), (1, (.string ⟨#[]⟩)), (2, (.string ⟨#[]⟩)), (6, (.string ⟨#[]⟩)), (7, (.int .i64 0))]
  | 299, 0 => [(0, (.int .i64 0)), (2, (.string ⟨#[]⟩)), (3, (.string ⟨#[]⟩)), (4, (.bool false))]
  | 300, 0 => [(0, (.string ⟨#[]⟩)), (2, (.int .i64 0)), (3, (.bool false)), (4, (.int .i64 0)), (5, (.int .i64 0))]
  | 301, 0 => [(2, (.int .i64 0)), (3, (.bool false)), (4, (.int .i64 0)), (5, (.string ⟨#[]⟩)), (6, (.int .i64 0)), (7, (.int .i64 0))]
  | 304, 0 => [(0, (.string ⟨#[]⟩)), (2, (.int .i64 0)), (6, (.slice none 0 0)), (7, (.int .i64 0)), (8, (.int .i64 0))]
  | 319, 0 => [(0, (.string ⟨#[]⟩)), (1, (.int .i64 0)), (2, (.int .i64 0)), (6, (.int .i64 0)), (7, (.int .i64 0)), (8, (.int .i64 0))]
  | _, _ => []
def pvInline : FuncId → Bool
  | 216 => true
  | 217 => true
  | 294 => true
  | 310 => true
  | 317 => true
  | 318 => true
  | 333 => true
  | 342 => true
  | _ => false
noncomputable def pvAnn : AnnV := ⟨fuelN, pvSig, pvLoops, pvEloops, pvInline⟩

/-- loop.example/g00838/laws.big -/
noncomputable def g12 (d : Nat) (l1 : List Int) (l2 : List Int) : Option Bool := (lev Try.prog pvAnn d).call 12 (l1, l2)
/-- loop.example/g00838/laws.pSum -/
noncomputable def g20 (d : Nat) (l1 : List Int) : Option Int := (lev Try.prog pvAnn d).call 20 (l1)
/-- (*loop.example/g00838/spec.l1Cur).next -/
noncomputable def g289 (d : Nat) (x1 : ((List Int) × Int × Int)) : Option (Int × ((List Int) × Int × Int)) := (lev Try.prog pvAnn d).call 289 (x1)
/-- (*loop.example/g00838/spec.l1Cur).pick -/
noncomputable def g177 (d : Nat) (x1 : ((List Int) × Int × Int)) (n2 : Int) : Option (Int × ((List Int) × Int × Int)) := (lev Try.prog pvAnn d).call 177 (x1, n2)
/-- (*loop.example/g00838/spec.l1Cur).among -/
noncomputable def g158 (d : Nat) (x1 : ((List Int) × Int × Int)) (l2 : List Int) : Option (Int × ((List Int) × Int × Int)) := (lev Try.prog pvAnn d).call 158 (x1, l2)
/-- (*loop.example/g00838/spec.l1Cur).one -/
noncomputable def g211 (d : Nat) (x1 : ((List Int) × Int × Int)) (n2 : Int) : Option (Bool × ((List Int) × Int × Int)) := (lev Try.prog pvAnn d).call 211 (x1, n2)
/-- (*loop.example/g00838/spec.l1Cur).value -/
noncomputable def g224 (d : Nat) (x1 : ((List Int) × Int × Int)) : Option (Int × ((List Int) × Int × Int)) := (lev Try.prog pvAnn d).call 224 (x1)
/-- loop.example/g00838/spec.DrawScaleValue -/
noncomputable def g77 (d : Nat) (l1 : List Int) : Option (Int × Int × Int × Bool) := (lev Try.prog pvAnn d).call 77 (l1)
/-- loop.example/g00838/impl.isValue -/
noncomputable def g225 (d : Nat) (n1 : Int) : Option Bool := (lev Try.prog pvAnn d).call 225 (n1)
/-- loop.example/g00838/impl.ScaleValue -/
noncomputable def g78 (d : Nat) (n1 : Int) (n2 : Int) (n3 : Int) (b4 : Bool) : Option (Int × Bool) := (lev Try.prog pvAnn d).call 78 (n1, n2, n3, b4)
/-- loop.example/g00838/spec.l1In -/
noncomputable def g179 (d : Nat) (n1 : Int) (n2 : Int) (n3 : Int) : Option Bool := (lev Try.prog pvAnn d).call 179 (n1, n2, n3)
/-- loop.example/g00838/spec.nuValue -/
noncomputable def g226 (d : Nat) (n1 : Int) : Option Bool := (lev Try.prog pvAnn d).call 226 (n1)
/-- loop.example/g00838/spec.nuScale -/
noncomputable def g227 (d : Nat) (n1 : Int) (n2 : Int) (n3 : Int) (b4 : Bool) : Option Int := (lev Try.prog pvAnn d).call 227 (n1, n2, n3, b4)
/-- loop.example/g00838/spec.ScaleValue -/
noncomputable def g79 (d : Nat) (n1 : Int) (n2 : Int) (n3 : Int) (b4 : Bool) : Option (Int × Bool) := (lev Try.prog pvAnn d).call 79 (n1, n2, n3, b4)
/-- loop.example/g00838/spec.DrawAddValues -/
noncomputable def g80 (d : Nat) (l1 : List Int) : Option (List Int) := (lev Try.prog pvAnn d).call 80 (l1)
/-- loop.example/g00838/impl.AddValues -/
noncomputable def g81 (d : Nat) (l1 : List Int) : Option (Int × Bool) := (lev Try.prog pvAnn d).call 81 (l1)
/-- loop.example/g00838/spec.l1All -/
noncomputable def g228 (d : Nat) (l1 : List Int) (n2 : Int) (n3 : Int) : Option Bool := (lev Try.prog pvAnn d).call 228 (l1, n2, n3)
/-- loop.example/g00838/spec.AddValues -/
noncomputable def g82 (d : Nat) (l1 : List Int) : Option (Int × Bool) := (lev Try.prog pvAnn d).call 82 (l1)
/-- loop.example/g00838/spec.DrawMultiplyValues -/
noncomputable def g83 (d : Nat) (l1 : List Int) : Option (Int × Int) := (lev Try.prog pvAnn d).call 83 (l1)
/-- loop.example/g00838/impl.MultiplyValues -/
noncomputable def g84 (d : Nat) (n1 : Int) (n2 : Int) : Option (Int × Bool) := (lev Try.prog pvAnn d).call 84 (n1, n2)
/-- loop.example/g00838/spec.MultiplyValues -/
noncomputable def g85 (d : Nat) (n1 : Int) (n2 : Int) : Option (Int × Bool) := (lev Try.prog pvAnn d).call 85 (n1, n2)
/-- (*loop.example/g00838/spec.l1Cur).of -/
noncomputable def g229 (d : Nat) (x1 : ((List Int) × Int × Int)) (l2 : List ByteArray) : Option (ByteArray × ((List Int) × Int × Int)) := (lev Try.prog pvAnn d).call 229 (x1, l2)
/-- loop.example/g00838/spec.nuUnits -/
noncomputable def g296 (d : Nat)  : Option (List ByteArray) := (lev Try.prog pvAnn d).call 296 ()
/-- loop.example/g00838/spec.nuSize -/
noncomputable def g297 (d : Nat) (n1 : Int) : Option Int := (lev Try.prog pvAnn d).call 297 (n1)
/-- loop.example/g00838/spec.l1Num -/
noncomputable def g298 (d : Nat) (n1 : Int) : Option ByteArray := (lev Try.prog pvAnn d).call 298 (n1)
/-- loop.example/g00838/spec.nuForms -/
noncomputable def g230 (d : Nat) (n1 : Int) : Option (List ByteArray) := (lev Try.prog pvAnn d).call 230 (n1)
/-- loop.example/g00838/spec.l1Most -/
noncomputable def g223 (d : Nat) (n1 : Int) (n2 : Int) : Option Int := (lev Try.prog pvAnn d).call 223 (n1, n2)
/-- (*loop.example/g00838/spec.l1Cur).spoilt -/
noncomputable def g247 (d : Nat) (x1 : ((List Int) × Int × Int)) (s2 : ByteArray) (s3 : ByteArray) : Option (ByteArray × ((List Int) × Int × Int)) := (lev Try.prog pvAnn d).call 247 (x1, s2, s3)
/-- loop.example/g00838/spec.l1Least -/
noncomputable def g295 (d : Nat) (n1 : Int) (n2 : Int) : Option Int := (lev Try.prog pvAnn d).call 295 (n1, n2)
/-- loop.example/g00838/spec.nuHex -/
noncomputable def g299 (d : Nat) (n1 : Int) : Option ByteArray := (lev Try.prog pvAnn d).call 299 (n1)
/-- (*loop.example/g00838/spec.l1Cur).numeral -/
noncomputable def g231 (d : Nat) (x1 : ((List Int) × Int × Int)) : Option (ByteArray × ((List Int) × Int × Int)) := (lev Try.prog pvAnn d).call 231 (x1)
/-- loop.example/g00838/spec.DrawCompareTexts -/
noncomputable def g86 (d : Nat) (l1 : List Int) : Option (ByteArray × ByteArray) := (lev Try.prog pvAnn d).call 86 (l1)
/-- loop.example/g00838/impl.isDigit -/
noncomputable def g251 (d : Nat) (n1 : Int) : Option Bool := (lev Try.prog pvAnn d).call 251 (n1)
/-- loop.example/g00838/impl.hexDigit -/
noncomputable def g248 (d : Nat) (n1 : Int) : Option Int := (lev Try.prog pvAnn d).call 248 (n1)
/-- loop.example/g00838/impl.ReadHex -/
noncomputable def g300 (d : Nat) (s1 : ByteArray) : Option (Int × Bool) := (lev Try.prog pvAnn d).call 300 (s1)
/-- loop.example/g00838/impl.ReadNumber -/
noncomputable def g301 (d : Nat) (s1 : ByteArray) : Option (Int × Bool) := (lev Try.prog pvAnn d).call 301 (s1)
/-- loop.example/g00838/impl.ReadAny -/
noncomputable def g232 (d : Nat) (s1 : ByteArray) : Option (Int × Bool) := (lev Try.prog pvAnn d).call 232 (s1)
/-- loop.example/g00838/impl.CompareTexts -/
noncomputable def g87 (d : Nat) (s1 : ByteArray) (s2 : ByteArray) : Option (Int × Bool) := (lev Try.prog pvAnn d).call 87 (s1, s2)
/-- loop.example/g00838/spec.l1Sign -/
noncomputable def g213 (d : Nat) (n1 : Int) : Option Int := (lev Try.prog pvAnn d).call 213 (n1)
/-- loop.example/g00838/spec.nuIsHex -/
noncomputable def g302 (d : Nat) (s1 : ByteArray) : Option Bool := (lev Try.prog pvAnn d).call 302 (s1)
/-- loop.example/g00838/spec.nuDigits -/
noncomputable def g319 (d : Nat) (s1 : ByteArray) (n2 : Int) (n3 : Int) : Option Int := (lev Try.prog pvAnn d).call 319 (s1, n2, n3)
/-- loop.example/g00838/spec.nuReadHex -/
noncomputable def g303 (d : Nat) (s1 : ByteArray) : Option Int := (lev Try.prog pvAnn d).call 303 (s1)
/-- loop.example/g00838/spec.nuRead -/
noncomputable def g304 (d : Nat) (s1 : ByteArray) : Option Int := (lev Try.prog pvAnn d).call 304 (s1)
/-- loop.example/g00838/spec.nuAny -/
noncomputable def g233 (d : Nat) (s1 : ByteArray) : Option Int := (lev Try.prog pvAnn d).call 233 (s1)
/-- loop.example/g00838/spec.CompareTexts -/
noncomputable def g88 (d : Nat) (s1 : ByteArray) (s2 : ByteArray) : Option (Int × Bool) := (lev Try.prog pvAnn d).call 88 (s1, s2)
/-- loop.example/g00838/laws.FnArithmetic -/
noncomputable def g7 (d : Nat) (l1 : List Int) (l2 : List Int) : Option Bool := (lev Try.prog pvAnn d).call 7 (l1, l2)

theorem e12 (d : Nat) (l1 : List Int) (l2 : List Int) : g12 (d + 1) l1 l2 =
 oif (decide ((((l1.length : Nat) : Int) : Int) > 1048576)) (
 some true) (
 some (decide ((((l2.length : Nat) : Int) : Int) > (IntKind.i64.wrap ((1048576 : Int) - ((l1.length : Nat) : Int)))))) := by kernel_rfl

noncomputable def j20_0 (d : Nat)  (n3 : Int) : Option Int :=
 some n3
noncomputable def l20_0_b (d : Nat) (l1 : List Int) (kx20_0_0 : Int → Option Int) (ag2 : (Int × Int) → Option Int) (n3 : Int) (n4 : Int) : Option Int :=
 oif (decide ((n4 : Int) < ((l1.length : Nat) : Int))) (
 oif (decide (0 ≤ (n4 : Int))) (
 obind (l1[(n4 : Int).toNat]?) fun n5 =>
 ag2 ((IntKind.i64.wrap (n3 + n5)), (IntKind.i64.wrap (n4 + 1)))) none) (
 kx20_0_0 n3)
noncomputable def l20_0 (d : Nat) (l1 : List Int) (kx20_0_0 : Int → Option Int) (ag2 : (Int × Int) → Option Int) (s : (Int × Int)) : Option Int := l20_0_b d l1 kx20_0_0 ag2 s.1 s.2
theorem e20 (d : Nat) (l1 : List Int) : g20 (d + 1) l1 =
 iterP (l20_0 d l1 (j20_0 d)) fuelN (0, 0) := by kernel_rfl

noncomputable def j289_0 (d : Nat) (x1 : ((List Int) × Int × Int)) (n2 : Int) : Option (Int × ((List Int) × Int × Int)) :=
 oif (decide (((IntKind.i64.wrap (x1.2.1 + 1)) : Int) ≤ ((x1.1.length : Nat) : Int))) (
 some (n2, (x1.1, (IntKind.i64.wrap (x1.2.1 + 1)), (IntKind.u64.wrap ((IntKind.u64.wrap ((IntKind.u64.wrap (x1.2.2 * 6364136223846793005)) + (IntKind.u64.wrap n2))) + 1442695040888963407))))) (
 some ((IntKind.i64.wrap (IntKind.u64.wrap ((BitVec.ofInt IntKind.u64.bits ((IntKind.u64.wrap ((IntKind.u64.wrap ((IntKind.u64.wrap (x1.2.2 * 6364136223846793005)) + (IntKind.u64.wrap n2))) + 1442695040888963407)).fdiv (2 ^ (min (40 : Int).toNat IntKind.u64.bits))) &&& BitVec.ofInt IntKind.u64.bits 255).toNat : Int))), (x1.1, (IntKind.i64.wrap (x1.2.1 + 1)), (IntKind.u64.wrap ((IntKind.u64.wrap ((IntKind.u64.wrap (x1.2.2 * 6364136223846793005)) + (IntKind.u64.wrap n2))) + 1442695040888963407)))))
theorem e289 (d : Nat) (x1 : ((List Int) × Int × Int)) : g289 (d + 1) x1 =
 oif (decide ((x1.2.1 : Int) < ((x1.1.length : Nat) : Int))) (
 oif (decide (0 ≤ (x1.2.1 : Int))) (
 obind (x1.1[(x1.2.1 : Int).toNat]?) fun n2 =>
 j289_0 d x1 (IntKind.i64.wrap n2)) none) (
 j289_0 d x1 0) := by kernel_rfl

theorem e177 (d : Nat) (x1 : ((List Int) × Int × Int)) (n2 : Int) : g177 (d + 1) x1 n2 =
 oif (decide ((n2 : Int) ≤ 1)) (
 some (0, x1)) (
 obind (g289 d x1) fun r3 =>
 oif (decide ((n2 : Int) > 200)) (
 obind (g289 d r3.2) fun r4 =>
 oif ((n2 : Int) == 0) none (
 some (((IntKind.i64.wrap ((IntKind.i64.wrap (r3.1 * 256)) + r4.1)).tmod n2), r4.2))) (
 oif ((n2 : Int) == 0) none (
 some ((r3.1.tmod n2), r3.2)))) := by kernel_rfl

theorem e158 (d : Nat) (x1 : ((List Int) × Int × Int)) (l2 : List Int) : g158 (d + 1) x1 l2 =
 obind (g177 d x1 ((l2.length : Nat) : Int)) fun r3 =>
 oif (decide (0 ≤ (r3.1 : Int))) (
 obind (l2[(r3.1 : Int).toNat]?) fun n4 =>
 some (n4, r3.2)) none := by kernel_rfl

theorem e211 (d : Nat) (x1 : ((List Int) × Int × Int)) (n2 : Int) : g211 (d + 1) x1 n2 =
 obind (g177 d x1 n2) fun r3 =>
 some (((r3.1 : Int) == 0), r3.2) := by kernel_rfl

theorem e224 (d : Nat) (x1 : ((List Int) × Int × Int)) : g224 (d + 1) x1 =
 obind (g177 d x1 400) fun r2 =>
 obind (g177 d r2.2 60000) fun r3 =>
 obind (g177 d r3.2 400) fun r4 =>
 obind (g158 d r4.2 [1000000001, (-1)]) fun r5 =>
 obind (g158 d r5.2 [0, 1, 5, 999, 1000, 1500, 64000, 1000000, 2500000, 999999999, 1000000000, r2.1, r3.1, (IntKind.i64.wrap ((1000 : Int) * r4.1)), r5.1]) fun r6 =>
 some (r6.1, r6.2) := by kernel_rfl

theorem e77 (d : Nat) (l1 : List Int) : g77 (d + 1) l1 =
 obind (g224 d (l1, 0, 0)) fun r2 =>
 obind (g158 d r2.2 [0, 1, 2, 3, 7, 1000000, 1000001, (-1)]) fun r3 =>
 obind (g158 d r3.2 [1, 2, 3, 10, 1000000, 1000001, 0]) fun r4 =>
 obind (g211 d r4.2 2) fun r5 =>
 some (r2.1, r3.1, r4.1, r5.1) := by kernel_rfl

theorem e225 (d : Nat) (n1 : Int) : g225 (d + 1) n1 =
 oif (decide ((n1 : Int) ≥ 0)) (
 some (decide ((n1 : Int) ≤ 1000000000))) (
 some false) := by kernel_rfl

noncomputable def j78_0 (d : Nat) (n3 : Int) (n6 : Int) : Option (Int × Bool) :=
 oif ((n3 : Int) == 0) none (
 oif (decide (((IntKind.i64.wrap (n6.tdiv n3)) : Int) > 1000000000)) (
 some (0, false)) (
 oif ((n3 : Int) == 0) none (
 some ((IntKind.i64.wrap (n6.tdiv n3)), true))))
noncomputable def j78_1 (d : Nat) (n1 : Int) (n2 : Int) (n3 : Int) (b4 : Bool) (b5 : Bool) : Option (Int × Bool) :=
 oif b5 (
 some (0, false)) (
 oif b4 (
 j78_0 d n3 (IntKind.i64.wrap ((IntKind.i64.wrap (n1 * n2)) + (IntKind.i64.wrap (n3 - 1))))) (
 j78_0 d n3 (IntKind.i64.wrap (n1 * n2))))
theorem e78 (d : Nat) (n1 : Int) (n2 : Int) (n3 : Int) (b4 : Bool) : g78 (d + 1) n1 n2 n3 b4 =
 obind (g225 d n1) fun r5 =>
 oif (!r5) (
 j78_1 d n1 n2 n3 b4 true) (
 oif (decide ((n2 : Int) < 0)) (
 j78_1 d n1 n2 n3 b4 true) (
 oif (decide ((n2 : Int) > 1000000)) (
 j78_1 d n1 n2 n3 b4 true) (
 oif (decide ((n3 : Int) < 1)) (
 j78_1 d n1 n2 n3 b4 true) (
 j78_1 d n1 n2 n3 b4 (decide ((n3 : Int) > 1000000)))))) := by kernel_rfl

theorem e179 (d : Nat) (n1 : Int) (n2 : Int) (n3 : Int) : g179 (d + 1) n1 n2 n3 =
 oif (decide ((n1 : Int) ≥ n2)) (
 some (decide ((n1 : Int) ≤ n3))) (
 some false) := by kernel_rfl

theorem e226 (d : Nat) (n1 : Int) : g226 (d + 1) n1 =
 obind (g179 d n1 0 1000000000) fun r2 =>
 some r2 := by kernel_rfl

theorem e227 (d : Nat) (n1 : Int) (n2 : Int) (n3 : Int) (b4 : Bool) : g227 (d + 1) n1 n2 n3 b4 =
 oif b4 (
 oif ((n3 : Int) == 0) none (
 some (IntKind.i64.wrap ((IntKind.i64.wrap ((IntKind.i64.wrap (n1 * n2)) + (IntKind.i64.wrap (n3 - 1)))).tdiv n3)))) (
 oif ((n3 : Int) == 0) none (
 some (IntKind.i64.wrap ((IntKind.i64.wrap (n1 * n2)).tdiv n3)))) := by kernel_rfl

theorem e79 (d : Nat) (n1 : Int) (n2 : Int) (n3 : Int) (b4 : Bool) : g79 (d + 1) n1 n2 n3 b4 =
 obind (g226 d n1) fun r5 =>
 oif (!r5) (
 some (0, false)) (
 obind (g179 d n2 0 1000000) fun r6 =>
 oif (!r6) (
 some (0, false)) (
 obind (g179 d n3 1 1000000) fun r7 =>
 oif (!r7) (
 some (0, false)) (
 obind (g227 d n1 n2 n3 b4) fun r8 =>
 oif (decide ((r8 : Int) > 1000000000)) (
 some (0, false)) (
 some (r8, true))))) := by kernel_rfl

noncomputable def j80_0 (d : Nat)  (l4 : List Int) (n5 : Int) (n6 : Int) (l7 : List Int) : Option (List Int) :=
 obind (g211 d (l4, n5, n6) 16) fun r8 =>
 oif r8.1 (
 obind (g177 d r8.2 2) fun r9 =>
 oif (decide (0 ≤ ((IntKind.i64.wrap ((40 : Int) + r9.1)) : Int))) (
 oif (decide (0 ≤ ((IntKind.i64.wrap ((40 : Int) + r9.1)) : Int))) (
 oif (Nat.ble (((IntKind.i64.wrap ((40 : Int) + r9.1)) : Int).toNat) (((IntKind.i64.wrap ((40 : Int) + r9.1)) : Int).toNat) && Nat.ble ((((IntKind.i64.wrap ((40 : Int) + r9.1)) : Int).toNat) * 8) roomMax) (
 some (List.replicate (((IntKind.i64.wrap ((40 : Int) + r9.1)) : Int).toNat) (0 : Int))) none) none) none) (
 some l7)
noncomputable def l80_0_b (d : Nat)  (kx80_0_0 : (List Int) → Int → Int → (List Int) → Option (List Int)) (ag3 : ((List Int) × Int × ((List Int) × Int × Int)) → Option (List Int)) (l4 : List Int) (n5 : Int) (x6 : ((List Int) × Int × Int)) : Option (List Int) :=
 oif (decide ((n5 : Int) > 0)) (
 obind (g224 d x6) fun r7 =>
 oif (Nat.ble ((l4.length + [r7.1].length) * 8) roomMax) (
 ag3 ((l4 ++ [r7.1]), (IntKind.i64.wrap (n5 - 1)), r7.2)) none) (
 kx80_0_0 x6.1 x6.2.1 x6.2.2 l4)
noncomputable def l80_0 (d : Nat)  (kx80_0_0 : (List Int) → Int → Int → (List Int) → Option (List Int)) (ag3 : ((List Int) × Int × ((List Int) × Int × Int)) → Option (List Int)) (s : ((List Int) × Int × ((List Int) × Int × Int))) : Option (List Int) := l80_0_b d kx80_0_0 ag3 s.1 s.2.1 s.2.2
theorem e80 (d : Nat) (l1 : List Int) : g80 (d + 1) l1 =
 obind (g177 d (l1, 0, 0) 6) fun r2 =>
 iterP (l80_0 d (j80_0 d)) fuelN ([], r2.1, r2.2) := by kernel_rfl

noncomputable def j81_0 (d : Nat)  (n6 : Int) (b7 : Bool) (n8 : Int) : Option (Int × Bool) :=
 some (n8, true)
noncomputable def l81_1_b (d : Nat) (l1 : List Int) (kx81_1_0 : Int → Bool → Int → Option (Int × Bool)) (ag5 : (Int × Bool × Int × Int) → Option (Int × Bool)) (n6 : Int) (b7 : Bool) (n8 : Int) (n9 : Int) : Option (Int × Bool) :=
 oif (decide ((n9 : Int) < ((l1.length : Nat) : Int))) (
 oif (decide (0 ≤ (n9 : Int))) (
 obind (l1[(n9 : Int).toNat]?) fun n10 =>
 oif (decide (((IntKind.i64.wrap (n8 + n10)) : Int) > 1000000000)) (
 some (0, false)) (
 ag5 (n6, b7, (IntKind.i64.wrap (n8 + n10)), (IntKind.i64.wrap (n9 + 1))))) none) (
 kx81_1_0 n6 b7 n8)
noncomputable def l81_1 (d : Nat) (l1 : List Int) (kx81_1_0 : Int → Bool → Int → Option (Int × Bool)) (ag5 : (Int × Bool × Int × Int) → Option (Int × Bool)) (s : (Int × Bool × Int × Int)) : Option (Int × Bool) := l81_1_b d l1 kx81_1_0 ag5 s.1 s.2.1 s.2.2.1 s.2.2.2
noncomputable def j81_1 (d : Nat) (l1 : List Int) (n3 : Int) (b4 : Bool) : Option (Int × Bool) :=
 iterP (l81_1 d l1 (j81_0 d)) fuelN (n3, b4, 0, 0)
noncomputable def l81_0_b (d : Nat) (l1 : List Int) (kx81_0_0 : Int → Bool → Option (Int × Bool)) (ag2 : (Int × Bool × Int) → Option (Int × Bool)) (n3 : Int) (b4 : Bool) (n5 : Int) : Option (Int × Bool) :=
 oif (decide ((n5 : Int) < ((l1.length : Nat) : Int))) (
 oif (decide (0 ≤ (n5 : Int))) (
 obind (l1[(n5 : Int).toNat]?) fun n6 =>
 obind (g225 d n6) fun r7 =>
 oif (!r7) (
 some (0, false)) (
 ag2 (n3, b4, (IntKind.i64.wrap (n5 + 1))))) none) (
 kx81_0_0 n3 b4)
noncomputable def l81_0 (d : Nat) (l1 : List Int) (kx81_0_0 : Int → Bool → Option (Int × Bool)) (ag2 : (Int × Bool × Int) → Option (Int × Bool)) (s : (Int × Bool × Int)) : Option (Int × Bool) := l81_0_b d l1 kx81_0_0 ag2 s.1 s.2.1 s.2.2
theorem e81 (d : Nat) (l1 : List Int) : g81 (d + 1) l1 =
 oif (decide ((((l1.length : Nat) : Int) : Int) > 40)) (
 some (0, false)) (
 iterP (l81_0 d l1 (j81_1 d l1)) fuelN (0, false, 0)) := by kernel_rfl

noncomputable def j228_0 (d : Nat)  (b5 : Bool) : Option Bool :=
 some true
noncomputable def l228_0_b (d : Nat) (l1 : List Int) (n2 : Int) (n3 : Int) (kx228_0_0 : Bool → Option Bool) (ag4 : (Bool × Int) → Option Bool) (b5 : Bool) (n6 : Int) : Option Bool :=
 oif (decide ((n6 : Int) < ((l1.length : Nat) : Int))) (
 oif (decide (0 ≤ (n6 : Int))) (
 obind (l1[(n6 : Int).toNat]?) fun n7 =>
 obind (g179 d n7 n2 n3) fun r8 =>
 oif (!r8) (
 some false) (
 ag4 (b5, (IntKind.i64.wrap (n6 + 1))))) none) (
 kx228_0_0 b5)
noncomputable def l228_0 (d : Nat) (l1 : List Int) (n2 : Int) (n3 : Int) (kx228_0_0 : Bool → Option Bool) (ag4 : (Bool × Int) → Option Bool) (s : (Bool × Int)) : Option Bool := l228_0_b d l1 n2 n3 kx228_0_0 ag4 s.1 s.2
theorem e228 (d : Nat) (l1 : List Int) (n2 : Int) (n3 : Int) : g228 (d + 1) l1 n2 n3 =
 iterP (l228_0 d l1 n2 n3 (j228_0 d)) fuelN (false, 0) := by kernel_rfl

noncomputable def j82_0 (d : Nat)  (n4 : Int) (b5 : Bool) (n6 : Int) : Option (Int × Bool) :=
 some (n6, true)
noncomputable def l82_0_b (d : Nat) (l1 : List Int) (kx82_0_0 : Int → Bool → Int → Option (Int × Bool)) (ag3 : (Int × Bool × Int × Int) → Option (Int × Bool)) (n4 : Int) (b5 : Bool) (n6 : Int) (n7 : Int) : Option (Int × Bool) :=
 oif (decide ((n7 : Int) < ((l1.length : Nat) : Int))) (
 oif (decide (0 ≤ (n7 : Int))) (
 obind (l1[(n7 : Int).toNat]?) fun n8 =>
 oif (decide (((IntKind.i64.wrap (n6 + n8)) : Int) > 1000000000)) (
 some (0, false)) (
 ag3 (n4, b5, (IntKind.i64.wrap (n6 + n8)), (IntKind.i64.wrap (n7 + 1))))) none) (
 kx82_0_0 n4 b5 n6)
noncomputable def l82_0 (d : Nat) (l1 : List Int) (kx82_0_0 : Int → Bool → Int → Option (Int × Bool)) (ag3 : (Int × Bool × Int × Int) → Option (Int × Bool)) (s : (Int × Bool × Int × Int)) : Option (Int × Bool) := l82_0_b d l1 kx82_0_0 ag3 s.1 s.2.1 s.2.2.1 s.2.2.2
noncomputable def j82_1 (d : Nat) (l1 : List Int) (b2 : Bool) : Option (Int × Bool) :=
 oif b2 (
 some (0, false)) (
 iterP (l82_0 d l1 (j82_0 d)) fuelN (0, false, 0, 0))
theorem e82 (d : Nat) (l1 : List Int) : g82 (d + 1) l1 =
 oif (decide ((((l1.length : Nat) : Int) : Int) > 40)) (
 j82_1 d l1 true) (
 obind (g228 d l1 0 1000000000) fun r2 =>
 j82_1 d l1 (!r2)) := by kernel_rfl

theorem e83 (d : Nat) (l1 : List Int) : g83 (d + 1) l1 =
 obind (g224 d (l1, 0, 0)) fun r2 =>
 obind (g224 d r2.2) fun r3 =>
 some (r2.1, r3.1) := by kernel_rfl

theorem e84 (d : Nat) (n1 : Int) (n2 : Int) : g84 (d + 1) n1 n2 =
 obind (g225 d n1) fun r3 =>
 oif (!r3) (
 some (0, false)) (
 obind (g225 d n2) fun r4 =>
 oif (!r4) (
 some (0, false)) (
 oif (decide (((IntKind.i64.wrap (n1 * n2)) : Int) > 1000000000)) (
 some (0, false)) (
 some ((IntKind.i64.wrap (n1 * n2)), true)))) := by kernel_rfl

noncomputable def j85_0 (d : Nat) (n1 : Int) (n2 : Int) (b3 : Bool) : Option (Int × Bool) :=
 oif b3 (
 some (0, false)) (
 some ((IntKind.i64.wrap (n1 * n2)), true))
theorem e85 (d : Nat) (n1 : Int) (n2 : Int) : g85 (d + 1) n1 n2 =
 obind (g226 d n1) fun r3 =>
 oif (!r3) (
 j85_0 d n1 n2 true) (
 obind (g226 d n2) fun r4 =>
 oif (!r4) (
 j85_0 d n1 n2 true) (
 oif (decide ((n2 : Int) > 0)) (
 oif ((n2 : Int) == 0) none (
 j85_0 d n1 n2 (decide ((n1 : Int) > (IntKind.i64.wrap ((1000000000 : Int).tdiv n2)))))) (
 j85_0 d n1 n2 false))) := by kernel_rfl

theorem e229 (d : Nat) (x1 : ((List Int) × Int × Int)) (l2 : List ByteArray) : g229 (d + 1) x1 l2 =
 obind (g177 d x1 ((l2.length : Nat) : Int)) fun r3 =>
 oif (decide (0 ≤ (r3.1 : Int))) (
 obind (l2[(r3.1 : Int).toNat]?) fun s4 =>
 some (s4, r3.2)) none := by kernel_rfl

theorem e296 (d : Nat)  : g296 (d + 1) =
 some [(⟨#[109]⟩ : ByteArray), (⟨#[107]⟩ : ByteArray), (⟨#[]⟩ : ByteArray)] := by kernel_rfl

theorem e297 (d : Nat) (n1 : Int) : g297 (d + 1) n1 =
 oif (decide (0 ≤ (n1 : Int))) (
 oif (Nat.blt ((n1 : Int).toNat) ([1000000, 1000, 1].length)) (
 obind ([1000000, 1000, 1][(n1 : Int).toNat]?) fun n2 =>
 some n2) none) none := by kernel_rfl

theorem e298 (d : Nat) (n1 : Int) : g298 (d + 1) n1 =
 oif (decide ((n1 : Int) < 10)) (
 some (strL [(IntKind.u8.wrap (IntKind.i64.wrap ((48 : Int) + n1)))])) (
 obind (g298 d (IntKind.i64.wrap (n1.tdiv 10))) fun r2 =>
 oif (Nat.ble ((r2 : ByteArray).size + ((strL [(IntKind.u8.wrap (IntKind.i64.wrap ((48 : Int) + (n1.tmod 10))))]) : ByteArray).size) 9223372036854775807) (
 some ((r2 : ByteArray) ++ ((strL [(IntKind.u8.wrap (IntKind.i64.wrap ((48 : Int) + (n1.tmod 10))))]) : ByteArray))) none) := by kernel_rfl

noncomputable def j230_0 (d : Nat)  (l4 : List ByteArray) : Option (List ByteArray) :=
 some l4
noncomputable def j230_1 (d : Nat) (n1 : Int) (ag3 : ((List ByteArray) × Int) → Option (List ByteArray)) (l4 : List ByteArray) (n5 : Int) (s6 : ByteArray) (n7 : Int) (n8 : Int) (b9 : Bool) (b10 : Bool) (b11 : Bool) : Option (List ByteArray) :=
 oif b11 (
 obind (g297 d n5) fun r12 =>
 oif ((r12 : Int) == 0) none (
 obind (g298 d (IntKind.i64.wrap (n1.tdiv r12))) fun r13 =>
 oif (Nat.ble ((r13 : ByteArray).size + (s6 : ByteArray).size) 9223372036854775807) (
 oif (Nat.ble ((l4.length + [((r13 : ByteArray) ++ (s6 : ByteArray))].length) * 16) roomMax) (
 ag3 ((l4 ++ [((r13 : ByteArray) ++ (s6 : ByteArray))]), (IntKind.i64.wrap (n5 + 1)))) none) none)) (
 ag3 (l4, (IntKind.i64.wrap (n5 + 1))))
noncomputable def l230_0_b (d : Nat) (n1 : Int) (r2 : List ByteArray) (kx230_0_0 : (List ByteArray) → Option (List ByteArray)) (ag3 : ((List ByteArray) × Int) → Option (List ByteArray)) (l4 : List ByteArray) (n5 : Int) : Option (List ByteArray) :=
 oif (decide ((n5 : Int) < ((r2.length : Nat) : Int))) (
 oif (decide (0 ≤ (n5 : Int))) (
 oif (Nat.blt ((n5 : Int).toNat) r2.length) (
 obind (r2[(n5 : Int).toNat]?) fun s6 =>
 obind (g297 d n5) fun r7 =>
 oif ((r7 : Int) == 0) none (
 oif (((n1.tmod r7) : Int) == 0) (
 oif (decide ((n1 : Int) > 0)) (
 j230_1 d n1 ag3 l4 n5 s6 r7 (n1.tmod r7) (((n1.tmod r7) : Int) == 0) true true) (
 j230_1 d n1 ag3 l4 n5 s6 r7 (n1.tmod r7) (((n1.tmod r7) : Int) == 0) true ((s6 : ByteArray).toList == ((⟨#[]⟩ : ByteArray) : ByteArray).toList))) (
 j230_1 d n1 ag3 l4 n5 s6 r7 (n1.tmod r7) (((n1.tmod r7) : Int) == 0) false false))) none) none) (
 kx230_0_0 l4)
noncomputable def l230_0 (d : Nat) (n1 : Int) (r2 : List ByteArray) (kx230_0_0 : (List ByteArray) → Option (List ByteArray)) (ag3 : ((List ByteArray) × Int) → Option (List ByteArray)) (s : ((List ByteArray) × Int)) : Option (List ByteArray) := l230_0_b d n1 r2 kx230_0_0 ag3 s.1 s.2
theorem e230 (d : Nat) (n1 : Int) : g230 (d + 1) n1 =
 obind (g296 d) fun r2 =>
 iterP (l230_0 d n1 r2 (j230_0 d)) fuelN ([], 0) := by kernel_rfl

theorem e223 (d : Nat) (n1 : Int) (n2 : Int) : g223 (d + 1) n1 n2 =
 oif (decide ((n1 : Int) > n2)) (
 some n1) (
 some n2) := by kernel_rfl

noncomputable def j247_0 (d : Nat)  (s6 : ByteArray) (l7 : List Int) (n8 : Int) (n9 : Int) : Option (ByteArray × ((List Int) × Int × Int)) :=
 some (s6, (l7, n8, n9))
noncomputable def j247_1 (d : Nat) (kx247_0_0 : ByteArray → (List Int) → Int → Int → Option (ByteArray × ((List Int) × Int × Int))) (s3 : ByteArray) (ag5 : (ByteArray × Int × ((List Int) × Int × Int)) → Option (ByteArray × ((List Int) × Int × Int))) (s6 : ByteArray) (n7 : Int) (x8 : ((List Int) × Int × Int)) (b9 : Bool) (b10 : Bool) : Option (ByteArray × ((List Int) × Int × Int)) :=
 oif b10 (
 obind (g177 d x8 ((s6 : ByteArray).size : Int)) fun r11 =>
 obind (g177 d r11.2 ((s3 : ByteArray).size : Int)) fun r12 =>
 oif (decide (0 ≤ (r12.1 : Int))) (
 obind ((s3 : ByteArray).data.toList[(r12.1 : Int).toNat]?) fun c13 =>
 obind (g177 d r12.2 3) fun r14 =>
 oif ((r14.1 : Int) == 0) (
 oif (decide (0 ≤ (r11.1 : Int))) (
 oif (Nat.ble 0 ((r11.1 : Int).toNat) && Nat.ble ((r11.1 : Int).toNat) (s6 : ByteArray).size) (
 oif (Nat.ble ((((s6 : ByteArray).extract 0 ((r11.1 : Int).toNat)) : ByteArray).size + ((strL [(c13.toNat : Int)]) : ByteArray).size) 9223372036854775807) (
 oif (decide (0 ≤ (r11.1 : Int))) (
 oif (Nat.ble ((r11.1 : Int).toNat) ((s6 : ByteArray).size) && Nat.ble ((s6 : ByteArray).size) (s6 : ByteArray).size) (
 oif (Nat.ble ((((((s6 : ByteArray).extract 0 ((r11.1 : Int).toNat)) : ByteArray) ++ ((strL [(c13.toNat : Int)]) : ByteArray)) : ByteArray).size + (((s6 : ByteArray).extract ((r11.1 : Int).toNat) ((s6 : ByteArray).size)) : ByteArray).size) 9223372036854775807) (
 ag5 (((((((s6 : ByteArray).extract 0 ((r11.1 : Int).toNat)) : ByteArray) ++ ((strL [(c13.toNat : Int)]) : ByteArray)) : ByteArray) ++ (((s6 : ByteArray).extract ((r11.1 : Int).toNat) ((s6 : ByteArray).size)) : ByteArray)), (IntKind.i64.wrap (n7 - 1)), r14.2)) none) none) none) none) none) none) (
 oif ((r14.1 : Int) == 1) (
 oif (decide (0 ≤ (r11.1 : Int))) (
 oif (Nat.ble 0 ((r11.1 : Int).toNat) && Nat.ble ((r11.1 : Int).toNat) (s6 : ByteArray).size) (
 oif (Nat.ble ((((s6 : ByteArray).extract 0 ((r11.1 : Int).toNat)) : ByteArray).size + ((strL [(c13.toNat : Int)]) : ByteArray).size) 9223372036854775807) (
 oif (decide (0 ≤ ((IntKind.i64.wrap (r11.1 + 1)) : Int))) (
 oif (Nat.ble (((IntKind.i64.wrap (r11.1 + 1)) : Int).toNat) ((s6 : ByteArray).size) && Nat.ble ((s6 : ByteArray).size) (s6 : ByteArray).size) (
 oif (Nat.ble ((((((s6 : ByteArray).extract 0 ((r11.1 : Int).toNat)) : ByteArray) ++ ((strL [(c13.toNat : Int)]) : ByteArray)) : ByteArray).size + (((s6 : ByteArray).extract (((IntKind.i64.wrap (r11.1 + 1)) : Int).toNat) ((s6 : ByteArray).size)) : ByteArray).size) 9223372036854775807) (
 ag5 (((((((s6 : ByteArray).extract 0 ((r11.1 : Int).toNat)) : ByteArray) ++ ((strL [(c13.toNat : Int)]) : ByteArray)) : ByteArray) ++ (((s6 : ByteArray).extract (((IntKind.i64.wrap (r11.1 + 1)) : Int).toNat) ((s6 : ByteArray).size)) : ByteArray)), (IntKind.i64.wrap (n7 - 1)), r14.2)) none) none) none) none) none) none) (
 oif (decide (0 ≤ (r11.1 : Int))) (
 oif (Nat.ble 0 ((r11.1 : Int).toNat) && Nat.ble ((r11.1 : Int).toNat) (s6 : ByteArray).size) (
 oif (decide (0 ≤ ((IntKind.i64.wrap (r11.1 + 1)) : Int))) (
 oif (Nat.ble (((IntKind.i64.wrap (r11.1 + 1)) : Int).toNat) ((s6 : ByteArray).size) && Nat.ble ((s6 : ByteArray).size) (s6 : ByteArray).size) (
 oif (Nat.ble ((((s6 : ByteArray).extract 0 ((r11.1 : Int).toNat)) : ByteArray).size + (((s6 : ByteArray).extract (((IntKind.i64.wrap (r11.1 + 1)) : Int).toNat) ((s6 : ByteArray).size)) : ByteArray).size) 9223372036854775807) (
 ag5 (((((s6 : ByteArray).extract 0 ((r11.1 : Int).toNat)) : ByteArray) ++ (((s6 : ByteArray).extract (((IntKind.i64.wrap (r11.1 + 1)) : Int).toNat) ((s6 : ByteArray).size)) : ByteArray)), (IntKind.i64.wrap (n7 - 1)), r14.2)) none) none) none) none) none))) none) (
 kx247_0_0 s6 x8.1 x8.2.1 x8.2.2)
noncomputable def l247_0_b (d : Nat) (s3 : ByteArray) (kx247_0_0 : ByteArray → (List Int) → Int → Int → Option (ByteArray × ((List Int) × Int × Int))) (ag5 : (ByteArray × Int × ((List Int) × Int × Int)) → Option (ByteArray × ((List Int) × Int × Int))) (s6 : ByteArray) (n7 : Int) (x8 : ((List Int) × Int × Int)) : Option (ByteArray × ((List Int) × Int × Int)) :=
 oif (decide ((n7 : Int) > 0)) (
 j247_1 d kx247_0_0 s3 ag5 s6 n7 x8 true (decide ((((s6 : ByteArray).size : Int) : Int) > 0))) (
 j247_1 d kx247_0_0 s3 ag5 s6 n7 x8 false false)
noncomputable def l247_0 (d : Nat) (s3 : ByteArray) (kx247_0_0 : ByteArray → (List Int) → Int → Int → Option (ByteArray × ((List Int) × Int × Int))) (ag5 : (ByteArray × Int × ((List Int) × Int × Int)) → Option (ByteArray × ((List Int) × Int × Int))) (s : (ByteArray × Int × ((List Int) × Int × Int))) : Option (ByteArray × ((List Int) × Int × Int)) := l247_0_b d s3 kx247_0_0 ag5 s.1 s.2.1 s.2.2
theorem e247 (d : Nat) (x1 : ((List Int) × Int × Int)) (s2 : ByteArray) (s3 : ByteArray) : g247 (d + 1) x1 s2 s3 =
 obind (g177 d x1 2) fun r4 =>
 iterP (l247_0 d s3 (j247_0 d)) fuelN (s2, (IntKind.i64.wrap ((1 : Int) + r4.1)), r4.2) := by kernel_rfl

theorem e295 (d : Nat) (n1 : Int) (n2 : Int) : g295 (d + 1) n1 n2 =
 oif (decide ((n1 : Int) < n2)) (
 some n1) (
 some n2) := by kernel_rfl

noncomputable def j299_0 (d : Nat)  (s3 : ByteArray) : Option ByteArray :=
 oif (Nat.ble (((⟨#[48, 120]⟩ : ByteArray) : ByteArray).size + (s3 : ByteArray).size) 9223372036854775807) (
 some (((⟨#[48, 120]⟩ : ByteArray) : ByteArray) ++ (s3 : ByteArray))) none
noncomputable def l299_0_b (d : Nat)  (kx299_0_0 : ByteArray → Option ByteArray) (ag2 : (Int × ByteArray × Bool) → Option ByteArray) (n3 : Int) (s4 : ByteArray) (b5 : Bool) : Option ByteArray :=
 oif b5 (
 oif (decide (0 ≤ ((IntKind.i64.wrap ((n3.tmod 16) + 1)) : Int))) (
 oif (decide (0 ≤ ((n3.tmod 16) : Int))) (
 oif (Nat.ble (((n3.tmod 16) : Int).toNat) (((IntKind.i64.wrap ((n3.tmod 16) + 1)) : Int).toNat) && Nat.ble (((IntKind.i64.wrap ((n3.tmod 16) + 1)) : Int).toNat) ((⟨#[48, 49, 50, 51, 52, 53, 54, 55, 56, 57, 97, 98, 99, 100, 101, 102]⟩ : ByteArray) : ByteArray).size) (
 oif (Nat.ble (((((⟨#[48, 49, 50, 51, 52, 53, 54, 55, 56, 57, 97, 98, 99, 100, 101, 102]⟩ : ByteArray) : ByteArray).extract (((n3.tmod 16) : Int).toNat) (((IntKind.i64.wrap ((n3.tmod 16) + 1)) : Int).toNat)) : ByteArray).size + (s4 : ByteArray).size) 9223372036854775807) (
 ag2 ((IntKind.i64.wrap (n3.tdiv 16)), (((((⟨#[48, 49, 50, 51, 52, 53, 54, 55, 56, 57, 97, 98, 99, 100, 101, 102]⟩ : ByteArray) : ByteArray).extract (((n3.tmod 16) : Int).toNat) (((IntKind.i64.wrap ((n3.tmod 16) + 1)) : Int).toNat)) : ByteArray) ++ (s4 : ByteArray)), (decide (((IntKind.i64.wrap (n3.tdiv 16)) : Int) > 0)))) none) none) none) none) (
 kx299_0_0 s4)
noncomputable def l299_0 (d : Nat)  (kx299_0_0 : ByteArray → Option ByteArray) (ag2 : (Int × ByteArray × Bool) → Option ByteArray) (s : (Int × ByteArray × Bool)) : Option ByteArray := l299_0_b d kx299_0_0 ag2 s.1 s.2.1 s.2.2
theorem e299 (d : Nat) (n1 : Int) : g299 (d + 1) n1 =
 iterP (l299_0 d (j299_0 d)) fuelN (n1, (⟨#[]⟩ : ByteArray), true) := by kernel_rfl

theorem e231 (d : Nat) (x1 : ((List Int) × Int × Int)) : g231 (d + 1) x1 =
 obind (g224 d x1) fun r2 =>
 obind (g177 d r2.2 8) fun r3 =>
 oif ((r3.1 : Int) == 0) (
 obind (g223 d r2.1 0) fun r4 =>
 obind (g295 d r4 65535) fun r5 =>
 obind (g299 d r5) fun r6 =>
 some (r6, r3.2)) (
 oif ((r3.1 : Int) == 1) (
 obind (g229 d r3.2 [(⟨#[]⟩ : ByteArray), (⟨#[107]⟩ : ByteArray), (⟨#[109]⟩ : ByteArray), (⟨#[48, 107]⟩ : ByteArray), (⟨#[48, 48]⟩ : ByteArray), (⟨#[48, 49]⟩ : ByteArray), (⟨#[48, 120]⟩ : ByteArray), (⟨#[48, 120, 48]⟩ : ByteArray), (⟨#[48, 120, 48, 48]⟩ : ByteArray), (⟨#[48, 120, 102, 102, 102, 102]⟩ : ByteArray), (⟨#[48, 120, 49, 48, 48, 48, 48]⟩ : ByteArray), (⟨#[48, 120, 70, 70]⟩ : ByteArray), (⟨#[49, 48, 48, 48, 48, 48, 48, 107]⟩ : ByteArray), (⟨#[49, 48, 48, 48, 48, 48, 49, 107]⟩ : ByteArray), (⟨#[49, 48, 48, 48, 109]⟩ : ByteArray), (⟨#[49, 48, 48, 49, 109]⟩ : ByteArray), (⟨#[49, 48, 48, 48, 48, 48, 48, 48, 48, 49]⟩ : ByteArray), (⟨#[57, 57, 57, 57, 57, 57, 57, 57, 57, 57, 57, 57, 57, 57, 57, 57, 57, 57, 57, 57]⟩ : ByteArray), (⟨#[49, 32, 107]⟩ : ByteArray), (⟨#[49, 75]⟩ : ByteArray)]) fun r7 =>
 some (r7.1, r7.2)) (
 oif ((r3.1 : Int) == 2) (
 obind (g223 d r2.1 0) fun r8 =>
 obind (g298 d r8) fun r9 =>
 obind (g247 d r3.2 r9 (⟨#[48, 107, 49, 109, 120, 102]⟩ : ByteArray)) fun r10 =>
 some (r10.1, r10.2)) (
 obind (g226 d r2.1) fun r11 =>
 oif (!r11) (
 obind (g223 d r2.1 0) fun r12 =>
 obind (g298 d r12) fun r13 =>
 some (r13, r3.2)) (
 obind (g230 d r2.1) fun r14 =>
 obind (g229 d r3.2 r14) fun r15 =>
 some (r15.1, r15.2))))) := by kernel_rfl

noncomputable def j86_0 (d : Nat) (r2 : (Int × ((List Int) × Int × Int))) (b3 : Bool) (l4 : List Int) (n5 : Int) (n6 : Int) : Option (ByteArray × ByteArray) :=
 oif b3 (
 obind (g230 d r2.1) fun r7 =>
 obind (g229 d (l4, n5, n6) r7) fun r8 =>
 obind (g230 d r2.1) fun r9 =>
 obind (g229 d r8.2 r9) fun r10 =>
 some (r8.1, r10.1)) (
 obind (g231 d (l4, n5, n6)) fun r11 =>
 obind (g231 d r11.2) fun r12 =>
 some (r11.1, r12.1))
theorem e86 (d : Nat) (l1 : List Int) : g86 (d + 1) l1 =
 obind (g224 d (l1, 0, 0)) fun r2 =>
 obind (g211 d r2.2 3) fun r3 =>
 oif r3.1 (
 obind (g226 d r2.1) fun r4 =>
 j86_0 d r2 r4 r3.2.1 r3.2.2.1 r3.2.2.2) (
 j86_0 d r2 false r3.2.1 r3.2.2.1 r3.2.2.2) := by kernel_rfl

theorem e251 (d : Nat) (n1 : Int) : g251 (d + 1) n1 =
 oif (decide ((n1 : Int) ≥ 48)) (
 some (decide ((n1 : Int) ≤ 57))) (
 some false) := by kernel_rfl

theorem e248 (d : Nat) (n1 : Int) : g248 (d + 1) n1 =
 obind (g251 d n1) fun r2 =>
 oif r2 (
 some (IntKind.i64.wrap (IntKind.u8.wrap (n1 - 48)))) (
 oif (decide ((n1 : Int) ≥ 97)) (
 oif (decide ((n1 : Int) ≤ 102)) (
 some (IntKind.i64.wrap ((IntKind.i64.wrap (IntKind.u8.wrap (n1 - 97))) + 10))) (
 some (-1))) (
 some (-1))) := by kernel_rfl

noncomputable def j300_0 (d : Nat)  (n4 : Int) (b5 : Bool) (n6 : Int) : Option (Int × Bool) :=
 some (n6, true)
noncomputable def l300_0_b (d : Nat) (s1 : ByteArray) (kx300_0_0 : Int → Bool → Int → Option (Int × Bool)) (ag3 : (Int × Bool × Int × Int) → Option (Int × Bool)) (n4 : Int) (b5 : Bool) (n6 : Int) (n7 : Int) : Option (Int × Bool) :=
 oif (decide ((n7 : Int) < ((s1 : ByteArray).size : Int))) (
 oif (decide (0 ≤ (n7 : Int))) (
 obind ((s1 : ByteArray).data.toList[(n7 : Int).toNat]?) fun c8 =>
 obind (g248 d (c8.toNat : Int)) fun r9 =>
 oif (decide ((r9 : Int) < 0)) (
 some (0, false)) (
 oif (decide (((IntKind.i64.wrap ((BitVec.ofInt IntKind.i64.bits (IntKind.i64.wrap (n6 * 2 ^ (min (4 : Int).toNat IntKind.i64.bits))) ||| BitVec.ofInt IntKind.i64.bits r9).toNat : Int)) : Int) > 65535)) (
 some (0, false)) (
 ag3 (n4, b5, (IntKind.i64.wrap ((BitVec.ofInt IntKind.i64.bits (IntKind.i64.wrap (n6 * 2 ^ (min (4 : Int).toNat IntKind.i64.bits))) ||| BitVec.ofInt IntKind.i64.bits r9).toNat : Int)), (IntKind.i64.wrap (n7 + 1)))))) none) (
 kx300_0_0 n4 b5 n6)
noncomputable def l300_0 (d : Nat) (s1 : ByteArray) (kx300_0_0 : Int → Bool → Int → Option (Int × Bool)) (ag3 : (Int × Bool × Int × Int) → Option (Int × Bool)) (s : (Int × Bool × Int × Int)) : Option (Int × Bool) := l300_0_b d s1 kx300_0_0 ag3 s.1 s.2.1 s.2.2.1 s.2.2.2
noncomputable def j300_1 (d : Nat) (s1 : ByteArray) (b2 : Bool) : Option (Int × Bool) :=
 oif b2 (
 some (0, false)) (
 iterP (l300_0 d s1 (j300_0 d)) fuelN (0, false, 0, 2))
theorem e300 (d : Nat) (s1 : ByteArray) : g300 (d + 1) s1 =
 oif (decide ((((s1 : ByteArray).size : Int) : Int) < 3)) (
 j300_1 d s1 true) (
 obind ((s1 : ByteArray).data.toList[0]?) fun c2 =>
 oif (((c2.toNat : Int) : Int) != 48) (
 j300_1 d s1 true) (
 obind ((s1 : ByteArray).data.toList[1]?) fun c3 =>
 oif (((c3.toNat : Int) : Int) != 120) (
 j300_1 d s1 true) (
 obind ((s1 : ByteArray).data.toList[2]?) fun c4 =>
 oif (((c4.toNat : Int) : Int) == 48) (
 j300_1 d s1 (decide ((((s1 : ByteArray).size : Int) : Int) > 3))) (
 j300_1 d s1 false)))) := by kernel_rfl

noncomputable def j301_0 (d : Nat) (n2 : Int) (n6 : Int) (b7 : Bool) (n8 : Int) : Option (Int × Bool) :=
 some ((IntKind.i64.wrap (n8 * n2)), true)
noncomputable def l301_0_b (d : Nat) (n2 : Int) (s3 : ByteArray) (kx301_0_0 : Int → Bool → Int → Option (Int × Bool)) (ag5 : (Int × Bool × Int × Int) → Option (Int × Bool)) (n6 : Int) (b7 : Bool) (n8 : Int) (n9 : Int) : Option (Int × Bool) :=
 oif (decide ((n9 : Int) < ((s3 : ByteArray).size : Int))) (
 oif (decide (0 ≤ (n9 : Int))) (
 obind ((s3 : ByteArray).data.toList[(n9 : Int).toNat]?) fun c10 =>
 obind (g251 d (c10.toNat : Int)) fun r11 =>
 oif (!r11) (
 some (0, false)) (
 oif (decide (0 ≤ (n9 : Int))) (
 obind ((s3 : ByteArray).data.toList[(n9 : Int).toNat]?) fun c12 =>
 oif (decide (((IntKind.i64.wrap ((IntKind.i64.wrap ((IntKind.i64.wrap ((10 : Int) * n8)) + (IntKind.i64.wrap (IntKind.u8.wrap ((c12.toNat : Int) - 48))))) * n2)) : Int) > 1000000000)) (
 some (0, false)) (
 ag5 (n6, b7, (IntKind.i64.wrap ((IntKind.i64.wrap ((10 : Int) * n8)) + (IntKind.i64.wrap (IntKind.u8.wrap ((c12.toNat : Int) - 48))))), (IntKind.i64.wrap (n9 + 1))))) none)) none) (
 kx301_0_0 n6 b7 n8)
noncomputable def l301_0 (d : Nat) (n2 : Int) (s3 : ByteArray) (kx301_0_0 : Int → Bool → Int → Option (Int × Bool)) (ag5 : (Int × Bool × Int × Int) → Option (Int × Bool)) (s : (Int × Bool × Int × Int)) : Option (Int × Bool) := l301_0_b d n2 s3 kx301_0_0 ag5 s.1 s.2.1 s.2.2.1 s.2.2.2
noncomputable def j301_1 (d : Nat) (n2 : Int) (s3 : ByteArray) (b4 : Bool) : Option (Int × Bool) :=
 oif b4 (
 some (0, false)) (
 iterP (l301_0 d n2 s3 (j301_0 d n2)) fuelN (0, false, 0, 0))
noncomputable def j301_2 (d : Nat) (s1 : ByteArray) (n2 : Int) (s3 : ByteArray) : Option (Int × Bool) :=
 oif ((s3 : ByteArray).toList == ((⟨#[]⟩ : ByteArray) : ByteArray).toList) (
 j301_1 d n2 s3 true) (
 obind ((s3 : ByteArray).data.toList[0]?) fun c4 =>
 oif (((c4.toNat : Int) : Int) == 48) (
 j301_1 d n2 s3 (!((s1 : ByteArray).toList == ((⟨#[48]⟩ : ByteArray) : ByteArray).toList))) (
 j301_1 d n2 s3 false))
theorem e301 (d : Nat) (s1 : ByteArray) : g301 (d + 1) s1 =
 oif (decide ((((s1 : ByteArray).size : Int) : Int) > 0)) (
 oif (decide (0 ≤ ((IntKind.i64.wrap (((s1 : ByteArray).size : Int) - 1)) : Int))) (
 obind ((s1 : ByteArray).data.toList[((IntKind.i64.wrap (((s1 : ByteArray).size : Int) - 1)) : Int).toNat]?) fun c2 =>
 oif (((c2.toNat : Int) : Int) == 107) (
 oif (decide (0 ≤ ((IntKind.i64.wrap (((s1 : ByteArray).size : Int) - 1)) : Int))) (
 oif (Nat.ble 0 (((IntKind.i64.wrap (((s1 : ByteArray).size : Int) - 1)) : Int).toNat) && Nat.ble (((IntKind.i64.wrap (((s1 : ByteArray).size : Int) - 1)) : Int).toNat) (s1 : ByteArray).size) (
 j301_2 d s1 1000 ((s1 : ByteArray).extract 0 (((IntKind.i64.wrap (((s1 : ByteArray).size : Int) - 1)) : Int).toNat))) none) none) (
 oif (((c2.toNat : Int) : Int) == 109) (
 oif (decide (0 ≤ ((IntKind.i64.wrap (((s1 : ByteArray).size : Int) - 1)) : Int))) (
 oif (Nat.ble 0 (((IntKind.i64.wrap (((s1 : ByteArray).size : Int) - 1)) : Int).toNat) && Nat.ble (((IntKind.i64.wrap (((s1 : ByteArray).size : Int) - 1)) : Int).toNat) (s1 : ByteArray).size) (
 j301_2 d s1 1000000 ((s1 : ByteArray).extract 0 (((IntKind.i64.wrap (((s1 : ByteArray).size : Int) - 1)) : Int).toNat))) none) none) (
 j301_2 d s1 1 s1))) none) (
 j301_2 d s1 1 s1) := by kernel_rfl

theorem e232 (d : Nat) (s1 : ByteArray) : g232 (d + 1) s1 =
 oif (decide ((((s1 : ByteArray).size : Int) : Int) ≥ 2)) (
 oif (Nat.ble 0 2 && Nat.ble 2 (s1 : ByteArray).size) (
 oif ((((s1 : ByteArray).extract 0 2) : ByteArray).toList == ((⟨#[48, 120]⟩ : ByteArray) : ByteArray).toList) (
 obind (g300 d s1) fun r2 =>
 some (r2.1, r2.2)) (
 obind (g301 d s1) fun r3 =>
 some (r3.1, r3.2))) none) (
 obind (g301 d s1) fun r4 =>
 some (r4.1, r4.2)) := by kernel_rfl

theorem e87 (d : Nat) (s1 : ByteArray) (s2 : ByteArray) : g87 (d + 1) s1 s2 =
 obind (g232 d s1) fun r3 =>
 obind (g232 d s2) fun r4 =>
 oif (!r3.2) (
 some (0, false)) (
 oif (!r4.2) (
 some (0, false)) (
 oif (decide ((r3.1 : Int) < r4.1)) (
 some ((-1), true)) (
 oif (decide ((r3.1 : Int) > r4.1)) (
 some (1, true)) (
 some (0, true))))) := by kernel_rfl

theorem e213 (d : Nat) (n1 : Int) : g213 (d + 1) n1 =
 oif (decide ((n1 : Int) > 0)) (
 some 1) (
 oif (decide ((n1 : Int) < 0)) (
 some (-1)) (
 some 0)) := by kernel_rfl

theorem e302 (d : Nat) (s1 : ByteArray) : g302 (d + 1) s1 =
 oif (decide ((((s1 : ByteArray).size : Int) : Int) ≥ 2)) (
 oif (Nat.ble 0 2 && Nat.ble 2 (s1 : ByteArray).size) (
 some ((((s1 : ByteArray).extract 0 2) : ByteArray).toList == ((⟨#[48, 120]⟩ : ByteArray) : ByteArray).toList)) none) (
 some false) := by kernel_rfl

noncomputable def j319_0 (d : Nat) (n3 : Int) (n6 : Int) (n7 : Int) : Option Int :=
 oif (decide ((n7 : Int) > n3)) (
 some (-1)) (
 some n7)
noncomputable def j319_1 (d : Nat) (n2 : Int) (n3 : Int) (ag5 : (Int × Int × Int) → Option Int) (n6 : Int) (n7 : Int) (n8 : Int) (n9 : Int) (b10 : Bool) (n11 : Int) (b12 : Bool) (b13 : Bool) (b14 : Bool) : Option Int :=
 oif (decide ((n9 : Int) ≥ n2)) (
 some (-1)) (
 oif (decide ((n7 : Int) > n3)) (
 some (-1)) (
 ag5 (n6, (IntKind.i64.wrap ((IntKind.i64.wrap (n7 * n2)) + n9)), (IntKind.i64.wrap (n8 + 1)))))
noncomputable def j319_2 (d : Nat) (s1 : ByteArray) (n2 : Int) (n3 : Int) (ag5 : (Int × Int × Int) → Option Int) (n6 : Int) (n7 : Int) (n8 : Int) (n10 : Int) (b11 : Bool) (b12 : Bool) (b13 : Bool) (b15 : Bool) (n16 : Int) (b17 : Bool) (b18 : Bool) (b19 : Bool) : Option Int :=
 oif b15 (
 oif (decide (0 ≤ (n8 : Int))) (
 obind ((s1 : ByteArray).data.toList[(n8 : Int).toNat]?) fun c20 =>
 j319_1 d n2 n3 ag5 n6 n7 n8 (IntKind.i64.wrap ((IntKind.i64.wrap ((IntKind.i64.wrap (c20.toNat : Int)) - 97)) + 10)) false n10 b11 b12 b13) none) (
 j319_1 d n2 n3 ag5 n6 n7 n8 99 false n10 b11 b12 b13)
noncomputable def j319_3 (d : Nat) (s1 : ByteArray) (n2 : Int) (n3 : Int) (ag5 : (Int × Int × Int) → Option Int) (n6 : Int) (n7 : Int) (n8 : Int) (b9 : Bool) (n10 : Int) (b11 : Bool) (b12 : Bool) (b13 : Bool) : Option Int :=
 oif b9 (
 oif (decide (0 ≤ (n8 : Int))) (
 obind ((s1 : ByteArray).data.toList[(n8 : Int).toNat]?) fun c14 =>
 j319_1 d n2 n3 ag5 n6 n7 n8 (IntKind.i64.wrap ((IntKind.i64.wrap (c14.toNat : Int)) - 48)) true n10 b11 b12 b13) none) (
 oif (decide (0 ≤ (n8 : Int))) (
 obind ((s1 : ByteArray).data.toList[(n8 : Int).toNat]?) fun c15 =>
 oif (decide (((c15.toNat : Int) : Int) ≥ 97)) (
 oif (decide (0 ≤ (n8 : Int))) (
 obind ((s1 : ByteArray).data.toList[(n8 : Int).toNat]?) fun c16 =>
 j319_2 d s1 n2 n3 ag5 n6 n7 n8 n10 b11 b12 b13 (decide (((c16.toNat : Int) : Int) ≤ 102)) (c15.toNat : Int) (decide (((c15.toNat : Int) : Int) ≥ 97)) true (decide (((c16.toNat : Int) : Int) ≤ 102))) none) (
 j319_2 d s1 n2 n3 ag5 n6 n7 n8 n10 b11 b12 b13 false (c15.toNat : Int) (decide (((c15.toNat : Int) : Int) ≥ 97)) false false)) none)
noncomputable def l319_0_b (d : Nat) (s1 : ByteArray) (n2 : Int) (n3 : Int) (kx319_0_0 : Int → Int → Option Int) (ag5 : (Int × Int × Int) → Option Int) (n6 : Int) (n7 : Int) (n8 : Int) : Option Int :=
 oif (decide ((n8 : Int) < ((s1 : ByteArray).size : Int))) (
 oif (decide (0 ≤ (n8 : Int))) (
 obind ((s1 : ByteArray).data.toList[(n8 : Int).toNat]?) fun c9 =>
 oif (decide (((c9.toNat : Int) : Int) ≥ 48)) (
 oif (decide (0 ≤ (n8 : Int))) (
 obind ((s1 : ByteArray).data.toList[(n8 : Int).toNat]?) fun c10 =>
 j319_3 d s1 n2 n3 ag5 n6 n7 n8 (decide (((c10.toNat : Int) : Int) ≤ 57)) (c9.toNat : Int) (decide (((c9.toNat : Int) : Int) ≥ 48)) true (decide (((c10.toNat : Int) : Int) ≤ 57))) none) (
 j319_3 d s1 n2 n3 ag5 n6 n7 n8 false (c9.toNat : Int) (decide (((c9.toNat : Int) : Int) ≥ 48)) false false)) none) (
 kx319_0_0 n6 n7)
noncomputable def l319_0 (d : Nat) (s1 : ByteArray) (n2 : Int) (n3 : Int) (kx319_0_0 : Int → Int → Option Int) (ag5 : (Int × Int × Int) → Option Int) (s : (Int × Int × Int)) : Option Int := l319_0_b d s1 n2 n3 kx319_0_0 ag5 s.1 s.2.1 s.2.2
noncomputable def j319_4 (d : Nat) (s1 : ByteArray) (n2 : Int) (n3 : Int) (b4 : Bool) : Option Int :=
 oif b4 (
 some (-1)) (
 iterP (l319_0 d s1 n2 n3 (j319_0 d n3)) fuelN (0, 0, 0))
theorem e319 (d : Nat) (s1 : ByteArray) (n2 : Int) (n3 : Int) : g319 (d + 1) s1 n2 n3 =
 oif ((s1 : ByteArray).toList == ((⟨#[]⟩ : ByteArray) : ByteArray).toList) (
 j319_4 d s1 n2 n3 true) (
 obind ((s1 : ByteArray).data.toList[0]?) fun c4 =>
 oif (((c4.toNat : Int) : Int) == 48) (
 j319_4 d s1 n2 n3 (decide ((((s1 : ByteArray).size : Int) : Int) > 1))) (
 j319_4 d s1 n2 n3 false)) := by kernel_rfl

theorem e303 (d : Nat) (s1 : ByteArray) : g303 (d + 1) s1 =
 obind (g302 d s1) fun r2 =>
 oif (!r2) (
 some (-1)) (
 oif (Nat.ble 2 ((s1 : ByteArray).size) && Nat.ble ((s1 : ByteArray).size) (s1 : ByteArray).size) (
 obind (g319 d ((s1 : ByteArray).extract 2 ((s1 : ByteArray).size)) 16 65535) fun r3 =>
 some r3) none) := by kernel_rfl

noncomputable def j304_0 (d : Nat) (s1 : ByteArray) (n4 : Int) : Option Int :=
 obind (g319 d s1 10 1000000000) fun r5 =>
 some r5
noncomputable def j304_1 (d : Nat) (s1 : ByteArray) (ag3 : (Int × Int) → Option Int) (n4 : Int) (n5 : Int) (b7 : Bool) (b8 : Bool) (b9 : Bool) (b10 : Bool) : Option Int :=
 oif b10 (
 oif (decide (0 ≤ ((IntKind.i64.wrap (((s1 : ByteArray).size : Int) - 1)) : Int))) (
 oif (Nat.ble 0 (((IntKind.i64.wrap (((s1 : ByteArray).size : Int) - 1)) : Int).toNat) && Nat.ble (((IntKind.i64.wrap (((s1 : ByteArray).size : Int) - 1)) : Int).toNat) (s1 : ByteArray).size) (
 obind (g297 d n5) fun r11 =>
 oif ((r11 : Int) == 0) none (
 obind (g319 d ((s1 : ByteArray).extract 0 (((IntKind.i64.wrap (((s1 : ByteArray).size : Int) - 1)) : Int).toNat)) 10 (IntKind.i64.wrap ((1000000000 : Int).tdiv r11))) fun r12 =>
 oif (decide ((r12 : Int) ≤ 0)) (
 some (-1)) (
 obind (g297 d n5) fun r13 =>
 some (IntKind.i64.wrap (r12 * r13))))) none) none) (
 ag3 (n4, (IntKind.i64.wrap (n5 + 1))))
noncomputable def l304_0_b (d : Nat) (s1 : ByteArray) (r2 : List ByteArray) (kx304_0_0 : Int → Option Int) (ag3 : (Int × Int) → Option Int) (n4 : Int) (n5 : Int) : Option Int :=
 oif (decide ((n5 : Int) < ((r2.length : Nat) : Int))) (
 oif (decide (0 ≤ (n5 : Int))) (
 oif (Nat.blt ((n5 : Int).toNat) r2.length) (
 obind (r2[(n5 : Int).toNat]?) fun s6 =>
 oif (!((s6 : ByteArray).toList == ((⟨#[]⟩ : ByteArray) : ByteArray).toList)) (
 oif (decide ((((s1 : ByteArray).size : Int) : Int) > 0)) (
 oif (decide (0 ≤ ((IntKind.i64.wrap (((s1 : ByteArray).size : Int) - 1)) : Int))) (
 oif (Nat.ble (((IntKind.i64.wrap (((s1 : ByteArray).size : Int) - 1)) : Int).toNat) ((s1 : ByteArray).size) && Nat.ble ((s1 : ByteArray).size) (s1 : ByteArray).size) (
 j304_1 d s1 ag3 n4 n5 true (decide ((((s1 : ByteArray).size : Int) : Int) > 0)) true ((((s1 : ByteArray).extract (((IntKind.i64.wrap (((s1 : ByteArray).size : Int) - 1)) : Int).toNat) ((s1 : ByteArray).size)) : ByteArray).toList == (s6 : ByteArray).toList)) none) none) (
 j304_1 d s1 ag3 n4 n5 true (decide ((((s1 : ByteArray).size : Int) : Int) > 0)) false false)) (
 j304_1 d s1 ag3 n4 n5 false false false false)) none) none) (
 kx304_0_0 n4)
noncomputable def l304_0 (d : Nat) (s1 : ByteArray) (r2 : List ByteArray) (kx304_0_0 : Int → Option Int) (ag3 : (Int × Int) → Option Int) (s : (Int × Int)) : Option Int := l304_0_b d s1 r2 kx304_0_0 ag3 s.1 s.2
theorem e304 (d : Nat) (s1 : ByteArray) : g304 (d + 1) s1 =
 obind (g296 d) fun r2 =>
 iterP (l304_0 d s1 r2 (j304_0 d s1)) fuelN (0, 0) := by kernel_rfl

theorem e233 (d : Nat) (s1 : ByteArray) : g233 (d + 1) s1 =
 obind (g302 d s1) fun r2 =>
 oif r2 (
 obind (g303 d s1) fun r3 =>
 some r3) (
 obind (g304 d s1) fun r4 =>
 some r4) := by kernel_rfl

theorem e88 (d : Nat) (s1 : ByteArray) (s2 : ByteArray) : g88 (d + 1) s1 s2 =
 obind (g233 d s1) fun r3 =>
 obind (g233 d s2) fun r4 =>
 oif (decide ((r3 : Int) < 0)) (
 some (0, false)) (
 oif (decide ((r4 : Int) < 0)) (
 some (0, false)) (
 obind (g213 d (IntKind.i64.wrap (r3 - r4))) fun r5 =>
 some (r5, true))) := by kernel_rfl

noncomputable def j7_0 (d : Nat) (l2 : List Int) (b15 : Bool) : Option Bool :=
 oif b15 (
 some false) (
 obind (g86 d l2) fun r16 =>
 obind (g87 d r16.1 r16.2) fun r17 =>
 obind (g88 d r16.1 r16.2) fun r18 =>
 obind (g87 d r16.2 r16.1) fun r19 =>
 oif (r17.2 == r18.2) (
 oif ((r17.1 : Int) == r18.1) (
 oif (r19.2 == r17.2) (
 some ((r19.1 : Int) == (IntKind.i64.wrap (0 - r18.1)))) (
 some false)) (
 some false)) (
 some false))
noncomputable def j7_1 (d : Nat) (l2 : List Int) (b11 : Bool) : Option Bool :=
 oif b11 (
 some false) (
 obind (g83 d l2) fun r12 =>
 obind (g84 d r12.1 r12.2) fun r13 =>
 obind (g85 d r12.1 r12.2) fun r14 =>
 oif (!(r13.2 == r14.2)) (
 j7_0 d l2 true) (
 oif ((r13.1 : Int) != r14.1) (
 j7_0 d l2 true) (
 oif r13.2 (
 j7_0 d l2 ((r13.1 : Int) != (IntKind.i64.wrap (r12.1 * r12.2)))) (
 j7_0 d l2 false))))
noncomputable def j7_2 (d : Nat) (l2 : List Int)  : Option Bool :=
 obind (g80 d l2) fun r8 =>
 obind (g81 d r8) fun r9 =>
 obind (g82 d r8) fun r10 =>
 oif (!(r9.2 == r10.2)) (
 j7_1 d l2 true) (
 oif ((r9.1 : Int) != r10.1) (
 j7_1 d l2 true) (
 oif r9.2 (
 obind (g20 d r8) fun r11 =>
 j7_1 d l2 ((r9.1 : Int) != r11)) (
 j7_1 d l2 false)))
noncomputable def j7_3 (d : Nat) (l2 : List Int) (r4 : (Int × Int × Int × Bool)) (r5 : (Int × Bool)) (r6 : (Int × Bool)) (b7 : Bool) : Option Bool :=
 oif b7 (
 some false) (
 oif r5.2 (
 oif r4.2.2.2 (
 oif (decide (((IntKind.i64.wrap ((IntKind.i64.wrap (r6.1 * r4.2.2.1)) - (IntKind.i64.wrap (r4.1 * r4.2.1)))) : Int) < 0)) (
 some false) (
 oif (decide (((IntKind.i64.wrap ((IntKind.i64.wrap (r6.1 * r4.2.2.1)) - (IntKind.i64.wrap (r4.1 * r4.2.1)))) : Int) ≥ r4.2.2.1)) (
 some false) (
 oif (!r4.2.2.2) (
 oif (decide (((IntKind.i64.wrap ((IntKind.i64.wrap (r6.1 * r4.2.2.1)) - (IntKind.i64.wrap (r4.1 * r4.2.1)))) : Int) > 0)) (
 some false) (
 oif (decide (((IntKind.i64.wrap ((IntKind.i64.wrap (r6.1 * r4.2.2.1)) - (IntKind.i64.wrap (r4.1 * r4.2.1)))) : Int) ≤ (IntKind.i64.wrap (0 - r4.2.2.1)))) (
 some false) (
 j7_2 d l2))) (
 j7_2 d l2)))) (
 oif (!r4.2.2.2) (
 oif (decide (((IntKind.i64.wrap ((IntKind.i64.wrap (r6.1 * r4.2.2.1)) - (IntKind.i64.wrap (r4.1 * r4.2.1)))) : Int) > 0)) (
 some false) (
 oif (decide (((IntKind.i64.wrap ((IntKind.i64.wrap (r6.1 * r4.2.2.1)) - (IntKind.i64.wrap (r4.1 * r4.2.1)))) : Int) ≤ (IntKind.i64.wrap (0 - r4.2.2.1)))) (
 some false) (
 j7_2 d l2))) (
 j7_2 d l2))) (
 j7_2 d l2))
theorem e7 (d : Nat) (l1 : List Int) (l2 : List Int) : g7 (d + 1) l1 l2 =
 obind (g12 d l1 l2) fun r3 =>
 oif r3 (
 some true) (
 obind (g77 d l1) fun r4 =>
 obind (g78 d r4.1 r4.2.1 r4.2.2.1 r4.2.2.2) fun r5 =>
 obind (g79 d r4.1 r4.2.1 r4.2.2.1 r4.2.2.2) fun r6 =>
 oif (!(r5.2 == r6.2)) (
 j7_3 d l2 r4 r5 r6 true) (
 j7_3 d l2 r4 r5 r6 ((r5.1 : Int) != r6.1))) := by kernel_rfl

end Go.Proofs.Ytmjhgkmiafemfaa
